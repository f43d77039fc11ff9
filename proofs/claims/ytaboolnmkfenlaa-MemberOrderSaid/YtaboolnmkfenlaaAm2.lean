/- The state of the machine AM, and how it stands to an activation and a world of the model. -/
import Derived.Test.YtaboolnmkfenlaaAm1
namespace Go.Am
set_option linter.unusedVariables false

inductive Blk where
  | box (x : AV)
  | vec (k : Nat) (es : List AV)
  | row (k : Nat) (es : List AV) (len cap : Nat)
  deriving Inhabited

abbrev Hp := Nat → Option Blk

def upd {α : Type} (f : Nat → α) (t : Nat) (v : α) : Nat → α := fun x => if x = t then v else f x
theorem upd_same {α : Type} (f : Nat → α) (t : Nat) (v : α) : upd f t v t = v := by simp [upd]
theorem upd_ne {α : Type} (f : Nat → α) {t x : Nat} (v : α) (h : x ≠ t) : upd f t v x = f x := by simp [upd, h]

def BlkOk (w : World) (A : Nat → Prop) (μ : Mu) (hd : Hd) : Blk → Prop
  | .box x => hd.emp = none ∧ x.solid = true ∧ ∃ v ty, RV w A x μ v ∧ w.heap[hd.blk]? = some (.cells v.cells ty (0, 0))
  | .vec k es => hd.k = k ∧ ((es = [] ∧ hd.emp.isSome = true) ∨
      (hd.emp = none ∧ hd.len = es.length ∧ hd.len ≤ hd.cap ∧ hd.cap ≤ maxLen ∧ ∃ C ty vs, w.heap[hd.blk]? = some (.cells C ty (0, 0)) ∧ RVL w A es μ vs ∧
        (∀ x ∈ es, x.solid = true) ∧ (∀ v ∈ vs, v.cells.size = k) ∧ C.size = hd.cap * k ∧ C.toList.take (hd.len * k) = vs.flatMap (·.cells.toList)))
  | .row k es len cap => hd.k = k ∧ hd.emp = none ∧ hd.len = len ∧ hd.cap = cap ∧ es.length ≤ len ∧ len ≤ cap ∧ cap ≤ maxLen ∧ ∃ C ty vs, w.heap[hd.blk]? = some (.cells C ty (0, 0)) ∧ RVL w A es μ vs ∧
      (∀ x ∈ es, x.solid = true) ∧ (∀ v ∈ vs, v.cells.size = k) ∧ C.size = cap * k ∧ C.toList.take (es.length * k) = vs.flatMap (·.cells.toList)

theorem BlkOk.mono {w w' : World} {A A' : Nat → Prop} {μ μ' : Mu} {hd : Hd} {x : Blk} (hs : Same A w w') (hA : ∀ b, A b → A' b) (hμ : MuLe μ μ')
    (hb : hd.emp = none → w'.heap[hd.blk]? = w.heap[hd.blk]?) (h : BlkOk w A μ hd x) : BlkOk w' A' μ' hd x := by
  cases x with
  | box x =>
    obtain ⟨h1, h2, v, ty, h3, h4⟩ := h
    exact ⟨h1, h2, v, ty, h3.mono hs hA x hμ, by rw [hb h1]; exact h4⟩
  | vec k es =>
    obtain ⟨h0, h⟩ := h
    refine ⟨h0, ?_⟩
    rcases h with h | ⟨h1, h2, h3, h4, C, ty, vs, h5, h6, h7⟩
    · exact .inl h
    · exact .inr ⟨h1, h2, h3, h4, C, ty, vs, by rw [hb h1]; exact h5, RVL.mono hs hA es hμ h6, h7⟩
  | row k es len cap =>
    obtain ⟨h0, h1, h2, h3, h4, h4', h4'', C, ty, vs, h5, h6, h7⟩ := h
    exact ⟨h0, h1, h2, h3, h4, h4', h4'', C, ty, vs, by rw [hb h1]; exact h5, RVL.mono hs hA es hμ h6, h7⟩

structure Ctx where
  w : World
  own : Nat → Prop
  A : Nat → Prop
  mu : Mu

structure Keep (c : Ctx) (w : World) : Prop where
  os : w.os = c.w.os
  tape : w.tape = c.w.tape
  output : w.output = c.w.output
  size : c.w.heap.size ≤ w.heap.size
  block : ∀ k, k < c.w.heap.size → ¬ c.own k → w.heap[k]? = c.w.heap[k]?

structure RelE (c : Ctx) (A : Nat → Prop) (μ : Mu) (fr : Nat → Prop) (tm : Nat → AV) (hp : Hp) (n : Nat) (a : Act) (w : World) : Prop where
  tm : ∀ t, RV w A (tm t) μ (a.tmps.getD t undef)
  n : a.tmps.size = n
  df : a.defers = []
  blk : ∀ b x, hp b = some x → ∃ hd, μ b = some hd ∧ BlkOk w A μ hd x ∧ (hd.emp = none → ¬ A hd.blk ∧ hd.blk < w.heap.size ∧ (c.own hd.blk ∨ c.w.heap.size ≤ hd.blk))
  inj : ∀ b b' x x' hd hd', hp b = some x → hp b' = some x' → μ b = some hd → μ b' = some hd' → hd.emp = none → hd'.emp = none → hd.blk = hd'.blk → b = b'
  lt : ∀ b, A b → b < w.heap.size
  fr : ∀ b, fr b → μ b = none ∧ hp b = none
  keep : Keep c w
  A0 : ∀ b, c.A b → A b
  A1 : ∀ b, A b → c.A b ∨ c.own b ∨ c.w.heap.size ≤ b
  mu : MuLe c.mu μ

/-- The world moves on: what is not the removed block stays; new blocks may be read-only ('nA'). -/
theorem RelE.step {c : Ctx} {A : Nat → Prop} {μ : Mu} {fr : Nat → Prop} {tm : Nat → AV} {hp : Hp} {n : Nat} {a : Act} {w w' : World}
    (h : RelE c A μ fr tm hp n a w) (hos : w'.os = w.os) (htape : w'.tape = w.tape) (hout : w'.output = w.output) (hsize : w.heap.size ≤ w'.heap.size)
    (hp' : Hp) (hsub : ∀ b x, hp' b = some x → hp b = some x)
    (hkeep : ∀ k, k < w.heap.size → (∀ b x hd, hp b = some x → hp' b = none → μ b = some hd → hd.emp = none → k ≠ hd.blk) → w'.heap[k]? = w.heap[k]?)
    (nA : Nat → Prop) (hnA : ∀ b, nA b → w.heap.size ≤ b ∧ b < w'.heap.size) :
    RelE c (fun b => A b ∨ nA b) μ fr tm hp' n a w' ∧ Same A w w' := by
  have hA : Same A w w' := by
    intro b hb
    refine hkeep b (h.lt b hb) fun b' x hd h1 _ h3 h4 e => ?_
    obtain ⟨hd', e1, _, e3⟩ := h.blk b' x h1
    rw [h3] at e1; cases e1
    exact (e3 h4).1 (e ▸ hb)
  have hle : ∀ b, A b → (A b ∨ nA b) := fun b hb => .inl hb
  refine ⟨⟨fun t => (h.tm t).mono hA hle _ (MuLe.refl _), h.n, h.df, ?_, ?_, ?_, ?_, ?_, fun b hb => .inl (h.A0 b hb), ?_, h.mu⟩, hA⟩
  · intro b x hx
    obtain ⟨hd, e1, e2, e3⟩ := h.blk b x (hsub b x hx)
    refine ⟨hd, e1, e2.mono hA hle (MuLe.refl _) ?_, ?_⟩
    · intro he
      refine hkeep _ (e3 he).2.1 fun b' x' hd' h1 h2 h3 h4 e => ?_
      have := h.inj b b' x x' hd hd' (hsub b x hx) h1 e1 h3 he h4 e
      subst this
      rw [hx] at h2; cases h2
    · intro he
      obtain ⟨f1, f2, f3⟩ := e3 he
      refine ⟨?_, by omega, f3⟩
      rintro (g | g)
      · exact f1 g
      · have := (hnA _ g).1; omega
  · intro b b' x x' hd hd' h1 h2
    exact h.inj b b' x x' hd hd' (hsub _ _ h1) (hsub _ _ h2)
  · rintro b (hb | hb)
    · exact Nat.lt_of_lt_of_le (h.lt b hb) hsize
    · exact (hnA b hb).2
  · intro b hb
    obtain ⟨h1, h2⟩ := h.fr b hb
    refine ⟨h1, ?_⟩
    cases e : hp' b with
    | none => rfl
    | some x => have := hsub b x e; rw [h2] at this; cases this
  · refine ⟨hos.trans h.keep.os, htape.trans h.keep.tape, hout.trans h.keep.output, Nat.le_trans h.keep.size hsize, fun k hk ho => ?_⟩
    rw [← h.keep.block k hk ho]
    refine hkeep k (Nat.lt_of_lt_of_le hk h.keep.size) fun b x hd h1 _ h3 h4 e => ?_
    obtain ⟨hd', e1, _, e3⟩ := h.blk b x h1
    rw [h3] at e1; cases e1
    rcases (e3 h4).2.2 with g | g
    · exact ho (e ▸ g)
    · omega
  · rintro b (hb | hb)
    · exact h.A1 b hb
    · exact .inr (.inr (Nat.le_trans h.keep.size (hnA b hb).1))

/-- A block is laid under a name that no block bears. -/
theorem RelE.add {c : Ctx} {A : Nat → Prop} {μ : Mu} {fr : Nat → Prop} {tm : Nat → AV} {hp : Hp} {n : Nat} {a : Act} {w : World}
    (h : RelE c A μ fr tm hp n a w) (f : Nat) (hf : hp f = none) (μ' : Mu) (hμ : MuLe μ μ') (hne : ∀ b, b ≠ f → μ' b = μ b) (hd : Hd) (hμf : μ' f = some hd) (x : Blk)
    (hok : BlkOk w A μ' hd x) (hb : hd.emp = none → ¬ A hd.blk ∧ hd.blk < w.heap.size ∧ (c.own hd.blk ∨ c.w.heap.size ≤ hd.blk))
    (hi : ∀ b x' hd', hp b = some x' → μ b = some hd' → hd'.emp = none → hd.emp = none → hd'.blk ≠ hd.blk) :
    RelE c A μ' (fun b => fr b ∧ b ≠ f) tm (upd hp f (some x)) n a w := by
  have hsame : Same A w w := fun _ _ => rfl
  refine ⟨fun t => (h.tm t).mono hsame (fun _ h => h) _ hμ, h.n, h.df, ?_, ?_, h.lt, ?_, h.keep, h.A0, h.A1, h.mu.trans hμ⟩
  · intro b y hy
    by_cases e : b = f
    · subst e; rw [upd_same] at hy; cases hy
      exact ⟨hd, hμf, hok, hb⟩
    · rw [upd_ne _ _ e] at hy
      obtain ⟨hd', e1, e2, e3⟩ := h.blk b y hy
      exact ⟨hd', hμ _ _ e1, e2.mono hsame (fun _ h => h) hμ (fun _ => rfl), e3⟩
  · intro b b' y y' g g' h1 h2 h3 h4 h5 h6 h7
    by_cases e : b = f
    · by_cases e' : b' = f
      · rw [e, e']
      · subst e
        rw [upd_ne _ _ e'] at h2; rw [hμf] at h3; cases h3
        rw [hne _ e'] at h4
        exact absurd h7.symm (hi b' y' g' h2 h4 h6 h5)
    · by_cases e' : b' = f
      · subst e'
        rw [upd_ne _ _ e] at h1; rw [hμf] at h4; cases h4
        rw [hne _ e] at h3
        exact absurd h7 (hi b y g h1 h3 h5 h6)
      · rw [upd_ne _ _ e] at h1; rw [upd_ne _ _ e'] at h2; rw [hne _ e] at h3; rw [hne _ e'] at h4
        exact h.inj b b' y y' g g' h1 h2 h3 h4 h5 h6 h7
  · rintro b ⟨hb1, hb2⟩
    rw [hne _ hb2, upd_ne _ _ hb2]
    exact h.fr b hb1

theorem RelE.free {c : Ctx} {A : Nat → Prop} {μ : Mu} {fr fr' : Nat → Prop} {tm : Nat → AV} {hp : Hp} {n : Nat} {a : Act} {w : World}
    (h : RelE c A μ fr tm hp n a w) (hf : ∀ b, fr' b → fr b) : RelE c A μ fr' tm hp n a w :=
  ⟨h.tm, h.n, h.df, h.blk, h.inj, h.lt, fun b hb => h.fr b (hf b hb), h.keep, h.A0, h.A1, h.mu⟩

def putD (d : Option Nat) (v : AV) (tm : Nat → AV) : Nat → AV := match d with | some t => upd tm t v | none => tm

theorem RelE.put {c : Ctx} {A : Nat → Prop} {μ : Mu} {fr : Nat → Prop} {tm : Nat → AV} {hp : Hp} {n : Nat} {a : Act} {w : World}
    (h : RelE c A μ fr tm hp n a w) (d : Option Nat) (hd : ∀ t, d = some t → t < n) {v : AV} {cv : Value} (hv : RV w A v μ cv) :
    RelE c A μ fr (putD d v tm) hp n (a.put d cv) w := by
  unfold putD
  cases d with
  | none => exact h
  | some d =>
    have hd' := hd d rfl
    refine ⟨fun t => ?_, by simp [Act.put, h.n], h.df, h.blk, h.inj, h.lt, h.fr, h.keep, h.A0, h.A1, h.mu⟩
    by_cases e : t = d
    · subst e
      have : t < a.tmps.size := by rw [h.n]; exact hd'
      simpa [upd_same, Act.put, this] using hv
    · simp only [upd_ne _ _ e, Act.put]
      have : (a.tmps.setIfInBounds d cv).getD t undef = a.tmps.getD t undef := by
        simp [Array.getElem?_setIfInBounds_ne (Ne.symm e)]
      rw [this]; exact h.tm t

theorem RelE.tmeq {c : Ctx} {A : Nat → Prop} {μ : Mu} {fr : Nat → Prop} {tm tm' : Nat → AV} {hp hp' : Hp} {n : Nat} {a : Act} {w : World}
    (h : RelE c A μ fr tm hp n a w) (e : tm' = tm) (e' : hp' = hp) : RelE c A μ fr tm' hp' n a w := by subst e; subst e'; exact h
end Go.Am
