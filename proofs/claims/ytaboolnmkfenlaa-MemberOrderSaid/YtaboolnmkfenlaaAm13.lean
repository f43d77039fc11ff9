/- Renaming of blocks; values that lead nowhere; what a function does (PSpec: values only; HSpec: with blocks of the caller's). -/
import Derived.Test.YtaboolnmkfenlaaAm12
namespace Go.Am
set_option linter.unusedVariables false
set_option linter.unusedSimpArgs false

mutual
def AV.ren (π : Nat → Nat) : AV → AV
  | .agg cs => .agg (renL π cs)
  | .tup xs => .tup (renL π xs)
  | .func f caps => .func f (renL π caps)
  | .ref b off => .ref (π b) off
  | .eref b i off => .eref (π b) i off
  | .vec b => .vec (π b)
  | .vsub b lo len => .vsub (π b) lo len
  | .asub b off len k => .asub (π b) off len k
  | .val v => .val v
  | .rptr x off => .rptr x off
  | .sl k es full => .sl k es full
  | .unk => .unk
def renL (π : Nat → Nat) : List AV → List AV
  | [] => []
  | x :: xs => x.ren π :: renL π xs
end
mutual
/-- The value's blocks have names below k. -/
def AV.bel (k : Nat) : AV → Prop
  | .agg cs => belL k cs
  | .tup xs => belL k xs
  | .func _ caps => belL k caps
  | .ref b _ => b < k
  | .eref b _ _ => b < k
  | .vec b => b < k
  | .vsub b _ _ => b < k
  | .asub b _ _ _ => b < k
  | .val _ => True
  | .rptr _ _ => True
  | .sl _ _ _ => True
  | .unk => True
def belL (k : Nat) : List AV → Prop
  | [] => True
  | x :: xs => x.bel k ∧ belL k xs
end
def Blk.ren (π : Nat → Nat) : Blk → Blk
  | .box x => .box (x.ren π)
  | .vec k es => .vec k (renL π es)
  | .row k es len cap => .row k (renL π es) len cap
def Blk.bel (k : Nat) : Blk → Prop
  | .box x => x.bel k
  | .vec _ es => belL k es
  | .row _ es _ _ => belL k es

theorem renL_map (π : Nat → Nat) : ∀ xs : List AV, renL π xs = xs.map (AV.ren π)
  | [] => rfl
  | x :: xs => by rw [renL, renL_map π xs]; rfl
theorem AV.ren_solid (π : Nat → Nat) (x : AV) : (x.ren π).solid = x.solid := by cases x <;> rfl

mutual
theorem AV.ren_pure (π : Nat → Nat) : ∀ {x : AV}, x.pure → x.ren π = x
  | .agg cs, h => by rw [AV.ren, renL_pure π h]
  | .tup cs, h => by rw [AV.ren, renL_pure π h]
  | .func f cs, h => by rw [AV.ren, renL_pure π h]
  | .val _, _ => rfl
  | .rptr _ _, _ => rfl
  | .sl _ _ _, _ => rfl
  | .unk, _ => rfl
  | .ref _ _, h => h.elim
  | .eref _ _ _, h => h.elim
  | .vec _, h => h.elim
  | .vsub _ _ _, h => h.elim
  | .asub _ _ _ _, h => h.elim
theorem renL_pure (π : Nat → Nat) : ∀ {xs : List AV}, pureL xs → renL π xs = xs
  | [], _ => rfl
  | x :: xs, h => by rw [renL, AV.ren_pure π h.1, renL_pure π h.2]
end

section
variable {w : World} {A : Nat → Prop}
mutual
theorem RV.unren {π : Nat → Nat} {μ ν : Mu} {k : Nat} (h : ∀ b, b < k → ∀ hd, μ (π b) = some hd → ν b = some hd) : ∀ {x : AV} {v : Value}, x.bel k → RV w A (x.ren π) μ v → RV w A x ν v
  | .val _, _, _, hv => hv
  | .agg cs, _, hb, ⟨vs, h1, h2, h3⟩ => ⟨vs, h1, RVL.unren h hb h2, h3⟩
  | .tup xs, _, hb, ⟨vs, h1, h2⟩ => ⟨vs, h1, RVL.unren h hb h2⟩
  | .func f caps, _, hb, ⟨vs, h1, h2⟩ => ⟨vs, h1, RVL.unren h hb h2⟩
  | .ref b off, _, hb, ⟨hd, h1, h2⟩ => ⟨hd, h b hb hd h1, h2⟩
  | .eref b i off, _, hb, ⟨hd, h1, h2⟩ => ⟨hd, h b hb hd h1, h2⟩
  | .rptr _ _, _, _, hv => hv
  | .vec b, _, hb, ⟨hd, h1, h2⟩ => ⟨hd, h b hb hd h1, h2⟩
  | .vsub b lo len, _, hb, ⟨hd, cap, o, h1, h2⟩ => ⟨hd, cap, o, h b hb hd h1, h2⟩
  | .asub b off len kk, _, hb, ⟨hd, cap, o, h1, h2⟩ => ⟨hd, cap, o, h b hb hd h1, h2⟩
  | .sl _ _ _, _, _, hv => hv
  | .unk, _, _, _ => trivial
theorem RVL.unren {π : Nat → Nat} {μ ν : Mu} {k : Nat} (h : ∀ b, b < k → ∀ hd, μ (π b) = some hd → ν b = some hd) : ∀ {xs : List AV} {vs : List Value}, belL k xs → RVL w A (renL π xs) μ vs → RVL w A xs ν vs
  | [], _, _, hv => hv
  | x :: xs, _, hb, ⟨v, vs', h1, h2, h3⟩ => ⟨v, vs', h1, RV.unren h hb.1 h2, RVL.unren h hb.2 h3⟩
end
mutual
theorem RV.doren {π : Nat → Nat} {μ ν : Mu} {k : Nat} (h : ∀ b, b < k → ∀ hd, ν b = some hd → μ (π b) = some hd) : ∀ {x : AV} {v : Value}, x.bel k → RV w A x ν v → RV w A (x.ren π) μ v
  | .val _, _, _, hv => hv
  | .agg cs, _, hb, ⟨vs, h1, h2, h3⟩ => ⟨vs, h1, RVL.doren h hb h2, h3⟩
  | .tup xs, _, hb, ⟨vs, h1, h2⟩ => ⟨vs, h1, RVL.doren h hb h2⟩
  | .func f caps, _, hb, ⟨vs, h1, h2⟩ => ⟨vs, h1, RVL.doren h hb h2⟩
  | .ref b off, _, hb, ⟨hd, h1, h2⟩ => ⟨hd, h b hb hd h1, h2⟩
  | .eref b i off, _, hb, ⟨hd, h1, h2⟩ => ⟨hd, h b hb hd h1, h2⟩
  | .rptr _ _, _, _, hv => hv
  | .vec b, _, hb, ⟨hd, h1, h2⟩ => ⟨hd, h b hb hd h1, h2⟩
  | .vsub b lo len, _, hb, ⟨hd, cap, o, h1, h2⟩ => ⟨hd, cap, o, h b hb hd h1, h2⟩
  | .asub b off len kk, _, hb, ⟨hd, cap, o, h1, h2⟩ => ⟨hd, cap, o, h b hb hd h1, h2⟩
  | .sl _ _ _, _, _, hv => hv
  | .unk, _, _, _ => trivial
theorem RVL.doren {π : Nat → Nat} {μ ν : Mu} {k : Nat} (h : ∀ b, b < k → ∀ hd, ν b = some hd → μ (π b) = some hd) : ∀ {xs : List AV} {vs : List Value}, belL k xs → RVL w A xs ν vs → RVL w A (renL π xs) μ vs
  | [], _, _, hv => hv
  | x :: xs, _, hb, ⟨v, vs', h1, h2, h3⟩ => ⟨v, vs', h1, RV.doren h hb.1 h2, RVL.doren h hb.2 h3⟩
end

theorem solid_renL {π : Nat → Nat} {es : List AV} : (∀ x ∈ renL π es, x.solid = true) ↔ ∀ x ∈ es, x.solid = true := by
  rw [renL_map]
  constructor
  · intro h x hx
    have := h _ (List.mem_map.2 ⟨x, hx, rfl⟩)
    rwa [AV.ren_solid] at this
  · intro h x hx
    obtain ⟨y, hy, rfl⟩ := List.mem_map.1 hx
    rw [AV.ren_solid]; exact h y hy

theorem BlkOk.unren {π : Nat → Nat} {μ ν : Mu} {k : Nat} (h : ∀ b, b < k → ∀ hd, μ (π b) = some hd → ν b = some hd) {hd : Hd} {x : Blk} (hb : x.bel k) (hx : BlkOk w A μ hd (x.ren π)) : BlkOk w A ν hd x := by
  cases x with
  | box x =>
    obtain ⟨h1, h2, v, ty, h3, h4⟩ := hx
    rw [AV.ren_solid] at h2
    exact ⟨h1, h2, v, ty, RV.unren h hb h3, h4⟩
  | vec kk es =>
    obtain ⟨h0, hx⟩ := hx
    refine ⟨h0, ?_⟩
    rcases hx with ⟨h1, h2⟩ | ⟨h1, h2, h3, h4, C, ty, vs, h5, h6, h7, h8, h9⟩
    · refine .inl ⟨?_, h2⟩
      rw [renL_map] at h1; simpa using h1
    · refine .inr ⟨h1, ?_, h3, h4, C, ty, vs, h5, RVL.unren h hb h6, solid_renL.1 h7, h8, h9⟩
      rw [renL_map] at h2; simpa using h2
  | row kk es len cap =>
    obtain ⟨h0, h1, h2, h3, g1, g2, g3, C, ty, vs, h5, h6, h7, h8, h9, h10⟩ := hx
    have hl : (renL π es).length = es.length := by rw [renL_map]; simp
    rw [hl] at g1 h10
    exact ⟨h0, h1, h2, h3, g1, g2, g3, C, ty, vs, h5, RVL.unren h hb h6, solid_renL.1 h7, h8, h9, h10⟩
theorem BlkOk.doren {π : Nat → Nat} {μ ν : Mu} {k : Nat} (h : ∀ b, b < k → ∀ hd, ν b = some hd → μ (π b) = some hd) {hd : Hd} {x : Blk} (hb : x.bel k) (hx : BlkOk w A ν hd x) : BlkOk w A μ hd (x.ren π) := by
  cases x with
  | box x =>
    obtain ⟨h1, h2, v, ty, h3, h4⟩ := hx
    exact ⟨h1, by rw [AV.ren_solid]; exact h2, v, ty, RV.doren h hb h3, h4⟩
  | vec kk es =>
    obtain ⟨h0, hx⟩ := hx
    refine ⟨h0, ?_⟩
    rcases hx with ⟨h1, h2⟩ | ⟨h1, h2, h3, h4, C, ty, vs, h5, h6, h7, h8, h9⟩
    · refine .inl ⟨?_, h2⟩
      rw [renL_map, h1]; rfl
    · refine .inr ⟨h1, ?_, h3, h4, C, ty, vs, h5, RVL.doren h hb h6, solid_renL.2 h7, h8, h9⟩
      rw [renL_map]; simpa using h2
  | row kk es len cap =>
    obtain ⟨h0, h1, h2, h3, g1, g2, g3, C, ty, vs, h5, h6, h7, h8, h9, h10⟩ := hx
    have hl : (renL π es).length = es.length := by rw [renL_map]; simp
    exact ⟨h0, h1, h2, h3, by rw [hl]; exact g1, g2, g3, C, ty, vs, h5, RVL.doren h hb h6, solid_renL.2 h7, h8, h9, by rw [hl]; exact h10⟩
end

mutual
/-- A value that reads no memory. -/
def AV.flat : AV → Prop
  | .val _ => True
  | .agg cs => flatAL cs
  | .tup xs => flatAL xs
  | _ => False
def flatAL : List AV → Prop
  | [] => True
  | x :: xs => x.flat ∧ flatAL xs
end
section
variable {w w' : World} {A A' : Nat → Prop}
mutual
theorem RV.flat : ∀ {x : AV} {μ μ' : Mu} {v : Value}, x.flat → RV w A x μ v → RV w' A' x μ' v
  | .val _, _, _, _, _, h => h
  | .agg cs, _, _, _, hp, ⟨vs, h1, h2, h3⟩ => ⟨vs, h1, RVL.flat hp h2, h3⟩
  | .tup xs, _, _, _, hp, ⟨vs, h1, h2⟩ => ⟨vs, h1, RVL.flat hp h2⟩
  | .func _ _, _, _, _, hp, _ => hp.elim
  | .ref _ _, _, _, _, hp, _ => hp.elim
  | .eref _ _ _, _, _, _, hp, _ => hp.elim
  | .rptr _ _, _, _, _, hp, _ => hp.elim
  | .vec _, _, _, _, hp, _ => hp.elim
  | .vsub _ _ _, _, _, _, hp, _ => hp.elim
  | .asub _ _ _ _, _, _, _, hp, _ => hp.elim
  | .sl _ _ _, _, _, _, hp, _ => hp.elim
  | .unk, _, _, _, hp, _ => hp.elim
theorem RVL.flat : ∀ {xs : List AV} {μ μ' : Mu} {vs : List Value}, flatAL xs → RVL w A xs μ vs → RVL w' A' xs μ' vs
  | [], _, _, _, _, h => h
  | x :: xs, _, _, _, hp, ⟨v, vs', h1, h2, h3⟩ => ⟨v, vs', h1, RV.flat hp.1 h2, RVL.flat hp.2 h3⟩
end
end

/-! ### What a function does -/
structure Ext (own : Nat → Prop) (w w' : World) : Prop where
  os : w'.os = w.os
  tape : w'.tape = w.tape
  output : w'.output = w.output
  size : w.heap.size ≤ w'.heap.size
  block : ∀ k, k < w.heap.size → ¬ own k → w'.heap[k]? = w.heap[k]?

structure HeapOk (w : World) (A : Nat → Prop) (μ : Mu) (hp : Hp) : Prop where
  blk : ∀ b x, hp b = some x → ∃ hd, μ b = some hd ∧ BlkOk w A μ hd x ∧ (hd.emp = none → ¬ A hd.blk ∧ hd.blk < w.heap.size)
  inj : ∀ b b' x x' hd hd', hp b = some x → hp b' = some x' → μ b = some hd → μ b' = some hd' → hd.emp = none → hd'.emp = none → hd.blk = hd'.blk → b = b'
  lt : ∀ b, A b → b < w.heap.size

def ownOf (μ : Mu) (hp : Hp) (k : Nat) : Prop := ∃ b x hd, hp b = some x ∧ μ b = some hd ∧ hd.emp = none ∧ hd.blk = k

def hpOf (l : List (Option Blk)) : Hp := fun b => (l[b]?).join

/-- The function f, called with values that read as args, returns a value that reads as r. -/
def PSpec (P : Program) (f : FuncId) (args : List AV) (r : AV) : Prop :=
  ∀ (w : World) (A : Nat → Prop) (cargs : List Value), (∀ b, A b → b < w.heap.size) → RVL w A args noMu cargs →
    Calls P f cargs.toArray w fun e w' => ∃ v A', e = .returned v ∧ RV w' A' r noMu v ∧ Ext (fun _ => False) w w' ∧ (∀ b, A b → A' b) ∧ (∀ b, A' b → A b ∨ w.heap.size ≤ b) ∧ (∀ b, A' b → b < w'.heap.size)

/-- The same where the arguments lead into blocks h of the caller's own; behind the call these, and new ones, are h'. -/
def HSpec (P : Program) (f : FuncId) (args : List AV) (h : List Blk) (r : AV) (h' : List (Option Blk)) : Prop :=
  ∀ (w : World) (A : Nat → Prop) (μ : Mu) (cargs : List Value), HeapOk w A μ (hpOf (h.map some)) → (∀ b, h.length ≤ b → μ b = none) → RVL w A args μ cargs →
    Calls P f cargs.toArray w fun e w' => ∃ v A' μ', e = .returned v ∧ RV w' A' r μ' v ∧ HeapOk w' A' μ' (hpOf h') ∧ MuLe μ μ' ∧ Ext (ownOf μ (hpOf (h.map some))) w w' ∧
      (∀ b, A b → A' b) ∧ (∀ b, A' b → A b ∨ ownOf μ (hpOf (h.map some)) b ∨ w.heap.size ≤ b) ∧
      (∀ b, ownOf μ' (hpOf h') b → ownOf μ (hpOf (h.map some)) b ∨ w.heap.size ≤ b)

theorem hpOf_nil : hpOf [] = fun _ => none := by funext b; simp [hpOf]

theorem PSpec.heap {P : Program} {f : FuncId} {args : List AV} {r : AV} (h : PSpec P f args r) (hp : pureL args) : HSpec P f args [] r [] := by
  intro w A μ cargs h1 h2 h3
  refine (h w A cargs h1.lt (RVL.pure hp h3)).mono ?_
  rintro e w' ⟨v, A', rfl, r1, r2, r3, r4, r5⟩
  refine ⟨v, A', μ, rfl, r1.up, ?_, MuLe.refl _, ?_, r3, fun b hb => ?_, ?_⟩
  · refine ⟨fun b x hx => ?_, fun b b' x x' hd hd' hx => ?_, r5⟩ <;> simp [hpOf] at hx
  · exact ⟨r2.os, r2.tape, r2.output, r2.size, fun k hk _ => r2.block k hk (fun h => h)⟩
  · rcases r4 b hb with h | h
    · exact .inl h
    · exact .inr (.inr h)
  · rintro b ⟨b', x, hd, hx, _⟩; simp [hpOf] at hx

theorem HSpec.pure {P : Program} {f : FuncId} {args : List AV} {r : AV} (h : HSpec P f args [] r []) (hr : r.pure) : PSpec P f args r := by
  intro w A cargs hlt h3
  refine (h w A noMu cargs ⟨fun b x hx => ?_, fun b b' x x' hd hd' hx => ?_, hlt⟩ (fun _ _ => rfl) h3).mono ?_
  · simp [hpOf] at hx
  · simp [hpOf] at hx
  · rintro e w' ⟨v, A', μ', rfl, r1, r2, r3, r4, r5, r6, r7⟩
    have hno : ∀ k, ¬ ownOf noMu (hpOf (([] : List Blk).map some)) k := by rintro k ⟨b, x, hd, hx, _⟩; simp [hpOf] at hx
    refine ⟨v, A', rfl, RV.pure hr r1, ⟨r4.os, r4.tape, r4.output, r4.size, fun k hk _ => r4.block k hk (hno k)⟩, r5, fun b hb => ?_, r2.lt⟩
    rcases r6 b hb with h | h | h
    · exact .inl h
    · exact absurd h (hno b)
    · exact .inr h
end Go.Am
