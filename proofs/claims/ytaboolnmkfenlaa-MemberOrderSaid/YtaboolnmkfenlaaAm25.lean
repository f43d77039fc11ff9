/- What a law is called with, as abstract values; a contract turned into what a row's shell asks. -/
import Derived.Test.YtaboolnmkfenlaaAm24
import Derived.Below
namespace Go.Am
set_option linter.unusedVariables false
set_option linter.unusedSimpArgs false

def Old (w : World) (b : Nat) : Prop := b < w.heap.size

theorem PSpec.below {P : Program} {f : FuncId} {args : List AV} {r : AV} (h : PSpec P f args r) {w : World} {cargs : List Value} (ha : RVL w (Old w) args noMu cargs) :
    Calls P f cargs.toArray w fun e w' => ∃ v A', e = .returned v ∧ RV w' A' r noMu v ∧ RowKit.Below w.heap.size w w' :=
  (h w (Old w) cargs (fun b hb => hb) ha).mono fun e w' ⟨v, A', h1, h2, h3, _⟩ => ⟨v, A', h1, h2, ⟨h3.os, h3.tape, h3.output, h3.size, fun k hk => h3.block k hk (fun h => h)⟩⟩

theorem PSpec.belowB {P : Program} {f : FuncId} {args : List AV} {b : Bool} (h : PSpec P f args (.bool b)) {w : World} {cargs : List Value} (ha : RVL w (Old w) args noMu cargs) :
    Calls P f cargs.toArray w fun e w' => e = .returned (.bool b) ∧ RowKit.Below w.heap.size w w' :=
  (h.below ha).mono fun e w' ⟨v, A', h1, h2, h3⟩ => ⟨by rw [h1, h2.1], h3⟩

theorem RVL.ints {w : World} {A : Nat → Prop} {k : IntKind} : ∀ {l : List Int}, (∀ n ∈ l, (Lit.int k n).wf = true) → RVL w A (l.map fun n => .val (.int k n)) noMu (l.map fun n => .int k n)
  | [], _ => rfl
  | n :: l, h => ⟨_, _, rfl, ⟨rfl, by have := h n (by simp); simpa [Lit.wf, plainV, inK] using this⟩, RVL.ints fun m hm => h m (by simp [hm])⟩

theorem Addr.eta {w : World} {x : Addr} {v : Value} (h : w.cell? x = some v) : x = ⟨x.block, x.off, none⟩ ∧ x.block < w.heap.size := by
  unfold World.cell? at h
  split at h
  · rename_i c ty z e
    have hs : x.spot = none := by
      cases hx : x.spot with
      | none => rfl
      | some s => rw [hx] at h; simp at h
    refine ⟨by cases x; simp_all, ?_⟩
    rcases Nat.lt_or_ge x.block w.heap.size with g | g
    · exact g
    · rw [Array.getElem?_eq_none g] at e; cases e
  · cases h

theorem RV.ints {w : World} {k : IntKind} {zs : List Int} {len cap : Nat} {a : Option Addr}
    (h : (a = none ∧ len = 0 ∧ cap = 0 ∧ zs = []) ∨ ∃ x, a = some x ∧ len ≤ cap ∧ cap ≤ maxLen ∧ zs.length = cap ∧ (∀ i, i < zs.length → w.cell? (x.add i) = some (.int k (zs.getD i 0))) ∧ ∀ n ∈ zs, (Lit.int k n).wf = true) :
    RV w (Old w) (.sl 1 ((zs.take len).map fun n => .val (.int k n)) false) noMu (.slice a len cap) := by
  rcases h with ⟨rfl, rfl, rfl, rfl⟩ | ⟨x, rfl, hl, hm, hz, hc, hw⟩
  · exact .inl ⟨rfl, _, rfl⟩
  by_cases h0 : cap = 0
  · subst h0
    have : len = 0 := by omega
    subst this
    exact .inl ⟨by simp, _, rfl⟩
  have hc0 := hc 0 (by omega)
  obtain ⟨e1, e2⟩ := Addr.eta hc0
  have e1 : x = ⟨x.block, x.off, none⟩ := by
    cases x; simp [Addr.add] at e1; simp [e1]
  refine .inr ⟨x.block, x.off, cap, (zs.take len).map fun n => .int k n, ?_, (show _ < _ by simpa [Addr.add] using e2), ?_, hm, (fun h => by cases h), RVL.ints (fun n hn => hw n (List.mem_of_mem_take hn)), ?_, ?_, ?_⟩
  · rw [← e1]; simp; omega
  · simp; omega
  · intro v hv
    obtain ⟨n, _, rfl⟩ := List.mem_map.mp hv
    exact ⟨rfl, fun c hc => by simp [Value.cells] at hc; subst hc; rfl⟩
  · intro p u hu
    have : ((zs.take len).map fun n => Value.int k n).flatMap (·.cells.toList) = (zs.take len).map fun n => Value.int k n := by
      generalize zs.take len = l
      induction l with
      | nil => rfl
      | cons n l ih => simp only [List.map_cons, List.flatMap_cons, ih]; rfl
    rw [this] at hu
    have hp : p < len ∧ p < zs.length := by
      have := (List.getElem?_eq_some_iff.mp hu).1
      simp at this; omega
    rw [List.getElem?_map, List.getElem?_take_of_lt hp.1, List.getElem?_eq_getElem hp.2] at hu
    have := hc p hp.2
    rw [e1] at this
    have e3 : (Addr.mk x.block x.off none).add p = ⟨x.block, x.off + p, none⟩ := by
      simp only [Addr.add]; split
      · rename_i h; subst h; rfl
      · rfl
    rw [e3] at this
    rw [this, ← Option.some.inj hu]
    simp [hp.2]
  · intro y hy
    obtain ⟨n, _, rfl⟩ := List.mem_map.mp hy
    rfl
theorem RV.string {w : World} {A : Nat → Prop} {s : ByteArray} (h : s.size ≤ maxLen) : RV w A (.str s) noMu (.string s) := ⟨rfl, h⟩
end Go.Am
