/- The package variables that the layer knows hold what a row lists. -/
import Derived.Test.YtglfecmdoekabaaAmC
import Derived.ChangeArms
import Derived.LaidLaws
import Derived.Handed
import Derived.FnData
import Derived.ChangeShapes
namespace Go.Am
set_option linter.unusedVariables false
set_option linter.unusedSimpArgs false
def intT (P : Program) (t : TypeId) : Bool := match P.underlying t with
  | some (.int .i64) => true
  | _ => false
def bndT (P : Program) (t : TypeId) : Bool := match P.underlying t with
  | some (.struct fs) => match fs.toList with
    | [f0, f1] => intT P f0.type && intT P f1.type && Nat.beq f0.offset 0 && Nat.beq f1.offset 1 && Nat.beq (P.cellsOf f0.type) 1 && Nat.beq (P.cellsOf f1.type) 1 && Nat.beq (P.cellsOf t) 2
    | _ => false
  | _ => false
def bndOk (P : Program) (n : String) : Bool := match P.globalNamed n with
  | some g => match (P.globals[g]?).map (·.type) with
    | some t => bndT P t
    | none => false
  | none => false
abbrev bndD (lo hi : Int) : DataW Unit := .agg [.lit (.int .i64 lo), .lit (.int .i64 hi)]
theorem intT_some {P : Program} {t : TypeId} (h : intT P t = true) : P.underlying t = some (.int .i64) := by
  unfold intT at h
  split at h
  · assumption
  · cases h
theorem laid_bnd {P : Program} {w : World} {n : String} {lo hi : Int} {r : List (String × DataW Unit)} {ps : List MemPlace} (hb : bndOk P n = true) (h : DataW.LaidVars P w ((n, bndD lo hi) :: r) ps) :
    (∃ g, P.globalNamed n = some g ∧ w.cell? ⟨g, 0, none⟩ = some (.int .i64 lo) ∧ w.cell? ⟨g, 1, none⟩ = some (.int .i64 hi)) ∧ ∃ q, DataW.LaidVars P w r q := by
  obtain ⟨g, t, cs, fuel, p, q, hg, ht, hvar, hd, hr, _⟩ := h
  refine ⟨⟨g, hg, ?_⟩, q, hr⟩
  unfold bndOk at hb
  rw [hg] at hb
  simp only [ht] at hb
  unfold bndT at hb
  split at hb
  · rename_i fs hu
    split at hb
    · rename_i f0 f1 hfs
      simp only [Bool.and_eq_true] at hb
      obtain ⟨⟨⟨⟨⟨⟨b1, b2⟩, b3⟩, b4⟩, b5⟩, b6⟩, b7⟩ := hb
      have b3 := Nat.eq_of_beq_eq_true b3
      have b4 := Nat.eq_of_beq_eq_true b4
      have b5 := Nat.eq_of_beq_eq_true b5
      have b6 := Nat.eq_of_beq_eq_true b6
      have b7 := Nat.eq_of_beq_eq_true b7
      obtain ⟨xs, m, -, hx, hl, hxl, he⟩ := DataW.trod_struct hu hd
      have hfs' : fs = #[f0, f1] := by cases fs; simp_all
      subst hfs'
      have e0 := he 0 f0 rfl
      have e1 := he 1 f1 rfl
      rw [b7] at hl
      match xs, hxl with
      | [x0, x1], _ =>
      rw [b3, b5, List.drop_zero] at e0
      rw [b4, b6] at e1
      obtain ⟨s0, c0, g0, _⟩ := DataW.trod_int (intT_some b1) e0
      obtain ⟨s1, c1, g1, _⟩ := DataW.trod_int (intT_some b2) e1
      simp only [List.map_cons, List.map_nil, Prod.mk.injEq, DataW.agg.injEq, List.cons.injEq, and_true] at hx
      obtain ⟨⟨h0, h1⟩, _⟩ := hx
      rw [g0] at h0; rw [g1] at h1
      simp only [DataW.lit.injEq, Lit.int.injEq, true_and] at h0 h1
      subst h0; subst h1
      have k0 := World.var?_cell hg hvar 0
      have k1 := World.var?_cell hg hvar 1
      rw [k0, k1]
      obtain ⟨l⟩ := cs
      match l, hl with
      | [y0, y1], _ =>
      simp at c0 c1
      subst c0; subst c1
      exact ⟨rfl, rfl⟩
    · cases hb
  · cases hb
def gvKnown (n : String) : Bool := (gvT n).isSome
def gvAllB (P : Program) : Bool := (List.range P.globals.size).all fun g => match P.globals[g]? with
  | some G => !gvKnown G.name || (match P.globalNamed G.name with
    | some g' => Nat.beq g g'
    | none => false)
  | none => true
theorem rptr_bnd {w : World} {g : Nat} {lo hi : Int} (h0 : w.cell? ⟨g, 0, none⟩ = some (.int .i64 lo)) (h1 : w.cell? ⟨g, 1, none⟩ = some (.int .i64 hi)) (p0 : inK .i64 lo) (p1 : inK .i64 hi) :
    RV w (Old w) (.rptr (.agg [.int lo, .int hi]) 0) noMu (.pointer (some ⟨g, 0, none⟩)) := by
  refine ⟨g, 0, .agg #[.int .i64 lo, .int .i64 hi], rfl, (Addr.eta h0).2, ⟨_, rfl, ⟨_, _, rfl, ⟨rfl, p0⟩, _, _, rfl, ⟨rfl, p1⟩, rfl⟩, ?_⟩, ?_, ?_⟩
  · intro v hv; simp at hv; rcases hv with rfl | rfl <;> rfl
  · intro c hc; simp [Value.cells] at hc; rcases hc with rfl | rfl <;> rfl
  · intro p u hu
    simp only [Value.cells] at hu
    match p with
    | 0 => simp at hu; subst hu; exact h0
    | 1 => simp at hu; subst hu; exact h1
    | p + 2 => simp at hu
/-- The four variables of package signal. -/
def sigLaid : List (String × DataW Unit) := [("bitcast/signal.zero", bndD 0 0), ("bitcast/signal.number", bndD 0 1000000), ("bitcast/signal.first", bndD 1 1000000), ("bitcast/signal.group", bndD 1 99)]
theorem LtOk.laid {P : Program} {w : World} (h : laidMet P sigLaid w) (hb : (sigLaid.map (·.1)).all (bndOk P) = true) (hg : gvAllB P = true) : LtOk P (Old w) w := by
  obtain ⟨ps, hl, _⟩ := h
  simp only [sigLaid, List.map_cons, List.map_nil, List.all_cons, List.all_nil, Bool.and_eq_true, and_true] at hb
  obtain ⟨b1, b2, b3, b4⟩ := hb
  obtain ⟨⟨g1, n1, c1, d1⟩, q1, hl⟩ := laid_bnd b1 hl
  obtain ⟨⟨g2, n2, c2, d2⟩, q2, hl⟩ := laid_bnd b2 hl
  obtain ⟨⟨g3, n3, c3, d3⟩, q3, hl⟩ := laid_bnd b3 hl
  obtain ⟨⟨g4, n4, c4, d4⟩, q4, hl⟩ := laid_bnd b4 hl
  refine ⟨fun _ hb => hb, fun g x e => ?_⟩
  unfold gvP at e
  obtain ⟨G, hG, e⟩ := Option.bind_eq_some_iff.mp e
  have hlt : g < P.globals.size := (Array.getElem?_eq_some_iff.mp hG).1
  have hn := List.all_eq_true.mp hg g (List.mem_range.mpr hlt)
  simp only [hG, gvKnown, e, Option.isSome_some, Bool.not_true, Bool.false_or] at hn
  have hid : ∀ g', P.globalNamed G.name = some g' → g = g' := fun g' hg' => by
    rw [hg'] at hn; exact Nat.eq_of_beq_eq_true hn
  unfold gvT at e
  split at e
  · rename_i hname; cases e; rw [hid g1 (by rw [hname]; exact n1)]; exact rptr_bnd c1 d1 (by constructor <;> decide) (by constructor <;> decide)
  split at e
  · rename_i hname; cases e; rw [hid g2 (by rw [hname]; exact n2)]; exact rptr_bnd c2 d2 (by constructor <;> decide) (by constructor <;> decide)
  split at e
  · rename_i hname; cases e; rw [hid g3 (by rw [hname]; exact n3)]; exact rptr_bnd c3 d3 (by constructor <;> decide) (by constructor <;> decide)
  split at e
  · rename_i hname; cases e; rw [hid g4 (by rw [hname]; exact n4)]; exact rptr_bnd c4 d4 (by constructor <;> decide) (by constructor <;> decide)
  · cases e
/-- A program that has none of the package variables that the layer knows, by a check. -/
def gvNoneB (P : Program) : Bool := (List.range P.globals.size).all fun g => match P.globals[g]? with
  | some G => !gvKnown G.name
  | none => true
theorem gvAll_none {P : Program} (h : gvNoneB P = true) (g : Nat) : gvP P g = none := by
  unfold gvP
  cases hG : P.globals[g]? with
  | none => rfl
  | some G =>
    have := List.all_eq_true.mp h g (List.mem_range.mpr (Array.getElem?_eq_some_iff.mp hG).1)
    simp only [hG, gvKnown, Bool.not_eq_true', Option.isSome_eq_false_iff, Option.isNone_iff_eq_none] at this
    exact this
end Go.Am
