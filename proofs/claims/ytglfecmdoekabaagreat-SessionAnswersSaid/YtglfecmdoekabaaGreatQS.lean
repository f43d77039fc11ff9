/-
  PROVED: Validate, New, Change, Restart, Send and Wants return what the chapter specifies for speakers of all sorts, also invalid ones.
  The conditions are those of the given statement, and none else.
-/
import Derived.Test.YtglfecmdoekabaaGreatRows
import Derived.WalkKit
import Derived.ProofKit
import Derived.OpenShut
import Derived.ShutString
import Derived.ChangeOld
import Derived.Below
import Derived.LaidLaws
import Derived.Handed
import Derived.Test.YtglfecmdoekabaaGreatQS7
namespace Go.Proofs.YtglfecmdoekabaaGreat.sessionAnswers
open Go Go.ChangeShapes Go.WideShapes Go.ChangeAt Go.RowKit
set_option linter.unusedVariables false

theorem own : ownKnob Tryz.prog.godebug = none := by kernel_rfl
theorem laidOut : laidOutB Tryz.prog = true := by kernel_rfl
noncomputable def rdInt : Am.Rd Tryz.prog Int := Am.Rd.int .i64 3 Tryz.underlying3 (by kernel_rfl)
noncomputable def rd22 : Am.Rd Tryz.prog (List Int) := Am.Rd.slice rdInt 22 Tryz.underlying22 (by kernel_rfl)
noncomputable def rd55 : Am.Rd Tryz.prog Flt := Am.Rd.struct (Am.RdF.cons rdInt (Am.RdF.cons rd22 Am.RdF.nil)) 55 (by kernel_rfl) (by decide) (fun a => (⟨a.1, a.2.1⟩ : Flt)) (fun b => (b.mode, b.srcs, ())) (fun _ => rfl)
noncomputable def rd68 : Am.Rd Tryz.prog Itm := Am.Rd.struct (Am.RdF.cons rdInt (Am.RdF.cons rdInt (Am.RdF.cons rd55 Am.RdF.nil))) 68 (by kernel_rfl) (by decide) (fun a => (⟨a.1, a.2.1, a.2.2.1.mode, a.2.2.1.srcs⟩ : Itm)) (fun b => (b.ver, b.grp, ⟨b.mode, b.srcs⟩, ())) (fun _ => rfl)
noncomputable def rd23 : Am.Rd Tryz.prog (List Itm) := Am.Rd.slice rd68 23 Tryz.underlying23 (by kernel_rfl)
noncomputable def rd65 : Am.Rd Tryz.prog Per := Am.Rd.struct (Am.RdF.cons rdInt (Am.RdF.cons rdInt (Am.RdF.cons rdInt Am.RdF.nil))) 65 (by kernel_rfl) (by decide) (fun a => (⟨a.1, a.2.1, a.2.2.1⟩ : Per)) (fun b => (b.router, b.epoch, b.acked, ())) (fun _ => rfl)
noncomputable def rd24 : Am.Rd Tryz.prog (List Per) := Am.Rd.slice rd65 24 Tryz.underlying24 (by kernel_rfl)
noncomputable def rd26 : Am.Rd Tryz.prog Spk := Am.Rd.struct (Am.RdF.cons rdInt (Am.RdF.cons rdInt (Am.RdF.cons rdInt (Am.RdF.cons rd23 (Am.RdF.cons rd24 Am.RdF.nil))))) 26 (by kernel_rfl) (by decide) (fun a => (⟨a.1, a.2.1, a.2.2.1, a.2.2.2.1, a.2.2.2.2.1⟩ : Spk)) (fun b => (b.router, b.epoch, b.last, b.items, b.peers, ())) (fun _ => rfl)
noncomputable def rd57 : Am.Rd Tryz.prog Wnt := Am.Rd.struct (Am.RdF.cons rdInt (Am.RdF.cons rd55 Am.RdF.nil)) 57 (by kernel_rfl) (by decide) (fun a => (⟨a.1, a.2.1.mode, a.2.1.srcs⟩ : Wnt)) (fun b => (b.grp, ⟨b.mode, b.srcs⟩, ())) (fun _ => rfl)
set_option maxRecDepth 100000 in
theorem lifted (os : Os) (started : os.Started) (H : Type) (enc : TypeId × Value → H) :
    ReturnsInHanded {} Tryz.checked os 3 .any (Rows.sessionAnswersSpec.pre6 enc Tryz.prog Tryz.f3 Rows.sessionAnswersRow.domain false) (Rows.sessionAnswersSpec.post enc Tryz.prog Tryz.f3 false true false false) := by
  refine returnsInHanded_of_change (C := Tryz.checked) own started (by kernel_rfl) Tryz.func3
    (ChangeSpec.witness6 (enc := enc) (C := Tryz.checked) false ⟨#[], #[.slice none 0 0, .agg #[.int .i64 0, .int .i64 0, .int .i64 0, .slice none 0 0, .slice none 0 0], .slice none 0 0, .int .i64 0, .int .i64 0], []⟩ 8 (by kernel_rfl) (by kernel_rfl) (by kernel_rfl) (by kernel_rfl)) ?_
  intro W base args ds gs before hval0 hW hcnd _
  have hval : ∀ (j : Nat) t v, Tryz.f3.params[j]? = some t → args[j]? = some v → Value.okWide Tryz.prog W .any base t v := hval0
  have hW' := hW
  obtain ⟨p, q, hA0, hV, rfl, hfz, hnd⟩ := hW
  have hA : DataW.TrodAll enc Tryz.prog W 0 (fun _ => true) true Tryz.f3.params.toList args.toList ds p := hA0
  rw [Tryz.params3] at hA hval
  obtain ⟨v0, vs0, d0, ds0, p0, q0, hargs, rfl, rfl, h0, r0⟩ := trodAll_cons hA
  obtain ⟨v1, vs1, d1, ds1, p1, q1, rfl, rfl, rfl, h1, r1⟩ := trodAll_cons r0
  obtain ⟨v2, vs2, d2, ds2, p2, q2, rfl, rfl, rfl, h2, r2⟩ := trodAll_cons r1
  obtain ⟨v3, vs3, d3, ds3, p3, q3, rfl, rfl, rfl, h3, r3⟩ := trodAll_cons r2
  obtain ⟨v4, vs4, d4, ds4, p4, q4, rfl, rfl, rfl, h4, r4⟩ := trodAll_cons r3
  obtain ⟨rfl, rfl, rfl⟩ := trodAll_nil r4
  obtain rfl : args = #[v0, v1, v2, v3, v4] := by cases args; simp_all
  obtain ⟨rfl, rfl⟩ := trodVars_none hV
  have k0 := h0
  have lt0 : ∀ x ∈ p0, x.block < W.heap.size := by obtain ⟨m, hm⟩ := k0; exact DataW.trod_lt m _ _ _ hm
  have k1 := h1
  have lt1 : ∀ x ∈ p1, x.block < W.heap.size := by obtain ⟨m, hm⟩ := k1; exact DataW.trod_lt m _ _ _ hm
  have k2 := h2
  have lt2 : ∀ x ∈ p2, x.block < W.heap.size := by obtain ⟨m, hm⟩ := k2; exact DataW.trod_lt m _ _ _ hm
  obtain ⟨s0, w0⟩ := Am.Rd.argL rdInt Tryz.underlying22 (hval 0 22 v0 rfl rfl) h0
  obtain ⟨s1, w1⟩ := Am.Rd.argS (f := (Am.RdF.cons rdInt (Am.RdF.cons rdInt (Am.RdF.cons rdInt (Am.RdF.cons rd23 (Am.RdF.cons rd24 Am.RdF.nil)))))) (hf := by kernel_rfl) (hp := by decide) (mk := (fun a => (⟨a.1, a.2.1, a.2.2.1, a.2.2.2.1, a.2.2.2.2.1⟩ : Spk))) (un := (fun b => (b.router, b.epoch, b.last, b.items, b.peers, ()))) (hu := fun _ => rfl) Tryz.underlying26 (hval 1 26 v1 rfl rfl) h1
  obtain ⟨s2, w2⟩ := Am.Rd.argL rd57 Tryz.underlying27 (hval 2 27 v2 rfl rfl) h2
  obtain ⟨a3, rfl, rfl, rfl, w3⟩ := open_int Tryz.underlying3 (hval 3 3 v3 rfl rfl) h3
  obtain ⟨a4, rfl, rfl, rfl, w4⟩ := open_int Tryz.underlying3 (hval 4 3 v4 rfl rfl) h4
  clear hA0 hval0
  have hG : Am.LtOk Tryz.prog (Am.Old W) W := Am.LtOk.none (fun g => Am.gvAll_none (by kernel_rfl) g) W
  have walk := (answ_c s0 s1 s2 a3 a4).ok.belowB (w := W) hG (cargs := [v0, v1, v2, _, _]) ⟨_, _, rfl, w0, _, _, rfl, w1, _, _, rfl, w2, _, _, rfl, Am.RV.int w3, _, _, rfl, Am.RV.int w4, rfl⟩
  refine walk.mono fun e W' ⟨he, bel⟩ => ?_
  subst he
  exact ⟨_, rfl, _, _, _, [], _, [], hW', trodAll_mk1 (shut_bool Tryz.underlying4 _),
    (trodAll_cons_mk (Below.trod laidOut (by kernel_rfl) (of_decide_eq_true (by kernel_rfl)) k0 bel lt0) (trodAll_cons_mk (Below.trod laidOut (by kernel_rfl) (of_decide_eq_true (by kernel_rfl)) k1 bel lt1) (trodAll_cons_mk (Below.trod laidOut (by kernel_rfl) (of_decide_eq_true (by kernel_rfl)) k2 bel lt2) (trodAll_cons_mk (shut_int Tryz.underlying3 w3) (trodAll_cons_mk (shut_int Tryz.underlying3 w4) trodAll_mk0))))), rfl, bel.frame _, fun h => by cases h⟩

theorem over : Rows.SessionAnswersSaid :=
  OpenClaim.holds_of_wide 3 Tryz.f3 rfl rfl rfl rfl rfl rfl rfl ⟨rfl, rfl, rfl, rfl, rfl⟩ rfl rfl rfl rfl rfl (by kernel_rfl) Tryz.func3 (by kernel_rfl)
    (of_decide_eq_true (by kernel_rfl)) (by unfold Func.isWrapper; first | (rw [if_pos (by decide +kernel)]; kernel_rfl) | (rw [if_neg (by decide +kernel)]; exact ⟨rfl, rfl⟩))
    (fun os started H enc _ => lifted os started H enc)

/-- ████ THE STATEMENT ████ -/
theorem proved : Rows.SessionAnswersSaid := over
#print axioms proved
end Go.Proofs.YtglfecmdoekabaaGreat.sessionAnswers
