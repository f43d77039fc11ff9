/-
  PROVED: All functions of flows return what the references return, whatever the overlays, plans, flows and data: the law returns true.
  The conditions are those of the given statement, and none else.
-/
import Derived.Test.YthhpaedpnjdnbaaGreatDoorRows
import Derived.SevenTiedAt
import Derived.Test.YthhpaedpnjdnbaaGreatDoorCards
import Derived.Test.YthhpaedpnjdnbaaGreatDoorTie
import Derived.WalkKit
import Derived.ProofKit
import Derived.OpenShut
import Derived.ShutString
import Derived.ChangeOld
import Derived.Below
import Derived.LaidLaws
import Derived.Handed
import Derived.Test.YthhpaedpnjdnbaaGreatDoorQA10
namespace Go.Proofs.YthhpaedpnjdnbaaGreatDoor.flowsAnswers
open Go Go.ChangeShapes Go.WideShapes Go.ChangeAt Go.RowKit
set_option linter.unusedVariables false

theorem own : ownKnob Tryz.prog.godebug = none := by kernel_rfl
theorem laidOut : laidOutB Tryz.prog = true := by kernel_rfl
noncomputable def rdInt : Am.Rd Tryz.prog Int := Am.Rd.int .i64 3 Tryz.underlying3 (by kernel_rfl)
noncomputable def rd22 : Am.Rd Tryz.prog (List Int) := Am.Rd.slice rdInt 22 Tryz.underlying22 (by kernel_rfl)
noncomputable def rd99 : Am.Rd Tryz.prog Flt := Am.Rd.struct (Am.RdF.cons rdInt (Am.RdF.cons rd22 Am.RdF.nil)) 99 (by kernel_rfl) (by decide) (fun a => (⟨a.1, a.2.1⟩ : Flt)) (fun b => (b.mode, b.srcs, ())) (fun _ => rfl)
noncomputable def rd195 : Am.Rd Tryz.prog Itm := Am.Rd.struct (Am.RdF.cons rdInt (Am.RdF.cons rdInt (Am.RdF.cons rd99 Am.RdF.nil))) 195 (by kernel_rfl) (by decide) (fun a => (⟨a.1, a.2.1, a.2.2.1.mode, a.2.2.1.srcs⟩ : Itm)) (fun b => (b.ver, b.grp, ⟨b.mode, b.srcs⟩, ())) (fun _ => rfl)
noncomputable def rd129 : Am.Rd Tryz.prog (List Itm) := Am.Rd.slice rd195 129 Tryz.underlying129 (by kernel_rfl)
noncomputable def rd141 : Am.Rd Tryz.prog Per := Am.Rd.struct (Am.RdF.cons rdInt (Am.RdF.cons rdInt (Am.RdF.cons rdInt Am.RdF.nil))) 141 (by kernel_rfl) (by decide) (fun a => (⟨a.1, a.2.1, a.2.2.1⟩ : Per)) (fun b => (b.router, b.epoch, b.acked, ())) (fun _ => rfl)
noncomputable def rd130 : Am.Rd Tryz.prog (List Per) := Am.Rd.slice rd141 130 Tryz.underlying130 (by kernel_rfl)
noncomputable def rd132 : Am.Rd Tryz.prog Spk := Am.Rd.struct (Am.RdF.cons rdInt (Am.RdF.cons rdInt (Am.RdF.cons rdInt (Am.RdF.cons rd129 (Am.RdF.cons rd130 Am.RdF.nil))))) 132 (by kernel_rfl) (by decide) (fun a => (⟨a.1, a.2.1, a.2.2.1, a.2.2.2.1, a.2.2.2.2.1⟩ : Spk)) (fun b => (b.router, b.epoch, b.last, b.items, b.peers, ())) (fun _ => rfl)
noncomputable def rd33 : Am.Rd Tryz.prog (List Spk) := Am.Rd.slice rd132 33 Tryz.underlying33 (by kernel_rfl)
noncomputable def rd189 : Am.Rd Tryz.prog Hrd := Am.Rd.struct (Am.RdF.cons rdInt (Am.RdF.cons rdInt (Am.RdF.cons rdInt (Am.RdF.cons rd129 Am.RdF.nil)))) 189 (by kernel_rfl) (by decide) (fun a => (⟨a.1, a.2.1, a.2.2.1, a.2.2.2.1⟩ : Hrd)) (fun b => (b.router, b.epoch, b.ver, b.items, ())) (fun _ => rfl)
noncomputable def rd135 : Am.Rd Tryz.prog (List Hrd) := Am.Rd.slice rd189 135 Tryz.underlying135 (by kernel_rfl)
noncomputable def rd137 : Am.Rd Tryz.prog Lsn := Am.Rd.struct (Am.RdF.cons rdInt (Am.RdF.cons rdInt (Am.RdF.cons rd135 Am.RdF.nil))) 137 (by kernel_rfl) (by decide) (fun a => (⟨a.1, a.2.1, a.2.2.1⟩ : Lsn)) (fun b => (b.router, b.epoch, b.heard, ())) (fun _ => rfl)
noncomputable def rd34 : Am.Rd Tryz.prog (List Lsn) := Am.Rd.slice rd137 34 Tryz.underlying34 (by kernel_rfl)
noncomputable def rd127 : Am.Rd Tryz.prog Sig := Am.Rd.struct (Am.RdF.cons rdInt (Am.RdF.cons rdInt (Am.RdF.cons rdInt (Am.RdF.cons rdInt (Am.RdF.cons rdInt (Am.RdF.cons rdInt (Am.RdF.cons rdInt (Am.RdF.cons rdInt (Am.RdF.cons rd99 Am.RdF.nil))))))))) 127 (by kernel_rfl) (by decide) (fun a => (⟨a.1, a.2.1, a.2.2.1, a.2.2.2.1, a.2.2.2.2.1, a.2.2.2.2.2.1, a.2.2.2.2.2.2.1, a.2.2.2.2.2.2.2.1, a.2.2.2.2.2.2.2.2.1.mode, a.2.2.2.2.2.2.2.2.1.srcs⟩ : Sig)) (fun b => (b.kind, b.src, b.dst, b.epoch, b.ver, b.prev, b.pep, b.grp, ⟨b.mode, b.srcs⟩, ())) (fun _ => rfl)
noncomputable def rd35 : Am.Rd Tryz.prog (List Sig) := Am.Rd.slice rd127 35 Tryz.underlying35 (by kernel_rfl)
noncomputable def rd37 : Am.Rd Tryz.prog Ovl := Am.Rd.struct (Am.RdF.cons rd33 (Am.RdF.cons rd34 (Am.RdF.cons rd35 Am.RdF.nil))) 37 (by kernel_rfl) (by decide) (fun a => (⟨a.1, a.2.1, a.2.2.1⟩ : Ovl)) (fun b => (b.sp, b.ls, b.fl, ())) (fun _ => rfl)
noncomputable def rd53 : Am.Rd Tryz.prog Edg := Am.Rd.struct (Am.RdF.cons rdInt (Am.RdF.cons rdInt Am.RdF.nil)) 53 (by kernel_rfl) (by decide) (fun a => (⟨a.1, a.2.1⟩ : Edg)) (fun b => (b.router, b.id, ())) (fun _ => rfl)
noncomputable def rd29 : Am.Rd Tryz.prog (List Edg) := Am.Rd.slice rd53 29 Tryz.underlying29 (by kernel_rfl)
noncomputable def rd31 : Am.Rd Tryz.prog Pln := Am.Rd.struct (Am.RdF.cons rdInt (Am.RdF.cons rdInt (Am.RdF.cons rd29 Am.RdF.nil))) 31 (by kernel_rfl) (by decide) (fun a => (⟨a.1, a.2.1, a.2.2.1⟩ : Pln)) (fun b => (b.sub, b.len, b.es, ())) (fun _ => rfl)
noncomputable def rd51 : Am.Rd Tryz.prog Flw := Am.Rd.struct (Am.RdF.cons rdInt (Am.RdF.cons rdInt Am.RdF.nil)) 51 (by kernel_rfl) (by decide) (fun a => (⟨a.1, a.2.1⟩ : Flw)) (fun b => (b.src, b.grp, ())) (fun _ => rfl)
/-- The P2 world, but the variables of package signal hold what the row lists. -/
noncomputable def laidWorld (os : Os) : World :=
  let w0 := World.holding Tryz.prog os ⟨#[], #[], []⟩
  let put := fun (a b : Int) (o : Obj) => match o with
    | .cells _ t frozen => Obj.cells #[.int .i64 a, .int .i64 b] t frozen
    | o => o
  { w0 with heap := ((w0.heap.modify 1 (put 0 1000000)).modify 0 (put 1 1000000)).modify 3 (put 1 99) }
theorem laid_met (os : Os) (args : Array Value) : laidMet Tryz.prog Am.sigLaid ((laidWorld os).forCall (fun _ _ => 0) ⟨#[], args, []⟩).memory :=
  laidMet_of_run' 8 (by kernel_rfl) (by kernel_rfl)
set_option maxRecDepth 100000 in
theorem lifted (os : Os) (started : os.Started) (H : Type) (enc : TypeId × Value → H) :
    ReturnsInHanded {} Tryz.checked os 5 .any (fun w args => (Rows.flowsAnswersSpec.pre enc Tryz.prog Tryz.f5 Rows.flowsAnswersRow.domain false w args ∧ laidMet Tryz.prog Am.sigLaid w) ∧ sizedMet enc Tryz.prog Tryz.f5 (OpenSpec.ofChange Rows.flowsAnswersSpec) false w args)
      (Rows.flowsAnswersSpec.post enc Tryz.prog Tryz.f5 false true false false) := by
  refine returnsInHanded_of_change_and (C := Tryz.checked) (X := fun w _ => laidMet Tryz.prog Am.sigLaid w) (fun _ _ _ hh h => h.of_heap hh) own started (by kernel_rfl) Tryz.func5
    (ChangeSpec.witness_at (enc := enc) (C := Tryz.checked) (os := os) (X := fun w _ => laidMet Tryz.prog Am.sigLaid w) false (laidWorld os) #[.slice none 0 0, .agg #[.slice none 0 0, .slice none 0 0, .slice none 0 0], .agg #[.int .i64 0, .int .i64 0, .slice none 0 0], .agg #[.int .i64 0, .int .i64 0], .string ByteArray.empty, .int .i64 0] 8 rfl (by kernel_rfl) (by kernel_rfl) (by kernel_rfl) (by kernel_rfl) (by kernel_rfl) (laid_met os _)) ?_
  intro W base args ds gs before hval0 hW hcnd0 _ hL _
  have hval : ∀ (j : Nat) t v, Tryz.f5.params[j]? = some t → args[j]? = some v → Value.okWide Tryz.prog W .any base t v := hval0
  have hW' := hW
  obtain ⟨p, q, hA0, hV, rfl, hfz, hnd⟩ := hW
  have hA : DataW.TrodAll enc Tryz.prog W 0 (fun _ => true) true Tryz.f5.params.toList args.toList ds p := hA0
  rw [Tryz.params5] at hA hval
  obtain ⟨v0, vs0, d0, ds0, p0, q0, hargs, rfl, rfl, h0, r0⟩ := trodAll_cons hA
  obtain ⟨v1, vs1, d1, ds1, p1, q1, rfl, rfl, rfl, h1, r1⟩ := trodAll_cons r0
  obtain ⟨v2, vs2, d2, ds2, p2, q2, rfl, rfl, rfl, h2, r2⟩ := trodAll_cons r1
  obtain ⟨v3, vs3, d3, ds3, p3, q3, rfl, rfl, rfl, h3, r3⟩ := trodAll_cons r2
  obtain ⟨v4, vs4, d4, ds4, p4, q4, rfl, rfl, rfl, h4, r4⟩ := trodAll_cons r3
  obtain ⟨v5, vs5, d5, ds5, p5, q5, rfl, rfl, rfl, h5, r5⟩ := trodAll_cons r4
  obtain ⟨rfl, rfl, rfl⟩ := trodAll_nil r5
  obtain rfl : args = #[v0, v1, v2, v3, v4, v5] := by cases args; simp_all
  obtain ⟨rfl, rfl⟩ := trodVars_none hV
  have k0 := h0
  have lt0 : ∀ x ∈ p0, x.block < W.heap.size := by obtain ⟨m, hm⟩ := k0; exact DataW.trod_lt m _ _ _ hm
  have k1 := h1
  have lt1 : ∀ x ∈ p1, x.block < W.heap.size := by obtain ⟨m, hm⟩ := k1; exact DataW.trod_lt m _ _ _ hm
  have k2 := h2
  have lt2 : ∀ x ∈ p2, x.block < W.heap.size := by obtain ⟨m, hm⟩ := k2; exact DataW.trod_lt m _ _ _ hm
  have k3 := h3
  have lt3 : ∀ x ∈ p3, x.block < W.heap.size := by obtain ⟨m, hm⟩ := k3; exact DataW.trod_lt m _ _ _ hm
  obtain ⟨s0, w0, z0⟩ := Am.Rd.argL rdInt Tryz.underlying22 (hval 0 22 v0 rfl rfl) 0 h0
  obtain ⟨s1, w1, z1⟩ := Am.Rd.argS (f := (Am.RdF.cons rd33 (Am.RdF.cons rd34 (Am.RdF.cons rd35 Am.RdF.nil)))) (hf := by kernel_rfl) (hp := by decide) (mk := (fun a => (⟨a.1, a.2.1, a.2.2.1⟩ : Ovl))) (un := (fun b => (b.sp, b.ls, b.fl, ()))) (hu := fun _ => rfl) Tryz.underlying37 (hval 1 37 v1 rfl rfl) 0 h1
  obtain ⟨s2, w2, z2⟩ := Am.Rd.argS (f := (Am.RdF.cons rdInt (Am.RdF.cons rdInt (Am.RdF.cons rd29 Am.RdF.nil)))) (hf := by kernel_rfl) (hp := by decide) (mk := (fun a => (⟨a.1, a.2.1, a.2.2.1⟩ : Pln))) (un := (fun b => (b.sub, b.len, b.es, ()))) (hu := fun _ => rfl) Tryz.underlying31 (hval 2 31 v2 rfl rfl) 0 h2
  obtain ⟨s3, w3, z3⟩ := Am.Rd.argS (f := (Am.RdF.cons rdInt (Am.RdF.cons rdInt Am.RdF.nil))) (hf := by kernel_rfl) (hp := by decide) (mk := (fun a => (⟨a.1, a.2.1⟩ : Flw))) (un := (fun b => (b.src, b.grp, ()))) (hu := fun _ => rfl) Tryz.underlying51 (hval 3 51 v3 rfl rfl) 0 h3
  obtain ⟨a4, rfl, rfl, rfl, w4⟩ := Go.ChangeMaps.open_string Tryz.underlying9 (hval 4 9 v4 rfl rfl) h4
  obtain ⟨a5, rfl, rfl, rfl, w5⟩ := open_int Tryz.underlying3 (hval 5 3 v5 rfl rfl) h5
  clear hA0 hval0
  have hG : Am.LtOk Tryz.prog (Am.Old W) W := Am.LtOk.laid hL (by kernel_rfl) (by kernel_rfl) (by kernel_rfl)
  have walk := (Xl s0 s1 s2 s3 a4 a5).ok.belowB (w := W) hG (cargs := [v0, v1, v2, v3, _, _]) ⟨_, _, rfl, w0, _, _, rfl, w1, _, _, rfl, w2, _, _, rfl, w3, _, _, rfl, Am.RV.string w4, _, _, rfl, Am.RV.int w5, rfl⟩
  refine walk.mono fun e W' ⟨he, bel⟩ => ?_
  subst he
  exact ⟨_, rfl, _, _, _, [], _, [], hW', trodAll_mk1 (shut_bool Tryz.underlying4 _),
    (trodAll_cons_mk (Below.trod laidOut (by kernel_rfl) (of_decide_eq_true (by kernel_rfl)) k0 bel lt0) (trodAll_cons_mk (Below.trod laidOut (by kernel_rfl) (of_decide_eq_true (by kernel_rfl)) k1 bel lt1) (trodAll_cons_mk (Below.trod laidOut (by kernel_rfl) (of_decide_eq_true (by kernel_rfl)) k2 bel lt2) (trodAll_cons_mk (Below.trod laidOut (by kernel_rfl) (of_decide_eq_true (by kernel_rfl)) k3 bel lt3) (trodAll_cons_mk (Go.ChangeMaps.shut_string Tryz.underlying9 w4) (trodAll_cons_mk (shut_int Tryz.underlying3 w5) trodAll_mk0)))))), rfl, bel.frame _, fun h => by cases h⟩

theorem andT {a b : Bool} (h : a = true) (k : b = true) : (a && b) = true := by rw [h, k]; rfl
set_option maxHeartbeats 4000000 in
theorem closedF : joinedFacts Tryz.pinned.checked.prog 5 Tryz.f5 Rows.flowsAnswersSpec Rows.flowsAnswersRow = true := by
  unfold joinedFacts
  repeat' (with_reducible refine andT ?_ ?_)
  all_goals as_aux_lemma => kernel_rfl
theorem over : Rows.FlowsAnswersSaid :=
  OpenClaim.holds_of_wide 5 Tryz.f5 rfl rfl rfl rfl rfl rfl rfl ⟨rfl, rfl, rfl, rfl, rfl⟩ rfl rfl rfl rfl rfl (by kernel_rfl) Tryz.func5 closedF
    (of_decide_eq_true (by kernel_rfl)) (by unfold Func.isWrapper; first | (rw [if_pos (by decide +kernel)]; kernel_rfl) | (rw [if_neg (by decide +kernel)]; exact ⟨rfl, rfl⟩))
    (fun os started H enc _ => lifted os started H enc)

/-- ████ THE STATEMENT ████ -/
theorem proved : Rows.FlowsAnswersCardSaid :=
  Claim7.holds_tied_plain_at .later [] _ _ _ _ over (fun _ h => by cases h) (by kernel_rfl) (fun _ h => by cases h) flowsAnswers_row_tie rfl ⟨rfl, rfl⟩ (by kernel_rfl) rfl
    (fun f fn hf hfn => by
      obtain rfl : f = 5 := Option.some.inj ((show Tryz.prog.funcNamed "bitcast/bitcastlaw28.FlowsAnswers" = some 5 by kernel_rfl).symm.trans hf) |>.symm
      obtain rfl : fn = Tryz.f5 := (Option.some.inj (Tryz.func5.symm.trans hfn)).symm
      exact ⟨by kernel_rfl, fun j t ht => by
        rw [Tryz.params5] at ht
        rcases j with _ | _ | _ | _ | _ | _ | j
        · have h : t = 22 := by simpa using ht.symm
          subst h; exact (show Tryz.prog.wantsStandIn 22 = false by kernel_rfl)
        · have h : t = 37 := by simpa using ht.symm
          subst h; exact (show Tryz.prog.wantsStandIn 37 = false by kernel_rfl)
        · have h : t = 31 := by simpa using ht.symm
          subst h; exact (show Tryz.prog.wantsStandIn 31 = false by kernel_rfl)
        · have h : t = 51 := by simpa using ht.symm
          subst h; exact (show Tryz.prog.wantsStandIn 51 = false by kernel_rfl)
        · have h : t = 9 := by simpa using ht.symm
          subst h; exact (show Tryz.prog.wantsStandIn 9 = false by kernel_rfl)
        · have h : t = 3 := by simpa using ht.symm
          subst h; exact (show Tryz.prog.wantsStandIn 3 = false by kernel_rfl)
        · simp at ht⟩)
    (by kernel_rfl)
#print axioms proved
end Go.Proofs.YthhpaedpnjdnbaaGreatDoor.flowsAnswers
