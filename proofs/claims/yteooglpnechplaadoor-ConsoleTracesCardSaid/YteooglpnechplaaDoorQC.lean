/-
  PROVED: Traces of all sorts have the texts that the reference gives: the law returns true.
  The conditions are those of the given statement, and none else.
-/
import Derived.Test.YteooglpnechplaaDoorRows
import Derived.SevenTiedAt
import Derived.Test.YteooglpnechplaaDoorCards
import Derived.Test.YteooglpnechplaaDoorTie
import Derived.WalkKit
import Derived.ProofKit
import Derived.OpenShut
import Derived.ShutString
import Derived.ChangeOld
import Derived.Below
import Derived.LaidLaws
import Derived.Handed
import Derived.Test.YteooglpnechplaaDoorQC6
namespace Go.Proofs.YteooglpnechplaaDoor.consoleTraces
open Go Go.ChangeShapes Go.WideShapes Go.ChangeAt Go.RowKit
set_option linter.unusedVariables false

theorem own : ownKnob Tryd.prog.godebug = none := by kernel_rfl
theorem laidOut : laidOutB Tryd.prog = true := by kernel_rfl
noncomputable def rdInt : Am.Rd Tryd.prog Int := Am.Rd.int .i64 3 Tryd.underlying3 (by kernel_rfl)
noncomputable def rdInt65 : Am.Rd Tryd.prog Int := Am.Rd.int .u64 65 Tryd.underlying65 (by kernel_rfl)
noncomputable def rdStr9 : Am.Rd Tryd.prog ByteArray := Am.Rd.str 9 Tryd.underlying9 (by kernel_rfl)
noncomputable def rd67 : Am.Rd Tryd.prog Pkt := Am.Rd.struct (Am.RdF.cons rdInt (Am.RdF.cons rdInt (Am.RdF.cons rdInt (Am.RdF.cons rdInt (Am.RdF.cons rdInt (Am.RdF.cons rdInt (Am.RdF.cons rdInt (Am.RdF.cons rdInt (Am.RdF.cons rdInt65 (Am.RdF.cons rdStr9 Am.RdF.nil)))))))))) 67 (by kernel_rfl) (by decide) (fun a => (⟨a.1, a.2.1, a.2.2.1, a.2.2.2.1, a.2.2.2.2.1, a.2.2.2.2.2.1, a.2.2.2.2.2.2.1, a.2.2.2.2.2.2.2.1, a.2.2.2.2.2.2.2.2.1, a.2.2.2.2.2.2.2.2.2.1⟩ : Pkt)) (fun b => (b.mode, b.sub, b.set, b.len, b.ttl, b.ent, b.ing, b.proto, b.bits, b.pay, ())) (fun _ => rfl)
noncomputable def rd142 : Am.Rd Tryd.prog Dlr := Am.Rd.struct (Am.RdF.cons rdInt (Am.RdF.cons rd67 Am.RdF.nil)) 142 (by kernel_rfl) (by decide) (fun a => (⟨a.1, a.2.1.mode, a.2.1.sub, a.2.1.set, a.2.1.len, a.2.1.ttl, a.2.1.ent, a.2.1.ing, a.2.1.proto, a.2.1.bits, a.2.1.pay⟩ : Dlr)) (fun b => (b.router, ⟨b.mode, b.sub, b.set, b.len, b.ttl, b.ent, b.ing, b.proto, b.bits, b.pay⟩, ())) (fun _ => rfl)
noncomputable def rd56 : Am.Rd Tryd.prog (List Dlr) := Am.Rd.slice rd142 56 Tryd.underlying56 (by kernel_rfl)
noncomputable def rd139 : Am.Rd Tryd.prog Crs := Am.Rd.struct (Am.RdF.cons rdInt (Am.RdF.cons rdInt (Am.RdF.cons rdInt65 Am.RdF.nil))) 139 (by kernel_rfl) (by decide) (fun a => (⟨a.1, a.2.1, a.2.2.1⟩ : Crs)) (fun b => (b.frm, b.to, b.bits, ())) (fun _ => rfl)
noncomputable def rd57 : Am.Rd Tryd.prog (List Crs) := Am.Rd.slice rd139 57 Tryd.underlying57 (by kernel_rfl)
noncomputable def rd131 : Am.Rd Tryd.prog Los := Am.Rd.struct (Am.RdF.cons rdInt (Am.RdF.cons rdInt65 Am.RdF.nil)) 131 (by kernel_rfl) (by decide) (fun a => (⟨a.1, a.2.1⟩ : Los)) (fun b => (b.router, b.bits, ())) (fun _ => rfl)
noncomputable def rd58 : Am.Rd Tryd.prog (List Los) := Am.Rd.slice rd131 58 Tryd.underlying58 (by kernel_rfl)
noncomputable def rd60 : Am.Rd Tryd.prog Trc := Am.Rd.struct (Am.RdF.cons rd56 (Am.RdF.cons rd57 (Am.RdF.cons rd58 Am.RdF.nil))) 60 (by kernel_rfl) (by decide) (fun a => (⟨a.1, a.2.1, a.2.2.1⟩ : Trc)) (fun b => (b.dl, b.cr, b.lo, ())) (fun _ => rfl)
/-- The settled world, but the listed tables hold what their initialisers lay. -/
noncomputable def laidWorld (os : Os) : World :=
  let w0 := World.holding Tryd.prog os ⟨#[], #[], []⟩
  let put := fun (cs : Array Value) (o : Obj) => match o with
    | .cells _ t frozen => Obj.cells cs t frozen
    | o => o
  { w0 with heap := (((w0.heap).modify 3 (put #[.int .u8 0, .int .u8 1, .int .u8 28, .int .u8 2, .int .u8 29, .int .u8 14, .int .u8 24, .int .u8 3, .int .u8 30, .int .u8 22, .int .u8 20, .int .u8 15, .int .u8 25, .int .u8 17, .int .u8 4, .int .u8 8, .int .u8 31, .int .u8 27, .int .u8 13, .int .u8 23, .int .u8 21, .int .u8 19, .int .u8 16, .int .u8 7, .int .u8 26, .int .u8 12, .int .u8 18, .int .u8 6, .int .u8 11, .int .u8 5, .int .u8 10, .int .u8 9])).modify 0 (put #[.int .u8 0, .int .u8 1, .int .u8 56, .int .u8 2, .int .u8 57, .int .u8 49, .int .u8 28, .int .u8 3, .int .u8 61, .int .u8 58, .int .u8 42, .int .u8 50, .int .u8 38, .int .u8 29, .int .u8 17, .int .u8 4, .int .u8 62, .int .u8 47, .int .u8 59, .int .u8 36, .int .u8 45, .int .u8 43, .int .u8 51, .int .u8 22, .int .u8 53, .int .u8 39, .int .u8 33, .int .u8 30, .int .u8 24, .int .u8 18, .int .u8 12, .int .u8 5, .int .u8 63, .int .u8 55, .int .u8 48, .int .u8 27, .int .u8 60, .int .u8 41, .int .u8 37, .int .u8 16, .int .u8 46, .int .u8 35, .int .u8 44, .int .u8 21, .int .u8 52, .int .u8 32, .int .u8 23, .int .u8 11, .int .u8 54, .int .u8 26, .int .u8 40, .int .u8 15, .int .u8 34, .int .u8 20, .int .u8 31, .int .u8 10, .int .u8 25, .int .u8 14, .int .u8 19, .int .u8 9, .int .u8 13, .int .u8 8, .int .u8 7, .int .u8 6])).modify 1 (put #[.int .u64 1, .int .u64 10, .int .u64 100, .int .u64 1000, .int .u64 10000, .int .u64 100000, .int .u64 1000000, .int .u64 10000000, .int .u64 100000000, .int .u64 1000000000, .int .u64 10000000000, .int .u64 100000000000, .int .u64 1000000000000, .int .u64 10000000000000, .int .u64 100000000000000, .int .u64 1000000000000000, .int .u64 10000000000000000, .int .u64 100000000000000000, .int .u64 1000000000000000000, .int .u64 10000000000000000000]) }
theorem laid_met (os : Os) (args : Array Value) : laidMet Tryd.prog Rows.consoleTracesRow.laid ((laidWorld os).forCall (fun _ _ => 0) ⟨#[], args, []⟩).memory :=
  laidMet_of_run' 8 (by kernel_rfl) (by kernel_rfl)
theorem table {W : World} (h : laidMet Tryd.prog Rows.consoleTracesRow.laid W) : Lib.TabIs Tryd.prog W "internal/strconv.uint64pow10" .u64 Lib.pow10Tab := by
  have h := h.filter fun x => x.1 == "internal/strconv.uint64pow10"
  have e : (Rows.consoleTracesRow.laid).filter (fun x => x.1 == "internal/strconv.uint64pow10") = [("internal/strconv.uint64pow10", Lib.tabData .u64 Lib.pow10Tab)] := by kernel_rfl
  rw [e] at h
  exact Lib.tabIs_of_head (g := 1) (t := 188) (e := 65) (n := 20) (by kernel_rfl) (by kernel_rfl) (by kernel_rfl) (by kernel_rfl) (by kernel_rfl) (by kernel_rfl) h
theorem table2 {W : World} (h : laidMet Tryd.prog Rows.consoleTracesRow.laid W) : Lib.TabIs Tryd.prog W "math/bits.deBruijn64tab" .u8 (Lib.deBruijn64tab.map Int.ofNat) := by
  have h := h.filter fun x => x.1 == "math/bits.deBruijn64tab"
  have e : (Rows.consoleTracesRow.laid).filter (fun x => x.1 == "math/bits.deBruijn64tab") = [("math/bits.deBruijn64tab", Lib.tabData .u8 (Lib.deBruijn64tab.map Int.ofNat))] := by kernel_rfl
  rw [e] at h
  exact Lib.tabIs_of_head (g := 0) (t := 186) (e := 5) (n := 64) (by kernel_rfl) (by kernel_rfl) (by kernel_rfl) (by kernel_rfl) (by kernel_rfl) (by kernel_rfl) h
set_option maxRecDepth 100000 in
theorem lifted (os : Os) (started : os.Started) (H : Type) (enc : TypeId × Value → H) :
    ReturnsInHanded {} Tryd.checked os 4 .any (fun w args => (Rows.consoleTracesSpec.pre enc Tryd.prog Tryd.f4 Rows.consoleTracesRow.domain false w args ∧ laidMet Tryd.prog Rows.consoleTracesRow.laid w) ∧ sizedMet enc Tryd.prog Tryd.f4 (OpenSpec.ofChange Rows.consoleTracesSpec) false w args)
      (Rows.consoleTracesSpec.post enc Tryd.prog Tryd.f4 false true false false) := by
  refine returnsInHanded_of_change_and (C := Tryd.checked) (X := fun w _ => laidMet Tryd.prog Rows.consoleTracesRow.laid w) (fun _ _ _ hh h => h.of_heap hh) own started (by kernel_rfl) Tryd.func4
    (ChangeSpec.witness_at (enc := enc) (C := Tryd.checked) (os := os) (X := fun w _ => laidMet Tryd.prog Rows.consoleTracesRow.laid w) false (laidWorld os) #[.slice none 0 0, .agg #[.slice none 0 0, .slice none 0 0, .slice none 0 0]] 8 rfl (by kernel_rfl) (by kernel_rfl) (by kernel_rfl) (by kernel_rfl) (by kernel_rfl) (laid_met os _)) ?_
  intro W base args ds gs before hval0 hW hcnd0 _ hL _
  have hval : ∀ (j : Nat) t v, Tryd.f4.params[j]? = some t → args[j]? = some v → Value.okWide Tryd.prog W .any base t v := hval0
  have hW' := hW
  obtain ⟨p, q, hA0, hV, rfl, hfz, hnd⟩ := hW
  have hA : DataW.TrodAll enc Tryd.prog W 0 (fun _ => true) true Tryd.f4.params.toList args.toList ds p := hA0
  rw [Tryd.params4] at hA hval
  obtain ⟨v0, vs0, d0, ds0, p0, q0, hargs, rfl, rfl, h0, r0⟩ := trodAll_cons hA
  obtain ⟨v1, vs1, d1, ds1, p1, q1, rfl, rfl, rfl, h1, r1⟩ := trodAll_cons r0
  obtain ⟨rfl, rfl, rfl⟩ := trodAll_nil r1
  obtain rfl : args = #[v0, v1] := by cases args; simp_all
  obtain ⟨rfl, rfl⟩ := trodVars_none hV
  have k0 := h0
  have lt0 : ∀ x ∈ p0, x.block < W.heap.size := by obtain ⟨m, hm⟩ := k0; exact DataW.trod_lt m _ _ _ hm
  have k1 := h1
  have lt1 : ∀ x ∈ p1, x.block < W.heap.size := by obtain ⟨m, hm⟩ := k1; exact DataW.trod_lt m _ _ _ hm
  obtain ⟨s0, w0, z0⟩ := Am.Rd.argL rdInt Tryd.underlying22 (hval 0 22 v0 rfl rfl) 0 h0
  obtain ⟨s1, w1, z1⟩ := Am.Rd.argS (f := (Am.RdF.cons rd56 (Am.RdF.cons rd57 (Am.RdF.cons rd58 Am.RdF.nil)))) (hf := by kernel_rfl) (hp := by decide) (mk := (fun a => (⟨a.1, a.2.1, a.2.2.1⟩ : Trc))) (un := (fun b => (b.dl, b.cr, b.lo, ()))) (hu := fun _ => rfl) Tryd.underlying60 (hval 1 60 v1 rfl rfl) 0 h1
  clear hA0 hval0
  have hG : Am.LtOk Tryd.prog (Am.Old W) W := Am.LtOk.tab (table hL) (fun _ _ => table2 hL) (fun g => Am.gvAll_none (by kernel_rfl) g)
  have walk := (tracL_c s0 s1).ok.belowB (w := W) hG (cargs := [v0, v1]) ⟨_, _, rfl, w0, _, _, rfl, w1, rfl⟩
  refine walk.mono fun e W' ⟨he, bel⟩ => ?_
  subst he
  exact ⟨_, rfl, _, _, _, [], _, [], hW', trodAll_mk1 (shut_bool Tryd.underlying4 _),
    (trodAll_cons_mk (Below.trod laidOut (by kernel_rfl) (of_decide_eq_true (by kernel_rfl)) k0 bel lt0) (trodAll_cons_mk (Below.trod laidOut (by kernel_rfl) (of_decide_eq_true (by kernel_rfl)) k1 bel lt1) trodAll_mk0)), rfl, bel.frame _, fun h => by cases h⟩

theorem andT {a b : Bool} (h : a = true) (k : b = true) : (a && b) = true := by rw [h, k]; rfl
set_option maxHeartbeats 4000000 in
theorem closedF : joinedFacts Tryd.pinned.checked.prog 4 Tryd.f4 Rows.consoleTracesSpec Rows.consoleTracesRow = true := by
  unfold joinedFacts
  repeat' (with_reducible refine andT ?_ ?_)
  all_goals as_aux_lemma => kernel_rfl
theorem over : Rows.ConsoleTracesSaid :=
  OpenClaim.holds_of_wide 4 Tryd.f4 rfl rfl rfl rfl rfl rfl rfl ⟨rfl, rfl, rfl, rfl, rfl⟩ rfl rfl rfl rfl rfl (by kernel_rfl) Tryd.func4 closedF
    (of_decide_eq_true (by kernel_rfl)) (by unfold Func.isWrapper; first | (rw [if_pos (by decide +kernel)]; kernel_rfl) | (rw [if_neg (by decide +kernel)]; exact ⟨rfl, rfl⟩))
    (fun os started H enc _ => lifted os started H enc)

/-- ████ THE STATEMENT ████ -/
theorem proved : Rows.ConsoleTracesCardSaid :=
  Claim7.holds_tied_plain_at .later [] _ _ _ _ over (fun _ h => by cases h) (by kernel_rfl) (fun _ h => by cases h) consoleTraces_row_tie rfl ⟨rfl, rfl⟩ (by kernel_rfl) rfl
    (fun f fn hf hfn => by
      obtain rfl : f = 4 := Option.some.inj ((show Tryd.prog.funcNamed "bitcast/bitcastlaw42.ConsoleTraces" = some 4 by kernel_rfl).symm.trans hf) |>.symm
      obtain rfl : fn = Tryd.f4 := (Option.some.inj (Tryd.func4.symm.trans hfn)).symm
      exact ⟨by kernel_rfl, fun j t ht => by
        rw [Tryd.params4] at ht
        rcases j with _ | _ | j
        · have h : t = 22 := by simpa using ht.symm
          subst h; exact (show Tryd.prog.wantsStandIn 22 = false by kernel_rfl)
        · have h : t = 60 := by simpa using ht.symm
          subst h; exact (show Tryd.prog.wantsStandIn 60 = false by kernel_rfl)
        · simp at ht⟩)
    (by kernel_rfl)
#print axioms proved
end Go.Proofs.YteooglpnechplaaDoor.consoleTraces
