/-
  PROVED: The law of ConsoleTexts returns true for all arguments of a bulk of at most 1048576.
  The conditions are those of the given statement, and none else.
-/
import Derived.Test.YthhpaedpnjdnbaaDoorRows
import Derived.SevenTiedAt
import Derived.Test.YthhpaedpnjdnbaaDoorCards
import Derived.Test.YthhpaedpnjdnbaaDoorTie
import Derived.WalkKit
import Derived.ProofKit
import Derived.OpenShut
import Derived.ShutString
import Derived.ChangeOld
import Derived.Below
import Derived.LaidLaws
import Derived.Handed
import Derived.LaidSub
import Derived.Deep.DeepHandedRow
import Derived.Lib.LaidTab
import Derived.Test.YthhpaedpnjdnbaaDoorQY5
namespace Go.Proofs.YthhpaedpnjdnbaaDoor.consoleTexts
open Go Go.ChangeShapes Go.WideShapes Go.ChangeAt Go.RowKit
set_option linter.unusedVariables false

theorem own : ownKnob Tryd.prog.godebug = none := by kernel_rfl
theorem laidOut : laidOutB Tryd.prog = true := by kernel_rfl
noncomputable def rdInt : Am.Rd Tryd.prog Int := Am.Rd.int .i64 3 Tryd.underlying3 (by kernel_rfl)
noncomputable def rd22 : Am.Rd Tryd.prog (List Int) := Am.Rd.slice rdInt 22 Tryd.underlying22 (by kernel_rfl)
noncomputable def rd26 : Am.Rd Tryd.prog Flt := Am.Rd.struct (Am.RdF.cons rdInt (Am.RdF.cons rd22 Am.RdF.nil)) 26 (by kernel_rfl) (by decide) (fun a => (⟨a.1, a.2.1⟩ : Flt)) (fun b => (b.mode, b.srcs, ())) (fun _ => rfl)
noncomputable def rd94 : Am.Rd Tryd.prog Wnt := Am.Rd.struct (Am.RdF.cons rdInt (Am.RdF.cons rd26 Am.RdF.nil)) 94 (by kernel_rfl) (by decide) (fun a => (⟨a.1, a.2.1.mode, a.2.1.srcs⟩ : Wnt)) (fun b => (b.grp, ⟨b.mode, b.srcs⟩, ())) (fun _ => rfl)
noncomputable def rd101 : Am.Rd Tryd.prog Hop := Am.Rd.struct (Am.RdF.cons rdInt (Am.RdF.cons rdInt Am.RdF.nil)) 101 (by kernel_rfl) (by decide) (fun a => (⟨a.1, a.2.1⟩ : Hop)) (fun b => (b.a, b.b, ())) (fun _ => rfl)
noncomputable def rd38 : Am.Rd Tryd.prog (List Hop) := Am.Rd.slice rd101 38 Tryd.underlying38 (by kernel_rfl)
noncomputable def rd40 : Am.Rd Tryd.prog Tre := Am.Rd.struct (Am.RdF.cons rdInt (Am.RdF.cons rd38 Am.RdF.nil)) 40 (by kernel_rfl) (by decide) (fun a => (⟨a.1, a.2.1⟩ : Tre)) (fun b => (b.root, b.ls, ())) (fun _ => rfl)
noncomputable def rd145 : Am.Rd Tryd.prog Flw := Am.Rd.struct (Am.RdF.cons rdInt (Am.RdF.cons rdInt Am.RdF.nil)) 145 (by kernel_rfl) (by decide) (fun a => (⟨a.1, a.2.1⟩ : Flw)) (fun b => (b.src, b.grp, ())) (fun _ => rfl)
noncomputable def rdStr9 : Am.Rd Tryd.prog ByteArray := Am.Rd.str 9 Tryd.underlying9 (by kernel_rfl)
noncomputable def rd147 : Am.Rd Tryd.prog Rcp := Am.Rd.struct (Am.RdF.cons rdInt (Am.RdF.cons rdInt (Am.RdF.cons rd145 (Am.RdF.cons rdStr9 Am.RdF.nil)))) 147 (by kernel_rfl) (by decide) (fun a => (⟨a.1, a.2.1, a.2.2.1.src, a.2.2.1.grp, a.2.2.2.1⟩ : Rcp)) (fun b => (b.host, b.router, ⟨b.src, b.grp⟩, b.data, ())) (fun _ => rfl)
noncomputable def rd150 : Am.Rd Tryd.prog Fnd := Am.Rd.struct (Am.RdF.cons rdInt (Am.RdF.cons rdInt (Am.RdF.cons rdInt (Am.RdF.cons rdInt Am.RdF.nil)))) 150 (by kernel_rfl) (by decide) (fun a => (⟨a.1, a.2.1, a.2.2.1, a.2.2.2.1⟩ : Fnd)) (fun b => (b.kind, b.router, b.id, b.got, ())) (fun _ => rfl)
noncomputable def rdBool4 : Am.Rd Tryd.prog Bool := Am.Rd.bool 4 Tryd.underlying4 (by kernel_rfl)
noncomputable def rd49 : Am.Rd Tryd.prog Aud := Am.Rd.struct (Am.RdF.cons rdInt (Am.RdF.cons rdBool4 (Am.RdF.cons rdInt (Am.RdF.cons rdInt (Am.RdF.cons rdInt Am.RdF.nil))))) 49 (by kernel_rfl) (by decide) (fun a => (⟨a.1, a.2.1, a.2.2.1, a.2.2.2.1, a.2.2.2.2.1⟩ : Aud)) (fun b => (b.ev, b.st, b.mis, b.frn, b.rep, ())) (fun _ => rfl)
/-- The settled world, but the listed tables hold what their initialisers lay. -/
noncomputable def laidWorld (os : Os) : World :=
  let w0 := World.holding Tryd.prog os ⟨#[], #[], []⟩
  let put := fun (cs : Array Value) (o : Obj) => match o with
    | .cells _ t frozen => Obj.cells cs t frozen
    | o => o
  { w0 with heap := (((w0.heap).modify 3 (put #[.int .u8 0, .int .u8 1, .int .u8 28, .int .u8 2, .int .u8 29, .int .u8 14, .int .u8 24, .int .u8 3, .int .u8 30, .int .u8 22, .int .u8 20, .int .u8 15, .int .u8 25, .int .u8 17, .int .u8 4, .int .u8 8, .int .u8 31, .int .u8 27, .int .u8 13, .int .u8 23, .int .u8 21, .int .u8 19, .int .u8 16, .int .u8 7, .int .u8 26, .int .u8 12, .int .u8 18, .int .u8 6, .int .u8 11, .int .u8 5, .int .u8 10, .int .u8 9])).modify 0 (put #[.int .u8 0, .int .u8 1, .int .u8 56, .int .u8 2, .int .u8 57, .int .u8 49, .int .u8 28, .int .u8 3, .int .u8 61, .int .u8 58, .int .u8 42, .int .u8 50, .int .u8 38, .int .u8 29, .int .u8 17, .int .u8 4, .int .u8 62, .int .u8 47, .int .u8 59, .int .u8 36, .int .u8 45, .int .u8 43, .int .u8 51, .int .u8 22, .int .u8 53, .int .u8 39, .int .u8 33, .int .u8 30, .int .u8 24, .int .u8 18, .int .u8 12, .int .u8 5, .int .u8 63, .int .u8 55, .int .u8 48, .int .u8 27, .int .u8 60, .int .u8 41, .int .u8 37, .int .u8 16, .int .u8 46, .int .u8 35, .int .u8 44, .int .u8 21, .int .u8 52, .int .u8 32, .int .u8 23, .int .u8 11, .int .u8 54, .int .u8 26, .int .u8 40, .int .u8 15, .int .u8 34, .int .u8 20, .int .u8 31, .int .u8 10, .int .u8 25, .int .u8 14, .int .u8 19, .int .u8 9, .int .u8 13, .int .u8 8, .int .u8 7, .int .u8 6])).modify 1 (put #[.int .u64 1, .int .u64 10, .int .u64 100, .int .u64 1000, .int .u64 10000, .int .u64 100000, .int .u64 1000000, .int .u64 10000000, .int .u64 100000000, .int .u64 1000000000, .int .u64 10000000000, .int .u64 100000000000, .int .u64 1000000000000, .int .u64 10000000000000, .int .u64 100000000000000, .int .u64 1000000000000000, .int .u64 10000000000000000, .int .u64 100000000000000000, .int .u64 1000000000000000000, .int .u64 10000000000000000000]) }
theorem laid_met (os : Os) (args : Array Value) : laidMet Tryd.prog Rows.consoleTextsUptoRow.laid ((laidWorld os).forCall (fun _ _ => 0) ⟨#[], args, []⟩).memory :=
  laidMet_of_run' 8 (by kernel_rfl) (by kernel_rfl)
theorem table {W : World} (h : laidMetH Tryd.prog Rows.consoleTextsUptoRow.laid W) : Lib.TabIs Tryd.prog W "internal/strconv.uint64pow10" .u64 Lib.pow10Tab := by
  have h := h.filter fun x => x.1 == "internal/strconv.uint64pow10"
  have e : (Rows.consoleTextsUptoRow.laid).filter (fun x => x.1 == "internal/strconv.uint64pow10") = [("internal/strconv.uint64pow10", Lib.tabData .u64 Lib.pow10Tab)] := by kernel_rfl
  rw [e] at h
  exact Lib.tabIs_of_head (g := 1) (t := 188) (e := 65) (n := 20) (by kernel_rfl) (by kernel_rfl) (by kernel_rfl) (by kernel_rfl) (by kernel_rfl) (by kernel_rfl) h
theorem one_le {H : Type} (d : DataW H) : 1 ≤ Rows.uptoBulk d := by
  cases d with
  | lit l => cases l <;> simp [Rows.uptoBulk]
  | _ => simp [Rows.uptoBulk]
theorem part_le {H : Type} {d : DataW H} {l : List (DataW H)} (h : d ∈ l) : Rows.uptoBulk d ≤ Rows.uptoBulkAll l := by
  induction l with
  | nil => cases h
  | cons x r ih =>
    simp only [Rows.uptoBulkAll]
    cases List.mem_cons.1 h with
    | inl e => subst e; omega
    | inr e => have := ih e; omega
theorem length_le {H : Type} (l : List (DataW H)) : l.length ≤ Rows.uptoBulkAll l := by
  induction l with
  | nil => simp
  | cons x r ih => have := one_le x; simp only [Rows.uptoBulkAll, List.length_cons]; omega
theorem small_of {H : Type} {B : Nat} : ∀ (n : Nat) (d : DataW H), Rows.uptoBulk d ≤ n → n ≤ B → Am.Small B d
  | 0, d, h, _ => absurd (one_le d) (by omega)
  | n + 1, d, h, hn => by
    cases d with
    | slice es sp =>
      simp only [Rows.uptoBulk] at h
      exact .slice es sp (by have := length_le es; omega) fun d hd => small_of n d (by have := part_le hd; omega) (by omega)
    | agg ps =>
      simp only [Rows.uptoBulk] at h
      exact .agg ps fun d hd => small_of n d (by have := part_le hd; omega) (by omega)
    | lit l => exact .lit l
    | nil => exact .nil
    | ptr d => exact .ptr d
    | iface t d => exact .iface t d
    | map e => exact .map e
    | held _ => exact .held _
theorem smalls {H : Type} {l : List (DataW H)} (h : Rows.uptoSmall H l = true) : ∀ d ∈ l, Am.Small 1048576 d := fun d hd =>
  small_of 1048576 d (Nat.le_trans (part_le hd) (of_decide_eq_true h)) (Nat.le_refl _)
theorem reads (os : Os) {H : Type} (enc : TypeId × Value → H) : ∃ places, DataW.whole enc Tryd.prog ((laidWorld os).forCall (fun _ _ => 0) ⟨#[], #[.slice none 0 0, .agg #[.int .i64 0, .slice none 0 0], .slice none 0 0, .agg #[.int .i64 0, .slice none 0 0], .slice none 0 0, .slice none 0 0, .slice none 0 0], []⟩).memory Tryd.f5.params.toList Rows.consoleTextsSpec.vars false (#[.slice none 0 0, .agg #[.int .i64 0, .slice none 0 0], .slice none 0 0, .agg #[.int .i64 0, .slice none 0 0], .slice none 0 0, .slice none 0 0, .slice none 0 0] : Array Value).toList 8 = some ([.nil, .agg [.lit (.int .i64 0), .nil], .nil, .agg [.lit (.int .i64 0), .nil], .nil, .nil, .nil], [], places) :=
  ⟨[], by kernel_rfl⟩
set_option maxRecDepth 100000 in
theorem lifted (os : Os) (started : os.Started) (H : Type) (enc : TypeId × Value → H) (F : Stop.Interp) :
    ReturnsInHanded {} Tryd.checked os 5 .any ((Rows.OpenSpec.upto Rows.consoleTextsSpec).preRow enc Tryd.prog Tryd.f5 Rows.consoleTextsUptoRow.domain false Rows.consoleTextsUptoRow.laid) (((Rows.OpenSpec.upto Rows.consoleTextsSpec).at F).post enc Tryd.prog Tryd.f5 false true false false) := by
  obtain ⟨places, hx⟩ := reads os enc
  refine returnsInHanded_of_row (C := Tryd.checked) (s := Rows.OpenSpec.upto Rows.consoleTextsSpec) own started (by kernel_rfl) Tryd.func5
    (witness_row_at (enc := enc) (C := Tryd.checked) false (laidWorld os) #[.slice none 0 0, .agg #[.int .i64 0, .slice none 0 0], .slice none 0 0, .agg #[.int .i64 0, .slice none 0 0], .slice none 0 0, .slice none 0 0, .slice none 0 0] rfl (by kernel_rfl) (by kernel_rfl) (by kernel_rfl)
      (OpenSpec.preRow_of_cond 8 hx (by kernel_rfl) (fun k hk => by cases hk; kernel_rfl) (by kernel_rfl) (laid_met os _))) ?_
  intro W base args ds gs before hval0 hW hcnd0 hcond _ hL _ _
  have hsm := smalls (hcond _ rfl)
  have hval : ∀ (j : Nat) t v, Tryd.f5.params[j]? = some t → args[j]? = some v → Value.okWide Tryd.prog W .any base t v := hval0
  have hW' := hW
  obtain ⟨p, q, hA0, hV, rfl, hfz, hnd⟩ := hW
  have hA : DataW.TrodAll enc Tryd.prog W 0 (fun _ => true) true Tryd.f5.params.toList args.toList ds p := hA0
  rw [Tryd.params5] at hA hval
  obtain ⟨v0, vs0, d0, ds0, p0, q0, hargs, rfl, rfl, h0, r0⟩ := trodAll_cons hA
  obtain ⟨v1, vs1, d1, ds1, p1, q1, rfl, rfl, rfl, h1, r1⟩ := trodAll_cons r0
  obtain ⟨v2, vs2, d2, ds2, p2, q2, rfl, rfl, rfl, h2, r2⟩ := trodAll_cons r1
  obtain ⟨v3, vs3, d3, ds3, p3, q3, rfl, rfl, rfl, h3, r3⟩ := trodAll_cons r2
  obtain ⟨v4, vs4, d4, ds4, p4, q4, rfl, rfl, rfl, h4, r4⟩ := trodAll_cons r3
  obtain ⟨v5, vs5, d5, ds5, p5, q5, rfl, rfl, rfl, h5, r5⟩ := trodAll_cons r4
  obtain ⟨v6, vs6, d6, ds6, p6, q6, rfl, rfl, rfl, h6, r6⟩ := trodAll_cons r5
  obtain ⟨rfl, rfl, rfl⟩ := trodAll_nil r6
  obtain rfl : args = #[v0, v1, v2, v3, v4, v5, v6] := by cases args; simp_all
  obtain ⟨rfl, rfl⟩ := trodVars_none hV
  have k0 := h0
  have lt0 : ∀ x ∈ p0, x.block < W.heap.size := by obtain ⟨m, hm⟩ := k0; exact DataW.trod_lt m _ _ _ hm
  have k1 := h1
  have lt1 : ∀ x ∈ p1, x.block < W.heap.size := by obtain ⟨m, hm⟩ := k1; exact DataW.trod_lt m _ _ _ hm
  have k2 := h2
  have lt2 : ∀ x ∈ p2, x.block < W.heap.size := by obtain ⟨m, hm⟩ := k2; exact DataW.trod_lt m _ _ _ hm
  have k3 := h3
  have lt3 : ∀ x ∈ p3, x.block < W.heap.size := by obtain ⟨m, hm⟩ := k3; exact DataW.trod_lt m _ _ _ hm
  have k4 := h4
  have lt4 : ∀ x ∈ p4, x.block < W.heap.size := by obtain ⟨m, hm⟩ := k4; exact DataW.trod_lt m _ _ _ hm
  have k5 := h5
  have lt5 : ∀ x ∈ p5, x.block < W.heap.size := by obtain ⟨m, hm⟩ := k5; exact DataW.trod_lt m _ _ _ hm
  have k6 := h6
  have lt6 : ∀ x ∈ p6, x.block < W.heap.size := by obtain ⟨m, hm⟩ := k6; exact DataW.trod_lt m _ _ _ hm
  obtain ⟨s0, w0, z0⟩ := Am.Rd.argL rdInt Tryd.underlying22 (hval 0 22 v0 rfl rfl) 1048576 h0
  obtain ⟨s1, w1, z1⟩ := Am.Rd.argS (f := (Am.RdF.cons rdInt (Am.RdF.cons rd22 Am.RdF.nil))) (hf := by kernel_rfl) (hp := by decide) (mk := (fun a => (⟨a.1, a.2.1⟩ : Flt))) (un := (fun b => (b.mode, b.srcs, ()))) (hu := fun _ => rfl) Tryd.underlying26 (hval 1 26 v1 rfl rfl) 1048576 h1
  obtain ⟨s2, w2, z2⟩ := Am.Rd.argL rd94 Tryd.underlying28 (hval 2 28 v2 rfl rfl) 1048576 h2
  obtain ⟨s3, w3, z3⟩ := Am.Rd.argS (f := (Am.RdF.cons rdInt (Am.RdF.cons rd38 Am.RdF.nil))) (hf := by kernel_rfl) (hp := by decide) (mk := (fun a => (⟨a.1, a.2.1⟩ : Tre))) (un := (fun b => (b.root, b.ls, ()))) (hu := fun _ => rfl) Tryd.underlying40 (hval 3 40 v3 rfl rfl) 1048576 h3
  obtain ⟨s4, w4, z4⟩ := Am.Rd.argL rd147 Tryd.underlying79 (hval 4 79 v4 rfl rfl) 1048576 h4
  obtain ⟨s5, w5, z5⟩ := Am.Rd.argL rd150 Tryd.underlying80 (hval 5 80 v5 rfl rfl) 1048576 h5
  obtain ⟨s6, w6, z6⟩ := Am.Rd.argL rd49 Tryd.underlying50 (hval 6 50 v6 rfl rfl) 1048576 h6
  clear hA0 hval0
  have hG : Am.LtOk Tryd.prog (Am.Old W) W := Am.LtOk.tab (table hL) (fun g => Am.gvAll_none (by kernel_rfl) g)
  have walk := (textsL_c s0 s1 s2 s3 s4 s5 s6 (fun y hy => ((z2 (hsm d2 (by simp))).2 y hy).2.1.2.1.1)).ok.belowB (w := W) hG (cargs := [v0, v1, v2, v3, v4, v5, v6]) ⟨_, _, rfl, w0, _, _, rfl, w1, _, _, rfl, w2, _, _, rfl, w3, _, _, rfl, w4, _, _, rfl, w5, _, _, rfl, w6, rfl⟩
  refine walk.mono fun e W' ⟨he, bel⟩ => ?_
  subst he
  exact ⟨_, rfl, _, _, _, [], _, [], hW', trodAll_mk1 (shut_bool Tryd.underlying4 _),
    (trodAll_cons_mk (Below.trod laidOut (by kernel_rfl) (of_decide_eq_true (by kernel_rfl)) k0 bel lt0) (trodAll_cons_mk (Below.trod laidOut (by kernel_rfl) (of_decide_eq_true (by kernel_rfl)) k1 bel lt1) (trodAll_cons_mk (Below.trod laidOut (by kernel_rfl) (of_decide_eq_true (by kernel_rfl)) k2 bel lt2) (trodAll_cons_mk (Below.trod laidOut (by kernel_rfl) (of_decide_eq_true (by kernel_rfl)) k3 bel lt3) (trodAll_cons_mk (Below.trod laidOut (by kernel_rfl) (of_decide_eq_true (by kernel_rfl)) k4 bel lt4) (trodAll_cons_mk (Below.trod laidOut (by kernel_rfl) (of_decide_eq_true (by kernel_rfl)) k5 bel lt5) (trodAll_cons_mk (Below.trod laidOut (by kernel_rfl) (of_decide_eq_true (by kernel_rfl)) k6 bel lt6) trodAll_mk0))))))), rfl, bel.frame _, fun h => by cases h⟩

theorem andT {a b : Bool} (h : a = true) (k : b = true) : (a && b) = true := by rw [h, k]; rfl
set_option maxHeartbeats 4000000 in
theorem closedF : joinedFacts Tryd.pinned.checked.prog 5 Tryd.f5 (Rows.OpenSpec.upto Rows.consoleTextsSpec).bare Rows.consoleTextsUptoRow = true := by
  unfold joinedFacts
  repeat' (with_reducible refine andT ?_ ?_)
  all_goals as_aux_lemma => kernel_rfl
theorem over : Rows.ConsoleTextsUptoSaid :=
  OpenClaim.holds_of_cond 5 Tryd.f5 rfl rfl rfl rfl rfl rfl rfl ⟨rfl, rfl, rfl, rfl, rfl⟩ rfl rfl rfl rfl rfl (by kernel_rfl) Tryd.func5 closedF
    (of_decide_eq_true (by kernel_rfl)) (by unfold Func.isWrapper; first | (rw [if_pos (by decide +kernel)]; kernel_rfl) | (rw [if_neg (by decide +kernel)]; exact ⟨rfl, rfl⟩))
    (fun os started H enc _ F => by rw [OpenClaim.pre_eq_preRow]; exact lifted os started H enc F)

/-- ████ THE STATEMENT ████ -/
theorem proved : Rows.ConsoleTextsUptoCardSaid :=
  Claim7.holds_tied_plain_at .later [] _ _ _ _ over (fun _ h => by cases h) (by kernel_rfl) (fun _ h => by cases h) consoleTextsUpto_row_tie rfl ⟨rfl, rfl⟩ (by kernel_rfl) rfl
    (fun f fn hf hfn => by
      obtain rfl : f = 5 := Option.some.inj ((show Tryd.prog.funcNamed "bitcast/bitcastlaw42.ConsoleTexts" = some 5 by kernel_rfl).symm.trans hf) |>.symm
      obtain rfl : fn = Tryd.f5 := (Option.some.inj (Tryd.func5.symm.trans hfn)).symm
      exact ⟨by kernel_rfl, fun j t ht => by
        rw [Tryd.params5] at ht
        rcases j with _ | _ | _ | _ | _ | _ | _ | j
        · have h : t = 22 := by simpa using ht.symm
          subst h; exact (show Tryd.prog.wantsStandIn 22 = false by kernel_rfl)
        · have h : t = 26 := by simpa using ht.symm
          subst h; exact (show Tryd.prog.wantsStandIn 26 = false by kernel_rfl)
        · have h : t = 28 := by simpa using ht.symm
          subst h; exact (show Tryd.prog.wantsStandIn 28 = false by kernel_rfl)
        · have h : t = 40 := by simpa using ht.symm
          subst h; exact (show Tryd.prog.wantsStandIn 40 = false by kernel_rfl)
        · have h : t = 79 := by simpa using ht.symm
          subst h; exact (show Tryd.prog.wantsStandIn 79 = false by kernel_rfl)
        · have h : t = 80 := by simpa using ht.symm
          subst h; exact (show Tryd.prog.wantsStandIn 80 = false by kernel_rfl)
        · have h : t = 50 := by simpa using ht.symm
          subst h; exact (show Tryd.prog.wantsStandIn 50 = false by kernel_rfl)
        · simp at ht⟩)
    (by kernel_rfl)
#print axioms proved
end Go.Proofs.YthhpaedpnjdnbaaDoor.consoleTexts
