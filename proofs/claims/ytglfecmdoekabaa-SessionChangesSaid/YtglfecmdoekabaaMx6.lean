/- The machine Mx: functions. -/
import Derived.Test.YtglfecmdoekabaaMx5
namespace Go.Am
set_option linter.unusedVariables false
set_option linter.unusedSimpArgs false
/-- The end of a function whose result may say more. -/
def finS (k n : Nat) (res : List AR) (r : AV) (h' : List (Option Blk)) : X → S3 → Prop
  | .exit _, _ => False
  | _, s => ∃ s', Weak k n s s' ∧ (∃ xs, resL s' res = some xs ∧ Sub (pack xs) r) ∧ ∀ b x, hpOf h' b = some x → s'.hp b = some x
theorem HSpec.introS {P : Program} {f : FuncId} {fn : Func} {af : AF} {args : List AV} {h : List Blk} {r : AV} {h' : List (Option Blk)} (hf : P.funcs[f]? = some fn) (hc : cFunc P fn = some af) (hn : args.length ≤ af.n)
    (hw : AWP P h.length af.n af.body (finS h.length af.n af.res r h') (init af.n args h)) : HSpec P f args h r h' := by
  intro w A μ cargs hH hmu hargs
  unfold cFunc at hc
  split at hc
  case h_1 => cases hc
  rename_i body hb
  split at hc
  case h_1 => cases hc
  rename_i rs hrs
  cases hc
  simp only at hw hn
  have hl := hargs.length
  let c : Ctx := ⟨w, ownOf μ (hpOf (h.map some)), A, μ⟩
  refine calls_of_wp hf hb ?_
  have H0 : Rel P h.length c fn.ntmps (init fn.ntmps args h) { tmps := cargs.toArray ++ Array.replicate (fn.ntmps - cargs.toArray.size) undef, defers := [] } w := by
    refine ⟨hmu, A, μ, fun t => ?_, ?_, rfl, fun b x hx => ?_, hH.inj, hH.lt, fun b hb => ⟨hmu b hb, ?_⟩, ⟨rfl, rfl, rfl, Nat.le_refl _, fun _ _ _ => rfl⟩, fun _ h => h, fun _ h => .inl h, MuLe.refl _⟩
    · show RV w A (args.getD t .unk) μ _
      by_cases ht : t < args.length
      · have e1 : args[t]? = some (args.getD t .unk) := by simp [List.getD, List.getElem?_eq_getElem ht]
        obtain ⟨v, e2, e3⟩ := hargs.get e1
        have : (cargs.toArray ++ Array.replicate (fn.ntmps - cargs.toArray.size) undef).getD t undef = v := by
          have hlt : t < cargs.length := by omega
          have hv : cargs[t] = v := by rw [List.getElem?_eq_getElem hlt] at e2; exact Option.some.inj e2
          rw [Array.getD_eq_getD_getElem?, Array.getElem?_append_left (by simpa using hlt)]
          simp [hlt, hv]
        rw [this]; exact e3
      · have : args.getD t .unk = .unk := by simp [List.getD, List.getElem?_eq_none (Nat.le_of_not_lt ht)]
        rw [this]; trivial
    · simp; omega
    · obtain ⟨hd, e1, e2, e3⟩ := hH.blk b x hx
      exact ⟨hd, e1, e2, fun he => ⟨(e3 he).1, (e3 he).2, .inl ⟨b, x, hd, hx, e1, he, rfl⟩⟩⟩
    · show hpOf (h.map some) b = none
      have hb' : h.length ≤ b := hb
      simp [hpOf, List.getElem?_eq_none, hb']
  refine wp_mono (hw _ rfl c _ w H0) ?_
  have fin : ∀ (s : S3) (a' : Act) (w' : World), (∃ s', Weak h.length fn.ntmps s s' ∧ (∃ xs, resL s' rs = some xs ∧ Sub (pack xs) r) ∧ ∀ b x, hpOf h' b = some x → s'.hp b = some x) → Rel P h.length c fn.ntmps s a' w' →
      a'.defers = [] ∧ ∃ v, (results fn a'.tmps).run P w' = .ok v w' ∧ (fun e w' => ∃ v A' μ', e = Ending.returned v ∧ RV w' A' r μ' v ∧ HeapOk P w' A' μ' (hpOf h') ∧ MuLe μ μ' ∧ Ext (ownOf μ (hpOf (h.map some))) w w' ∧
        (∀ b, A b → A' b) ∧ (∀ b, A' b → A b ∨ ownOf μ (hpOf (h.map some)) b ∨ w.heap.size ≤ b) ∧ (∀ b, ownOf μ' (hpOf h') b → ownOf μ (hpOf (h.map some)) b ∨ w.heap.size ≤ b)) (.returned v) w' := by
    rintro s a' w' ⟨s', hwk, ⟨xs, hxs, hpk⟩, hsub⟩ hr
    obtain ⟨h0, A', μ', H⟩ := hwk P c a' w' hr
    obtain ⟨v, e1, e2⟩ := results_run H hrs hxs
    have e2 := hpk _ _ _ _ e2
    refine ⟨H.df, v, e1, v, A', μ', rfl, e2, ?_, H.mu, ?_, H.A0, H.A1, ?_⟩
    · refine ⟨fun b x hx => ?_, fun b b' x x' hd hd' hx hx' => H.inj b b' x x' hd hd' (hsub b x hx) (hsub b' x' hx'), H.lt⟩
      obtain ⟨hd, g1, g2, g3⟩ := H.blk b x (hsub b x hx)
      exact ⟨hd, g1, g2, fun he => ⟨(g3 he).1, (g3 he).2.1⟩⟩
    · exact ⟨H.keep.os, H.keep.tape, H.keep.output, H.keep.size, H.keep.block⟩
    · rintro b ⟨b', x, hd, hx, hm, he, rfl⟩
      obtain ⟨hd', g1, g2, g3⟩ := H.blk b' x (hsub b' x hx)
      rw [hm] at g1; cases g1
      exact (g3 he).2.2
  intro e a' w' hq
  cases e with
  | normal => obtain ⟨s, h1, h2⟩ := hq; exact fin s a' w' h1 h2
  | ret => obtain ⟨s, h1, h2⟩ := hq; exact fin s a' w' h1 h2
  | exit id => obtain ⟨s, h1, h2⟩ := hq; exact h1.elim
  | _ => exact hq.elim

section
variable {P : Program} {Sf : Nat → Type} {T : Type}
/-- The end of a function whose result is a value. -/
def endP (res : List AR) (sh : Sh) (enc : T → AV) (r0 : T) : KX P Sf T
  | .exit _, _, _ => False
  | _, a, s => preL 0 a s fun a s => match a with
    | .ret r => match resL s res with
      | some xs => fitA sh (pack xs) = enc r ∧ r = r0
      | none => False
    | _ => False
/-- The end of a function whose result leads into blocks. -/
def endH (k : Nat) (res : List AR) (sh : Sh) (enc : T → AV) (hB : T → List (Option Blk)) (r0 : T) : KX P Sf T
  | .exit _, _, _ => False
  | _, a, s => preL k a s fun a s => match a with
    | .retH r m bs => nfP k s m bs (match resL m.st res with
      | some xs => fitA sh (pack xs) = enc r ∧ (m.hs.map PB.blk).take (hB r).length = hB r ∧ r = r0
      | none => False)
    | _ => False
def codeOf (P : Program) (f : FuncId) : Option AF := (P.funcs[f]?).bind (cFunc P)
/-- What is left to show of a function on values. -/
def mxP (P : Program) (f : FuncId) (args : List AV) (sh : Sh) (enc : T → AV) (a : An P Sf T) (r0 : T) : Prop :=
  match codeOf P f with
  | some af => cond (Nat.ble args.length af.n) (wpA 0 af.body a ⟨initT args 0, fun _ => none, 0⟩ (endP af.res sh enc r0)) False
  | none => False
def mxH (P : Program) (f : FuncId) (args : List AV) (h : List Blk) (sh : Sh) (enc : T → AV) (hB : T → List (Option Blk)) (a : An P Sf T) (r0 : T) : Prop :=
  match codeOf P f with
  | some af => cond (Nat.ble args.length af.n) (wpA h.length af.body a ⟨initT args 0, initH h 0, h.length⟩ (endH h.length af.res sh enc hB r0)) False
  | none => False
theorem codeOf_some {f : FuncId} {af : AF} (h : codeOf P f = some af) : ∃ fn, P.funcs[f]? = some fn ∧ cFunc P fn = some af := Option.bind_eq_some_iff.mp h
theorem mxP_ok {f : FuncId} {args : List AV} {sh : Sh} {enc : T → AV} {a : An P Sf T} {r0 : T} (h : mxP P f args sh enc a r0) (hp : (enc r0).pure) : PSpec P f args (enc r0) := by
  unfold mxP at h
  split at h
  · rename_i af e
    obtain ⟨fn, e1, e2⟩ := codeOf_some e
    obtain ⟨h1, h⟩ := cond_p h
    refine HSpec.pure (HSpec.introS e1 e2 (Nat.le_of_ble_eq_true h1) (h := []) (h' := []) ?_) hp
    rw [init_eq]
    refine wpA_ok h fun e a' s' hk => ?_
    have fin : ∀ {a : An P Sf T} {s : S3}, (preL 0 a s fun a s => match a with
        | .ret r => match resL s af.res with
          | some xs => fitA sh (pack xs) = enc r ∧ r = r0
          | none => False
        | _ => False) → ∃ s', Weak 0 af.n s s' ∧ (∃ xs, resL s' af.res = some xs ∧ Sub (pack xs) (enc r0)) ∧ ∀ b x, hpOf [] b = some x → s'.hp b = some x := by
      intro a s h
      obtain ⟨a2, s2, g1, g2⟩ := preL_ok (n := af.n) h
      split at g2
      · split at g2
        · rename_i xs ex
          obtain ⟨g3, rfl⟩ := g2
          exact ⟨s2, g1, ⟨xs, ex, g3 ▸ fitA_sub _ _⟩, fun b x hx => by simp [hpOf] at hx⟩
        · exact g2.elim
      · exact g2.elim
    cases e with
    | normal => exact fin hk
    | exit id => exact hk.elim
    | ret => exact fin hk
  · exact h.elim
theorem mxH_ok {f : FuncId} {args : List AV} {hs : List Blk} {sh : Sh} {enc : T → AV} {hB : T → List (Option Blk)} {a : An P Sf T} {r0 : T} (h : mxH P f args hs sh enc hB a r0) : HSpec P f args hs (enc r0) (hB r0) := by
  unfold mxH at h
  split at h
  · rename_i af e
    obtain ⟨fn, e1, e2⟩ := codeOf_some e
    obtain ⟨h1, h⟩ := cond_p h
    refine HSpec.introS e1 e2 (Nat.le_of_ble_eq_true h1) ?_
    rw [init_eq]
    refine wpA_ok h fun e a' s' hk => ?_
    have fin : ∀ {a : An P Sf T} {s : S3}, (preL hs.length a s fun a s => match a with
        | .retH r m bs => nfP hs.length s m bs (match resL m.st af.res with
          | some xs => fitA sh (pack xs) = enc r ∧ (m.hs.map PB.blk).take (hB r).length = hB r ∧ r = r0
          | none => False)
        | _ => False) → ∃ s', Weak hs.length af.n s s' ∧ (∃ xs, resL s' af.res = some xs ∧ Sub (pack xs) (enc r0)) ∧ ∀ b x, hpOf (hB r0) b = some x → s'.hp b = some x := by
      intro a s h
      obtain ⟨a2, s2, g1, g2⟩ := preL_ok (n := af.n) h
      split at g2
      · rename_i r m bs
        obtain ⟨g3, g2⟩ := nfP_ok (n := af.n) g2
        split at g2
        · rename_i xs ex
          obtain ⟨g4, g5, rfl⟩ := g2
          refine ⟨m.st, g1.trans g3, ⟨xs, ex, g4 ▸ fitA_sub _ _⟩, fun b x hx => ?_⟩
          rw [show m.st.hp = hpOf (m.hs.map PB.blk) from (hpOf_hpL _).symm]
          have hx := hpOf_opt.mp hx
          rw [← g5] at hx
          refine hpOf_opt.mpr ?_
          rw [List.getElem?_take] at hx
          split at hx
          · exact hx
          · cases hx
        · exact g2.elim
      · exact g2.elim
    cases e with
    | normal => exact fin hk
    | exit id => exact hk.elim
    | ret => exact fin hk
  · exact h.elim
end

/-! ### What stands in a condition -/
def ck (b : Bool) (R : Prop) : Prop := cond b R False
def br (b : Bool) (X Y : Prop) : Prop := cond b X Y
def Cl {P : Program} (c : PC P) (R : Prop) : Prop := c.args = c.args ∧ R
def Ch {P : Program} (c : HC P) (bs : List Nat) (f : Nat) (R : Prop) : Prop := renL (piOf bs f) c.args = renL (piOf bs f) c.args ∧ (c.h.map fun x => some (renBk (piOf bs f) x)) = (c.h.map fun x => some (renBk (piOf bs f) x)) ∧ R
def Rf {α : Type} (x : α) (R : Prop) : Prop := x = x ∧ R
theorem ck_iff {b : Bool} {R : Prop} : ck b R ↔ b = true ∧ R := by cases b <;> simp [ck]
theorem br_iff {b : Bool} {X Y : Prop} : br b X Y ↔ (b = true → X) ∧ (b = false → Y) := by cases b <;> simp [br]
theorem Cl_iff {P : Program} {c : PC P} {R : Prop} : Cl c R ↔ R := ⟨fun h => h.2, fun h => ⟨rfl, h⟩⟩
theorem Ch_iff {P : Program} {c : HC P} {bs : List Nat} {f : Nat} {R : Prop} : Ch c bs f R ↔ R := ⟨fun h => h.2.2, fun h => ⟨rfl, rfl, h⟩⟩
theorem Rf_iff {α : Type} {x : α} {R : Prop} : Rf x R ↔ R := ⟨fun h => h.2, fun h => ⟨rfl, h⟩⟩
attribute [irreducible] mxP mxH
abbrev W := IntKind.i64.wrap
theorem W_eq {n : Int} (h : -9223372036854775808 ≤ n ∧ n ≤ 9223372036854775807) : W n = n := wrap64 h
theorem W_rng (n : Int) : -9223372036854775808 ≤ W n ∧ W n ≤ 9223372036854775807 := wrap_inK .i64 n
theorem ifb {p q : Prop} [Decidable p] : (decide p = true → q) ↔ (p → q) := by simp
theorem ifn {p q : Prop} [Decidable p] : (decide p = false → q) ↔ (¬ p → q) := by simp
def fnB (P : Program) (f : FuncId) : Bool := match P.funcs[f]? with
  | some fn => fn.body.isSome && !(fn.name == "runtime.NumGoroutine")
  | none => false
theorem fnB_ok {P : Program} {f : FuncId} (h : fnB P f = true) : FnOk P f := by
  unfold fnB at h
  split at h
  · rename_i fn e
    simp only [Bool.and_eq_true, Bool.not_eq_true'] at h
    exact ⟨fn, e, h.1, h.2⟩
  · cases h
theorem maxLen_eq : maxLen = 9223372036854775807 := rfl
theorem inK64' (n : Int) : inK .i64 n ↔ -9223372036854775808 ≤ n ∧ n ≤ 9223372036854775807 := Iff.rfl
theorem take_succ {α : Type} {l : List α} {i : Nat} {x : α} (h : l[i]? = some x) : l.take (i + 1) = l.take i ++ [x] := by rw [List.take_add_one, h]; rfl
theorem lt_of_get {α : Type} {l : List α} {i : Nat} {x : α} (h : l[i]? = some x) : i < l.length := (List.getElem?_eq_some_iff.mp h).1
theorem mem_of_get {α : Type} {l : List α} {i : Nat} {x : α} (h : l[i]? = some x) : x ∈ l := List.mem_of_getElem? h
set_option linter.defProp false
def okU := And.intro @okL.eq_1 (And.intro @okL.eq_2 (And.intro @AV.ok.eq_1 (And.intro @AV.ok.eq_2 (And.intro @AV.ok.eq_3 (And.intro @AV.ok.eq_4 (And.intro @AV.ok.eq_5 (And.intro @AV.ok.eq_6 (And.intro @inK64' (And.intro @and_true (And.intro @true_and maxLen_eq))))))))))
def vcU := And.intro @br_iff (And.intro @ck_iff (And.intro @Cl_iff (And.intro @Ch_iff (And.intro @Nf_iff (And.intro @ifb (And.intro @ifn (And.intro @decide_eq_true_eq (And.intro @decide_eq_false_iff_not (And.intro @Bool.and_eq_true @Bool.or_eq_true)))))))))
def rfU := @Rf_iff
end Go.Am
