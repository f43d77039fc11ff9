/- A region in the order of its text; a region whose order is drawn. -/
import Derived.Test.YtaboolnmkfenlaaAm15
import Derived.Orders
namespace Go.Am
set_option linter.unusedVariables false
set_option linter.unusedSimpArgs false

def cGuard (ops : Array Oper) : Option (Nat × Bool) → Option (Option (Nat × Bool))
  | none => some none
  | some (j, want) => match (ops[j]?).bind (·.dst) with
    | some d => some (some (d, want))
    | none => none
def dstOk (n : Nat) : Option Nat → Bool
  | none => true
  | some d => decide (d < n)
def cOper (P : Program) (n : Nat) (ops : Array Oper) (o : Oper) : AOper :=
  match cGuard ops o.guard with
  | some g => if dstOk n o.dst then { dst := o.dst, op := cOp P o.op o.type, guard := g } else { dst := none, op := .bad, guard := none }
  | none => { dst := none, op := .bad, guard := none }

structure S2 where
  tm : Nat → AV
  hp : Hp

def exT (P : Program) (n : Nat) (o : AOper) (f : Nat) (s : S2) (K : S2 → Prop) : Prop :=
  match o.op with
  | .call g xs => ∃ fid caps foot v e, evO s.tm g = .func fid caps ∧ (CallOk P n fid (xs.map (evO s.tm) ++ caps) f s.hp foot v e ∨ (ExtOk P n fid (xs.map (evO s.tm) ++ caps) s.hp foot v ∧ e = noEff)) ∧ K ⟨putD o.dst v s.tm, hpEff e s.hp⟩
  | .lit k N z ps => ((evA (.lit k N z ps) f (evO s.tm) s.hp).c ∧ K ⟨putD o.dst (evA (.lit k N z ps) f (evO s.tm) s.hp).v s.tm, s.hp⟩) ∨ ((evL k N z ps f (evO s.tm)).c ∧ K ⟨putD o.dst (evL k N z ps f (evO s.tm)).v s.tm, hpAfter (evL k N z ps f (evO s.tm)) s.hp⟩)
  | .isNil ptr ne x => nilOk ptr (evO s.tm x) ∧ ∀ t, nilA s.hp (evO s.tm x) t → K ⟨putD o.dst (.bool (t != ne)) s.tm, s.hp⟩
  | op => (evA op f (evO s.tm) s.hp).c ∧ K ⟨putD o.dst (evA op f (evO s.tm) s.hp).v s.tm, hpAfter (evA op f (evO s.tm) s.hp) s.hp⟩

/-- What a guard reads: a bool, or nothing where the operation that makes it was skipped. -/
def gv : AV → Option (Option Bool)
  | .val (.bool t) => some (some t)
  | .tup [] => some none
  | _ => none

def evT (P : Program) (n : Nat) : List AOper → Nat → S2 → (S2 → Nat → Prop) → Prop
  | [], f, s, K => K s f
  | o :: os, f, s, K => match o.guard with
    | none => exT P n o f s fun s' => evT P n os (f + 16) s' K
    | some (d, want) => ∃ t, gv (s.tm d) = some t ∧ (t = some want → exT P n o f s fun s' => evT P n os (f + 16) s' K) ∧ (¬ t = some want → evT P n os (f + 16) ⟨putD o.dst (.tup []) s.tm, s.hp⟩ K)

theorem exT_step {P : Program} {n : Nat} {o : Oper} {f : Nat} {s : S2} {K : S2 → Prop} (hd : ∀ d, o.dst = some d → d < n) {g : Option (Nat × Bool)} (h : exT P n { dst := o.dst, op := cOp P o.op o.type, guard := g } f s K) :
    (∃ rd v e, StepOk P n o f s.tm s.hp rd v e ∧ K ⟨putD o.dst v s.tm, hpEff e s.hp⟩) ∨
      ∃ ptr ne x, cOp P o.op o.type = .isNil ptr ne x ∧ nilOk ptr (evO s.tm x) ∧ ∀ t, nilA s.hp (evO s.tm x) t → K ⟨putD o.dst (.bool (t != ne)) s.tm, s.hp⟩ := by
  unfold exT at h
  simp only at h
  split at h
  · rename_i gg xs hop
    obtain ⟨fid, caps, foot, v, e, h1, h2, h3⟩ := h
    rcases h2 with h2 | ⟨h2, rfl⟩
    · exact .inl ⟨foot, v, e, stepCall hop hd h1 h2, h3⟩
    · exact .inl ⟨foot, v, noEff, stepExt hop hd h1 h2, h3⟩
  · rename_i k N z ps hop
    rcases h with ⟨h1, h2⟩ | ⟨h1, h2⟩
    · exact .inl ⟨_, _, _, stepA hd (by rw [hop]; exact h1), by rw [hpEff_out, hop]; exact h2⟩
    · exact .inl ⟨_, _, _, stepL hop hd h1, by rw [hpEff_out]; exact h2⟩
  · rename_i ptr ne x hop
    exact .inr ⟨ptr, ne, x, hop, h⟩
  · rename_i op hop
    obtain ⟨h1, h2⟩ := h
    exact .inl ⟨_, _, _, stepA hd h1, by rw [hpEff_out]; exact h2⟩

theorem guard_bool {ops : Array Oper} {a : Act} {j d : Nat} {t want : Bool} (hj : (ops[j]?).bind (·.dst) = some d) (hv : a.tmps.getD d undef = .bool t) : yielded ops a.tmps j = some t := by
  have hlt : d < a.tmps.size := by
    rcases Nat.lt_or_ge d a.tmps.size with h | h
    · exact h
    · simp [Array.getD, show ¬ d < a.tmps.size by omega, undef] at hv
  unfold yielded
  rw [hj]
  have : a.tmps[d]? = some (.bool t) := by
    rw [Array.getElem?_eq_getElem hlt]
    have : a.tmps.getD d undef = a.tmps[d] := by unfold Array.getD; rw [dif_pos hlt]; rfl
    rw [← this, hv]
  simp [this]

theorem guard_gv {ops : Array Oper} {a : Act} {j d : Nat} {t : Option Bool} {w : World} {A : Nat → Prop} {μ : Mu} {x : AV} (hj : (ops[j]?).bind (·.dst) = some d) (hv : RV w A x μ (a.tmps.getD d undef)) (hg : gv x = some t) : yielded ops a.tmps j = t := by
  unfold gv at hg
  split at hg
  · cases hg
    exact guard_bool (want := true) hj hv.1
  · cases hg
    obtain ⟨vs, h1, h2⟩ := hv
    simp only [RVL] at h2
    subst h2
    unfold yielded
    rw [hj]
    simp only [Option.bind_some]
    rcases Nat.lt_or_ge d a.tmps.size with hlt | hge
    · rw [Array.getElem?_eq_getElem hlt]
      have : a.tmps.getD d undef = a.tmps[d] := by unfold Array.getD; rw [dif_pos hlt]; rfl
      rw [← this, h1]
    · rw [Array.getElem?_eq_none hge]
  · cases hg

def badOper : AOper := { dst := none, op := .bad, guard := none }
theorem cOper_cases (P : Program) (n : Nat) (ops : Array Oper) (o : Oper) : cOper P n ops o = badOper ∨
    ∃ g, cGuard ops o.guard = some g ∧ (∀ d, o.dst = some d → d < n) ∧ cOper P n ops o = { dst := o.dst, op := cOp P o.op o.type, guard := g } := by
  unfold cOper
  cases hg : cGuard ops o.guard with
  | none => exact .inl rfl
  | some g =>
    by_cases hd : dstOk n o.dst = true
    · refine .inr ⟨g, rfl, ?_, by simp only [hd, ↓reduceIte]⟩
      intro d h; rw [h] at hd; simpa [dstOk] using hd
    · left; simp only [hd]; rfl
theorem exT_bad {P : Program} {n f : Nat} {s : S2} {K : S2 → Prop} (h : exT P n badOper f s K) : False := h.1

theorem evT_sound {P : Program} {n : Nat} {ops : Array Oper} {Q : Exit → Act → World → Prop} {c : Ctx} (K : S2 → Nat → Prop)
    (hK : ∀ s f a w A μ, K s f → RelE c A μ (fun b => f ≤ b) s.tm s.hp n a w → Q .normal a w) :
    ∀ (l : List Oper) (f : Nat) (s : S2) (a : Act) (w : World) (A : Nat → Prop) (μ : Mu), evT P n (l.map (cOper P n ops)) f s K → RelE c A μ (fun b => f ≤ b) s.tm s.hp n a w → wpList P ops Q l a w
  | [], f, s, a, w, A, μ, h, H => hK s f a w A μ h H
  | o :: l, f, s, a, w, A, μ, h, H => by
    have next : ∀ (tm' : Nat → AV) (hp' : Hp) a' w' A' μ', evT P n (l.map (cOper P n ops)) (f + 16) ⟨tm', hp'⟩ K → RelE c A' μ' (fun b => f ≤ b ∧ ¬ (f ≤ b ∧ b < f + 16)) tm' hp' n a' w' → wpList P ops Q l a' w' := by
      intro tm' hp' a' w' A' μ' h1 h2
      exact evT_sound K hK l (f + 16) ⟨tm', hp'⟩ a' w' A' μ' h1 (h2.free fun b hb => ⟨by omega, fun h => by omega⟩)
    have run : ∀ g, (∀ d, o.dst = some d → d < n) → exT P n { dst := o.dst, op := cOp P o.op o.type, guard := g } f s (fun s' => evT P n (l.map (cOper P n ops)) (f + 16) s' K) → o.wp P a w (wpList P ops Q l) Q := by
      intro g hd hx
      rcases exT_step hd hx with ⟨rd, v, e, h1, h2⟩ | ⟨ptr, ne, x, h1, h2, h3⟩
      · exact h1 c A μ (fun b => f ≤ b) s.tm s.hp a w (wpList P ops Q l) Q H (fun _ _ => rfl) (fun _ _ => rfl) (fun j _ => by omega) (fun a' w' A' μ' hr => next _ _ a' w' A' μ' h2 hr)
      · exact stepNil h1 hd h2 H (fun t ht a' hr => next _ _ a' w A μ (h3 t ht) (hr.free fun b hb => hb.1))
    rw [List.map_cons] at h
    rcases cOper_cases P n ops o with hb | ⟨g, hg, hd, hb⟩
    · rw [hb] at h
      simp only [evT, badOper, exT, evA, Out.bad] at h
      exact h.1.elim
    rw [hb] at h
    simp only [evT] at h
    unfold wpList
    cases hgd : o.guard with
    | none =>
      rw [hgd] at hg; simp [cGuard] at hg; subst hg
      rw [if_pos (by simp [Region.wanted, hgd])]
      exact .inl (run none hd h)
    | some jw =>
      obtain ⟨j, want⟩ := jw
      rw [hgd] at hg
      simp only [cGuard] at hg
      split at hg
      case h_2 => cases hg
      rename_i d hj
      cases hg
      obtain ⟨t, h1, h2, h3⟩ := h
      have hy := guard_gv hj (H.tm d) h1
      by_cases ht : t = some want
      · rw [if_pos (by simp [Region.wanted, hgd, hy, ht])]
        exact .inl (run _ hd (h2 ht))
      · rw [if_neg (by simp [Region.wanted, hgd, hy, ht])]
        exact next _ _ _ _ A μ (h3 ht) ((H.put (v := .tup []) (cv := undef) o.dst hd ⟨[], rfl, rfl⟩).free fun b hb => hb.1)

/-! ### A drawn order -/
def heapy : AOp → Bool
  | .load _ _ _ | .store _ _ _ | .convBS _ | .slice _ _ _ _ _ | .iaddr _ _ _ | .len _ | .append _ _ _ _ | .appendS _ _ _ | .box _ | .mks _ _ _ _ _ | .call _ _ | .cap _ | .appendZ _ _ _ _ _ | .copy _ _ _ | .clear _ _ _ | .isNil _ _ _ | .lit _ _ _ _ => true
  | _ => false

theorem evA_free {op : AOp} (h : heapy op = false) {f : Nat} {ρ : AO → AV} {hp hp' : Hp} : evA op f ρ hp = evA op f ρ hp' ∧ (evA op f ρ hp).rm = none ∧ (evA op f ρ hp).ad = none := by
  cases op <;> simp [heapy] at h
  all_goals first
    | exact ⟨rfl, rfl, rfl⟩
    | exact ⟨rfl, (binA_pure _ _ _).1, (binA_pure _ _ _).2⟩
    | exact ⟨rfl, (binBA_pure _ _ _).1, (binBA_pure _ _ _).2⟩
    | exact ⟨rfl, (unA_pure _ _).1, (unA_pure _ _).2⟩
    | exact ⟨rfl, (foldA_pure _ _).1, (foldA_pure _ _).2⟩
    | (refine ⟨rfl, ?_⟩; simp only [evA]; (repeat' split) <;> exact ⟨rfl, rfl⟩)

/-- What an operation reads and writes of the frame's blocks. -/
def rdH (op : AOp) (tm : Nat → AV) : List Nat := if heapy op then rdOf op tm else []
def wrH (o : Out) : List Nat := o.rm.toList ++ (o.ad.toList.map (·.1))

theorem stepA' {P : Program} {n : Nat} {o : Oper} {f : Nat} {tm : Nat → AV} {hp : Hp} (hd : ∀ d, o.dst = some d → d < n) (hc : (evA (cOp P o.op o.type) f (evO tm) hp).c) :
    StepOk P n o f tm hp (rdH (cOp P o.op o.type) tm) (evA (cOp P o.op o.type) f (evO tm) hp).v (outEff (evA (cOp P o.op o.type) f (evO tm) hp)) := by
  unfold rdH
  split
  · exact stepA hd hc
  · rename_i hh
    have hh : heapy (cOp P o.op o.type) = false := by simpa using hh
    intro c A μ fr tm' hp' a w K Q H h1 h2 h3 hK
    have e := evA_free hh (f := f) (ρ := evO tm) (hp := hp) (hp' := hp')
    rw [e.1] at hc hK
    refine stepA hd hc c A μ fr tm' hp' a w K Q H h1 (fun b hb => rfl) h3 ?_
    intro a' w' A' μ' hr
    exact hK a' w' A' μ' hr

theorem wrH_spec {o : Out} {b : Nat} (h : outEff o b ≠ none) : b ∈ wrH o := by
  unfold outEff at h
  unfold wrH
  cases ha : o.ad with
  | none =>
    rw [ha] at h
    simp only at h
    split at h
    · rename_i e; simp [e]
    · exact absurd rfl h
  | some p =>
    obtain ⟨f, x⟩ := p
    rw [ha] at h
    simp only at h
    split at h
    · rename_i e; simp [e]
    · split at h
      · rename_i e; simp [e]
      · exact absurd rfl h

abbrev Log := List (List Nat × List Nat)

def exD (P : Program) (n : Nat) (o : AOper) (f : Nat) (s : S2) (K : S2 → List Nat × List Nat → Prop) : Prop :=
  match o.op with
  | .lit k N z ps => ((evA (.lit k N z ps) f (evO s.tm) s.hp).c ∧ K ⟨putD o.dst (evA (.lit k N z ps) f (evO s.tm) s.hp).v s.tm, s.hp⟩ (rdH (.lit k N z ps) s.tm, [])) ∨ ((evL k N z ps f (evO s.tm)).c ∧ K ⟨putD o.dst (evL k N z ps f (evO s.tm)).v s.tm, hpAfter (evL k N z ps f (evO s.tm)) s.hp⟩ ([], [f]))
  | .call g xs => ∃ fid caps foot v e wr, evO s.tm g = .func fid caps ∧ (CallOk P n fid (xs.map (evO s.tm) ++ caps) f s.hp foot v e ∨ (ExtOk P n fid (xs.map (evO s.tm) ++ caps) s.hp foot v ∧ e = noEff)) ∧ (∀ b, e b ≠ none → b ∈ wr) ∧ K ⟨putD o.dst v s.tm, hpEff e s.hp⟩ (foot, wr)
  | op => (evA op f (evO s.tm) s.hp).c ∧ K ⟨putD o.dst (evA op f (evO s.tm) s.hp).v s.tm, hpAfter (evA op f (evO s.tm) s.hp) s.hp⟩ (rdH op s.tm, wrH (evA op f (evO s.tm) s.hp))

def evD (P : Program) (n : Nat) : List AOper → Nat → S2 → Log → (S2 → Nat → Log → Prop) → Prop
  | [], f, s, lg, K => K s f lg
  | o :: os, f, s, lg, K => match o.guard with
    | none => exD P n o f s fun s' l => evD P n os (f + 16) s' (lg ++ [l]) K
    | some (d, want) => ∃ t, gv (s.tm d) = some t ∧ (t = some want → exD P n o f s fun s' l => evD P n os (f + 16) s' (lg ++ [l]) K) ∧ (¬ t = some want → evD P n os (f + 16) ⟨putD o.dst (.tup []) s.tm, s.hp⟩ (lg ++ [([], [])]) K)

def disj (xs ys : List Nat) : Bool := xs.all fun x => !ys.contains x
def parOk (par : List (Nat × Nat)) (lg : Log) : Bool := par.all fun p =>
  disj (lg.getD p.1 ([], [])).2 ((lg.getD p.2 ([], [])).1 ++ (lg.getD p.2 ([], [])).2) && disj (lg.getD p.2 ([], [])).2 (lg.getD p.1 ([], [])).1

/-- The state behind those of the first k operations that are in D. -/
def accP {β : Type} (f0 : Nat → β) (g : Nat → Nat → Option β) (D : Nat → Bool) : Nat → Nat → β
  | 0, x => f0 x
  | k + 1, x => if D k then (g k x).getD (accP f0 g D k x) else accP f0 g D k x

theorem accP_eq {β : Type} {f0 : Nat → β} {g : Nat → Nat → Option β} {D D' : Nat → Bool} {x : Nat} : ∀ {k : Nat}, (∀ j, j < k → g j x ≠ none → D j = D' j) → accP f0 g D k x = accP f0 g D' k x
  | 0, _ => rfl
  | k + 1, h => by
    have ih := accP_eq (f0 := f0) (g := g) (D := D) (D' := D') (x := x) (k := k) fun j hj => h j (by omega)
    simp only [accP, ih]
    cases hg : g k x with
    | none => simp
    | some v => rw [h k (by omega) (by rw [hg]; simp)]
theorem accP_skip {β : Type} {f0 : Nat → β} {g : Nat → Nat → Option β} {D : Nat → Bool} {x i : Nat} : ∀ {k : Nat}, i ≤ k → (∀ j, i ≤ j → j < k → g j x ≠ none → D j = false) → accP f0 g D k x = accP f0 g D i x
  | 0, h, _ => by have : i = 0 := by omega
                  subst this; rfl
  | k + 1, h, hD => by
    by_cases hi : i = k + 1
    · subst hi; rfl
    · rw [← accP_skip (k := k) (by omega) fun j h1 h2 => hD j h1 (by omega)]
      simp only [accP]
      cases hg : g k x with
      | none => simp
      | some v => rw [hD k (by omega) (by omega) (by rw [hg]; simp)]; simp

structure Dat where
  go : Bool
  v : AV
  e : Eff
  rd : List Nat
  wr : List Nat
  deriving Inhabited

section
variable (dsts : Nat → Option Nat) (ds : Nat → Dat) (s0 : S2)
def gT (i t : Nat) : Option AV := if dsts i = some t then some (ds i).v else none
def gH (i b : Nat) : Option (Option Blk) := (ds i).e b
def stP (D : Nat → Bool) (k : Nat) : S2 := ⟨accP s0.tm (gT dsts ds) D k, accP s0.hp (gH ds) D k⟩
end
theorem stP_succ (dsts : Nat → Option Nat) (ds : Nat → Dat) (s0 : S2) (D : Nat → Bool) (k : Nat) (h : D k = true) :
    stP dsts ds s0 D (k + 1) = ⟨putD (dsts k) (ds k).v (stP dsts ds s0 D k).tm, hpEff (ds k).e (stP dsts ds s0 D k).hp⟩ := by
  unfold stP
  congr 1
  · funext x
    simp only [accP, h, ↓reduceIte, gT]
    cases hd : dsts k with
    | none => simp [putD]
    | some d =>
      by_cases e : d = x
      · subst e; simp [putD, upd]
      · have : ¬ x = d := fun h => e h.symm
        simp [putD, upd, e, this]
  · funext x
    simp only [accP, h, ↓reduceIte, gH, hpEff]
    cases (ds k).e x <;> rfl
end Go.Am
