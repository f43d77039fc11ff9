/- Regions and code: what a walk over compact code proves of the model's code. -/
import Derived.Test.YtaboolnmkfenlaaAm18
namespace Go.Am
set_option linter.unusedVariables false
set_option linter.unusedSimpArgs false

theorem countP_lt {p q : Nat → Bool} : ∀ (l : List Nat), (∀ x ∈ l, p x = true → q x = true) → ∀ i ∈ l, q i = true → p i = false → l.countP p < l.countP q
  | [], _, i, hi, _, _ => by simp at hi
  | x :: l, h, i, hi, hq, hp => by
    have hle : ∀ (l : List Nat), (∀ x ∈ l, p x = true → q x = true) → l.countP p ≤ l.countP q := fun l h => List.countP_mono_left h
    rw [List.countP_cons, List.countP_cons]
    by_cases hx : x = i
    · subst hx
      simp only [hp, hq]
      have := hle l fun y hy => h y (by simp [hy])
      simp; omega
    · have hi' : i ∈ l := by simpa [Ne.symm hx] using hi
      have := countP_lt l (fun y hy => h y (by simp [hy])) i hi' hq hp
      have hx2 := h x (by simp)
      cases hpx : p x with
      | false => cases hqx : q x <;> simp <;> omega
      | true => rw [hx2 hpx]; simp; omega

def unl (N : Nat) (listed : Array Bool) : Nat := (List.range N).countP fun i => !listed.getD i true

section
variable {P : Program} {n : Nat} {ops : Array Oper} {f0 : Nat} {ds : Nat → Dat} {s0 : S2} {Q : Exit → Act → World → Prop} {c : Ctx}

def Dl (listed : Array Bool) : Nat → Bool := fun i => listed.getD i false
def frD (ops : Array Oper) (f0 : Nat) (D : Nat → Bool) (b : Nat) : Prop := f0 ≤ b ∧ ∀ k, k < ops.size → D k = true → ¬ (f0 + 16 * k ≤ b ∧ b < f0 + 16 * k + 16)

theorem ready_iff {listed : Array Bool} {i : Nat} : i ∈ Region.ready .any ops listed ↔ i < ops.size ∧ listed.getD i true = false ∧ ∃ o, ops[i]? = some o ∧ ∀ e ∈ bindOn o, Dl listed e = true := by
  unfold Region.ready
  simp only [List.mem_filter, List.mem_range, Bool.and_eq_true, Bool.not_eq_true']
  constructor
  · rintro ⟨h1, h2, h3⟩
    refine ⟨h1, h2, ops[i], Array.getElem?_eq_getElem h1, ?_⟩
    rw [Array.getElem?_eq_getElem h1] at h3
    simp only [Option.map_some, Option.getD_some, Array.all_eq_true] at h3
    intro e he
    unfold bindOn at he
    simp only [List.mem_map, List.mem_filter] at he
    obtain ⟨x, ⟨hx, hb⟩, rfl⟩ := he
    obtain ⟨k, hk, hkx⟩ := Array.mem_iff_getElem.1 (Array.mem_toList_iff.1 hx)
    have := h3 k hk
    rw [hkx, hb] at this
    simpa [Dl] using this
  · rintro ⟨h1, h2, o, h3, h4⟩
    refine ⟨h1, h2, ?_⟩
    rw [h3]
    simp only [Option.map_some, Option.getD_some, Array.all_eq_true]
    intro k hk
    cases hb : Region.binds .any o.after[k] with
    | false => simp
    | true =>
      have := h4 o.after[k].on (by
        unfold bindOn
        simp only [List.mem_map, List.mem_filter]
        exact ⟨_, ⟨Array.mem_toList_iff.2 (Array.getElem_mem hk), hb⟩, rfl⟩)
      simpa [Dl] using this

theorem all_listed (S : Stat P n ops f0 ds s0) {listed : Array Bool} (hsz : listed.size = ops.size) (h : Region.ready .any ops listed = []) : ∀ i, i < ops.size → Dl listed i = true := by
  intro i
  induction i using Nat.strongRecOn with
  | _ i ih =>
    intro hi
    cases hd : Dl listed i with
    | true => rfl
    | false =>
      exfalso
      have : i ∈ Region.ready .any ops listed := by
        refine ready_iff.2 ⟨hi, ?_, ops[i], Array.getElem?_eq_getElem hi, fun e he => ih e ?_ ?_⟩
        · unfold Dl at hd
          have hlt : i < listed.size := by omega
          have e1 : listed.getD i true = listed[i] := by unfold Array.getD; rw [dif_pos hlt]; rfl
          have e2 : listed.getD i false = listed[i] := by unfold Array.getD; rw [dif_pos hlt]; rfl
          rw [e1, ← e2, hd]
        · exact S.lt (edges_at (Array.getElem?_eq_getElem hi)) e he
        · have := S.lt (edges_at (Array.getElem?_eq_getElem hi)) e he; omega
      rw [h] at this; simp at this

theorem any_order (S : Stat P n ops f0 ds s0) (hQ : ∀ a w A μ, RelE c A μ (fun b => f0 + 16 * ops.size ≤ b) (stP (dstF ops) ds s0 (fun _ => true) ops.size).tm (stP (dstF ops) ds s0 (fun _ => true) ops.size).hp n a w → Q .normal a w) :
    ∀ (fuel : Nat) (listed : Array Bool) (a : Act) (w : World) (A : Nat → Prop) (μ : Mu), listed.size = ops.size → Closed ops (Dl listed) → unl ops.size listed ≤ fuel →
      RelE c A μ (frD ops f0 (Dl listed)) (stP (dstF ops) ds s0 (Dl listed) ops.size).tm (stP (dstF ops) ds s0 (Dl listed) ops.size).hp n a w → wpAny P .any ops Q fuel listed a w := by
  have done : ∀ (listed : Array Bool) (a : Act) (w : World) (A : Nat → Prop) (μ : Mu), (∀ i, i < ops.size → Dl listed i = true) →
      RelE c A μ (frD ops f0 (Dl listed)) (stP (dstF ops) ds s0 (Dl listed) ops.size).tm (stP (dstF ops) ds s0 (Dl listed) ops.size).hp n a w → Q .normal a w := by
    intro listed a w A μ hall H
    have e1 : stP (dstF ops) ds s0 (Dl listed) ops.size = stP (dstF ops) ds s0 (fun _ => true) ops.size := by
      unfold stP
      congr 1
      · funext x; exact accP_eq fun j hj _ => hall j hj
      · funext x; exact accP_eq fun j hj _ => hall j hj
    rw [e1] at H
    exact hQ a w A μ (H.free fun b hb => ⟨by omega, fun k hk _ h => by omega⟩)
  intro fuel
  induction fuel with
  | zero =>
    intro listed a w A μ hsz hcl hu H
    have hall : ∀ i, i < ops.size → Dl listed i = true := by
      intro i hi
      have h0 : unl ops.size listed = 0 := by omega
      unfold unl at h0
      rw [List.countP_eq_zero] at h0
      have := h0 i (List.mem_range.2 hi)
      have hlt : i < listed.size := by omega
      have e1 : listed.getD i true = listed[i] := by unfold Array.getD; rw [dif_pos hlt]; rfl
      have e2 : listed.getD i false = listed[i] := by unfold Array.getD; rw [dif_pos hlt]; rfl
      unfold Dl; rw [e2, ← e1]; simpa using this
    refine ⟨?_, done listed a w A μ hall H⟩
    cases hr : Region.ready .any ops listed with
    | nil => rfl
    | cons i l =>
      exfalso
      obtain ⟨h1, h2, _⟩ := ready_iff.1 (show i ∈ Region.ready .any ops listed by rw [hr]; simp)
      have := hall i h1
      have hlt : i < listed.size := by omega
      have e1 : listed.getD i true = listed[i] := by unfold Array.getD; rw [dif_pos hlt]; rfl
      have e2 : listed.getD i false = listed[i] := by unfold Array.getD; rw [dif_pos hlt]; rfl
      unfold Dl at this; rw [e2, ← e1, h2] at this; cases this
  | succ fuel ih =>
    intro listed a w A μ hsz hcl hu H
    refine ⟨fun hr => done listed a w A μ (all_listed S hsz hr) H, fun i hi => ?_⟩
    obtain ⟨hlt, hun, o, ho, hr⟩ := ready_iff.1 hi
    have hll : i < listed.size := by omega
    have hDi : Dl listed i = false := by
      have e1 : listed.getD i true = listed[i] := by unfold Array.getD; rw [dif_pos hll]; rfl
      have e2 : listed.getD i false = listed[i] := by unfold Array.getD; rw [dif_pos hll]; rfl
      unfold Dl; rw [e2, ← e1, hun]
    have hD' : ∀ j, Dl (listed.setIfInBounds i true) j = (Dl listed j || j == i) := by
      intro j
      unfold Dl
      by_cases hji : j = i
      · subst hji
        simp [Array.getD, hll]
      · have h1 : (j == i) = false := by simpa using hji
        rw [h1, Bool.or_false]
        simp only [Array.getD_eq_getD_getElem?, Array.getElem?_setIfInBounds_ne (Ne.symm hji)]
    have hcl' : Closed ops (Dl (listed.setIfInBounds i true)) := by
      intro k es hk hDk e he
      rw [hD'] at hDk ⊢
      by_cases hki : k = i
      · subst hki
        rw [edges_at ho] at hk; cases hk
        rw [hr e he]; rfl
      · have h1 : (k == i) = false := by simpa using hki
        rw [h1, Bool.or_false] at hDk
        rw [hcl k es hk hDk e he]; rfl
    have hunl : unl ops.size (listed.setIfInBounds i true) ≤ fuel := by
      have : unl ops.size (listed.setIfInBounds i true) < unl ops.size listed := by
        unfold unl
        refine countP_lt _ (fun x hx h => ?_) i (List.mem_range.2 hlt) (by simp [hun]) (by simp [Array.getD, hll])
        by_cases hxi : x = i
        · subst hxi; simp [hun]
        · simpa only [Array.getD_eq_getD_getElem?, Array.getElem?_setIfInBounds_ne (Ne.symm hxi)] using h
      omega
    obtain ⟨t1, t2⟩ := S.add hcl ho hDi hD'
    have hfr : ∀ b, frD ops f0 (Dl (listed.setIfInBounds i true)) b → frD ops f0 (Dl listed) b ∧ ¬ (f0 + 16 * i ≤ b ∧ b < f0 + 16 * i + 16) := by
      rintro b ⟨h1, h2⟩
      refine ⟨⟨h1, fun k hk hDk => h2 k hk (by rw [hD', hDk]; rfl)⟩, h2 i hlt (by rw [hD']; simp)⟩
    obtain ⟨o', ho', hdn, ⟨g, hco, hcg⟩, hgu, hgo, hng, hwr, _⟩ := S.good i hlt
    rw [ho] at ho'; cases ho'
    have hslots : ∀ t, t ∈ slotsOf (cOper P n ops o) → (stP (dstF ops) ds s0 (Dl listed) ops.size).tm t = (stP (dstF ops) ds s0 (fun _ => true) i).tm t := fun t ht => S.tm hcl ho hDi hr ht
    unfold wpOp
    rw [ho]
    simp only
    have hgo2 : (Region.wanted o (yielded ops a.tmps)) = (ds i).go := by
      cases hgd : o.guard with
      | none => rw [hgd] at hgu; simp [Region.wanted, hgd, hgu]
      | some jw =>
        obtain ⟨j, want⟩ := jw
        rw [hgd] at hgu
        obtain ⟨d, t, h1, h2, h3⟩ := hgu
        rw [hgd] at hcg
        simp only [cGuard, h1] at hcg
        cases hcg
        have hs := hslots d (by rw [hco]; simp [slotsOf])
        have h2' : gv ((stP (dstF ops) ds s0 (fun _ => true) i).tm d) = some t := h2
        rw [← hs] at h2'
        have := guard_gv h1 (H.tm d) h2'
        rw [h3]
        simp only [Region.wanted, hgd, this]
        by_cases htw : t = some want <;> simp [htw]
    rw [hgo2]
    cases hg : (ds i).go with
    | true =>
      simp only [↓reduceIte]
      left
      refine hgo hg c A μ (frD ops f0 (Dl listed)) (stP (dstF ops) ds s0 (Dl listed) ops.size).tm (stP (dstF ops) ds s0 (Dl listed) ops.size).hp a w _ Q H ?_ ?_ ?_ ?_
      · intro t ht
        refine hslots t ?_
        rw [hco]
        unfold slotsOf
        exact List.mem_append.2 (.inl (List.mem_filterMap.2 ⟨_, ht, rfl⟩))
      · intro b hb; exact S.hp hcl ho hDi hr hb
      · intro j hj
        refine ⟨by omega, fun k hk hDk h => ?_⟩
        have : k ≠ i := by rintro rfl; rw [hDi] at hDk; cases hDk
        omega
      · intro a' w' A' μ' hr'
        refine ih _ a' w' A' μ' (by simpa using hsz) hcl' hunl ?_
        rw [t1, t2]
        exact hr'.free fun b hb => hfr b hb
    | false =>
      simp only [Bool.false_eq_true, ↓reduceIte]
      obtain ⟨q1, q2, q3⟩ := hng hg
      refine ih _ _ w A μ (by simpa using hsz) hcl' hunl ?_
      rw [t1, t2, q1, q2, hpEff_no]
      exact (H.put (v := .tup []) (cv := undef) o.dst hdn ⟨[], rfl, rfl⟩).free fun b hb => (hfr b hb).1
end
end Go.Am
