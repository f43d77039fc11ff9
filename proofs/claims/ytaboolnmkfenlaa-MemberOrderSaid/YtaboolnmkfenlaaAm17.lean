/- A region whose order is drawn: every order that its edges allow does what the order of the text does. -/
import Derived.Test.YtaboolnmkfenlaaAm16
namespace Go.Am
set_option linter.unusedVariables false
set_option linter.unusedSimpArgs false

def bindOn (o : Oper) : List Nat := (o.after.toList.filter (Region.binds .any)).map (·.on)
def closM (acc : List Nat) (es : List Nat) : Nat := es.foldl (fun m e => m ||| (1 <<< e) ||| acc.getD e 0) 0
def clos : List (List Nat) → List Nat → List Nat
  | [], acc => acc
  | es :: E, acc => clos E (acc ++ [closM acc es])
def slotsOf (o : AOper) : List Nat := (o.op.opers.filterMap fun | .t t => some t | .c _ => none) ++ (match o.guard with | some (d, _) => [d] | none => [])
def slotIndep (x y : AOper) : Bool :=
  (match x.dst with | some d => !(slotsOf y).contains d && y.dst != some d | none => true) && (match y.dst with | some d => !(slotsOf x).contains d | none => true)
def depOf (cl : List Nat) (j i : Nat) : Bool := (cl.getD i 0).testBit j
def regOk (E : List (List Nat)) (cl : List Nat) (xs : List AOper) : Bool :=
  (E.zipIdx.all fun (es, i) => es.all fun e => decide (e < i)) &&
  (List.range xs.length).all fun i => (List.range i).all fun j => depOf cl j i || slotIndep (xs.getD j badOper) (xs.getD i badOper)
def parOf (cl : List Nat) (xs : List AOper) : List (Nat × Nat) :=
  (List.range xs.length).flatMap fun i => (List.range i).filterMap fun j =>
    if !depOf cl j i && heapy (xs.getD j badOper).op && heapy (xs.getD i badOper).op then some (j, i) else none

theorem testBit_foldl (acc : List Nat) (j : Nat) : ∀ (es : List Nat) (m : Nat), (es.foldl (fun m e => m ||| (1 <<< e) ||| acc.getD e 0) m).testBit j = true →
    m.testBit j = true ∨ ∃ e ∈ es, j = e ∨ (acc.getD e 0).testBit j = true
  | [], m, h => .inl h
  | e :: es, m, h => by
    rcases testBit_foldl acc j es _ h with h | ⟨e', h1, h2⟩
    · simp only [Nat.testBit_or, Bool.or_eq_true] at h
      rcases h with (h | h) | h
      · exact .inl h
      · refine .inr ⟨e, by simp, .inl ?_⟩
        rw [Nat.one_shiftLeft, Nat.testBit_two_pow] at h
        simpa using (of_decide_eq_true h).symm
      · exact .inr ⟨e, by simp, .inr h⟩
    · exact .inr ⟨e', by simp [h1], h2⟩

theorem clos_length : ∀ (E : List (List Nat)) (acc : List Nat), (clos E acc).length = acc.length + E.length
  | [], acc => by simp [clos]
  | es :: E, acc => by simp [clos, clos_length E]; omega
theorem clos_prefix : ∀ (E : List (List Nat)) (acc : List Nat) (i : Nat), i < acc.length → (clos E acc).getD i 0 = acc.getD i 0
  | [], acc, i, _ => rfl
  | es :: E, acc, i, h => by
    rw [clos, clos_prefix E _ i (by simp; omega)]
    simp [List.getD, List.getElem?_append_left h]
theorem clos_at : ∀ (E : List (List Nat)) (acc : List Nat) (k : Nat) (es : List Nat), E[k]? = some es →
    (clos E acc).getD (acc.length + k) 0 = closM ((clos E acc).take (acc.length + k)) es
  | [], acc, k, es, h => by simp at h
  | es0 :: E, acc, 0, es, h => by
    simp at h; subst h
    rw [clos, clos_prefix E _ _ (by simp)]
    have h1 : (clos E (acc ++ [closM acc es0])).take (acc.length + 0) = acc := by
      have : ∀ (E : List (List Nat)) (b acc : List Nat), ∃ t, clos E (acc ++ b) = acc ++ t := by
        intro E
        induction E with
        | nil => intro b acc; exact ⟨b, rfl⟩
        | cons e E ih => intro b acc; rw [clos, List.append_assoc]; exact ih _ _
      obtain ⟨t, ht⟩ := this E [closM acc es0] acc
      rw [ht]; simp
    rw [h1]
    simp [List.getD]
  | es0 :: E, acc, k + 1, es, h => by
    rw [clos]
    have := clos_at E (acc ++ [closM acc es0]) k es (by simpa using h)
    simp only [List.length_append, List.length_cons, List.length_nil, Nat.zero_add] at this
    rw [show acc.length + (k + 1) = acc.length + 1 + k by omega]
    exact this

theorem dep_step {E : List (List Nat)} {i j : Nat} {es : List Nat} (hE : E[i]? = some es) (h : depOf (clos E []) j i = true) : ∃ e ∈ es, j = e ∨ (e < i ∧ depOf (clos E []) j e = true) := by
  have h1 := clos_at E [] i es hE
  simp only [List.length_nil, Nat.zero_add] at h1
  unfold depOf at h
  rw [h1] at h
  rcases testBit_foldl _ j es 0 h with h | ⟨e, he, h⟩
  · simp at h
  · rcases h with h | h
    · exact ⟨e, he, .inl h⟩
    · refine ⟨e, he, .inr ?_⟩
      by_cases hlt : e < i
      · refine ⟨hlt, ?_⟩
        unfold depOf
        have : ((clos E []).take i).getD e 0 = (clos E []).getD e 0 := by
          simp [List.getD, List.getElem?_take, hlt]
        rw [← this]; exact h
      · exfalso
        have : ((clos E []).take i).getD e 0 = 0 := by
          simp [List.getD, List.getElem?_take, hlt]
        rw [this] at h; simp at h

/-- A set that holds the edges' ends of its members holds all that they hang on. -/
theorem dep_closed {E : List (List Nat)} {D : Nat → Bool} (hD : ∀ i es, E[i]? = some es → D i = true → ∀ e ∈ es, D e = true) : ∀ (i j : Nat), i < E.length → depOf (clos E []) j i = true → D i = true → D j = true := by
  intro i
  induction i using Nat.strongRecOn with
  | _ i ih =>
    intro j hi h hDi
    have hE : E[i]? = some E[i] := List.getElem?_eq_getElem hi
    obtain ⟨e, he, h | ⟨hlt, h⟩⟩ := dep_step hE h
    · subst h; exact hD i _ hE hDi _ he
    · exact ih e hlt j (by omega) h (hD i _ hE hDi e he)

/-! ### What the run in the order of the text leaves -/
def Good (P : Program) (n : Nat) (ops : Array Oper) (f0 : Nat) (ds : Nat → Dat) (s0 : S2) (i : Nat) : Prop :=
  ∃ o, ops[i]? = some o ∧ (∀ d, o.dst = some d → d < n) ∧ (∃ g, cOper P n ops o = { dst := o.dst, op := cOp P o.op o.type, guard := g } ∧ cGuard ops o.guard = some g) ∧
    (match o.guard with
      | none => (ds i).go = true
      | some (j, want) => ∃ d t, (ops[j]?).bind (·.dst) = some d ∧ gv ((stP (fun i => (ops[i]?).bind (·.dst)) ds s0 (fun _ => true) i).tm d) = some t ∧ (ds i).go = decide (t = some want)) ∧
    ((ds i).go = true → StepOk P n o (f0 + 16 * i) (stP (fun i => (ops[i]?).bind (·.dst)) ds s0 (fun _ => true) i).tm (stP (fun i => (ops[i]?).bind (·.dst)) ds s0 (fun _ => true) i).hp (ds i).rd (ds i).v (ds i).e) ∧
    ((ds i).go = false → (ds i).v = .tup [] ∧ (ds i).e = noEff ∧ (ds i).rd = []) ∧ (∀ b, (ds i).e b ≠ none → b ∈ (ds i).wr) ∧
    (heapy (cOp P o.op o.type) = false → (ds i).rd = [] ∧ (ds i).e = noEff)

theorem stP_congr {dsts : Nat → Option Nat} {ds ds' : Nat → Dat} {s0 : S2} {D : Nat → Bool} : ∀ {k : Nat}, (∀ i, i < k → ds i = ds' i) → stP dsts ds s0 D k = stP dsts ds' s0 D k := by
  intro k h
  have h1 : ∀ (k x : Nat), (∀ i, i < k → ds i = ds' i) → accP s0.tm (gT dsts ds) D k x = accP s0.tm (gT dsts ds') D k x := by
    intro k x
    induction k with
    | zero => intro _; rfl
    | succ k ih => intro h; simp only [accP, ih fun i hi => h i (by omega), gT, h k (by omega)]
  have h2 : ∀ (k x : Nat), (∀ i, i < k → ds i = ds' i) → accP s0.hp (gH ds) D k x = accP s0.hp (gH ds') D k x := by
    intro k x
    induction k with
    | zero => intro _; rfl
    | succ k ih => intro h; simp only [accP, ih fun i hi => h i (by omega), gH, h k (by omega)]
  unfold stP
  rw [show accP s0.tm (gT dsts ds) D k = accP s0.tm (gT dsts ds') D k from funext fun x => h1 k x h, show accP s0.hp (gH ds) D k = accP s0.hp (gH ds') D k from funext fun x => h2 k x h]

theorem Good.congr {P : Program} {n : Nat} {ops : Array Oper} {f0 : Nat} {ds ds' : Nat → Dat} {s0 : S2} {i : Nat} (h : ∀ j, j ≤ i → ds j = ds' j) (hg : Good P n ops f0 ds s0 i) : Good P n ops f0 ds' s0 i := by
  unfold Good at *
  rw [← stP_congr (ds := ds) (ds' := ds') (k := i) fun j hj => h j (by omega), ← h i (Nat.le_refl _)]
  exact hg

def logOf (ds : Nat → Dat) (k : Nat) : Log := (List.range k).map fun i => ((ds i).rd, (ds i).wr)

theorem logOf_succ (ds : Nat → Dat) (k : Nat) : logOf ds (k + 1) = logOf ds k ++ [((ds k).rd, (ds k).wr)] := by simp [logOf, List.range_succ]
theorem logOf_congr {ds ds' : Nat → Dat} {k : Nat} (h : ∀ i, i < k → ds i = ds' i) : logOf ds k = logOf ds' k := by
  unfold logOf
  exact List.map_congr_left fun i hi => by rw [h i (List.mem_range.1 hi)]

theorem exD_step {P : Program} {n : Nat} {o : Oper} {f : Nat} {s : S2} {K : S2 → List Nat × List Nat → Prop} (hd : ∀ d, o.dst = some d → d < n) {g : Option (Nat × Bool)} (h : exD P n { dst := o.dst, op := cOp P o.op o.type, guard := g } f s K) :
    ∃ rd wr v e, StepOk P n o f s.tm s.hp rd v e ∧ (∀ b, e b ≠ none → b ∈ wr) ∧ (heapy (cOp P o.op o.type) = false → rd = [] ∧ e = noEff) ∧ K ⟨putD o.dst v s.tm, hpEff e s.hp⟩ (rd, wr) := by
  unfold exD at h
  simp only at h
  split at h
  · rename_i k N z ps hop
    rcases h with ⟨h1, h2⟩ | ⟨h1, h2⟩
    · refine ⟨rdH (.lit k N z ps) s.tm, [], _, _, by rw [← hop]; exact stepA' hd (by rw [hop]; exact h1), fun b hb => ?_, fun hh => by rw [hop] at hh; simp [heapy] at hh, by rw [hpEff_out, hop]; exact h2⟩
      rw [hop] at hb
      exact absurd rfl hb
    · refine ⟨[], [f], _, _, stepL hop hd h1, fun b hb => ?_, fun hh => by rw [hop] at hh; simp [heapy] at hh, by rw [hpEff_out]; exact h2⟩
      have := wrH_spec hb
      simpa [wrH, evL] using this
  · rename_i gg xs hop
    obtain ⟨fid, caps, foot, v, e, wr, h1, h2, h3, h4⟩ := h
    rcases h2 with h2 | ⟨h2, rfl⟩
    · exact ⟨foot, wr, v, e, stepCall hop hd h1 h2, h3, fun hh => by rw [hop] at hh; simp [heapy] at hh, h4⟩
    · exact ⟨foot, wr, v, noEff, stepExt hop hd h1 h2, h3, fun hh => by rw [hop] at hh; simp [heapy] at hh, h4⟩
  · rename_i op hop
    obtain ⟨h1, h2⟩ := h
    refine ⟨_, _, _, _, stepA' hd h1, fun b hb => wrH_spec hb, fun hh => ?_, by rw [hpEff_out]; exact h2⟩
    have := evA_free hh (f := f) (ρ := evO s.tm) (hp := s.hp) (hp' := s.hp)
    refine ⟨by unfold rdH; simp [hh], ?_⟩
    funext b
    simp [outEff, this.2.1, this.2.2, noEff]

theorem evD_data {P : Program} {n : Nat} {ops : Array Oper} {f0 : Nat} {s0 : S2} {K : S2 → Nat → Log → Prop} :
    ∀ (l : List Oper) (k : Nat) (ds : Nat → Dat), k ≤ ops.size → ops.toList.drop k = l → (∀ i, i < k → Good P n ops f0 ds s0 i) →
      evD P n (l.map (cOper P n ops)) (f0 + 16 * k) (stP (fun i => (ops[i]?).bind (·.dst)) ds s0 (fun _ => true) k) (logOf ds k) K →
      ∃ ds', (∀ i, i < ops.size → Good P n ops f0 ds' s0 i) ∧ K (stP (fun i => (ops[i]?).bind (·.dst)) ds' s0 (fun _ => true) ops.size) (f0 + 16 * ops.size) (logOf ds' ops.size)
  | [], k, ds, hle, hl, hg, h => by
    have hk : k = ops.size := by
      have := congrArg List.length hl
      simp at this; omega
    subst hk
    exact ⟨ds, hg, h⟩
  | o :: l, k, ds, hle, hl, hg, h => by
    have hlt : k < ops.size := by
      have := congrArg List.length hl
      simp at this; omega
    have ho : ops[k]? = some o := by
      have : (ops.toList.drop k)[0]? = some o := by rw [hl]; rfl
      rw [List.getElem?_drop] at this
      simpa using this
    have hl' : ops.toList.drop (k + 1) = l := by rw [← List.drop_drop, hl]; rfl
    -- one more datum
    have next : ∀ d : Dat, Good P n ops f0 (upd ds k d) s0 k → evD P n (l.map (cOper P n ops)) (f0 + 16 * k + 16) ⟨putD o.dst d.v (stP (fun i => (ops[i]?).bind (·.dst)) ds s0 (fun _ => true) k).tm, hpEff d.e (stP (fun i => (ops[i]?).bind (·.dst)) ds s0 (fun _ => true) k).hp⟩ (logOf ds k ++ [(d.rd, d.wr)]) K →
        ∃ ds', (∀ i, i < ops.size → Good P n ops f0 ds' s0 i) ∧ K (stP (fun i => (ops[i]?).bind (·.dst)) ds' s0 (fun _ => true) ops.size) (f0 + 16 * ops.size) (logOf ds' ops.size) := by
      intro d h1 h2
      have hpre : ∀ i, i < k → ds i = upd ds k d i := fun i hi => by rw [upd_ne _ _ (by omega)]
      refine evD_data l (k + 1) (upd ds k d) (by omega) hl' (fun i hi => ?_) ?_
      · by_cases hik : i = k
        · subst hik; exact h1
        · exact (hg i (by omega)).congr fun j hj => hpre j (by omega)
      · rw [stP_succ _ _ _ _ _ rfl, logOf_succ, ← stP_congr hpre, ← logOf_congr hpre]
        simp only [upd_same, ho, Option.bind_some]
        rw [show f0 + 16 * (k + 1) = f0 + 16 * k + 16 by omega]
        exact h2
    have hst : ∀ d : Dat, stP (fun i => (ops[i]?).bind (·.dst)) (upd ds k d) s0 (fun _ => true) k = stP (fun i => (ops[i]?).bind (·.dst)) ds s0 (fun _ => true) k :=
      fun d => stP_congr fun i hi => upd_ne _ _ (by omega)
    rw [List.map_cons] at h
    rcases cOper_cases P n ops o with hb | ⟨g, hgd, hd, hb⟩
    · rw [hb] at h
      simp only [evD, badOper, exD, evA, Out.bad] at h
      exact h.1.elim
    rw [hb] at h
    simp only [evD] at h
    cases hgo : o.guard with
    | none =>
      have hg0 : g = none := by rw [hgo] at hgd; simpa [cGuard] using hgd.symm
      subst hg0
      simp only at h
      obtain ⟨rd, wr, v, e, e1, e2, e3, e4⟩ := exD_step hd h
      refine next ⟨true, v, e, rd, wr⟩ ⟨o, ho, hd, ⟨_, hb, hgd⟩, ?_, ?_, ?_, ?_, ?_⟩ e4
      · simp [hgo, upd_same]
      · intro _; rw [hst, upd_same]; exact e1
      · intro hf; rw [upd_same] at hf; cases hf
      · rw [upd_same]; exact e2
      · rw [upd_same]; exact e3
    | some jw =>
      obtain ⟨j, want⟩ := jw
      rw [hgo] at hgd
      simp only [cGuard] at hgd
      split at hgd
      case h_2 => cases hgd
      rename_i d hj
      cases hgd
      obtain ⟨t, h1, h2, h3⟩ := h
      by_cases ht : t = some want
      · obtain ⟨rd, wr, v, e, e1, e2, e3, e4⟩ := exD_step hd (h2 ht)
        refine next ⟨true, v, e, rd, wr⟩ ⟨o, ho, hd, ⟨_, hb, ?_⟩, ?_, ?_, ?_, ?_, ?_⟩ e4
        · rw [hgo]; simp only [cGuard, hj]
        · rw [hgo]; exact ⟨d, t, hj, by rw [hst]; exact h1, by rw [upd_same]; simp [ht]⟩
        · intro _; rw [hst, upd_same]; exact e1
        · intro hf; rw [upd_same] at hf; cases hf
        · rw [upd_same]; exact e2
        · rw [upd_same]; exact e3
      · refine next ⟨false, .tup [], noEff, [], []⟩ ⟨o, ho, hd, ⟨_, hb, ?_⟩, ?_, ?_, ?_, ?_, ?_⟩ ?_
        · rw [hgo]; simp only [cGuard, hj]
        · rw [hgo]; exact ⟨d, t, hj, by rw [hst]; exact h1, by rw [upd_same]; simp [ht]⟩
        · intro hf; rw [upd_same] at hf; cases hf
        · intro _; rw [upd_same]; exact ⟨rfl, rfl, rfl⟩
        · rw [upd_same]; intro b hb; exact absurd rfl hb
        · intro _; rw [upd_same]; exact ⟨rfl, rfl⟩
        · rw [hpEff_no]; exact h3 ht
end Go.Am
