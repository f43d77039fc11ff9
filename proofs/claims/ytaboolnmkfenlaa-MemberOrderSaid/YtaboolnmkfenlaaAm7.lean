/- What one operation of the model does is what the compact operation says: slice expressions, conversions, building. -/
import Derived.Test.YtaboolnmkfenlaaAm6
namespace Go.Am
set_option linter.unusedVariables false
set_option linter.unusedSimpArgs false
section
variable {P : Program} {c : Ctx} {A : Nat → Prop} {μ : Mu} {fr : Nat → Prop} {tm : Nat → AV} {hp : Hp} {n : Nat} {a : Act} {w : World}

def OptI : Option Int → Option Value → Prop
  | none, none => True
  | some i, some (.int _ j) => j = i
  | _, _ => False

theorem run_sliceBound {k : IntKind} {i : Nat} {y : Nat} {code : BoundsCode} (h : i ≤ y) : (Instr.sliceBound (.int k i) y code).run P w = .ok i w := by
  have h1 : (0 : Int) ≤ (i : Int) := by omega
  have h2 : (i : Int) ≤ (y : Int) := by omega
  simp [Instr.sliceBound, run_asIntOf, h1, h2, h]

theorem OptI.none {v : Option Value} (h : OptI none v) : v = none := by cases v <;> simp_all [OptI]
theorem OptI.some {i : Int} {v : Option Value} (h : OptI (some i) v) : ∃ k, v = some (.int k i) := by
  cases v with
  | none => simp [OptI] at h
  | some x => cases x <;> simp_all [OptI]

theorem run_sliceBounds {isS : Bool} {ln cap : Nat} {lo hi mx : Option Int} {lo' hi' mx' : Option Value} (h1 : OptI lo lo') (h2 : OptI hi hi') (h3 : OptI mx mx')
    {l h m : Nat} (hm : m ≤ cap ∧ (mx = none → m = cap) ∧ ∀ i, mx = some i → i = m) (hh : h ≤ m ∧ (hi = none → h = ln ∧ mx = none) ∧ ∀ i, hi = some i → i = h)
    (hl : l ≤ h ∧ (lo = none → l = 0) ∧ ∀ i, lo = some i → i = l) :
    (Instr.sliceBounds isS ln cap lo' hi' mx').run P w = .ok (l, h, m) w := by
  obtain ⟨m1, m2, m3⟩ := hm
  obtain ⟨g1, g2, g3⟩ := hh
  obtain ⟨l1, l2, l3⟩ := hl
  cases lo with
  | none =>
    obtain rfl := h1.none
    obtain rfl := l2 rfl
    cases hi with
    | none =>
      obtain ⟨rfl, rfl⟩ := g2 rfl
      obtain rfl := h2.none
      obtain rfl := h3.none
      obtain rfl := m2 rfl
      simp [Instr.sliceBounds]
    | some i =>
      obtain ⟨k, rfl⟩ := h2.some
      obtain rfl := g3 i rfl
      cases mx with
      | none =>
        obtain rfl := h3.none
        obtain rfl := m2 rfl
        simp [Instr.sliceBounds, run_sliceBound g1]
      | some j =>
        obtain ⟨k, rfl⟩ := h3.some
        obtain rfl := m3 j rfl
        simp [Instr.sliceBounds, run_sliceBound g1, run_sliceBound m1]
  | some x =>
    obtain ⟨k, rfl⟩ := h1.some
    obtain rfl := l3 x rfl
    cases hi with
    | none =>
      obtain ⟨rfl, rfl⟩ := g2 rfl
      obtain rfl := h2.none
      obtain rfl := h3.none
      obtain rfl := m2 rfl
      simp [Instr.sliceBounds, run_sliceBound l1]
    | some i =>
      obtain ⟨k, rfl⟩ := h2.some
      obtain rfl := g3 i rfl
      cases mx with
      | none =>
        obtain rfl := h3.none
        obtain rfl := m2 rfl
        simp [Instr.sliceBounds, run_sliceBound g1, run_sliceBound l1]
      | some j =>
        obtain ⟨k, rfl⟩ := h3.some
        obtain rfl := m3 j rfl
        simp [Instr.sliceBounds, run_sliceBound g1, run_sliceBound m1, run_sliceBound l1]

theorem rvl_take_drop {xs : List AV} {vs : List Value} (h : RVL w A xs μ vs) (i j : Nat) : RVL w A ((xs.take i).drop j) μ ((vs.take i).drop j) := (h.take i).drop j

theorem flat_drop {vs : List Value} {k : Nat} (hk : ∀ v ∈ vs, v.cells.size = k) (j : Nat) : ((vs.drop j).flatMap (·.cells.toList)) = (vs.flatMap (·.cells.toList)).drop (j * k) := by
  induction j generalizing vs with
  | zero => simp
  | succ j ih =>
    cases vs with
    | nil => simp
    | cons x xs =>
      have hx := hk x (by simp)
      rw [List.drop_succ_cons, ih (fun v hv => hk v (by simp [hv])), List.flatMap_cons, Nat.add_mul, Nat.one_mul]
      rw [List.drop_append]
      have : x.cells.toList.length = k := by simpa using hx
      have e : List.drop (j * k + k) x.cells.toList = [] := List.drop_eq_nil_of_le (by omega)
      rw [e, this, List.nil_append, Nat.add_sub_cancel]
theorem flat_take {vs : List Value} {k : Nat} (hk : ∀ v ∈ vs, v.cells.size = k) (j : Nat) : ((vs.take j).flatMap (·.cells.toList)) = (vs.flatMap (·.cells.toList)).take (j * k) := by
  induction j generalizing vs with
  | zero => simp
  | succ j ih =>
    cases vs with
    | nil => simp
    | cons x xs =>
      have hx := hk x (by simp)
      rw [List.take_succ_cons, List.flatMap_cons, ih (fun v hv => hk v (by simp [hv])), List.flatMap_cons, Nat.add_mul, Nat.one_mul]
      rw [List.take_append]
      have : x.cells.toList.length = k := by simpa using hx
      have e : List.take (j * k + k) x.cells.toList = x.cells.toList := List.take_of_length_le (by omega)
      rw [e, this, Nat.add_sub_cancel]

theorem run_slice_ok {T e : TypeId} {k : Nat} (hu : P.underlying T = some (.slice e)) (hs : sizeOf? P e = some k) {a : Option Addr} {ln cap l h m : Nat} {lo' hi' mx' : Option Value}
    (hb : (Instr.sliceBounds true ln cap lo' hi' mx').run P w = .ok (l, h, m) w) :
    (Instr.sliceAt T (.slice a ln cap) lo' hi' mx').run P w = .ok (.slice (if m = l then a else a.map (·.add (l * k))) (h - l) (m - l)) w := by
  simp [Instr.sliceAt, Instr.slice, run_underlying hu, hb, run_sizeOf_of hs]

theorem bounds_row {ln cap l h m : Nat} {lo hi mx : Option Int} {lo' hi' mx' : Option Value} (h1 : OptI lo lo') (h2 : OptI hi hi') (h3 : OptI mx mx') (el : lo.getD 0 = l) (eh : hi.getD ln = h) (em : mx.getD cap = m)
    (c1 : mx.isSome = true → hi.isSome = true) (d3 : l ≤ h) (d4 : h ≤ m) (d5 : m ≤ cap) : (Instr.sliceBounds true ln cap lo' hi' mx').run P w = .ok (l, h, m) w := by
  have hlo : l ≤ h ∧ (lo = none → l = 0) ∧ ∀ i, lo = some i → i = l :=
    ⟨d3, fun e => by subst e; simp at el; omega, fun i e => by subst e; simpa using el⟩
  cases hmx : mx with
  | none =>
    subst hmx
    simp at em
    have em : cap = m := by omega
    subst em
    refine run_sliceBounds h1 h2 h3 ⟨Nat.le_refl _, fun _ => rfl, fun i e => by simp at e⟩ ⟨by omega, fun e => ?_, fun i e => ?_⟩ hlo
    · subst e; simp at eh; exact ⟨by omega, rfl⟩
    · subst e; simpa using eh
  | some j =>
    refine run_sliceBounds h1 h2 (hmx ▸ h3) ⟨by omega, fun e => by simp at e, fun i e => ?_⟩ ⟨d4, fun e => ?_, fun i e => ?_⟩ hlo
    · cases e; subst hmx; simpa using em
    · have := c1 (by simp [hmx]); rw [e] at this; simp at this
    · subst e; simpa using eh

theorem does_slice {T e : TypeId} {k : Nat} (hu : P.underlying T = some (.slice e)) (hs : sizeOf? P e = some k) (H : RelE c A μ fr tm hp n a w)
    {X : AV} {x : Value} {lo hi mx : Option Int} {lo' hi' mx' : Option Value} (h1 : OptI lo lo') (h2 : OptI hi hi') (h3 : OptI mx mx') (hx : RV w A X μ x)
    (hc : (sliceA hp k X lo hi mx).c) : Val P w A μ (Instr.sliceAt T x lo' hi' mx') (sliceA hp k X lo hi mx).v := by
  unfold Val
  unfold sliceA at hc ⊢
  split at hc
  · rename_i k' es full
    simp only at hc ⊢
    obtain ⟨c0, c1, c2, c3, c4, c5⟩ := hc
    have hn : ∃ l h m : Nat, lo.getD 0 = l ∧ hi.getD es.length = h ∧ mx.getD es.length = m := ⟨_, _, _, (Int.toNat_of_nonneg c2).symm, (Int.toNat_of_nonneg (by omega)).symm, (Int.toNat_of_nonneg (by omega)).symm⟩
    obtain ⟨l, h, m, el, eh, em⟩ := hn
    rw [el] at c2 c3; rw [eh] at c3 c4; rw [em] at c4 c5
    rw [el, eh, em]
    simp only [Int.toNat_natCast]
    have d3 : l ≤ h := by omega
    have d4 : h ≤ m := by omega
    have d5 : m ≤ es.length := by omega
    have bnd : ∀ cap, es.length ≤ cap → ∃ m', h ≤ m' ∧ m' ≤ cap ∧ (mx.isSome = true → m' = m) ∧ (mx = none → m' = cap) ∧ (Instr.sliceBounds true es.length cap lo' hi' mx').run P w = .ok (l, h, m') w := by
      intro cap hcap
      have hlo : l ≤ h ∧ (lo = none → l = 0) ∧ ∀ i, lo = some i → i = l :=
        ⟨d3, fun e => by subst e; simp at el; omega, fun i e => by subst e; simpa using el⟩
      cases hmx : mx with
      | none =>
        refine ⟨cap, by omega, Nat.le_refl _, fun h => by simp at h, fun _ => rfl, ?_⟩
        refine run_sliceBounds h1 h2 (hmx ▸ h3) ⟨Nat.le_refl _, fun _ => rfl, fun i e => by simp at e⟩ ⟨by omega, fun e => ?_, fun i e => ?_⟩ hlo
        · subst e; simp at eh; exact ⟨by omega, rfl⟩
        · subst e; simpa using eh
      | some j =>
        refine ⟨m, d4, by omega, fun _ => rfl, fun h => by simp at h, ?_⟩
        refine run_sliceBounds h1 h2 (hmx ▸ h3) ⟨by omega, fun e => by simp at e, fun i e => ?_⟩ ⟨d4, fun e => ?_, fun i e => ?_⟩ hlo
        · cases e; subst hmx; simpa using em
        · have := c1 (by simp [hmx]); rw [e] at this; simp at this
        · subst e; simpa using eh
    rcases hx with ⟨rfl, a0, rfl⟩ | ⟨blk, off, cap, vs, rfl, g1, g2, g3, g4, g5, g6, g7, g8⟩
    · obtain ⟨m', b1, b2, b3, b4, b5⟩ := bnd 0 (by simp)
      simp at d5
      refine ⟨_, run_slice_ok hu hs b5, .inl ⟨by simp, a0, ?_⟩⟩
      have : l = 0 := by omega
      have : h = 0 := by omega
      have : m' = 0 := by omega
      subst_vars; simp
    · obtain ⟨m', b1, b2, b3, b4, b5⟩ := bnd cap g2
      refine ⟨_, run_slice_ok hu hs b5, .inr ⟨blk, if m' = l then off else off + l * k, m' - l, (vs.take h).drop l, ?_, g1, ?_, ?_, ?_, rvl_take_drop g5 h l, ?_, ?_, fun x hx => g8 x (List.mem_of_mem_take (List.mem_of_mem_drop hx))⟩⟩
      · have : ((es.take h).drop l).length = h - l := by simp; omega
        rw [this]
        split <;> simp [Addr.add_lit]
      · simp; omega
      · omega
      · intro hf
        simp only [Bool.and_eq_true, decide_eq_true_eq, Bool.or_eq_true] at hf
        have hlen : ((es.take h).drop l).length = h - l := by simp; omega
        rw [hlen]
        obtain ⟨f1, f2⟩ := hf
        rcases f2 with f2 | f2
        · rw [b3 f2]; omega
        · have := g4 f2
          cases hmx : mx with
          | none => rw [hmx] at em; simp at em; rw [b4 hmx]; omega
          | some j => rw [b3 (by simp [hmx])]; omega
      · intro v hv
        have hv' : v ∈ vs := List.mem_of_mem_take (List.mem_of_mem_drop hv)
        have := g6 v hv'
        refine ⟨?_, this.2⟩
        rcases c0 with c0 | c0
        · rw [← c0]; exact this.1
        · subst c0; simp [RVL] at g5; subst g5; simp at hv'
      · intro p u hu'
        rcases c0 with c0 | c0
        · subst c0
          have hk : ∀ v ∈ vs, v.cells.size = k' := fun v hv => (g6 v hv).1
          rw [flat_drop (fun v hv => hk v (List.mem_of_mem_take hv)), flat_take hk, List.getElem?_drop, List.getElem?_take] at hu'
          split at hu'
          · rename_i hlt
            have := g7 _ _ hu'
            split
            · rename_i heq
              exfalso
              have : h = l := by omega
              subst this
              omega
            · rw [Nat.add_assoc]; exact this
          · cases hu'
        · subst c0; simp [RVL] at g5; subst g5; simp at hu'
  · rename_i b
    split at hc
    · rename_i k' es hb
      simp only [hb] at hc ⊢
      obtain ⟨rfl, c1, c2, c3, c4, c5⟩ := hc
      obtain ⟨hd, e1, e2⟩ := hx
      obtain ⟨hd', f1, f2, f3⟩ := H.vec hb
      rw [e1] at f1; cases f1
      have hn : ∃ l h m : Nat, lo.getD 0 = l ∧ hi.getD es.length = h ∧ mx.getD es.length = m := ⟨_, _, _, (Int.toNat_of_nonneg c2).symm, (Int.toNat_of_nonneg (by omega)).symm, (Int.toNat_of_nonneg (by omega)).symm⟩
      obtain ⟨l, h, m, el, eh, em⟩ := hn
      rw [el] at c2 c3; rw [eh] at c3 c4; rw [em] at c4 c5
      rw [el, eh]
      have bnd : ∀ cap, es.length ≤ cap → ∃ m', (mx = none → m' = cap) ∧ l ≤ m' ∧ (Instr.sliceBounds true es.length cap lo' hi' mx').run P w = .ok (l, h, m') w := by
        intro cap hcap
        cases hmx : mx with
        | none =>
          subst hmx
          exact ⟨cap, fun _ => rfl, by omega, bounds_row h1 h2 h3 el eh rfl c1 (by omega) (by simp at em; omega) (Nat.le_refl _)⟩
        | some j =>
          subst hmx
          exact ⟨m, (fun e => by cases e), by omega, bounds_row h1 h2 h3 el eh (by simpa using em) c1 (by omega) (by omega) (by omega)⟩
      have e3 : ((h : Int) - (l : Int)).toNat = h - l := by omega
      rw [e3]
      rcases f3 with ⟨rfl, a0, f3⟩ | ⟨g1, g2, g3, g4, _⟩
      · obtain ⟨m', b1, b2, b3⟩ := bnd 0 (by simp)
        have hv : x = .slice a0 0 0 := by rw [e2, Hd.val, f3]
        subst hv
        exact ⟨_, run_slice_ok hu hs b3, by simp [RV]⟩
      have hv : x = .slice (some ⟨hd.blk, 0, none⟩) es.length hd.cap := by rw [e2, Hd.val, g1, g2]
      subst hv
      obtain ⟨m', b1, b2, b3⟩ := bnd hd.cap (by omega)
      refine ⟨_, run_slice_ok hu hs b3, ?_⟩
      split
      case isFalse => trivial
      rename_i hmx
      have := b1 hmx.1
      subst this
      refine ⟨hd, hd.cap - l, if hd.cap = l then 0 else 0 + l * k', e1, g1, by omega, ?_, by omega, ?_⟩
      · intro h0; rw [if_neg (by omega)]; simp [f2]
      · split <;> simp [Addr.add_lit]
    · rename_i k' es len cap hb
      simp only [hb] at hc ⊢
      obtain ⟨rfl, c1, c2, c3, c4, c5⟩ := hc
      obtain ⟨hd, e1, e2⟩ := hx
      obtain ⟨hd', f1, f2, g1, g2, g3, g4, g5, g6, _⟩ := H.row hb
      rw [e1] at f1; cases f1
      have hn : ∃ l h m : Nat, lo.getD 0 = l ∧ hi.getD len = h ∧ mx.getD cap = m := ⟨_, _, _, (Int.toNat_of_nonneg c2).symm, (Int.toNat_of_nonneg (by omega)).symm, (Int.toNat_of_nonneg (by omega)).symm⟩
      obtain ⟨l, h, m, el, eh, em⟩ := hn
      rw [el] at c2 c3; rw [eh] at c3 c4; rw [em] at c4 c5
      rw [el, eh]
      have e3 : ((h : Int) - (l : Int)).toNat = h - l := by omega
      rw [e3]
      have hv : x = .slice (some ⟨hd.blk, 0, none⟩) len cap := by rw [e2, Hd.val, g1, g2, g3]
      subst hv
      refine ⟨_, run_slice_ok hu hs (bounds_row h1 h2 h3 el eh em c1 (by omega) (by omega) (by omega)), ?_⟩
      split
      case isFalse => trivial
      rename_i hmx
      subst hmx
      simp at em
      have em : m = cap := by omega
      subst em
      refine ⟨hd, m - l, if m = l then 0 else 0 + l * k', e1, g1, by omega, ?_, by omega, ?_⟩
      · intro h0; rw [if_neg (by omega)]; simp [f2]
      · split <;> simp [Addr.add_lit]
    · exact hc.elim
  · rename_i b o ln
    simp only at hc ⊢
    obtain ⟨rfl, c2, c3, c4, hb⟩ := hc
    obtain ⟨hd, cap, oo, e1, e2, e3, e4, e4', rfl⟩ := hx
    have f2 : hd.k = k := by
      rcases hb with ⟨es, hb⟩ | ⟨es, len, cap, hb⟩
      · obtain ⟨hd', f1, f2, _⟩ := H.vec hb
        rw [e1] at f1; cases f1; exact f2
      · obtain ⟨hd', f1, f2, _⟩ := H.row hb
        rw [e1] at f1; cases f1; exact f2
    have hn : ∃ l h : Nat, lo.getD 0 = l ∧ hi.getD ln = h := ⟨_, _, (Int.toNat_of_nonneg c2).symm, (Int.toNat_of_nonneg (by omega)).symm⟩
    obtain ⟨l, h, el, eh⟩ := hn
    rw [el] at c2 c3; rw [eh] at c3 c4
    rw [el, eh]
    have hb' : (Instr.sliceBounds true ln cap lo' hi' mx').run P w = .ok (l, h, cap) w := by
      refine run_sliceBounds h1 h2 h3 ⟨Nat.le_refl _, fun _ => rfl, fun i e => by simp at e⟩ ⟨by omega, fun e => ?_, fun i e => ?_⟩ ⟨by omega, fun e => ?_, fun i e => ?_⟩
      · subst e; simp at eh; exact ⟨by omega, rfl⟩
      · subst e; simpa using eh
      · subst e; simp at el; omega
      · subst e; simpa using el
    have e5 : ((h : Int) - (l : Int)).toNat = h - l := by omega
    rw [e5]
    refine ⟨_, run_slice_ok hu hs hb', hd, cap - l, if cap = l then oo else oo + l * k, e1, e2, by omega, ?_, by omega, ?_⟩
    · intro h0
      have : oo = o * hd.k := e4 (by omega)
      rw [if_neg (by omega), this, f2]; simp [Nat.add_mul]
    · split <;> simp [Addr.add_lit]
  · rename_i b o ln k'
    simp only at hc ⊢
    obtain ⟨rfl, rfl, c2, c3, c4⟩ := hc
    obtain ⟨hd, cap, oo, e1, e2, e3, e4, rfl⟩ := hx
    have hn : ∃ l h : Nat, lo.getD 0 = l ∧ hi.getD ln = h := ⟨_, _, (Int.toNat_of_nonneg c2).symm, (Int.toNat_of_nonneg (by omega)).symm⟩
    obtain ⟨l, h, el, eh⟩ := hn
    rw [el] at c2 c3; rw [eh] at c3 c4
    rw [el, eh]
    have hb' : (Instr.sliceBounds true ln cap lo' hi' mx').run P w = .ok (l, h, cap) w := by
      refine run_sliceBounds h1 h2 h3 ⟨Nat.le_refl _, fun _ => rfl, fun i e => by simp at e⟩ ⟨by omega, fun e => ?_, fun i e => ?_⟩ ⟨by omega, fun e => ?_, fun i e => ?_⟩
      · subst e; simp at eh; exact ⟨by omega, rfl⟩
      · subst e; simpa using eh
      · subst e; simp at el; omega
      · subst e; simpa using el
    have e5 : ((h : Int) - (l : Int)).toNat = h - l := by omega
    rw [e5]
    refine ⟨_, run_slice_ok hu hs hb', hd, cap - l, if cap = l then oo else oo + l * k', e1, e2, by omega, ?_, ?_⟩
    · intro h0
      have : oo = o := e4 (by omega)
      rw [if_neg (by omega), this]; simp
    · split <;> simp [Addr.add_lit]
  · exact hc.elim
end
end Go.Am
