/- The machine Mx: code. -/
import Derived.Test.YtglfecmdoekabaaMx4
namespace Go.Am
set_option linter.unusedVariables false
set_option linter.unusedSimpArgs false

section
variable {P : Program} {Sf : Nat → Type} {T : Type}
/-! ### Regions -/
def nilR (hp : Hp) (ptr : Bool) (x : AV) (K : Bool → Prop) : Prop :=
  match ptr, x with
  | true, .ref _ _ => K false
  | true, .eref _ _ _ => K false
  | true, .rptr _ _ => K false
  | true, .val (.pointer none) => K true
  | false, .sl _ es _ => ∀ t : Bool, (es ≠ [] → t = false) → K t
  | false, .vec b => match hp b with
    | some (.vec _ es) => ∀ t : Bool, (es ≠ [] → t = false) → K t
    | _ => False
  | _, _ => False
def op1T (o : AOper) (f : Nat) (s : S2) (a : An P Sf T) (K : KO P Sf T) : Prop :=
  match o.op with
  | .isNil ptr ne x => nilR s.hp ptr (evO s.tm x) fun t => K a ⟨putD o.dst (.bool (t != ne)) s.tm, s.hp⟩ ([], [])
  | _ => opR o f s a K
def runT : List AOper → Nat → S2 → An P Sf T → (An P Sf T → S2 → Nat → Prop) → Prop
  | [], f, s, a, K => K a s f
  | o :: os, f, s, a, K => match o.guard with
    | none => op1T o f s a fun a' s' _ => runT os (f + 16) s' a' K
    | some (d, want) => match s.tm d with
      | .val (.bool b) => match want with
        | true => cond b (op1T o f ⟨upd s.tm d (.val (.bool true)), s.hp⟩ (a.l f) fun a' s' _ => runT os (f + 16) s' a' K) (runT os (f + 16) ⟨putD o.dst (.tup []) (upd s.tm d (.val (.bool false))), s.hp⟩ (a.r f) K)
        | false => cond b (runT os (f + 16) ⟨putD o.dst (.tup []) (upd s.tm d (.val (.bool true))), s.hp⟩ (a.l f) K) (op1T o f ⟨upd s.tm d (.val (.bool false)), s.hp⟩ (a.r f) fun a' s' _ => runT os (f + 16) s' a' K)
      | .tup [] => runT os (f + 16) ⟨putD o.dst (.tup []) s.tm, s.hp⟩ a K
      | _ => False
def runD : List AOper → Nat → S2 → Log → An P Sf T → (An P Sf T → S2 → Nat → Log → Prop) → Prop
  | [], f, s, lg, a, K => K a s f lg
  | o :: os, f, s, lg, a, K => match o.guard with
    | none => opR o f s a fun a' s' l => runD os (f + 16) s' (lg ++ [l]) a' K
    | some (d, want) => match s.tm d with
      | .val (.bool b) => match want with
        | true => cond b (opR o f ⟨upd s.tm d (.val (.bool true)), s.hp⟩ (a.l f) fun a' s' l => runD os (f + 16) s' (lg ++ [l]) a' K) (runD os (f + 16) ⟨putD o.dst (.tup []) (upd s.tm d (.val (.bool false))), s.hp⟩ (lg ++ [([], [])]) (a.r f) K)
        | false => cond b (runD os (f + 16) ⟨putD o.dst (.tup []) (upd s.tm d (.val (.bool true))), s.hp⟩ (lg ++ [([], [])]) (a.l f) K) (opR o f ⟨upd s.tm d (.val (.bool false)), s.hp⟩ (a.r f) fun a' s' l => runD os (f + 16) s' (lg ++ [l]) a' K)
      | .tup [] => runD os (f + 16) ⟨putD o.dst (.tup []) s.tm, s.hp⟩ (lg ++ [([], [])]) a K
      | _ => False

theorem upd_self {α : Type} {f : Nat → α} {t : Nat} {v : α} (h : f t = v) : upd f t v = f := by
  funext x
  by_cases e : x = t
  · subst e; rw [upd_same, h]
  · rw [upd_ne _ _ e]
theorem exT_plainOp {n : Nat} {o : AOper} {f : Nat} {s s' : S2} {l : List Nat × List Nat} (h : Goes P n o f s s' l) {K : S2 → Prop} (hK : K s') : exT P n o f s K := h.1 K hK
theorem nilR_ok {hp : Hp} {ptr : Bool} {x : AV} {K : Bool → Prop} (h : nilR hp ptr x K) : nilOk ptr x ∧ ∀ t, nilA hp x t → K t := by
  unfold nilR at h
  split at h
  · exact ⟨trivial, fun t ht => by have ht : t = false := ht; rw [ht]; exact h⟩
  · exact ⟨trivial, fun t ht => by have ht : t = false := ht; rw [ht]; exact h⟩
  · exact ⟨trivial, fun t ht => by have ht : t = false := ht; rw [ht]; exact h⟩
  · exact ⟨trivial, fun t ht => by have ht : t = true := ht; rw [ht]; exact h⟩
  · exact ⟨trivial, fun t ht => h t ht⟩
  · split at h
    · rename_i e
      refine ⟨trivial, fun t ht => h t ?_⟩
      simp only [nilA, e] at ht; exact ht
    · exact h.elim
  · exact h.elim
theorem op1T_ok {n : Nat} {o : AOper} {f : Nat} {s : S2} {a : An P Sf T} {K : KO P Sf T} {K' : S2 → Prop} (h : op1T o f s a K) (hK : ∀ a' s' l, K a' s' l → K' s') : exT P n o f s K' := by
  unfold op1T at h
  split at h
  · rename_i ptr ne x e
    obtain ⟨d, op, g⟩ := o
    simp only at e; subst e
    obtain ⟨h1, h2⟩ := nilR_ok h
    exact ⟨h1, fun t ht => hK _ _ _ (h2 t ht)⟩
  · obtain ⟨a', s', l, h1, h2⟩ := opR_ok (n := n) h
    exact h2.1 K' (hK _ _ _ h1)
theorem runT_ok {n : Nat} {K' : S2 → Nat → Prop} {K : An P Sf T → S2 → Nat → Prop} (hK : ∀ a s f, K a s f → K' s f) :
    ∀ {os : List AOper} {f : Nat} {s : S2} {a : An P Sf T}, runT os f s a K → evT P n os f s K'
  | [], f, s, a, h => hK _ _ _ h
  | o :: os, f, s, a, h => by
    unfold runT at h
    unfold evT
    split at h
    · rename_i e; rw [e]
      exact op1T_ok h fun a' s' l h => runT_ok hK h
    · rename_i d want e; rw [e]
      obtain ⟨tm, hp⟩ := s
      split at h
      · rename_i b eb
        have eb : tm d = .val (.bool b) := eb
        refine ⟨some b, by show gv (tm d) = _; rw [eb]; rfl, fun ht => ?_, fun ht => ?_⟩
        · simp only [Option.some.injEq] at ht; subst ht
          cases b with
          | true =>
            have h : op1T o f ⟨upd tm d (.val (.bool true)), hp⟩ (a.l f) (fun a' s' _ => runT os (f + 16) s' a' K) := h
            rw [upd_self eb] at h
            exact op1T_ok h fun a' s' l h => runT_ok hK h
          | false =>
            have h : op1T o f ⟨upd tm d (.val (.bool false)), hp⟩ (a.r f) (fun a' s' _ => runT os (f + 16) s' a' K) := h
            rw [upd_self eb] at h
            exact op1T_ok h fun a' s' l h => runT_ok hK h
        · cases b with
          | true => cases want with
            | true => exact absurd rfl ht
            | false =>
              have h : runT os (f + 16) ⟨putD o.dst (.tup []) (upd tm d (.val (.bool true))), hp⟩ (a.l f) K := h
              rw [upd_self eb] at h
              exact runT_ok hK h
          | false => cases want with
            | false => exact absurd rfl ht
            | true =>
              have h : runT os (f + 16) ⟨putD o.dst (.tup []) (upd tm d (.val (.bool false))), hp⟩ (a.r f) K := h
              rw [upd_self eb] at h
              exact runT_ok hK h
      · rename_i eb
        exact ⟨none, by show gv (tm d) = _; rw [show tm d = .tup [] from eb]; rfl, fun ht => by simp at ht, fun _ => runT_ok hK h⟩
      · exact h.elim
theorem runD_ok {n : Nat} {K' : S2 → Nat → Log → Prop} {K : An P Sf T → S2 → Nat → Log → Prop} (hK : ∀ a s f lg, K a s f lg → K' s f lg) :
    ∀ {os : List AOper} {f : Nat} {s : S2} {lg : Log} {a : An P Sf T}, runD os f s lg a K → evD P n os f s lg K'
  | [], f, s, lg, a, h => hK _ _ _ _ h
  | o :: os, f, s, lg, a, h => by
    unfold runD at h
    unfold evD
    have step : ∀ {s : S2} {a : An P Sf T}, opR o f s a (fun a' s' l => runD os (f + 16) s' (lg ++ [l]) a' K) → exD P n o f s fun s' l => evD P n os (f + 16) s' (lg ++ [l]) K' := fun h => by
      obtain ⟨a', s', l, h1, h2⟩ := opR_ok (n := n) h
      exact h2.2 _ (runD_ok hK h1)
    split at h
    · rename_i e; rw [e]
      exact step h
    · rename_i d want e; rw [e]
      obtain ⟨tm, hp⟩ := s
      split at h
      · rename_i b eb
        have eb : tm d = .val (.bool b) := eb
        refine ⟨some b, by show gv (tm d) = _; rw [eb]; rfl, fun ht => ?_, fun ht => ?_⟩
        · simp only [Option.some.injEq] at ht; subst ht
          cases b with
          | true =>
            have h : opR o f ⟨upd tm d (.val (.bool true)), hp⟩ (a.l f) (fun a' s' l => runD os (f + 16) s' (lg ++ [l]) a' K) := h
            rw [upd_self eb] at h
            exact step h
          | false =>
            have h : opR o f ⟨upd tm d (.val (.bool false)), hp⟩ (a.r f) (fun a' s' l => runD os (f + 16) s' (lg ++ [l]) a' K) := h
            rw [upd_self eb] at h
            exact step h
        · cases b with
          | true => cases want with
            | true => exact absurd rfl ht
            | false =>
              have h : runD os (f + 16) ⟨putD o.dst (.tup []) (upd tm d (.val (.bool true))), hp⟩ (lg ++ [([], [])]) (a.l f) K := h
              rw [upd_self eb] at h
              exact runD_ok hK h
          | false => cases want with
            | false => exact absurd rfl ht
            | true =>
              have h : runD os (f + 16) ⟨putD o.dst (.tup []) (upd tm d (.val (.bool false))), hp⟩ (lg ++ [([], [])]) (a.r f) K := h
              rw [upd_self eb] at h
              exact runD_ok hK h
      · rename_i eb
        exact ⟨none, by show gv (tm d) = _; rw [show tm d = .tup [] from eb]; rfl, fun ht => by simp at ht, fun _ => runD_ok hK h⟩
      · exact h.elim
end

/-! ### Commands -/
def gvV (b b' : Nat) : Blk → AV
  | .vec k es => cond (Nat.beq b' b) (.sl k es false) (.vec b')
  | _ => .vec b'
def gvF (b b' o : Nat) : Blk → AV
  | .box x => cond (Nat.beq b' b) (.rptr x o) (.ref b' o)
  | _ => .ref b' o
mutual
def gvA (b : Nat) (x0 : Blk) : AV → AV
  | .vec b' => gvV b b' x0
  | .ref b' o => gvF b b' o x0
  | .agg cs => .agg (gvL b x0 cs)
  | .tup cs => .tup (gvL b x0 cs)
  | .func f cs => .func f (gvL b x0 cs)
  | .val v => .val v
  | .sl k es full => .sl k es full
  | .rptr x o => .rptr x o
  | .eref b i o => .eref b i o
  | .vsub b i o => .vsub b i o
  | .asub b i o k => .asub b i o k
  | .unk => .unk
def gvL (b : Nat) (x0 : Blk) : List AV → List AV
  | [] => []
  | x :: xs => gvA b x0 x :: gvL b x0 xs
end
mutual
theorem gvA_ok {b : Nat} {x0 : Blk} {hp : Hp} (hb : hp b = some x0) (hx : x0.pureB = true) : ∀ (x : AV), Give b hp x (gvA b x0 x)
  | .vec b' => by
    rw [gvA]
    cases x0 with
    | vec k es =>
      show Give b hp (.vec b') (cond (Nat.beq b' b) (.sl k es false) (.vec b'))
      cases e : Nat.beq b' b with
      | true => rw [Nat.eq_of_beq_eq_true e]; exact Give.vec hb (pureBL_ok hx)
      | false => exact Give.refl
    | box _ => exact Give.refl
    | row _ _ _ _ => exact Give.refl
  | .ref b' o => by
    rw [gvA]
    cases x0 with
    | box x =>
      show Give b hp (.ref b' o) (cond (Nat.beq b' b) (.rptr x o) (.ref b' o))
      cases e : Nat.beq b' b with
      | true => rw [Nat.eq_of_beq_eq_true e]; exact Give.ref hb (AV.pureB_ok hx)
      | false => exact Give.refl
    | vec _ _ => exact Give.refl
    | row _ _ _ _ => exact Give.refl
  | .agg cs => by rw [gvA]; exact Give.agg (gvL_ok hb hx cs)
  | .tup cs => by rw [gvA]; exact Give.tup (gvL_ok hb hx cs)
  | .func f cs => by rw [gvA]; exact Give.func (gvL_ok hb hx cs)
  | .val v => by rw [gvA]; exact Give.refl
  | .sl k es full => by rw [gvA]; exact Give.refl
  | .rptr x o => by rw [gvA]; exact Give.refl
  | .eref b i o => by rw [gvA]; exact Give.refl
  | .vsub b i o => by rw [gvA]; exact Give.refl
  | .asub b i o k => by rw [gvA]; exact Give.refl
  | .unk => by rw [gvA]; exact Give.refl
theorem gvL_ok {b : Nat} {x0 : Blk} {hp : Hp} (hb : hp b = some x0) (hx : x0.pureB = true) : ∀ (xs : List AV), GiveL b hp xs (gvL b x0 xs)
  | [] => by rw [gvL]; trivial
  | x :: xs => by rw [gvL]; exact ⟨gvA_ok hb hx x, gvL_ok hb hx xs⟩
end
theorem gvA_solid {b : Nat} {x0 : Blk} {x : AV} (h : x.solid = true) : (gvA b x0 x).solid = true := by
  cases x <;> rw [gvA] <;> first | exact h | rfl | skip
  · cases x0 with
    | box x => show (cond _ _ _ : AV).solid = true; cases Nat.beq _ b <;> rfl
    | vec _ _ => rfl
    | row _ _ _ _ => rfl
  · cases x0 with
    | vec k es => show (cond _ _ _ : AV).solid = true; cases Nat.beq _ b <;> rfl
    | box _ => rfl
    | row _ _ _ _ => rfl
def gvB (b : Nat) (x0 : Blk) : Option Blk → Option Blk
  | some (.box y) => some (.box (gvA b x0 y))
  | x => x
theorem Weak.give2 {k n : Nat} {s s' : S3} (b : Nat) (hnx : s'.nx = s.nx) (h1 : ∀ t, s'.tm t = .unk ∨ Give b s.hp (s.tm t) (s'.tm t))
    (h2 : ∀ b' x, s'.hp b' = some x → b' ≠ b ∧ (s.hp b' = some x ∨ (∃ y z, s.hp b' = some (.box y) ∧ x = .box z ∧ z.solid = true ∧ Give b s.hp y z) ∨ ∃ kk es es', s.hp b' = some (.vec kk es) ∧ x = .vec kk es' ∧ es'.length = es.length ∧ GiveL b s.hp es es' ∧ ((∀ z ∈ es, z.solid = true) → ∀ z ∈ es', z.solid = true))) (hb : s.hp b ≠ none) : Weak k n s s' := by
  rintro P c a w ⟨h0, A, μ, H⟩
  have hle : ∀ k, A k → A k ∨ ∃ hd, μ b = some hd ∧ hd.emp = none ∧ hd.blk = k := fun _ h => .inl h
  have hlive : ∃ x hd, s.hp b = some x ∧ μ b = some hd ∧ (hd.emp = none → ¬ A hd.blk ∧ hd.blk < w.heap.size ∧ (c.own hd.blk ∨ c.w.heap.size ≤ hd.blk)) := by
    cases hx : s.hp b with
    | none => exact absurd hx hb
    | some x => obtain ⟨hd, e1, _, e3⟩ := H.blk b x hx; exact ⟨x, hd, rfl, e1, e3⟩
  obtain ⟨xb, hdb, hxb, hmb, hpb⟩ := hlive
  have hsub : ∀ b' x, s'.hp b' = some x → b' ≠ b ∧ ∃ y, s.hp b' = some y := by
    intro b' x hx
    obtain ⟨e1, e2 | ⟨y, z, e2, _⟩ | ⟨kk, es, es', e2, _⟩⟩ := h2 b' x hx
    · exact ⟨e1, _, e2⟩
    · exact ⟨e1, _, e2⟩
    · exact ⟨e1, _, e2⟩
  refine ⟨h0, fun k => A k ∨ ∃ hd, μ b = some hd ∧ hd.emp = none ∧ hd.blk = k, μ, fun t => ?_, H.n, H.df, fun b' x hx => ?_, fun b1 b2 x x' hd hd' hx hx' => ?_, ?_, fun b' hb' => ?_, H.keep, fun b' hb' => .inl (H.A0 b' hb'), ?_, H.mu⟩
  · rcases h1 t with h | h
    · rw [h]; trivial
    · exact h P c A μ _ s.tm n a w _ H (H.tm t)
  · obtain ⟨hne, y, hy⟩ := hsub b' x hx
    obtain ⟨hd, g1, g2, g3⟩ := H.blk b' y hy
    refine ⟨hd, g1, ?_, fun he => ⟨?_, (g3 he).2⟩⟩
    · rcases (h2 b' x hx).2 with e | ⟨yy, z, e1, e2, e3, e4⟩ | ⟨kk, es, es', e1, e2, e3, e4, e5⟩
      · rw [hy] at e; cases e
        exact g2.mono (Same.refl A w) hle (MuLe.refl _) (fun _ => rfl)
      · rw [hy] at e1; cases e1
        subst e2
        obtain ⟨q1, q2, v, ty, q3, q4⟩ := g2
        exact ⟨q1, e3, v, ty, e4 P c A μ _ s.tm n a w v H q3, q4⟩
      · rw [hy] at e1; cases e1
        subst e2
        obtain ⟨q1, q2⟩ := g2
        refine ⟨q1, ?_⟩
        rcases q2 with ⟨rfl, q2⟩ | ⟨r1, r2, r3, r4, C, ty, vs, r5, r6, r7, r8, r9, r10⟩
        · left
          have : es' = [] := List.length_eq_zero_iff.mp (by simpa using e3)
          exact ⟨this, q2⟩
        · exact .inr ⟨r1, by omega, r3, r4, C, ty, vs, r5, e4.rvl H r6, e5 r7, r8, r9, r10⟩
    · rintro (h | ⟨hd2, k1, k2, k3⟩)
      · exact (g3 he).1 h
      · exact hne (H.inj _ _ _ _ _ _ hy hxb g1 k1 he k2 k3.symm)
  · obtain ⟨_, y, hy⟩ := hsub b1 x hx
    obtain ⟨_, y', hy'⟩ := hsub b2 x' hx'
    exact H.inj _ _ _ _ _ _ hy hy'
  · refine H.lt.mono (Same.refl A w) hle ?_
    rintro k (h | ⟨hd, k1, k2, rfl⟩)
    · exact H.lt k h
    · rw [hmb] at k1; cases k1; exact (hpb k2).2.1
  · rw [hnx] at hb'
    obtain ⟨q1, q2⟩ := H.fr b' hb'
    refine ⟨q1, ?_⟩
    cases hx : s'.hp b' with
    | none => rfl
    | some x => obtain ⟨_, y, hy⟩ := hsub b' x hx; rw [q2] at hy; cases hy
  · rintro k (h | ⟨hd, k1, k2, rfl⟩)
    · exact H.A1 k h
    · rw [hmb] at k1; cases k1; exact .inr (hpb k2).2.2
theorem GiveL.setAt {b : Nat} {hp : Hp} {y z : AV} : ∀ {cs : List AV} {i : Nat}, Give b hp y z → GiveL b hp (cs.set i y) (cs.set i z)
  | [], i, h => trivial
  | c :: cs, 0, h => ⟨h, GiveL.refl⟩
  | c :: cs, i + 1, h => ⟨Give.refl, GiveL.setAt h⟩
theorem Weak.nilvecF {k n : Nat} {tm : Nat → AV} {hp : Hp} {nx : Nat} (t0 i kk k' : Nat) (cs : List AV) (ht : tm t0 = .agg cs) (h : cs[i]? = some (.sl kk [] true)) (hk : k ≤ nx) :
    Weak k n ⟨tm, hp, nx⟩ ⟨upd tm t0 (.agg (cs.set i (.vec nx))), upd hp nx (some (.vec k' [])), nx + 1⟩ := by
  rintro P c a w ⟨h0, A, μ, H⟩
  have h1 := H.tm t0
  rw [show (⟨tm, hp, nx⟩ : S3).tm t0 = _ from ht] at h1
  obtain ⟨vs, e1, e2, e3⟩ := h1
  have hi : i < cs.length := (List.getElem?_eq_some_iff.mp h).1
  have hl := e2.length
  obtain ⟨vi, hvi⟩ : ∃ vi, vs[i]? = some vi := ⟨vs[i]'(by omega), List.getElem?_eq_getElem (by omega)⟩
  obtain ⟨ad, hv⟩ := RV.nilsl (RVL.get2 e2 h hvi)
  obtain ⟨f1, f2⟩ : μ nx = none ∧ hp nx = none := H.fr nx (Nat.le_refl _)
  let hd : Hd := ⟨some ad, 0, k', 0, 0⟩
  have hle : MuLe μ (upd μ nx (some hd)) := by
    intro b hd' e
    by_cases g : b = nx
    · subst g; rw [f1] at e; cases e
    · rw [upd_ne _ _ g]; exact e
  have key := H.add nx f2 (upd μ nx (some hd)) hle (fun b hb => upd_ne _ _ hb) hd (upd_same _ _ _) (.vec k' []) ⟨rfl, .inl ⟨rfl, rfl⟩⟩ (fun e => by cases e) (fun _ _ _ _ _ _ e => by cases e)
  refine ⟨h0, A, upd μ nx (some hd), ⟨fun t => ?_, key.n, key.df, key.blk, key.inj, key.lt, fun b hb => ?_, key.keep, key.A0, key.A1, key.mu⟩⟩
  · by_cases ht : t = t0
    · subst ht
      show RV w A (upd tm t (.agg (cs.set i (.vec nx))) t) _ _
      rw [upd_same]
      exact ⟨vs, e1, RVL.setAt (RVL.mono (fun _ _ => rfl) (fun _ h => h) _ hle e2) hvi ⟨hd, upd_same _ _ _, hv⟩, e3⟩
    · show RV w A (upd tm t0 _ t) _ _
      rw [upd_ne _ _ ht]
      exact key.tm t
  · have hb : nx + 1 ≤ b := hb
    exact key.fr b ⟨show nx ≤ b by omega, by omega⟩
def cmdR (k : Nat) (c : Cmd) (s : S3) (K : S3 → Prop) : Prop :=
  match c with
  | .frz b => match s.hp b with
    | some x0 => cond x0.pureB (K ⟨fun t => gvA b x0 (s.tm t), fun c => cond (Nat.beq c b) none (gvB b x0 (s.hp c)), s.nx⟩) False
    | none => False
  | .frzE b es h => match s.hp b with
    | some (.vec kk es') => es' = es ∧ K ⟨fun t => gvA b (.vec kk es) (s.tm t), fun c => cond (Nat.beq c b) none (gvB b (.vec kk es) (s.hp c)), s.nx⟩
    | _ => False
  | .frzV b t i v l y x es h => match s.hp b, s.hp t with
    | some (.vec kk es'), some (.vec k2 cs) => es' = es ∧ cs = (l.map v).set i y ∧ gvA b (.vec kk es) y = v x ∧ cond (cond (Nat.beq t b) false (v x).solid)
        (K ⟨fun t => gvA b (.vec kk es) (s.tm t), fun c => cond (Nat.beq c b) none (cond (Nat.beq c t) (some (.vec k2 ((l.set i x).map v))) (gvB b (.vec kk es) (s.hp c))), s.nx⟩) False
    | _, _ => False
  | .nilF t i k' => match s.tm t with
    | .agg cs => match cs[i]? with
      | some (.sl _ es full) => cond full (cond es.isEmpty (cond (Nat.ble k s.nx) (K ⟨upd s.tm t (.agg (cs.set i (.vec s.nx))), upd s.hp s.nx (some (.vec k' [])), s.nx + 1⟩) False) False) False
      | _ => False
    | _ => False
  | .nilT t k' => match s.tm t with
    | .sl _ es full => cond full (cond es.isEmpty (cond (Nat.ble k s.nx) (K ⟨upd s.tm t (.vec s.nx), upd s.hp s.nx (some (.vec k' [])), s.nx + 1⟩) False) False) False
    | _ => False
  | .nilB b i k' => match s.hp b with
    | some (.box (.agg cs)) => match cs[i]? with
      | some (.sl _ es full) => cond full (cond es.isEmpty (cond (Nat.ble k s.nx) (K ⟨s.tm, upd (upd s.hp b (some (.box (.agg (cs.set i (.vec s.nx)))))) s.nx (some (.vec k' [])), s.nx + 1⟩) False) False) False
      | _ => False
    | _ => False
  | .nilC b k' => match s.hp b with
    | some (.box (.sl _ es full)) => cond full (cond es.isEmpty (cond (Nat.ble k s.nx) (K ⟨s.tm, upd (upd s.hp b (some (.box (.vec s.nx)))) s.nx (some (.vec k' [])), s.nx + 1⟩) False) False) False
    | _ => False
  | .wkT t sh => K ⟨upd s.tm t (fitA sh (s.tm t)), s.hp, s.nx⟩
  | .wkB b sh => match s.hp b with
    | some (.box x) => cond (fitA sh x).solid (K ⟨s.tm, upd s.hp b (some (.box (fitA sh x))), s.nx⟩) False
    | some (.vec k' es) => cond (allB AV.solid (es.map (fitA sh))) (K ⟨s.tm, upd s.hp b (some (.vec k' (es.map (fitA sh)))), s.nx⟩) False
    | _ => False
  | .wkS b i sh v l y x => match s.hp b with
    | some (.vec kk es) => es = (l.map v).set i y ∧ fitA sh y = v x ∧ cond (v x).solid (K ⟨s.tm, upd s.hp b (some (.vec kk ((l.set i x).map v))), s.nx⟩) False
    | _ => False
theorem RVL.mapSub {w : World} {A : Nat → Prop} {μ : Mu} {f : AV → AV} (hf : ∀ x, Sub x (f x)) : ∀ {xs : List AV} {vs : List Value}, RVL w A xs μ vs → RVL w A (xs.map f) μ vs
  | [], _, h => h
  | x :: xs, _, ⟨v, vs', h1, h2, h3⟩ => ⟨v, vs', h1, hf _ _ _ _ _ h2, RVL.mapSub hf h3⟩
theorem Weak.subV {k n : Nat} {tm : Nat → AV} {hp : Hp} {nx : Nat} {kk : Nat} {es : List AV} {f : AV → AV} (b0 : Nat) (h0 : hp b0 = some (.vec kk es)) (h : ∀ x, Sub x (f x)) (hy : ∀ x ∈ es.map f, x.solid = true) : Weak k n ⟨tm, hp, nx⟩ ⟨tm, upd hp b0 (some (.vec kk (es.map f))), nx⟩ := by
  rintro P c a w ⟨h1, A, μ, H⟩
  obtain ⟨hd, q1, q2, q6⟩ := H.blk b0 _ h0
  have back : ∀ b z, upd hp b0 (some (.vec kk (es.map f))) b = some z → ∃ z', hp b = some z' := by
    intro b z hz
    by_cases e : b = b0
    · subst e; exact ⟨_, h0⟩
    · rw [upd_ne _ _ e] at hz; exact ⟨z, hz⟩
  refine ⟨h1, A, μ, ⟨H.tm, H.n, H.df, fun b z hz => ?_, fun b b' z z' hd1 hd2 hz hz' => ?_, H.lt, fun b hb => ?_, H.keep, H.A0, H.A1, H.mu⟩⟩
  · have hz : upd hp b0 (some (.vec kk (es.map f))) b = some z := hz
    by_cases e : b = b0
    · subst e; rw [upd_same] at hz; cases hz
      refine ⟨hd, q1, ?_, q6⟩
      obtain ⟨q2, q3⟩ := q2
      refine ⟨q2, ?_⟩
      rcases q3 with ⟨rfl, q⟩ | ⟨a1, a2, a3, a4, C, ty, vs, a5, a6, a7, a8⟩
      · exact .inl ⟨rfl, q⟩
      · exact .inr ⟨a1, by rw [List.length_map]; exact a2, a3, a4, C, ty, vs, a5, RVL.mapSub h a6, hy, a8⟩
    · rw [upd_ne _ _ e] at hz; exact H.blk b z hz
  · obtain ⟨_, g⟩ := back _ _ hz
    obtain ⟨_, g'⟩ := back _ _ hz'
    exact H.inj _ _ _ _ _ _ g g'
  · have : μ b = none ∧ hp b = none := H.fr b hb
    refine ⟨this.1, ?_⟩
    show upd hp b0 (some (.vec kk (es.map f))) b = none
    by_cases e : b = b0
    · subst e; rw [h0] at this; cases this.2
    · rw [upd_ne _ _ e]; exact this.2
theorem Weak.subL {k n : Nat} {tm : Nat → AV} {hp : Hp} {nx : Nat} {kk : Nat} {es es' : List AV} (b0 : Nat) (h0 : hp b0 = some (.vec kk es)) (hl : es'.length = es.length) (h : ∀ (i : Nat) x y, es[i]? = some x → es'[i]? = some y → Sub x y) (hy : ∀ x ∈ es, x.solid = true → True) (hs : (∀ x ∈ es, x.solid = true) → ∀ x ∈ es', x.solid = true) : Weak k n ⟨tm, hp, nx⟩ ⟨tm, upd hp b0 (some (.vec kk (es'))), nx⟩ := by
  rintro P c a w ⟨h1, A, μ, H⟩
  obtain ⟨hd, q1, q2, q6⟩ := H.blk b0 _ h0
  have back : ∀ b z, upd hp b0 (some (.vec kk (es'))) b = some z → ∃ z', hp b = some z' := by
    intro b z hz
    by_cases e : b = b0
    · subst e; exact ⟨_, h0⟩
    · rw [upd_ne _ _ e] at hz; exact ⟨z, hz⟩
  refine ⟨h1, A, μ, ⟨H.tm, H.n, H.df, fun b z hz => ?_, fun b b' z z' hd1 hd2 hz hz' => ?_, H.lt, fun b hb => ?_, H.keep, H.A0, H.A1, H.mu⟩⟩
  · have hz : upd hp b0 (some (.vec kk (es'))) b = some z := hz
    by_cases e : b = b0
    · subst e; rw [upd_same] at hz; cases hz
      refine ⟨hd, q1, ?_, q6⟩
      obtain ⟨q2, q3⟩ := q2
      refine ⟨q2, ?_⟩
      rcases q3 with ⟨rfl, q⟩ | ⟨a1, a2, a3, a4, C, ty, vs, a5, a6, a7, a8⟩
      · exact .inl ⟨List.eq_nil_of_length_eq_zero hl, q⟩
      · exact .inr ⟨a1, by rw [hl]; exact a2, a3, a4, C, ty, vs, a5, RVL.of_get (by rw [hl]; exact a6.length) (fun i y v hy hv => by
          have hi : i < es.length := by have := (List.getElem?_eq_some_iff.mp hy).1; omega
          exact h i _ _ (List.getElem?_eq_getElem hi) hy _ _ _ _ (a6.get2 (List.getElem?_eq_getElem hi) hv)), hs a7, a8⟩
    · rw [upd_ne _ _ e] at hz; exact H.blk b z hz
  · obtain ⟨_, g⟩ := back _ _ hz
    obtain ⟨_, g'⟩ := back _ _ hz'
    exact H.inj _ _ _ _ _ _ g g'
  · have : μ b = none ∧ hp b = none := H.fr b hb
    refine ⟨this.1, ?_⟩
    show upd hp b0 (some (.vec kk (es'))) b = none
    by_cases e : b = b0
    · subst e; rw [h0] at this; cases this.2
    · rw [upd_ne _ _ e]; exact this.2
theorem Weak.nilvecC {k n : Nat} {tm : Nat → AV} {hp : Hp} {nx : Nat} (b0 kk k' : Nat) (hb : hp b0 = some (.box (.sl kk [] true))) (hk : k ≤ nx) :
    Weak k n ⟨tm, hp, nx⟩ ⟨tm, upd (upd hp b0 (some (.box (.vec nx)))) nx (some (.vec k' [])), nx + 1⟩ := by
  rintro P c a w ⟨h0, A, μ, H⟩
  obtain ⟨hd0, q1, ⟨q2, q3, v0, ty0, q5, q7⟩, q8⟩ := H.blk b0 _ hb
  obtain ⟨ad, hv⟩ := RV.nilsl q5
  obtain ⟨f1, f2⟩ : μ nx = none ∧ hp nx = none := H.fr nx (Nat.le_refl _)
  let hd : Hd := ⟨some ad, 0, k', 0, 0⟩
  have hne : b0 ≠ nx := fun e => by subst e; rw [f2] at hb; cases hb
  have hle : MuLe μ (upd μ nx (some hd)) := by
    intro b hd' e
    by_cases g : b = nx
    · subst g; rw [f1] at e; cases e
    · rw [upd_ne _ _ g]; exact e
  have key := H.add nx f2 (upd μ nx (some hd)) hle (fun b hb => upd_ne _ _ hb) hd (upd_same _ _ _) (.vec k' []) ⟨rfl, .inl ⟨rfl, rfl⟩⟩ (fun e => by cases e) (fun _ _ _ _ _ _ e => by cases e)
  have hswap : upd (upd hp b0 (some (.box (.vec nx)))) nx (some (.vec k' [])) = upd (upd hp nx (some (.vec k' []))) b0 (some (.box (.vec nx))) := by
    funext b
    by_cases e1 : b = b0
    · subst e1; rw [upd_same, upd_ne _ _ hne, upd_same]
    · rw [upd_ne _ _ e1]
      by_cases e2 : b = nx
      · subst e2; rw [upd_same, upd_same]
      · rw [upd_ne _ _ e2, upd_ne _ _ e1, upd_ne _ _ e2]
  rw [hswap]
  have back : ∀ b x, upd (upd hp nx (some (.vec k' []))) b0 (some (.box (.vec nx))) b = some x → ∃ y, upd hp nx (some (.vec k' [])) b = some y := by
    intro b x hx
    by_cases e : b = b0
    · subst e; exact ⟨.box (.sl kk [] true), by rw [upd_ne _ _ hne]; exact hb⟩
    · rw [upd_ne _ _ e] at hx; exact ⟨x, hx⟩
  refine ⟨h0, A, upd μ nx (some hd), ⟨key.tm, key.n, key.df, fun b x hx => ?_, fun b b' x x' hd1 hd2 hx hx' => ?_, key.lt, fun b hb' => ?_, key.keep, key.A0, key.A1, key.mu⟩⟩
  · by_cases e : b = b0
    · subst e
      have hx : some (Blk.box (.vec nx)) = some x := by
        rw [← hx]; exact (upd_same _ _ _).symm
      cases hx
      exact ⟨hd0, hle _ _ q1, ⟨q2, rfl, v0, ty0, ⟨hd, upd_same _ _ _, hv⟩, q7⟩, q8⟩
    · have hx : upd hp nx (some (.vec k' [])) b = some x := by
        rw [← hx]; exact (upd_ne _ _ e).symm
      exact key.blk b x hx
  · obtain ⟨y, hy⟩ := back b x hx
    obtain ⟨y', hy'⟩ := back b' x' hx'
    exact key.inj _ _ _ _ _ _ hy hy'
  · have hb' : nx + 1 ≤ b := hb'
    have : upd μ nx (some hd) b = none ∧ upd hp nx (some (.vec k' [])) b = none := key.fr b ⟨show nx ≤ b by omega, by omega⟩
    refine ⟨this.1, ?_⟩
    show upd (upd hp nx (some (.vec k' []))) b0 _ b = none
    by_cases e : b = b0
    · subst e; have := this.2; rw [upd_ne _ _ hne, hb] at this; cases this
    · rw [upd_ne _ _ e]; exact this.2
theorem frz_weak {k n b : Nat} {x0 : Blk} {s : S3} (hb : s.hp b = some x0) (hx : x0.pureB = true) : Weak k n s ⟨fun t => gvA b x0 (s.tm t), fun c => cond (Nat.beq c b) none (gvB b x0 (s.hp c)), s.nx⟩ := by
  rintro P c a w H
  obtain ⟨h0, A, μ, R⟩ := H
  refine Weak.give (s := s) (s' := ⟨fun t => gvA b x0 (s.tm t), fun c => cond (Nat.beq c b) none (gvB b x0 (s.hp c)), s.nx⟩) (k := k) (n := n) b rfl (fun t => .inr (gvA_ok hb hx _)) (fun b' x hx' => ?_) (by rw [hb]; simp) P c a w ⟨h0, A, μ, R⟩
  have hx' : cond (Nat.beq b' b) none (gvB b x0 (s.hp b')) = some x := hx'
  cases e : Nat.beq b' b with
  | true => rw [e] at hx'; cases hx'
  | false =>
    rw [e] at hx'
    have hx' : gvB b x0 (s.hp b') = some x := hx'
    refine ⟨fun e' => by subst e'; simp at e, ?_⟩
    cases hs : s.hp b' with
    | none => rw [hs] at hx'; cases hx'
    | some y =>
      rw [hs] at hx'
      cases y with
      | box y =>
        cases hx'
        obtain ⟨hd, g1, g2, g3⟩ := R.blk b' _ hs
        exact .inr ⟨y, _, rfl, rfl, gvA_solid g2.2.1, gvA_ok hb hx y⟩
      | vec k es => cases hx'; exact .inl rfl
      | row k es l c => cases hx'; exact .inl rfl
theorem frzV_weak {k n b t i k2 : Nat} {α : Type} {x0 : Blk} {s : S3} {v : α → AV} {l : List α} {y : AV} {x : α} (hb : s.hp b = some x0) (hx : x0.pureB = true) (ht : s.hp t = some (.vec k2 ((l.map v).set i y)))
    (hg : gvA b x0 y = v x) (hne : t ≠ b) (hso : (v x).solid = true) :
    Weak k n s ⟨fun t => gvA b x0 (s.tm t), fun c => cond (Nat.beq c b) none (cond (Nat.beq c t) (some (.vec k2 ((l.set i x).map v))) (gvB b x0 (s.hp c))), s.nx⟩ := by
  rintro P c a w H
  obtain ⟨h0, A, μ, R⟩ := H
  refine Weak.give2 (s := s) (s' := ⟨fun t => gvA b x0 (s.tm t), fun c => cond (Nat.beq c b) none (cond (Nat.beq c t) (some (.vec k2 ((l.set i x).map v))) (gvB b x0 (s.hp c))), s.nx⟩) (k := k) (n := n) b rfl (fun t => .inr (gvA_ok hb hx _)) (fun b' z hz => ?_) (by rw [hb]; simp) P c a w ⟨h0, A, μ, R⟩
  have hz : cond (Nat.beq b' b) none (cond (Nat.beq b' t) (some (.vec k2 ((l.set i x).map v))) (gvB b x0 (s.hp b'))) = some z := hz
  cases e : Nat.beq b' b with
  | true => rw [e] at hz; cases hz
  | false =>
    rw [e] at hz
    have hz : cond (Nat.beq b' t) (some (.vec k2 ((l.set i x).map v))) (gvB b x0 (s.hp b')) = some z := hz
    refine ⟨fun e' => by subst e'; simp at e, ?_⟩
    cases e2 : Nat.beq b' t with
    | true =>
      rw [e2] at hz; cases hz
      have e2 := Nat.eq_of_beq_eq_true e2
      subst e2
      refine .inr (.inr ⟨k2, _, _, ht, rfl, by simp, ?_, fun hs z hz => ?_⟩)
      · rw [List.map_set, ← hg]; exact GiveL.setAt (gvA_ok hb hx y)
      · rw [List.map_set] at hz
        obtain ⟨j, hj, rfl⟩ := List.getElem_of_mem hz
        rw [List.getElem_set]
        split
        · exact hso
        · rename_i hij
          refine hs _ (List.mem_of_getElem? (i := j) ?_)
          simp at hj
          rw [List.getElem?_set, if_neg hij, List.getElem?_eq_getElem (by simpa using hj)]
    | false =>
      rw [e2] at hz
      have hz : gvB b x0 (s.hp b') = some z := hz
      cases hs : s.hp b' with
      | none => rw [hs] at hz; cases hz
      | some y =>
        rw [hs] at hz
        cases y with
        | box y =>
          cases hz
          obtain ⟨hd, g1, g2, g3⟩ := R.blk b' _ hs
          exact .inr (.inl ⟨y, _, rfl, rfl, gvA_solid g2.2.1, gvA_ok hb hx y⟩)
        | vec k es => cases hz; exact .inl rfl
        | row k es l c => cases hz; exact .inl rfl
theorem cmdR_ok {k n : Nat} {c : Cmd} {s : S3} {K : S3 → Prop} (h : cmdR k c s K) : ∃ s', Weak k n s s' ∧ K s' := by
  obtain ⟨tm, hp, nx⟩ := s
  cases c with
  | frz b =>
    simp only [cmdR] at h
    split at h
    · rename_i x0 e
      obtain ⟨h1, h⟩ := cond_p h
      exact ⟨_, frz_weak e h1, h⟩
    · exact h.elim
  | frzE b es hes =>
    simp only [cmdR] at h
    split at h
    · rename_i kk es' e
      obtain ⟨rfl, h⟩ := h
      exact ⟨_, frz_weak e hes, h⟩
    · exact h.elim
  | frzV b t i v l y x es hes =>
    simp only [cmdR] at h
    split at h
    · rename_i kk es' k2 cs e1 e2
      obtain ⟨rfl, rfl, h1, h⟩ := h
      obtain ⟨h2, h⟩ := cond_p h
      refine ⟨_, frzV_weak (x0 := .vec kk es') e1 hes e2 h1 (fun e' => ?_) ?_, h⟩
      · subst e'; simp at h2
      · revert h2; cases Nat.beq t b <;> simp
    · exact h.elim
  | nilF t i k' =>
    simp only [cmdR] at h
    split at h
    · rename_i cs e
      split at h
      · rename_i kk es full e2
        obtain ⟨h1, q⟩ := cond_p h
        clear h
        obtain ⟨h2, q'⟩ := cond_p q
        obtain ⟨h3, g'⟩ := cond_p q'
        have h2 : es = [] := by cases es <;> simp_all
        subst h1; subst h2
        exact ⟨_, Weak.nilvecF t i kk k' cs e e2 (Nat.le_of_ble_eq_true h3), g'⟩
      · exact h.elim
    · exact h.elim
  | nilT t k' =>
    simp only [cmdR] at h
    split at h
    · rename_i kk es full e
      obtain ⟨h1, q⟩ := cond_p h
      clear h
      obtain ⟨h2, q'⟩ := cond_p q
      obtain ⟨h3, g'⟩ := cond_p q'
      have h2 : es = [] := by cases es <;> simp_all
      subst h1; subst h2
      exact ⟨_, Weak.nilvec t kk k' e (Nat.le_of_ble_eq_true h3), g'⟩
    · exact h.elim
  | nilB b i k' =>
    simp only [cmdR] at h
    split at h
    · rename_i cs e
      split at h
      · rename_i kk es full e2
        obtain ⟨h1, q⟩ := cond_p h
        clear h
        obtain ⟨h2, q'⟩ := cond_p q
        obtain ⟨h3, g'⟩ := cond_p q'
        have h2 : es = [] := by cases es <;> simp_all
        subst h1; subst h2
        exact ⟨_, Weak.nilvecB b i kk k' cs e e2 (Nat.le_of_ble_eq_true h3), g'⟩
      · exact h.elim
    · exact h.elim
  | nilC b k' =>
    simp only [cmdR] at h
    split at h
    · rename_i kk es full e
      obtain ⟨h1, q⟩ := cond_p h
      clear h
      obtain ⟨h2, q'⟩ := cond_p q
      obtain ⟨h3, g'⟩ := cond_p q'
      have h2 : es = [] := by cases es <;> simp_all
      subst h1; subst h2
      exact ⟨_, Weak.nilvecC b kk k' e (Nat.le_of_ble_eq_true h3), g'⟩
    · exact h.elim
  | wkT t sh => exact ⟨_, Weak.subT _ (fitA_sub _ _), h⟩
  | wkB b sh =>
    simp only [cmdR] at h
    split at h
    · rename_i x e
      obtain ⟨h1, h⟩ := cond_p h
      exact ⟨_, Weak.subB b e (fitA_sub _ _) h1, h⟩
    · rename_i k' es e
      obtain ⟨h1, h⟩ := cond_p h
      exact ⟨_, Weak.subV b e (fitA_sub _) (allB_ok h1), h⟩
    · exact h.elim
  | wkS b i sh v l y x =>
    simp only [cmdR] at h
    split at h
    · rename_i kk es e
      obtain ⟨rfl, h1, h⟩ := h
      obtain ⟨h2, h⟩ := cond_p h
      refine ⟨_, Weak.subL (es' := (l.set i x).map v) b e (by simp) (fun j p q hp hq => ?_) (fun _ _ _ => trivial) (fun ho z hz => ?_), h⟩
      · rw [List.map_set, List.getElem?_set] at hq
        rw [List.getElem?_set] at hp
        by_cases g : i = j
        · subst g
          simp only [↓reduceIte] at hp hq
          split at hp
          · rename_i hlt
            rw [if_pos hlt] at hq
            cases hp; cases hq
            rw [← h1]; exact fitA_sub _ _
          · cases hp
        · rw [if_neg g] at hp hq
          rw [hp] at hq; cases hq; exact Sub.refl
      · rw [List.map_set] at hz
        obtain ⟨j, hj, rfl⟩ := List.mem_iff_getElem.mp hz
        rw [List.getElem_set]
        split
        · exact h2
        · rename_i g
          have hj' : j < (l.map v).length := by simpa using hj
          have := ho ((l.map v)[j]) (List.mem_iff_getElem.mpr ⟨j, by simpa using hj', by rw [List.getElem_set, if_neg g]⟩)
          exact this
    · exact h.elim

/-! ### A state is as a plain one says -/
def hsB (m : Nat) : List PB → Bool
  | [] => true
  | .box x :: r => cond (x.belB m) (hsB m r) false
  | .vec _ _ _ :: r => hsB m r
  | .arr _ _ :: r => hsB m r
  | .gone :: r => hsB m r
def tsB (m : Nat) : List (Nat × Sh × AV) → Bool
  | [] => true
  | p :: r => cond (p.2.2.belB m) (tsB m r) false
def freeB (b : Nat) : List Nat → List PB → Bool
  | c :: bs, x :: hs => cond x.isGone (freeB b bs hs) (cond (Nat.beq c b) false (freeB b bs hs))
  | _, _ => true
def injB : List Nat → List PB → Bool
  | b :: bs, x :: hs => cond x.isGone (injB bs hs) (cond (freeB b bs hs) (injB bs hs) false)
  | _, _ => true
theorem freeB_ok {b : Nat} : ∀ {bs : List Nat} {hs : List PB}, freeB b bs hs = true → ∀ (i : Nat) c x, bs[i]? = some c → hs[i]? = some x → x.isGone = false → c ≠ b
  | [], _, _, i, c, x, h1, _, _ => by simp at h1
  | _ :: _, [], _, i, c, x, _, h2, _ => by simp at h2
  | c0 :: bs, x0 :: hs, h, i, c, x, h1, h2, h3 => by
    rw [freeB] at h
    cases i with
    | zero =>
      cases h1; cases h2
      rw [h3] at h
      rintro rfl
      simp at h
    | succ i =>
      have h : freeB b bs hs = true := by
        cases e : x0.isGone with
        | true => rw [e] at h; exact h
        | false =>
          rw [e] at h
          cases e2 : Nat.beq c0 b with
          | true => rw [e2] at h; cases h
          | false => rw [e2] at h; exact h
      exact freeB_ok h i c x (by simpa using h1) (by simpa using h2) h3
theorem injB_ok : ∀ {bs : List Nat} {hs : List PB}, injB bs hs = true → ∀ (i j : Nat) c x y, bs[i]? = some c → bs[j]? = some c → hs[i]? = some x → hs[j]? = some y → x.isGone = false → y.isGone = false → i = j
  | [], _, _, i, j, c, x, y, h1, _, _, _, _, _ => by simp at h1
  | _ :: _, [], _, i, j, c, x, y, _, _, h2, _, _, _ => by simp at h2
  | c0 :: bs, x0 :: hs, h, i, j, c, x, y, h1, h1', h2, h2', h3, h3' => by
    rw [injB] at h
    have hr : injB bs hs = true ∧ (x0.isGone = false → freeB c0 bs hs = true) := by
      cases e : x0.isGone with
      | true => rw [e] at h; exact ⟨h, fun h => by cases h⟩
      | false =>
        rw [e] at h
        obtain ⟨a, b⟩ := cond_true_iff.mp h
        exact ⟨b, fun _ => a⟩
    rcases i with _ | i <;> rcases j with _ | j
    · rfl
    · cases h1; cases h2
      exact absurd rfl (freeB_ok (hr.2 h3) j _ _ (by simpa using h1') (by simpa using h2') h3')
    · cases h1'; cases h2'
      exact absurd rfl (freeB_ok (hr.2 h3') i _ _ (by simpa using h1) (by simpa using h2) h3)
    · exact congrArg (· + 1) (injB_ok hr.1 i j c x y (by simpa using h1) (by simpa using h1') (by simpa using h2) (by simpa using h2') h3 h3')
def nfB (k : Nat) (m : NF) (bs : List Nat) : Bool :=
  cond (Nat.beq bs.length m.hs.length) (cond (injB bs m.hs) (cond ((List.range k).all fun b => Nat.beq (bs.getD b 0) b) (cond (Nat.ble k m.hs.length) (cond (tsB m.hs.length m.ts) (hsB m.hs.length m.hs) false) false) false) false) false
def NF.lhs (m : NF) (s : S3) (bs : List Nat) : List AV × List (Option Blk) := (m.ts.map fun p => fitA p.2.1 (s.tm p.1), List.zipWith (fun b x => PB.see (s.hp b) x) bs m.hs)
def NF.rhs (m : NF) (bs : List Nat) : List AV × List (Option Blk) := (m.ts.map fun p => p.2.2.ren fun i => bs.getD i 0, m.hs.map fun x => x.ren fun i => bs.getD i 0)
def nfP (k : Nat) (s : S3) (m : NF) (bs : List Nat) (R : Prop) : Prop := cond (nfB k m bs) (m.lhs s bs = m.rhs bs ∧ R) False
/-- The same as it stands in a condition. -/
def Nf (m : NF) (bs : List Nat) (R : Prop) : Prop := m.rhs bs = m.rhs bs ∧ R
theorem Nf_iff {m : NF} {bs : List Nat} {R : Prop} : Nf m bs R ↔ R := ⟨fun h => h.2, fun h => ⟨rfl, h⟩⟩

theorem hsB_ok {m : Nat} : ∀ {hs : List PB}, hsB m hs = true → ∀ x ∈ hs, ∀ B, x.blk = some B → B.bel m ∧ ∀ π, x.ren π = some (B.ren π)
  | [], _, x, hx, _, _ => by simp at hx
  | .box y :: r, h, x, hx, B, hB => by
    obtain ⟨h1, h2⟩ := cond_true_iff.mp h
    rcases List.mem_cons.mp hx with rfl | hx
    · cases hB; exact ⟨AV.belB_ok h1, fun π => rfl⟩
    · exact hsB_ok h2 x hx B hB
  | .vec k es hes :: r, h, x, hx, B, hB => by
    rcases List.mem_cons.mp hx with rfl | hx
    · cases hB; exact ⟨belL_pure (pureBL_ok hes), fun π => by show some (Blk.vec k es) = some (.vec k (renL π es)); rw [renL_pure _ (pureBL_ok hes)]⟩
    · exact hsB_ok (hs := r) h x hx B hB
  | .arr es hes :: r, h, x, hx, B, hB => by
    rcases List.mem_cons.mp hx with rfl | hx
    · cases hB; exact ⟨belL_pure (pureBL_ok hes), fun π => by show some (Blk.box (.agg es)) = some (.box (.agg (renL π es))); rw [renL_pure _ (pureBL_ok hes)]⟩
    · exact hsB_ok (hs := r) h x hx B hB
  | .gone :: r, h, x, hx, B, hB => by
    rcases List.mem_cons.mp hx with rfl | hx
    · cases hB
    · exact hsB_ok (hs := r) h x hx B hB
theorem resT_fit {tm : Nat → AV} {π : Nat → Nat} {m : Nat} : ∀ {ts : List (Nat × Sh × AV)}, (ts.map fun p => fitA p.2.1 (tm p.1)) = (ts.map fun p => p.2.2.ren π) → tsB m ts = true →
    ∀ t, (resT (ts.map fun p => (p.1, p.2.2)) t).bel m ∧ Sub (tm t) ((resT (ts.map fun p => (p.1, p.2.2)) t).ren π)
  | [], _, _, t => ⟨trivial, Sub.unk⟩
  | p :: ts, h, hb, t => by
    simp only [List.map_cons, List.cons.injEq] at h
    obtain ⟨h1, h2⟩ := cond_true_iff.mp hb
    obtain ⟨i1, i2⟩ := resT_fit h.2 h2 t
    by_cases e : t = p.1
    · subst e
      simp only [List.map_cons, resT, ↓reduceIte]
      exact ⟨AV.belB_ok h1, h.1 ▸ fitA_sub _ _⟩
    · simp only [List.map_cons, resT, if_neg e]
      exact ⟨i1, i2⟩
theorem nfP_ok {k n : Nat} {s : S3} {m : NF} {bs : List Nat} {R : Prop} (h : nfP k s m bs R) : Weak k n s m.st ∧ R := by
  obtain ⟨h2, h1, h3⟩ := cond_p h
  refine ⟨?_, h3⟩
  obtain ⟨e1, e2⟩ := Prod.mk.inj h1
  obtain ⟨c1, h2⟩ := cond_true_iff.mp h2
  obtain ⟨c2, h2⟩ := cond_true_iff.mp h2
  obtain ⟨c3, h2⟩ := cond_true_iff.mp h2
  obtain ⟨c4, h2⟩ := cond_true_iff.mp h2
  obtain ⟨c5, c6⟩ := cond_true_iff.mp h2
  have c1 := Nat.eq_of_beq_eq_true c1
  have c4 := Nat.le_of_ble_eq_true c4
  have c2 := injB_ok c2
  have live : ∀ {y : PB} {x}, y.blk = some x → y.isGone = false ∧ ∀ v, PB.see v y = v := by
    intro y x e; cases y <;> first | exact ⟨rfl, fun v => rfl⟩ | cases e
  have hres := resT_fit e1 c5
  refine Weak.trans (s2 := ⟨fun t => (m.st.tm t).ren fun i => bs.getD i 0, s.hp, s.nx⟩) (Weak.sub (fun t => (hres t).2) rfl rfl) ?_
  have hlt : ∀ {b x}, m.st.hp b = some x → (∃ y, m.hs[b]? = some y ∧ y.blk = some x) ∧ b < m.hs.length := by
    intro b x e
    rw [show m.st.hp = hpOf (m.hs.map PB.blk) from (hpOf_hpL _).symm] at e
    have e := hpOf_opt.mp e
    rw [List.getElem?_map, Option.map_eq_some_iff] at e
    obtain ⟨y, e1, e2⟩ := e
    exact ⟨⟨y, e1, e2⟩, (List.getElem?_eq_some_iff.mp e1).1⟩
  have hbs : ∀ {b}, b < m.hs.length → bs[b]? = some (bs.getD b 0) := by
    intro b hb
    rw [List.getD_eq_getElem?_getD, List.getElem?_eq_getElem (show b < bs.length by omega)]; rfl
  refine Weak.ren (fun i => bs.getD i 0) (fun t => .inr ⟨rfl, (hres t).1⟩) (fun b x e => ?_) (fun b b' e e' he => ?_) (fun b hb => ?_) c4
  · obtain ⟨⟨y, g1, g3⟩, g2⟩ := hlt e
    obtain ⟨q1, q2⟩ := hsB_ok c6 y (List.mem_of_getElem? g1) x g3
    refine ⟨g2, ?_, q1⟩
    have : (List.zipWith (fun b x => PB.see (s.hp b) x) bs m.hs)[b]? = (m.hs.map fun x => x.ren fun i => bs.getD i 0)[b]? := by rw [← e2]
    rw [List.getElem?_zipWith, List.getElem?_map, hbs g2, g1] at this
    simp only [Option.map_some, Option.some.injEq, (live g3).2] at this
    show s.hp (bs.getD b 0) = _
    rw [this, q2]
  · have hb : ∀ {b}, m.st.hp b ≠ none → ∃ y, m.hs[b]? = some y ∧ y.isGone = false ∧ b < m.hs.length := by
      intro b e
      cases hx : m.st.hp b with
      | none => exact absurd hx e
      | some x =>
        obtain ⟨⟨y, g1, g3⟩, g2⟩ := hlt hx
        exact ⟨y, g1, (live g3).1, g2⟩
    obtain ⟨y, a1, a2, a3⟩ := hb e
    obtain ⟨y', a1', a2', a3'⟩ := hb e'
    have he : bs.getD b 0 = bs.getD b' 0 := he
    exact c2 b b' _ y y' (hbs a3) (by rw [hbs a3', he]) a1 a1' a2 a2'
  · have := List.all_eq_true.mp c3 b (List.mem_range.mpr hb)
    exact Nat.eq_of_beq_eq_true this

/-! ### Code -/
section
variable {P : Program} {Sf : Nat → Type} {T : Type} (k : Nat)
def pre : An P Sf T → S3 → (An P Sf T → S3 → Prop) → Prop
  | .cmd c a, s, K => cmdR k c s fun s' => pre a s' K
  | .wait a, s, K => K a s
  | a, s, K => K a s
def preL : An P Sf T → S3 → (An P Sf T → S3 → Prop) → Prop
  | .cmd c a, s, K => cmdR k c s fun s' => preL a s' K
  | .cmdL c a, s, K => cmdR k c s fun s' => preL a s' K
  | a, s, K => K a s
abbrev KX (P : Program) (Sf : Nat → Type) (T : Type) := X → An P Sf T → S3 → Prop
def backR (j : Nat) (nf : Sf j → NF) (R : Sf j → Prop) (a : An P Sf T) (s : S3) : Prop :=
  match a with
  | .back j' t bs => if h : j' = j then nfP k s (nf (h ▸ t)) bs (R (h ▸ t)) else False
  | _ => False
def litC (c : AO) (b : Bool) (tm : Nat → AV) : Nat → AV := match c with
  | .t t => upd tm t (.val (.bool b))
  | .c _ => tm
def wpA : AC → An P Sf T → S3 → KX P Sf T → Prop
  | .skip, a, s, K => K .normal a s
  | .reg ops, a, s, K => pre k a s fun a s => runT ops s.nx ⟨s.tm, s.hp⟩ a fun a' s' f => K .normal a' ⟨s'.tm, s'.hp, f⟩
  | .dreg ops par, a, s, K => pre k a s fun a s => runD ops s.nx ⟨s.tm, s.hp⟩ [] a fun a' s' f lg => cond (parOk par lg) (K .normal a' ⟨s'.tm, s'.hp, f⟩) False
  | .seq x y, a, s, K => match a with
    | .pass a => wpA x a s fun e a' s' => match e with
      | .normal => wpA y a' s' K
      | e => K e a' s'
    | .join j nf I a body => (wpA x a s fun e a' s' => match e with
        | .normal => preL k a' s' fun a' s' => backR k j nf I a' s'
        | e => K e a' s') ∧ ∀ t, I t → wpA y (body t) (nf t).st K
    | .join2 j nf I a body => match y with
      | .seq y z => (wpA x a s fun e a' s' => match e with
          | .normal => wpA y a' s' fun e a' s' => match e with
            | .normal => preL k a' s' fun a' s' => backR k j nf I a' s'
            | e => K e a' s'
          | e => K e a' s') ∧ ∀ t, I t → wpA z (body t) (nf t).st K
      | _ => False
    | a => wpA x a s fun e a' s' => match e with
      | .normal => wpA y a' s' K
      | e => K e a' s'
  | .cond c x y, a, s, K => pre k a s fun a s => match evO s.tm c with
    | .val (.bool b) => cond b (wpA x (a.l s.nx) ⟨litC c true s.tm, s.hp, s.nx⟩ K) (wpA y (a.r s.nx) ⟨litC c false s.tm, s.hp, s.nx⟩ K)
    | _ => False
  | .block id x, a, s, K => wpA x a s fun e a' s' => match e with
    | .exit i => cond (Nat.beq i id) (K .normal a' s') (K (.exit i) a' s')
    | e => K e a' s'
  | .loop x, a, s, K => preL k a s fun a s => match a with
    | .loop j nf I mu s0 bs body => nfP k s (nf s0) bs (I s0) ∧ ∀ t, I t → wpA x (body t) (nf t).st fun e a' s' => match e with
      | .normal => preL k a' s' fun a' s' => backR k j nf (fun t' => I t' ∧ mu t' < mu t) a' s'
      | e => K e a' s'
    | _ => False
  | .exit id, a, s, K => K (.exit id) a s
  | .ret, a, s, K => K .ret a s
  | .bad, _, _, _ => False
end
section
variable {P : Program} {Sf : Nat → Type} {T : Type} {k n : Nat}
theorem pre_ok {K : An P Sf T → S3 → Prop} : ∀ {a : An P Sf T} {s : S3}, pre k a s K → ∃ a' s', Weak k n s s' ∧ K a' s'
  | .cmd c a, s, h => by
    rw [pre] at h
    obtain ⟨s', h1, h2⟩ := cmdR_ok (n := n) h
    obtain ⟨a', s2, h3, h4⟩ := pre_ok h2
    exact ⟨a', s2, h1.trans h3, h4⟩
  | .wait a, s, h => ⟨a, s, Weak.refl, by rw [pre] at h; exact h⟩
  | .cmdL _ _, s, h | .nil, s, h | .pass _, s, h | .br _ _ _, s, h | .el _ _ _ _, s, h | .elA _ _ _ _ _ _ _, s, h | .st _ _ _ _ _, s, h | .stI _ _ _ _, s, h | .app _ _ _ _ _, s, h | .appF _ _ _ _ _, s, h | .sub _ _ _ _ _, s, h | .rep _ _ _ _, s, h | .own _ _, s, h | .req _ _ _, s, h | .callP _ _, s, h | .callH _ _ _, s, h
  | .loop _ _ _ _ _ _ _, s, h | .join _ _ _ _ _, s, h | .join2 _ _ _ _ _, s, h | .back _ _ _, s, h | .ret _, s, h | .retH _ _ _, s, h => ⟨_, s, Weak.refl, h⟩
theorem preL_ok {K : An P Sf T → S3 → Prop} : ∀ {a : An P Sf T} {s : S3}, preL k a s K → ∃ a' s', Weak k n s s' ∧ K a' s'
  | .cmd c a, s, h => by
    rw [preL] at h
    obtain ⟨s', h1, h2⟩ := cmdR_ok (n := n) h
    obtain ⟨a', s2, h3, h4⟩ := preL_ok h2
    exact ⟨a', s2, h1.trans h3, h4⟩
  | .cmdL c a, s, h => by
    rw [preL] at h
    obtain ⟨s', h1, h2⟩ := cmdR_ok (n := n) h
    obtain ⟨a', s2, h3, h4⟩ := preL_ok h2
    exact ⟨a', s2, h1.trans h3, h4⟩
  | .wait _, s, h | .nil, s, h | .pass _, s, h | .br _ _ _, s, h | .el _ _ _ _, s, h | .elA _ _ _ _ _ _ _, s, h | .st _ _ _ _ _, s, h | .stI _ _ _ _, s, h | .app _ _ _ _ _, s, h | .appF _ _ _ _ _, s, h | .sub _ _ _ _ _, s, h | .rep _ _ _ _, s, h | .own _ _, s, h | .req _ _ _, s, h | .callP _ _, s, h | .callH _ _ _, s, h
  | .loop _ _ _ _ _ _ _, s, h | .join _ _ _ _ _, s, h | .join2 _ _ _ _ _, s, h | .back _ _ _, s, h | .ret _, s, h | .retH _ _ _, s, h => ⟨_, s, Weak.refl, h⟩
theorem backR_ok {j : Nat} {nf : Sf j → NF} {R : Sf j → Prop} {a : An P Sf T} {s : S3} (h : backR k j nf R a s) : ∃ t, R t ∧ Weak k n s (nf t).st := by
  unfold backR at h
  split at h
  · rename_i j' t bs
    by_cases e : j' = j
    · subst e
      rw [dif_pos rfl] at h
      obtain ⟨h1, h2⟩ := nfP_ok (n := n) h
      exact ⟨_, h2, h1⟩
    · rw [dif_neg e] at h; exact h.elim
  · exact h.elim
theorem litC_eq {c : AO} {b : Bool} {tm : Nat → AV} (h : evO tm c = .val (.bool b)) : litC c b tm = tm := by
  cases c with
  | t t => exact upd_self h
  | c x => rfl
theorem wpA_ok : ∀ {c : AC} {a : An P Sf T} {s : S3} {K : KX P Sf T} {Q : X → S3 → Prop}, wpA k c a s K → (∀ e a' s', K e a' s' → Q e s') → AWP P k n c Q s
  | .skip, a, s, K, Q, h, hq => AWP.skip (hq _ _ _ h)
  | .reg ops, a, s, K, Q, h, hq => by
    obtain ⟨a', s', h1, h2⟩ := pre_ok (n := n) h
    refine AWP.weak h1 (AWP.reg ?_)
    exact runT_ok (fun a'' s'' f hk => hq _ _ _ hk) h2
  | .dreg ops par, a, s, K, Q, h, hq => by
    obtain ⟨a', s', h1, h2⟩ := pre_ok (n := n) h
    refine AWP.weak h1 (AWP.dreg ?_)
    refine runD_ok (fun a'' s'' f lg hk => ?_) h2
    obtain ⟨g1, g2⟩ := cond_p hk
    exact ⟨g1, hq _ _ _ g2⟩
  | .seq x y, a, s, K, Q, h, hq => by
    have plain : ∀ {a : An P Sf T}, (wpA k x a s fun e a' s' => match e with
        | .normal => wpA k y a' s' K
        | e => K e a' s') → AWP P k n (.seq x y) Q s := by
      intro a h
      refine AWP.seq (wpA_ok h fun e a' s' hk => ?_)
      cases e with
      | normal => exact wpA_ok hk hq
      | exit id => exact hq _ _ _ hk
      | ret => exact hq _ _ _ hk
    rw [wpA.eq_def] at h
    simp only at h
    split at h
    · exact plain h
    · rename_i j nf I a body
      obtain ⟨h1, h2⟩ := h
      refine AWP.seq (wpA_ok h1 fun e a' s' hk => ?_)
      cases e with
      | normal =>
        obtain ⟨a2, s2, g1, g2⟩ := preL_ok (n := n) hk
        obtain ⟨t, g3, g4⟩ := backR_ok (n := n) g2
        exact AWP.weak (g1.trans g4) (wpA_ok (h2 t g3) hq)
      | exit id => exact hq _ _ _ hk
      | ret => exact hq _ _ _ hk
    · rename_i j nf I a body
      split at h
      · rename_i y z
        obtain ⟨h1, h2⟩ := h
        refine AWP.seq (wpA_ok h1 fun e a' s' hk => ?_)
        cases e with
        | normal =>
          refine AWP.seq (wpA_ok hk fun e a' s' hk => ?_)
          cases e with
          | normal =>
            obtain ⟨a2, s2, g1, g2⟩ := preL_ok (n := n) hk
            obtain ⟨t, g3, g4⟩ := backR_ok (n := n) g2
            exact AWP.weak (g1.trans g4) (wpA_ok (h2 t g3) hq)
          | exit id => exact hq _ _ _ hk
          | ret => exact hq _ _ _ hk
        | exit id => exact hq _ _ _ hk
        | ret => exact hq _ _ _ hk
      · exact h.elim
    · exact plain h
  | .cond c x y, a, s, K, Q, h, hq => by
    obtain ⟨a', s', h1, h2⟩ := pre_ok (n := n) h
    refine AWP.weak h1 ?_
    split at h2
    · rename_i b e
      refine AWP.cond e (fun hb => ?_) (fun hb => ?_)
      · subst hb
        have h2 : wpA k x (a'.l s'.nx) ⟨litC c true s'.tm, s'.hp, s'.nx⟩ K := h2
        rw [litC_eq e] at h2
        exact wpA_ok h2 hq
      · subst hb
        have h2 : wpA k y (a'.r s'.nx) ⟨litC c false s'.tm, s'.hp, s'.nx⟩ K := h2
        rw [litC_eq e] at h2
        exact wpA_ok h2 hq
    · exact h2.elim
  | .block id x, a, s, K, Q, h, hq => by
    refine AWP.block (wpA_ok h fun e a' s' hk => ?_)
    cases e with
    | normal => exact hq _ _ _ hk
    | exit i =>
      have hk : cond (Nat.beq i id) (K .normal a' s') (K (.exit i) a' s') := hk
      show if i = id then Q .normal s' else Q (.exit i) s'
      cases e : Nat.beq i id with
      | true => rw [e] at hk; rw [if_pos (Nat.eq_of_beq_eq_true e)]; exact hq _ _ _ hk
      | false => rw [e] at hk; rw [if_neg (fun e' => by subst e'; simp at e)]; exact hq _ _ _ hk
    | ret => exact hq _ _ _ hk
  | .loop x, a, s, K, Q, h, hq => by
    obtain ⟨a', s', h1, h2⟩ := preL_ok (n := n) h
    refine AWP.weak h1 ?_
    split at h2
    · rename_i j nf I mu s0 bs body
      obtain ⟨h2, h3⟩ := h2
      obtain ⟨h4, h5⟩ := nfP_ok (n := n) h2
      refine AWP.loopS (σ := Sf j) (fun t => (nf t).st) I mu h5 h4 fun t ht => wpA_ok (h3 t ht) fun e a' s' hk => ?_
      cases e with
      | normal =>
        obtain ⟨a2, s2, g1, g2⟩ := preL_ok (n := n) hk
        obtain ⟨t', ⟨g3, g4⟩, g5⟩ := backR_ok (n := n) g2
        exact ⟨t', g3, g4, g1.trans g5⟩
      | exit id => exact hq _ _ _ hk
      | ret => exact hq _ _ _ hk
    · exact h2.elim
  | .exit id, a, s, K, Q, h, hq => AWP.exit (hq _ _ _ h)
  | .ret, a, s, K, Q, h, hq => AWP.ret (hq _ _ _ h)
  | .bad, _, _, _, _, h, _ => h.elim
end
end Go.Am
