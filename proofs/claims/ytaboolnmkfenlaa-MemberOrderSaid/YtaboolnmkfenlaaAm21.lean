/- States that forget, blocks that are given up, and what a function's walk proves. -/
import Derived.Test.YtaboolnmkfenlaaAm20
namespace Go.Am
set_option linter.unusedVariables false
set_option linter.unusedSimpArgs false

section
variable {P : Program} {k n : Nat} {s s' : S3}

/-- Forgetting and renaming. -/
theorem Weak.ren (π : Nat → Nat) (h1 : ∀ t, s'.tm t = .unk ∨ (s.tm t = (s'.tm t).ren π ∧ (s'.tm t).bel s'.nx)) (h2 : ∀ b x, s'.hp b = some x → b < s'.nx ∧ s.hp (π b) = some (x.ren π) ∧ x.bel s'.nx)
    (h3 : ∀ b b', s'.hp b ≠ none → s'.hp b' ≠ none → π b = π b' → b = b') (h4 : ∀ b, b < k → π b = b) (h5 : k ≤ s'.nx) : Weak k n s s' := by
  rintro c a w ⟨h0, A, μ, H⟩
  refine ⟨h0, A, fun b => if b < s'.nx then μ (π b) else none, ?_⟩
  have hun : ∀ b, b < s'.nx → ∀ hd, μ (π b) = some hd → (if b < s'.nx then μ (π b) else none) = some hd := fun b hb hd e => by rw [if_pos hb]; exact e
  refine ⟨fun t => ?_, H.n, H.df, fun b x hx => ?_, fun b b' x x' hd hd' hx hx' hm hm' he he' heq => ?_, H.lt, fun b hb => ?_, H.keep, H.A0, H.A1, fun b hd hb => ?_⟩
  · rcases h1 t with h | ⟨e1, e2⟩
    · rw [h]; trivial
    · have := H.tm t
      rw [e1] at this
      exact RV.unren hun e2 this
  · obtain ⟨e1, e2, e3⟩ := h2 b x hx
    obtain ⟨hd, g1, g2, g3⟩ := H.blk _ _ e2
    exact ⟨hd, hun b e1 hd g1, g2.unren hun e3, g3⟩
  · obtain ⟨e1, e2, e3⟩ := h2 b x hx
    obtain ⟨f1, f2, f3⟩ := h2 b' x' hx'
    rw [if_pos e1] at hm; rw [if_pos f1] at hm'
    exact h3 b b' (by rw [hx]; simp) (by rw [hx']; simp) (H.inj _ _ _ _ _ _ e2 f2 hm hm' he he' heq)
  · refine ⟨if_neg (by omega), ?_⟩
    cases hx : s'.hp b with
    | none => rfl
    | some x => have := (h2 b x hx).1; omega
  · have hbk : b < k := by
      rcases Nat.lt_or_ge b k with h | h
      · exact h
      · rw [h0 b h] at hb; cases hb
    have := H.mu b hd hb
    show (if b < s'.nx then μ (π b) else none) = some hd
    rw [if_pos (by omega), h4 b hbk]; exact this

/-- What a value is when block b is given up: nobody writes there any more. -/
def Give (b : Nat) (hp : Hp) (x y : AV) : Prop :=
  ∀ (c : Ctx) (A : Nat → Prop) (μ : Mu) (fr : Nat → Prop) (tm' : Nat → AV) (n : Nat) (a : Act) (w : World) (cv : Value), RelE c A μ fr tm' hp n a w →
    RV w A x μ cv → RV w (fun k => A k ∨ ∃ hd, μ b = some hd ∧ hd.emp = none ∧ hd.blk = k) y μ cv
def GiveL (b : Nat) (hp : Hp) : List AV → List AV → Prop
  | [], [] => True
  | x :: xs, y :: ys => Give b hp x y ∧ GiveL b hp xs ys
  | _, _ => False
theorem GiveL.rvl {b : Nat} {hp : Hp} {c : Ctx} {A : Nat → Prop} {μ : Mu} {fr : Nat → Prop} {tm' : Nat → AV} {n : Nat} {a : Act} {w : World} (H : RelE c A μ fr tm' hp n a w) :
    ∀ {xs ys : List AV} {vs : List Value}, GiveL b hp xs ys → RVL w A xs μ vs → RVL w (fun k => A k ∨ ∃ hd, μ b = some hd ∧ hd.emp = none ∧ hd.blk = k) ys μ vs
  | [], [], _, _, h => h
  | x :: xs, y :: ys, _, hv, ⟨v, vs', h1, h2, h3⟩ => ⟨v, vs', h1, hv.1 c A μ fr tm' n a w v H h2, GiveL.rvl H hv.2 h3⟩
  | [], _ :: _, _, hv, _ => hv.elim
  | _ :: _, [], _, hv, _ => hv.elim
theorem Give.refl {b : Nat} {hp : Hp} {x : AV} : Give b hp x x := fun c A μ fr tm' n a w cv H hv => hv.mono (Same.refl A w) (fun k h => .inl h) x (MuLe.refl _)
theorem GiveL.refl {b : Nat} {hp : Hp} : ∀ {xs : List AV}, GiveL b hp xs xs
  | [] => trivial
  | _ :: _ => ⟨Give.refl, GiveL.refl⟩
theorem Give.agg {b : Nat} {hp : Hp} {xs ys : List AV} (h : GiveL b hp xs ys) : Give b hp (.agg xs) (.agg ys) := by
  rintro c A μ fr tm' n a w cv H ⟨vs, e1, e2, e3⟩
  exact ⟨vs, e1, h.rvl H e2, e3⟩
theorem Give.tup {b : Nat} {hp : Hp} {xs ys : List AV} (h : GiveL b hp xs ys) : Give b hp (.tup xs) (.tup ys) := by
  rintro c A μ fr tm' n a w cv H ⟨vs, e1, e2⟩
  exact ⟨vs, e1, h.rvl H e2⟩
theorem Give.func {b : Nat} {hp : Hp} {g : FuncId} {xs ys : List AV} (h : GiveL b hp xs ys) : Give b hp (.func g xs) (.func g ys) := by
  rintro c A μ fr tm' n a w cv H ⟨vs, e1, e2⟩
  exact ⟨vs, e1, h.rvl H e2⟩
theorem Give.ref {b off : Nat} {hp : Hp} {x : AV} (h : hp b = some (.box x)) (hx : x.pure) : Give b hp (.ref b off) (.rptr x off) := by
  intro c A μ fr tm' n a w cv H hv
  obtain ⟨hd, e1, e2, rfl⟩ := hv
  obtain ⟨hd', v, ty, f1, f2, f3, f4, f5, f6⟩ := H.box h
  rw [e1] at f1; cases f1
  exact ⟨hd.blk, 0, v, by simp, .inr ⟨hd, e1, e2, rfl⟩, RV.pure hx (f4.mono (Same.refl A w) (fun b hb => .inl hb) x (MuLe.refl _)), (RV.cells f3 f4).2, fun p u hu => f6 p u hu⟩
theorem Give.vec {b kk : Nat} {hp : Hp} {es : List AV} (h : hp b = some (.vec kk es)) (hx : pureL es) : Give b hp (.vec b) (.sl kk es false) := by
  intro c A μ fr tm' n a w cv H hv
  obtain ⟨hd, e1, rfl⟩ := hv
  obtain ⟨hd', f1, f2, f3⟩ := H.vec h
  rw [e1] at f1; cases f1
  rcases f3 with ⟨rfl, a', f3⟩ | ⟨g1, g2, g4, g5, C, ty, vs, k1, k2, k3, k4, k5, k6, k7⟩
  · rw [Hd.val, f3]
    exact .inl ⟨rfl, a', rfl⟩
  · have hv : hd.val = .slice (some ⟨hd.blk, 0, none⟩) es.length hd.cap := by rw [Hd.val, g1, g2]
    rw [hv]
    refine .inr ⟨hd.blk, 0, hd.cap, vs, rfl, .inr ⟨hd, e1, g1, rfl⟩, by omega, g5, (fun h => by cases h), RVL.pure hx (RVL.mono (Same.refl A w) (fun b hb => .inl hb) es (MuLe.refl _) k2), fun v hv => ⟨k4 v hv, ?_⟩, fun p u hu => by rw [Nat.zero_add]; exact k7 p u hu, k3⟩
    obtain ⟨i, hi⟩ := List.mem_iff_getElem?.1 hv
    have hlt : i < es.length := by rw [k2.length]; exact (List.getElem?_eq_some_iff.1 hi).1
    have hxe : es[i]? = some es[i] := List.getElem?_eq_getElem hlt
    exact (RV.cells (k3 _ (List.getElem_mem hlt)) (k2.get2 hxe hi)).2

/-- The frame gives block b up. -/
theorem Weak.give (b : Nat) (hnx : s'.nx = s.nx) (h1 : ∀ t, s'.tm t = .unk ∨ Give b s.hp (s.tm t) (s'.tm t))
    (h2 : ∀ b' x, s'.hp b' = some x → b' ≠ b ∧ (s.hp b' = some x ∨ ∃ y z, s.hp b' = some (.box y) ∧ x = .box z ∧ z.solid = true ∧ Give b s.hp y z)) (hb : s.hp b ≠ none) : Weak k n s s' := by
  rintro c a w ⟨h0, A, μ, H⟩
  have hle : ∀ k, A k → A k ∨ ∃ hd, μ b = some hd ∧ hd.emp = none ∧ hd.blk = k := fun _ h => .inl h
  have hlive : ∃ x hd, s.hp b = some x ∧ μ b = some hd ∧ (hd.emp = none → ¬ A hd.blk ∧ hd.blk < w.heap.size ∧ (c.own hd.blk ∨ c.w.heap.size ≤ hd.blk)) := by
    cases hx : s.hp b with
    | none => exact absurd hx hb
    | some x => obtain ⟨hd, e1, _, e3⟩ := H.blk b x hx; exact ⟨x, hd, rfl, e1, e3⟩
  obtain ⟨xb, hdb, hxb, hmb, hpb⟩ := hlive
  have hsub : ∀ b' x, s'.hp b' = some x → b' ≠ b ∧ ∃ y, s.hp b' = some y := by
    intro b' x hx
    obtain ⟨e1, e2 | ⟨y, z, e2, _⟩⟩ := h2 b' x hx
    · exact ⟨e1, _, e2⟩
    · exact ⟨e1, _, e2⟩
  refine ⟨h0, fun k => A k ∨ ∃ hd, μ b = some hd ∧ hd.emp = none ∧ hd.blk = k, μ, fun t => ?_, H.n, H.df, fun b' x hx => ?_, fun b1 b2 x x' hd hd' hx hx' => ?_, ?_, fun b' hb' => ?_, H.keep, fun b' hb' => .inl (H.A0 b' hb'), ?_, H.mu⟩
  · rcases h1 t with h | h
    · rw [h]; trivial
    · exact h c A μ _ s.tm n a w _ H (H.tm t)
  · obtain ⟨hne, y, hy⟩ := hsub b' x hx
    obtain ⟨hd, g1, g2, g3⟩ := H.blk b' y hy
    refine ⟨hd, g1, ?_, fun he => ⟨?_, (g3 he).2⟩⟩
    · rcases (h2 b' x hx).2 with e | ⟨yy, z, e1, e2, e3, e4⟩
      · rw [hy] at e; cases e
        exact g2.mono (Same.refl A w) hle (MuLe.refl _) (fun _ => rfl)
      · rw [hy] at e1; cases e1
        subst e2
        obtain ⟨q1, q2, v, ty, q3, q4⟩ := g2
        exact ⟨q1, e3, v, ty, e4 c A μ _ s.tm n a w v H q3, q4⟩
    · rintro (h | ⟨hd2, k1, k2, k3⟩)
      · exact (g3 he).1 h
      · exact hne (H.inj _ _ _ _ _ _ hy hxb g1 k1 he k2 k3.symm)
  · obtain ⟨_, y, hy⟩ := hsub b1 x hx
    obtain ⟨_, y', hy'⟩ := hsub b2 x' hx'
    exact H.inj _ _ _ _ _ _ hy hy'
  · rintro k (h | ⟨hd, k1, k2, rfl⟩)
    · exact H.lt k h
    · rw [hmb] at k1; cases k1; exact (hpb k2).2.1
  · rw [hnx] at hb'
    obtain ⟨q1, q2⟩ := H.fr b' hb'
    refine ⟨q1, ?_⟩
    cases hx : s'.hp b' with
    | none => rfl
    | some x => obtain ⟨_, y, hy⟩ := hsub b' x hx; rw [q2] at hy; cases hy
  · rintro k (h | ⟨hd, k1, k2, rfl⟩)
    · exact H.A1 k h
    · rw [hmb] at k1; cases k1; exact .inr (hpb k2).2.2
end

/-! ### Functions -/
def cRes (P : Program) : ResultVar → Option AR
  | .tmp t => some (.tmp t)
  | .cell t ty => match P.underlying ty, sizeOf? P ty with
    | some _, some s => some (.cell t (aggOf P ty) s)
    | _, _ => none
def cFunc (P : Program) (fn : Func) : Option AF := match fn.body with
  | none => none
  | some c => match fn.results.toList.mapM (cRes P) with
    | none => none
    | some rs => some { n := fn.ntmps, np := fn.params.size + fn.nfree, res := rs, body := cCode P fn.ntmps c }

def resA (s : S3) : AR → Option AV
  | .tmp t => some (s.tm t)
  | .cell t agg size => match s.tm t with
    | .ref b off => match s.hp b with
      | some (.box y) => if off + size ≤ y.cells.length ∧ (agg = false → size = 1) ∧ y.solid = true then some (partA y off size agg) else none
      | _ => none
    | _ => none
def resL (s : S3) : List AR → Option (List AV)
  | [] => some []
  | r :: rs => match resA s r, resL s rs with
    | some x, some xs => some (x :: xs)
    | _, _ => none
def pack : List AV → AV
  | [x] => x
  | xs => .tup xs

def init (n : Nat) (args : List AV) (h : List Blk) : S3 := ⟨fun t => args.getD t .unk, hpOf (h.map some), h.length⟩

section
variable {P : Program} {c : Ctx} {A : Nat → Prop} {μ : Mu} {fr : Nat → Prop} {n : Nat} {a : Act} {w : World}

def resV (tmps : Array Value) : ResultVar → Sem Value
  | .tmp t => pure (tmps.getD t undef)
  | .cell b t => do loadVar t (← asAddr (tmps.getD b undef))
theorem results_eq (fn : Func) (tmps : Array Value) : results fn tmps = (do let vs ← fn.results.mapM (resV tmps); pure (if h : vs.size = 1 then vs[0] else .tuple vs)) := by
  unfold results
  congr 1

theorem resA_run {s : S3} (H : RelE c A μ fr s.tm s.hp n a w) {r : ResultVar} {ar : AR} (hr : cRes P r = some ar) {x : AV} (hx : resA s ar = some x) :
    ∃ v, (resV a.tmps r).run P w = .ok v w ∧ RV w A x μ v := by
  cases r with
  | tmp t =>
    simp only [cRes, Option.some.injEq] at hr
    subst hr
    simp only [resA, Option.some.injEq] at hx
    subst hx
    exact ⟨_, rfl, H.tm t⟩
  | cell b t =>
    simp only [cRes] at hr
    split at hr
    case h_2 => cases hr
    rename_i d sz hu hs
    cases hr
    simp only [resA] at hx
    split at hx
    case h_2 => cases hx
    rename_i bb off htm
    split at hx
    case h_2 => cases hx
    rename_i y hy
    split at hx
    case isFalse => cases hx
    rename_i hok
    cases hx
    have hv := H.tm b
    rw [htm] at hv
    obtain ⟨hd, e1, e2, e3⟩ := hv
    obtain ⟨hd', v, ty, f1, f2, f3, f4, f5, f6⟩ := H.box hy
    rw [e1] at f1; cases f1
    obtain ⟨cv, g1, g2⟩ := load_part hu hs (off := off) f4 ⟨hok.2.2, hok.1, hok.2.1⟩ f6
    refine ⟨cv, ?_, g2⟩
    simp only [resV, e3, asAddr, Sem.run_bind, Sem.run_pure, Result.andThen_ok]
    rw [Nat.zero_add] at g1
    exact g1

theorem resL_run {s : S3} (H : RelE c A μ fr s.tm s.hp n a w) : ∀ {rs : List ResultVar} {ars : List AR} {xs : List AV}, rs.mapM (cRes P) = some ars → resL s ars = some xs →
    ∃ vs, (rs.mapM (resV a.tmps)).run P w = .ok vs w ∧ RVL w A xs μ vs
  | [], ars, xs, h1, h2 => by
    simp at h1; subst h1
    simp [resL] at h2; subst h2
    exact ⟨[], by simp, rfl⟩
  | r :: rs, ars, xs, h1, h2 => by
    rw [List.mapM_cons] at h1
    simp only [Option.pure_def, Option.bind_eq_bind, Option.bind_eq_some_iff] at h1
    obtain ⟨ar, e1, ars', e2, e3⟩ := h1
    cases e3
    unfold resL at h2
    split at h2
    case h_2 => cases h2
    rename_i x xs' g1 g2
    cases h2
    obtain ⟨v, q1, q2⟩ := resA_run H e1 g1
    obtain ⟨vs, q3, q4⟩ := resL_run H e2 g2
    refine ⟨v :: vs, ?_, v, vs, rfl, q2, q4⟩
    rw [List.mapM_cons]
    simp only [Sem.run_bind]
    rw [q1]
    simp only [Result.andThen_ok]
    rw [q3]
    rfl

theorem results_run {s : S3} {fn : Func} {ars : List AR} {xs : List AV} (H : RelE c A μ fr s.tm s.hp n a w) (h1 : fn.results.toList.mapM (cRes P) = some ars) (h2 : resL s ars = some xs) :
    ∃ v, (results fn a.tmps).run P w = .ok v w ∧ RV w A (pack xs) μ v := by
  obtain ⟨vs, e1, e2⟩ := resL_run H h1 h2
  have hl := e2.length
  have hm : (fn.results.mapM (resV a.tmps)).run P w = .ok vs.toArray w := by
    rw [Array.mapM_eq_mapM_toList]
    simp only [Sem.run_map]
    rw [e1]
    rfl
  rw [results_eq, Sem.run_bind, hm]
  simp only [Result.andThen_ok, Sem.run_pure]
  refine ⟨_, rfl, ?_⟩
  match vs, xs, e2, hl with
  | [], [], e2, _ => exact ⟨[], by simp, rfl⟩
  | [v], [x], ⟨v', vs', h0, h3, _⟩, _ => cases h0; simpa [pack] using h3
  | v :: u :: vs, x :: y :: xs, e2, _ =>
    refine ⟨v :: u :: vs, ?_, e2⟩
    simp
end

def fin (k n : Nat) (res : List AR) (r : AV) (h' : List (Option Blk)) : X → S3 → Prop
  | .exit _, _ => False
  | _, s => ∃ s', Weak k n s s' ∧ (∃ xs, resL s' res = some xs ∧ pack xs = r) ∧ ∀ b x, hpOf h' b = some x → s'.hp b = some x
def finP (n : Nat) (res : List AR) (r : AV) : X → S3 → Prop
  | .exit _, _ => False
  | _, s => ∃ s', Weak 0 n s s' ∧ (∃ xs, resL s' res = some xs ∧ pack xs = r) ∧ r.pure

theorem HSpec.intro {P : Program} {f : FuncId} {fn : Func} {af : AF} {args : List AV} {h : List Blk} {r : AV} {h' : List (Option Blk)} (hf : P.funcs[f]? = some fn) (hc : cFunc P fn = some af) (hn : args.length ≤ af.n)
    (hw : AWP P h.length af.n af.body (fin h.length af.n af.res r h') (init af.n args h)) : HSpec P f args h r h' := by
  intro w A μ cargs hH hmu hargs
  unfold cFunc at hc
  split at hc
  case h_1 => cases hc
  rename_i body hb
  split at hc
  case h_1 => cases hc
  rename_i rs hrs
  cases hc
  simp only at hw hn
  have hl := hargs.length
  let c : Ctx := ⟨w, ownOf μ (hpOf (h.map some)), A, μ⟩
  refine calls_of_wp hf hb ?_
  have H0 : Rel h.length c fn.ntmps (init fn.ntmps args h) { tmps := cargs.toArray ++ Array.replicate (fn.ntmps - cargs.toArray.size) undef, defers := [] } w := by
    refine ⟨hmu, A, μ, fun t => ?_, ?_, rfl, fun b x hx => ?_, hH.inj, hH.lt, fun b hb => ⟨hmu b hb, ?_⟩, ⟨rfl, rfl, rfl, Nat.le_refl _, fun _ _ _ => rfl⟩, fun _ h => h, fun _ h => .inl h, MuLe.refl _⟩
    · show RV w A (args.getD t .unk) μ _
      by_cases ht : t < args.length
      · have e1 : args[t]? = some (args.getD t .unk) := by simp [List.getD, List.getElem?_eq_getElem ht]
        obtain ⟨v, e2, e3⟩ := hargs.get e1
        have : (cargs.toArray ++ Array.replicate (fn.ntmps - cargs.toArray.size) undef).getD t undef = v := by
          have hlt : t < cargs.length := by omega
          have hv : cargs[t] = v := by rw [List.getElem?_eq_getElem hlt] at e2; exact Option.some.inj e2
          rw [Array.getD_eq_getD_getElem?, Array.getElem?_append_left (by simpa using hlt)]
          simp [hlt, hv]
        rw [this]; exact e3
      · have : args.getD t .unk = .unk := by simp [List.getD, List.getElem?_eq_none (Nat.le_of_not_lt ht)]
        rw [this]; trivial
    · simp; omega
    · obtain ⟨hd, e1, e2, e3⟩ := hH.blk b x hx
      exact ⟨hd, e1, e2, fun he => ⟨(e3 he).1, (e3 he).2, .inl ⟨b, x, hd, hx, e1, he, rfl⟩⟩⟩
    · show hpOf (h.map some) b = none
      have hb' : h.length ≤ b := hb
      simp [hpOf, List.getElem?_eq_none, hb']
  refine wp_mono (hw _ rfl c _ w H0) ?_
  have fin : ∀ (s : S3) (a' : Act) (w' : World), (∃ s', Weak h.length fn.ntmps s s' ∧ (∃ xs, resL s' rs = some xs ∧ pack xs = r) ∧ ∀ b x, hpOf h' b = some x → s'.hp b = some x) → Rel h.length c fn.ntmps s a' w' →
      a'.defers = [] ∧ ∃ v, (results fn a'.tmps).run P w' = .ok v w' ∧ (fun e w' => ∃ v A' μ', e = Ending.returned v ∧ RV w' A' r μ' v ∧ HeapOk w' A' μ' (hpOf h') ∧ MuLe μ μ' ∧ Ext (ownOf μ (hpOf (h.map some))) w w' ∧
        (∀ b, A b → A' b) ∧ (∀ b, A' b → A b ∨ ownOf μ (hpOf (h.map some)) b ∨ w.heap.size ≤ b) ∧ (∀ b, ownOf μ' (hpOf h') b → ownOf μ (hpOf (h.map some)) b ∨ w.heap.size ≤ b)) (.returned v) w' := by
    rintro s a' w' ⟨s', hwk, ⟨xs, hxs, hpk⟩, hsub⟩ hr
    obtain ⟨h0, A', μ', H⟩ := hwk c a' w' hr
    obtain ⟨v, e1, e2⟩ := results_run H hrs hxs
    rw [hpk] at e2
    refine ⟨H.df, v, e1, v, A', μ', rfl, e2, ?_, H.mu, ?_, H.A0, H.A1, ?_⟩
    · refine ⟨fun b x hx => ?_, fun b b' x x' hd hd' hx hx' => H.inj b b' x x' hd hd' (hsub b x hx) (hsub b' x' hx'), H.lt⟩
      obtain ⟨hd, g1, g2, g3⟩ := H.blk b x (hsub b x hx)
      exact ⟨hd, g1, g2, fun he => ⟨(g3 he).1, (g3 he).2.1⟩⟩
    · exact ⟨H.keep.os, H.keep.tape, H.keep.output, H.keep.size, H.keep.block⟩
    · rintro b ⟨b', x, hd, hx, hm, he, rfl⟩
      obtain ⟨hd', g1, g2, g3⟩ := H.blk b' x (hsub b' x hx)
      rw [hm] at g1; cases g1
      exact (g3 he).2.2
  intro e a' w' hq
  cases e with
  | normal => obtain ⟨s, h1, h2⟩ := hq; exact fin s a' w' h1 h2
  | ret => obtain ⟨s, h1, h2⟩ := hq; exact fin s a' w' h1 h2
  | exit id => obtain ⟨s, h1, h2⟩ := hq; exact h1.elim
  | _ => exact hq.elim

theorem PSpec.intro {P : Program} {f : FuncId} {fn : Func} {af : AF} {args : List AV} {r : AV} (hf : P.funcs[f]? = some fn) (hc : cFunc P fn = some af) (hn : args.length ≤ af.n)
    (hw : AWP P 0 af.n af.body (finP af.n af.res r) (init af.n args [])) (hr : r.pure) : PSpec P f args r := by
  refine HSpec.pure (HSpec.intro hf hc hn (h := []) (h' := []) ?_) hr
  refine AWP.mono hw ?_
  intro e s hq
  cases e with
  | exit id => exact hq.elim
  | normal => obtain ⟨s', h1, h2, h3⟩ := hq; exact ⟨s', h1, h2, fun b x hx => by simp [hpOf] at hx⟩
  | ret => obtain ⟨s', h1, h2, h3⟩ := hq; exact ⟨s', h1, h2, fun b x hx => by simp [hpOf] at hx⟩
end Go.Am
