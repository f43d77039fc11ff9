/- Plain states (temporaries and blocks as lists), loops over them, and a nil slice that becomes a block. -/
import Derived.Test.YtaboolnmkfenlaaAm28
namespace Go.Am
set_option linter.unusedVariables false
set_option linter.unusedSimpArgs false

def hpL : Nat → List (Option Blk) → Nat → Option Blk
  | _, [], _ => none
  | i, x :: l, b => if b = i then x else hpL (i + 1) l b
theorem hpL_at (i : Nat) (x : Option Blk) (l : List (Option Blk)) (b : Nat) : hpL i (x :: l) b = if b = i then x else hpL (i + 1) l b := rfl
theorem hpL_nil (i b : Nat) : hpL i [] b = none := rfl
theorem resT_at (t : Nat) (x : AV) (l : List (Nat × AV)) (u : Nat) : resT ((t, x) :: l) u = if u = t then x else resT l u := rfl
theorem resT_nil (u : Nat) : resT [] u = .unk := rfl
theorem wrapN {a : Int} {b : Nat} (h : a = (b : Int)) (h2 : b ≤ 9223372036854775807) : IntKind.i64.wrap a = (b : Int) := by rw [h]; exact IntWalk.i64_in _ (by omega)
theorem hpL_eq : ∀ (l : List (Option Blk)) (i b : Nat), hpL i l b = if i ≤ b then (l[b - i]?).join else none
  | [], i, b => by simp [hpL]
  | x :: l, i, b => by
    rw [hpL]
    by_cases h : b = i
    · subst h; simp
    · rw [if_neg h, hpL_eq l (i + 1) b]
      by_cases h1 : i ≤ b
      · have : b - i = (b - (i + 1)) + 1 := by omega
        rw [if_pos h1, if_pos (by omega), this, List.getElem?_cons_succ]
      · rw [if_neg h1, if_neg (by omega)]
theorem hpOf_hpL (l : List (Option Blk)) : hpOf l = hpL 0 l := by
  funext b; rw [hpL_eq]; simp [hpOf]

section
variable {P : Program} {k n : Nat}

def AllT (tm : Nat → AV) (bs : List Nat) (m : Nat) : List (Nat × AV) → Prop
  | [] => True
  | (t, x) :: l => (tm t = x.ren (fun i => bs.getD i 0) ∧ x.bel m) ∧ AllT tm bs m l
theorem AllT.all {tm : Nat → AV} {bs : List Nat} {m : Nat} : ∀ {l : List (Nat × AV)}, AllT tm bs m l → ∀ p ∈ l, tm p.1 = p.2.ren (fun i => bs.getD i 0) ∧ p.2.bel m
  | [], _, p, hp => by simp at hp
  | (t, x) :: l, h, p, hp => by
    rcases List.mem_cons.mp hp with rfl | hp
    · exact h.1
    · exact AllT.all h.2 p hp
theorem Weak.nf {tm : Nat → AV} {hp : Hp} {nx : Nat} (bs : List Nat) (ts : List (Nat × AV)) (hs : List (Option Blk)) {m : Nat} (h3 : AllT tm bs m ts) (h4 : AllRen hp bs m 0 hs)
    (h5 : bs.length = hs.length ∧ hs.length = m) (h6 : bs.Nodup) (h7 : ∀ b, b < k → bs.getD b 0 = b) (h8 : k ≤ m) : Weak k n ⟨tm, hp, nx⟩ ⟨resT ts, hpL 0 hs, m⟩ := by
  obtain ⟨h5, rfl⟩ := h5
  refine Weak.ren (fun i => bs.getD i 0) (fun t => ?_) (fun b x e => ?_) (fun b b' e e' he => ?_) h7 h8
  · show resT ts t = .unk ∨ _
    have h3 := h3.all
    induction ts with
    | nil => exact .inl rfl
    | cons p l ih =>
      obtain ⟨t', x⟩ := p
      show (if t = t' then x else resT l t) = .unk ∨ (tm t = (if t = t' then x else resT l t).ren _ ∧ _)
      by_cases ht : t = t'
      · subst ht
        have := h3 (t, x) (by simp)
        simp only [resT, ↓reduceIte]
        exact .inr this
      · have := ih (by assumption |> fun (h : AllT _ _ _ ((t', x) :: l)) => h.2) (fun p hp => h3 p (by simp [hp]))
        simp only [resT, if_neg ht]
        exact this
  · rw [show (⟨resT ts, hpL 0 hs, hs.length⟩ : S3).hp = hpOf hs from (hpOf_hpL hs).symm] at e
    have e := hpOf_opt.mp e
    have := h4.get e
    have hb : b < hs.length := (List.getElem?_eq_some_iff.mp e).1
    simp only [Nat.zero_add] at this
    exact ⟨hb, this.1, this.2⟩
  · rw [show (⟨resT ts, hpL 0 hs, hs.length⟩ : S3).hp = hpOf hs from (hpOf_hpL hs).symm] at e e'
    have hb : ∀ {b}, hpOf hs b ≠ none → b < hs.length := by
      intro b e
      rcases Nat.lt_or_ge b hs.length with g | g
      · exact g
      · exact absurd (by simp [hpOf, List.getElem?_eq_none g]) e
    have h1 := hb e
    have h2' := hb e'
    have g1 : b < bs.length := by omega
    have g2 : b' < bs.length := by omega
    simp only [List.getD_eq_getElem?_getD, List.getElem?_eq_getElem g1, List.getElem?_eq_getElem g2, Option.getD_some] at he
    exact (List.getElem_inj h6).mp he

theorem AWP.loopS {Q : X → S3 → Prop} {s : S3} {x : AC} {σ : Type} (st : σ → S3) (inv : σ → Prop) (μ : σ → Nat) {i0 : σ} (h0 : inv i0) (hw : Weak k n s (st i0))
    (round : ∀ i, inv i → AWP P k n x (thenX (fun s' => ∃ j, inv j ∧ μ j < μ i ∧ Weak k n s' (st j)) Q) (st i)) : AWP P k n (.loop x) Q s := by
  refine AWP.loop (fun m s => ∃ i, inv i ∧ m = μ i ∧ s = st i) ⟨_, hw, i0, h0, rfl, rfl⟩ ?_
  rintro m s ⟨i, hi, rfl, rfl⟩
  refine (round i hi).mono ?_
  intro e s hq
  cases e with
  | normal => obtain ⟨j, h1, h2, h3⟩ := hq; exact ⟨_, _, h2, h3, j, h1, rfl, rfl⟩
  | exit id => exact hq
  | ret => exact hq

/-! ### Nil becomes a block -/
theorem RV.nilsl {w : World} {A : Nat → Prop} {μ : Mu} {kk : Nat} {v : Value} (h : RV w A (.sl kk [] true) μ v) : ∃ a : Option Addr, v = .slice a 0 0 := by
  rcases h with ⟨_, h⟩ | ⟨blk, off, cap, vs, e1, e2, e3, e4, e5, _⟩
  · exact h
  · have := e5 rfl
    simp at this; subst this
    exact ⟨_, e1⟩

theorem Weak.nilvec {tm : Nat → AV} {hp : Hp} {nx : Nat} (t0 kk k' : Nat) (h : tm t0 = .sl kk [] true) (hk : k ≤ nx) : Weak k n ⟨tm, hp, nx⟩ ⟨upd tm t0 (.vec nx), upd hp nx (some (.vec k' [])), nx + 1⟩ := by
  rintro c a w ⟨h0, A, μ, H⟩
  obtain ⟨ad, hv⟩ := RV.nilsl (by have := H.tm t0; rw [show (⟨tm, hp, nx⟩ : S3).tm t0 = _ from h] at this; exact this)
  obtain ⟨f1, f2⟩ : μ nx = none ∧ hp nx = none := H.fr nx (Nat.le_refl _)
  let hd : Hd := ⟨some ad, 0, k', 0, 0⟩
  have hle : MuLe μ (upd μ nx (some hd)) := by
    intro b hd' e
    by_cases g : b = nx
    · subst g; rw [f1] at e; cases e
    · rw [upd_ne _ _ g]; exact e
  have key := H.add nx f2 (upd μ nx (some hd)) hle (fun b hb => upd_ne _ _ hb) hd (upd_same _ _ _) (.vec k' []) ⟨rfl, .inl ⟨rfl, rfl⟩⟩ (fun e => by cases e) (fun _ _ _ _ _ _ e => by cases e)
  refine ⟨h0, A, upd μ nx (some hd), ⟨fun t => ?_, key.n, key.df, key.blk, key.inj, key.lt, fun b hb => ?_, key.keep, key.A0, key.A1, key.mu⟩⟩
  · by_cases ht : t = t0
    · subst ht
      show RV w A (upd tm t (.vec nx) t) _ _
      rw [upd_same]
      exact ⟨hd, upd_same _ _ _, hv⟩
    · show RV w A (upd tm t0 (.vec nx) t) _ _
      rw [upd_ne _ _ ht]
      exact key.tm t
  · have hb : nx + 1 ≤ b := hb
    exact key.fr b ⟨show nx ≤ b by omega, by omega⟩

theorem RVL.setAt {w : World} {A : Nat → Prop} {μ : Mu} : ∀ {xs : List AV} {vs : List Value} {i : Nat} {y : AV} {v : Value}, RVL w A xs μ vs → vs[i]? = some v → RV w A y μ v → RVL w A (xs.set i y) μ vs
  | [], vs, i, y, v, h, hi, hy => h
  | z :: xs, vs, 0, y, v, ⟨v', vs', e, h1, h2⟩, hi, hy => by
    subst e; simp at hi; subst hi
    exact ⟨_, _, rfl, hy, h2⟩
  | z :: xs, vs, i + 1, y, v, ⟨v', vs', e, h1, h2⟩, hi, hy => by
    subst e
    exact ⟨_, _, rfl, h1, RVL.setAt h2 (by simpa using hi) hy⟩

theorem Weak.nilvecB {tm : Nat → AV} {hp : Hp} {nx : Nat} (b0 i kk k' : Nat) (cs : List AV) (hb : hp b0 = some (.box (.agg cs))) (h : cs[i]? = some (.sl kk [] true)) (hk : k ≤ nx) :
    Weak k n ⟨tm, hp, nx⟩ ⟨tm, upd (upd hp b0 (some (.box (.agg (cs.set i (.vec nx)))))) nx (some (.vec k' [])), nx + 1⟩ := by
  rintro c a w ⟨h0, A, μ, H⟩
  obtain ⟨hd0, q1, ⟨q2, q3, v0, ty0, ⟨vs0, q4, q5, q6⟩, q7⟩, q8⟩ := H.blk b0 _ hb
  have hi : i < cs.length := (List.getElem?_eq_some_iff.mp h).1
  have hv0 := (RVL.length q5)
  obtain ⟨vi, hvi⟩ : ∃ vi, vs0[i]? = some vi := ⟨vs0[i]'(by omega), List.getElem?_eq_getElem (by omega)⟩
  obtain ⟨ad, hv⟩ := RV.nilsl (RVL.get2 q5 h hvi)
  obtain ⟨f1, f2⟩ : μ nx = none ∧ hp nx = none := H.fr nx (Nat.le_refl _)
  let hd : Hd := ⟨some ad, 0, k', 0, 0⟩
  have hne : b0 ≠ nx := fun e => by subst e; rw [f2] at hb; cases hb
  have hle : MuLe μ (upd μ nx (some hd)) := by
    intro b hd' e
    by_cases g : b = nx
    · subst g; rw [f1] at e; cases e
    · rw [upd_ne _ _ g]; exact e
  have key := H.add nx f2 (upd μ nx (some hd)) hle (fun b hb => upd_ne _ _ hb) hd (upd_same _ _ _) (.vec k' []) ⟨rfl, .inl ⟨rfl, rfl⟩⟩ (fun e => by cases e) (fun _ _ _ _ _ _ e => by cases e)
  have hswap : upd (upd hp b0 (some (.box (.agg (cs.set i (.vec nx)))))) nx (some (.vec k' [])) = upd (upd hp nx (some (.vec k' []))) b0 (some (.box (.agg (cs.set i (.vec nx))))) := by
    funext b
    by_cases e1 : b = b0
    · subst e1; rw [upd_same, upd_ne _ _ hne, upd_same]
    · rw [upd_ne _ _ e1]
      by_cases e2 : b = nx
      · subst e2; rw [upd_same, upd_same]
      · rw [upd_ne _ _ e2, upd_ne _ _ e1, upd_ne _ _ e2]
  rw [hswap]
  have back : ∀ b x, upd (upd hp nx (some (.vec k' []))) b0 (some (.box (.agg (cs.set i (.vec nx))))) b = some x → ∃ y, upd hp nx (some (.vec k' [])) b = some y := by
    intro b x hx
    by_cases e : b = b0
    · subst e; exact ⟨.box (.agg cs), by rw [upd_ne _ _ hne]; exact hb⟩
    · rw [upd_ne _ _ e] at hx; exact ⟨x, hx⟩
  refine ⟨h0, A, upd μ nx (some hd), ⟨key.tm, key.n, key.df, fun b x hx => ?_, fun b b' x x' hd1 hd2 hx hx' => ?_, key.lt, fun b hb' => ?_, key.keep, key.A0, key.A1, key.mu⟩⟩
  · by_cases e : b = b0
    · subst e
      have hx : some (Blk.box (.agg (cs.set i (.vec nx)))) = some x := by
        rw [← hx]; exact (upd_same _ _ _).symm
      cases hx
      refine ⟨hd0, hle _ _ q1, ⟨q2, rfl, v0, ty0, ⟨vs0, q4, ?_, q6⟩, q7⟩, q8⟩
      exact RVL.setAt (RVL.mono (fun _ _ => rfl) (fun _ h => h) _ hle q5) hvi ⟨hd, upd_same _ _ _, hv⟩
    · have hx : upd hp nx (some (.vec k' [])) b = some x := by
        rw [← hx]; exact (upd_ne _ _ e).symm
      exact key.blk b x hx
  · obtain ⟨y, hy⟩ := back b x hx
    obtain ⟨y', hy'⟩ := back b' x' hx'
    exact key.inj _ _ _ _ _ _ hy hy'
  · have hb' : nx + 1 ≤ b := hb'
    have : upd μ nx (some hd) b = none ∧ upd hp nx (some (.vec k' [])) b = none := key.fr b ⟨show nx ≤ b by omega, by omega⟩
    refine ⟨this.1, ?_⟩
    show upd (upd hp nx (some (.vec k' []))) b0 _ b = none
    by_cases e : b = b0
    · subst e; have := this.2; rw [upd_ne _ _ hne, hb] at this; cases this
    · rw [upd_ne _ _ e]; exact this.2
end
end Go.Am
