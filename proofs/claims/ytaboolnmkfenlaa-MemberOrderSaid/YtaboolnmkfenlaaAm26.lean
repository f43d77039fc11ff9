/- Values that say less: an empty slice of any element type, a slice whose capacity is forgotten; rows read as vecs. -/
import Derived.Test.YtaboolnmkfenlaaAm25
namespace Go.Am
set_option linter.unusedVariables false
set_option linter.unusedSimpArgs false

def Sub (x y : AV) : Prop := ∀ (w : World) (A : Nat → Prop) (μ : Mu) (v : Value), RV w A x μ v → RV w A y μ v
def SubL : List AV → List AV → Prop
  | [], [] => True
  | x :: xs, y :: ys => Sub x y ∧ SubL xs ys
  | _, _ => False
theorem Sub.refl {x : AV} : Sub x x := fun _ _ _ _ h => h
theorem Sub.trans {x y z : AV} (h : Sub x y) (k : Sub y z) : Sub x z := fun w A μ v hv => k w A μ v (h w A μ v hv)
theorem SubL.refl : ∀ {xs : List AV}, SubL xs xs
  | [] => trivial
  | _ :: _ => ⟨Sub.refl, SubL.refl⟩
theorem SubL.rvl {w : World} {A : Nat → Prop} {μ : Mu} : ∀ {xs ys : List AV} {vs : List Value}, SubL xs ys → RVL w A xs μ vs → RVL w A ys μ vs
  | [], [], _, _, h => h
  | x :: xs, y :: ys, _, hs, ⟨v, vs', h1, h2, h3⟩ => ⟨v, vs', h1, hs.1 w A μ v h2, SubL.rvl hs.2 h3⟩
  | [], _ :: _, _, hs, _ => hs.elim
  | _ :: _, [], _, hs, _ => hs.elim
theorem Sub.sl {k k' : Nat} {es : List AV} {full full' : Bool} (h : k = k' ∨ es = []) (hf : full' = true → full = true) : Sub (.sl k es full) (.sl k' es full') := by
  intro w A μ v hv
  rcases hv with ⟨h1, h2⟩ | ⟨blk, off, cap, vs, e1, e2, e3, e4, e5, e6, e7, e8⟩
  · exact .inl ⟨h1, h2⟩
  · refine .inr ⟨blk, off, cap, vs, e1, e2, e3, e4, fun h => e5 (hf h), e6, fun u hu => ?_, e8⟩
    rcases h with h | h
    · rw [← h]; exact e7 u hu
    · subst h; simp [RVL] at e6; subst e6; simp at hu
theorem Sub.agg {xs ys : List AV} (h : SubL xs ys) : Sub (.agg xs) (.agg ys) := fun w A μ v ⟨vs, h1, h2, h3⟩ => ⟨vs, h1, h.rvl h2, h3⟩
theorem Sub.tup {xs ys : List AV} (h : SubL xs ys) : Sub (.tup xs) (.tup ys) := fun w A μ v ⟨vs, h1, h2⟩ => ⟨vs, h1, h.rvl h2⟩
theorem Sub.unk {x : AV} : Sub x .unk := fun _ _ _ _ _ => trivial

theorem PSpec.sub {P : Program} {f : FuncId} {args args' : List AV} {r r' : AV} (h : PSpec P f args r) (ha : SubL args' args) (hr : Sub r r') : PSpec P f args' r' :=
  fun w A cargs h1 h2 => (h w A cargs h1 (ha.rvl h2)).mono fun e w' ⟨v, A', g1, g2, g3⟩ => ⟨v, A', g1, hr _ _ _ _ g2, g3⟩
theorem HSpec.sub {P : Program} {f : FuncId} {args args' : List AV} {hb : List Blk} {r r' : AV} {h' : List (Option Blk)} (h : HSpec P f args hb r h') (ha : SubL args' args) (hr : Sub r r') : HSpec P f args' hb r' h' :=
  fun w A μ cargs h1 h2 h3 => (h w A μ cargs h1 h2 (ha.rvl h3)).mono fun e w' ⟨v, A', μ', g1, g2, g3⟩ => ⟨v, A', μ', g1, hr _ _ _ _ g2, g3⟩

theorem Weak.sub {k n : Nat} {s s' : S3} (h1 : ∀ t, Sub (s.tm t) (s'.tm t)) (h2 : s'.hp = s.hp) (h3 : s'.nx = s.nx) : Weak k n s s' := by
  rintro c a w ⟨h0, A, μ, H⟩
  refine ⟨h0, A, μ, ⟨fun t => h1 t _ _ _ _ (H.tm t), H.n, H.df, by rw [h2]; exact H.blk, by rw [h2]; exact H.inj, H.lt, by rw [h2, h3]; exact H.fr, H.keep, H.A0, H.A1, H.mu⟩⟩

/-- A row whose elements are all known is a vec. -/
theorem BlkOk.row_vec {w : World} {A : Nat → Prop} {μ : Mu} {hd : Hd} {k cap : Nat} {es : List AV} (h : BlkOk w A μ hd (.row k es es.length cap)) : BlkOk w A μ hd (.vec k es) := by
  obtain ⟨h1, h2, h3, h4, h5, h6, h7, C, ty, vs, g1, g2, g3, g4, g5, g6⟩ := h
  exact ⟨h1, .inr ⟨h2, h3, by omega, by omega, C, ty, vs, g1, g2, g3, g4, by rw [h4]; exact g5, by rw [h3]; exact g6⟩⟩
theorem BlkOk.vec_row {w : World} {A : Nat → Prop} {μ : Mu} {hd : Hd} {k : Nat} {es : List AV} (h : BlkOk w A μ hd (.vec k es)) (he : hd.emp = none) :
    es.length ≤ hd.cap ∧ hd.cap ≤ maxLen ∧ BlkOk w A μ hd (.row k es es.length hd.cap) := by
  obtain ⟨h1, ⟨_, h2⟩ | ⟨h2, h3, h4, h5, C, ty, vs, g1, g2, g3, g4, g5, g6⟩⟩ := h
  · rw [he] at h2; cases h2
  · exact ⟨by omega, h5, h1, h2, h3, rfl, Nat.le_refl _, by omega, h5, C, ty, vs, g1, g2, g3, g4, g5, by rw [← h3]; exact g6⟩
theorem Weak.row {kk n b k cap nx : Nat} {es : List AV} {tm : Nat → AV} {hp : Hp} (hb : hp b = some (.row k es es.length cap)) : Weak kk n ⟨tm, hp, nx⟩ ⟨tm, upd hp b (some (.vec k es)), nx⟩ := by
  rintro c a w ⟨h0, A, μ, H⟩
  have back : ∀ b' x, upd hp b (some (.vec k es)) b' = some x → ∃ y, hp b' = some y ∧ ∀ hd, BlkOk w A μ hd y → BlkOk w A μ hd x := by
    intro b' x hx
    by_cases e : b' = b
    · subst e
      rw [upd_same] at hx; cases hx
      exact ⟨_, hb, fun hd h => h.row_vec⟩
    · rw [upd_ne _ _ e] at hx
      exact ⟨x, hx, fun hd h => h⟩
  refine ⟨h0, A, μ, ⟨H.tm, H.n, H.df, fun b' x hx => ?_, fun b1 b2 x x' hd hd' hx hx' => ?_, H.lt, fun b' hb' => ?_, H.keep, H.A0, H.A1, H.mu⟩⟩
  · obtain ⟨y, e1, e2⟩ := back b' x hx
    obtain ⟨hd, g1, g2, g3⟩ := H.blk b' y e1
    exact ⟨hd, g1, e2 hd g2, g3⟩
  · obtain ⟨y, e1, _⟩ := back b1 x hx
    obtain ⟨y', e1', _⟩ := back b2 x' hx'
    exact H.inj b1 b2 y y' hd hd' e1 e1'
  · obtain ⟨q1, q2⟩ := H.fr b' hb'
    refine ⟨q1, ?_⟩
    have q2 : hp b' = none := q2
    show upd hp b (some (.vec k es)) b' = none
    rw [upd_ne _ _ (by rintro rfl; rw [hb] at q2; cases q2)]
    exact q2

/-- A contract for every capacity, and for the slice without a row, is one for a slice. -/
theorem HSpec.of_row {P : Program} {f : FuncId} {args : List AV} {k : Nat} {es : List AV} {hs : List Blk} {r : AV} {h' : List (Option Blk)}
    (h1 : ∀ cap, es.length ≤ cap → cap ≤ maxLen → HSpec P f args (.row k es es.length cap :: hs) r h') (h2 : es = [] → HSpec P f args (.vec k es :: hs) r h') : HSpec P f args (.vec k es :: hs) r h' := by
  intro w A μ cargs g1 g2 g3
  obtain ⟨hd, e1, e2, e3⟩ := g1.blk 0 (.vec k es) (hpOf_some.mpr rfl)
  cases he : hd.emp with
  | some a =>
    have : es = [] := by
      obtain ⟨_, ⟨h, _⟩ | ⟨h, _⟩⟩ := e2
      · exact h
      · rw [he] at h; cases h
    exact h2 this w A μ cargs g1 g2 g3
  | none =>
    obtain ⟨q1, q2, q3⟩ := e2.vec_row he
    have back : ∀ b x, hpOf ((Blk.row k es es.length hd.cap :: hs).map some) b = some x → ∃ y, hpOf ((Blk.vec k es :: hs).map some) b = some y ∧ ∀ hd', μ b = some hd' → BlkOk w A μ hd' y → BlkOk w A μ hd' x := by
      intro b x hx
      rw [hpOf_some] at hx
      cases b with
      | zero =>
        simp at hx; subst hx
        exact ⟨_, hpOf_some.mpr rfl, fun hd' hm _ => by rw [e1] at hm; cases hm; exact q3⟩
      | succ b => exact ⟨x, hpOf_some.mpr (by simpa using hx), fun _ _ h => h⟩
    have own : ∀ b, ownOf μ (hpOf ((Blk.row k es es.length hd.cap :: hs).map some)) b ↔ ownOf μ (hpOf ((Blk.vec k es :: hs).map some)) b := by
      intro b
      constructor
      · rintro ⟨i, x, hd', a1, a2, a3, a4⟩
        obtain ⟨y, b1, _⟩ := back i x a1
        exact ⟨i, y, hd', b1, a2, a3, a4⟩
      · rintro ⟨i, x, hd', a1, a2, a3, a4⟩
        cases i with
        | zero => exact ⟨0, _, hd', hpOf_some.mpr rfl, a2, a3, a4⟩
        | succ i => exact ⟨i + 1, x, hd', hpOf_some.mpr (by rw [hpOf_some] at a1; simpa using a1), a2, a3, a4⟩
    have own' : ownOf μ (hpOf ((Blk.row k es es.length hd.cap :: hs).map some)) = ownOf μ (hpOf ((Blk.vec k es :: hs).map some)) := by funext b; exact propext (own b)
    have := h1 hd.cap q1 q2 w A μ cargs ⟨fun b x hx => ?_, fun b b' x x' hd1 hd2 hx hx' => ?_, g1.lt⟩ (by simpa using g2) g3
    · rw [own'] at this; exact this
    · obtain ⟨y, b1, b2⟩ := back b x hx
      obtain ⟨hd', c1, c2, c3⟩ := g1.blk b y b1
      exact ⟨hd', c1, b2 hd' c1 c2, c3⟩
    · obtain ⟨y, b1, _⟩ := back b x hx
      obtain ⟨y', b1', _⟩ := back b' x' hx'
      exact g1.inj b b' y y' hd1 hd2 b1 b1'
end Go.Am
