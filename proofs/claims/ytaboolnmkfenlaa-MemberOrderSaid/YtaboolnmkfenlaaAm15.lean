/- A call whose function's contract is known: values only; blocks lent; blocks handed over. -/
import Derived.Test.YtaboolnmkfenlaaAm14
namespace Go.Am
set_option linter.unusedVariables false
set_option linter.unusedSimpArgs false

def FnOk (P : Program) (fid : FuncId) : Prop := ∃ fn, P.funcs[fid]? = some fn ∧ fn.body.isSome = true ∧ (fn.name == "runtime.NumGoroutine") = false

theorem Ext.step {c : Ctx} {A : Nat → Prop} {μ : Mu} {fr : Nat → Prop} {tm : Nat → AV} {hp : Hp} {n : Nat} {a : Act} {w w' : World} (H : RelE c A μ fr tm hp n a w)
    (h : Ext (fun _ => False) w w') (A' : Nat → Prop) (h1 : ∀ b, A b → A' b) (h2 : ∀ b, A' b → A b ∨ w.heap.size ≤ b) (h3 : ∀ b, A' b → b < w'.heap.size) : RelE c A' μ fr tm hp n a w' := by
  obtain ⟨r, _⟩ := H.step h.os h.tape h.output h.size hp (fun _ _ h => h) (fun k hk _ => h.block k hk (fun h => h)) (fun b => A' b ∧ w.heap.size ≤ b) (fun b hb => ⟨hb.2, h3 b hb.1⟩)
  have : (fun b => A b ∨ (A' b ∧ w.heap.size ≤ b)) = A' := by
    funext b
    apply propext
    constructor
    · rintro (h | h)
      · exact h1 b h
      · exact h.1
    · intro h
      rcases h2 b h with h' | h'
      · exact .inl h'
      · exact .inr ⟨h, h'⟩
  rwa [this] at r

theorem CallOk.pure {P : Program} {n : Nat} {fid : FuncId} {args : List AV} {f : Nat} {hp : Hp} {r : AV} (hf : FnOk P fid) (hs : PSpec P fid args r) (hp1 : pureL args) : CallOk P n fid args f hp [] r noEff := by
  refine ⟨hf, ?_⟩
  intro c A μ fr tm' hp' a w cargs H _ _ h3
  refine (hs w A cargs H.lt (RVL.pure hp1 h3)).mono ?_
  rintro e w' ⟨v, A', rfl, r1, r2, r3, r4, r5⟩
  exact ⟨v, A', μ, rfl, (Ext.step H r2 A' r3 r4 r5).free fun b hb => hb.1, r1.up⟩

/-! ### Blocks lent -/
def View (foot : List Nat) (hp : Hp) (x y : AV) : Prop :=
  ∀ (c : Ctx) (A : Nat → Prop) (μ : Mu) (fr : Nat → Prop) (tm' : Nat → AV) (hp' : Hp) (n : Nat) (a : Act) (w : World) (cv : Value), RelE c A μ fr tm' hp' n a w → (∀ b ∈ foot, hp' b = hp b) →
    RV w A x μ cv → RV w (fun b => A b ∨ ownOf μ hp' b) y noMu cv

def ViewL (foot : List Nat) (hp : Hp) : List AV → List AV → Prop
  | [], [] => True
  | x :: xs, y :: ys => View foot hp x y ∧ ViewL foot hp xs ys
  | _, _ => False

theorem ViewL.rvl {foot : List Nat} {hp : Hp} {c : Ctx} {A : Nat → Prop} {μ : Mu} {fr : Nat → Prop} {tm' : Nat → AV} {hp' : Hp} {n : Nat} {a : Act} {w : World} (H : RelE c A μ fr tm' hp' n a w) (hh : ∀ b ∈ foot, hp' b = hp b) :
    ∀ {xs ys : List AV} {vs : List Value}, ViewL foot hp xs ys → RVL w A xs μ vs → RVL w (fun b => A b ∨ ownOf μ hp' b) ys noMu vs
  | [], [], _, _, h => h
  | x :: xs, y :: ys, _, hv, ⟨v, vs', h1, h2, h3⟩ => ⟨v, vs', h1, hv.1 c A μ fr tm' hp' n a w v H hh h2, ViewL.rvl H hh hv.2 h3⟩
  | [], _ :: _, _, hv, _ => hv.elim
  | _ :: _, [], _, hv, _ => hv.elim

theorem View.pure {foot : List Nat} {hp : Hp} {x : AV} (h : x.pure) : View foot hp x x :=
  fun c A μ fr tm' hp' n a w cv H _ hv => RV.pure h (hv.mono (Same.refl A w) (fun b hb => .inl hb) x (MuLe.refl _))

theorem View.ref {foot : List Nat} {hp : Hp} {b off : Nat} {x : AV} (hb : b ∈ foot) (h : hp b = some (.box x)) (hx : x.pure) : View foot hp (.ref b off) (.rptr x off) := by
  intro c A μ fr tm' hp' n a w cv H hh hv
  obtain ⟨hd, e1, e2, rfl⟩ := hv
  obtain ⟨hd', v, ty, f1, f2, f3, f4, f5, f6⟩ := H.box ((hh b hb).trans h)
  rw [e1] at f1; cases f1
  obtain ⟨hd', g1, _, g3⟩ := H.blk b _ ((hh b hb).trans h)
  rw [e1] at g1; cases g1
  refine ⟨hd.blk, 0, v, by simp, .inr ⟨b, _, hd, (hh b hb).trans h, e1, e2, rfl⟩, RV.pure hx (f4.mono (Same.refl A w) (fun b hb => .inl hb) x (MuLe.refl _)), (RV.cells f3 f4).2, fun p u hu => f6 p u hu⟩

theorem View.vec {foot : List Nat} {hp : Hp} {b k : Nat} {es : List AV} (hb : b ∈ foot) (h : hp b = some (.vec k es)) (hx : pureL es) : View foot hp (.vec b) (.sl k es false) := by
  intro c A μ fr tm' hp' n a w cv H hh hv
  obtain ⟨hd, e1, rfl⟩ := hv
  obtain ⟨hd', f1, f2, f3⟩ := H.vec ((hh b hb).trans h)
  rw [e1] at f1; cases f1
  obtain ⟨hd', g1, _, g3⟩ := H.blk b _ ((hh b hb).trans h)
  rw [e1] at g1; cases g1
  rcases f3 with ⟨rfl, a', f3⟩ | ⟨g1, g2, g4, g5, C, ty, vs, k1, k2, k3, k4, k5, k6, k7⟩
  · rw [Hd.val, f3]
    exact .inl ⟨rfl, a', rfl⟩
  · have hv : hd.val = .slice (some ⟨hd.blk, 0, none⟩) es.length hd.cap := by rw [Hd.val, g1, g2]
    rw [hv]
    refine .inr ⟨hd.blk, 0, hd.cap, vs, rfl, .inr ⟨b, _, hd, (hh b hb).trans h, e1, g1, rfl⟩, by omega, g5, (fun h => by cases h), RVL.pure hx (RVL.mono (Same.refl A w) (fun b hb => .inl hb) es (MuLe.refl _) k2), fun v hv => ⟨k4 v hv, ?_⟩, fun p u hu => by rw [Nat.zero_add]; exact k7 p u hu, k3⟩
    obtain ⟨i, hi⟩ := List.mem_iff_getElem?.1 hv
    have hlt : i < es.length := by rw [k2.length]; exact (List.getElem?_eq_some_iff.1 hi).1
    have hxe : es[i]? = some es[i] := List.getElem?_eq_getElem hlt
    exact (RV.cells (k3 _ (List.getElem_mem hlt)) (k2.get2 hxe hi)).2

theorem ViewL.nil {foot : List Nat} {hp : Hp} : ViewL foot hp [] [] := trivial
theorem ViewL.cons {foot : List Nat} {hp : Hp} {x y : AV} {xs ys : List AV} (h : View foot hp x y) (t : ViewL foot hp xs ys) : ViewL foot hp (x :: xs) (y :: ys) := ⟨h, t⟩
theorem View.agg {foot : List Nat} {hp : Hp} {xs ys : List AV} (h : ViewL foot hp xs ys) : View foot hp (.agg xs) (.agg ys) := by
  rintro c A μ fr tm' hp' n a w cv H hh ⟨vs, e1, e2, e3⟩
  exact ⟨vs, e1, h.rvl H hh e2, e3⟩
theorem View.func {foot : List Nat} {hp : Hp} {g : FuncId} {xs ys : List AV} (h : ViewL foot hp xs ys) : View foot hp (.func g xs) (.func g ys) := by
  rintro c A μ fr tm' hp' n a w cv H hh ⟨vs, e1, e2⟩
  exact ⟨vs, e1, h.rvl H hh e2⟩

theorem CallOk.lend {P : Program} {n : Nat} {fid : FuncId} {args args' : List AV} {f : Nat} {hp : Hp} {foot : List Nat} {r : AV} (hf : FnOk P fid) (hs : PSpec P fid args' r) (hv : ViewL foot hp args args') (hr : r.flat) :
    CallOk P n fid args f hp foot r noEff := by
  refine ⟨hf, ?_⟩
  intro c A μ fr tm' hp' a w cargs H h1 _ h3
  refine (hs w (fun b => A b ∨ ownOf μ hp' b) cargs (fun b h => ?_) (hv.rvl H h1 h3)).mono ?_
  · rcases h with h | ⟨b', x, hd, e1, e2, e3, rfl⟩
    · exact H.lt b h
    · obtain ⟨hd', g1, _, g3⟩ := H.blk b' x e1
      rw [e2] at g1; cases g1
      exact (g3 e3).2.1
  rintro e w' ⟨v, A', rfl, r1, r2, r3, r4, r5⟩
  exact ⟨v, A, μ, rfl, (Ext.step H r2 A (fun _ h => h) (fun _ h => .inl h) (fun b hb => Nat.lt_of_lt_of_le (H.lt b hb) r2.size)).free fun b hb => hb.1, RV.flat hr r1⟩

/-! ### Blocks handed over -/
def effL : List (Nat × Option Blk) → Eff
  | [] => noEff
  | (b, x) :: l => fun c => if c = b then some x else effL l c

theorem hpEff_cons (b : Nat) (x : Option Blk) (l : List (Nat × Option Blk)) (hp : Hp) : hpEff (effL ((b, x) :: l)) hp = upd (hpEff (effL l) hp) b x := by
  funext c
  by_cases h : c = b
  · subst h; simp [hpEff, effL, upd]
  · have : effL ((b, x) :: l) c = effL l c := by
      show (if c = b then some x else effL l c) = _
      rw [if_neg h]
    simp only [hpEff, this, upd, if_neg h]
theorem hpEff_nil (hp : Hp) : hpEff (effL []) hp = hp := rfl

/-- The names that the callee's blocks have at the caller. -/
def piOf (bs : List Nat) (f : Nat) (i : Nat) : Nat := if i < bs.length then bs.getD i 0 else f + (i - bs.length)

def handEff (bs : List Nat) (f : Nat) (h' : List (Option Blk)) : Eff :=
  effL (h'.zipIdx.map fun (x, i) => (piOf bs f i, x.map (Blk.ren (piOf bs f))))

theorem effL_spec (bs : List Nat) (f : Nat) (g : Option Blk → Option Blk) : ∀ (h' : List (Option Blk)) (k : Nat) (b : Nat),
    (∀ i j, k ≤ i → i < k + h'.length → k ≤ j → j < k + h'.length → piOf bs f i = piOf bs f j → i = j) →
    (∀ i, k ≤ i → i < k + h'.length → piOf bs f i = b → effL ((h'.zipIdx k).map fun (x, i) => (piOf bs f i, g x)) b = some (g (h'.getD (i - k) none))) ∧
    ((∀ i, k ≤ i → i < k + h'.length → piOf bs f i ≠ b) → effL ((h'.zipIdx k).map fun (x, i) => (piOf bs f i, g x)) b = none)
  | [], k, b, _ => ⟨fun i h1 h2 => by simp at h2; omega, fun _ => rfl⟩
  | x :: h', k, b, hinj => by
    obtain ⟨ih1, ih2⟩ := effL_spec bs f g h' (k + 1) b (fun i j h1 h2 h3 h4 => hinj i j (by omega) (by simp; omega) (by omega) (by simp; omega))
    refine ⟨fun i h1 h2 h3 => ?_, fun hn => ?_⟩
    · simp only [List.zipIdx_cons, List.map_cons, effL]
      by_cases hik : i = k
      · subst hik
        rw [if_pos h3.symm]; simp
      · have hne : b ≠ piOf bs f k := by
          rintro rfl
          exact hik (hinj i k h1 h2 (Nat.le_refl _) (by simp) h3)
        rw [if_neg hne, ih1 i (by omega) (by simp at h2; omega) h3]
        congr 2
        have : i - k = (i - (k + 1)) + 1 := by omega
        rw [this]; rfl
    · simp only [List.zipIdx_cons, List.map_cons, effL]
      rw [if_neg (Ne.symm (hn k (Nat.le_refl _) (by simp)))]
      exact ih2 fun i h1 h2 => hn i (by omega) (by simp; omega)

theorem hpOf_some {l : List Blk} {i : Nat} {x : Blk} : hpOf (l.map some) i = some x ↔ l[i]? = some x := by
  simp [hpOf, Option.join_eq_some_iff]
theorem hpOf_opt {l : List (Option Blk)} {i : Nat} {x : Blk} : hpOf l i = some x ↔ l[i]? = some (some x) := by
  simp [hpOf, Option.join_eq_some_iff]

theorem CallOk.hand {P : Program} {n : Nat} {fid : FuncId} {args : List AV} {f : Nat} {hp : Hp} {r : AV} {h : List Blk} {h' : List (Option Blk)} (hf : FnOk P fid) (hs : HSpec P fid args h r h') (bs : List Nat)
    (hl : bs.length = h.length) (hnd : bs.Nodup) (hargs : belL h.length args) (hblk : ∀ (i : Nat) (b : Nat) (x : Blk), bs[i]? = some b → h[i]? = some x → x.bel h.length ∧ hp b = some (x.ren (piOf bs f)))
    (hk : h.length ≤ h'.length) (hk' : h'.length ≤ h.length + 16) (hr : r.bel h'.length) (hb' : ∀ x, some x ∈ h' → x.bel h'.length) :
    CallOk P n fid (renL (piOf bs f) args) f hp bs (r.ren (piOf bs f)) (handEff bs f h') := by
  refine ⟨hf, ?_⟩
  intro c A μ fr tm' hp' a w cargs H h1 hfr h3
  -- the callee's heads
  have hbs : ∀ i, i < h.length → ∃ b x hd, bs[i]? = some b ∧ h[i]? = some x ∧ piOf bs f i = b ∧ hp' b = some (x.ren (piOf bs f)) ∧ μ b = some hd ∧ x.bel h.length := by
    intro i hi
    have hib : i < bs.length := by omega
    have e1 : bs[i]? = some bs[i] := List.getElem?_eq_getElem hib
    have e2 : h[i]? = some h[i] := List.getElem?_eq_getElem hi
    obtain ⟨e3, e4⟩ := hblk i _ _ e1 e2
    have e5 : hp' bs[i] = some (h[i].ren (piOf bs f)) := (h1 _ (List.getElem_mem hib)).trans e4
    obtain ⟨hd, e6, _⟩ := H.blk _ _ e5
    refine ⟨bs[i], h[i], hd, e1, e2, ?_, e5, e6, e3⟩
    unfold piOf; rw [if_pos hib]; simp [List.getD, e1]
  let μc : Mu := fun i => if i < h.length then μ (piOf bs f i) else none
  have hμc : ∀ i, i < h.length → μc i = μ (piOf bs f i) := fun i hi => by simp [μc, hi]
  have hun : ∀ b, b < h.length → ∀ hd, μ (piOf bs f b) = some hd → μc b = some hd := fun b hb hd e => by rw [hμc b hb]; exact e
  have hpi : ∀ i j, i < h.length → j < h.length → piOf bs f i = piOf bs f j → i = j := by
    intro i j hi hj e
    unfold piOf at e
    rw [if_pos (by omega), if_pos (by omega)] at e
    have e1 : bs[i]? = bs[j]? := by
      rw [List.getElem?_eq_getElem (show i < bs.length by omega), List.getElem?_eq_getElem (show j < bs.length by omega)] at *
      simpa [List.getD, List.getElem?_eq_getElem (show i < bs.length by omega), List.getElem?_eq_getElem (show j < bs.length by omega)] using e
    exact (List.getElem?_inj (show i < bs.length by omega) hnd).1 e1
  have hHeap : HeapOk w A μc (hpOf (h.map some)) := by
    refine ⟨fun b x hx => ?_, fun b b' x x' hd hd' hx hx' hm hm' he he' heq => ?_, H.lt⟩
    · have hx := hpOf_some.1 hx
      have hb : b < h.length := (List.getElem?_eq_some_iff.1 hx).1
      obtain ⟨b0, x0, hd, e1, e2, e3, e4, e5, e6⟩ := hbs b hb
      rw [hx] at e2; cases e2
      obtain ⟨hd', g1, g2, g3⟩ := H.blk _ _ e4
      rw [e5] at g1; cases g1
      exact ⟨hd, by rw [hμc b hb, e3]; exact e5, g2.unren hun e6, fun he => ⟨(g3 he).1, (g3 he).2.1⟩⟩
    · have hx := hpOf_some.1 hx
      have hx' := hpOf_some.1 hx'
      have hb : b < h.length := (List.getElem?_eq_some_iff.1 hx).1
      have hb1 : b' < h.length := (List.getElem?_eq_some_iff.1 hx').1
      obtain ⟨b0, x0, hd0, e1, e2, e3, e4, e5, e6⟩ := hbs b hb
      obtain ⟨b1, x1, hd1, f1, f2, f3, f4, f5, f6⟩ := hbs b' hb1
      rw [hμc b hb] at hm; rw [hμc b' hb1] at hm'
      rw [← e3] at e4; rw [← f3] at f4
      exact hpi b b' hb hb1 (H.inj _ _ _ _ hd hd' e4 f4 hm hm' he he' heq)
  have hown : ∀ k, ownOf μc (hpOf (h.map some)) k → ∃ b x hd, b ∈ bs ∧ hp' b = some x ∧ μ b = some hd ∧ hd.emp = none ∧ hd.blk = k := by
    rintro k ⟨i, x, hd, hx, hm, he, hk⟩
    have hx := hpOf_some.1 hx
    have hi : i < h.length := (List.getElem?_eq_some_iff.1 hx).1
    obtain ⟨b0, x0, hd0, e1, e2, e3, e4, e5, e6⟩ := hbs i hi
    rw [hμc i hi, e3] at hm
    exact ⟨b0, _, hd, List.mem_of_getElem? e1, e4, hm, he, hk⟩
  refine (hs w A μc cargs hHeap (fun b hb => by simp [μc]; omega) (RVL.unren hun hargs h3)).mono ?_
  rintro e w' ⟨v, A', μ', rfl, r1, r2, r3, r4, r5, r6, r7⟩
  let μ2 : Mu := fun b => if f ≤ b ∧ b < f + 16 then μ' (h.length + (b - f)) else μ b
  have hfree : ∀ b, f ≤ b → b < f + 16 → μ b = none ∧ hp' b = none := by
    intro b hb1 hb2
    have := hfr (b - f) (by omega)
    rw [show f + (b - f) = b by omega] at this
    exact H.fr b this
  have hμ2 : MuLe μ μ2 := by
    intro b hd hb
    simp only [μ2]
    split
    · rename_i hc; rw [(hfree b hc.1 hc.2).1] at hb; cases hb
    · exact hb
  have hren : ∀ b, b < h'.length → ∀ hd, μ' b = some hd → μ2 (piOf bs f b) = some hd := by
    intro b hb hd e
    by_cases hbk : b < h.length
    · obtain ⟨b0, x0, hd0, e1, e2, e3, e4, e5, e6⟩ := hbs b hbk
      have : μ' b = some hd0 := r3 b hd0 (by rw [hμc b hbk, e3]; exact e5)
      rw [this] at e; cases e
      rw [e3]; exact hμ2 _ _ e5
    · have e1 : piOf bs f b = f + (b - h.length) := by unfold piOf; rw [if_neg (by omega), hl]
      rw [e1]
      simp only [μ2]
      rw [if_pos (by omega)]
      have : h.length + (f + (b - h.length) - f) = b := by omega
      rw [this]; exact e
  have hSame : Same A w w' := by
    intro b hb
    refine r4.block b (H.lt b hb) fun ho => ?_
    obtain ⟨b0, x, hd, _, g1, g2, g3, g4⟩ := hown b ho
    obtain ⟨hd', g5, _, g6⟩ := H.blk _ _ g1
    rw [g2] at g5; cases g5
    exact (g6 g3).1 (g4 ▸ hb)
  have hpi2 : ∀ i j, i < h'.length → j < h'.length → piOf bs f i = piOf bs f j → i = j := by
    intro i j hi hj e
    by_cases hik : i < h.length
    · by_cases hjk : j < h.length
      · exact hpi i j hik hjk e
      · exfalso
        obtain ⟨b0, x0, hd0, e1, e2, e3, e4, e5, e6⟩ := hbs i hik
        have e1 : piOf bs f j = f + (j - h.length) := by unfold piOf; rw [if_neg (by omega), hl]
        rw [e3, e1] at e
        have := (hfree b0 (by omega) (by omega)).1
        rw [this] at e5; cases e5
    · by_cases hjk : j < h.length
      · exfalso
        obtain ⟨b0, x0, hd0, e1, e2, e3, e4, e5, e6⟩ := hbs j hjk
        have e1 : piOf bs f i = f + (i - h.length) := by unfold piOf; rw [if_neg (by omega), hl]
        rw [e3, e1] at e
        have := (hfree b0 (by omega) (by omega)).1
        rw [this] at e5; cases e5
      · unfold piOf at e
        rw [if_neg (by omega), if_neg (by omega)] at e
        omega
  have heff : ∀ b, (∃ i, i < h'.length ∧ piOf bs f i = b ∧ handEff bs f h' b = some ((h'.getD i none).map (Blk.ren (piOf bs f)))) ∨ ((∀ i, i < h'.length → piOf bs f i ≠ b) ∧ handEff bs f h' b = none) := by
    intro b
    obtain ⟨s1, s2⟩ := effL_spec bs f (fun x => x.map (Blk.ren (piOf bs f))) h' 0 b (fun i j _ h2 _ h4 => hpi2 i j (by omega) (by omega))
    by_cases hex : ∃ i, i < h'.length ∧ piOf bs f i = b
    · obtain ⟨i, hi, hb⟩ := hex
      exact .inl ⟨i, hi, hb, by simpa [handEff] using s1 i (by omega) (by omega) hb⟩
    · have hn : ∀ i, i < h'.length → piOf bs f i ≠ b := fun i hi hb => hex ⟨i, hi, hb⟩
      exact .inr ⟨hn, by simpa [handEff] using s2 fun i _ hi => hn i (by omega)⟩
  have hblk2 : ∀ b x, hpEff (handEff bs f h') hp' b = some x → (∃ i y, i < h'.length ∧ piOf bs f i = b ∧ h'[i]? = some (some y) ∧ x = y.ren (piOf bs f)) ∨ ((∀ i, i < h'.length → piOf bs f i ≠ b) ∧ hp' b = some x) := by
    intro b x hx
    rcases heff b with ⟨i, hi, hb, he⟩ | ⟨hn, he⟩
    · left
      simp only [hpEff, he] at hx
      cases hy : h'.getD i none with
      | none => rw [hy] at hx; simp at hx
      | some y =>
        rw [hy] at hx; simp at hx
        refine ⟨i, y, hi, hb, ?_, hx.symm⟩
        have : h'[i]? = some h'[i] := List.getElem?_eq_getElem hi
        simp [List.getD, this] at hy
        rw [this, hy]
    · right
      simp only [hpEff, he] at hx
      exact ⟨hn, hx⟩
  have hold : ∀ b x hd, (∀ i, i < h'.length → piOf bs f i ≠ b) → hp' b = some x → μ b = some hd → hd.emp = none → w'.heap[hd.blk]? = w.heap[hd.blk]? ∧ ¬ ownOf μc (hpOf (h.map some)) hd.blk := by
    intro b x hd hn hx hm he
    obtain ⟨hd', g5, _, g6⟩ := H.blk _ _ hx
    rw [hm] at g5; cases g5
    have hno : ¬ ownOf μc (hpOf (h.map some)) hd.blk := by
      intro ho
      obtain ⟨b0, x0, hd0, k1, k2, k3, k4, k5⟩ := hown _ ho
      have := H.inj _ _ _ _ _ _ k2 hx k3 hm k4 he k5
      subst this
      obtain ⟨i, hi⟩ := List.mem_iff_getElem?.1 k1
      have hib : i < bs.length := (List.getElem?_eq_some_iff.1 hi).1
      refine hn i (by omega) ?_
      unfold piOf; rw [if_pos hib]; simp [List.getD, hi]
    exact ⟨r4.block _ (g6 he).2.1 hno, hno⟩
  refine ⟨v, A', μ2, rfl, ?_, RV.doren hren hr r1⟩
  refine ⟨fun t => (H.tm t).mono hSame r5 _ hμ2, H.n, H.df, ?_, ?_, r2.lt, ?_, ?_, fun b hb => r5 b (H.A0 b hb), ?_, H.mu.trans hμ2⟩
  · intro b x hx
    rcases hblk2 b x hx with ⟨i, y, hi, hb, hy, rfl⟩ | ⟨hn, hx⟩
    · obtain ⟨hd, g1, g2, g3⟩ := r2.blk i y (hpOf_opt.2 hy)
      refine ⟨hd, by rw [← hb]; exact hren i hi hd g1, g2.doren hren (hb' y (List.mem_of_getElem? hy)), fun he => ⟨(g3 he).1, (g3 he).2, ?_⟩⟩
      rcases r7 hd.blk ⟨i, y, hd, hpOf_opt.2 hy, g1, he, rfl⟩ with ho | ho
      · obtain ⟨b0, x0, hd0, k1, k2, k3, k4, k5⟩ := hown _ ho
        obtain ⟨hd', q5, _, q6⟩ := H.blk _ _ k2
        rw [k3] at q5; cases q5
        rw [← k5]; exact (q6 k4).2.2
      · exact .inr (Nat.le_trans H.keep.size ho)
    · obtain ⟨hd, g1, g2, g3⟩ := H.blk b x hx
      refine ⟨hd, hμ2 _ _ g1, g2.mono hSame r5 hμ2 (fun he => (hold b x hd hn hx g1 he).1), fun he => ⟨fun hA' => ?_, Nat.lt_of_lt_of_le (g3 he).2.1 r4.size, (g3 he).2.2⟩⟩
      rcases r6 _ hA' with hq | hq | hq
      · exact (g3 he).1 hq
      · exact (hold b x hd hn hx g1 he).2 hq
      · have := (g3 he).2.1; omega
  · intro b b' x x' hd hd' hx hx' hm hm' he he' heq
    rcases hblk2 b x hx with ⟨i, y, hi, hb, hy, rfl⟩ | ⟨hn, hx1⟩
    · obtain ⟨hd1, g1, g2, g3⟩ := r2.blk i y (hpOf_opt.2 hy)
      have e1 := hren i hi hd1 g1
      rw [hb, hm] at e1; cases e1
      rcases hblk2 b' x' hx' with ⟨i', y', hi', hb1, hy', rfl⟩ | ⟨hn', hx1'⟩
      · obtain ⟨hd2, k1, k2, k3⟩ := r2.blk i' y' (hpOf_opt.2 hy')
        have e2 := hren i' hi' hd2 k1
        rw [hb1, hm'] at e2; cases e2
        have := r2.inj i i' y y' _ _ (hpOf_opt.2 hy) (hpOf_opt.2 hy') g1 k1 he he' heq
        subst this
        rw [← hb, ← hb1]
      · exfalso
        obtain ⟨hd2, k1, k2, k3⟩ := H.blk b' x' hx1'
        have := hμ2 _ _ k1
        rw [hm'] at this; cases this
        rcases r7 hd.blk ⟨i, y, hd, hpOf_opt.2 hy, g1, he, rfl⟩ with ho | ho
        · exact (hold b' x' _ hn' hx1' k1 he').2 (heq ▸ ho)
        · have := (k3 he').2.1; omega
    · obtain ⟨hd1, g1, g2, g3⟩ := H.blk b x hx1
      have e1 := hμ2 _ _ g1
      rw [hm] at e1; cases e1
      rcases hblk2 b' x' hx' with ⟨i', y', hi', hb1, hy', rfl⟩ | ⟨hn', hx1'⟩
      · exfalso
        obtain ⟨hd2, k1, k2, k3⟩ := r2.blk i' y' (hpOf_opt.2 hy')
        have e2 := hren i' hi' hd2 k1
        rw [hb1, hm'] at e2; cases e2
        rcases r7 _ ⟨i', y', _, hpOf_opt.2 hy', k1, he', rfl⟩ with ho | ho
        · exact (hold b x _ hn hx1 g1 he).2 (heq ▸ ho)
        · have := (g3 he).2.1; omega
      · obtain ⟨hd2, k1, k2, k3⟩ := H.blk b' x' hx1'
        have e2 := hμ2 _ _ k1
        rw [hm'] at e2; cases e2
        exact H.inj _ _ _ _ _ _ hx1 hx1' g1 k1 he he' heq
  · rintro b ⟨hb1, hb2⟩
    obtain ⟨q1, q2⟩ := H.fr b hb1
    refine ⟨by simp only [μ2]; rw [if_neg hb2]; exact q1, ?_⟩
    cases hx : hpEff (handEff bs f h') hp' b with
    | none => rfl
    | some x =>
      rcases hblk2 b x hx with ⟨i, y, hi, hb, hy, rfl⟩ | ⟨hn, hx1⟩
      · exfalso
        by_cases hik : i < h.length
        · obtain ⟨b0, x0, hd0, e1, e2, e3, e4, e5, e6⟩ := hbs i hik
          rw [← e3, hb, q1] at e5; cases e5
        · have e1 : piOf bs f i = f + (i - h.length) := by unfold piOf; rw [if_neg (by omega), hl]
          rw [e1] at hb; omega
      · rw [q2] at hx1; cases hx1
  · refine ⟨r4.os.trans H.keep.os, r4.tape.trans H.keep.tape, r4.output.trans H.keep.output, Nat.le_trans H.keep.size r4.size, fun k hk hno => ?_⟩
    rw [← H.keep.block k hk hno]
    refine r4.block k (Nat.lt_of_lt_of_le hk H.keep.size) fun ho => ?_
    obtain ⟨b0, x0, hd0, k1, k2, k3, k4, k5⟩ := hown _ ho
    obtain ⟨hd', q5, _, q6⟩ := H.blk _ _ k2
    rw [k3] at q5; cases q5
    rcases (q6 k4).2.2 with g | g
    · exact hno (k5 ▸ g)
    · omega
  · intro b hb
    rcases r6 b hb with hq | hq | hq
    · exact H.A1 b hq
    · obtain ⟨b0, x0, hd0, k1, k2, k3, k4, k5⟩ := hown _ hq
      obtain ⟨hd', q5, _, q6⟩ := H.blk _ _ k2
      rw [k3] at q5; cases q5
      rw [← k5]
      exact .inr (q6 k4).2.2
    · exact .inr (.inr (Nat.le_trans H.keep.size hq))
end Go.Am
