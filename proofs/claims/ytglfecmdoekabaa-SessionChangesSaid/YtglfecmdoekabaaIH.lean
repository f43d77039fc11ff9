/- Contract of slices.Insert of one element, at Heard. -/
import Derived.Test.YtglfecmdoekabaaG8
import Derived.KernelRfl
namespace Go.Proofs.Ytglfecmdoekabaa
open Go Go.Am
set_option linter.unusedVariables false
set_option linter.unusedSimpArgs false
theorem fin_weak {k n : Nat} {res : List AR} {r : AV} {h' : List (Option Blk)} {s s1 : S3} (hw : Weak k n s s1) (h : fin k n res r h' .ret s1) : fin k n res r h' .ret s := by
  obtain ⟨s', g1, g2⟩ := h
  exact ⟨s', hw.trans g1, g2⟩
theorem pureL_append {xs ys : List AV} (h : pureL xs) (h' : pureL ys) : pureL (xs ++ ys) := by
  rw [pureL_iff] at *
  intro x hx
  rcases List.mem_append.mp hx with hx | hx
  · exact h x hx
  · exact h' x hx
theorem pureL_take {xs : List AV} (h : pureL xs) (n : Nat) : pureL (xs.take n) := by
  rw [pureL_iff] at *; exact fun x hx => h x (List.mem_of_mem_take hx)
theorem pureL_drop {xs : List AV} (h : pureL xs) (n : Nat) : pureL (xs.drop n) := by
  rw [pureL_iff] at *; exact fun x hx => h x (List.mem_of_mem_drop hx)
theorem pureL_insAt {es : List AV} {x : AV} (h : pureL es) (hx : x.pure) (i : Nat) : pureL (insAt es i x) := pureL_append (pureL_append (pureL_take h i) ⟨hx, trivial⟩) (pureL_drop h i)
theorem vec_ren {k m : Nat} {es : List AV} {π : Nat → Nat} (h : pureL es) : (Blk.vec k es).ren π = .vec k es ∧ (Blk.vec k es).bel m := ⟨by rw [Blk.ren, renL_pure _ h], belL_pure h⟩
theorem BlkOk.mapSub {w : World} {A : Nat → Prop} {μ : Mu} {hd : Hd} {k : Nat} {es : List AV} {f : AV → AV} (h : ∀ x, Sub x (f x)) (hy : ∀ x ∈ es.map f, x.solid = true) (q : BlkOk w A μ hd (.vec k es)) : BlkOk w A μ hd (.vec k (es.map f)) := by
  obtain ⟨q2, q3⟩ := q
  refine ⟨q2, ?_⟩
  rcases q3 with ⟨rfl, q⟩ | ⟨a1, a2, a3, a4, C, ty, vs, a5, a6, a7, a8⟩
  · exact .inl ⟨rfl, q⟩
  · exact .inr ⟨a1, by rw [List.length_map]; exact a2, a3, a4, C, ty, vs, a5, RVL.mapSub h a6, hy, a8⟩
theorem HSpec.subH {P : Program} {f : FuncId} {args : List AV} {hs1 hs2 : List Blk} {r : AV} {h' : List (Option Blk)} (hl : hs1.length = hs2.length)
    (hsub : ∀ (i : Nat) x y, hs1[i]? = some x → hs2[i]? = some y → ∀ w A μ hd, BlkOk w A μ hd x → BlkOk w A μ hd y) (h : HSpec P f args hs2 r h') : HSpec P f args hs1 r h' := by
  intro w A μ cargs g1 g2 g3
  have to : ∀ b x, hpOf (hs2.map some) b = some x → ∃ y, hpOf (hs1.map some) b = some y ∧ ∀ hd, BlkOk w A μ hd y → BlkOk w A μ hd x := by
    intro b x hx
    rw [hpOf_some] at hx
    have hb := lt_of_get hx
    exact ⟨hs1[b], hpOf_some.mpr (List.getElem?_eq_getElem (by omega)), fun hd q => hsub b _ x (List.getElem?_eq_getElem (by omega)) hx w A μ hd q⟩
  have own' : ownOf μ (hpOf (hs2.map some)) = ownOf μ (hpOf (hs1.map some)) := by
    funext b
    refine propext ⟨?_, ?_⟩
    · rintro ⟨i, x, hd', a1, a2, a3, a4⟩
      obtain ⟨y, b1, _⟩ := to i x a1
      exact ⟨i, y, hd', b1, a2, a3, a4⟩
    · rintro ⟨i, x, hd', a1, a2, a3, a4⟩
      rw [hpOf_some] at a1
      have hi := lt_of_get a1
      exact ⟨i, hs2[i], hd', hpOf_some.mpr (List.getElem?_eq_getElem (by omega)), a2, a3, a4⟩
  have := h w A μ cargs ⟨fun b x hx => ?_, fun b b' x x' hd1 hd2 hx hx' => ?_, g1.lt⟩ (by rw [← hl]; exact g2) g3
  · rw [own'] at this; exact this
  · obtain ⟨y, b1, b2⟩ := to b x hx
    obtain ⟨hd', c1, c2, c3⟩ := g1.blk b y b1
    exact ⟨hd', c1, b2 hd' c2, c3⟩
  · obtain ⟨y, b1, _⟩ := to b x hx
    obtain ⟨y', b1', _⟩ := to b' x' hx'
    exact g1.inj b b' y y' hd1 hd2 b1 b1'
theorem insAt_map {α β : Type} (f : α → β) (l : List α) (i : Nat) (x : α) : insAt (l.map f) i (f x) = (insAt l i x).map f := by
  simp [insAt]
end Go.Proofs.Ytglfecmdoekabaa
