/- A beginning of a vec that is given up; a call that takes a vec for good. -/
import Derived.Test.YtglfecmdoekabaaAmB
namespace Go.Am
set_option linter.unusedVariables false
set_option linter.unusedSimpArgs false
theorem Give.vsub {b kk m : Nat} {hp : Hp} {es : List AV} (h : hp b = some (.vec kk es)) (hx : pureL es) (hm : m ≤ es.length) : Give b hp (.vsub b 0 m) (.sl kk (es.take m) false) := by
  intro P c A μ fr tm' n a w cv H hv
  obtain ⟨hd, cap, o, e1, e0, e2, e3, e4, rfl⟩ := hv
  obtain ⟨hd', f1, f2, f3⟩ := H.vec h
  rw [e1] at f1; cases f1
  rcases f3 with ⟨rfl, a', f3⟩ | ⟨g1, g2, g4, g5, C, ty, vs, k1, k2, k3, k4, k5, k6, k7⟩
  · rw [e0] at f3; cases f3
  have hlen : vs.length = es.length := k2.length.symm
  have ho : o = 0 ∨ cap = 0 := by
    by_cases hc : 0 < cap
    · left; have := e3 hc; omega
    · right; omega
  by_cases h0 : cap = 0
  · subst h0
    have : m = 0 := by omega
    subst this
    exact .inl ⟨by simp, _, rfl⟩
  have ho : o = 0 := by omega
  subst ho
  refine .inr ⟨hd.blk, 0, cap, vs.take m, ?_, .inr ⟨hd, e1, g1, rfl⟩, ?_, by omega, (fun h => by cases h), ?_, fun v hv => ⟨k4 v (List.mem_of_mem_take hv), ?_⟩, fun p u hu => ?_, fun x hx => k3 x (List.mem_of_mem_take hx)⟩
  · rw [List.length_take, Nat.min_eq_left hm]
  · rw [List.length_take, Nat.min_eq_left hm]; exact e2
  · refine RVL.of_get (by simp [hlen]) fun i x v hxi hvi => ?_
    have hi : i < m := by
      have := (List.getElem?_eq_some_iff.mp hxi).1
      simp at this; omega
    rw [List.getElem?_take_of_lt hi] at hxi hvi
    have key : RVL w (fun k => A k ∨ ∃ hd, μ b = some hd ∧ hd.emp = none ∧ hd.blk = k) es noMu vs := RVL.pure hx (RVL.mono (Same.refl A w) (fun b hb => Or.inl hb) es (MuLe.refl _) k2)
    exact RVL.get2 key hxi hvi
  · obtain ⟨i, hi⟩ := List.mem_iff_getElem?.1 hv
    have hi2 : i < m := by
      have := (List.getElem?_eq_some_iff.mp hi).1
      simp at this; omega
    rw [List.getElem?_take_of_lt hi2] at hi
    have hlt : i < es.length := by rw [k2.length]; exact (List.getElem?_eq_some_iff.1 hi).1
    exact (RV.cells (k3 _ (List.getElem_mem hlt)) (k2.get2 (List.getElem?_eq_getElem hlt) hi)).2
  · rw [flat_take k4] at hu
    have hp2 : p < m * kk := by
      have := (List.getElem?_eq_some_iff.mp hu).1
      simp at this; omega
    rw [List.getElem?_take_of_lt hp2] at hu
    rw [Nat.zero_add]; exact k7 p u hu
section
variable {P : Program} {k n : Nat} {tm : Nat → AV} {hp : Hp} {nx : Nat} {fid : FuncId}
theorem Weak.giveS {kk m : Nat} {es : List AV} (t b : Nat) (ht : tm t = .vsub b 0 m) (hb : hp b = some (.vec kk es)) (hx : pureL es) (hm : m ≤ es.length) : Weak k n ⟨tm, hp, nx⟩ ⟨upd tm t (.sl kk (es.take m) false), upd hp b none, nx⟩ := by
  refine Weak.give b rfl (fun u => .inr ?_) (fun b' x hx' => ?_) (by show hp b ≠ none; rw [hb]; simp)
  · show Give b hp (tm u) (upd tm t (.sl kk (es.take m) false) u)
    by_cases e : u = t
    · subst e; rw [upd_same, ht]; exact Give.vsub hb hx hm
    · rw [upd_ne _ _ e]; exact Give.refl
  · have hx' : upd hp b none b' = some x := hx'
    by_cases e : b' = b
    · subst e; rw [upd_same] at hx'; cases hx'
    · rw [upd_ne _ _ e] at hx'; exact ⟨e, .inl hx'⟩
theorem CallOk.take {es args : List AV} {r : AV} {kk b f : Nat} (hs : HSpec P fid (.vec 0 :: args) [.vec kk es] r [none]) (hf : FnOk P fid)
    (h0 : pureL args) (h1 : pureL es) (h2 : r.pure) (hb : hp b = some (.vec kk es)) : CallOk P n fid (.vec b :: args) f hp [b] r (effL [(b, none)]) := by
  have key := CallOk.hand (n := n) (f := f) (hp := hp) hf hs [b] rfl (by simp) ⟨show (0 : Nat) < 1 by omega, belL_pure h0⟩ (fun i b' x e1 e2 => by
    match i with
    | 0 => simp at e1 e2; subst e1; subst e2; exact ⟨belL_pure h1, by rw [hb]; simp only [Blk.ren, renL_pure _ h1]⟩
    | i + 1 => simp at e1) (by simp) (by simp) (AV.bel_pure h2) (fun y hy => by simp at hy)
  have e0 : piOf [b] f 0 = b := by simp [piOf]
  have e3 : handEff [b] f [none] = effL [(b, none)] := by simp [handEff, List.zipIdx, e0]
  rw [e3] at key
  simpa only [renL, renL_pure _ h0, AV.ren, AV.ren_pure _ h2, e0] using key
theorem evT_take {d : Option Nat} {g : AO} {xs : List AO} {os : List AOper} {f : Nat} {K : S2 → Nat → Prop} {es args : List AV} {r : AV} {kk b : Nat}
    (hs : HSpec P fid (.vec 0 :: args) [.vec kk es] r [none]) (hf : FnOk P fid) (h0 : pureL args) (h1 : pureL es) (h2 : r.pure) (hg : evO tm g = .func fid [])
    (hx : xs.map (evO tm) = .vec b :: args) (hb : hp b = some (.vec kk es)) (hK : evT P n os (f + 16) ⟨putD d r tm, upd hp b none⟩ K) : evT P n (⟨d, .call g xs, none⟩ :: os) f ⟨tm, hp⟩ K :=
  evT_call hg (by simpa using hx) (CallOk.take hs hf h0 h1 h2 hb) (by rw [hpEff_one]; exact hK)
end
end Go.Am
