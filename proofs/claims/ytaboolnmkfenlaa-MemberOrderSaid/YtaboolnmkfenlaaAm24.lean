/- The walk over compact code: calls that are lent one block, calls that make one. -/
import Derived.Test.YtaboolnmkfenlaaAm23
namespace Go.Am
set_option linter.unusedVariables false
set_option linter.unusedSimpArgs false

mutual
theorem AV.bel_pure {k : Nat} : ∀ {x : AV}, x.pure → x.bel k
  | .agg cs, h => belL_pure (xs := cs) h
  | .tup xs, h => belL_pure (xs := xs) h
  | .func f caps, h => belL_pure (xs := caps) h
  | .ref _ _, h => h.elim
  | .eref _ _ _, h => h.elim
  | .vec _, h => h.elim
  | .vsub _ _ _, h => h.elim
  | .asub _ _ _ _, h => h.elim
  | .val _, _ => trivial
  | .rptr _ _, _ => trivial
  | .sl _ _ _, _ => trivial
  | .unk, _ => trivial
theorem belL_pure {k : Nat} : ∀ {xs : List AV}, pureL xs → belL k xs
  | [], _ => trivial
  | x :: xs, h => ⟨AV.bel_pure h.1, belL_pure h.2⟩
end

def Blk.ok : Blk → Prop
  | .box x => x.ok
  | .vec _ es => es.length ≤ maxLen ∧ okL es
  | .row _ es len cap => es.length ≤ len ∧ len ≤ cap ∧ cap ≤ maxLen ∧ okL es
theorem BlkOk.ok {w : World} {A : Nat → Prop} {μ : Mu} {hd : Hd} {x : Blk} (h : BlkOk w A μ hd x) : x.ok := by
  cases x with
  | box x => obtain ⟨_, _, v, ty, h1, _⟩ := h; exact RV.ok h1
  | vec k es =>
    obtain ⟨_, h | ⟨h1, h2, h3, h4, C, ty, vs, h5, h6, _⟩⟩ := h
    · obtain ⟨rfl, _⟩ := h; exact ⟨Nat.zero_le _, trivial⟩
    · exact ⟨by omega, RVL.ok h6⟩
  | row k es len cap =>
    obtain ⟨_, _, _, _, h1, h2, h3, C, ty, vs, _, h6, _⟩ := h
    exact ⟨h1, h2, h3, RVL.ok h6⟩
theorem HSpec.of_okh {P : Program} {f : FuncId} {args : List AV} {hb : List Blk} {r : AV} {h' : List (Option Blk)} (h : okL args → (∀ x ∈ hb, x.ok) → HSpec P f args hb r h') : HSpec P f args hb r h' := by
  intro w A μ cargs h1 h2 h3
  refine h (RVL.ok h3) (fun x hx => ?_) w A μ cargs h1 h2 h3
  obtain ⟨i, hi, e⟩ := List.mem_iff_getElem.mp hx
  obtain ⟨hd, _, g, _⟩ := h1.blk i x (hpOf_some.mpr (by rw [List.getElem?_eq_getElem hi, e]))
  exact g.ok

section
variable {P : Program} {k n : Nat} {tm : Nat → AV} {hp : Hp} {fid : FuncId}

theorem CallOk.own {args : List AV} {x x' r : AV} {b f off : Nat} (hs : HSpec P fid (.ref 0 off :: args) [.box x] r [some (.box x')]) (hf : FnOk P fid) (h1 : pureL args) (h2 : x.pure) (h3 : x'.pure) (h4 : r.pure)
    (hb : hp b = some (.box x)) : CallOk P n fid (.ref b off :: args) f hp [b] r (effL [(b, some (.box x'))]) := by
  have key := CallOk.hand (n := n) (f := f) (hp := hp) hf hs [b] rfl (by simp) ⟨Nat.zero_lt_one, belL_pure h1⟩ (fun i c y e1 e2 => by
    cases i with
    | succ i => simp at e1
    | zero =>
      simp at e1 e2
      subst e1; subst e2
      exact ⟨AV.bel_pure h2, by rw [hb]; simp only [Blk.ren, AV.ren_pure _ h2]⟩) (Nat.le_refl _) (by simp) (AV.bel_pure h4) (fun y hy => by simp at hy; subst hy; exact AV.bel_pure h3)
  have e1 : piOf [b] f 0 = b := by simp [piOf]
  rw [renL, renL_pure _ h1, AV.ren_pure _ h4, AV.ren, e1] at key
  have e2 : handEff [b] f [some (Blk.box x')] = effL [(b, some (.box x'))] := by
    simp [handEff, List.zipIdx, e1, Blk.ren, AV.ren_pure _ h3]
  rwa [e2] at key
theorem CallOk.new {args : List AV} {x : AV} {f : Nat} (hs : HSpec P fid args [] (.ref 0 0) [some (.box x)]) (hf : FnOk P fid) (h1 : pureL args) (h2 : x.pure) :
    CallOk P n fid args f hp [] (.ref f 0) (effL [(f, some (.box x))]) := by
  have key := CallOk.hand (n := n) (f := f) (hp := hp) hf hs [] rfl (by simp) (belL_pure h1) (fun i c y e1 e2 => by simp at e1) (by simp) (by simp) (show (0 : Nat) < 1 by omega) (fun y hy => by simp at hy; subst hy; exact AV.bel_pure h2)
  have e1 : piOf [] f 0 = f := by simp [piOf]
  rw [renL_pure _ h1, AV.ren, e1] at key
  have e2 : handEff [] f [some (Blk.box x)] = effL [(f, some (.box x))] := by
    simp [handEff, List.zipIdx, e1, Blk.ren, AV.ren_pure _ h2]
  rwa [e2] at key
theorem hpEff_one (b : Nat) (x : Option Blk) (hp : Hp) : hpEff (effL [(b, x)]) hp = upd hp b x := by rw [hpEff_cons, hpEff_nil]
theorem effL_one {b c : Nat} {x : Option Blk} (h : effL [(b, x)] c ≠ none) : c ∈ [b] := by
  by_cases e : c = b
  · simp [e]
  · exact absurd (by simp [effL, e, noEff]) h

theorem evT_own {d : Option Nat} {g : AO} {xs : List AO} {os : List AOper} {f : Nat} {K : S2 → Nat → Prop} {args : List AV} {x x' r : AV} {b off : Nat} (hs : HSpec P fid (.ref 0 off :: args) [.box x] r [some (.box x')]) (hf : FnOk P fid)
    (h1 : pureL args) (h2 : x.pure) (h3 : x'.pure) (h4 : r.pure) (hg : evO tm g = .func fid []) (hx : xs.map (evO tm) = .ref b off :: args) (hb : hp b = some (.box x))
    (hK : evT P n os (f + 16) ⟨putD d r tm, upd hp b (some (.box x'))⟩ K) : evT P n (⟨d, .call g xs, none⟩ :: os) f ⟨tm, hp⟩ K :=
  evT_call hg (by simpa using hx) (CallOk.own hs hf h1 h2 h3 h4 hb) (by rw [hpEff_one]; exact hK)
theorem evT_new {d : Option Nat} {g : AO} {xs : List AO} {os : List AOper} {f : Nat} {K : S2 → Nat → Prop} {args : List AV} {x : AV} (hs : HSpec P fid args [] (.ref 0 0) [some (.box x)]) (hf : FnOk P fid)
    (h1 : pureL args) (h2 : x.pure) (hg : evO tm g = .func fid []) (hx : xs.map (evO tm) = args)
    (hK : evT P n os (f + 16) ⟨putD d (.ref f 0) tm, upd hp f (some (.box x))⟩ K) : evT P n (⟨d, .call g xs, none⟩ :: os) f ⟨tm, hp⟩ K :=
  evT_call hg (by simpa using hx) (CallOk.new hs hf h1 h2) (by rw [hpEff_one]; exact hK)
theorem evD_own {d : Option Nat} {g : AO} {xs : List AO} {os : List AOper} {f : Nat} {lg : Log} {K : S2 → Nat → Log → Prop} {args : List AV} {x x' r : AV} {b off : Nat} (hs : HSpec P fid (.ref 0 off :: args) [.box x] r [some (.box x')]) (hf : FnOk P fid)
    (h1 : pureL args) (h2 : x.pure) (h3 : x'.pure) (h4 : r.pure) (hg : evO tm g = .func fid []) (hx : xs.map (evO tm) = .ref b off :: args) (hb : hp b = some (.box x))
    (hK : evD P n os (f + 16) ⟨putD d r tm, upd hp b (some (.box x'))⟩ (lg ++ [([b], [b])]) K) : evD P n (⟨d, .call g xs, none⟩ :: os) f ⟨tm, hp⟩ lg K :=
  evD_call [b] hg (by simpa using hx) (CallOk.own hs hf h1 h2 h3 h4 hb) (fun _ h => effL_one h) (by rw [hpEff_one]; exact hK)
theorem evD_new {d : Option Nat} {g : AO} {xs : List AO} {os : List AOper} {f : Nat} {lg : Log} {K : S2 → Nat → Log → Prop} {args : List AV} {x : AV} (hs : HSpec P fid args [] (.ref 0 0) [some (.box x)]) (hf : FnOk P fid)
    (h1 : pureL args) (h2 : x.pure) (hg : evO tm g = .func fid []) (hx : xs.map (evO tm) = args)
    (hK : evD P n os (f + 16) ⟨putD d (.ref f 0) tm, upd hp f (some (.box x))⟩ (lg ++ [([], [f])]) K) : evD P n (⟨d, .call g xs, none⟩ :: os) f ⟨tm, hp⟩ lg K :=
  evD_call [f] hg (by simpa using hx) (CallOk.new hs hf h1 h2) (fun _ h => effL_one h) (by rw [hpEff_one]; exact hK)
end
end Go.Am
