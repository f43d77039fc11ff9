/- Calls: closures over values, blocks lent, functions that make a vec, that insert, that delete. -/
import Derived.Test.YtaboolnmkfenlaaAm30
namespace Go.Am
set_option linter.unusedVariables false
set_option linter.unusedSimpArgs false
section
variable {P : Program} {k n : Nat} {tm : Nat → AV} {hp : Hp} {nx : Nat} {fid : FuncId}

theorem Weak.giveR {x : AV} (t b off : Nat) (ht : tm t = .ref b off) (hb : hp b = some (.box x)) (hx : x.pure) : Weak k n ⟨tm, hp, nx⟩ ⟨upd tm t (.rptr x off), upd hp b none, nx⟩ := by
  refine Weak.give b rfl (fun u => .inr ?_) (fun b' x hx' => ?_) (by show hp b ≠ none; rw [hb]; simp)
  · show Give b hp (tm u) (upd tm t (.rptr x off) u)
    by_cases e : u = t
    · subst e; rw [upd_same, ht]; exact Give.ref hb hx
    · rw [upd_ne _ _ e]; exact Give.refl
  · have hx' : upd hp b none b' = some x := hx'
    by_cases e : b' = b
    · subst e; rw [upd_same] at hx'; cases hx'
    · rw [upd_ne _ _ e] at hx'; exact ⟨e, .inl hx'⟩

theorem evT_pureC {d : Option Nat} {g : AO} {xs : List AO} {os : List AOper} {f : Nat} {K : S2 → Nat → Prop} {caps args : List AV} {v : AV}
    (hs : PSpec P fid args v) (hf : FnOk P fid) (hg : evO tm g = .func fid caps) (hx : xs.map (evO tm) ++ caps = args) (hp1 : pureL args) (hK : evT P n os (f + 16) ⟨putD d v tm, hp⟩ K) :
    evT P n (⟨d, .call g xs, none⟩ :: os) f ⟨tm, hp⟩ K :=
  evT_call hg hx (CallOk.pure hf hs hp1) (by rw [hpEff_no]; exact hK)
theorem evT_lend {d : Option Nat} {g : AO} {xs : List AO} {os : List AOper} {f : Nat} {K : S2 → Nat → Prop} {caps args args' : List AV} {v : AV} (foot : List Nat)
    (hs : PSpec P fid args' v) (hf : FnOk P fid) (hg : evO tm g = .func fid caps) (hx : xs.map (evO tm) ++ caps = args) (hv : ViewL foot hp args args') (hr : v.flat) (hK : evT P n os (f + 16) ⟨putD d v tm, hp⟩ K) :
    evT P n (⟨d, .call g xs, none⟩ :: os) f ⟨tm, hp⟩ K :=
  evT_call hg hx (CallOk.lend hf hs hv hr) (by rw [hpEff_no]; exact hK)
theorem evD_pureC {d : Option Nat} {g : AO} {xs : List AO} {os : List AOper} {f : Nat} {lg : Log} {K : S2 → Nat → Log → Prop} {caps args : List AV} {v : AV}
    (hs : PSpec P fid args v) (hf : FnOk P fid) (hg : evO tm g = .func fid caps) (hx : xs.map (evO tm) ++ caps = args) (hp1 : pureL args) (hK : evD P n os (f + 16) ⟨putD d v tm, hp⟩ (lg ++ [([], [])]) K) :
    evD P n (⟨d, .call g xs, none⟩ :: os) f ⟨tm, hp⟩ lg K :=
  evD_call [] hg hx (CallOk.pure hf hs hp1) (fun _ h => absurd rfl h) (by rw [hpEff_no]; exact hK)
theorem evD_lend {d : Option Nat} {g : AO} {xs : List AO} {os : List AOper} {f : Nat} {lg : Log} {K : S2 → Nat → Log → Prop} {caps args args' : List AV} {v : AV} (foot : List Nat)
    (hs : PSpec P fid args' v) (hf : FnOk P fid) (hg : evO tm g = .func fid caps) (hx : xs.map (evO tm) ++ caps = args) (hv : ViewL foot hp args args') (hr : v.flat) (hK : evD P n os (f + 16) ⟨putD d v tm, hp⟩ (lg ++ [(foot, [])]) K) :
    evD P n (⟨d, .call g xs, none⟩ :: os) f ⟨tm, hp⟩ lg K :=
  evD_call [] hg hx (CallOk.lend hf hs hv hr) (fun _ h => absurd rfl h) (by rw [hpEff_no]; exact hK)

theorem CallOk.newV {args : List AV} {es : List AV} {kk f : Nat} (hs : HSpec P fid args [] (.vec 0) [some (.vec kk es)]) (hf : FnOk P fid) (h1 : pureL args) (h2 : pureL es) :
    CallOk P n fid args f hp [] (.vec f) (effL [(f, some (.vec kk es))]) := by
  have key := CallOk.hand (n := n) (f := f) (hp := hp) hf hs [] rfl (by simp) (belL_pure h1) (fun i c y e1 e2 => by simp at e1) (by simp) (by simp) (show (0 : Nat) < 1 by omega) (fun y hy => by simp at hy; subst hy; exact belL_pure h2)
  have e1 : piOf [] f 0 = f := by simp [piOf]
  rw [renL_pure _ h1, AV.ren, e1] at key
  have e2 : handEff [] f [some (Blk.vec kk es)] = effL [(f, some (.vec kk es))] := by
    simp [handEff, List.zipIdx, e1, Blk.ren, renL_pure _ h2]
  rwa [e2] at key
theorem evT_newV {d : Option Nat} {g : AO} {xs : List AO} {os : List AOper} {f : Nat} {K : S2 → Nat → Prop} {args es caps : List AV} {kk : Nat} (hs : HSpec P fid args [] (.vec 0) [some (.vec kk es)]) (hf : FnOk P fid)
    (h1 : pureL args) (h2 : pureL es) (hg : evO tm g = .func fid caps) (hx : xs.map (evO tm) ++ caps = args) (hK : evT P n os (f + 16) ⟨putD d (.vec f) tm, upd hp f (some (.vec kk es))⟩ K) :
    evT P n (⟨d, .call g xs, none⟩ :: os) f ⟨tm, hp⟩ K :=
  evT_call hg hx (CallOk.newV hs hf h1 h2) (by rw [hpEff_one]; exact hK)
theorem evD_newV {d : Option Nat} {g : AO} {xs : List AO} {os : List AOper} {f : Nat} {lg : Log} {K : S2 → Nat → Log → Prop} {args es caps : List AV} {kk : Nat} (hs : HSpec P fid args [] (.vec 0) [some (.vec kk es)]) (hf : FnOk P fid)
    (h1 : pureL args) (h2 : pureL es) (hg : evO tm g = .func fid caps) (hx : xs.map (evO tm) ++ caps = args) (hK : evD P n os (f + 16) ⟨putD d (.vec f) tm, upd hp f (some (.vec kk es))⟩ (lg ++ [([], [f])]) K) :
    evD P n (⟨d, .call g xs, none⟩ :: os) f ⟨tm, hp⟩ lg K :=
  evD_call [f] hg hx (CallOk.newV hs hf h1 h2) (fun _ h => effL_one h) (by rw [hpEff_one]; exact hK)

theorem CallOk.ins {es1 es2 es : List AV} {i : Int} {k1 k2 kk b1 b2 f : Nat} (hs : HSpec P fid [.vec 0, .int i, .vec 1] [.vec k1 es1, .vec k2 es2] (.vec 2) [none, none, some (.vec kk es)]) (hf : FnOk P fid)
    (h1 : pureL es1) (h2 : pureL es2) (h3 : pureL es) (hb1 : hp b1 = some (.vec k1 es1)) (hb2 : hp b2 = some (.vec k2 es2)) (hne : b1 ≠ b2) :
    CallOk P n fid [.vec b1, .int i, .vec b2] f hp [b1, b2] (.vec f) (effL [(b1, none), (b2, none), (f, some (.vec kk es))]) := by
  have key := CallOk.hand (n := n) (f := f) (hp := hp) hf hs [b1, b2] rfl (by simpa using hne) ⟨show (0 : Nat) < 2 by omega, trivial, show (1 : Nat) < 2 by omega, trivial⟩ (fun i b x e1 e2 => by
    match i with
    | 0 => simp at e1 e2; subst e1; subst e2; exact ⟨belL_pure h1, by rw [hb1]; simp only [Blk.ren, renL_pure _ h1]⟩
    | 1 => simp at e1 e2; subst e1; subst e2; exact ⟨belL_pure h2, by rw [hb2]; simp only [Blk.ren, renL_pure _ h2]⟩
    | i + 2 => simp at e1) (by simp) (by simp) (show (2 : Nat) < 3 by omega) (fun y hy => by simp at hy; subst hy; exact belL_pure h3)
  have e0 : piOf [b1, b2] f 0 = b1 := by simp [piOf]
  have e1 : piOf [b1, b2] f 1 = b2 := by simp [piOf]
  have e2 : piOf [b1, b2] f 2 = f := by simp [piOf]
  have e3 : handEff [b1, b2] f [none, none, some (Blk.vec kk es)] = effL [(b1, none), (b2, none), (f, some (.vec kk es))] := by
    simp [handEff, List.zipIdx, e0, e1, e2, Blk.ren, renL_pure _ h3]
  rw [e3] at key
  simpa only [renL, AV.ren, e0, e1, e2] using key
theorem evD_ins {d : Option Nat} {g : AO} {xs : List AO} {os : List AOper} {f : Nat} {lg : Log} {K : S2 → Nat → Log → Prop} {es1 es2 es : List AV} {i : Int} {k1 k2 kk b1 b2 : Nat}
    (hs : HSpec P fid [.vec 0, .int i, .vec 1] [.vec k1 es1, .vec k2 es2] (.vec 2) [none, none, some (.vec kk es)]) (hf : FnOk P fid) (h1 : pureL es1) (h2 : pureL es2) (h3 : pureL es) (hg : evO tm g = .func fid [])
    (hx : xs.map (evO tm) = [.vec b1, .int i, .vec b2]) (hb1 : hp b1 = some (.vec k1 es1)) (hb2 : hp b2 = some (.vec k2 es2)) (hne : b1 ≠ b2)
    (hK : evD P n os (f + 16) ⟨putD d (.vec f) tm, upd (upd (upd hp f (some (.vec kk es))) b2 none) b1 none⟩ (lg ++ [([b1, b2], [b1, b2, f])]) K) : evD P n (⟨d, .call g xs, none⟩ :: os) f ⟨tm, hp⟩ lg K :=
  evD_call [b1, b2, f] hg (by simpa using hx) (CallOk.ins hs hf h1 h2 h3 hb1 hb2 hne) (fun c h => by
    refine Classical.byContradiction fun hc => h ?_
    simp only [List.mem_cons, List.not_mem_nil, or_false, not_or] at hc
    simp [effL, hc, noEff]) (by rw [hpEff_cons, hpEff_cons, hpEff_cons, hpEff_nil]; exact hK)

theorem CallOk.del {es es' args : List AV} {kk b f : Nat} (hs : HSpec P fid (.vec 0 :: args) [.vec kk es] (.vec 1) [none, some (.vec kk es')]) (hf : FnOk P fid)
    (h0 : pureL args) (h1 : pureL es) (h2 : pureL es') (hb : hp b = some (.vec kk es)) :
    CallOk P n fid (.vec b :: args) f hp [b] (.vec f) (effL [(b, none), (f, some (.vec kk es'))]) := by
  have key := CallOk.hand (n := n) (f := f) (hp := hp) hf hs [b] rfl (by simp) ⟨show (0 : Nat) < 1 by omega, belL_pure h0⟩ (fun i b' x e1 e2 => by
    match i with
    | 0 => simp at e1 e2; subst e1; subst e2; exact ⟨belL_pure h1, by rw [hb]; simp only [Blk.ren, renL_pure _ h1]⟩
    | i + 1 => simp at e1) (by simp) (by simp) (show (1 : Nat) < 2 by omega) (fun y hy => by simp at hy; subst hy; exact belL_pure h2)
  have e0 : piOf [b] f 0 = b := by simp [piOf]
  have e1 : piOf [b] f 1 = f := by simp [piOf]
  have e3 : handEff [b] f [none, some (Blk.vec kk es')] = effL [(b, none), (f, some (.vec kk es'))] := by
    simp [handEff, List.zipIdx, e0, e1, Blk.ren, renL_pure _ h2]
  rw [e3] at key
  simpa only [renL, renL_pure _ h0, AV.ren, e0, e1] using key
theorem evT_del {d : Option Nat} {g : AO} {xs : List AO} {os : List AOper} {f : Nat} {K : S2 → Nat → Prop} {es es' args : List AV} {kk b : Nat}
    (hs : HSpec P fid (.vec 0 :: args) [.vec kk es] (.vec 1) [none, some (.vec kk es')]) (hf : FnOk P fid) (h0 : pureL args) (h1 : pureL es) (h2 : pureL es') (hg : evO tm g = .func fid [])
    (hx : xs.map (evO tm) = .vec b :: args) (hb : hp b = some (.vec kk es)) (hK : evT P n os (f + 16) ⟨putD d (.vec f) tm, upd (upd hp f (some (.vec kk es'))) b none⟩ K) : evT P n (⟨d, .call g xs, none⟩ :: os) f ⟨tm, hp⟩ K :=
  evT_call hg (by simpa using hx) (CallOk.del hs hf h0 h1 h2 hb) (by rw [hpEff_cons, hpEff_cons, hpEff_nil]; exact hK)
theorem evD_del {d : Option Nat} {g : AO} {xs : List AO} {os : List AOper} {f : Nat} {lg : Log} {K : S2 → Nat → Log → Prop} {es es' args : List AV} {kk b : Nat}
    (hs : HSpec P fid (.vec 0 :: args) [.vec kk es] (.vec 1) [none, some (.vec kk es')]) (hf : FnOk P fid) (h0 : pureL args) (h1 : pureL es) (h2 : pureL es') (hg : evO tm g = .func fid [])
    (hx : xs.map (evO tm) = .vec b :: args) (hb : hp b = some (.vec kk es)) (hK : evD P n os (f + 16) ⟨putD d (.vec f) tm, upd (upd hp f (some (.vec kk es'))) b none⟩ (lg ++ [([b], [b, f])]) K) : evD P n (⟨d, .call g xs, none⟩ :: os) f ⟨tm, hp⟩ lg K :=
  evD_call [b, f] hg (by simpa using hx) (CallOk.del hs hf h0 h1 h2 hb) (fun c h => by
    refine Classical.byContradiction fun hc => h ?_
    simp only [List.mem_cons, List.not_mem_nil, or_false, not_or] at hc
    simp [effL, hc, noEff]) (by rw [hpEff_cons, hpEff_cons, hpEff_nil]; exact hK)
end
end Go.Am
