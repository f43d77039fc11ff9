/- The machine Mx: one operation, with what a note says of it. -/
import Derived.Test.YtglfecmdoekabaaMx2
namespace Go.Am
set_option linter.unusedVariables false
set_option linter.unusedSimpArgs false

/-! ### What a callee sees of blocks that are lent -/
mutual
def viewA (hp : Hp) : AV → AV
  | .ref b off => match hp b with
    | some (.box x) => .rptr x off
    | _ => .ref b off
  | .vec b => match hp b with
    | some (.vec k es) => .sl k es false
    | _ => .vec b
  | .agg cs => .agg (viewL hp cs)
  | .func f cs => .func f (viewL hp cs)
  | .val v => .val v
  | .sl k es full => .sl k es full
  | .rptr x o => .rptr x o
  | .tup cs => .tup cs
  | .eref b i o => .eref b i o
  | .vsub b i o => .vsub b i o
  | .asub b i o k => .asub b i o k
  | .unk => .unk
def viewL (hp : Hp) : List AV → List AV
  | [] => []
  | x :: xs => viewA hp x :: viewL hp xs
end
mutual
def visA (hp : Hp) : AV → List (List AV)
  | .ref b off => match hp b with
    | some (.box x) => [[x]]
    | _ => [[.ref b off]]
  | .vec b => match hp b with
    | some (.vec k es) => [es]
    | _ => [[.vec b]]
  | .agg cs => visL hp cs
  | .func _ cs => visL hp cs
  | .val _ => []
  | .sl _ _ _ => []
  | .rptr _ _ => []
  | .unk => []
  | .tup _ => [[.vec 0]]
  | .eref _ _ _ => [[.vec 0]]
  | .vsub _ _ _ => [[.vec 0]]
  | .asub _ _ _ _ => [[.vec 0]]
def visL (hp : Hp) : List AV → List (List AV)
  | [] => []
  | x :: xs => visA hp x ++ visL hp xs
end
mutual
def idsA : AV → List Nat
  | .ref b _ => [b]
  | .vec b => [b]
  | .agg cs => idsL cs
  | .func _ cs => idsL cs
  | _ => []
def idsL : List AV → List Nat
  | [] => []
  | x :: xs => idsA x ++ idsL xs
end
theorem pureBLs_app : ∀ {a b : List (List AV)}, pureBLs (a ++ b) = true → pureBLs a = true ∧ pureBLs b = true
  | [], b, h => ⟨rfl, h⟩
  | x :: a, b, h => by
    obtain ⟨h1, h2⟩ := cond_true_iff.mp h
    obtain ⟨h3, h4⟩ := pureBLs_app (a := a) h2
    exact ⟨cond_true_iff.mpr ⟨h1, h3⟩, h4⟩
mutual
theorem viewA_ok {hp : Hp} {foot : List Nat} : ∀ {x : AV}, pureBLs (visA hp x) = true → (∀ b ∈ idsA x, b ∈ foot) → View foot hp x (viewA hp x)
  | .ref b off, h, hf => by
    rw [visA] at h
    rw [viewA]
    split at h
    · rename_i x hx
      exact View.ref (hf b (by simp [idsA])) hx (AV.pureB_ok (cond_true_iff.mp (cond_true_iff.mp h).1).1)
    · cases h
  | .vec b, h, hf => by
    rw [visA] at h
    rw [viewA]
    split at h
    · rename_i k es hx
      exact View.vec (hf b (by simp [idsA])) hx (pureBL_ok (cond_true_iff.mp h).1)
    · cases h
  | .agg cs, h, hf => by
    rw [visA] at h; rw [viewA]
    exact View.agg (viewL_ok h fun b hb => hf b (by simpa [idsA] using hb))
  | .func f cs, h, hf => by
    rw [visA] at h; rw [viewA]
    exact View.func (viewL_ok h fun b hb => hf b (by simpa [idsA] using hb))
  | .val v, _, _ => by rw [viewA]; exact View.pure trivial
  | .sl _ _ _, _, _ => by rw [viewA]; exact View.pure trivial
  | .rptr _ _, _, _ => by rw [viewA]; exact View.pure trivial
  | .unk, _, _ => by rw [viewA]; exact View.pure trivial
  | .tup _, h, _ => by rw [visA] at h; cases h
  | .eref _ _ _, h, _ => by rw [visA] at h; cases h
  | .vsub _ _ _, h, _ => by rw [visA] at h; cases h
  | .asub _ _ _ _, h, _ => by rw [visA] at h; cases h
theorem viewL_ok {hp : Hp} {foot : List Nat} : ∀ {xs : List AV}, pureBLs (visL hp xs) = true → (∀ b ∈ idsL xs, b ∈ foot) → ViewL foot hp xs (viewL hp xs)
  | [], _, _ => by rw [viewL]; trivial
  | x :: xs, h, hf => by
    rw [visL] at h; rw [viewL]
    obtain ⟨h1, h2⟩ := pureBLs_app h
    exact ⟨viewA_ok h1 fun b hb => hf b (by simp [idsL, hb]), viewL_ok h2 fun b hb => hf b (by simp [idsL, hb])⟩
end
mutual
theorem viewA_pure {hp : Hp} : ∀ {x : AV}, x.pureB = true → viewA hp x = x
  | .agg cs, h => by rw [viewA, viewL_pure (xs := cs) h]
  | .func f cs, h => by rw [viewA, viewL_pure (xs := cs) h]
  | .val v, _ => by rw [viewA]
  | .sl _ _ _, _ => by rw [viewA]
  | .rptr _ _, _ => by rw [viewA]
  | .unk, _ => by rw [viewA]
  | .tup _, h => by rw [viewA]
  | .ref _ _, h => by cases h
  | .vec _, h => by cases h
  | .eref _ _ _, h => by cases h
  | .vsub _ _ _, h => by cases h
  | .asub _ _ _ _, h => by cases h
theorem viewL_pure {hp : Hp} : ∀ {xs : List AV}, pureBL xs = true → viewL hp xs = xs
  | [], _ => by rw [viewL]
  | x :: xs, h => by
    obtain ⟨h1, h2⟩ := cond_true_iff.mp h
    rw [viewL, viewA_pure h1, viewL_pure h2]
end

/-! ### Blocks handed over whose contents lead nowhere -/
theorem okBk_ren {n : Nat} {x : Blk} (h : okBk n x = true) (π : Nat → Nat) : renBk π x = x.ren π := by
  cases x with
  | box x => rfl
  | vec k es => rw [Blk.ren, renL_pure _ (pureBL_ok h)]; rfl
  | row k es l c => rw [Blk.ren, renL_pure _ (pureBL_ok h)]; rfl
theorem okBk_bel {n : Nat} {x : Blk} (h : okBk n x = true) : x.bel n := by
  cases x with
  | box x => exact AV.belB_ok h
  | vec k es => exact belL_pure (pureBL_ok h)
  | row k es l c => exact belL_pure (pureBL_ok h)
def handP (bs : List Nat) (f : Nat) (h' : List (Option Blk)) : Eff := effL (h'.zipIdx.map fun p => (piOf bs f p.2, p.1.map (renBk (piOf bs f))))
def handIds (bs : List Nat) (f : Nat) (h' : List (Option Blk)) : List Nat := (List.range h'.length).map (piOf bs f)
def nodupB : List Nat → Bool
  | [] => true
  | b :: r => cond (r.all fun c => !Nat.beq b c) (nodupB r) false
theorem nodupB_ok : ∀ {l : List Nat}, nodupB l = true → l.Nodup
  | [], _ => List.nodup_nil
  | b :: r, h => by
    obtain ⟨h1, h2⟩ := cond_true_iff.mp h
    refine List.nodup_cons.mpr ⟨fun hb => ?_, nodupB_ok h2⟩
    have := List.all_eq_true.mp h1 b hb
    simp at this
theorem effL_map_congr {l : List (Option Blk × Nat)} {bs : List Nat} {f : Nat} (h : ∀ p ∈ l, p.1.map (Blk.ren (piOf bs f)) = p.1.map (renBk (piOf bs f))) :
    effL (l.map fun p => (piOf bs f p.2, p.1.map (Blk.ren (piOf bs f)))) = effL (l.map fun p => (piOf bs f p.2, p.1.map (renBk (piOf bs f)))) := by
  have : (l.map fun p => (piOf bs f p.2, p.1.map (Blk.ren (piOf bs f)))) = l.map fun p => (piOf bs f p.2, p.1.map (renBk (piOf bs f))) := List.map_congr_left fun p hp => by rw [h p hp]
  rw [this]
theorem handP_eq {n : Nat} {bs : List Nat} {f : Nat} {h' : List (Option Blk)} (h : ∀ x, some x ∈ h' → okBk n x = true) : handEff bs f h' = handP bs f h' := by
  refine effL_map_congr fun p hp => ?_
  cases e : p.1 with
  | none => rfl
  | some x =>
    have hx : some x ∈ h' := by
      rw [← e]; exact List.fst_mem_of_mem_zipIdx hp
    show some (x.ren _) = some (renBk _ x)
    rw [okBk_ren (h x hx)]
theorem effL_mem {l : List (Nat × Option Blk)} {b : Nat} (h : effL l b ≠ none) : b ∈ l.map (·.1) := by
  induction l with
  | nil => exact absurd rfl h
  | cons p l ih =>
    obtain ⟨c, x⟩ := p
    by_cases e : b = c
    · subst e; simp
    · have : effL ((c, x) :: l) b = effL l b := by show (if b = c then _ else _) = _; rw [if_neg e]
      rw [this] at h
      simp only [List.map_cons, List.mem_cons]
      exact .inr (ih h)
theorem handP_mem {bs : List Nat} {f : Nat} {h' : List (Option Blk)} {b : Nat} (h : handP bs f h' b ≠ none) : b ∈ handIds bs f h' := by
  have := effL_mem h
  rw [List.map_map] at this
  obtain ⟨p, hp, rfl⟩ := List.mem_map.mp this
  refine List.mem_map.mpr ⟨p.2, List.mem_range.mpr ?_, rfl⟩
  have := List.snd_lt_of_mem_zipIdx hp
  simpa using this
theorem CallOk.handP {P : Program} {n : Nat} {fid : FuncId} {args : List AV} {f : Nat} {hp : Hp} {r : AV} {h : List Blk} {h' : List (Option Blk)} (hf : FnOk P fid) (hs : HSpec P fid args h r h') (bs : List Nat)
    (g : HcOk args h r h') (hl : bs.length = h.length) (hnd : bs.Nodup) (hb : bs.map hp = h.map fun x => some (renBk (piOf bs f) x)) :
    CallOk P n fid (renL (piOf bs f) args) f hp bs (r.ren (piOf bs f)) (Am.handP bs f h') := by
  rw [← handP_eq g.h']
  refine CallOk.hand hf hs bs hl hnd g.args (fun i b x e1 e2 => ?_) g.le g.le' g.r fun x hx => okBk_bel (g.h' x hx)
  have hx : x ∈ h := List.mem_of_getElem? e2
  refine ⟨okBk_bel (g.hp x hx), ?_⟩
  rw [← okBk_ren (g.hp x hx)]
  have : (bs.map hp)[i]? = (h.map fun x => some (renBk (piOf bs f) x))[i]? := by rw [hb]
  rw [List.getElem?_map, List.getElem?_map, e1, e2] at this
  simpa using this
theorem CallOk.subargs {P : Program} {n : Nat} {fid : FuncId} {args args' : List AV} {f : Nat} {hp : Hp} {foot : List Nat} {v : AV} {e : Eff} (h : SubL args args') (hc : CallOk P n fid args' f hp foot v e) : CallOk P n fid args f hp foot v e :=
  ⟨hc.1, fun c A μ fr tm' hp' a w cargs H h1 h2 h3 => hc.2 c A μ fr tm' hp' a w cargs H h1 h2 (h.rvl h3)⟩
end Go.Am
