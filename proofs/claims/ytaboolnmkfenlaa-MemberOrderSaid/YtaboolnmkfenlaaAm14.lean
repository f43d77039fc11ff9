/- One operation in any state that agrees with a given one where the operation looks: StepOk; calls: CallOk. -/
import Derived.Test.YtaboolnmkfenlaaAm13
namespace Go.Am
set_option linter.unusedVariables false
set_option linter.unusedSimpArgs false

def AOp.opers : AOp → List AO
  | .move x | .box x | .load _ _ x | .nilc x | .un _ x | .convI _ x | .convBS x | .convS x | .convSB x | .faddr _ x | .field _ _ _ x | .ext _ x | .len x | .lenS x | .cap x | .clear _ _ x | .isNil _ _ x => [x]
  | .pick c a b => [c, a, b]
  | .build _ ps => ps.map (·.2.2)
  | .lit _ _ _ ps => ps.map (·.2)
  | .store _ a x | .bin _ a x | .binB _ a x | .eqs _ _ a x | .mks _ _ _ a x | .iaddr _ a x | .iaddrA _ _ a x | .indexA _ _ _ a x | .indexS a x | .append _ _ a x | .appendS _ a x | .copy _ a x | .appendZ _ _ _ a x => [a, x]
  | .mkf _ cs => cs
  | .sliceS x lo hi | .sliceA _ _ x lo hi => x :: lo.toList ++ hi.toList
  | .slice _ x lo hi mx => x :: lo.toList ++ hi.toList ++ mx.toList
  | .min xs | .max xs => xs
  | .call g xs => g :: xs
  | .bad => []

def refIds : AV → List Nat
  | .ref b _ | .eref b _ _ | .vec b | .vsub b _ _ | .asub b _ _ _ => [b]
  | _ => []

theorem lenA_congr {hp hp' : Hp} {x : AV} (h : ∀ b ∈ refIds x, hp b = hp' b) : lenA hp x = lenA hp' x := by
  cases x <;> simp_all [lenA, refIds]
theorem srcA_congr {hp hp' : Hp} {k : Nat} {x : AV} (h : ∀ b ∈ refIds x, hp b = hp' b) : srcA hp k x = srcA hp' k x := by
  cases x <;> simp_all [srcA, refIds]
theorem sliceA_congr {hp hp' : Hp} {k : Nat} {x : AV} {lo hi mx : Option Int} (h : ∀ b ∈ refIds x, hp b = hp' b) : sliceA hp k x lo hi mx = sliceA hp' k x lo hi mx := by
  cases x <;> simp_all [sliceA, refIds]
theorem resliceA_congr {hp hp' : Hp} {f k : Nat} {x : AV} {i : Int} (h : ∀ b ∈ refIds x, hp b = hp' b) : resliceA hp f k x i = resliceA hp' f k x i := by
  unfold resliceA
  rw [sliceA_congr h]
  cases x <;> simp_all [refIds]
theorem srcP_congr {hp hp' : Hp} {k : Nat} {x : AV} (h : ∀ b ∈ refIds x, hp b = hp' b) : srcP hp k x = srcP hp' k x := by
  have e := srcA_congr (k := k) h
  cases x with
  | vsub b lo n =>
    have hb := h b (by simp [refIds])
    simp only [srcP, hb, e]
  | _ => simp only [srcP, e]
theorem copyA_congr {hp hp' : Hp} {k : Nat} {d : AV} {src : Option (Nat × List AV)} (h : ∀ b ∈ refIds d, hp b = hp' b) : copyA hp k d src = copyA hp' k d src := by
  unfold copyA
  cases src with
  | none => cases d <;> rfl
  | some xs => cases d <;> simp_all [refIds]
theorem clearA_congr {hp hp' : Hp} {k : Nat} {z d : AV} (h : ∀ b ∈ refIds d, hp b = hp' b) : clearA hp k z d = clearA hp' k z d := by
  unfold clearA
  cases d <;> simp_all [refIds]
theorem appendZA_congr {hp hp' : Hp} {f k b : Nat} {z s n : AV} (h : ∀ b ∈ refIds s, hp b = hp' b) : appendZA hp f k b z s n = appendZA hp' f k b z s n := by
  cases s with
  | vsub b lo i =>
    have hb := h b (by simp [refIds])
    unfold appendZA
    split
    · rename_i e; cases e; simp only [hb]
    · rfl
  | _ => rfl
theorem appendA_congr {hp hp' : Hp} {f k b : Nat} {s : AV} {src : Option (List AV)} (h : ∀ b ∈ refIds s, hp b = hp' b) : appendA hp f k b s src = appendA hp' f k b s src := by
  unfold appendA
  cases src with
  | none => rfl
  | some xs => cases s <;> simp_all [refIds]

theorem evA_congr {op : AOp} {f : Nat} {ρ ρ' : AO → AV} {hp hp' : Hp} (h : ∀ x ∈ op.opers, ρ x = ρ' x) (hh : ∀ x ∈ op.opers, ∀ b ∈ refIds (ρ x), hp b = hp' b) : evA op f ρ hp = evA op f ρ' hp' := by
  cases op with
  | build z ps =>
    have : ps.map (fun p => (p.1, p.2.1, ρ p.2.2)) = ps.map (fun p => (p.1, p.2.1, ρ' p.2.2)) := List.map_congr_left fun p hp => by rw [h p.2.2 (List.mem_map.2 ⟨p, hp, rfl⟩)]
    simp only [evA, this]
  | lit k n z ps =>
    have : ps.map (fun p => (p.1, ρ p.2)) = ps.map (fun p => (p.1, ρ' p.2)) := List.map_congr_left fun p hp => by rw [h p.2 (List.mem_map.2 ⟨p, hp, rfl⟩)]
    simp only [evA, this]
  | mkf g cs =>
    have : cs.map ρ = cs.map ρ' := List.map_congr_left h
    simp only [evA, this]
  | min xs =>
    have : xs.map ρ = xs.map ρ' := List.map_congr_left h
    simp only [evA, this]
  | max xs =>
    have : xs.map ρ = xs.map ρ' := List.map_congr_left h
    simp only [evA, this]
  | sliceS x lo hi =>
    simp only [AOp.opers, List.mem_cons, List.mem_append, Option.mem_toList] at h
    have h1 := h x (by simp)
    have h2 : lo.map ρ = lo.map ρ' := by cases lo with | none => rfl | some y => rw [Option.map_some, Option.map_some, h y (by simp)]
    have h3 : hi.map ρ = hi.map ρ' := by cases hi with | none => rfl | some y => rw [Option.map_some, Option.map_some, h y (by simp)]
    simp only [evA, h1, h2, h3]
  | sliceA n k x lo hi =>
    simp only [AOp.opers, List.mem_cons, List.mem_append, Option.mem_toList] at h
    have h1 := h x (by simp)
    have h2 : lo.map ρ = lo.map ρ' := by cases lo with | none => rfl | some y => rw [Option.map_some, Option.map_some, h y (by simp)]
    have h3 : hi.map ρ = hi.map ρ' := by cases hi with | none => rfl | some y => rw [Option.map_some, Option.map_some, h y (by simp)]
    simp only [evA, h1, h2, h3]
  | slice k x lo hi mx =>
    have hx := hh x (by simp [AOp.opers])
    simp only [AOp.opers, List.mem_cons, List.mem_append, Option.mem_toList] at h
    have h1 := h x (by simp)
    have h2 : lo.map ρ = lo.map ρ' := by cases lo with | none => rfl | some y => rw [Option.map_some, Option.map_some, h y (by simp)]
    have h3 : hi.map ρ = hi.map ρ' := by cases hi with | none => rfl | some y => rw [Option.map_some, Option.map_some, h y (by simp)]
    have h4 : mx.map ρ = mx.map ρ' := by cases mx with | none => rfl | some y => rw [Option.map_some, Option.map_some, h y (by simp)]
    rw [h1] at hx
    simp only [evA, h1, h2, h3, h4, sliceA_congr hx, resliceA_congr hx]
  | cap x =>
    have hx := hh x (by simp [AOp.opers])
    have h1 := h x (by simp [AOp.opers])
    rw [h1] at hx
    simp only [evA, h1]
    generalize ρ' x = X at hx
    cases X with
    | vec b => simp only [hx b (by simp [refIds])]
    | sl k es full => cases full <;> rfl
    | _ => rfl
  | copy k s x =>
    have hs := hh s (by simp [AOp.opers])
    have hx := hh x (by simp [AOp.opers])
    have h1 := h s (by simp [AOp.opers])
    have h2 := h x (by simp [AOp.opers])
    rw [h1] at hs; rw [h2] at hx
    simp only [evA, h1, h2, copyA_congr hs, srcP_congr hx]
  | clear k z x =>
    have hx := hh x (by simp [AOp.opers])
    have h1 := h x (by simp [AOp.opers])
    rw [h1] at hx
    simp only [evA, h1, clearA_congr hx]
  | appendZ k b z s x =>
    have hs := hh s (by simp [AOp.opers])
    have h1 := h s (by simp [AOp.opers])
    have h2 := h x (by simp [AOp.opers])
    rw [h1] at hs
    simp only [evA, h1, h2, appendZA_congr hs]
  | len x =>
    have hx := hh x (by simp [AOp.opers])
    have h1 := h x (by simp [AOp.opers])
    rw [h1] at hx
    simp only [evA, h1, lenA_congr hx]
  | append k b s x =>
    have hs := hh s (by simp [AOp.opers])
    have hx := hh x (by simp [AOp.opers])
    have h1 := h s (by simp [AOp.opers])
    have h2 := h x (by simp [AOp.opers])
    rw [h1] at hs; rw [h2] at hx
    simp only [evA, h1, h2, appendA_congr hs, srcA_congr hx]
  | appendS b s x =>
    have hs := hh s (by simp [AOp.opers])
    have h1 := h s (by simp [AOp.opers])
    have h2 := h x (by simp [AOp.opers])
    rw [h1] at hs
    simp only [evA, h1, h2, appendA_congr hs]
  | load agg size x =>
    have hx := hh x (by simp [AOp.opers])
    have h1 := h x (by simp [AOp.opers])
    rw [h1] at hx
    simp only [evA, h1]
    generalize ρ' x = X at *
    cases X <;> simp_all [refIds]
  | store size x y =>
    have hx := hh x (by simp [AOp.opers])
    have h1 := h x (by simp [AOp.opers])
    have h2 := h y (by simp [AOp.opers])
    rw [h1] at hx
    simp only [evA, h1, h2]
    generalize ρ' x = X at *
    cases X <;> simp_all [refIds]
  | convBS x =>
    have hx := hh x (by simp [AOp.opers])
    have h1 := h x (by simp [AOp.opers])
    rw [h1] at hx
    simp only [evA, h1]
    generalize ρ' x = X at *
    cases X with
    | vec b => simp only [hx b (by simp [refIds])]
    | asub b o n k =>
      have e : boxCells hp b = boxCells hp' b := by simp only [boxCells, hx b (by simp [refIds])]
      match k with
      | 0 => rfl
      | 1 => simp only [e]
      | k + 2 => rfl
    | sl k es full =>
      match k with
      | 0 => rfl
      | 1 => rfl
      | k + 2 => rfl
    | _ => rfl
  | iaddr k x i =>
    have hx := hh x (by simp [AOp.opers])
    have h1 := h x (by simp [AOp.opers])
    have h2 := h i (by simp [AOp.opers])
    rw [h1] at hx
    simp only [evA, h1, h2]
    generalize ρ' x = X at *
    cases X <;> simp_all [refIds]
  | _ => simp only [AOp.opers, List.mem_cons, List.not_mem_nil, or_false, forall_eq_or_imp, forall_eq] at h <;> simp only [evA, h]

/-! ### Effects -/
abbrev Eff := Nat → Option (Option Blk)
def hpEff (e : Eff) (hp : Hp) : Hp := fun b => match e b with | some x => x | none => hp b
def noEff : Eff := fun _ => none
theorem hpEff_no (hp : Hp) : hpEff noEff hp = hp := rfl
def outEff (o : Out) : Eff := fun b => match o.ad with
  | some (f, x) => if b = f then some (some x) else if o.rm = some b then some none else none
  | none => if o.rm = some b then some none else none
theorem hpEff_out (o : Out) (hp : Hp) : hpEff (outEff o) hp = hpAfter o hp := by
  funext b
  unfold hpEff outEff hpAfter
  cases o.ad with
  | none =>
    cases o.rm with
    | none => simp
    | some r =>
      by_cases h : b = r
      · subst h; simp [upd]
      · have h' : ¬ r = b := fun e => h e.symm
        simp [upd, h, h']
  | some p =>
    obtain ⟨f, x⟩ := p
    by_cases hf : b = f
    · simp [upd, hf]
    · cases o.rm with
      | none => simp [upd, hf]
      | some r =>
        by_cases h : b = r
        · subst h; simp [upd, hf]
        · have h' : ¬ r = b := fun e => h e.symm
          simp [upd, hf, h, h']

def StepOk (P : Program) (n : Nat) (o : Oper) (f : Nat) (tm : Nat → AV) (hp : Hp) (rd : List Nat) (v : AV) (e : Eff) : Prop :=
  ∀ (c : Ctx) (A : Nat → Prop) (μ : Mu) (fr : Nat → Prop) (tm' : Nat → AV) (hp' : Hp) (a : Act) (w : World) (K : Act → World → Prop) (Q : Exit → Act → World → Prop),
    RelE c A μ fr tm' hp' n a w → (∀ t, AO.t t ∈ (cOp P o.op o.type).opers → tm' t = tm t) → (∀ b ∈ rd, hp' b = hp b) → (∀ j, j < 16 → fr (f + j)) →
    (∀ a' w' A' μ', RelE c A' μ' (fun b => fr b ∧ ¬ (f ≤ b ∧ b < f + 16)) (putD o.dst v tm') (hpEff e hp') n a' w' → K a' w') → o.wp P a w K Q

def rdOf (op : AOp) (tm : Nat → AV) : List Nat := op.opers.flatMap fun x => refIds (evO tm x)

theorem stepA {P : Program} {n : Nat} {o : Oper} {f : Nat} {tm : Nat → AV} {hp : Hp} (hd : ∀ d, o.dst = some d → d < n) (hc : (evA (cOp P o.op o.type) f (evO tm) hp).c) :
    StepOk P n o f tm hp (rdOf (cOp P o.op o.type) tm) (evA (cOp P o.op o.type) f (evO tm) hp).v (outEff (evA (cOp P o.op o.type) f (evO tm) hp)) := by
  intro c A μ fr tm' hp' a w K Q H h1 h2 h3 hK
  have hev : ∀ x ∈ (cOp P o.op o.type).opers, evO tm' x = evO tm x := by
    intro x hx
    cases x with
    | t t => exact h1 t hx
    | c x => rfl
  have heq : evA (cOp P o.op o.type) f (evO tm') hp' = evA (cOp P o.op o.type) f (evO tm) hp := by
    refine evA_congr hev fun x hx b hb => h2 b ?_
    rw [hev x hx] at hb
    exact List.mem_flatMap.2 ⟨x, hx, hb⟩
  rw [← heq] at hc hK
  obtain ⟨cv, w', A', μ', e1, e2, e3⟩ := evA_sound o H (by simpa using h3 0 (by omega)) hc
  have hrel : RelE c A' μ' (fun b => fr b ∧ ¬ (f ≤ b ∧ b < f + 16)) (putD o.dst (evA (cOp P o.op o.type) f (evO tm') hp').v tm') (hpEff (outEff (evA (cOp P o.op o.type) f (evO tm') hp')) hp') n (a.put o.dst cv) w' := by
    rw [hpEff_out]
    have := (e2.free (fr' := fun b => fr b ∧ ¬ (f ≤ b ∧ b < f + 16)) fun b hb => ⟨hb.1, fun e => hb.2 (by omega)⟩).put o.dst hd e3
    exact this
  unfold Oper.wp
  rcases e1 with e1 | ⟨e1, rfl⟩
  · rw [e1, Oper.upon_value]; exact hK _ _ _ _ hrel
  · rw [e1, Oper.upon_skip]; exact hK _ _ _ _ hrel

/-! ### Comparisons with nil -/
theorem isNilC_spec {ptr : Bool} {y : Operand} (h : isNilC ptr y = true) : ∃ v, y = .const v ∧ ((ptr = false ∧ ∃ n c, v = .slice none n c) ∨ (ptr = true ∧ v = .pointer none)) := by
  unfold isNilC at h
  split at h
  · exact ⟨_, rfl, .inl ⟨by simpa using h, _, _, rfl⟩⟩
  · exact ⟨_, rfl, .inr ⟨h, rfl⟩⟩
  · cases h
theorem cNil_spec {ptr ptr' ne : Bool} {op : BinOp} {x y : Operand} {x' : AO} (h : cNil ptr op x y = .isNil ptr' ne x') : ptr' = ptr ∧ x' = cO x ∧ op = (if ne then .neq else .eql) ∧ isNilC ptr y = true := by
  unfold cNil at h
  split at h
  · rename_i hy
    split at h <;> cases h <;> exact ⟨rfl, rfl, rfl, hy⟩
  · cases h
theorem cOp_isNil {P : Program} {op : Op} {ty : TypeId} {ptr ne : Bool} {x : AO} (ho : cOp P op ty = .isNil ptr ne x) :
    ∃ b t x' v yt e, op = .binOp b t x' (.const v) yt ∧ x = cO x' ∧ b = (if ne then .neq else .eql) ∧ ((ptr = false ∧ P.underlying t = some (.slice e) ∧ ∃ n c, v = .slice none n c) ∨ (ptr = true ∧ P.underlying t = some (.pointer e) ∧ v = .pointer none)) := by
  cases op with
  | call c =>
    obtain ⟨callee, args, ts⟩ := c
    cases callee with
    | value g' => simp only [cOp, cCall] at ho; cases ho
    | invoke r m => simp [cOp, cCall] at ho
    | builtin b =>
      simp only [cOp, cCall] at ho
      (repeat' split at ho) <;> cases ho
  | makeFunc fn first captured =>
    cases fn <;> simp only [cOp] at ho <;> (repeat' split at ho) <;> cases ho
  | binOp op t x' y yt =>
    simp only [cOp] at ho
    split at ho
    · (repeat' split at ho) <;> cases ho
    · cases ho
    · cases ho
    · cases ho
    · rename_i e hu
      obtain ⟨rfl, h2, h3, h4⟩ := cNil_spec ho
      obtain ⟨v, rfl, h5⟩ := isNilC_spec h4
      refine ⟨op, t, x', v, yt, e, rfl, h2, h3, .inl ?_⟩
      rcases h5 with ⟨_, h5⟩ | ⟨h5, _⟩
      · exact ⟨rfl, hu, h5⟩
      · cases h5
    · rename_i e hu
      obtain ⟨rfl, h2, h3, h4⟩ := cNil_spec ho
      obtain ⟨v, rfl, h5⟩ := isNilC_spec h4
      refine ⟨op, t, x', v, yt, e, rfl, h2, h3, .inr ?_⟩
      rcases h5 with ⟨h5, _⟩ | ⟨_, h5⟩
      · cases h5
      · exact ⟨rfl, hu, h5⟩
    · cases ho
  | _ => simp only [cOp] at ho <;> (repeat' split at ho) <;> cases ho

theorem stepNil {P : Program} {n : Nat} {o : Oper} {tm : Nat → AV} {hp : Hp} {ptr ne : Bool} {x : AO} (ho : cOp P o.op o.type = .isNil ptr ne x) (hd : ∀ d, o.dst = some d → d < n) (hok : nilOk ptr (evO tm x))
    {c : Ctx} {A : Nat → Prop} {μ : Mu} {fr : Nat → Prop} {a : Act} {w : World} {K : Act → World → Prop} {Q : Exit → Act → World → Prop} (H : RelE c A μ fr tm hp n a w)
    (hK : ∀ t, nilA hp (evO tm x) t → ∀ a', RelE c A μ fr (putD o.dst (.bool (t != ne)) tm) hp n a' w → K a' w) : o.wp P a w K Q := by
  obtain ⟨b, t, x', v, yt, e, h1, rfl, h3, h4⟩ := cOp_isNil ho
  obtain ⟨tt, g1, g2⟩ := run_nil (P := P) (T := t) (e := e) (op := b) (y := v) h3 h4 H (H.ev x') hok
  have hg : (eqGuard b t x' (.const v) (a.eval x') (a.eval (.const v))).run P w = .ok () w := by
    have hv : a.eval (.const v) = v := rfl
    rw [hv]
    subst h3
    rcases h4 with ⟨_, _, n', c', rfl⟩ | ⟨_, _, rfl⟩ <;> (unfold eqGuard; cases ne <;> cases a.eval x' <;> rfl)
  have he : (execOp a.eval o).run P w = .ok (.value (.bool (tt != ne))) w := by
    unfold execOp
    rw [h1]
    simp only [Sem.run_bind, hg, Result.andThen_ok]
    rw [show a.eval (.const v) = v from rfl, g2]
    rfl
  unfold Oper.wp
  rw [he, Oper.upon_value]
  exact hK tt g1 _ (H.put o.dst hd (rv_bool _))

/-! ### Slice literals that the frame owns -/
theorem cNil_lit {ptr : Bool} {op : BinOp} {x y : Operand} {k n : Nat} {z : AV} {ps : List (Nat × AO)} (h : cNil ptr op x y = .lit k n z ps) : False := by
  unfold cNil at h
  split at h
  · split at h <;> cases h
  · cases h
theorem cOp_lit {P : Program} {op : Op} {ty : TypeId} {k N : Nat} {z : AV} {ps : List (Nat × AO)} (ho : cOp P op ty = .lit k N z ps) :
    ∃ t parts e, op = .buildSlice t N parts ∧ P.underlying t = some (.slice e) ∧ sizeOf? P e = some k ∧ zeroOf P e = some z ∧ (0 < k ∧ z.solid = true ∧ z.cells.length = k ∧ N * k ≤ 2 ^ 24) ∧ ps = parts.toList.map fun (i, x) => (i, cO x) := by
  cases op with
  | call c =>
    obtain ⟨callee, args, ts⟩ := c
    cases callee with
    | value g' => simp only [cOp, cCall] at ho; cases ho
    | invoke r m => simp [cOp, cCall] at ho
    | builtin b =>
      simp only [cOp, cCall] at ho
      (repeat' split at ho) <;> cases ho
  | makeFunc fn first captured =>
    cases fn <;> simp only [cOp] at ho <;> (repeat' split at ho) <;> cases ho
  | binOp op t x' y yt =>
    simp only [cOp] at ho
    (repeat' split at ho) <;> first | exact (cNil_lit ho).elim | cases ho
  | buildSlice t N' parts =>
    simp only [cOp] at ho
    split at ho
    case h_2 => cases ho
    rename_i e hu
    split at ho
    case h_2 => cases ho
    rename_i k' z' hs hz
    split at ho
    case isFalse => cases ho
    rename_i hk
    cases ho
    exact ⟨t, parts, e, rfl, hu, hs, hz, hk, rfl⟩
  | _ => simp only [cOp] at ho <;> (repeat' split at ho) <;> cases ho

theorem stepL {P : Program} {n : Nat} {o : Oper} {f : Nat} {tm : Nat → AV} {hp : Hp} {k N : Nat} {z : AV} {ps : List (Nat × AO)} (ho : cOp P o.op o.type = .lit k N z ps) (hd : ∀ d, o.dst = some d → d < n) (hc : (evL k N z ps f (evO tm)).c) :
    StepOk P n o f tm hp [] (evL k N z ps f (evO tm)).v (outEff (evL k N z ps f (evO tm))) := by
  intro c A μ fr tm' hp' a w K Q H h1 h2 h3 hK
  rw [ho] at h1
  have hev : ∀ x ∈ (AOp.lit k N z ps).opers, evO tm' x = evO tm x := by
    intro x hx
    cases x with
    | t t => exact h1 t hx
    | c x => rfl
  have heq : evL k N z ps f (evO tm') = evL k N z ps f (evO tm) := by
    have : ps.map (fun p => (p.1, evO tm' p.2)) = ps.map (fun p => (p.1, evO tm p.2)) := List.map_congr_left fun p hp => by rw [hev p.2 (List.mem_map.2 ⟨p, hp, rfl⟩)]
    simp only [evL, this]
  rw [← heq] at hc hK
  obtain ⟨t, parts, e, g1, g2, g3, g4, g5, rfl⟩ := cOp_lit ho
  have hdo := DoesM.next (does_litv (P := P) (a := a) g2 g3 g4 g5 H (by simpa using h3 0 (by omega)) hc)
  obtain ⟨cv, w', A', μ', e1, e2, e3⟩ := hdo
  have hrel : RelE c A' μ' (fun b => fr b ∧ ¬ (f ≤ b ∧ b < f + 16)) (putD o.dst (evL k N z (parts.toList.map fun (i, x) => (i, cO x)) f (evO tm')).v tm') (hpEff (outEff (evL k N z (parts.toList.map fun (i, x) => (i, cO x)) f (evO tm'))) hp') n (a.put o.dst cv) w' := by
    rw [hpEff_out]
    exact (e2.free (fr' := fun b => fr b ∧ ¬ (f ≤ b ∧ b < f + 16)) fun b hb => ⟨hb.1, fun e => hb.2 (by omega)⟩).put o.dst hd e3
  have hex : execOp a.eval o = (do pure (.value (← Instr.buildSlice t N (parts.map fun (i, x) => (i, a.eval x))))) := by
    unfold execOp; rw [g1]
  rw [← hex] at e1
  unfold Oper.wp
  rcases e1 with e1 | ⟨e1, rfl⟩
  · rw [e1, Oper.upon_value]; exact hK _ _ _ _ hrel
  · rw [e1, Oper.upon_skip]; exact hK _ _ _ _ hrel

/-! ### Calls of functions without a body -/
/-- The function's own entry of the model answers at once, and turns nothing. -/
def ExtOk (P : Program) (n : Nat) (fid : FuncId) (args : List AV) (hp : Hp) (foot : List Nat) (v : AV) : Prop :=
  ∀ (c : Ctx) (A : Nat → Prop) (μ : Mu) (fr : Nat → Prop) (tm' : Nat → AV) (hp' : Hp) (a : Act) (w : World) (cargs : List Value), RelE c A μ fr tm' hp' n a w → (∀ b ∈ foot, hp' b = hp b) → RVL w A args μ cargs →
    ∃ cv, (callFunc fid cargs.toArray).run P w = .ok (.value cv) w ∧ RV w A v μ cv

/-! ### Calls -/
def CallOk (P : Program) (n : Nat) (fid : FuncId) (args : List AV) (f : Nat) (hp : Hp) (foot : List Nat) (v : AV) (e : Eff) : Prop :=
  (∃ fn, P.funcs[fid]? = some fn ∧ fn.body.isSome = true ∧ (fn.name == "runtime.NumGoroutine") = false) ∧
  ∀ (c : Ctx) (A : Nat → Prop) (μ : Mu) (fr : Nat → Prop) (tm' : Nat → AV) (hp' : Hp) (a : Act) (w : World) (cargs : List Value),
    RelE c A μ fr tm' hp' n a w → (∀ b ∈ foot, hp' b = hp b) → (∀ j, j < 16 → fr (f + j)) → RVL w A args μ cargs →
    Calls P fid cargs.toArray w fun e' w' => ∃ cv A' μ', e' = .returned cv ∧ RelE c A' μ' (fun b => fr b ∧ ¬ (f ≤ b ∧ b < f + 16)) tm' (hpEff e hp') n a w' ∧ RV w' A' v μ' cv

theorem exec_callv {P : Program} {w : World} {a : Act} {o : Oper} {g : Operand} {args : Array Operand} {ts : Array TypeId} (ho : o.op = .call { callee := .value g, args := args, argTypes := ts })
    {fid : FuncId} {caps : Array Value} (hg : a.eval g = .func (.func fid) #[] caps) {fn : Func} (hf : P.funcs[fid]? = some fn) (hb : fn.body.isSome = true) (hn : (fn.name == "runtime.NumGoroutine") = false) :
    (execOp a.eval o).run P w = .ok (.enter fid (args.map a.eval ++ caps)) w := by
  have hb' : fn.body.isNone = false := by cases h : fn.body <;> simp_all
  unfold execOp
  rw [ho]
  simp only [resolve, hg, Deferred.ofValue, Sem.run_bind, Sem.run_pure, Result.andThen_ok, invoke, callFunc, run_program, hf, hn, hb', Bool.false_eq_true, ↓reduceIte]
  simp

theorem cNil_call {ptr : Bool} {op : BinOp} {x y : Operand} {g : AO} {xs : List AO} (h : cNil ptr op x y = .call g xs) : False := by
  unfold cNil at h
  split at h
  · split at h <;> cases h
  · cases h
theorem cOp_call {P : Program} {op : Op} {ty : TypeId} {g : AO} {xs : List AO} (ho : cOp P op ty = .call g xs) :
    ∃ g' args ts, op = .call { callee := .value g', args := args, argTypes := ts } ∧ g = cO g' ∧ xs = args.toList.map cO := by
  cases op with
  | call c =>
    obtain ⟨callee, args, ts⟩ := c
    cases callee with
    | value g' => simp only [cOp, cCall, AOp.call.injEq] at ho; exact ⟨g', args, ts, rfl, ho.1.symm, ho.2.symm⟩
    | invoke r m => simp [cOp, cCall] at ho
    | builtin b =>
      simp only [cOp, cCall] at ho
      (repeat' split at ho) <;> cases ho
  | makeFunc fn first captured =>
    cases fn <;> simp only [cOp] at ho <;> (repeat' split at ho) <;> cases ho
  | binOp op t x y yt =>
    simp only [cOp] at ho
    (repeat' split at ho) <;> first | exact (cNil_call ho).elim | cases ho
  | _ => simp only [cOp] at ho <;> (repeat' split at ho) <;> cases ho

theorem exec_callf {P : Program} {w : World} {a : Act} {o : Oper} {g : Operand} {args : Array Operand} {ts : Array TypeId} (ho : o.op = .call { callee := .value g, args := args, argTypes := ts })
    {fid : FuncId} {caps : Array Value} (hg : a.eval g = .func (.func fid) #[] caps) :
    (execOp a.eval o).run P w = (callFunc fid (args.map a.eval ++ caps)).run P w := by
  unfold execOp
  rw [ho]
  simp only [resolve, hg, Deferred.ofValue, Sem.run_bind, Sem.run_pure, Result.andThen_ok, invoke]
  simp
theorem stepExt {P : Program} {n : Nat} {o : Oper} {f : Nat} {tm : Nat → AV} {hp : Hp} {g : AO} {xs : List AO} (ho : cOp P o.op o.type = .call g xs) (hd : ∀ d, o.dst = some d → d < n)
    {fid : FuncId} {caps : List AV} (hg : evO tm g = .func fid caps) {foot : List Nat} {v : AV} (h : ExtOk P n fid (xs.map (evO tm) ++ caps) hp foot v) : StepOk P n o f tm hp foot v noEff := by
  intro c A μ fr tm' hp' a w K Q H h1 h2 h3 hK
  have hev : ∀ x ∈ (cOp P o.op o.type).opers, evO tm' x = evO tm x := by
    intro x hx
    cases x with
    | t t => exact h1 t hx
    | c x => rfl
  have hop := cOp_call ho
  obtain ⟨g', args, ts, ho', rfl, rfl⟩ := hop
  rw [ho] at hev
  have hg' := hev (cO g') (by simp [AOp.opers])
  have hgr := H.ev g'
  rw [hg', hg] at hgr
  obtain ⟨cvs, e1, e2⟩ := hgr
  have hxs : (args.toList.map cO).map (evO tm) = args.toList.map fun x => evO tm' (cO x) := by
    rw [List.map_map]
    refine List.map_congr_left fun x hx => ?_
    exact (hev (cO x) (by simp only [AOp.opers, List.mem_cons, List.mem_map]; exact .inr ⟨x, hx, rfl⟩)).symm
  rw [hxs] at h
  have hargs := (H.evs args.toList).append e2
  obtain ⟨cv, q1, q2⟩ := h c A μ fr tm' hp' a w _ H h2 hargs
  unfold Oper.wp
  have ea : args.map a.eval ++ cvs.toArray = (args.toList.map a.eval ++ cvs).toArray := by apply Array.ext'; simp
  rw [exec_callf ho' e1, ea, q1, Oper.upon_value]
  exact hK _ _ _ _ ((H.free fun b hb => hb.1).put o.dst hd q2)
theorem stepCall {P : Program} {n : Nat} {o : Oper} {f : Nat} {tm : Nat → AV} {hp : Hp} {g : AO} {xs : List AO} (ho : cOp P o.op o.type = .call g xs) (hd : ∀ d, o.dst = some d → d < n)
    {fid : FuncId} {caps : List AV} (hg : evO tm g = .func fid caps) {foot : List Nat} {v : AV} {e : Eff} (h : CallOk P n fid (xs.map (evO tm) ++ caps) f hp foot v e) : StepOk P n o f tm hp foot v e := by
  intro c A μ fr tm' hp' a w K Q H h1 h2 h3 hK
  have hev : ∀ x ∈ (cOp P o.op o.type).opers, evO tm' x = evO tm x := by
    intro x hx
    cases x with
    | t t => exact h1 t hx
    | c x => rfl
  obtain ⟨⟨fn, f1, f2, f3⟩, hcall⟩ := h
  have hop := cOp_call ho
  obtain ⟨g', args, ts, ho', rfl, rfl⟩ := hop
  rw [ho] at hev
  have hg' := hev (cO g') (by simp [AOp.opers])
  have hgr := H.ev g'
  rw [hg', hg] at hgr
  obtain ⟨cvs, e1, e2⟩ := hgr
  have hxs : (args.toList.map cO).map (evO tm) = args.toList.map fun x => evO tm' (cO x) := by
    rw [List.map_map]
    refine List.map_congr_left fun x hx => ?_
    exact (hev (cO x) (by simp only [AOp.opers, List.mem_cons, List.mem_map]; exact .inr ⟨x, hx, rfl⟩)).symm
  rw [hxs] at hcall
  have hargs := (H.evs args.toList).append e2
  have := hcall c A μ fr tm' hp' a w _ H h2 h3 hargs
  unfold Oper.wp
  rw [exec_callv ho' e1 f1 f2 f3, Oper.upon_enter]
  have ea : args.map a.eval ++ cvs.toArray = (args.toList.map a.eval ++ cvs).toArray := by apply Array.ext'; simp
  rw [ea]
  refine this.mono ?_
  rintro e' w' ⟨cv, A', μ', rfl, r1, r2⟩
  exact hK _ _ _ _ (r1.put o.dst hd r2)
end Go.Am
