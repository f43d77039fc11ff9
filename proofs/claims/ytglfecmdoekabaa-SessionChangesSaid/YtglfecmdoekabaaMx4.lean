/- The machine Mx: regions. -/
import Derived.Test.YtglfecmdoekabaaMx3
namespace Go.Am
set_option linter.unusedVariables false
set_option linter.unusedSimpArgs false

theorem cond_p {b : Bool} {R : Prop} (h : cond b R False) : b = true ∧ R := by
  cases b with
  | true => exact ⟨rfl, h⟩
  | false => exact h.elim
section
variable {P : Program} {Sf : Nat → Type} {T : Type}
abbrev KO (P : Program) (Sf : Nat → Type) (T : Type) := An P Sf T → S2 → List Nat × List Nat → Prop

def callR (fid : FuncId) (args : List AV) (dst : Option Nat) (f : Nat) (s : S2) (a : An P Sf T) (K : KO P Sf T) : Prop :=
  match a with
  | .callP c a' => cond (Nat.beq fid c.f) (fitL c.sh (viewL s.hp args) = c.args ∧ cond (pureBL args) (K a' ⟨putD dst c.r s.tm, s.hp⟩ ([], []))
      (cond c.r.flatB (cond (pureBLs (visL s.hp args)) (K a' ⟨putD dst c.r s.tm, s.hp⟩ (idsL args, [])) False) False)) False
  | .callH bs c a' => cond (Nat.beq fid c.f) (cond (Nat.beq bs.length c.h.length) (cond (nodupB bs) (fitL c.sh args = renL (piOf bs f) c.args ∧ (bs.map s.hp = c.h.map fun x => some (renBk (piOf bs f) x)) ∧
      K a' ⟨putD dst (c.r.ren (piOf bs f)) s.tm, hpEff (handP bs f c.h') s.hp⟩ (bs, handIds bs f c.h')) False) False) False
  | _ => False

def plainR (o : AOper) (f : Nat) (s : S2) (a : An P Sf T) (K : KO P Sf T) : Prop :=
  cond (okB o.op (evO s.tm) s.hp) (K a ⟨putD o.dst (evA o.op f (evO s.tm) s.hp).v s.tm, hpAfter (evA o.op f (evO s.tm) s.hp) s.hp⟩ (rdH o.op s.tm, wrH (evA o.op f (evO s.tm) s.hp))) False

def baseR (o : AOper) (f : Nat) (s : S2) (a : An P Sf T) (K : KO P Sf T) : Prop :=
  match o.op with
  | .call g xs => match evO s.tm g with
    | .func fid caps => callR fid (xs.map (evO s.tm) ++ caps) o.dst f s a K
    | _ => False
  | .lit k n z ps => cond (litB k n (ps.map fun (i, x) => (i, evO s.tm x))) (cond (litPB (ps.map fun (i, x) => (i, evO s.tm x)))
      (K a ⟨putD o.dst (.sl k (litA (List.replicate n z) (ps.map fun (i, x) => (i, evO s.tm x))) true) s.tm, s.hp⟩ (rdH o.op s.tm, [])) False) False
  | .isNil _ _ _ => False
  | _ => plainR o f s a K

def elR (o : AOper) (f : Nat) (s : S2) {α : Type} (v : α → AV) (l : List α) (k : α → An P Sf T) (K : KO P Sf T) : Prop :=
  match o.op with
  | .iaddr kk x i => match evO s.tm i with
    | .val (.int _ i) => match evO s.tm x with
      | .sl k' es _ => es = l.map v ∧ cond (Nat.beq k' kk) (cond (decide (0 ≤ i)) (cond (decide (i < (l.length : Int))) (∀ x, l[i.toNat]? = some x → K (k x) ⟨putD o.dst (.rptr (v x) 0) s.tm, s.hp⟩ (rdH o.op s.tm, [])) False) False) False
      | _ => False
    | _ => False
  | .load agg size x => match evO s.tm x with
    | .eref b i off => match s.hp b with
      | some (.vec _ es) => es = l.map v ∧ cond (decide (i < l.length)) (∀ x, l[i]? = some x → cond (partB (v x) off size agg) (K (k x) ⟨putD o.dst (partA (v x) off size agg) s.tm, s.hp⟩ (rdH o.op s.tm, [])) False) False
      | _ => False
    | .ref b off => match s.hp b with
      | some (.box (.agg cs)) => cs = l.map v ∧ cond (cond agg false (Nat.beq size 1)) (cond (decide (off < l.length)) (∀ x, l[off]? = some x → K (k x) ⟨putD o.dst (v x) s.tm, s.hp⟩ (rdH o.op s.tm, [])) False) False
      | _ => False
    | .rptr (.agg cs) off => cs = l.map v ∧ cond (cond agg false (Nat.beq size 1)) (cond (decide (off < l.length)) (∀ x, l[off]? = some x → K (k x) ⟨putD o.dst (v x) s.tm, s.hp⟩ (rdH o.op s.tm, [])) False) False
    | _ => False
  | .indexA n kk agg x i => match evO s.tm i with
    | .val (.int _ i) => match evO s.tm x with
      | .agg cs => cs = l.map v ∧ cond (cond agg false (Nat.beq kk 1)) (cond (decide (0 ≤ i)) (cond (decide (i < n)) (cond (decide (i.toNat < l.length)) (∀ x, l[i.toNat]? = some x → K (k x) ⟨putD o.dst (v x) s.tm, s.hp⟩ (rdH o.op s.tm, [])) False) False) False) False
      | _ => False
    | _ => False
  | _ => False

/-- An element of an array whose elements are structures. -/
def elAR (o : AOper) (f : Nat) (s : S2) {α : Type} (v : α → List AV) (l : List α) (i n : Nat) (k : α → An P Sf T) (K : KO P Sf T) : Prop :=
  match o.op with
  | .load agg size x => match evO s.tm x with
    | .ref b off => match s.hp b with
      | some (.box (.agg cs)) => cs = l.flatMap v ∧ off = i * n ∧ cond agg (cond (Nat.beq size n) (cond (decide (i < l.length)) (∀ x, l[i]? = some x → K (k x) ⟨putD o.dst (.agg (v x)) s.tm, s.hp⟩ (rdH o.op s.tm, [])) False) False) False
      | _ => False
    | _ => False
  | _ => False

def stR (o : AOper) (f : Nat) (s : S2) {α : Type} (v : α → AV) (l : List α) (g : α → α) (k : α → An P Sf T) (K : KO P Sf T) : Prop :=
  match o.op with
  | .store size a x => match evO s.tm a with
    | .eref b i off => match s.hp b with
      | some (.vec kk es) => es = l.map v ∧ cond (decide (i < l.length)) (∀ y, l[i]? = some y → cond (setB (v y) off size (evO s.tm x)) (setPart (v y) off (evO s.tm x) = v (g y) ∧
          K (k y) ⟨putD o.dst .unk s.tm, upd (upd s.hp b none) b (some (.vec kk ((l.set i (g y)).map v)))⟩ (rdH o.op s.tm, [b, b])) False) False
      | _ => False
    | .ref b off => match s.hp b with
      | some (.box (.agg cs)) => cs = l.map v ∧ cond (Nat.beq size 1) (cond (evO s.tm x).solid (cond (evO s.tm x).isAgg False (cond (decide (off < l.length)) (∀ y, l[off]? = some y → evO s.tm x = v (g y) ∧
          K (k y) ⟨putD o.dst .unk s.tm, upd (upd s.hp b none) b (some (.box (.agg ((l.set off (g y)).map v))))⟩ (rdH o.op s.tm, [b, b])) False)) False) False
      | _ => False
    | _ => False
  | _ => False

def stIR (o : AOper) (f : Nat) (s : S2) {α : Type} (v : α → AV) (l : List α) (k : α → An P Sf T) (K : KO P Sf T) : Prop :=
  match o.op with
  | .store size a x => match evO s.tm a with
    | .eref b i off => match s.hp b with
      | some (.vec kk es) => es = l.map v ∧ cond (decide (i < l.length)) (∀ y, l[i]? = some y → cond (setB (v y) off size (evO s.tm x))
          (K (k y) ⟨putD o.dst .unk s.tm, upd (upd s.hp b none) b (some (.vec kk ((l.map v).set i (setPart (v y) off (evO s.tm x)))))⟩ (rdH o.op s.tm, [b, b])) False) False
      | _ => False
    | _ => False
  | _ => False
/-- What is appended; a part of a row is compared with its length. -/
def srcB (hp : Hp) (k : Nat) (x : AV) (K : List AV → Prop) : Prop := match x with
  | .vsub b lo n => match hp b with
    | some (.vec k' es) => cond (Nat.beq k' k) (cond (decide (lo + n ≤ es.length)) (K ((es.drop lo).take n)) False) False
    | _ => False
  | x => match srcA hp k x with
    | some ys => K ys
    | none => False
theorem srcB_ok {hp : Hp} {k : Nat} {x : AV} {K : List AV → Prop} (h : srcB hp k x K) : ∃ ys, srcA hp k x = some ys ∧ K ys := by
  unfold srcB at h
  split at h
  · rename_i b lo n
    split at h
    · rename_i k' es e
      obtain ⟨h1, q⟩ := cond_p h
      obtain ⟨h2, q'⟩ := cond_p q
      refine ⟨_, ?_, q'⟩
      simp only [srcA, e]
      rw [if_pos ⟨Nat.eq_of_beq_eq_true h1, of_decide_eq_true h2⟩]
    · exact h.elim
  · split at h
    · rename_i ys e; exact ⟨ys, e, h⟩
    · exact h.elim
def appR (o : AOper) (f : Nat) (s : S2) {α : Type} (v : α → AV) (l xs : List α) (a : An P Sf T) (K : KO P Sf T) : Prop :=
  match o.op with
  | .append kk bytes sx x => srcB s.hp kk (evO s.tm x) fun ys => match evO s.tm sx with
      | .sl _ es full => es = l.map v ∧ ys = xs.map v ∧ cond (cond full (cond (Nat.ble bytes 134217728) es.isEmpty false) false) (cond (decide (l.length + xs.length ≤ 1000000))
          (K a ⟨putD o.dst (.vec f) s.tm, upd s.hp f (some (.vec kk ((l ++ xs).map v)))⟩ (rdH o.op s.tm, [f])) False) False
      | .vec b => match s.hp b with
        | some (.vec k' es) => es = l.map v ∧ ys = xs.map v ∧ cond (cond (Nat.beq k' kk) (Nat.ble bytes 134217728) false) (cond (decide (l.length + xs.length ≤ 1000000))
            (K a ⟨putD o.dst (.vec f) s.tm, upd (upd s.hp b none) f (some (.vec kk ((l ++ xs).map v)))⟩ (rdH o.op s.tm, [b, f])) False) False
        | _ => False
      | _ => False
  | _ => False

def appFR (o : AOper) (f : Nat) (s : S2) {α : Type} (v : α → AV) (l xs : List α) (a : An P Sf T) (K : KO P Sf T) : Prop :=
  match o.op with
  | .append kk bytes sx x => srcB s.hp kk (evO s.tm x) fun ys => match evO s.tm sx with
      | .sl k' es full => es = l.map v ∧ ys = xs.map v ∧ cond (cond full (cond (Nat.ble bytes 134217728) (Nat.beq k' kk) false) false) (cond (decide (0 < xs.length)) (cond (decide (l.length + xs.length ≤ 1000000))
          (K a ⟨putD o.dst (.vec f) s.tm, upd s.hp f (some (.vec kk ((l ++ xs).map v)))⟩ (rdH o.op s.tm, [f])) False) False) False
      | _ => False
  | _ => False

def subR (o : AOper) (f : Nat) (s : S2) {α : Type} (v : α → AV) (l : List α) (fl : Bool) (a : An P Sf T) (K : KO P Sf T) : Prop :=
  match o.op with
  | .slice kk x lo hi mx => match evO s.tm x with
    | .sl k' es full => es = l.map v ∧ cond (Nat.beq k' kk) (match optI (evO s.tm) lo, optI (evO s.tm) hi, optI (evO s.tm) mx with
      | some lo, some hi, some mx => cond (cond mx.isSome hi.isSome true) (cond (bndB l.length (lo.getD 0) (hi.getD l.length) (mx.getD l.length))
          (cond fl (cond (mx.isSome || full) (cond (decide (hi.getD l.length = mx.getD l.length))
              (K a ⟨putD o.dst (.sl kk (((l.take (hi.getD l.length).toNat).drop (lo.getD 0).toNat).map v) true) s.tm, s.hp⟩ (rdH o.op s.tm, [])) False) False)
            (K a ⟨putD o.dst (.sl kk (((l.take (hi.getD l.length).toNat).drop (lo.getD 0).toNat).map v) (cond (mx.isSome || full) (decide (hi.getD l.length = mx.getD l.length)) false)) s.tm, s.hp⟩ (rdH o.op s.tm, []))) False) False
      | _, _, _ => False) False
    | .vec b => match s.hp b with
      | some (.vec k' es) => es = l.map v ∧ cond (Nat.beq k' kk) (cond (decide (0 < l.length)) (match optI (evO s.tm) lo, optI (evO s.tm) hi, mx with
        | some lo, some hi, none => cond (bndB l.length (lo.getD 0) (hi.getD l.length) l.length)
            (K a ⟨putD o.dst (.vsub b (lo.getD 0).toNat (hi.getD l.length - lo.getD 0).toNat) s.tm, s.hp⟩ (rdH o.op s.tm, [])) False
        | _, _, _ => False) False) False
      | _ => False
    | _ => False
  | _ => False

def repR (o : AOper) (f : Nat) (s : S2) {α : Type} (v : α → AV) (x : α) (a : An P Sf T) (K : KO P Sf T) : Prop :=
  match o.op with
  | .mks kk bytes z l c => match evO s.tm l with
    | .val (.int .i64 n) => z = v x ∧ cond (okB (.mks kk bytes z l c) (evO s.tm) s.hp) (K a ⟨putD o.dst (.vec f) s.tm, upd s.hp f (some (.vec kk ((List.replicate n.toNat x).map v)))⟩ (rdH o.op s.tm, [f])) False
    | _ => False
  | _ => False

def ownR (o : AOper) (f : Nat) (s : S2) (a : An P Sf T) (K : KO P Sf T) : Prop :=
  match o.op with
  | .lit k n z ps => cond (litB k n (ps.map fun (i, x) => (i, evO s.tm x)))
      (K a ⟨putD o.dst (.vec f) s.tm, upd s.hp f (some (.vec k (litA (List.replicate n z) (ps.map fun (i, x) => (i, evO s.tm x)))))⟩ ([], [f])) False
  | _ => False

def opR (o : AOper) (f : Nat) (s : S2) : An P Sf T → KO P Sf T → Prop
  | .el g v l k, K => cond (Nat.beq g f) (elR o f s v l k K) (baseR o f s (.el g v l k) K)
  | .elA g v l i n hv k, K => cond (Nat.beq g f) (elAR o f s v l i n k K) (baseR o f s (.elA g v l i n hv k) K)
  | .st g v l x k, K => cond (Nat.beq g f) (stR o f s v l x k K) (baseR o f s (.st g v l x k) K)
  | .stI g v l k, K => cond (Nat.beq g f) (stIR o f s v l k K) (baseR o f s (.stI g v l k) K)
  | .app g v l xs a', K => cond (Nat.beq g f) (appR o f s v l xs a' K) (baseR o f s (.app g v l xs a') K)
  | .appF g v l xs a', K => cond (Nat.beq g f) (appFR o f s v l xs a' K) (baseR o f s (.appF g v l xs a') K)
  | .sub g v l fl a', K => cond (Nat.beq g f) (subR o f s v l fl a' K) (baseR o f s (.sub g v l fl a') K)
  | .rep g v x a', K => cond (Nat.beq g f) (repR o f s v x a' K) (baseR o f s (.rep g v x a') K)
  | .own g a', K => cond (Nat.beq g f) (ownR o f s a' K) (baseR o f s (.own g a') K)
  | .req g p k, K => cond (Nat.beq g f) (∃ h : p, opR o f s (k h) K) (baseR o f s (.req g p k) K)
  | a, K => baseR o f s a K

/-! ### An operation's text is what the notes say -/
def Goes (P : Program) (n : Nat) (o : AOper) (f : Nat) (s s' : S2) (l : List Nat × List Nat) : Prop :=
  (∀ K : S2 → Prop, K s' → exT P n o f s K) ∧ (∀ K : S2 → List Nat × List Nat → Prop, K s' l → exD P n o f s K)
def plainOp : AOp → Bool
  | .call _ _ => false
  | .lit _ _ _ _ => false
  | .isNil _ _ _ => false
  | _ => true
theorem goes_plain {n : Nat} {o : AOper} {f : Nat} {s : S2} (hp : plainOp o.op = true) (hc : (evA o.op f (evO s.tm) s.hp).c) :
    Goes P n o f s ⟨putD o.dst (evA o.op f (evO s.tm) s.hp).v s.tm, hpAfter (evA o.op f (evO s.tm) s.hp) s.hp⟩ (rdH o.op s.tm, wrH (evA o.op f (evO s.tm) s.hp)) := by
  obtain ⟨d, op, g⟩ := o
  refine ⟨fun K h => ?_, fun K h => ?_⟩ <;> cases op <;> first | exact ⟨hc, h⟩ | cases hp
theorem goes_as {n : Nat} {o : AOper} {f : Nat} {s : S2} (hp : plainOp o.op = true) {c : Prop} {v : AV} {rm : Option Nat} {ad : Option (Nat × Blk)} (he : evA o.op f (evO s.tm) s.hp = { c := c, v := v, rm := rm, ad := ad }) (hc : c) :
    Goes P n o f s ⟨putD o.dst v s.tm, hpAfter { c := True, rm := rm, ad := ad } s.hp⟩ (rdH o.op s.tm, rm.toList ++ ad.toList.map (·.1)) := by
  have := goes_plain (P := P) (n := n) (o := o) (f := f) (s := s) hp (by rw [he]; exact hc)
  rw [he] at this
  exact this
theorem hpEff_none (hp : Hp) : hpEff noEff hp = hp := rfl

theorem callR_ok {n : Nat} {g : AO} {xs : List AO} {dst : Option Nat} {gd : Option (Nat × Bool)} {f : Nat} {s : S2} {a : An P Sf T} {K : KO P Sf T} {fid : FuncId} {caps : List AV} (hg : evO s.tm g = .func fid caps)
    (h : callR fid (xs.map (evO s.tm) ++ caps) dst f s a K) : ∃ a' s' l, K a' s' l ∧ Goes P n ⟨dst, .call g xs, gd⟩ f s s' l := by
  unfold callR at h
  split at h
  · rename_i c a'
    obtain ⟨b1, q⟩ := cond_p h
    clear h
    have b1 := Nat.eq_of_beq_eq_true b1
    subst b1
    obtain ⟨h2, h⟩ := q
    cases hp : pureBL (xs.map (evO s.tm) ++ caps) with
    | true =>
      rw [hp] at h
      rw [viewL_pure hp] at h2
      have hs : SubL (xs.map (evO s.tm) ++ caps) c.args := h2 ▸ fitL_sub _ _
      have hc : CallOk P n c.f (xs.map (evO s.tm) ++ caps) f s.hp [] c.r noEff := CallOk.pure c.fn (c.ok.sub hs Sub.refl) (pureBL_ok hp)
      exact ⟨_, _, _, h, fun K hK => ⟨c.f, caps, [], c.r, noEff, hg, .inl hc, hK⟩, fun K hK => ⟨c.f, caps, [], c.r, noEff, [], hg, .inl hc, fun b hb => absurd rfl hb, hK⟩⟩
    | false =>
      rw [hp] at h
      obtain ⟨h3, h⟩ := cond_p h
      obtain ⟨h4, h⟩ := cond_p h
      have hs : SubL (viewL s.hp (xs.map (evO s.tm) ++ caps)) c.args := h2 ▸ fitL_sub _ _
      have hc : CallOk P n c.f (xs.map (evO s.tm) ++ caps) f s.hp (idsL (xs.map (evO s.tm) ++ caps)) c.r noEff := CallOk.lend c.fn (c.ok.sub hs Sub.refl) (viewL_ok h4 fun b hb => hb) (AV.flatB_ok h3)
      exact ⟨_, _, _, h, fun K hK => ⟨c.f, caps, _, c.r, noEff, hg, .inl hc, hK⟩, fun K hK => ⟨c.f, caps, _, c.r, noEff, [], hg, .inl hc, fun b hb => absurd rfl hb, hK⟩⟩
  · rename_i bs c a'
    obtain ⟨b1, q⟩ := cond_p h
    clear h
    have b1 := Nat.eq_of_beq_eq_true b1
    subst b1
    obtain ⟨h2, q⟩ := cond_p q
    obtain ⟨h3, h4, h5, h⟩ := cond_p q
    have hs : SubL (xs.map (evO s.tm) ++ caps) (renL (piOf bs f) c.args) := h4 ▸ fitL_sub _ _
    have hc := CallOk.subargs hs (CallOk.handP (n := n) c.fn c.ok bs c.good (Nat.eq_of_beq_eq_true h2) (nodupB_ok h3) h5)
    exact ⟨_, _, _, h, fun K hK => ⟨c.f, caps, _, _, _, hg, .inl hc, hK⟩, fun K hK => ⟨c.f, caps, _, _, _, _, hg, .inl hc, fun b hb => handP_mem hb, hK⟩⟩
  · exact h.elim

theorem baseR_ok {n : Nat} {o : AOper} {f : Nat} {s : S2} {a : An P Sf T} {K : KO P Sf T} (h : baseR o f s a K) : ∃ a' s' l, K a' s' l ∧ Goes P n o f s s' l := by
  have plain : plainOp o.op = true → plainR o f s a K → ∃ a' s' l, K a' s' l ∧ Goes P n o f s s' l := fun hp h => by
    obtain ⟨h1, h⟩ := cond_p h
    exact ⟨_, _, _, h, goes_plain hp (okB_sound h1)⟩
  obtain ⟨d, op, g⟩ := o
  cases op
  case call gg xs =>
    simp only [baseR] at h
    split at h
    · rename_i fid caps e; exact callR_ok e h
    · exact h.elim
  case lit k N z ps =>
    obtain ⟨h1, h⟩ := cond_p h
    obtain ⟨h2, h⟩ := cond_p h
    exact ⟨_, _, _, h, fun K hK => .inl ⟨⟨litB_ok h1, litPB_ok h2⟩, hK⟩, fun K hK => .inl ⟨⟨litB_ok h1, litPB_ok h2⟩, hK⟩⟩
  case isNil => exact h.elim
  all_goals exact plain rfl h

theorem getD_of {α : Type} {l : List α} {v : α → AV} {i : Nat} {x : α} (h : l[i]? = some x) : (l.map v).getD i .unk = v x := by
  rw [List.getD_eq_getElem?_getD, List.getElem?_map, h]; rfl
theorem partA_cell {cs : List AV} {off : Nat} : partA (.agg cs) off 1 false = cs.getD off .unk := by
  unfold partA
  rw [if_neg (by simp [AV.isAgg])]
  rfl
theorem elR_ok {n : Nat} {o : AOper} {f : Nat} {s : S2} {α : Type} {v : α → AV} {l : List α} {k : α → An P Sf T} {K : KO P Sf T} (h : elR o f s v l k K) : ∃ a' s' l', K a' s' l' ∧ Goes P n o f s s' l' := by
  obtain ⟨d, op, g⟩ := o
  cases op
  case iaddr kk x i =>
    simp only [elR] at h
    split at h
    · rename_i ki i' e1
      split at h
      · rename_i k' es full e2
        obtain ⟨rfl, h⟩ := h
        obtain ⟨h1, h⟩ := cond_p h
        obtain ⟨h2, h⟩ := cond_p h
        obtain ⟨h3, h⟩ := cond_p h
        have h2 := of_decide_eq_true h2
        have h3 := of_decide_eq_true h3
        have hi : i'.toNat < l.length := by omega
        have hx : l[i'.toNat]? = some l[i'.toNat] := List.getElem?_eq_getElem hi
        refine ⟨_, _, _, h _ hx, goes_as rfl (rm := none) (ad := none) (c := k' = kk ∧ 0 ≤ i' ∧ i' < ((l.map v).length : Int)) ?_ ⟨Nat.eq_of_beq_eq_true h1, h2, by rw [List.length_map]; exact h3⟩⟩
        simp only [evA, e1, e2, getD_of hx]
      · exact h.elim
    · exact h.elim
  case load agg size x =>
    simp only [elR] at h
    split at h
    · rename_i b i off e1
      split at h
      · rename_i kk es e2
        obtain ⟨rfl, h⟩ := h
        obtain ⟨h1, h⟩ := cond_p h
        have h1 := of_decide_eq_true h1
        have hx : l[i]? = some l[i] := List.getElem?_eq_getElem h1
        obtain ⟨h2, h⟩ := cond_p (h _ hx)
        refine ⟨_, _, _, h, goes_as rfl (rm := none) (ad := none) (c := i < (l.map v).length ∧ partOk (v l[i]) off size agg) ?_ ⟨by rw [List.length_map]; exact h1, partB_ok h2⟩⟩
        simp only [evA, e1, e2, getD_of hx]
      · exact h.elim
    · rename_i b off e1
      split at h
      · rename_i cs e2
        obtain ⟨rfl, h⟩ := h
        obtain ⟨h0, h⟩ := cond_p h
        obtain ⟨h1, h⟩ := cond_p h
        have h1 := of_decide_eq_true h1
        have hx : l[off]? = some l[off] := List.getElem?_eq_getElem h1
        cases agg with
        | true => cases h0
        | false =>
          have h0 : size = 1 := Nat.eq_of_beq_eq_true h0
          subst h0
          refine ⟨_, _, _, h _ hx, goes_as rfl (rm := none) (ad := none) (c := partOk (.agg (l.map v)) off 1 false) ?_ ⟨rfl, by simp only [AV.cells, List.length_map]; omega, fun _ => rfl⟩⟩
          simp only [evA, e1, e2, partA_cell, getD_of hx]
      · exact h.elim
    · rename_i cs off e1
      obtain ⟨rfl, h⟩ := h
      obtain ⟨h0, h⟩ := cond_p h
      obtain ⟨h1, h⟩ := cond_p h
      have h1 := of_decide_eq_true h1
      have hx : l[off]? = some l[off] := List.getElem?_eq_getElem h1
      cases agg with
      | true => cases h0
      | false =>
        have h0 : size = 1 := Nat.eq_of_beq_eq_true h0
        subst h0
        refine ⟨_, _, _, h _ hx, goes_as rfl (rm := none) (ad := none) (c := partOk (.agg (l.map v)) off 1 false) ?_ ⟨rfl, by simp only [AV.cells, List.length_map]; omega, fun _ => rfl⟩⟩
        simp only [evA, e1, partA_cell, getD_of hx]
    · exact h.elim
  case indexA N kk agg x i =>
    simp only [elR] at h
    split at h
    · rename_i ki i' e1
      split at h
      · rename_i cs e2
        obtain ⟨rfl, h⟩ := h
        obtain ⟨h0, h⟩ := cond_p h
        obtain ⟨h1, h⟩ := cond_p h
        obtain ⟨h2, h⟩ := cond_p h
        obtain ⟨h3, h⟩ := cond_p h
        have h3 := of_decide_eq_true h3
        have hx : l[i'.toNat]? = some l[i'.toNat] := List.getElem?_eq_getElem h3
        cases agg with
        | true => cases h0
        | false =>
          have h0 : kk = 1 := Nat.eq_of_beq_eq_true h0
          subst h0
          refine ⟨_, _, _, h _ hx, goes_as rfl (rm := none) (ad := none) (c := (AV.agg (l.map v)).isAgg = true ∧ 0 ≤ i' ∧ i' < N ∧ partOk (.agg (l.map v)) (i'.toNat * 1) 1 false) ?_
            ⟨rfl, of_decide_eq_true h1, of_decide_eq_true h2, rfl, by simp only [AV.cells, List.length_map]; omega, fun _ => rfl⟩⟩
          simp only [evA, e1, e2, AV.cells, Nat.mul_one, getD_of hx]
          rfl
      · exact h.elim
    · exact h.elim
  all_goals exact h.elim

theorem flatV_len {α : Type} {l : List α} {v : α → List AV} {n : Nat} (hv : ∀ x, (v x).length = n) : (l.flatMap v).length = l.length * n := by
  induction l with
  | nil => simp
  | cons a l ih => rw [List.flatMap_cons, List.length_append, hv, ih, List.length_cons, Nat.succ_mul, Nat.add_comm]
theorem flatV_get {α : Type} {v : α → List AV} {n : Nat} (hv : ∀ x, (v x).length = n) : ∀ {l : List α} {i : Nat} {x : α}, l[i]? = some x → ((l.flatMap v).drop (i * n)).take n = v x
  | [], i, x, h => by simp at h
  | a :: l, 0, x, h => by
    simp only [List.getElem?_cons_zero, Option.some.injEq] at h
    subst h
    rw [Nat.zero_mul, List.drop_zero, List.flatMap_cons, List.take_append_of_le_length (by rw [hv]; exact Nat.le_refl _), List.take_of_length_le (by rw [hv]; exact Nat.le_refl _)]
  | a :: l, i + 1, x, h => by
    rw [List.getElem?_cons_succ] at h
    rw [List.flatMap_cons, Nat.succ_mul, List.drop_append, List.drop_eq_nil_of_le (by rw [hv]; omega), List.nil_append, hv, Nat.add_sub_cancel]
    exact flatV_get hv h
theorem partA_flat {cs : List AV} {off size : Nat} : partA (.agg cs) off size true = .agg ((cs.drop off).take size) := by
  unfold partA
  split
  · rename_i h
    obtain ⟨rfl, h, -⟩ := h
    have h : cs.length = size := h
    rw [List.drop_zero, List.take_of_length_le (by omega)]
  · rfl
theorem elAR_ok {n : Nat} {o : AOper} {f : Nat} {s : S2} {α : Type} {v : α → List AV} {l : List α} {i m : Nat} (hv : ∀ x, (v x).length = m) {k : α → An P Sf T} {K : KO P Sf T} (h : elAR o f s v l i m k K) : ∃ a' s' l', K a' s' l' ∧ Goes P n o f s s' l' := by
  obtain ⟨d, op, g⟩ := o
  cases op
  case load agg size x =>
    simp only [elAR] at h
    split at h
    · rename_i b off e1
      split at h
      · rename_i cs e2
        obtain ⟨rfl, rfl, h⟩ := h
        obtain ⟨h0, q⟩ := cond_p h
        obtain ⟨h1, q'⟩ := cond_p q
        obtain ⟨h2, q''⟩ := cond_p q'
        have h1 := Nat.eq_of_beq_eq_true h1
        have h2 := of_decide_eq_true h2
        clear h q q'
        subst h0; subst h1
        have hx : l[i]? = some l[i] := List.getElem?_eq_getElem h2
        have hl : i * size + size ≤ (l.flatMap v).length := by
          rw [flatV_len hv, ← Nat.succ_mul]; exact Nat.mul_le_mul_right _ h2
        refine ⟨_, _, _, q'' _ hx, goes_as rfl (rm := none) (ad := none) (c := partOk (.agg (l.flatMap v)) (i * size) size true) ?_ ⟨rfl, hl, fun e => by cases e⟩⟩
        simp only [evA, e1, e2, partA_flat, flatV_get hv hx]
      · exact h.elim
    · exact h.elim
  all_goals exact h.elim

theorem set_of {α : Type} {l : List α} {v : α → AV} {i : Nat} {x : α} : (l.map v).set i (v x) = (l.set i x).map v := by rw [List.map_set]
theorem splice_one {cs : List AV} {off : Nat} {x : AV} (h : off < cs.length) : splice cs off [x] = cs.set off x := by
  unfold splice
  rw [List.set_eq_take_append_cons_drop, if_pos h]
  simp
theorem stR_ok {n : Nat} {o : AOper} {f : Nat} {s : S2} {α : Type} {v : α → AV} {l : List α} {g : α → α} {k : α → An P Sf T} {K : KO P Sf T} (h : stR o f s v l g k K) : ∃ a' s' l', K a' s' l' ∧ Goes P n o f s s' l' := by
  obtain ⟨d, op, gd⟩ := o
  cases op
  case store size a x =>
    simp only [stR] at h
    split at h
    · rename_i b i off e1
      split at h
      · rename_i kk es e2
        obtain ⟨rfl, h⟩ := h
        obtain ⟨h1, h⟩ := cond_p h
        have h1 := of_decide_eq_true h1
        have hx : l[i]? = some l[i] := List.getElem?_eq_getElem h1
        obtain ⟨h2, h3, h⟩ := cond_p (h _ hx)
        refine ⟨_, _, _, h, goes_as rfl (v := .unk) (rm := some b) (ad := some (b, .vec kk ((l.set i (g l[i])).map v))) (c := i < (l.map v).length ∧ setOk (v l[i]) off size (evO s.tm x)) ?_ ⟨by rw [List.length_map]; exact h1, setB_ok h2⟩⟩
        simp only [evA, e1, e2, getD_of hx, h3, set_of]
      · exact h.elim
    · rename_i b off e1
      split at h
      · rename_i cs e2
        obtain ⟨rfl, h⟩ := h
        obtain ⟨h0, h⟩ := cond_p h
        obtain ⟨h1, h⟩ := cond_p h
        cases h2 : (evO s.tm x).isAgg with
        | true => rw [h2] at h; exact h.elim
        | false =>
          rw [h2] at h
          obtain ⟨h3, h⟩ := cond_p h
          have h3 := of_decide_eq_true h3
          have hx : l[off]? = some l[off] := List.getElem?_eq_getElem h3
          obtain ⟨h4, h⟩ := h _ hx
          have h0 : size = 1 := Nat.eq_of_beq_eq_true h0
          subst h0
          have hc : (evO s.tm x).cells = [evO s.tm x] := by
            revert h2; cases evO s.tm x <;> simp [AV.isAgg, AV.cells]
          refine ⟨_, _, _, h, goes_as rfl (v := .unk) (rm := some b) (ad := some (b, .box (.agg ((l.set off (g l[off])).map v)))) (c := setOk (.agg (l.map v)) off 1 (evO s.tm x)) ?_ ⟨rfl, h1, by rw [hc]; rfl, by simp only [AV.cells, List.length_map]; omega⟩⟩
          simp only [evA, e1, e2]
          unfold setPart
          rw [if_neg (by rw [h2]; simp [AV.isAgg]), hc]
          simp only [AV.cells]
          rw [splice_one (by rw [List.length_map]; exact h3), h4, set_of]
      · exact h.elim
    · exact h.elim
  all_goals exact h.elim

theorem stIR_ok {n : Nat} {o : AOper} {f : Nat} {s : S2} {α : Type} {v : α → AV} {l : List α} {k : α → An P Sf T} {K : KO P Sf T} (h : stIR o f s v l k K) : ∃ a' s' l', K a' s' l' ∧ Goes P n o f s s' l' := by
  obtain ⟨d, op, gd⟩ := o
  cases op
  case store size a x =>
    simp only [stIR] at h
    split at h
    · rename_i b i off e1
      split at h
      · rename_i kk es e2
        obtain ⟨rfl, h⟩ := h
        obtain ⟨h1, h⟩ := cond_p h
        have h1 := of_decide_eq_true h1
        have hx : l[i]? = some l[i] := List.getElem?_eq_getElem h1
        obtain ⟨h2, h⟩ := cond_p (h _ hx)
        refine ⟨_, _, _, h, goes_as rfl (v := .unk) (rm := some b) (ad := some (b, .vec kk ((l.map v).set i (setPart (v l[i]) off (evO s.tm x))))) (c := i < (l.map v).length ∧ setOk (v l[i]) off size (evO s.tm x)) ?_ ⟨by rw [List.length_map]; exact h1, setB_ok h2⟩⟩
        simp only [evA, e1, e2, getD_of hx]
      · exact h.elim
    · exact h.elim
  all_goals exact h.elim
theorem room {a b bytes : Nat} (h1 : bytes ≤ 134217728) (h2 : a + b ≤ 1000000) : (a + b) * bytes ≤ 2 ^ 47 ∧ a + b ≤ maxLen := by
  have : (a + b) * bytes ≤ 1000000 * 134217728 := Nat.mul_le_mul h2 h1
  have h3 : (1000000 : Nat) ≤ maxLen := by decide
  omega
theorem appR_ok {n : Nat} {o : AOper} {f : Nat} {s : S2} {α : Type} {v : α → AV} {l xs : List α} {a : An P Sf T} {K : KO P Sf T} (h : appR o f s v l xs a K) : ∃ a' s' l', K a' s' l' ∧ Goes P n o f s s' l' := by
  obtain ⟨d, op, gd⟩ := o
  cases op
  case append kk bytes sx x =>
    simp only [appR] at h
    obtain ⟨ys, e0, h⟩ := srcB_ok h
    · skip
      split at h
      · rename_i k' es full e1
        obtain ⟨rfl, rfl, h⟩ := h
        obtain ⟨h0, h⟩ := cond_p h
        obtain ⟨h1, h⟩ := cond_p h
        obtain ⟨h2, h0⟩ := cond_true_iff.mp h0
        obtain ⟨h3, h4⟩ := cond_true_iff.mp h0
        have hl : l = [] := by cases l <;> simp_all
        subst hl
        have h1 := of_decide_eq_true h1
        have hr := room (Nat.le_of_ble_eq_true h3) h1
        simp only [List.length_nil, Nat.zero_add] at hr
        refine ⟨_, _, _, h, goes_as rfl (v := .vec f) (rm := none) (ad := some (f, .vec kk (([] ++ xs).map v))) (c := full = true ∧ (xs.map v).length * bytes ≤ 2 ^ 47 ∧ (xs.map v).length ≤ maxLen) ?_ ⟨h2, by rw [List.length_map]; exact hr⟩⟩
        simp only [evA, e0, e1, appendA, List.map_nil, if_pos, List.nil_append]
      · rename_i b e1
        split at h
        · rename_i k' es e2
          obtain ⟨rfl, rfl, h⟩ := h
          obtain ⟨h0, h⟩ := cond_p h
          obtain ⟨h1, h⟩ := cond_p h
          obtain ⟨h2, h3⟩ := cond_true_iff.mp h0
          have h1 := of_decide_eq_true h1
          have hr := room (Nat.le_of_ble_eq_true h3) h1
          refine ⟨_, _, _, h, goes_as rfl (v := .vec f) (rm := some b) (ad := some (f, .vec kk ((l ++ xs).map v))) (c := k' = kk ∧ ((l.map v).length + (xs.map v).length) * bytes ≤ 2 ^ 47 ∧ (l.map v).length + (xs.map v).length ≤ maxLen) ?_
            ⟨Nat.eq_of_beq_eq_true h2, by simp only [List.length_map]; exact hr⟩⟩
          simp only [evA, e0, e1, e2, appendA, List.map_append]
        · exact h.elim
      · exact h.elim
  all_goals exact h.elim
theorem appFR_ok {n : Nat} {o : AOper} {f : Nat} {s : S2} {α : Type} {v : α → AV} {l xs : List α} {a : An P Sf T} {K : KO P Sf T} (h : appFR o f s v l xs a K) : ∃ a' s' l', K a' s' l' ∧ Goes P n o f s s' l' := by
  obtain ⟨d, op, gd⟩ := o
  cases op
  case append kk bytes sx x =>
    simp only [appFR] at h
    obtain ⟨ys, e0, h⟩ := srcB_ok h
    · skip
      split at h
      · rename_i k' es full e1
        obtain ⟨rfl, rfl, h⟩ := h
        obtain ⟨h0, h⟩ := cond_p h
        obtain ⟨h5, h⟩ := cond_p h
        obtain ⟨h1, h⟩ := cond_p h
        obtain ⟨h2, h0⟩ := cond_true_iff.mp h0
        obtain ⟨h3, h4⟩ := cond_true_iff.mp h0
        have h1 := of_decide_eq_true h1
        have h5 := of_decide_eq_true h5
        have hr := room (Nat.le_of_ble_eq_true h3) h1
        by_cases hl : l = []
        · subst hl
          simp only [List.length_nil, Nat.zero_add] at hr
          refine ⟨_, _, _, h, goes_as rfl (v := .vec f) (rm := none) (ad := some (f, .vec kk (([] ++ xs).map v))) (c := full = true ∧ (xs.map v).length * bytes ≤ 2 ^ 47 ∧ (xs.map v).length ≤ maxLen) ?_ ⟨h2, by rw [List.length_map]; exact hr⟩⟩
          simp only [evA, e0, e1, appendA, List.map_nil, if_pos, List.nil_append]
        · refine ⟨_, _, _, h, goes_as rfl (v := .vec f) (rm := none) (ad := some (f, .vec kk ((l ++ xs).map v))) (c := k' = kk ∧ full = true ∧ ((l.map v).length + (xs.map v).length) * bytes ≤ 2 ^ 47 ∧ (l.map v).length + (xs.map v).length ≤ maxLen ∧ 0 < (xs.map v).length) ?_
            ⟨Nat.eq_of_beq_eq_true h4, h2, by simp only [List.length_map]; exact hr.1, by simp only [List.length_map]; exact hr.2, by rw [List.length_map]; exact h5⟩⟩
          have hm : ¬ l.map v = [] := by simpa using hl
          simp only [evA, e0, e1, appendA, if_neg hm, List.map_append]
      · exact h.elim
  all_goals exact h.elim
theorem subR_ok {n : Nat} {o : AOper} {f : Nat} {s : S2} {α : Type} {v : α → AV} {l : List α} {fl : Bool} {a : An P Sf T} {K : KO P Sf T} (h : subR o f s v l fl a K) : ∃ a' s' l', K a' s' l' ∧ Goes P n o f s s' l' := by
  obtain ⟨d, op, gd⟩ := o
  cases op
  case slice kk x lo hi mx =>
    simp only [subR] at h
    split at h
    · rename_i k' es full e1
      obtain ⟨rfl, h⟩ := h
      obtain ⟨h0, h⟩ := cond_p h
      have h0 := Nat.eq_of_beq_eq_true h0
      subst h0
      split at h
      · rename_i lo' hi' mx' e2 e3 e4
        obtain ⟨h1, h⟩ := cond_p h
        obtain ⟨h2, h⟩ := cond_p h
        have hb := bndB_ok h2
        have key : ∀ lo hi mx : Option Int, (mx.isSome = true → hi.isSome = true) → (0 ≤ lo.getD 0 ∧ lo.getD 0 ≤ hi.getD l.length ∧ hi.getD l.length ≤ mx.getD l.length ∧ mx.getD l.length ≤ (l.length : Int)) →
            sliceA s.hp k' (.sl k' (l.map v) full) lo hi mx = { c := (sliceA s.hp k' (.sl k' (l.map v) full) lo hi mx).c, v := .sl k' (((l.take (hi.getD l.length).toNat).drop (lo.getD 0).toNat).map v) (cond (mx.isSome || full) (decide (hi.getD l.length = mx.getD l.length)) false) } ∧
            (sliceA s.hp k' (.sl k' (l.map v) full) lo hi mx).c := by
          intro lo hi mx g1 g2
          refine ⟨?_, ?_⟩
          · have e9 : ∀ a b : Bool, (a && b) = cond b a false := by decide
            simp only [sliceA, List.length_map, List.map_drop, List.map_take, e9]
          · simp only [sliceA, List.length_map]
            exact ⟨.inl trivial, g1, g2⟩
        have opt : ∀ {y : Option AO} {y' : Option Int}, optI (evO s.tm) y = some y' → (y.map (evO s.tm) = none ∧ y' = none) ∨ ∃ kk i, y.map (evO s.tm) = some (.val (.int kk i)) ∧ y' = some i := by
          intro y y' e
          cases y with
          | none => simp [optI] at e; exact .inl ⟨rfl, e.symm⟩
          | some y =>
            simp only [optI] at e
            split at e
            · rename_i kk i e'
              simp at e
              exact .inr ⟨kk, i, by simp [e'], e.symm⟩
            · cases e
        have hev : evA (.slice k' x lo hi mx) f (evO s.tm) s.hp = sliceA s.hp k' (.sl k' (l.map v) full) lo' hi' mx' ∨ (mx'.isSome = true ∧ lo' = none ∧ hi' = none) ∨ (mx'.isSome = true ∧ hi' = none) := by
          rcases opt e2 with ⟨a1, rfl⟩ | ⟨q1, i1, a1, rfl⟩ <;> rcases opt e3 with ⟨a2, rfl⟩ | ⟨q2, i2, a2, rfl⟩ <;> rcases opt e4 with ⟨a3, rfl⟩ | ⟨q3, i3, a3, rfl⟩
          · left; simp only [evA, a1, a2, a3, e1]
          · right; left; exact ⟨rfl, rfl, rfl⟩
          · left; simp only [evA, a1, a2, a3, e1, resliceA]
          · left; simp only [evA, a1, a2, a3, e1]
          · left; simp only [evA, a1, a2, a3, e1]
          · right; right; exact ⟨rfl, rfl⟩
          · left; simp only [evA, a1, a2, a3, e1]
          · left; simp only [evA, a1, a2, a3, e1]
        obtain ⟨k1, k2⟩ := key lo' hi' mx' (some_or h1) hb
        rcases hev with hev | ⟨q1, q2, q3⟩ | ⟨q1, q2⟩
        · cases fl with
          | true =>
            obtain ⟨p1, h⟩ := cond_p h
            obtain ⟨p2, h⟩ := cond_p h
            rw [p1, p2] at k1
            exact ⟨_, _, _, h, goes_as rfl (rm := none) (ad := none) (hev.trans k1) k2⟩
          | false => exact ⟨_, _, _, h, goes_as rfl (rm := none) (ad := none) (hev.trans k1) k2⟩
        · have := some_or h1 q1; rw [q3] at this; cases this
        · have := some_or h1 q1; rw [q2] at this; cases this
      · exact h.elim
    · rename_i b e1
      split at h
      · rename_i k' es e0
        obtain ⟨rfl, h⟩ := h
        obtain ⟨h0, h⟩ := cond_p h
        have h0 := Nat.eq_of_beq_eq_true h0
        subst h0
        obtain ⟨h9, h⟩ := cond_p h
        have h9 := of_decide_eq_true h9
        cases e2 : optI (evO s.tm) lo with
        | none => simp only [e2] at h
        | some lo' =>
        cases e3 : optI (evO s.tm) hi with
        | none => simp only [e2, e3] at h
        | some hi' =>
        cases mx with
        | some m => simp only [e2, e3] at h
        | none =>
          simp only [e2, e3] at h
          obtain ⟨h2, h⟩ := cond_p h
          have hb := bndB_ok h2
          have key : ∀ lo hi : Option Int, (0 ≤ lo.getD 0 ∧ lo.getD 0 ≤ hi.getD l.length ∧ hi.getD l.length ≤ l.length ∧ (l.length : Int) ≤ (l.length : Int)) →
              sliceA s.hp k' (.vec b) lo hi none = { c := (sliceA s.hp k' (.vec b) lo hi none).c, v := .vsub b (lo.getD 0).toNat (hi.getD l.length - lo.getD 0).toNat } ∧ (sliceA s.hp k' (.vec b) lo hi none).c := by
            intro lo hi g2
            refine ⟨?_, ?_⟩
            · simp only [sliceA, e0, List.length_map, h9, and_self, if_true]
            · simp only [sliceA, e0, List.length_map]
              exact ⟨trivial, fun h => by simp at h, g2⟩
          have opt : ∀ {y : Option AO} {y' : Option Int}, optI (evO s.tm) y = some y' → (y.map (evO s.tm) = none ∧ y' = none) ∨ ∃ kk i, y.map (evO s.tm) = some (.val (.int kk i)) ∧ y' = some i := by
            intro y y' e
            cases y with
            | none => simp [optI] at e; exact .inl ⟨rfl, e.symm⟩
            | some y =>
              simp only [optI] at e
              split at e
              · rename_i kk i e'
                simp at e
                exact .inr ⟨kk, i, by simp [e'], e.symm⟩
              · cases e
          have hres : ∀ h : Int, resliceA s.hp f k' (.vec b) h = sliceA s.hp k' (.vec b) none (some h) none := fun h => by simp only [resliceA, e0]
          have hev : evA (.slice k' x lo hi none) f (evO s.tm) s.hp = sliceA s.hp k' (.vec b) lo' hi' none := by
            rcases opt e2 with ⟨a1, rfl⟩ | ⟨q1, i1, a1, rfl⟩ <;> rcases opt e3 with ⟨a2, rfl⟩ | ⟨q2, i2, a2, rfl⟩ <;> simp only [evA, a1, a2, e1, Option.map_none, hres]
          obtain ⟨k1, k2⟩ := key lo' hi' hb
          exact ⟨_, _, _, h, goes_as rfl (rm := none) (ad := none) (hev.trans k1) k2⟩
      · exact h.elim
    · exact h.elim
  all_goals exact h.elim
theorem repR_ok {n : Nat} {o : AOper} {f : Nat} {s : S2} {α : Type} {v : α → AV} {x : α} {a : An P Sf T} {K : KO P Sf T} (h : repR o f s v x a K) : ∃ a' s' l', K a' s' l' ∧ Goes P n o f s s' l' := by
  obtain ⟨d, op, gd⟩ := o
  cases op
  case mks kk bytes z l c =>
    simp only [repR] at h
    split at h
    · rename_i m e1
      obtain ⟨rfl, h⟩ := h
      obtain ⟨h1, h⟩ := cond_p h
      have hc := okB_sound (f := f) h1
      simp only [okB] at h1
      split at h1
      · rename_i l' c' e2 e3
        rw [e1] at e2; cases e2
        refine ⟨_, _, _, h, goes_as rfl (v := .vec f) (rm := none) (ad := some (f, .vec kk ((List.replicate m.toNat x).map v))) (c := (evA (.mks kk bytes (v x) l c) f (evO s.tm) s.hp).c) ?_ hc⟩
        simp only [evA, e1, e3, List.map_replicate]
      · cases h1
    · exact h.elim
  all_goals exact h.elim
theorem ownR_ok {n : Nat} {o : AOper} {f : Nat} {s : S2} {a : An P Sf T} {K : KO P Sf T} (h : ownR o f s a K) : ∃ a' s' l', K a' s' l' ∧ Goes P n o f s s' l' := by
  obtain ⟨d, op, gd⟩ := o
  cases op
  case lit k N z ps =>
    obtain ⟨h1, h⟩ := cond_p h
    exact ⟨_, _, _, h, fun K hK => .inr ⟨litB_ok h1, hK⟩, fun K hK => .inr ⟨litB_ok h1, hK⟩⟩
  all_goals exact h.elim
theorem pickP {b : Bool} {X Y : Prop} (h : cond b X Y) : X ∨ Y := by cases b with
    | true => exact .inl h
    | false => exact .inr h
theorem opR_ok {n : Nat} {o : AOper} {f : Nat} {s : S2} {K : KO P Sf T} : ∀ {a : An P Sf T}, opR o f s a K → ∃ a' s' l, K a' s' l ∧ Goes P n o f s s' l
  | .el g v l k, h => (pickP h).elim elR_ok baseR_ok
  | .elA g v l i n hv k, h => (pickP h).elim (elAR_ok hv) baseR_ok
  | .st g v l x k, h => (pickP h).elim stR_ok baseR_ok
  | .stI g v l k, h => (pickP h).elim stIR_ok baseR_ok
  | .app g v l xs a', h => (pickP h).elim appR_ok baseR_ok
  | .appF g v l xs a', h => (pickP h).elim appFR_ok baseR_ok
  | .sub g v l fl a', h => (pickP h).elim subR_ok baseR_ok
  | .rep g v x a', h => (pickP h).elim repR_ok baseR_ok
  | .own g a', h => (pickP h).elim ownR_ok baseR_ok
  | .req g p k, h => (pickP h).elim (fun ⟨_, h⟩ => opR_ok h) baseR_ok
  | .nil, h | .pass _, h | .br _ _ _, h | .callP _ _, h | .callH _ _ _, h | .cmd _ _, h | .cmdL _ _, h | .wait _, h | .loop _ _ _ _ _ _ _, h | .join _ _ _ _ _, h | .join2 _ _ _ _ _, h | .back _ _ _, h | .ret _, h | .retH _ _ _, h => baseR_ok h
end
end Go.Am
