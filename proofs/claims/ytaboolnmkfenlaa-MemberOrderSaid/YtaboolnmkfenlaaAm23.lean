/- The walk over compact code: one step at a time. -/
import Derived.Test.YtaboolnmkfenlaaAm22
namespace Go.Am
set_option linter.unusedVariables false
set_option linter.unusedSimpArgs false

abbrev AOp.isCall : AOp → Bool
  | .call _ _ => true
  | .isNil _ _ _ => true
  | .lit _ _ _ _ => true
  | _ => false

section
variable {P : Program} {k n : Nat} {tm : Nat → AV} {hp : Hp}

theorem upd_at {α : Type} (f : Nat → α) (t : Nat) (v : α) (x : Nat) : upd f t v x = if x = t then v else f x := id rfl

/-! ### A region in the order of its text -/
def goT (P : Program) (n : Nat) (o : Out) (d : Option Nat) (os : List AOper) (f : Nat) (tm : Nat → AV) (hp : Hp) (K : S2 → Nat → Prop) : Prop :=
  o.c ∧ evT P n os (f + 16) ⟨putD d o.v tm, hpAfter o hp⟩ K
theorem evT_nil {f : Nat} {K : S2 → Nat → Prop} : evT P n [] f ⟨tm, hp⟩ K = K ⟨tm, hp⟩ f := rfl
theorem evT_op {d : Option Nat} {op : AOp} {os : List AOper} {f : Nat} {K : S2 → Nat → Prop} (h : op.isCall = false) :
    evT P n (⟨d, op, none⟩ :: os) f ⟨tm, hp⟩ K = goT P n (evA op f (evO tm) hp) d os f tm hp K := by
  cases op <;> first | rfl | simp [AOp.isCall] at h
theorem evT_isNil {d : Option Nat} {ptr ne : Bool} {x : AO} {os : List AOper} {f : Nat} {K : S2 → Nat → Prop} :
    evT P n (⟨d, .isNil ptr ne x, none⟩ :: os) f ⟨tm, hp⟩ K = (nilOk ptr (evO tm x) ∧ ∀ t, nilA hp (evO tm x) t → evT P n os (f + 16) ⟨putD d (.bool (t != ne)) tm, hp⟩ K) := rfl
theorem goT_mk {c : Prop} {v : AV} {d : Option Nat} {os : List AOper} {f : Nat} {K : S2 → Nat → Prop} {rm : Option Nat} {ad : Option (Nat × Blk)} :
    goT P n { c := c, v := v, rm := rm, ad := ad } d os f tm hp K = (c ∧ evT P n os (f + 16) ⟨putD d v tm, hpAfter { c := True, rm := rm, ad := ad } hp⟩ K) := rfl
theorem evT_g {d : Option Nat} {op : AOp} {os : List AOper} {f g : Nat} {want : Bool} {K : S2 → Nat → Prop} (t : Option Bool) (h : gv (tm g) = some t)
    (h1 : t = some want → evT P n (⟨d, op, none⟩ :: os) f ⟨tm, hp⟩ K) (h2 : ¬ t = some want → evT P n os (f + 16) ⟨putD d (.tup []) tm, hp⟩ K) : evT P n (⟨d, op, some (g, want)⟩ :: os) f ⟨tm, hp⟩ K :=
  ⟨t, h, fun e => h1 e, h2⟩
theorem evT_gT {d : Option Nat} {op : AOp} {os : List AOper} {f g : Nat} {want : Bool} {K : S2 → Nat → Prop} (h : tm g = .val (.bool want)) :
    evT P n (⟨d, op, some (g, want)⟩ :: os) f ⟨tm, hp⟩ K = evT P n (⟨d, op, none⟩ :: os) f ⟨tm, hp⟩ K := by
  apply propext
  constructor
  · rintro ⟨t, h0, h1, _⟩
    rw [show (S2.mk tm hp).tm g = tm g from rfl, h] at h0
    cases h0
    exact h1 rfl
  · exact fun H => ⟨some want, by rw [show (S2.mk tm hp).tm g = tm g from rfl, h]; rfl, fun _ => H, fun e => absurd rfl e⟩
theorem evT_gN {d : Option Nat} {op : AOp} {os : List AOper} {f g : Nat} {want : Bool} {K : S2 → Nat → Prop} (h : tm g = .tup []) :
    evT P n (⟨d, op, some (g, want)⟩ :: os) f ⟨tm, hp⟩ K = evT P n os (f + 16) ⟨putD d (.tup []) tm, hp⟩ K := by
  apply propext
  constructor
  · rintro ⟨t, h0, _, h1⟩
    rw [show (S2.mk tm hp).tm g = tm g from rfl, h] at h0
    cases h0
    exact h1 (by simp)
  · exact fun H => ⟨none, by rw [show (S2.mk tm hp).tm g = tm g from rfl, h]; rfl, fun e => by simp at e, fun _ => H⟩
theorem evT_gF {d : Option Nat} {op : AOp} {os : List AOper} {f g : Nat} {want : Bool} {K : S2 → Nat → Prop} (h : tm g = .val (.bool (!want))) :
    evT P n (⟨d, op, some (g, want)⟩ :: os) f ⟨tm, hp⟩ K = evT P n os (f + 16) ⟨putD d (.tup []) tm, hp⟩ K := by
  apply propext
  constructor
  · rintro ⟨t, h0, _, h1⟩
    rw [show (S2.mk tm hp).tm g = tm g from rfl, h] at h0
    cases h0
    exact h1 (by cases want <;> simp)
  · exact fun H => ⟨some (!want), by rw [show (S2.mk tm hp).tm g = tm g from rfl, h]; rfl, fun e => by cases want <;> simp at e, fun _ => H⟩
theorem evT_call {d : Option Nat} {g : AO} {xs : List AO} {os : List AOper} {f : Nat} {K : S2 → Nat → Prop} {fid : FuncId} {caps args : List AV} {foot : List Nat} {v : AV} {e : Eff}
    (hg : evO tm g = .func fid caps) (hx : xs.map (evO tm) ++ caps = args) (hc : CallOk P n fid args f hp foot v e) (hK : evT P n os (f + 16) ⟨putD d v tm, hpEff e hp⟩ K) :
    evT P n (⟨d, .call g xs, none⟩ :: os) f ⟨tm, hp⟩ K :=
  ⟨fid, caps, foot, v, e, hg, .inl (by rw [← hx] at hc; exact hc), hK⟩
theorem evT_ext {d : Option Nat} {g : AO} {xs : List AO} {os : List AOper} {f : Nat} {K : S2 → Nat → Prop} {fid : FuncId} {caps args : List AV} {foot : List Nat} {v : AV}
    (hg : evO tm g = .func fid caps) (hx : xs.map (evO tm) ++ caps = args) (hc : ExtOk P n fid args hp foot v) (hK : evT P n os (f + 16) ⟨putD d v tm, hp⟩ K) :
    evT P n (⟨d, .call g xs, none⟩ :: os) f ⟨tm, hp⟩ K :=
  ⟨fid, caps, foot, v, noEff, hg, .inr ⟨by rw [← hx] at hc; exact hc, rfl⟩, hK⟩
theorem evT_lit {d : Option Nat} {k N : Nat} {z : AV} {ps : List (Nat × AO)} {os : List AOper} {f : Nat} {K : S2 → Nat → Prop}
    (h : goT P n (evA (.lit k N z ps) f (evO tm) hp) d os f tm hp K) : evT P n (⟨d, .lit k N z ps, none⟩ :: os) f ⟨tm, hp⟩ K := .inl h
theorem evT_litv {d : Option Nat} {k N : Nat} {z : AV} {ps : List (Nat × AO)} {os : List AOper} {f : Nat} {K : S2 → Nat → Prop}
    (h : goT P n (evL k N z ps f (evO tm)) d os f tm hp K) : evT P n (⟨d, .lit k N z ps, none⟩ :: os) f ⟨tm, hp⟩ K := .inr h
/-- A call of a function whose contract is on values alone. -/
theorem evT_pure {d : Option Nat} {g : AO} {xs : List AO} {os : List AOper} {f : Nat} {K : S2 → Nat → Prop} {fid : FuncId} {args : List AV} {v : AV}
    (hs : PSpec P fid args v) (hf : FnOk P fid) (hg : evO tm g = .func fid []) (hx : xs.map (evO tm) = args) (hp1 : pureL args) (hK : evT P n os (f + 16) ⟨putD d v tm, hp⟩ K) :
    evT P n (⟨d, .call g xs, none⟩ :: os) f ⟨tm, hp⟩ K :=
  evT_call hg (by simpa using hx) (CallOk.pure hf hs hp1) (by rw [hpEff_no]; exact hK)

/-! ### A drawn region -/
def goD (P : Program) (n : Nat) (o : Out) (rd : List Nat) (d : Option Nat) (os : List AOper) (f : Nat) (tm : Nat → AV) (hp : Hp) (lg : Log) (K : S2 → Nat → Log → Prop) : Prop :=
  o.c ∧ evD P n os (f + 16) ⟨putD d o.v tm, hpAfter o hp⟩ (lg ++ [(rd, wrH o)]) K
theorem evD_nil {f : Nat} {lg : Log} {K : S2 → Nat → Log → Prop} : evD P n [] f ⟨tm, hp⟩ lg K = K ⟨tm, hp⟩ f lg := rfl
theorem evD_op {d : Option Nat} {op : AOp} {os : List AOper} {f : Nat} {lg : Log} {K : S2 → Nat → Log → Prop} (h : op.isCall = false) :
    evD P n (⟨d, op, none⟩ :: os) f ⟨tm, hp⟩ lg K = goD P n (evA op f (evO tm) hp) (rdH op tm) d os f tm hp lg K := by
  cases op <;> first | rfl | simp [AOp.isCall] at h
theorem goD_mk {c : Prop} {v : AV} {d : Option Nat} {os : List AOper} {f : Nat} {lg : Log} {rd : List Nat} {K : S2 → Nat → Log → Prop} {rm : Option Nat} {ad : Option (Nat × Blk)} :
    goD P n { c := c, v := v, rm := rm, ad := ad } rd d os f tm hp lg K = (c ∧ evD P n os (f + 16) ⟨putD d v tm, hpAfter { c := True, rm := rm, ad := ad } hp⟩ (lg ++ [(rd, rm.toList ++ (ad.toList.map (·.1)))]) K) := rfl
theorem evD_g {d : Option Nat} {op : AOp} {os : List AOper} {f g : Nat} {want : Bool} {lg : Log} {K : S2 → Nat → Log → Prop} (t : Option Bool) (h : gv (tm g) = some t)
    (h1 : t = some want → evD P n (⟨d, op, none⟩ :: os) f ⟨tm, hp⟩ lg K) (h2 : ¬ t = some want → evD P n os (f + 16) ⟨putD d (.tup []) tm, hp⟩ (lg ++ [([], [])]) K) : evD P n (⟨d, op, some (g, want)⟩ :: os) f ⟨tm, hp⟩ lg K :=
  ⟨t, h, fun e => h1 e, h2⟩
theorem evD_gT {d : Option Nat} {op : AOp} {os : List AOper} {f g : Nat} {want : Bool} {lg : Log} {K : S2 → Nat → Log → Prop} (h : tm g = .val (.bool want)) :
    evD P n (⟨d, op, some (g, want)⟩ :: os) f ⟨tm, hp⟩ lg K = evD P n (⟨d, op, none⟩ :: os) f ⟨tm, hp⟩ lg K := by
  apply propext
  constructor
  · rintro ⟨t, h0, h1, _⟩
    rw [show (S2.mk tm hp).tm g = tm g from rfl, h] at h0
    cases h0
    exact h1 rfl
  · exact fun H => ⟨some want, by rw [show (S2.mk tm hp).tm g = tm g from rfl, h]; rfl, fun _ => H, fun e => absurd rfl e⟩
theorem evD_gN {d : Option Nat} {op : AOp} {os : List AOper} {f g : Nat} {want : Bool} {lg : Log} {K : S2 → Nat → Log → Prop} (h : tm g = .tup []) :
    evD P n (⟨d, op, some (g, want)⟩ :: os) f ⟨tm, hp⟩ lg K = evD P n os (f + 16) ⟨putD d (.tup []) tm, hp⟩ (lg ++ [([], [])]) K := by
  apply propext
  constructor
  · rintro ⟨t, h0, _, h1⟩
    rw [show (S2.mk tm hp).tm g = tm g from rfl, h] at h0
    cases h0
    exact h1 (by simp)
  · exact fun H => ⟨none, by rw [show (S2.mk tm hp).tm g = tm g from rfl, h]; rfl, fun e => by simp at e, fun _ => H⟩
theorem evD_gF {d : Option Nat} {op : AOp} {os : List AOper} {f g : Nat} {want : Bool} {lg : Log} {K : S2 → Nat → Log → Prop} (h : tm g = .val (.bool (!want))) :
    evD P n (⟨d, op, some (g, want)⟩ :: os) f ⟨tm, hp⟩ lg K = evD P n os (f + 16) ⟨putD d (.tup []) tm, hp⟩ (lg ++ [([], [])]) K := by
  apply propext
  constructor
  · rintro ⟨t, h0, _, h1⟩
    rw [show (S2.mk tm hp).tm g = tm g from rfl, h] at h0
    cases h0
    exact h1 (by cases want <;> simp)
  · exact fun H => ⟨some (!want), by rw [show (S2.mk tm hp).tm g = tm g from rfl, h]; rfl, fun e => by cases want <;> simp at e, fun _ => H⟩
theorem evD_call {d : Option Nat} {g : AO} {xs : List AO} {os : List AOper} {f : Nat} {lg : Log} {K : S2 → Nat → Log → Prop} {fid : FuncId} {caps args : List AV} {foot : List Nat} {v : AV} {e : Eff} (wr : List Nat)
    (hg : evO tm g = .func fid caps) (hx : xs.map (evO tm) ++ caps = args) (hc : CallOk P n fid args f hp foot v e) (hw : ∀ b, e b ≠ none → b ∈ wr) (hK : evD P n os (f + 16) ⟨putD d v tm, hpEff e hp⟩ (lg ++ [(foot, wr)]) K) :
    evD P n (⟨d, .call g xs, none⟩ :: os) f ⟨tm, hp⟩ lg K :=
  ⟨fid, caps, foot, v, e, wr, hg, .inl (by rw [← hx] at hc; exact hc), hw, hK⟩
theorem evD_lit {d : Option Nat} {k N : Nat} {z : AV} {ps : List (Nat × AO)} {os : List AOper} {f : Nat} {lg : Log} {K : S2 → Nat → Log → Prop}
    (h : goD P n (evA (.lit k N z ps) f (evO tm) hp) (rdH (.lit k N z ps) tm) d os f tm hp lg K) : evD P n (⟨d, .lit k N z ps, none⟩ :: os) f ⟨tm, hp⟩ lg K := .inl h
theorem evD_litv {d : Option Nat} {k N : Nat} {z : AV} {ps : List (Nat × AO)} {os : List AOper} {f : Nat} {lg : Log} {K : S2 → Nat → Log → Prop}
    (h : goD P n (evL k N z ps f (evO tm)) [] d os f tm hp lg K) : evD P n (⟨d, .lit k N z ps, none⟩ :: os) f ⟨tm, hp⟩ lg K := .inr h
theorem evD_pure {d : Option Nat} {g : AO} {xs : List AO} {os : List AOper} {f : Nat} {lg : Log} {K : S2 → Nat → Log → Prop} {fid : FuncId} {args : List AV} {v : AV}
    (hs : PSpec P fid args v) (hf : FnOk P fid) (hg : evO tm g = .func fid []) (hx : xs.map (evO tm) = args) (hp1 : pureL args) (hK : evD P n os (f + 16) ⟨putD d v tm, hp⟩ (lg ++ [([], [])]) K) :
    evD P n (⟨d, .call g xs, none⟩ :: os) f ⟨tm, hp⟩ lg K :=
  evD_call [] hg (by simpa using hx) (CallOk.pure hf hs hp1) (fun b h => absurd rfl h) (by rw [hpEff_no]; exact hK)

theorem pickV_true (x y : AV) : pickV true x y = x := by
  unfold pickV; split <;> simp
theorem pickV_false (x y : AV) : pickV false x y = y := by
  unfold pickV; split <;> simp

/-! ### Code -/
theorem AWP.seqI {x y : AC} {Q : X → S3 → Prop} {s : S3} (I : S3 → Prop) (h : AWP P k n x (thenX I Q) s) (h' : ∀ s, I s → AWP P k n y Q s) : AWP P k n (.seq x y) Q s :=
  AWP.seq (h.mono fun e s hq => by
    cases e with
    | normal => exact h' s hq
    | exit id => exact hq
    | ret => exact hq)

/-! ### The end -/
theorem finP_ret {res : List AR} {r : AV} {s : S3} {xs : List AV} (h : resL s res = some xs) (h2 : pack xs = r) (h3 : r.pure) : finP n res r .ret s :=
  ⟨s, Weak.refl, ⟨xs, h, h2⟩, h3⟩
def AllAt (hp : Hp) : Nat → List (Option Blk) → Prop
  | _, [] => True
  | i, none :: l => AllAt hp (i + 1) l
  | i, some x :: l => hp i = some x ∧ AllAt hp (i + 1) l
theorem AllAt.get : ∀ {l : List (Option Blk)} {i : Nat}, AllAt hp i l → ∀ {b x}, l[b]? = some (some x) → hp (i + b) = some x
  | none :: l, i, h, 0, x, e => by simp at e
  | some y :: l, i, h, 0, x, e => by simp at e; subst e; exact h.1
  | none :: l, i, h, b + 1, x, e => by
      have := AllAt.get (l := l) h (b := b) (x := x) (by simpa using e)
      rw [← this]; congr 1; omega
  | some y :: l, i, h, b + 1, x, e => by
      have := AllAt.get (l := l) h.2 (b := b) (x := x) (by simpa using e)
      rw [← this]; congr 1; omega
theorem fin_ret {res : List AR} {r : AV} {h' : List (Option Blk)} {s : S3} {xs : List AV} (h : resL s res = some xs) (h2 : pack xs = r) (h3 : AllAt s.hp 0 h') : fin k n res r h' .ret s :=
  ⟨s, Weak.refl, ⟨xs, h, h2⟩, fun b x e => by have := h3.get (hpOf_opt.mp e); simpa using this⟩

/-- The end of a function that hands out blocks: bs are their names in the frame. -/
def resT : List (Nat × AV) → Nat → AV
  | [], _ => .unk
  | (t, x) :: l, u => if u = t then x else resT l u
def AllRen (hp : Hp) (bs : List Nat) (m : Nat) : Nat → List (Option Blk) → Prop
  | _, [] => True
  | i, none :: l => AllRen hp bs m (i + 1) l
  | i, some x :: l => (hp (bs.getD i 0) = some (x.ren fun i => bs.getD i 0) ∧ x.bel m) ∧ AllRen hp bs m (i + 1) l
theorem AllRen.get {bs : List Nat} {m : Nat} : ∀ {l : List (Option Blk)} {i : Nat}, AllRen hp bs m i l → ∀ {b x}, l[b]? = some (some x) → hp (bs.getD (i + b) 0) = some (x.ren fun i => bs.getD i 0) ∧ x.bel m
  | none :: l, i, h, 0, x, e => by simp at e
  | some y :: l, i, h, 0, x, e => by simp at e; subst e; exact h.1
  | none :: l, i, h, b + 1, x, e => by
      have := AllRen.get (l := l) h (b := b) (x := x) (by simpa using e)
      rw [show i + (b + 1) = i + 1 + b by omega]; exact this
  | some y :: l, i, h, b + 1, x, e => by
      have := AllRen.get (l := l) h.2 (b := b) (x := x) (by simpa using e)
      rw [show i + (b + 1) = i + 1 + b by omega]; exact this
theorem fin_ren {res : List AR} {r : AV} {h' : List (Option Blk)} {s : S3} (bs : List Nat) (ts : List (Nat × AV)) {xs : List AV} (h : resL ⟨resT ts, hpOf h', h'.length⟩ res = some xs) (h2 : pack xs = r)
    (h3 : ∀ p ∈ ts, s.tm p.1 = p.2.ren (fun i => bs.getD i 0) ∧ p.2.bel h'.length) (h4 : AllRen s.hp bs h'.length 0 h') (h5 : bs.length = h'.length) (h6 : bs.Nodup) (h7 : ∀ b, b < k → bs.getD b 0 = b) (h8 : k ≤ h'.length) :
    fin k n res r h' .ret s := by
  refine ⟨⟨resT ts, hpOf h', h'.length⟩, ?_, ⟨xs, h, h2⟩, fun b x e => e⟩
  refine Weak.ren (fun i => bs.getD i 0) (fun t => ?_) (fun b x e => ?_) (fun b b' e e' he => ?_) h7 h8
  · show resT ts t = .unk ∨ _
    clear h
    induction ts with
    | nil => exact .inl rfl
    | cons p l ih =>
      obtain ⟨t', x⟩ := p
      show (if t = t' then x else resT l t) = .unk ∨ (s.tm t = (if t = t' then x else resT l t).ren _ ∧ _)
      by_cases ht : t = t'
      · subst ht
        have := h3 (t, x) (by simp)
        simp only [resT, ↓reduceIte]
        exact .inr this
      · have := ih (fun p hp => h3 p (by simp [hp]))
        simp only [resT, if_neg ht]
        exact this
  · have e := hpOf_opt.mp e
    have := h4.get e
    have hb : b < h'.length := (List.getElem?_eq_some_iff.mp e).1
    simp only [Nat.zero_add] at this
    exact ⟨hb, this.1, this.2⟩
  · have hb : ∀ {b}, hpOf h' b ≠ none → b < h'.length := by
      intro b e
      rcases Nat.lt_or_ge b h'.length with g | g
      · exact g
      · exact absurd (by simp [hpOf, List.getElem?_eq_none g]) e
    have h1 := hb e
    have h2' := hb e'
    have g1 : b < bs.length := by omega
    have g2 : b' < bs.length := by omega
    simp only [List.getD_eq_getElem?_getD, List.getElem?_eq_getElem g1, List.getElem?_eq_getElem g2, Option.getD_some] at he
    exact (List.getElem_inj h6).mp he
end
end Go.Am
