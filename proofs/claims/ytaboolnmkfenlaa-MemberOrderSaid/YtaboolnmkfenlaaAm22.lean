/- The walk over compact code: forms for use. -/
import Derived.Test.YtaboolnmkfenlaaAm21
namespace Go.Am
set_option linter.unusedVariables false
set_option linter.unusedSimpArgs false

def initT : List AV → Nat → (Nat → AV)
  | [], _ => fun _ => .unk
  | x :: xs, k => upd (initT xs (k + 1)) k x
def initH : List Blk → Nat → Hp
  | [], _ => fun _ => none
  | x :: xs, k => upd (initH xs (k + 1)) k (some x)

theorem initT_eq : ∀ (xs : List AV) (k t : Nat), initT xs k t = if k ≤ t then xs.getD (t - k) .unk else .unk
  | [], k, t => by simp [initT]
  | x :: xs, k, t => by
    rw [initT]
    by_cases h : t = k
    · subst h; simp [upd]
    · rw [upd_ne _ _ h, initT_eq xs (k + 1) t]
      by_cases h1 : k ≤ t
      · have : t - k = (t - (k + 1)) + 1 := by omega
        rw [if_pos h1, if_pos (by omega), this]; rfl
      · rw [if_neg h1, if_neg (by omega)]
theorem initH_eq : ∀ (xs : List Blk) (k t : Nat), initH xs k t = if k ≤ t then xs[t - k]? else none
  | [], k, t => by simp [initH]
  | x :: xs, k, t => by
    rw [initH]
    by_cases h : t = k
    · subst h; simp [upd]
    · rw [upd_ne _ _ h, initH_eq xs (k + 1) t]
      by_cases h1 : k ≤ t
      · have : t - k = (t - (k + 1)) + 1 := by omega
        rw [if_pos h1, if_pos (by omega), this]; rfl
      · rw [if_neg h1, if_neg (by omega)]
theorem init_eq (n : Nat) (args : List AV) (h : List Blk) : init n args h = ⟨initT args 0, initH h 0, h.length⟩ := by
  unfold init
  congr 1
  · funext t; rw [initT_eq]; simp
  · funext t; rw [initH_eq]; simp [hpOf]; cases h[t]? <;> rfl

/-! ### What every value of an argument obeys -/
mutual
def AV.ok : AV → Prop
  | .val v => plainV v
  | .agg cs => okL cs
  | .tup xs => okL xs
  | .func _ caps => okL caps
  | .sl _ es _ => es.length ≤ maxLen ∧ okL es
  | .rptr x _ => x.ok
  | _ => True
def okL : List AV → Prop
  | [] => True
  | x :: xs => x.ok ∧ okL xs
end
section
variable {w : World} {A : Nat → Prop}
mutual
theorem RV.ok : ∀ {x : AV} {μ : Mu} {v : Value}, RV w A x μ v → x.ok
  | .val _, _, _, h => h.2
  | .agg cs, _, _, ⟨vs, h1, h2, h3⟩ => RVL.ok h2
  | .tup xs, _, _, ⟨vs, h1, h2⟩ => RVL.ok h2
  | .func f caps, _, _, ⟨vs, h1, h2⟩ => RVL.ok h2
  | .ref _ _, _, _, _ => trivial
  | .eref _ _ _, _, _, _ => trivial
  | .rptr x _, _, _, ⟨blk, o, v, h1, h2, h3, h4⟩ => (RV.ok h3 : x.ok)
  | .vec _, _, _, _ => trivial
  | .vsub _ _ _, _, _, _ => trivial
  | .asub _ _ _ _, _, _, _ => trivial
  | .sl k es full, _, _, h => by
      rcases h with ⟨h1, _⟩ | ⟨blk, off, cap, vs, h1, h2, h3, h4, h5, h6, h7⟩
      · subst h1; exact ⟨Nat.zero_le _, trivial⟩
      · exact ⟨by omega, RVL.ok h6⟩
  | .unk, _, _, _ => trivial
theorem RVL.ok : ∀ {xs : List AV} {μ : Mu} {vs : List Value}, RVL w A xs μ vs → okL xs
  | [], _, _, _ => trivial
  | x :: xs, _, _, ⟨v, vs', h1, h2, h3⟩ => ⟨RV.ok h2, RVL.ok h3⟩
end
end
theorem okL_iff : ∀ {xs : List AV}, okL xs ↔ ∀ x ∈ xs, x.ok
  | [] => by simp [okL]
  | x :: xs => by simp [okL, okL_iff (xs := xs)]
theorem pureL_iff : ∀ {xs : List AV}, pureL xs ↔ ∀ x ∈ xs, x.pure
  | [] => by simp [pureL]
  | x :: xs => by simp [pureL, pureL_iff (xs := xs)]
theorem flatAL_iff : ∀ {xs : List AV}, flatAL xs ↔ ∀ x ∈ xs, x.flat
  | [] => by simp [flatAL]
  | x :: xs => by simp [flatAL, flatAL_iff (xs := xs)]

theorem PSpec.of_ok {P : Program} {f : FuncId} {args : List AV} {r : AV} (h : okL args → PSpec P f args r) : PSpec P f args r :=
  fun w A cargs h1 h2 => h (RVL.ok h2) w A cargs h1 h2
theorem HSpec.of_ok {P : Program} {f : FuncId} {args : List AV} {hb : List Blk} {r : AV} {h' : List (Option Blk)} (h : okL args → HSpec P f args hb r h') : HSpec P f args hb r h' :=
  fun w A μ cargs h1 h2 h3 => h (RVL.ok h3) w A μ cargs h1 h2 h3

/-! ### Functions -/
theorem PSpec.walk {P : Program} {f : FuncId} {fn : Func} {af : AF} {args : List AV} {r : AV} (hf : P.funcs[f]? = some fn) (hc : cFunc P fn = some af) (hn : args.length ≤ af.n) (hr : r.pure)
    (hw : AWP P 0 af.n af.body (finP af.n af.res r) ⟨initT args 0, fun _ => none, 0⟩) : PSpec P f args r :=
  PSpec.intro hf hc hn (by rw [init_eq]; exact hw) hr
theorem HSpec.walk {P : Program} {f : FuncId} {fn : Func} {af : AF} {args : List AV} {h : List Blk} {r : AV} {h' : List (Option Blk)} (hf : P.funcs[f]? = some fn) (hc : cFunc P fn = some af) (hn : args.length ≤ af.n)
    (hw : AWP P h.length af.n af.body (fin h.length af.n af.res r h') ⟨initT args 0, initH h 0, h.length⟩) : HSpec P f args h r h' :=
  HSpec.intro hf hc hn (by rw [init_eq]; exact hw)

section
variable {P : Program} {k n : Nat} {Q : X → S3 → Prop} {tm : Nat → AV} {hp : Hp} {nx : Nat}
theorem AWP.seq' {x y : AC} (h : AWP P k n x (thenX (AWP P k n y Q) Q) ⟨tm, hp, nx⟩) : AWP P k n (.seq x y) Q ⟨tm, hp, nx⟩ := AWP.seq h
theorem AWP.reg' {ops : List AOper} (h : ∀ K : (Nat → AV) → Hp → Nat → Prop, (∀ t h x, Q .normal ⟨t, h, x⟩ → K t h x) → evT P n ops nx ⟨tm, hp⟩ (fun s f => K s.tm s.hp f)) : AWP P k n (.reg ops) Q ⟨tm, hp, nx⟩ :=
  AWP.reg (h (fun t h x => Q .normal ⟨t, h, x⟩) (fun _ _ _ h => h))
theorem AWP.dreg' {ops : List AOper} {par : List (Nat × Nat)} (h : ∀ K : (Nat → AV) → Hp → Nat → Prop, (∀ t h x, Q .normal ⟨t, h, x⟩ → K t h x) → evD P n ops nx ⟨tm, hp⟩ [] (fun s f lg => parOk par lg = true ∧ K s.tm s.hp f)) : AWP P k n (.dreg ops par) Q ⟨tm, hp, nx⟩ :=
  AWP.dreg (h (fun t h x => Q .normal ⟨t, h, x⟩) (fun _ _ _ h => h))
end

theorem upd_ap {α : Type} (f : Nat → α) (t : Nat) (v : α) (x : Nat) : upd f t v x = if x = t then v else f x := rfl
theorem evO_t (tm : Nat → AV) (t : Nat) : evO tm (.t t) = tm t := rfl
theorem evO_c (tm : Nat → AV) (x : AV) : evO tm (.c x) = x := rfl
theorem putD_some (d : Nat) (v : AV) (tm : Nat → AV) : putD (some d) v tm = upd tm d v := rfl
theorem putD_none (v : AV) (tm : Nat → AV) : putD none v tm = tm := rfl

theorem wrap64 {n : Int} (h : -9223372036854775808 ≤ n ∧ n ≤ 9223372036854775807) : IntKind.i64.wrap n = n := IntWalk.i64_in n h
theorem inK64 {n : Int} : inK .i64 n ↔ -9223372036854775808 ≤ n ∧ n ≤ 9223372036854775807 := by
  unfold inK; simp [IntKind.min, IntKind.max, IntKind.bits, IntKind.signed]
end Go.Am
