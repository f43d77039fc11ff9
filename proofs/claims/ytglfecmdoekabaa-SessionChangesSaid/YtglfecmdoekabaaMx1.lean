/- The machine Mx: compact code that carries notes is reckoned to a plain condition. Tests, notes, what an operation asks and leaves. -/
import Derived.Test.YtglfecmdoekabaaAmC
import Derived.KernelRfl
namespace Go.Am
set_option linter.unusedVariables false
set_option linter.unusedSimpArgs false

/-! ### Tests -/
mutual
def AV.pureB : AV → Bool
  | .val _ => true
  | .agg cs => pureBL cs
  | .tup xs => pureBL xs
  | .func _ caps => pureBL caps
  | .ref _ _ => false
  | .eref _ _ _ => false
  | .rptr _ _ => true
  | .vec _ => false
  | .vsub _ _ _ => false
  | .asub _ _ _ _ => false
  | .sl _ _ _ => true
  | .unk => true
def pureBL : List AV → Bool
  | [] => true
  | x :: xs => cond x.pureB (pureBL xs) false
end
mutual
def AV.flatB : AV → Bool
  | .val _ => true
  | .agg cs => flatBL cs
  | .tup xs => flatBL xs
  | _ => false
def flatBL : List AV → Bool
  | [] => true
  | x :: xs => cond x.flatB (flatBL xs) false
end
mutual
def AV.belB (k : Nat) : AV → Bool
  | .agg cs => belBL k cs
  | .tup xs => belBL k xs
  | .func _ caps => belBL k caps
  | .ref b _ => Nat.blt b k
  | .eref b _ _ => Nat.blt b k
  | .vec b => Nat.blt b k
  | .vsub b _ _ => Nat.blt b k
  | .asub b _ _ _ => Nat.blt b k
  | .val _ => true
  | .rptr _ _ => true
  | .sl _ _ _ => true
  | .unk => true
def belBL (k : Nat) : List AV → Bool
  | [] => true
  | x :: xs => cond (x.belB k) (belBL k xs) false
end
theorem cond_true_iff {a b : Bool} : cond a b false = true ↔ a = true ∧ b = true := by cases a <;> simp
mutual
theorem AV.pureB_ok : ∀ {x : AV}, x.pureB = true → x.pure
  | .val _, _ => trivial
  | .agg cs, h => pureBL_ok (xs := cs) h
  | .tup xs, h => pureBL_ok (xs := xs) h
  | .func _ caps, h => pureBL_ok (xs := caps) h
  | .ref _ _, h => by cases h
  | .eref _ _ _, h => by cases h
  | .rptr _ _, _ => trivial
  | .vec _, h => by cases h
  | .vsub _ _ _, h => by cases h
  | .asub _ _ _ _, h => by cases h
  | .sl _ _ _, _ => trivial
  | .unk, _ => trivial
theorem pureBL_ok : ∀ {xs : List AV}, pureBL xs = true → pureL xs
  | [], _ => trivial
  | x :: xs, h => by
    have h := cond_true_iff.mp h
    exact ⟨AV.pureB_ok h.1, pureBL_ok h.2⟩
end
mutual
theorem AV.flatB_ok : ∀ {x : AV}, x.flatB = true → x.flat
  | .val _, _ => trivial
  | .agg cs, h => flatBL_ok (xs := cs) h
  | .tup xs, h => flatBL_ok (xs := xs) h
  | .func _ _, h => by cases h
  | .ref _ _, h => by cases h
  | .eref _ _ _, h => by cases h
  | .rptr _ _, h => by cases h
  | .vec _, h => by cases h
  | .vsub _ _ _, h => by cases h
  | .asub _ _ _ _, h => by cases h
  | .sl _ _ _, h => by cases h
  | .unk, h => by cases h
theorem flatBL_ok : ∀ {xs : List AV}, flatBL xs = true → flatAL xs
  | [], _ => trivial
  | x :: xs, h => by
    have h := cond_true_iff.mp h
    exact ⟨AV.flatB_ok h.1, flatBL_ok h.2⟩
end
mutual
theorem AV.belB_ok {k : Nat} : ∀ {x : AV}, x.belB k = true → x.bel k
  | .val _, _ => trivial
  | .agg cs, h => belBL_ok (xs := cs) h
  | .tup xs, h => belBL_ok (xs := xs) h
  | .func _ caps, h => belBL_ok (xs := caps) h
  | .ref _ _, h => Nat.le_of_ble_eq_true h
  | .eref _ _ _, h => Nat.le_of_ble_eq_true h
  | .rptr _ _, _ => trivial
  | .vec _, h => Nat.le_of_ble_eq_true h
  | .vsub _ _ _, h => Nat.le_of_ble_eq_true h
  | .asub _ _ _ _, h => Nat.le_of_ble_eq_true h
  | .sl _ _ _, _ => trivial
  | .unk, _ => trivial
theorem belBL_ok {k : Nat} : ∀ {xs : List AV}, belBL k xs = true → belL k xs
  | [], _ => trivial
  | x :: xs, h => by
    have h := cond_true_iff.mp h
    exact ⟨AV.belB_ok h.1, belBL_ok h.2⟩
end
theorem pureBL_map {α : Type} {v : α → AV} (h : ∀ x, (v x).pureB = true) : ∀ l : List α, pureBL (l.map v) = true
  | [] => rfl
  | x :: l => cond_true_iff.mpr ⟨h x, pureBL_map h l⟩
def pureBLs : List (List AV) → Bool
  | [] => true
  | es :: r => cond (pureBL es) (pureBLs r) false

/-! ### Values that say less -/
inductive Sh where
  | k
  | s (kk : Nat)
  | a (l : List Sh)
  | v (s : Sh)
mutual
def fitA : Sh → AV → AV
  | .k, x => x
  | .s kk, .sl 0 es full => cond es.isEmpty (.sl kk es false) (.sl 0 es full)
  | .s _, .sl (k + 1) es _ => .sl (k + 1) es false
  | .s _, x => x
  | .a l, .agg cs => .agg (fitL l cs)
  | .a l, .tup cs => .tup (fitL l cs)
  | .a l, .func f cs => .func f (fitL l cs)
  | .a _, x => x
  | .v s, .sl k es _ => .sl k (es.map (fitA s)) false
  | .v _, x => x
def fitL : List Sh → List AV → List AV
  | [], xs => xs
  | _ :: _, [] => []
  | s :: l, x :: xs => fitA s x :: fitL l xs
end
theorem fitA_solid (s : Sh) (x : AV) : (fitA s x).solid = x.solid := by
  cases s with
  | k => rw [fitA]
  | s kk =>
    cases x <;> first | (rw [fitA]; done) | (rw [fitA] <;> simp; done) | skip
    rename_i k es full
    cases k with
    | zero => rw [fitA]; cases es <;> rfl
    | succ k => rw [fitA]; rfl
  | a l => cases x <;> first | (rw [fitA]; done) | (rw [fitA] <;> simp; done) | (rw [fitA]; rfl)
  | v s => cases x <;> first | (rw [fitA]; done) | (rw [fitA] <;> simp; done) | (rw [fitA]; rfl)
theorem SubL.mapS {f : AV → AV} (h : ∀ x, Sub x (f x)) : ∀ xs : List AV, SubL xs (xs.map f)
  | [] => trivial
  | x :: xs => ⟨h x, SubL.mapS h xs⟩
theorem Sub.slE {k : Nat} {es es' : List AV} {full : Bool} (h : SubL es es') (hl : es'.length = es.length) (hs : (∀ x ∈ es, x.solid = true) → ∀ x ∈ es', x.solid = true) : Sub (.sl k es full) (.sl k es' false) := by
  intro w A μ v hv
  rcases hv with ⟨h1, h2⟩ | ⟨blk, off, cap, vs, e1, e2, e3, e4, e5, e6, e7, e8⟩
  · subst h1
    exact .inl ⟨List.eq_nil_of_length_eq_zero hl, h2⟩
  · obtain ⟨e8, e9⟩ := e8
    exact .inr ⟨blk, off, cap, vs, by rw [hl]; exact e1, e2, by rw [hl]; exact e3, e4, (fun h => by cases h), h.rvl e6, e7, e8, hs e9⟩
theorem Sub.func {f : FuncId} {xs ys : List AV} (h : SubL xs ys) : Sub (.func f xs) (.func f ys) := fun w A μ v ⟨vs, h1, h2⟩ => ⟨vs, h1, h.rvl h2⟩
mutual
theorem fitA_sub : ∀ (s : Sh) (x : AV), Sub x (fitA s x)
  | .k, x => by rw [fitA]; exact Sub.refl
  | .s kk, .sl 0 es full => by
    rw [fitA]
    cases es with
    | nil => exact Sub.sl (.inr rfl) (by simp)
    | cons y es => exact Sub.refl
  | .s kk, .sl (k + 1) es full => by rw [fitA]; exact Sub.sl (.inl rfl) (by simp)
  | .s _, .val _ => by rw [fitA]; exact Sub.refl; all_goals simp
  | .s _, .agg _ => by rw [fitA]; exact Sub.refl; all_goals simp
  | .s _, .tup _ => by rw [fitA]; exact Sub.refl; all_goals simp
  | .s _, .func _ _ => by rw [fitA]; exact Sub.refl; all_goals simp
  | .s _, .ref _ _ => by rw [fitA]; exact Sub.refl; all_goals simp
  | .s _, .eref _ _ _ => by rw [fitA]; exact Sub.refl; all_goals simp
  | .s _, .rptr _ _ => by rw [fitA]; exact Sub.refl; all_goals simp
  | .s _, .vec _ => by rw [fitA]; exact Sub.refl; all_goals simp
  | .s _, .vsub _ _ _ => by rw [fitA]; exact Sub.refl; all_goals simp
  | .s _, .asub _ _ _ _ => by rw [fitA]; exact Sub.refl; all_goals simp
  | .s _, .unk => by rw [fitA]; exact Sub.refl; all_goals simp
  | .a l, .agg cs => by rw [fitA]; exact Sub.agg (fitL_sub l cs)
  | .a l, .tup cs => by rw [fitA]; exact Sub.tup (fitL_sub l cs)
  | .a l, .func f cs => by rw [fitA]; exact Sub.func (fitL_sub l cs)
  | .a _, .val _ => by rw [fitA]; exact Sub.refl; all_goals simp
  | .a _, .sl _ _ _ => by rw [fitA]; exact Sub.refl; all_goals simp
  | .a _, .ref _ _ => by rw [fitA]; exact Sub.refl; all_goals simp
  | .a _, .eref _ _ _ => by rw [fitA]; exact Sub.refl; all_goals simp
  | .a _, .rptr _ _ => by rw [fitA]; exact Sub.refl; all_goals simp
  | .a _, .vec _ => by rw [fitA]; exact Sub.refl; all_goals simp
  | .a _, .vsub _ _ _ => by rw [fitA]; exact Sub.refl; all_goals simp
  | .a _, .asub _ _ _ _ => by rw [fitA]; exact Sub.refl; all_goals simp
  | .a _, .unk => by rw [fitA]; exact Sub.refl; all_goals simp
  | .v s, .sl k es full => by
    rw [fitA]
    exact Sub.slE (SubL.mapS (fun x => fitA_sub s x) es) (by simp) fun h x hx => by
      obtain ⟨y, hy, rfl⟩ := List.mem_map.mp hx
      rw [fitA_solid]; exact h y hy
  | .v _, .val _ => by rw [fitA]; exact Sub.refl; all_goals simp
  | .v _, .agg _ => by rw [fitA]; exact Sub.refl; all_goals simp
  | .v _, .tup _ => by rw [fitA]; exact Sub.refl; all_goals simp
  | .v _, .func _ _ => by rw [fitA]; exact Sub.refl; all_goals simp
  | .v _, .ref _ _ => by rw [fitA]; exact Sub.refl; all_goals simp
  | .v _, .eref _ _ _ => by rw [fitA]; exact Sub.refl; all_goals simp
  | .v _, .rptr _ _ => by rw [fitA]; exact Sub.refl; all_goals simp
  | .v _, .vec _ => by rw [fitA]; exact Sub.refl; all_goals simp
  | .v _, .vsub _ _ _ => by rw [fitA]; exact Sub.refl; all_goals simp
  | .v _, .asub _ _ _ _ => by rw [fitA]; exact Sub.refl; all_goals simp
  | .v _, .unk => by rw [fitA]; exact Sub.refl; all_goals simp
theorem fitL_sub : ∀ (l : List Sh) (xs : List AV), SubL xs (fitL l xs)
  | [], xs => by rw [fitL]; exact SubL.refl
  | _ :: _, [] => by rw [fitL]; trivial
  | s :: l, x :: xs => by rw [fitL]; exact ⟨fitA_sub s x, fitL_sub l xs⟩
end

/-! ### Contracts as data -/
structure PC (P : Program) where
  f : FuncId
  sh : List Sh
  args : List AV
  r : AV
  ok : PSpec P f args r
  fn : FnOk P f
/-- The same contract, its arguments read with other shapes. -/
def PC.wsh {P : Program} (c : PC P) (sh : List Sh) : PC P := ⟨c.f, sh, c.args, c.r, c.ok, c.fn⟩
def Blk.pureB : Blk → Bool
  | .box x => x.pureB
  | .vec _ es => pureBL es
  | .row _ es _ _ => pureBL es
/-- Renaming of a block whose elements, if it is a row, lead nowhere. -/
def renBk (π : Nat → Nat) : Blk → Blk
  | .box x => .box (x.ren π)
  | x => x
def okBk (n : Nat) : Blk → Bool
  | .box x => x.belB n
  | .vec _ es => pureBL es
  | .row _ es _ _ => pureBL es
structure HcOk (args : List AV) (h : List Blk) (r : AV) (h' : List (Option Blk)) : Prop where
  args : belL h.length args
  hp : ∀ x ∈ h, okBk h.length x = true
  le : h.length ≤ h'.length
  le' : h'.length ≤ h.length + 16
  r : r.bel h'.length
  h' : ∀ x, some x ∈ h' → okBk h'.length x = true
def allB {α : Type} (p : α → Bool) : List α → Bool
  | [] => true
  | x :: r => cond (p x) (allB p r) false
theorem allB_ok {α : Type} {p : α → Bool} : ∀ {l : List α}, allB p l = true → ∀ x ∈ l, p x = true
  | [], _, x, hx => by simp at hx
  | y :: r, h, x, hx => by
    obtain ⟨h1, h2⟩ := cond_true_iff.mp h
    rcases List.mem_cons.mp hx with rfl | hx
    · exact h1
    · exact allB_ok h2 x hx
def okBkO (n : Nat) : Option Blk → Bool
  | some x => okBk n x
  | none => true
def hcB (args : List AV) (h : List Blk) (r : AV) (h' : List (Option Blk)) : Bool :=
  cond (belBL h.length args) (cond (allB (okBk h.length) h) (cond (Nat.ble h.length h'.length) (cond (Nat.ble h'.length (h.length + 16)) (cond (r.belB h'.length) (allB (okBkO h'.length) h') false) false) false) false) false
theorem HcOk.of {args : List AV} {h : List Blk} {r : AV} {h' : List (Option Blk)} (e : hcB args h r h' = true) : HcOk args h r h' := by
  obtain ⟨h1, e⟩ := cond_true_iff.mp e
  obtain ⟨h2, e⟩ := cond_true_iff.mp e
  obtain ⟨h3, e⟩ := cond_true_iff.mp e
  obtain ⟨h4, e⟩ := cond_true_iff.mp e
  obtain ⟨h5, h6⟩ := cond_true_iff.mp e
  exact ⟨belBL_ok h1, allB_ok h2, Nat.le_of_ble_eq_true h3, Nat.le_of_ble_eq_true h4, AV.belB_ok h5, fun x hx => allB_ok h6 _ hx⟩
structure HC (P : Program) where
  f : FuncId
  sh : List Sh
  args : List AV
  h : List Blk
  r : AV
  h' : List (Option Blk)
  ok : HSpec P f args h r h'
  fn : FnOk P f
  good : HcOk args h r h'
def HC.wsh {P : Program} (c : HC P) (sh : List Sh) : HC P := ⟨c.f, sh, c.args, c.h, c.r, c.h', c.ok, c.fn, c.good⟩

/-! ### Plain states -/
inductive PB where
  | box (x : AV)
  | vec (k : Nat) (es : List AV) (h : pureBL es = true)
  | arr (es : List AV) (h : pureBL es = true)
  | gone
def PB.blk : PB → Option Blk
  | .box x => some (.box x)
  | .vec k es _ => some (.vec k es)
  | .arr es _ => some (.box (.agg es))
  | .gone => none
def PB.ren (π : Nat → Nat) : PB → Option Blk
  | .box x => some (.box (x.ren π))
  | .vec k es _ => some (.vec k es)
  | .arr es _ => some (.box (.agg es))
  | .gone => none
def PB.isGone : PB → Bool
  | .gone => true
  | _ => false
def PB.see (v : Option Blk) : PB → Option Blk
  | .gone => none
  | _ => v
structure NF where
  ts : List (Nat × Sh × AV)
  hs : List PB
def NF.st (m : NF) : S3 := ⟨resT (m.ts.map fun p => (p.1, p.2.2)), hpL 0 (m.hs.map PB.blk), m.hs.length⟩

inductive Cmd : Type 1 where
  | frz (b : Nat)
  | frzE (b : Nat) (es : List AV) (h : pureBL es = true)
  | nilT (t k : Nat)
  | frzV (b t i : Nat) {α : Type} (v : α → AV) (l : List α) (y : AV) (x : α) (es : List AV) (h : pureBL es = true)
  | nilF (t i k : Nat)
  | nilB (b i k : Nat)
  | nilC (b k : Nat)
  | wkT (t : Nat) (s : Sh)
  | wkB (b : Nat) (s : Sh)
  | wkS (b i : Nat) (sh : Sh) {α : Type} (v : α → AV) (l : List α) (y : AV) (x : α)

/-- The notes that the machine follows. -/
inductive An (P : Program) (Sf : Nat → Type) (T : Type) : Type 1 where
  | nil
  | pass (a : An P Sf T)
  | br (g : Nat) (x y : An P Sf T)
  | el (f : Nat) {α : Type} (v : α → AV) (l : List α) (k : α → An P Sf T)
  | elA (f : Nat) {α : Type} (v : α → List AV) (l : List α) (i n : Nat) (hv : ∀ x, (v x).length = n) (k : α → An P Sf T)
  | st (f : Nat) {α : Type} (v : α → AV) (l : List α) (g : α → α) (k : α → An P Sf T)
  | stI (f : Nat) {α : Type} (v : α → AV) (l : List α) (k : α → An P Sf T)
  | app (f : Nat) {α : Type} (v : α → AV) (l xs : List α) (a : An P Sf T)
  | appF (f : Nat) {α : Type} (v : α → AV) (l xs : List α) (a : An P Sf T)
  | sub (f : Nat) {α : Type} (v : α → AV) (l : List α) (fl : Bool) (a : An P Sf T)
  | rep (f : Nat) {α : Type} (v : α → AV) (x : α) (a : An P Sf T)
  | own (f : Nat) (a : An P Sf T)
  | req (f : Nat) (p : Prop) (k : p → An P Sf T)
  | callP (c : PC P) (a : An P Sf T)
  | callH (bs : List Nat) (c : HC P) (a : An P Sf T)
  | cmd (c : Cmd) (a : An P Sf T)
  | cmdL (c : Cmd) (a : An P Sf T)
  | wait (a : An P Sf T)
  | loop (j : Nat) (nf : Sf j → NF) (I : Sf j → Prop) (mu : Sf j → Nat) (s0 : Sf j) (bs : List Nat) (body : Sf j → An P Sf T)
  | join (j : Nat) (nf : Sf j → NF) (I : Sf j → Prop) (a : An P Sf T) (body : Sf j → An P Sf T)
  | join2 (j : Nat) (nf : Sf j → NF) (I : Sf j → Prop) (a : An P Sf T) (body : Sf j → An P Sf T)
  | back (j : Nat) (t : Sf j) (bs : List Nat)
  | ret (r : T)
  | retH (r : T) (m : NF) (bs : List Nat)
section
variable {P : Program} {Sf : Nat → Type} {T : Type}
def An.l (f : Nat) : An P Sf T → An P Sf T
  | .br g x y => cond (Nat.beq g f) x (.br g x y)
  | a => a
def An.r (f : Nat) : An P Sf T → An P Sf T
  | .br g x y => cond (Nat.beq g f) y (.br g x y)
  | a => a
end

/-! ### What an operation asks -/
def partB (y : AV) (off size : Nat) (agg : Bool) : Bool := cond y.solid (cond (cond agg true (Nat.beq size 1)) (Nat.ble (off + size) y.cells.length) false) false
def setB (y : AV) (off size : Nat) (v : AV) : Bool := cond y.solid (cond v.solid (cond (Nat.beq v.cells.length size) (Nat.ble (off + size) y.cells.length) false) false) false
def fillB (n : Nat) : List (Nat × Nat × AV) → Bool
  | [] => true
  | (o, s, x) :: r => cond x.solid (cond (Nat.beq x.cells.length s) (cond (Nat.ble (o + s) n) (fillB n r) false) false) false
def litB (k n : Nat) : List (Nat × AV) → Bool
  | [] => true
  | (i, x) :: r => cond x.solid (cond (Nat.beq x.cells.length k) (cond (Nat.blt i n) (litB k n r) false) false) false
def litPB : List (Nat × AV) → Bool
  | [] => true
  | (_, x) :: r => cond x.pureB (litPB r) false
def binOkB (op : BinOp) (x y : AV) : Bool := match x, y with
  | .val (.int k _), .val (.int k' b) => match op with
    | .quo => cond (decide (k = k')) (!(b == 0)) false
    | .rem => cond (decide (k = k')) (!(b == 0)) false
    | .shl => decide (0 ≤ b)
    | .shr => decide (0 ≤ b)
    | _ => decide (k = k')
  | .val (.string a), .val (.string b) => match op with
    | .add => decide (a.size + b.size ≤ maxLen)
    | .eql | .neq | .lss | .leq | .gtr | .geq => true
    | _ => false
  | _, _ => false
def bndB (n : Nat) (l h m : Int) : Bool := cond (decide (0 ≤ l)) (cond (decide (l ≤ h)) (cond (decide (h ≤ m)) (decide (m ≤ (n : Int))) false) false) false
def sliceB (hp : Hp) (k : Nat) (x : AV) (lo hi mx : Option Int) : Bool := match x with
  | .sl k' es _ => cond (cond (Nat.beq k' k) true es.isEmpty) (cond (cond mx.isSome hi.isSome true) (bndB es.length (lo.getD 0) (hi.getD es.length) (mx.getD es.length)) false) false
  | .vec b => match hp b with
    | some (.vec k' es) => cond (Nat.beq k' k) (cond (cond mx.isSome hi.isSome true) (bndB es.length (lo.getD 0) (hi.getD es.length) (mx.getD es.length)) false) false
    | _ => false
  | _ => false
def optI (ρ : AO → AV) : Option AO → Option (Option Int)
  | none => some none
  | some x => match ρ x with
    | .val (.int _ i) => some (some i)
    | _ => none

def okB (op : AOp) (ρ : AO → AV) (hp : Hp) : Bool := match op with
  | .move _ => true
  | .pick c _ _ => match ρ c with
    | .val (.bool _) => true
    | _ => false
  | .box x => (ρ x).solid
  | .build z ps => fillB z.length (ps.map fun (o, s, x) => (o, s, ρ x))
  | .load agg size x => match ρ x with
    | .ref b off => match hp b with
      | some (.box y) => partB y off size agg
      | _ => false
    | .rptr y off => partB y off size agg
    | _ => false
  | .store size a x => match ρ a with
    | .ref b off => match hp b with
      | some (.box y) => setB y off size (ρ x)
      | _ => false
    | _ => false
  | .nilc x => match ρ x with
    | .ref _ _ => true
    | .eref _ _ _ => true
    | .rptr _ _ => true
    | .func _ _ => true
    | _ => false
  | .bin op x y => binOkB op (ρ x) (ρ y)
  | .binB op x y => match ρ x, ρ y with
    | .val (.bool _), .val (.bool _) => match op with
      | .eql => true
      | .neq => true
      | _ => false
    | _, _ => false
  | .eqs ks _ x y => match ρ x, ρ y with
    | .agg xs, .agg ys => (eqCells ks xs ys).isSome
    | _, _ => false
  | .un op x => match op, ρ x with
    | .not, .val (.bool _) => true
    | .neg, .val (.int _ _) => true
    | _, _ => false
  | .convI _ x => match ρ x with
    | .val (.int _ _) => true
    | _ => false
  | .convS x => match ρ x with
    | .val (.string _) => true
    | _ => false
  | .convSB x => match ρ x with
    | .val (.string _) => true
    | _ => false
  | .mkf _ _ => true
  | .mks _ bytes _ l c => match ρ l, ρ c with
    | .val (.int .i64 l), .val (.int .i64 c) => cond (Nat.ble bytes 134217728) (cond (decide (0 ≤ l)) (cond (decide (l ≤ c)) (decide (c ≤ 1000000)) false) false) false
    | _, _ => false
  | .sliceS x lo hi => match ρ x with
    | .val (.string s) => match bndA 0 (lo.map ρ), bndA s.size (hi.map ρ) with
      | some l, some h => cond (decide (0 ≤ l)) (cond (decide (l ≤ h)) (decide (h ≤ s.size)) false) false
      | _, _ => false
    | _ => false
  | .slice k x lo hi mx => match lo.map ρ, hi.map ρ, mx.map ρ with
    | none, none, none => sliceB hp k (ρ x) none none none
    | some (.val (.int _ l)), none, none => sliceB hp k (ρ x) (some l) none none
    | none, some (.val (.int _ h)), none => sliceB hp k (ρ x) none (some h) none
    | some (.val (.int _ l)), some (.val (.int _ h)), none => sliceB hp k (ρ x) (some l) (some h) none
    | none, some (.val (.int _ h)), some (.val (.int _ m)) => sliceB hp k (ρ x) none (some h) (some m)
    | some (.val (.int _ l)), some (.val (.int _ h)), some (.val (.int _ m)) => sliceB hp k (ρ x) (some l) (some h) (some m)
    | _, _, _ => false
  | .faddr _ x => match ρ x with
    | .ref _ _ => true
    | .eref _ _ _ => true
    | .rptr _ _ => true
    | _ => false
  | .field agg o size x => cond (ρ x).isAgg (partB (ρ x) o size agg) false
  | .iaddr k x i => match ρ i with
    | .val (.int _ i) => match ρ x with
      | .vec b => match hp b with
        | some (.vec k' es) => cond (Nat.beq k' k) (cond (decide (0 ≤ i)) (decide (i < es.length)) false) false
        | _ => false
      | .vsub b _ n => match hp b with
        | some (.vec k' _) => cond (Nat.beq k' k) (cond (decide (0 ≤ i)) (decide (i < n)) false) false
        | _ => false
      | _ => false
    | _ => false
  | .iaddrA n _ x i => match ρ i with
    | .val (.int _ i) => match ρ x with
      | .ref _ _ => cond (decide (0 ≤ i)) (decide (i < n)) false
      | .eref _ _ _ => cond (decide (0 ≤ i)) (decide (i < n)) false
      | .rptr _ _ => cond (decide (0 ≤ i)) (decide (i < n)) false
      | _ => false
    | _ => false
  | .indexS x i => match ρ x, ρ i with
    | .val (.string s), .val (.int _ i) => cond (decide (0 ≤ i)) (decide (i < s.size)) false
    | _, _ => false
  | .ext i x => match ρ x with
    | .tup xs => Nat.blt i xs.length
    | _ => false
  | .len x => match ρ x with
    | .sl _ _ _ => true
    | .vec b => match hp b with
      | some (.vec _ _) => true
      | _ => false
    | _ => false
  | .lenS x => match ρ x with
    | .val (.string _) => true
    | _ => false
  | .cap x => match ρ x with
    | .sl _ _ full => full
    | _ => false
  | .min xs => match xs.map ρ with
    | .val (.int k a) :: r => (foldI minI k a r).isSome
    | _ => false
  | .max xs => match xs.map ρ with
    | .val (.int k a) :: r => (foldI maxI k a r).isSome
    | _ => false
  | _ => false
end Go.Am
