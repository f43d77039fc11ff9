/- The compact code of the machine AM, how the model's code is turned into it, and what one operation does. -/
import Derived.Test.YtaboolnmkfenlaaAm2
namespace Go.Am
set_option linter.unusedVariables false

/-! ### Compact code -/
inductive AO where
  | t (n : Nat)
  | c (x : AV)
  deriving Inhabited

inductive EK where
  | i
  | b
  | s
  deriving Inhabited

inductive AOp where
  | move (x : AO)
  | pick (c a b : AO)
  | box (x : AO)
  | build (zero : List AV) (parts : List (Nat × Nat × AO))
  | lit (k n : Nat) (zero : AV) (parts : List (Nat × AO))
  | load (agg : Bool) (size : Nat) (x : AO)
  | store (size : Nat) (a x : AO)
  | nilc (x : AO)
  | bin (op : BinOp) (x y : AO)
  | binB (op : BinOp) (x y : AO)
  | eqs (ks : List EK) (ne : Bool) (x y : AO)
  | un (op : UnOp) (x : AO)
  | convI (k : IntKind) (x : AO)
  | convBS (x : AO)
  | convS (x : AO)
  | convSB (x : AO)
  | mkf (f : FuncId) (caps : List AO)
  | mks (k bytes : Nat) (zero : AV) (l c : AO)
  | sliceS (x : AO) (lo hi : Option AO)
  | slice (k : Nat) (x : AO) (lo hi mx : Option AO)
  | sliceA (n k : Nat) (x : AO) (lo hi : Option AO)
  | faddr (off : Nat) (x : AO)
  | field (agg : Bool) (off size : Nat) (x : AO)
  | iaddr (k : Nat) (x i : AO)
  | iaddrA (n k : Nat) (x i : AO)
  | indexA (n k : Nat) (agg : Bool) (x i : AO)
  | indexS (x i : AO)
  | ext (i : Nat) (x : AO)
  | len (x : AO)
  | lenS (x : AO)
  | cap (x : AO)
  | min (xs : List AO)
  | max (xs : List AO)
  | append (k bytes : Nat) (s x : AO)
  | appendS (bytes : Nat) (s x : AO)
  | appendZ (k bytes : Nat) (z : AV) (s n : AO)
  | copy (k : Nat) (d s : AO)
  | clear (k : Nat) (z : AV) (x : AO)
  | isNil (ptr ne : Bool) (x : AO)
  | call (f : AO) (args : List AO)
  | bad
  deriving Inhabited

structure AOper where
  dst : Option Nat
  op : AOp
  guard : Option (Nat × Bool)
  deriving Inhabited

/-- Compact code: a region that draws its order bears the pairs of operations that the order leaves open and that touch memory. -/
inductive AC where
  | skip
  | reg (ops : List AOper)
  | dreg (ops : List AOper) (par : List (Nat × Nat))
  | seq (a b : AC)
  | cond (c : AO) (x y : AC)
  | block (id : Nat) (c : AC)
  | loop (c : AC)
  | exit (id : Nat)
  | ret
  | bad
  deriving Inhabited

inductive AR where
  | tmp (t : Nat)
  | cell (t : Nat) (agg : Bool) (size : Nat)
  deriving Inhabited

structure AF where
  n : Nat
  np : Nat
  res : List AR
  body : AC
  deriving Inhabited

/-! ### The turning -/
def plainB : Value → Bool
  | .bool _ => true
  | .int k n => decide (k.min ≤ n) && decide (n ≤ k.max)
  | .string s => decide (s.size ≤ maxLen)
  | .pointer none => true
  | .nilFunc => true
  | .nilIface => true
  | .float _ _ => true
  | .map none => true
  | _ => false

def ofConst1 (v : Value) : AV := match v with
  | .slice none 0 0 => .sl 0 [] true
  | v => if plainB v then .val v else .unk
def ofConst (v : Value) : AV := match v with
  | .agg cs => if cs.all (·.oneCell') then .agg (cs.toList.map ofConst1) else .unk
  | v => ofConst1 v

def cO : Operand → AO
  | .tmp t => .t t
  | .const v => .c (ofConst v)
  | .func f => .c (.func f [])
  | .global _ => .c .unk

def zeroOf (P : Program) (t : TypeId) : Option AV := ((P.info? t).bind (·.zero)).map ofConst
def sizeOf? (P : Program) (t : TypeId) : Option Nat := (P.info? t).map (·.size)
def bytesOf? (P : Program) (t : TypeId) : Option Nat := (P.info? t).map (·.bytes)
def aggOf (P : Program) (t : TypeId) : Bool := match P.underlying t with | some (.struct _) | some (.array _ _) => true | _ => false

def basicK (P : Program) (t : TypeId) : Option EK := match P.underlying t with
  | some .bool => some .b
  | some (.int _) => some .i
  | some .string => some .s
  | _ => none
def flatL (P : Program) : List Field → Nat → Option (List EK)
  | [], _ => some []
  | f :: r, j => match basicK P f.type, flatL P r (j + 1) with
    | some k, some ks => if f.offset == j && f.name != "_" then some (k :: ks) else none
    | _, _ => none
/-- Structs whose values are compared cell by cell. -/
def flatT (P : Program) (t : TypeId) : Option (List EK) := match P.underlying t with
  | some (.struct fs) => if !P.stoodInHeld t && !P.eqGuardType P.depth t then flatL P fs.toList 0 else none
  | _ => none

def cParts (P : Program) (fs : Array Field) : List (Nat × Operand) → Option (List (Nat × Nat × AO))
  | [] => some []
  | (i, x) :: r => match fs[i]? with
    | none => none
    | some f => match sizeOf? P f.type, cParts P fs r with
      | some s, some r' => some ((f.offset, s, cO x) :: r')
      | _, _ => none

def cCall (P : Program) (c : Call) (ty : TypeId) : AOp :=
  match c.callee with
  | .value f => .call (cO f) (c.args.toList.map cO)
  | .invoke _ _ => .bad
  | .builtin b =>
    match b, c.args.toList, c.argTypes.toList with
    | .len, [x], [t] => match P.underlying t with
      | some (.array n _) => if n ≤ maxLen then .move (.c (.int n)) else .bad
      | some .string => .lenS (cO x)
      | some (.slice _) => .len (cO x)
      | _ => .bad
    | .cap, [x], [t] => match P.underlying t with
      | some (.slice _) => .cap (cO x)
      | _ => .bad
    | .min, xs, _ => .min (xs.map cO)
    | .max, xs, _ => .max (xs.map cO)
    | .append, [s, x], [t, u] => match P.underlying t, P.underlying u with
      | some (.slice e), some (.slice _) => match sizeOf? P e, bytesOf? P e, (P.info? e).bind (·.zero) with
        | some k, some b, some z => if 0 < k ∧ z.cells.size = k then .append k b (cO s) (cO x) else .bad
        | _, _, _ => .bad
      | some (.slice e), some .string => match sizeOf? P e, bytesOf? P e, (P.info? e).bind (·.zero) with
        | some 1, some b, some z => if z.cells.size = 1 then .appendS b (cO s) (cO x) else .bad
        | _, _, _ => .bad
      | some (.slice e), some (.int _) => match sizeOf? P e, bytesOf? P e, zeroOf P e with
        | some k, some b, some z => if 0 < k ∧ z.solid = true ∧ z.cells.length = k then .appendZ k b z (cO s) (cO x) else .bad
        | _, _, _ => .bad
      | _, _ => .bad
    | .clear, [x], [t] => match P.underlying t with
      | some (.slice e) => match sizeOf? P e, zeroOf P e with
        | some k, some z => if 0 < k ∧ z.solid = true ∧ z.cells.length = k then .clear k z (cO x) else .bad
        | _, _ => .bad
      | _ => .bad
    | .copy, [d, s], [t, u] => match P.underlying t with
      | some (.slice e) => match sizeOf? P e with
        | some k => if 0 < k then .copy k (cO d) (cO s) else .bad
        | _ => .bad
      | _ => .bad
    | _, _, _ => .bad

def isNilC (ptr : Bool) : Operand → Bool
  | .const (.slice none _ _) => !ptr
  | .const (.pointer none) => ptr
  | _ => false
def cNil (ptr : Bool) (op : BinOp) (x y : Operand) : AOp :=
  if isNilC ptr y then
    match op with
    | .eql => .isNil ptr false (cO x)
    | .neq => .isNil ptr true (cO x)
    | _ => .bad
  else .bad

def cOp (P : Program) (op : Op) (ty : TypeId) : AOp :=
  match op with
  | .move x | .assign x => .move (cO x)
  | .pick c a b => .pick (cO c) (cO a) (cO b)
  | .alloc t => match zeroOf P t with
    | some z => .box (.c z)
    | none => .bad
  | .box _ x => .box (cO x)
  | .build t parts => match P.underlying t, zeroOf P t with
    | some (.struct fs), some (.agg z) => match cParts P fs parts.toList with
      | some ps => if fs.toList.all fun f => (sizeOf? P f.type).isSome then .build z ps else .bad
      | none => .bad
    | some (.array _ e), some (.agg z) => match sizeOf? P e with
      | some s => .build z (parts.toList.map fun (i, x) => (i * s, s, cO x))
      | none => .bad
    | _, _ => .bad
  | .buildSlice t n parts => match P.underlying t with
    | some (.slice e) => match sizeOf? P e, zeroOf P e with
      | some k, some z => if 0 < k ∧ z.solid = true ∧ z.cells.length = k ∧ n * k ≤ 2 ^ 24 then .lit k n z (parts.toList.map fun (i, x) => (i, cO x)) else .bad
      | _, _ => .bad
    | _ => .bad
  | .load t x => match P.underlying t, sizeOf? P t with
    | some _, some s => if 0 < s then .load (aggOf P t) s (cO x) else .bad
    | _, _ => .bad
  | .store t a x => match sizeOf? P t with
    | some s => if 0 < s then .store s (cO a) (cO x) else .bad
    | none => .bad
  | .nilCheck x => .nilc (cO x)
  | .binOp op t x y _ => match P.underlying t with
    | some (.struct _) => match flatT P t, op with
      | some ks, .eql => .eqs ks false (cO x) (cO y)
      | some ks, .neq => .eqs ks true (cO x) (cO y)
      | _, _ => .bad
    | some .bool => .binB op (cO x) (cO y)
    | some (.int _) => .bin op (cO x) (cO y)
    | some .string => .bin op (cO x) (cO y)
    | some (.slice _) => cNil false op x y
    | some (.pointer _) => cNil true op x y
    | _ => .bad
  | .unOp op _ x => .un op (cO x)
  | .convert s d x => match P.underlying s, P.underlying d with
    | some (.int _), some (.int k) => .convI k (cO x)
    | some .string, some .string => .convS (cO x)
    | some (.slice e), some .string => match P.underlying e with
      | some (.int .u8) => .convBS (cO x)
      | _ => .bad
    | some .string, some (.slice e) => match P.underlying e with
      | some (.int .u8) => .convSB (cO x)
      | _ => .bad
    | _, _ => .bad
  | .makeFunc (.func f) first captured => if first.size = 0 then .mkf f (captured.toList.map cO) else .bad
  | .makeSlice t l c => match P.underlying t with
    | some (.slice e) => match sizeOf? P e, bytesOf? P e, zeroOf P e with
      | some k, some b, some z => if 0 < k ∧ z.solid = true ∧ z.cells.length = k then .mks k b z (cO l) (cO c) else .bad
      | _, _, _ => .bad
    | _ => .bad
  | .slice t x lo hi mx => match P.underlying t with
    | some .string => if mx.isNone then .sliceS (cO x) (lo.map cO) (hi.map cO) else .bad
    | some (.slice e) => match sizeOf? P e with
      | some k => if 0 < k then .slice k (cO x) (lo.map cO) (hi.map cO) (mx.map cO) else .bad
      | none => .bad
    | some (.array n e) => match sizeOf? P e with
      | some k => if mx.isNone && decide (0 < k) then .sliceA n k (cO x) (lo.map cO) (hi.map cO) else .bad
      | none => .bad
    | _ => .bad
  | .fieldAddr s x i => match P.underlying s with
    | some (.struct fs) => match fs[i]? with
      | some f => match sizeOf? P f.type with
        | some n => if 0 < n then .faddr f.offset (cO x) else .bad
        | none => .bad
      | none => .bad
    | _ => .bad
  | .field s x i => match P.underlying s with
    | some (.struct fs) => match fs[i]? with
      | some f => match P.underlying f.type, sizeOf? P f.type with
        | some _, some n => if 0 < n then .field (aggOf P f.type) f.offset n (cO x) else .bad
        | _, _ => .bad
      | none => .bad
    | _ => .bad
  | .indexAddr t x i => match P.underlying t with
    | some (.slice e) => match sizeOf? P e with
      | some k => if 0 < k then .iaddr k (cO x) (cO i) else .bad
      | none => .bad
    | some (.array n e) => match sizeOf? P e with
      | some k => if 0 < k then .iaddrA n k (cO x) (cO i) else .bad
      | none => .bad
    | _ => .bad
  | .index t x i => match P.underlying t with
    | some .string => .indexS (cO x) (cO i)
    | some (.array n e) => match P.underlying e, sizeOf? P e with
      | some _, some k => if 0 < k then .indexA n k (aggOf P e) (cO x) (cO i) else .bad
      | _, _ => .bad
    | _ => .bad
  | .extract x i => .ext i (cO x)
  | .call c => cCall P c ty
  | _ => .bad

/-! ### What one operation does -/
structure Out where
  c : Prop
  v : AV := .unk
  rm : Option Nat := none
  ad : Option (Nat × Blk) := none

def Out.bad : Out := { c := False }

def hpAfter (o : Out) (hp : Hp) : Hp :=
  let h1 : Hp := match o.rm with | some b => upd hp b none | none => hp
  match o.ad with | some (f, x) => upd h1 f (some x) | none => h1

def pickV (t : Bool) (x y : AV) : AV :=
  match x, y with
  | .val (.bool p), .val (.bool q) => .val (.bool (if t then p else q))
  | x, y => if t then x else y

def splice (cs : List AV) (off : Nat) (xs : List AV) : List AV := cs.take off ++ xs ++ cs.drop (off + xs.length)

def partA (y : AV) (off size : Nat) (agg : Bool) : AV :=
  if off = 0 ∧ y.cells.length = size ∧ y.isAgg = agg then y
  else if agg then .agg ((y.cells.drop off).take size) else y.cells.getD off .unk
def partOk (y : AV) (off size : Nat) (agg : Bool) : Prop := y.solid = true ∧ off + size ≤ y.cells.length ∧ (agg = false → size = 1)

def setPart (y : AV) (off : Nat) (v : AV) : AV :=
  if off = 0 ∧ v.cells.length = y.cells.length ∧ v.isAgg = y.isAgg then v else .agg (splice y.cells off v.cells)
def setOk (y : AV) (off size : Nat) (v : AV) : Prop := y.solid = true ∧ v.solid = true ∧ v.cells.length = size ∧ off + size ≤ y.cells.length

def fillA (cs : List AV) (ps : List (Nat × Nat × AV)) : List AV := ps.foldl (fun cs p => splice cs p.1 p.2.2.cells) cs
def fillOk (n : Nat) (ps : List (Nat × Nat × AV)) : Prop := ∀ p ∈ ps, p.2.2.solid = true ∧ p.2.2.cells.length = p.2.1 ∧ p.1 + p.2.1 ≤ n

def litA (es : List AV) (ps : List (Nat × AV)) : List AV := ps.foldl (fun es p => es.set p.1 p.2) es
def litOk (k n : Nat) (ps : List (Nat × AV)) : Prop := ∀ p ∈ ps, p.2.solid = true ∧ p.2.cells.length = k ∧ p.1 < n
def litPure (ps : List (Nat × AV)) : Prop := ∀ p ∈ ps, p.2.pure

def eqCells : List EK → List AV → List AV → Option Bool
  | [], [], [] => some true
  | .i :: ks, .val (.int k a) :: xs, .val (.int k' b) :: ys => if k = k' then (eqCells ks xs ys).map ((a == b) && ·) else none
  | .b :: ks, .val (.bool a) :: xs, .val (.bool b) :: ys => (eqCells ks xs ys).map ((a == b) && ·)
  | .s :: ks, .val (.string a) :: xs, .val (.string b) :: ys => (eqCells ks xs ys).map ((a.toList == b.toList) && ·)
  | _, _, _ => none

def binA (op : BinOp) (x y : AV) : Out :=
  match x, y with
  | .val (.int k a), .val (.int k' b) =>
    match op with
    | .add => { c := k = k', v := .val (.int k (k.wrap (a + b))) }
    | .sub => { c := k = k', v := .val (.int k (k.wrap (a - b))) }
    | .mul => { c := k = k', v := .val (.int k (k.wrap (a * b))) }
    | .quo => { c := k = k' ∧ b ≠ 0, v := .val (.int k (k.wrap (a.tdiv b))) }
    | .rem => { c := k = k' ∧ b ≠ 0, v := .val (.int k (a.tmod b)) }
    | .eql => { c := k = k', v := .bool (a == b) }
    | .neq => { c := k = k', v := .bool (a != b) }
    | .lss => { c := k = k', v := .bool (decide (a < b)) }
    | .leq => { c := k = k', v := .bool (decide (a ≤ b)) }
    | .gtr => { c := k = k', v := .bool (decide (b < a)) }
    | .geq => { c := k = k', v := .bool (decide (b ≤ a)) }
    | .and => { c := k = k', v := .val (.int k (k.wrap ((BitVec.ofInt k.bits a) &&& (BitVec.ofInt k.bits b)).toNat)) }
    | .or => { c := k = k', v := .val (.int k (k.wrap ((BitVec.ofInt k.bits a) ||| (BitVec.ofInt k.bits b)).toNat)) }
    | .xor => { c := k = k', v := .val (.int k (k.wrap ((BitVec.ofInt k.bits a) ^^^ (BitVec.ofInt k.bits b)).toNat)) }
    | .andNot => { c := k = k', v := .val (.int k (k.wrap ((BitVec.ofInt k.bits a) &&& ~~~(BitVec.ofInt k.bits b)).toNat)) }
    | .shl => { c := 0 ≤ b, v := .val (.int k (k.wrap (a * 2 ^ (Nat.min b.toNat k.bits)))) }
    | .shr => { c := 0 ≤ b, v := .val (.int k (a.fdiv (2 ^ (Nat.min b.toNat k.bits)))) }
  | .val (.string a), .val (.string b) =>
    match op with
    | .add => { c := a.size + b.size ≤ maxLen, v := .str (a ++ b) }
    | .eql => { c := True, v := .bool (a.toList == b.toList) }
    | .neq => { c := True, v := .bool (!(a.toList == b.toList)) }
    | .lss => { c := True, v := .bool (Op.bytesLess a.toList b.toList) }
    | .leq => { c := True, v := .bool (Op.bytesLess a.toList b.toList || a.toList == b.toList) }
    | .gtr => { c := True, v := .bool (!(Op.bytesLess a.toList b.toList || a.toList == b.toList)) }
    | .geq => { c := True, v := .bool (!(Op.bytesLess a.toList b.toList)) }
    | _ => .bad
  | _, _ => .bad

def binBA (op : BinOp) (x y : AV) : Out :=
  match x, y with
  | .val (.bool a), .val (.bool b) =>
    match op with
    | .eql => { c := True, v := .bool (a == b) }
    | .neq => { c := True, v := .bool (!(a == b)) }
    | _ => .bad
  | _, _ => .bad

def unA (op : UnOp) (x : AV) : Out :=
  match op, x with
  | .not, .val (.bool b) => { c := True, v := .bool !b }
  | .neg, .val (.int k n) => { c := True, v := .val (.int k (k.wrap (0 - n))) }
  | _, _ => .bad

def lenA (hp : Hp) : AV → Out
  | .sl _ es _ => { c := True, v := .int es.length }
  | .vec b => match hp b with
    | some (.vec _ es) => { c := True, v := .int es.length }
    | some (.row _ _ len _) => { c := True, v := .int len }
    | _ => .bad
  | .vsub _ _ n => { c := n ≤ maxLen, v := .int n }
  | .asub _ _ n _ => { c := n ≤ maxLen, v := .int n }
  | _ => .bad

def foldI (f : Int → Int → Int) (k : IntKind) : Int → List AV → Option Int
  | a, [] => some a
  | a, .val (.int k' b) :: r => if k' = k then foldI f k (f a b) r else none
  | _, _ => none
def minI (a b : Int) : Int := if b < a then b else a
def maxI (a b : Int) : Int := if b > a then b else a
def foldA (f : Int → Int → Int) : List AV → Out
  | .val (.int k a) :: r => match foldI f k a r with
    | some n => { c := True, v := .val (.int k n) }
    | none => .bad
  | _ => .bad

def bndA (d : Nat) : Option AV → Option Int
  | none => some d
  | some (.val (.int _ i)) => some i
  | _ => none

/-- The cells of what is appended or copied, as elements. -/
def srcA (hp : Hp) (k : Nat) : AV → Option (List AV)
  | .sl k' es _ => if k' = k ∨ es = [] then some es else none
  | .vec b => match hp b with
    | some (.vec k' es) => if k' = k then some es else none
    | _ => none
  | .vsub b lo n => match hp b with
    | some (.vec k' es) => if k' = k ∧ lo + n ≤ es.length then some ((es.drop lo).take n) else none
    | some (.row k' es _ _) => if k' = k ∧ lo + n ≤ es.length then some ((es.drop lo).take n) else none
    | _ => none
  | _ => none
/-- The length of what is copied, and its known beginning. -/
def srcP (hp : Hp) (k : Nat) : AV → Option (Nat × List AV)
  | .vsub b lo n => match hp b with
    | some (.row k' es _ _) => if k' = k then some (n, (es.drop lo).take n) else none
    | _ => (srcA hp k (.vsub b lo n)).map fun l => (n, l)
  | x => (srcA hp k x).map fun l => (l.length, l)
def over {α : Type} (es : List α) (lo : Nat) (xs : List α) : List α := es.take lo ++ xs ++ es.drop (lo + xs.length)
def copyA (hp : Hp) (k : Nat) (d : AV) (src : Option (Nat × List AV)) : Out :=
  match d, src with
  | .vsub b lo n, some (sn, xs) => match hp b with
    | some (.vec k' es) => { c := k' = k ∧ Nat.min sn n ≤ xs.length ∧ lo + n ≤ es.length, v := .int (Nat.min sn n : Nat), rm := some b, ad := some (b, .vec k (over es lo (xs.take (Nat.min sn n)))) }
    | some (.row k' es len cap) => { c := k' = k ∧ Nat.min sn n ≤ xs.length ∧ lo ≤ es.length ∧ lo + n ≤ len, v := .int (Nat.min sn n : Nat), rm := some b, ad := some (b, .row k (over es lo (xs.take (Nat.min sn n))) len cap) }
    | _ => .bad
  | _, _ => .bad
def clearA (hp : Hp) (k : Nat) (z : AV) : AV → Out
  | .vsub b lo n => match hp b with
    | some (.vec k' es) => { c := k' = k ∧ lo + n ≤ es.length, rm := some b, ad := some (b, .vec k (over es lo (List.replicate n z))) }
    | some (.row k' es len cap) => { c := k' = k ∧ es.length ≤ lo ∧ lo + n ≤ cap, rm := some b, ad := some (b, .row k es len cap) }
    | _ => .bad
  | _ => .bad
def srcS : AV → Option (List AV)
  | .val (.string s) => some (s.data.toList.map fun b => .val (.int .u8 b.toNat))
  | _ => none
/-- Bounds of a slice expression: low, high, max (0 ≤ low ≤ high ≤ max ≤ cap). -/
def sliceA (hp : Hp) (k : Nat) (x : AV) (lo hi mx : Option Int) : Out :=
  match x with
  | .sl k' es full =>
    let h : Int := hi.getD es.length
    let m : Int := mx.getD es.length
    let l : Int := lo.getD 0
    { c := (k' = k ∨ es = []) ∧ (mx.isSome = true → hi.isSome = true) ∧ 0 ≤ l ∧ l ≤ h ∧ h ≤ m ∧ m ≤ es.length
      v := .sl k ((es.take h.toNat).drop l.toNat) ((decide (h = m)) && (mx.isSome || full)) }
  | .vec b => match hp b with
    | some (.vec k' es) =>
      let h : Int := hi.getD es.length
      let m : Int := mx.getD es.length
      let l : Int := lo.getD 0
      { c := k' = k ∧ (mx.isSome = true → hi.isSome = true) ∧ 0 ≤ l ∧ l ≤ h ∧ h ≤ m ∧ m ≤ es.length, v := if mx = none ∧ 0 < es.length then .vsub b l.toNat (h - l).toNat else .unk }
    | some (.row k' es len cap) =>
      let h : Int := hi.getD len
      let m : Int := mx.getD cap
      let l : Int := lo.getD 0
      { c := k' = k ∧ (mx.isSome = true → hi.isSome = true) ∧ 0 ≤ l ∧ l ≤ h ∧ h ≤ m ∧ m ≤ cap, v := if mx = none then .vsub b l.toNat (h - l).toNat else .unk }
    | _ => .bad
  | .vsub b o n =>
    let h : Int := hi.getD n
    let l : Int := lo.getD 0
    { c := mx = none ∧ 0 ≤ l ∧ l ≤ h ∧ h ≤ n ∧ ((∃ es, hp b = some (.vec k es)) ∨ ∃ es len cap, hp b = some (.row k es len cap)), v := .vsub b (o + l.toNat) (h - l).toNat }
  | .asub b o n k' =>
    let h : Int := hi.getD n
    let l : Int := lo.getD 0
    { c := k' = k ∧ mx = none ∧ 0 ≤ l ∧ l ≤ h ∧ h ≤ n, v := .asub b (o + l.toNat * k) (h - l).toNat k }
  | _ => .bad

def bytesA : List AV → Option (List UInt8)
  | [] => some []
  | .val (.int .u8 n) :: r => (bytesA r).map (UInt8.ofNat n.toNat :: ·)
  | _ => none

def boxCells (hp : Hp) (b : Nat) : Option (List AV) := match hp b with
  | some (.box y) => if y.solid then some y.cells else none
  | _ => none

def appendA (hp : Hp) (f k bytes : Nat) (s : AV) (src : Option (List AV)) : Out :=
  match src with
  | none => .bad
  | some xs =>
    match s with
    | .sl k' es full =>
      if es = [] then { c := full = true ∧ xs.length * bytes ≤ 2 ^ 47 ∧ xs.length ≤ maxLen, v := .vec f, ad := some (f, .vec k xs) }
      else { c := k' = k ∧ full = true ∧ (es.length + xs.length) * bytes ≤ 2 ^ 47 ∧ es.length + xs.length ≤ maxLen ∧ 0 < xs.length, v := .vec f, ad := some (f, .vec k (es ++ xs)) }
    | .vec b => match hp b with
      | some (.vec k' es) => { c := k' = k ∧ (es.length + xs.length) * bytes ≤ 2 ^ 47 ∧ es.length + xs.length ≤ maxLen, v := .vec f, rm := some b, ad := some (f, .vec k (es ++ xs)) }
      | some (.row k' es len cap) => { c := k' = k ∧ len = es.length ∧ (es.length + xs.length) * bytes ≤ 2 ^ 47 ∧ es.length + xs.length ≤ maxLen, v := .vec f, rm := some b, ad := some (f, .vec k (es ++ xs)) }
      | _ => .bad
    | .vsub b lo i => match hp b with
      | some (.row k' es len cap) => { c := k' = k ∧ lo = 0 ∧ i ≤ es.length ∧ i + xs.length ≤ cap ∧ 0 < cap, v := .vec f, rm := some b, ad := some (f, .row k (es.take i ++ xs) (i + xs.length) cap) }
      | _ => .bad
    | _ => .bad

def appendZA (hp : Hp) (f k bytes : Nat) (z : AV) (s n : AV) : Out :=
  match s, n with
  | .vsub b lo i, .val (.int .i64 m) => match hp b with
    | some (.row k' es len cap) => { c := k' = k ∧ lo = 0 ∧ i ≤ es.length ∧ 0 < m ∧ cap < i + m ∧ (i + m) * bytes ≤ 2 ^ 47 ∧ i + m ≤ maxLen, v := .vec f, ad := some (f, .vec k (es.take i ++ List.replicate m.toNat z)) }
    | _ => .bad
  | _, _ => .bad

/-- A reslice of a row beyond its length. -/
def resliceA (hp : Hp) (f k : Nat) (x : AV) (h : Int) : Out :=
  match x with
  | .vec b => match hp b with
    | some (.row k' es len cap) => if len < h then { c := k' = k ∧ h ≤ cap, v := .vec f, rm := some b, ad := some (f, .row k es h.toNat cap) } else sliceA hp k x none (some h) none
    | _ => sliceA hp k x none (some h) none
  | _ => sliceA hp k x none (some h) none

/-- A slice literal as a block of the frame's own. -/
def evL (k n : Nat) (z : AV) (ps : List (Nat × AO)) (f : Nat) (ρ : AO → AV) : Out :=
  let qs := ps.map fun (i, x) => (i, ρ x)
  { c := litOk k n qs, v := .vec f, ad := some (f, .vec k (litA (List.replicate n z) qs)) }

def nilA (hp : Hp) (x : AV) (t : Bool) : Prop :=
  match x with
  | .sl _ es _ => es ≠ [] → t = false
  | .vec b => match hp b with
    | some (.vec _ es) => es ≠ [] → t = false
    | some (.row _ _ _ _) => t = false
    | _ => True
  | .vsub _ _ _ | .asub _ _ _ _ | .ref _ _ | .eref _ _ _ | .rptr _ _ => t = false
  | .val (.pointer none) => t = true
  | _ => True
def nilOk (ptr : Bool) (x : AV) : Prop :=
  match ptr, x with
  | false, .sl _ _ _ => True
  | false, .vec _ => True
  | false, .vsub _ _ _ => True
  | false, .asub _ _ _ _ => True
  | true, .ref _ _ => True
  | true, .eref _ _ _ => True
  | true, .rptr _ _ => True
  | true, .val (.pointer none) => True
  | _, _ => False

def evA (op : AOp) (f : Nat) (ρ : AO → AV) (hp : Hp) : Out :=
  match op with
  | .move x => { c := True, v := ρ x }
  | .pick c a b => match ρ c with
    | .val (.bool t) => { c := True, v := pickV t (ρ a) (ρ b) }
    | _ => .bad
  | .box x => { c := (ρ x).solid = true, v := .ref f 0, ad := some (f, .box (ρ x)) }
  | .build z ps =>
    let qs := ps.map fun (o, s, x) => (o, s, ρ x)
    { c := fillOk z.length qs, v := .agg (fillA z qs) }
  | .lit k n z ps =>
    let qs := ps.map fun (i, x) => (i, ρ x)
    { c := litOk k n qs ∧ litPure qs, v := .sl k (litA (List.replicate n z) qs) true }
  | .load agg size x => match ρ x with
    | .ref b off => match hp b with
      | some (.box y) => { c := partOk y off size agg, v := partA y off size agg }
      | _ => .bad
    | .eref b i off => match hp b with
      | some (.vec _ es) => { c := i < es.length ∧ partOk (es.getD i .unk) off size agg, v := partA (es.getD i .unk) off size agg }
      | _ => .bad
    | .rptr y off => { c := partOk y off size agg, v := partA y off size agg }
    | _ => .bad
  | .store size a x => match ρ a with
    | .ref b off => match hp b with
      | some (.box y) => { c := setOk y off size (ρ x), rm := some b, ad := some (b, .box (setPart y off (ρ x))) }
      | _ => .bad
    | .eref b i off => match hp b with
      | some (.vec k es) => { c := i < es.length ∧ setOk (es.getD i .unk) off size (ρ x), rm := some b, ad := some (b, .vec k (es.set i (setPart (es.getD i .unk) off (ρ x)))) }
      | _ => .bad
    | _ => .bad
  | .nilc x => match ρ x with
    | .ref b o => { c := True, v := .ref b o }
    | .eref b i o => { c := True, v := .eref b i o }
    | .rptr y o => { c := True, v := .rptr y o }
    | .func g caps => { c := True, v := .func g caps }
    | _ => .bad
  | .bin op x y => binA op (ρ x) (ρ y)
  | .binB op x y => binBA op (ρ x) (ρ y)
  | .eqs ks ne x y => match ρ x, ρ y with
    | .agg xs, .agg ys => match eqCells ks xs ys with
      | some b => { c := True, v := .bool (if ne then !b else b) }
      | none => .bad
    | _, _ => .bad
  | .un op x => unA op (ρ x)
  | .convI k x => match ρ x with
    | .val (.int _ n) => { c := True, v := .val (.int k (k.wrap n)) }
    | _ => .bad
  | .convS x => match ρ x with
    | .val (.string s) => { c := True, v := .str s }
    | _ => .bad
  | .convBS x => match ρ x with
    | .sl 1 es _ => match bytesA es with
      | some bs => { c := True, v := .str ⟨bs.toArray⟩ }
      | none => .bad
    | .vec b => match hp b with
      | some (.vec 1 es) => match bytesA es with
        | some bs => { c := True, v := .str ⟨bs.toArray⟩ }
        | none => .bad
      | _ => .bad
    | .asub b o n 1 => match boxCells hp b with
      | some cs => match bytesA ((cs.drop o).take n) with
        | some bs => { c := o + n ≤ cs.length ∧ bs.length ≤ maxLen, v := .str ⟨bs.toArray⟩ }
        | none => .bad
      | none => .bad
    | _ => .bad
  | .convSB x => match ρ x with
    | .val (.string s) => { c := True, v := .sl 1 (s.data.toList.map fun b => .val (.int .u8 b.toNat)) false }
    | _ => .bad
  | .mkf g caps => { c := True, v := .func g (caps.map ρ) }
  | .mks k bytes z l c => match ρ l, ρ c with
    | .val (.int .i64 l), .val (.int .i64 c) => { c := 0 ≤ l ∧ l ≤ c ∧ c * bytes ≤ 2 ^ 47 ∧ c ≤ maxLen, v := .vec f, ad := some (f, .vec k (List.replicate l.toNat z)) }
    | _, _ => .bad
  | .sliceS x lo hi => match ρ x with
    | .val (.string s) => match bndA 0 (lo.map ρ), bndA s.size (hi.map ρ) with
      | some l, some h => { c := 0 ≤ l ∧ l ≤ h ∧ h ≤ s.size, v := .str (s.extract l.toNat h.toNat) }
      | _, _ => .bad
    | _ => .bad
  | .slice k x lo hi mx => match (lo.map ρ), (hi.map ρ), (mx.map ρ) with
    | none, none, none => sliceA hp k (ρ x) none none none
    | some (.val (.int _ l)), none, none => sliceA hp k (ρ x) (some l) none none
    | none, some (.val (.int _ h)), none => resliceA hp f k (ρ x) h
    | some (.val (.int _ l)), some (.val (.int _ h)), none => sliceA hp k (ρ x) (some l) (some h) none
    | none, some (.val (.int _ h)), some (.val (.int _ m)) => sliceA hp k (ρ x) none (some h) (some m)
    | some (.val (.int _ l)), some (.val (.int _ h)), some (.val (.int _ m)) => sliceA hp k (ρ x) (some l) (some h) (some m)
    | _, _, _ => .bad
  | .sliceA n k x lo hi => match ρ x with
    | .ref b off => match bndA 0 (lo.map ρ), bndA n (hi.map ρ) with
      | some l, some h => { c := 0 ≤ l ∧ l ≤ h ∧ h ≤ n ∧ n ≤ maxLen, v := .asub b (off + l.toNat * k) (h - l).toNat k }
      | _, _ => .bad
    | _ => .bad
  | .faddr o x => match ρ x with
    | .ref b off => { c := True, v := .ref b (off + o) }
    | .eref b i off => { c := True, v := .eref b i (off + o) }
    | .rptr y off => { c := True, v := .rptr y (off + o) }
    | _ => .bad
  | .field agg o size x => { c := (ρ x).isAgg = true ∧ partOk (ρ x) o size agg, v := if agg then .agg (((ρ x).cells.drop o).take size) else (ρ x).cells.getD o .unk }
  | .iaddr k x i => match ρ i with
    | .val (.int _ i) => match ρ x with
      | .sl k' es _ => { c := k' = k ∧ 0 ≤ i ∧ i < es.length, v := .rptr (es.getD i.toNat .unk) 0 }
      | .vec b => match hp b with
        | some (.vec k' es) => { c := k' = k ∧ 0 ≤ i ∧ i < es.length, v := .eref b i.toNat 0 }
        | _ => .bad
      | .vsub b lo n => match hp b with
        | some (.vec k' es) => { c := k' = k ∧ 0 ≤ i ∧ i < n, v := .eref b (lo + i.toNat) 0 }
        | _ => .bad
      | .asub b o n k' => { c := k' = k ∧ 0 ≤ i ∧ i < n, v := .ref b (o + i.toNat * k) }
      | _ => .bad
    | _ => .bad
  | .iaddrA n k x i => match ρ i with
    | .val (.int _ i) => match ρ x with
      | .ref b off => { c := 0 ≤ i ∧ i < n, v := .ref b (off + i.toNat * k) }
      | .eref b j off => { c := 0 ≤ i ∧ i < n, v := .eref b j (off + i.toNat * k) }
      | .rptr y off => { c := 0 ≤ i ∧ i < n, v := .rptr y (off + i.toNat * k) }
      | _ => .bad
    | _ => .bad
  | .indexA n k agg x i => match ρ i with
    | .val (.int _ i) => { c := (ρ x).isAgg = true ∧ 0 ≤ i ∧ i < n ∧ partOk (ρ x) (i.toNat * k) k agg, v := if agg then .agg (((ρ x).cells.drop (i.toNat * k)).take k) else (ρ x).cells.getD (i.toNat * k) .unk }
    | _ => .bad
  | .indexS x i => match ρ x, ρ i with
    | .val (.string s), .val (.int _ i) => { c := 0 ≤ i ∧ i < s.size, v := .val (.int .u8 (s.data.getD i.toNat 0).toNat) }
    | _, _ => .bad
  | .ext i x => match ρ x with
    | .tup xs => { c := i < xs.length, v := xs.getD i .unk }
    | _ => .bad
  | .len x => lenA hp (ρ x)
  | .lenS x => match ρ x with
    | .val (.string s) => { c := True, v := .int s.size }
    | _ => .bad
  | .cap x => match ρ x with
    | .sl _ es true => { c := True, v := .int es.length }
    | .vec b => match hp b with
      | some (.row _ _ _ cap) => { c := True, v := .int cap }
      | _ => .bad
    | _ => .bad
  | .min xs => foldA minI (xs.map ρ)
  | .max xs => foldA maxI (xs.map ρ)
  | .append k bytes s x => appendA hp f k bytes (ρ s) (srcA hp k (ρ x))
  | .appendS bytes s x => appendA hp f 1 bytes (ρ s) (srcS (ρ x))
  | .appendZ k bytes z s n => appendZA hp f k bytes z (ρ s) (ρ n)
  | .copy k d s => copyA hp k (ρ d) (srcP hp k (ρ s))
  | .clear k z x => clearA hp k z (ρ x)
  | .isNil _ _ _ => .bad
  | .call _ _ => .bad
  | .bad => .bad
end Go.Am
