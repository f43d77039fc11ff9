/- Texts joined: Mx1 Mx2 Mx3 Mx4 Mx5 Mx6 Mx8 G0. -/
import Derived.KernelRfl
import Derived.Test.YthhpaedpnjdnbaaGreatDoorProg
import Derived.Test.YthhpaedpnjdnbaaGreatDoorQA2
set_option linter.unusedVariables false
set_option linter.unusedSimpArgs false
namespace Go.Am
mutual
def AV.pureB:AV→Bool
  | .val _=>true
  | .agg cs=>cf cs
  | .tup xs=>cf xs
  | .func _ caps=>cf caps
  | .ref _ _=>false
  | .eref _ _ _=>false
  | .rptr _ _=>true
  | .vec _=>false
  | .vsub _ _ _=>false
  | .asub _ _ _ _=>false
  | .sl _ _ _=>true
  | .mref _=>false
  | .mp _ _ _=>true
  | .unk=>true
def cf:List AV→Bool
  | []=>true
  | x::xs=>cond x.pureB (cf xs) false
end
mutual
def AV.flatB:AV→Bool
  | .val _=>true
  | .agg cs=>uC cs
  | .tup xs=>uC xs
  | _=>false
def uC:List AV→Bool
  | []=>true
  | x::xs=>cond x.flatB (uC xs) false
end
mutual
def AV.belB(k:Nat):AV→Bool
  | .agg cs=>cJ k cs
  | .tup xs=>cJ k xs
  | .func _ caps=>cJ k caps
  | .ref b _=>Nat.blt b k
  | .eref b _ _=>Nat.blt b k
  | .vec b=>Nat.blt b k
  | .vsub b _ _=>Nat.blt b k
  | .asub b _ _ _=>Nat.blt b k
  | .val _=>true
  | .rptr _ _=>true
  | .sl _ _ _=>true
  | .mref b=>Nat.blt b k
  | .mp _ _ _=>true
  | .unk=>true
def cJ(k:Nat):List AV→Bool
  | []=>true
  | x::xs=>cond (x.belB k) (cJ k xs) false
end
theorem ah{a b:Bool}:cond a b false=true↔a=true∧b=true:=by cases a<;>simp
mutual
theorem AV.pureB_ok:∀{x:AV},x.pureB=true→x.pure
  | .val _,_=>trivial
  | .agg cs,h=>aW (xs:=cs) h
  | .tup xs,h=>aW (xs:=xs) h
  | .func _ caps,h=>aW (xs:=caps) h
  | .ref _ _,h=>by cases h
  | .eref _ _ _,h=>by cases h
  | .rptr _ _,_=>trivial
  | .vec _,h=>by cases h
  | .vsub _ _ _,h=>by cases h
  | .asub _ _ _ _,h=>by cases h
  | .sl _ _ _,_=>trivial
  | .mref _,h=>by cases h
  | .mp _ _ _,_=>trivial
  | .unk,_=>trivial
theorem aW:∀{xs:List AV},cf xs=true→cI xs
  | [],_=>trivial
  | x::xs,h=>by
    have h:=ah.mp h
    exact⟨AV.pureB_ok h.1,aW h.2⟩
end
mutual
theorem AV.flatB_ok:∀{x:AV},x.flatB=true→x.flat
  | .val _,_=>trivial
  | .agg cs,h=>lJ (xs:=cs) h
  | .tup xs,h=>lJ (xs:=xs) h
  | .func _ _,h=>by cases h
  | .ref _ _,h=>by cases h
  | .eref _ _ _,h=>by cases h
  | .rptr _ _,h=>by cases h
  | .vec _,h=>by cases h
  | .vsub _ _ _,h=>by cases h
  | .asub _ _ _ _,h=>by cases h
  | .sl _ _ _,h=>by cases h
  | .mref _,h=>by cases h
  | .mp _ _ _,h=>by cases h
  | .unk,h=>by cases h
theorem lJ:∀{xs:List AV},uC xs=true→pu xs
  | [],_=>trivial
  | x::xs,h=>by
    have h:=ah.mp h
    exact⟨AV.flatB_ok h.1,lJ h.2⟩
end
mutual
theorem AV.belB_ok{k:Nat}:∀{x:AV},x.belB k=true→x.bel k
  | .val _,_=>trivial
  | .agg cs,h=>jc (xs:=cs) h
  | .tup xs,h=>jc (xs:=xs) h
  | .func _ caps,h=>jc (xs:=caps) h
  | .ref _ _,h=>Nat.le_of_ble_eq_true h
  | .eref _ _ _,h=>Nat.le_of_ble_eq_true h
  | .rptr _ _,_=>trivial
  | .vec _,h=>Nat.le_of_ble_eq_true h
  | .vsub _ _ _,h=>Nat.le_of_ble_eq_true h
  | .asub _ _ _ _,h=>Nat.le_of_ble_eq_true h
  | .sl _ _ _,_=>trivial
  | .mref _,h=>Nat.le_of_ble_eq_true h
  | .mp _ _ _,_=>trivial
  | .unk,_=>trivial
theorem jc{k:Nat}:∀{xs:List AV},cJ k xs=true→fZ k xs
  | [],_=>trivial
  | x::xs,h=>by
    have h:=ah.mp h
    exact⟨AV.belB_ok h.1,jc h.2⟩
end
theorem ab{α:Type}{v:α→AV}(h:∀x,(v x).pureB=true):∀l:List α,cf (l.map v)=true
 | []=>rfl
 | x::l=>ah.mpr ⟨h x,ab h l⟩
def bK:List (List AV)→Bool
 | []=>true
 | es::r=>cond (cf es) (bK r) false
inductive Sh where
  | k
  | s (kk:Nat)
  | a (l:List Sh)
  | v (s:Sh)
mutual
def bf:Sh→AV→AV
  | .k,x=>x
  | .s kk,.sl 0 es full=>cond es.isEmpty (.sl kk es false) (.sl 0 es full)
  | .s _,.sl (k+1) es _=>.sl (k+1) es false
  | .s _,x=>x
  | .a l,.agg cs=>.agg (pv l cs)
  | .a l,.tup cs=>.tup (pv l cs)
  | .a l,.func f cs=>.func f (pv l cs)
  | .a _,x=>x
  | .v s,.sl k es _=>.sl k (es.map (bf s)) false
  | .v _,x=>x
def pv:List Sh→List AV→List AV
  | [],xs=>xs
  | _::_,[]=>[]
  | s::l,x::xs=>bf s x::pv l xs
end
theorem pw(s:Sh)(x:AV):(bf s x).solid=x.solid:=by
 cases s with
 | k=>rw[bf]
 | s kk =>
  cases x<;>first|(rw[bf];done)|(rw[bf]<;>simp;done)|skip
  rename_i k es full
  cases k with
  | zero=>rw[bf];cases es<;>rfl
  | succ k=>rw[bf];rfl
 | a l=>cases x<;>first|(rw[bf];done)|(rw[bf]<;>simp;done)|(rw[bf];rfl)
 | v s=>cases x<;>first|(rw[bf];done)|(rw[bf]<;>simp;done)|(rw[bf];rfl)
theorem fa.mapS{f:AV→AV}(h:∀x,Sub x (f x)):∀xs:List AV,fa xs (xs.map f)
 | []=>trivial
 | x::xs=>⟨h x,fa.mapS h xs⟩
theorem Sub.slE{k:Nat}{es es':List AV}{full:Bool}(h:fa es es')(hl:es'.length=es.length)(hs:(∀x∈es,x.solid=true)→∀x∈es',x.solid=true):Sub (.sl k es full) (.sl k es' false):=by
 intro w A μ v hv
 rcases hv with⟨h1,h2⟩|⟨blk,off,cap,vs,e1,e2,e3,e4,e5,e6,e7,e8⟩
 ·subst h1
  exact .inl ⟨List.eq_nil_of_length_eq_zero hl,h2⟩
 ·obtain⟨e8,e9⟩:=e8
  exact .inr ⟨blk,off,cap,vs,by rw[hl];exact e1,e2,by rw[hl];exact e3,e4,(λh=>by cases h),h.rvl e6,e7,e8,hs e9⟩
theorem Sub.func{f:FuncId}{xs ys:List AV}(h:fa xs ys):Sub (.func f xs) (.func f ys):=λw A μ v ⟨vs,h1,h2⟩=>⟨vs,h1,h.rvl h2⟩
mutual
theorem dS:∀(s:Sh) (x:AV),Sub x (bf s x)
  | .k,x=>by rw[bf];exact Sub.refl
  | .s kk,.sl 0 es full=>by
    rw[bf]
    cases es with
    | nil=>exact Sub.sl (.inr rfl) (by simp)
    | cons y es=>exact Sub.refl
  | .s kk,.sl (k+1) es full=>by rw[bf];exact Sub.sl (.inl rfl) (by simp)
  | .s _,.val _=>by rw[bf];exact Sub.refl;all_goals simp
  | .s _,.agg _=>by rw[bf];exact Sub.refl;all_goals simp
  | .s _,.tup _=>by rw[bf];exact Sub.refl;all_goals simp
  | .s _,.func _ _=>by rw[bf];exact Sub.refl;all_goals simp
  | .s _,.ref _ _=>by rw[bf];exact Sub.refl;all_goals simp
  | .s _,.eref _ _ _=>by rw[bf];exact Sub.refl;all_goals simp
  | .s _,.rptr _ _=>by rw[bf];exact Sub.refl;all_goals simp
  | .s _,.vec _=>by rw[bf];exact Sub.refl;all_goals simp
  | .s _,.vsub _ _ _=>by rw[bf];exact Sub.refl;all_goals simp
  | .s _,.asub _ _ _ _=>by rw[bf];exact Sub.refl;all_goals simp
  | .s _,.mref _=>by rw[bf];exact Sub.refl;all_goals simp
  | .s _,.mp _ _ _=>by rw[bf];exact Sub.refl;all_goals simp
  | .s _,.unk=>by rw[bf];exact Sub.refl;all_goals simp
  | .a l,.agg cs=>by rw[bf];exact Sub.agg (eX l cs)
  | .a l,.tup cs=>by rw[bf];exact Sub.tup (eX l cs)
  | .a l,.func f cs=>by rw[bf];exact Sub.func (eX l cs)
  | .a _,.val _=>by rw[bf];exact Sub.refl;all_goals simp
  | .a _,.sl _ _ _=>by rw[bf];exact Sub.refl;all_goals simp
  | .a _,.ref _ _=>by rw[bf];exact Sub.refl;all_goals simp
  | .a _,.eref _ _ _=>by rw[bf];exact Sub.refl;all_goals simp
  | .a _,.rptr _ _=>by rw[bf];exact Sub.refl;all_goals simp
  | .a _,.vec _=>by rw[bf];exact Sub.refl;all_goals simp
  | .a _,.vsub _ _ _=>by rw[bf];exact Sub.refl;all_goals simp
  | .a _,.asub _ _ _ _=>by rw[bf];exact Sub.refl;all_goals simp
  | .a _,.mref _=>by rw[bf];exact Sub.refl;all_goals simp
  | .a _,.mp _ _ _=>by rw[bf];exact Sub.refl;all_goals simp
  | .a _,.unk=>by rw[bf];exact Sub.refl;all_goals simp
  | .v s,.sl k es full=>by
    rw[bf]
    exact Sub.slE (fa.mapS (λx=>dS s x) es) (by simp) λh x hx=>by
      obtain⟨y,hy,rfl⟩:=List.mem_map.mp hx
      rw[pw];exact h y hy
  | .v _,.val _=>by rw[bf];exact Sub.refl;all_goals simp
  | .v _,.agg _=>by rw[bf];exact Sub.refl;all_goals simp
  | .v _,.tup _=>by rw[bf];exact Sub.refl;all_goals simp
  | .v _,.func _ _=>by rw[bf];exact Sub.refl;all_goals simp
  | .v _,.ref _ _=>by rw[bf];exact Sub.refl;all_goals simp
  | .v _,.eref _ _ _=>by rw[bf];exact Sub.refl;all_goals simp
  | .v _,.rptr _ _=>by rw[bf];exact Sub.refl;all_goals simp
  | .v _,.vec _=>by rw[bf];exact Sub.refl;all_goals simp
  | .v _,.vsub _ _ _=>by rw[bf];exact Sub.refl;all_goals simp
  | .v _,.asub _ _ _ _=>by rw[bf];exact Sub.refl;all_goals simp
  | .v _,.mref _=>by rw[bf];exact Sub.refl;all_goals simp
  | .v _,.mp _ _ _=>by rw[bf];exact Sub.refl;all_goals simp
  | .v _,.unk=>by rw[bf];exact Sub.refl;all_goals simp
theorem eX:∀(l:List Sh) (xs:List AV),fa xs (pv l xs)
  | [],xs=>by rw[pv];exact fa.refl
  | _::_,[]=>by rw[pv];trivial
  | s::l,x::xs=>by rw[pv];exact⟨dS s x,eX l xs⟩
end
structure PC (P:Program) where
  f:FuncId
  sh:List Sh
  args:List AV
  r:AV
  ok:ao P f args r
  fn:vD P f
def Blk.pureB:Blk→Bool
 | .box x=>x.pureB
 | .vec _ es=>cf es
 | .row _ es _ _=>cf es
 | .map _ _ vs=>cf vs
def iH(π:Nat→Nat):Blk→Blk
 | .box x=>.box (x.ren π)
 | x=>x
def eI(n:Nat):Blk→Bool
 | .box x=>x.belB n
 | .vec _ es=>cf es
 | .row _ es _ _=>cf es
 | .map _ _ vs=>cf vs
structure fk (args:List AV) (h:List Blk) (r:AV) (h':List (Option Blk)):Prop where
  args:fZ h.length args
  hp:∀x∈h,eI h.length x=true
  le:h.length≤h'.length
  le':h'.length≤h.length+16
  r:r.bel h'.length
  h':∀x,some x∈h'→eI h'.length x=true
def allB{α:Type}(p:α→Bool):List α→Bool
 | []=>true
 | x::r=>cond (p x) (allB p r) false
theorem nk{α:Type}{p:α→Bool}:∀{l:List α},allB p l=true→∀x∈l,p x=true
 | [],_,x,hx=>by simp at hx
 | y::r,h,x,hx=>by
  obtain⟨h1,h2⟩:=ah.mp h
  rcases List.mem_cons.mp hx with rfl|hx
  ·exact h1
  ·exact nk h2 x hx
def dQ(n:Nat):Option Blk→Bool
 | some x=>eI n x
 | none=>true
def hcB(args:List AV)(h:List Blk)(r:AV)(h':List (Option Blk)):Bool:=
 cond (cJ h.length args) (cond (allB (eI h.length) h) (cond (Nat.ble h.length h'.length) (cond (Nat.ble h'.length (h.length+16)) (cond (r.belB h'.length) (allB (dQ h'.length) h') false) false) false) false) false
theorem fk.of{args:List AV}{h:List Blk}{r:AV}{h':List (Option Blk)}(e:hcB args h r h'=true):fk args h r h':=by
 obtain⟨h1,e⟩:=ah.mp e
 obtain⟨h2,e⟩:=ah.mp e
 obtain⟨h3,e⟩:=ah.mp e
 obtain⟨h4,e⟩:=ah.mp e
 obtain⟨h5,h6⟩:=ah.mp e
 exact⟨jc h1,nk h2,Nat.le_of_ble_eq_true h3,Nat.le_of_ble_eq_true h4,AV.belB_ok h5,λx hx=>nk h6 _ hx⟩
structure HC (P:Program) where
  f:FuncId
  sh:List Sh
  args:List AV
  h:List Blk
  r:AV
  h':List (Option Blk)
  ok:bl P f args h r h'
  fn:vD P f
  good:fk args h r h'
inductive PB where
  | box (x:AV)
  | vec (k:Nat) (es:List AV) (h:cf es=true)
  | arr (es:List AV) (h:cf es=true)
  | map (kk:Option Nat) (ks:List MK) (vs:List AV) (h:cf vs=true)
  | gone
def PB.blk:PB→Option Blk
 | .box x=>some (.box x)
 | .vec k es _=>some (.vec k es)
 | .arr es _=>some (.box (.agg es))
 | .map kk ks vs _=>some (.map kk ks vs)
 | .gone=>none
def PB.ren(π:Nat→Nat):PB→Option Blk
 | .box x=>some (.box (x.ren π))
 | .vec k es _=>some (.vec k es)
 | .arr es _=>some (.box (.agg es))
 | .map kk ks vs _=>some (.map kk ks vs)
 | .gone=>none
def PB.isGone:PB→Bool
 | .gone=>true
 | _=>false
def PB.see(v:Option Blk):PB→Option Blk
 | .gone=>none
 | _=>v
structure NF where
  ts:List (Nat×Sh×AV)
  hs:List PB
def NF.st(m:NF):S3:=⟨dO (m.ts.map λp=>(p.1,p.2.2)),hpL 0 (m.hs.map PB.blk),m.hs.length⟩
inductive Cmd:Type 1 where
  | frz (b:Nat)
  | frzE (b:Nat) (es:List AV) (h:cf es=true)
  | nilT (t k:Nat)
  | frzV (b t i:Nat) {α:Type} (v:α→AV) (l:List α) (y:AV) (x:α) (es:List AV) (h:cf es=true)
  | nilF (t i k:Nat)
  | nilB (b i k:Nat)
  | nilC (b k:Nat)
  | wkT (t:Nat) (s:Sh)
  | wkB (b:Nat) (s:Sh)
  | wkS (b i:Nat) (sh:Sh) {α:Type} (v:α→AV) (l:List α) (y:AV) (x:α)
  | wkV (b:Nat) (sh:Sh) {α:Type} (v:α→AV) (l:List α)
section
variable {α β : Type} [DecidableEq α]
def fm(l:List (α×β)):List α:=l.map Prod.fst
def mG(l:List (α×β))(x:α):Nat:=(fm l).idxOf x
def Vz(l:List (α×β))(x:α):Bool:=decide (x∈fm l)
def L0(l:List (α×β))(x:α)(z:β):β:=match l[mG l x]? with
 | some p=>p.2
 | none=>z
def L1(l:List (α×β))(x:α)(v:β):List (α×β):=if x∈fm l then l.set (mG l x) (x,v)else l++[(x,v)]
def mdl(l:List (α×β))(x:α):List (α×β):=l.eraseIdx (mG l x)
end
inductive MN:Type 1 where
  | get {α β:Type} (de:DecidableEq α) (kf:α→MK) (hi:∀x y,kf x=kf y→x=y) (vf:β→AV) (l:List (α×β)) (x:α) (z:β)
  | put {α β:Type} (de:DecidableEq α) (kf:α→MK) (hi:∀x y,kf x=kf y→x=y) (vf:β→AV) (l:List (α×β)) (x:α) (v:β)
  | del {α β:Type} (de:DecidableEq α) (kf:α→MK) (hi:∀x y,kf x=kf y→x=y) (vf:β→AV) (l:List (α×β)) (x:α)
def gA(P:Program)(k n:Nat)(c:AC)(s s2:S3):Prop:=AWP P k n c (λe s'=>match e with
 | .normal=>aQ k n s' s2
 | _=>False) s
inductive An (P:Program) (Sf:Nat→Type) (T:Type):Type 1 where
  | nil
  | pass (a:An P Sf T)
  | br (g:Nat) (x y:An P Sf T)
  | el (f:Nat) {α:Type} (v:α→AV) (l:List α) (k:α→An P Sf T)
  | elA (f:Nat) {α:Type} (v:α→List AV) (l:List α) (i n:Nat) (hv:∀x,(v x).length=n) (k:α→An P Sf T)
  | st (f:Nat) {α:Type} (v:α→AV) (l:List α) (g:α→α) (k:α→An P Sf T)
  | stI (f:Nat) {α:Type} (v:α→AV) (l:List α) (k:α→An P Sf T)
  | app (f:Nat) {α:Type} (v:α→AV) (l xs:List α) (a:An P Sf T)
  | appF (f:Nat) {α:Type} (v:α→AV) (l xs:List α) (a:An P Sf T)
  | sub (f:Nat) {α:Type} (v:α→AV) (l:List α) (fl:Bool) (a:An P Sf T)
  | rep (f:Nat) {α:Type} (v:α→AV) (x:α) (a:An P Sf T)
  | own (f:Nat) (a:An P Sf T)
  | mn (f:Nat) (q:MN) (a:An P Sf T)
  | req (f:Nat) (p:Prop) (k:p→An P Sf T)
  | callP (c:PC P) (a:An P Sf T)
  | callH (bs:List Nat) (c:HC P) (a:An P Sf T)
  | callA (c:PC P) (h:cI c.args) (a:An P Sf T)
  | cmd (c:Cmd) (a:An P Sf T)
  | cmdL (c:Cmd) (a:An P Sf T)
  | wait (a:An P Sf T)
  | loop (j:Nat) (nf:Sf j→NF) (I:Sf j→Prop) (mu:Sf j→Nat) (s0:Sf j) (bs:List Nat) (body:Sf j→An P Sf T)
  | join (j:Nat) (nf:Sf j→NF) (I:Sf j→Prop) (a:An P Sf T) (body:Sf j→An P Sf T)
  | join2 (j:Nat) (nf:Sf j→NF) (I:Sf j→Prop) (a:An P Sf T) (body:Sf j→An P Sf T)
  | back (j:Nat) (t:Sf j) (bs:List Nat)
  | hand (k0:Nat) (cs:List Cmd) (m1:NF) (bs:List Nat) (s2:S3) (c:AC) (h:∀n,gA P k0 n c m1.st s2) (a:An P Sf T)
  | hand2 (k0:Nat) (s1 s2:S3) (c:AC) (h:∀n,gA P k0 n c s1 s2) (a:An P Sf T)
  | unr (n:Nat) (a:An P Sf T)
  | ret (r:T)
  | retH (r:T) (m:NF) (bs:List Nat)
section
variable {P : Program} {Sf : Nat → Type} {T : Type}
def An.l(f:Nat):An P Sf T→An P Sf T
 | .br g x y=>cond (Nat.beq g f) x (.br g x y)
 | a=>a
def An.r(f:Nat):An P Sf T→An P Sf T
 | .br g x y=>cond (Nat.beq g f) y (.br g x y)
 | a=>a
end
def wS(y:AV)(off size:Nat)(agg:Bool):Bool:=cond y.solid (cond (cond agg true (Nat.beq size 1)) (Nat.ble (off+size) y.cells.length) false) false
def PD(y:AV)(off size:Nat)(v:AV):Bool:=cond y.solid (cond v.solid (cond (Nat.beq v.cells.length size) (Nat.ble (off+size) y.cells.length) false) false) false
def MX(n:Nat):List (Nat×Nat×AV)→Bool
 | []=>true
 | (o,s,x)::r=>cond x.solid (cond (Nat.beq x.cells.length s) (cond (Nat.ble (o+s) n) (MX n r) false) false) false
def QT(k n:Nat):List (Nat×AV)→Bool
 | []=>true
 | (i,x)::r=>cond x.solid (cond (Nat.beq x.cells.length k) (cond (Nat.blt i n) (QT k n r) false) false) false
def LH:List (Nat×AV)→Bool
 | []=>true
 | (_,x)::r=>cond x.pureB (LH r) false
def CP(op:BinOp)(x y:AV):Bool:=match x,y with
 | .val (.int k _),.val (.int k' b)=>match op with
  | .quo=>cond (decide (k=k')) (!(b==0)) false
  | .rem=>cond (decide (k=k')) (!(b==0)) false
  | .shl=>decide (0≤b)
  | .shr=>decide (0≤b)
  | _=>decide (k=k')
 | .val (.string a),.val (.string b)=>match op with
  | .add=>decide (a.size+b.size≤maxLen)
  | .eql|.neq|.lss|.leq|.gtr|.geq=>true
  | _=>false
 | _,_=>false
def c9(n:Nat)(l h m:Int):Bool:=cond (decide (0≤l)) (cond (decide (l≤h)) (cond (decide (h≤m)) (decide (m≤(n:Int))) false) false) false
def fE(hp:Hp)(k:Nat)(x:AV)(lo hi mx:Option Int):Bool:=match x with
 | .sl k' es _=>cond (cond (Nat.beq k' k) true es.isEmpty) (cond (cond mx.isSome hi.isSome true) (c9 es.length (lo.getD 0) (hi.getD es.length) (mx.getD es.length)) false) false
 | .vec b=>match hp b with
  | some (.vec k' es)=>cond (Nat.beq k' k) (cond (cond mx.isSome hi.isSome true) (c9 es.length (lo.getD 0) (hi.getD es.length) (mx.getD es.length)) false) false
  | _=>false
 | _=>false
def j7(ρ:AO→AV):Option AO→Option (Option Int)
 | none=>some none
 | some x=>match ρ x with
  | .val (.int _ i)=>some (some i)
  | _=>none
def kkB:Option Nat→Option Nat→Bool
 | none,none=>true
 | some a,some b=>Nat.beq a b
 | _,_=>false
def MS:Option Nat→MK→Bool
 | none,.n _=>true
 | some k,.c l=>Nat.beq l.length k
 | _,_=>false
def okB(op:AOp)(ρ:AO→AV)(hp:Hp):Bool:=match op with
 | .move _=>true
 | .pick c _ _=>match ρ c with
  | .val (.bool _)=>true
  | _=>false
 | .box x=>(ρ x).solid
 | .build z ps=>MX z.length (ps.map λ(o,s,x)=>(o,s,ρ x))
 | .load agg size x=>match ρ x with
  | .ref b off=>match hp b with
   | some (.box y)=>wS y off size agg
   | _=>false
  | .rptr y off=>wS y off size agg
  | _=>false
 | .store size a x=>match ρ a with
  | .ref b off=>match hp b with
   | some (.box y)=>PD y off size (ρ x)
   | _=>false
  | _=>false
 | .nilc x=>match ρ x with
  | .ref _ _=>true
  | .eref _ _ _=>true
  | .rptr _ _=>true
  | .func _ _=>true
  | _=>false
 | .bin op x y=>CP op (ρ x) (ρ y)
 | .binB op x y=>match ρ x,ρ y with
  | .val (.bool _),.val (.bool _)=>match op with
   | .eql=>true
   | .neq=>true
   | _=>false
  | _,_=>false
 | .eqs ks _ x y=>match ρ x,ρ y with
  | .agg xs,.agg ys=>(bY ks xs ys).isSome
  | _,_=>false
 | .un op x=>match op,ρ x with
  | .not,.val (.bool _)=>true
  | .neg,.val (.int _ _)=>true
  | _,_=>false
 | .convI _ x=>match ρ x with
  | .val (.int _ _)=>true
  | _=>false
 | .convS x=>match ρ x with
  | .val (.string _)=>true
  | _=>false
 | .convSB x=>match ρ x with
  | .val (.string _)=>true
  | _=>false
 | .convBS x=>match ρ x with
  | .sl k es _=>cond (Nat.beq k 1) (cX es).isSome false
  | .asub b o n k=>cond (Nat.beq k 1) (match gU hp b with
   | some cs=>match cX ((cs.drop o).take n)with
    | some bs=>cond (Nat.ble (o+n) cs.length) (Nat.ble bs.length 4096) false
    | none=>false
   | none=>false) false
  | _=>false
 | .sliceA n _ x lo hi=>match ρ x with
  | .ref _ _=>cond lo.isNone (cond hi.isNone (Nat.ble n 4096) false) false
  | _=>false
 | .mkf _ _=>true
 | .mks _ bytes _ l c=>match ρ l,ρ c with
  | .val (.int .i64 l),.val (.int .i64 c)=>cond (Nat.ble bytes 134217728) (cond (decide (0≤l)) (cond (decide (l≤c)) (decide (c≤1048576)) false) false) false
  | _,_=>false
 | .sliceS x lo hi=>match ρ x with
  | .val (.string s)=>match lS 0 (lo.map ρ),lS s.size (hi.map ρ)with
   | some l,some h=>cond (decide (0≤l)) (cond (decide (l≤h)) (decide (h≤s.size)) false) false
   | _,_=>false
  | _=>false
 | .slice k x lo hi mx=>match lo.map ρ,hi.map ρ,mx.map ρ with
  | none,none,none=>fE hp k (ρ x) none none none
  | some (.val (.int _ l)),none,none=>fE hp k (ρ x) (some l) none none
  | none,some (.val (.int _ h)),none=>fE hp k (ρ x) none (some h) none
  | some (.val (.int _ l)),some (.val (.int _ h)),none=>fE hp k (ρ x) (some l) (some h) none
  | none,some (.val (.int _ h)),some (.val (.int _ m))=>fE hp k (ρ x) none (some h) (some m)
  | some (.val (.int _ l)),some (.val (.int _ h)),some (.val (.int _ m))=>fE hp k (ρ x) (some l) (some h) (some m)
  | _,_,_=>false
 | .faddr _ x=>match ρ x with
  | .ref _ _=>true
  | .eref _ _ _=>true
  | .rptr _ _=>true
  | _=>false
 | .field agg o size x=>cond (ρ x).isAgg (wS (ρ x) o size agg) false
 | .iaddr k x i=>match ρ i with
  | .val (.int _ i)=>match ρ x with
   | .vec b=>match hp b with
    | some (.vec k' es)=>cond (Nat.beq k' k) (cond (decide (0≤i)) (decide (i<es.length)) false) false
    | _=>false
   | .vsub b _ n=>match hp b with
    | some (.vec k' _)=>cond (Nat.beq k' k) (cond (decide (0≤i)) (decide (i<n)) false) false
    | _=>false
   | _=>false
  | _=>false
 | .iaddrA n _ x i=>match ρ i with
  | .val (.int _ i)=>match ρ x with
   | .ref _ _=>cond (decide (0≤i)) (decide (i<n)) false
   | .eref _ _ _=>cond (decide (0≤i)) (decide (i<n)) false
   | .rptr _ _=>cond (decide (0≤i)) (decide (i<n)) false
   | _=>false
  | _=>false
 | .indexS x i=>match ρ x,ρ i with
  | .val (.string s),.val (.int _ i)=>cond (decide (0≤i)) (decide (i<s.size)) false
  | _,_=>false
 | .ext i x=>match ρ x with
  | .tup xs=>Nat.blt i xs.length
  | _=>false
 | .len x=>match ρ x with
  | .sl _ _ _=>true
  | .vec b=>match hp b with
   | some (.vec _ _)=>true
   | _=>false
  | _=>false
 | .lenS x=>match ρ x with
  | .val (.string _)=>true
  | _=>false
 | .cap x=>match ρ x with
  | .sl _ _ full=>full
  | _=>false
 | .min xs=>match xs.map ρ with
  | .val (.int k a)::r=>(gQ dR k a r).isSome
  | _=>false
 | .max xs=>match xs.map ρ with
  | .val (.int k a)::r=>(gQ gu k a r).isSome
  | _=>false
 | .mkI _ x=>match ρ x with
  | .val (.int _ _)=>true
  | .val (.string _)=>true
  | .val (.bool _)=>true
  | _=>false
 | .asrt _ _ x=>match ρ x with
  | .val (.iface _ _)=>true
  | _=>false
 | .mkm _=>true
 | .mset kk m k x=>match ρ m with
  | .mref b=>match hp b,(ρ k).key with
   | some (.map kk' _ _),some q=>cond (kkB kk' kk) (cond (MS kk q) (ρ x).solid false) false
   | _,_=>false
  | _=>false
 | .mlen x=>match tO hp (ρ x)with
  | some (_,ks,_)=>decide (ks.length≤maxLen)
  | none=>false
 | _=>false
end Go.Am
namespace Go.Am
theorem kx{y:AV}{off size:Nat}{agg:Bool}(h:wS y off size agg=true):cV y off size agg:=by
 obtain⟨h1,h⟩:=ah.mp h
 obtain⟨h2,h3⟩:=ah.mp h
 refine⟨h1,Nat.le_of_ble_eq_true h3,λe=>?_⟩
 subst e;exact Nat.eq_of_beq_eq_true h2
theorem sU{y:AV}{off size:Nat}{v:AV}(h:PD y off size v=true):lX y off size v:=by
 obtain⟨h1,h⟩:=ah.mp h
 obtain⟨h2,h⟩:=ah.mp h
 obtain⟨h3,h4⟩:=ah.mp h
 exact⟨h1,h2,Nat.eq_of_beq_eq_true h3,Nat.le_of_ble_eq_true h4⟩
theorem yr{n:Nat}:∀{ps:List (Nat×Nat×AV)},MX n ps=true→uJ n ps
 | [],_=>λp hp=>by simp at hp
 | (o,s,x)::r,h=>by
  obtain⟨h1,h⟩:=ah.mp h
  obtain⟨h2,h⟩:=ah.mp h
  obtain⟨h3,h4⟩:=ah.mp h
  intro p hp
  rcases List.mem_cons.mp hp with rfl|hp
  ·exact⟨h1,Nat.eq_of_beq_eq_true h2,Nat.le_of_ble_eq_true h3⟩
  ·exact yr h4 p hp
theorem k8{k n:Nat}:∀{ps:List (Nat×AV)},QT k n ps=true→xA k n ps
 | [],_=>λp hp=>by simp at hp
 | (i,x)::r,h=>by
  obtain⟨h1,h⟩:=ah.mp h
  obtain⟨h2,h⟩:=ah.mp h
  obtain⟨h3,h4⟩:=ah.mp h
  intro p hp
  rcases List.mem_cons.mp hp with rfl|hp
  ·exact⟨h1,Nat.eq_of_beq_eq_true h2,Nat.le_of_ble_eq_true h3⟩
  ·exact k8 h4 p hp
theorem oG:∀{ps:List (Nat×AV)},LH ps=true→tR ps
 | [],_=>λp hp=>by simp at hp
 | (i,x)::r,h=>by
  obtain⟨h1,h2⟩:=ah.mp h
  intro p hp
  rcases List.mem_cons.mp hp with rfl|hp
  ·exact AV.pureB_ok h1
  ·exact oG h2 p hp
theorem Iw{op:BinOp}{x y:AV}(h:CP op x y=true):(db op x y).c:=by
 unfold CP at h
 split at h
 ·rename_i k a k' b
  cases op with
  | quo=>obtain⟨h1,h2⟩:=ah.mp h;exact⟨of_decide_eq_true h1,by simpa using h2⟩
  | rem=>obtain⟨h1,h2⟩:=ah.mp h;exact⟨of_decide_eq_true h1,by simpa using h2⟩
  | shl=>exact of_decide_eq_true (p:=0≤b) h
  | shr=>exact of_decide_eq_true (p:=0≤b) h
  | _=>exact of_decide_eq_true (p:=k=k') h
 ·rename_i a b
  cases op with
  | add=>exact of_decide_eq_true (p:=a.size+b.size≤maxLen) h
  | eql=>trivial
  | neq=>trivial
  | lss=>trivial
  | leq=>trivial
  | gtr=>trivial
  | geq=>trivial
  | _=>cases h
 ·cases h
theorem kQ{n:Nat}{l h m:Int}(e:c9 n l h m=true):0≤l∧l≤h∧h≤m∧m≤(n:Int):=by
 obtain⟨h1,e⟩:=ah.mp e
 obtain⟨h2,e⟩:=ah.mp e
 obtain⟨h3,h4⟩:=ah.mp e
 exact⟨of_decide_eq_true h1,of_decide_eq_true h2,of_decide_eq_true h3,of_decide_eq_true h4⟩
theorem ke{a b:Bool}(h:cond a b true=true):a=true→b=true:=by cases a<;>simp_all
theorem fz{hp:Hp}{k:Nat}{x:AV}{lo hi mx:Option Int}(h:fE hp k x lo hi mx=true):(sliceA hp k x lo hi mx).c:=by
 unfold fE at h
 split at h
 ·rename_i k' es full
  obtain⟨h1,h⟩:=ah.mp h
  obtain⟨h2,h3⟩:=ah.mp h
  have b:=kQ h3
  refine⟨?_,ke h2,b.1,b.2.1,b.2.2.1,b.2.2.2⟩
  cases hk:Nat.beq k' k with
  | true=>exact .inl (Nat.eq_of_beq_eq_true hk)
  | false=>rw[hk]at h1;exact .inr (by simpa using h1)
 ·rename_i b
  split at h
  ·rename_i k' es he
   obtain⟨h1,h⟩:=ah.mp h
   obtain⟨h2,h3⟩:=ah.mp h
   have b:=kQ h3
   simp only[sliceA,he]
   exact⟨Nat.eq_of_beq_eq_true h1,ke h2,b.1,b.2.1,b.2.2.1,b.2.2.2⟩
  ·cases h
 ·cases h
theorem Sr{hp:Hp}{f k:Nat}{x:AV}{h m:Int}(e:fE hp k x none (some h) (some m)=true):(jS hp f k x h m).c:=by
 have hs:=fz e
 unfold jS
 split
 ·split
  ·rename_i b k' es he
   split
   ·simp only[sliceA,he,Option.getD_some,Option.getD_none]at hs
    exact⟨hs.1,by have:=hs.2.2;omega,by have:=hs.2.2;omega⟩
   ·exact hs
  ·exact hs
 ·exact hs
theorem wI{hp:Hp}{f k:Nat}{x:AV}{h:Int}(e:fE hp k x none (some h) none=true):cz hp f k x h=sliceA hp k x none (some h) none:=by
 unfold fE at e
 split at e
 ·rfl
 ·split at e
  ·rename_i he;simp only[cz,he]
  ·cases e
 ·cases e
theorem tX{a b:Option Nat}(h:kkB a b=true):a=b:=by
 cases a<;>cases b<;>first|rfl|(cases h;done)|exact congrArg some (Nat.eq_of_beq_eq_true h)
theorem ng{kk:Option Nat}{q:MK}(h:MS kk q=true):q.fits kk:=by
 cases kk<;>cases q<;>first|trivial|(cases h;done)|exact Nat.eq_of_beq_eq_true h
theorem qV{op:AOp}{f:Nat}{ρ:AO→AV}{hp:Hp}(h:okB op ρ hp=true):(evA op f ρ hp).c:=by
  cases op<;>simp only[okB]at h
  case move x=>trivial
  case pick c a b =>
    split at h
    · rename_i e;simp only[evA,e]
    · cases h
  case box x=>exact h
  case build z ps=>exact yr h
  case load agg size x =>
    split at h
    · rename_i b off e
      split at h
      · rename_i y hy;simp only[evA,e,hy];exact kx h
      · cases h
    · rename_i e;simp only[evA,e];exact kx h
    · cases h
  case store size a x =>
    split at h
    · rename_i b off e
      split at h
      · rename_i y hy;simp only[evA,e,hy];exact sU h
      · cases h
    · cases h
  case nilc x=>split at h<;>first|(rename_i e;simp only[evA,e];done)|cases h
  case bin op x y=>exact Iw h
  case binB op x y =>
    split at h
    · rename_i e1 e2
      simp only[evA,e1,e2]
      cases op<;>simp at h<;>trivial
    · cases h
  case eqs ks ne x y =>
    split at h
    · rename_i e1 e2
      simp only[evA,e1,e2]
      cases he:bY ks _ _ with
      | none=>rw[he]at h;cases h
      | some b=>trivial
    · cases h
  case un op x =>
    simp only[evA]
    generalize ρ x=y at h ⊢
    cases op<;>cases y with
    | val v=>cases v<;>simp at h<;>trivial
    | _=>simp at h
  case convI k x=>split at h<;>first|(rename_i e;simp only[evA,e];done)|cases h
  case convS x=>split at h<;>first|(rename_i e;simp only[evA,e];done)|cases h
  case convSB x=>split at h<;>first|(rename_i e;simp only[evA,e];done)|cases h
  case convBS x =>
    split at h
    · rename_i k es fu e
      obtain⟨h1,h2⟩:=ah.mp h
      cases Nat.eq_of_beq_eq_true h1
      simp only[evA,e]
      cases hb:cX es with
      | none=>rw[hb]at h2;cases h2
      | some bs=>trivial
    · rename_i b o n k e
      obtain⟨h1,h2⟩:=ah.mp h
      cases Nat.eq_of_beq_eq_true h1
      split at h2
      · rename_i cs e1
        split at h2
        · rename_i bs e2
          obtain⟨h3,h4⟩:=ah.mp h2
          simp only[evA,e,e1,e2]
          exact⟨Nat.le_of_ble_eq_true h3,Nat.le_trans (Nat.le_of_ble_eq_true h4) (by decide)⟩
        · cases h2
      · cases h2
    · cases h
  case sliceA n k x lo hi =>
    split at h
    · rename_i b off e
      obtain⟨h1,h2⟩:=ah.mp h
      obtain⟨h2,h3⟩:=ah.mp h2
      cases lo with
      | some _=>cases h1
      | none =>
      cases hi with
      | some _=>cases h2
      | none =>
      simp only[evA,e,Option.map_none,lS]
      have:=Nat.le_of_ble_eq_true h3
      exact⟨Int.le_refl _,by omega,Int.le_refl _,by rw[show maxLen=9223372036854775807 from rfl];omega⟩
    · cases h
  case mkf=>trivial
  case mks k bytes z l c =>
    split at h
    · rename_i l' c' e1 e2
      obtain⟨h0,h⟩:=ah.mp h
      obtain⟨h1,h⟩:=ah.mp h
      obtain⟨h2,h3⟩:=ah.mp h
      have h0:=Nat.le_of_ble_eq_true h0
      have h1:=of_decide_eq_true h1
      have h2:=of_decide_eq_true h2
      have h3:=of_decide_eq_true h3
      simp only[evA,e1,e2]
      refine⟨h1,h2,?_,?_⟩
      · have g:c' * (bytes:Int)≤1048576 * 134217728:=Int.mul_le_mul h3 (by omega) (by omega) (by omega)
        omega
      · show c'≤(maxLen:Int)
        have:(1048576:Int)≤(maxLen:Int):=by decide
        omega
    · cases h
  case sliceS x lo hi =>
    split at h
    · rename_i e1
      split at h
      · rename_i e2 e3
        obtain⟨h1,h⟩:=ah.mp h
        obtain⟨h2,h3⟩:=ah.mp h
        simp only[evA,e1,e2,e3]
        exact⟨of_decide_eq_true h1,of_decide_eq_true h2,of_decide_eq_true h3⟩
      · cases h
    · cases h
  case slice k x lo hi mx =>
    split at h
    · rename_i e1 e2 e3;simp only[evA,e1,e2,e3];exact fz h
    · rename_i e1 e2 e3;simp only[evA,e1,e2,e3];exact fz h
    · rename_i e1 e2 e3;simp only[evA,e1,e2,e3];rw[wI h];exact fz h
    · rename_i e1 e2 e3;simp only[evA,e1,e2,e3];exact fz h
    · rename_i e1 e2 e3;simp only[evA,e1,e2,e3];exact Sr h
    · rename_i e1 e2 e3;simp only[evA,e1,e2,e3];exact fz h
    · cases h
  case faddr o x=>split at h<;>first|(rename_i e;simp only[evA,e];done)|cases h
  case field agg o size x =>
    obtain⟨h1,h2⟩:=ah.mp h
    exact⟨h1,kx h2⟩
  case iaddr k x i =>
    split at h
    · rename_i i' e1
      split at h
      · rename_i b e2
        split at h
        · rename_i k' es e3
          obtain⟨h1,h⟩:=ah.mp h
          obtain⟨h2,h3⟩:=ah.mp h
          simp only[evA,e1,e2,e3]
          exact⟨Nat.eq_of_beq_eq_true h1,of_decide_eq_true h2,of_decide_eq_true h3⟩
        · cases h
      · rename_i b lo n e2
        split at h
        · rename_i k' es e3
          obtain⟨h1,h⟩:=ah.mp h
          obtain⟨h2,h3⟩:=ah.mp h
          simp only[evA,e1,e2,e3]
          exact⟨Nat.eq_of_beq_eq_true h1,of_decide_eq_true h2,of_decide_eq_true h3⟩
        · cases h
      · cases h
    · cases h
  case iaddrA n k x i =>
    split at h
    · rename_i i' e1
      split at h<;>first
        | (rename_i e2
           obtain⟨h2,h3⟩:=ah.mp h
           simp only[evA,e1,e2]
           exact⟨of_decide_eq_true h2,of_decide_eq_true h3⟩)
        | cases h
    · cases h
  case indexS x i =>
    split at h
    · rename_i e1 e2
      obtain⟨h2,h3⟩:=ah.mp h
      simp only[evA,e1,e2]
      exact⟨of_decide_eq_true h2,of_decide_eq_true h3⟩
    · cases h
  case ext i x =>
    split at h
    · rename_i e;simp only[evA,e];exact Nat.le_of_ble_eq_true h
    · cases h
  case len x =>
    split at h
    · rename_i e;simp only[evA,e,i6]
    · rename_i b e
      split at h
      · rename_i e2;simp only[evA,e,i6,e2]
      · cases h
    · cases h
  case lenS x=>split at h<;>first|(rename_i e;simp only[evA,e];done)|cases h
  case cap x =>
    split at h
    · rename_i k es full e;subst h;simp only[evA,e]
    · cases h
  case min xs =>
    simp only[evA]
    split at h
    · rename_i k a r e
      simp only[e,gk]
      cases he:gQ dR k a r with
      | none=>rw[he]at h;cases h
      | some b=>trivial
    · cases h
  case max xs =>
    simp only[evA]
    split at h
    · rename_i k a r e
      simp only[e,gk]
      cases he:gQ gu k a r with
      | none=>rw[he]at h;cases h
      | some b=>trivial
    · cases h
  case mkI t x=>split at h<;>first|(rename_i e;simp only[evA,e];done)|cases h
  case asrt t z x=>split at h<;>first|(rename_i e;simp only[evA,e];done)|cases h
  case mkm=>trivial
  case mset kk m k x =>
    split at h
    · rename_i b e1
      split at h
      · rename_i kk' ks vs q e2 e3
        obtain⟨h1,h⟩:=ah.mp h
        obtain⟨h2,h3⟩:=ah.mp h
        simp only[evA,e1,e2,e3]
        exact⟨tX h1,ng h2,h3⟩
      · cases h
    · cases h
  case mlen x =>
    split at h
    · rename_i e;simp only[evA,e];exact of_decide_eq_true h
    · cases h
  all_goals cases h
end Go.Am
namespace Go.Am
mutual
def dJ(hp:Hp):AV→AV
  | .ref b off=>match hp b with
    | some (.box x)=>.rptr x off
    | _=>.ref b off
  | .vec b=>match hp b with
    | some (.vec k es)=>.sl k es false
    | _=>.vec b
  | .agg cs=>.agg (i9 hp cs)
  | .func f cs=>.func f (i9 hp cs)
  | .val v=>.val v
  | .sl k es full=>.sl k es full
  | .rptr x o=>.rptr x o
  | .tup cs=>.tup cs
  | .eref b i o=>.eref b i o
  | .vsub b i o=>.vsub b i o
  | .asub b i o k=>.asub b i o k
  | .mref b=>match hp b with
    | some (.map kk ks vs)=>.mp kk ks vs
    | _=>.mref b
  | .mp kk ks vs=>.mp kk ks vs
  | .unk=>.unk
def i9(hp:Hp):List AV→List AV
  | []=>[]
  | x::xs=>dJ hp x::i9 hp xs
end
mutual
def n8(hp:Hp):AV→List (List AV)
  | .ref b off=>match hp b with
    | some (.box x)=>[[x]]
    | _=>[[.ref b off]]
  | .vec b=>match hp b with
    | some (.vec k es)=>[es]
    | _=>[[.vec b]]
  | .agg cs=>G9 hp cs
  | .func _ cs=>G9 hp cs
  | .val _=>[]
  | .sl _ _ _=>[]
  | .rptr _ _=>[]
  | .unk=>[]
  | .tup _=>[[.vec 0]]
  | .eref _ _ _=>[[.vec 0]]
  | .vsub _ _ _=>[[.vec 0]]
  | .asub _ _ _ _=>[[.vec 0]]
  | .mref b=>match hp b with
    | some (.map _ _ vs)=>[vs]
    | _=>[[.mref b]]
  | .mp _ _ _=>[]
def G9(hp:Hp):List AV→List (List AV)
  | []=>[]
  | x::xs=>n8 hp x++G9 hp xs
end
mutual
def BF:AV→List Nat
  | .ref b _=>[b]
  | .vec b=>[b]
  | .mref b=>[b]
  | .agg cs=>xU cs
  | .func _ cs=>xU cs
  | _=>[]
def xU:List AV→List Nat
  | []=>[]
  | x::xs=>BF x++xU xs
end
theorem ma:∀{a b:List (List AV)},bK (a++b)=true→bK a=true∧bK b=true
 | [],b,h=>⟨rfl,h⟩
 | x::a,b,h=>by
  obtain⟨h1,h2⟩:=ah.mp h
  obtain⟨h3,h4⟩:=ma (a:=a) h2
  exact⟨ah.mpr ⟨h1,h3⟩,h4⟩
mutual
theorem Ja{hp:Hp}{foot:List Nat}:∀{x:AV},bK (n8 hp x)=true→(∀b∈BF x,b∈foot)→fi foot hp x (dJ hp x)
  | .ref b off,h,hf=>by
    rw[n8]at h
    rw[dJ]
    split at h
    · rename_i x hx
      exact fi.ref (hf b (by simp[BF])) hx (AV.pureB_ok (ah.mp (ah.mp h).1).1)
    · cases h
  | .vec b,h,hf=>by
    rw[n8]at h
    rw[dJ]
    split at h
    · rename_i k es hx
      exact fi.vec (hf b (by simp[BF])) hx (aW (ah.mp h).1)
    · cases h
  | .agg cs,h,hf=>by
    rw[n8]at h;rw[dJ]
    exact fi.agg (kb h λb hb=>hf b (by simpa[BF]using hb))
  | .func f cs,h,hf=>by
    rw[n8]at h;rw[dJ]
    exact fi.func (kb h λb hb=>hf b (by simpa[BF]using hb))
  | .val v,_,_=>by rw[dJ];exact fi.pure trivial
  | .sl _ _ _,_,_=>by rw[dJ];exact fi.pure trivial
  | .rptr _ _,_,_=>by rw[dJ];exact fi.pure trivial
  | .unk,_,_=>by rw[dJ];exact fi.pure trivial
  | .tup _,h,_=>by rw[n8]at h;cases h
  | .eref _ _ _,h,_=>by rw[n8]at h;cases h
  | .vsub _ _ _,h,_=>by rw[n8]at h;cases h
  | .asub _ _ _ _,h,_=>by rw[n8]at h;cases h
  | .mref b,h,hf=>by
    rw[n8]at h
    rw[dJ]
    split at h
    · rename_i kk ks vs hx
      exact fi.map (hf b (by simp[BF])) hx (aW (ah.mp h).1)
    · cases h
  | .mp _ _ _,_,_=>by rw[dJ];exact fi.pure trivial
theorem kb{hp:Hp}{foot:List Nat}:∀{xs:List AV},bK (G9 hp xs)=true→(∀b∈xU xs,b∈foot)→jf foot hp xs (i9 hp xs)
  | [],_,_=>by rw[i9];trivial
  | x::xs,h,hf=>by
    rw[G9]at h;rw[i9]
    obtain⟨h1,h2⟩:=ma h
    exact⟨Ja h1 λb hb=>hf b (by simp[xU,hb]),kb h2 λb hb=>hf b (by simp[xU,hb])⟩
end
mutual
theorem zP{hp:Hp}:∀{x:AV},x.pureB=true→dJ hp x=x
  | .agg cs,h=>by rw[dJ,gX (xs:=cs) h]
  | .func f cs,h=>by rw[dJ,gX (xs:=cs) h]
  | .val v,_=>by rw[dJ]
  | .sl _ _ _,_=>by rw[dJ]
  | .rptr _ _,_=>by rw[dJ]
  | .unk,_=>by rw[dJ]
  | .tup _,h=>by rw[dJ]
  | .ref _ _,h=>by cases h
  | .vec _,h=>by cases h
  | .eref _ _ _,h=>by cases h
  | .vsub _ _ _,h=>by cases h
  | .asub _ _ _ _,h=>by cases h
  | .mref _,h=>by cases h
  | .mp _ _ _,_=>by rw[dJ]
theorem gX{hp:Hp}:∀{xs:List AV},cf xs=true→i9 hp xs=xs
  | [],_=>by rw[i9]
  | x::xs,h=>by
    obtain⟨h1,h2⟩:=ah.mp h
    rw[i9,zP h1,gX h2]
end
theorem wZ{n:Nat}{x:Blk}(h:eI n x=true)(π:Nat→Nat):iH π x=x.ren π:=by
 cases x with
 | box x=>rfl
 | vec k es=>rw[Blk.ren,bF _ (aW h)];rfl
 | row k es l c=>rw[Blk.ren,bF _ (aW h)];rfl
 | map kk ks vs=>rw[Blk.ren,bF _ (aW h)];rfl
theorem xa{n:Nat}{x:Blk}(h:eI n x=true):x.bel n:=by
 cases x with
 | box x=>exact AV.belB_ok h
 | vec k es=>exact bN (aW h)
 | row k es l c=>exact bN (aW h)
 | map kk ks vs=>exact bN (aW h)
def handP(bs:List Nat)(f:Nat)(h':List (Option Blk)):Eff:=fY (h'.zipIdx.map λp=>(bi bs f p.2,p.1.map (iH (bi bs f))))
def Fv(bs:List Nat)(f:Nat)(h':List (Option Blk)):List Nat:=(List.range h'.length).map (bi bs f)
def Bl:List Nat→Bool
 | []=>true
 | b::r=>cond (r.all λc=>!Nat.beq b c) (Bl r) false
theorem qY:∀{l:List Nat},Bl l=true→l.Nodup
 | [],_=>List.nodup_nil
 | b::r,h=>by
  obtain⟨h1,h2⟩:=ah.mp h
  refine List.nodup_cons.mpr ⟨λhb=>?_,qY h2⟩
  have:=List.all_eq_true.mp h1 b hb
  simp at this
theorem p8{l:List (Option Blk×Nat)}{bs:List Nat}{f:Nat}(h:∀p∈l,p.1.map (Blk.ren (bi bs f))=p.1.map (iH (bi bs f))) :
  fY (l.map λp=>(bi bs f p.2,p.1.map (Blk.ren (bi bs f))))=fY (l.map λp=>(bi bs f p.2,p.1.map (iH (bi bs f)))):=by
 have:(l.map λp=>(bi bs f p.2,p.1.map (Blk.ren (bi bs f))))=l.map λp=>(bi bs f p.2,p.1.map (iH (bi bs f))):=List.map_congr_left λp hp=>by rw[h p hp]
 rw[this]
theorem MC{n:Nat}{bs:List Nat}{f:Nat}{h':List (Option Blk)}(h:∀x,some x∈h'→eI n x=true):eO bs f h'=handP bs f h':=by
 refine p8 λp hp=>?_
 cases e:p.1 with
 | none=>rfl
 | some x =>
  have hx:some x∈h':=by
   rw[←e];exact List.fst_mem_of_mem_zipIdx hp
  show some (x.ren _)=some (iH _ x)
  rw[wZ (h x hx)]
theorem Nk{l:List (Nat×Option Blk)}{b:Nat}(h:fY l b≠none):b∈l.map (·.1):=by
 induction l with
 | nil=>exact absurd rfl h
 | cons p l ih =>
  obtain⟨c,x⟩:=p
  by_cases e:b=c
  ·subst e;simp
  ·have:fY ((c,x)::l) b=fY l b:=by show(if b=c then _ else _)=_;rw[if_neg e]
   rw[this]at h
   simp only[List.map_cons,List.mem_cons]
   exact .inr (ih h)
theorem HJ{bs:List Nat}{f:Nat}{h':List (Option Blk)}{b:Nat}(h:handP bs f h' b≠none):b∈Fv bs f h':=by
 have:=Nk h
 rw[List.map_map]at this
 obtain⟨p,hp,rfl⟩:=List.mem_map.mp this
 refine List.mem_map.mpr ⟨p.2,List.mem_range.mpr ?_,rfl⟩
 have:=List.snd_lt_of_mem_zipIdx hp
 simpa using this
theorem bE.handP{P:Program}{n:Nat}{fid:FuncId}{args:List AV}{f:Nat}{hp:Hp}{r:AV}{h:List Blk}{h':List (Option Blk)}(hf:vD P fid)(hs:bl P fid args h r h')(bs:List Nat)
  (g:fk args h r h') (hl:bs.length=h.length) (hnd:bs.Nodup) (hb:bs.map hp=h.map λx=>some (iH (bi bs f) x)) :
  bE P n fid (d6 (bi bs f) args) f hp bs (r.ren (bi bs f)) (Am.handP bs f h'):=by
 rw[←MC g.h']
 refine bE.hand hf hs bs hl hnd g.args (λi b x e1 e2=>?_) g.le g.le' g.r λx hx=>xa (g.h' x hx)
 have hx:x∈h:=List.mem_of_getElem? e2
 refine⟨xa (g.hp x hx),?_⟩
 rw[←wZ (g.hp x hx)]
 have:(bs.map hp)[i]?=(h.map λx=>some (iH (bi bs f) x))[i]?:=by rw[hb]
 rw[List.getElem?_map,List.getElem?_map,e1,e2]at this
 simpa using this
theorem bE.subargs{P:Program}{n:Nat}{fid:FuncId}{args args':List AV}{f:Nat}{hp:Hp}{foot:List Nat}{v:AV}{e:Eff}(h:fa args args')(hc:bE P n fid args' f hp foot v e):bE P n fid args f hp foot v e:=
 ⟨hc.1,λc A μ fr tm' hp' a w cargs H h1 h2 h3=>hc.2 c A μ fr tm' hp' a w cargs H h1 h2 (h.rvl h3)⟩
end Go.Am
namespace Go.Am
theorem az{b:Bool}{R:Prop}(h:cond b R False):b=true∧R:=by
 cases b with
 | true=>exact⟨rfl,h⟩
 | false=>exact h.elim
section
variable {P : Program} {Sf : Nat → Type} {T : Type}
abbrev KO(P:Program)(Sf:Nat→Type)(T:Type):=An P Sf T→S2→List Nat×List Nat→Prop
def NH(fid:FuncId)(args:List AV)(dst:Option Nat)(f:Nat)(s:S2)(a:An P Sf T)(K:KO P Sf T):Prop:=
 match a with
 | .callP c a'=>cond (Nat.beq fid c.f) (pv c.sh (i9 s.hp args)=c.args∧cond (cf args) (K a' ⟨aY dst c.r s.tm,s.hp⟩ ([],[]))
   (cond c.r.flatB (cond (bK (G9 s.hp args)) (K a' ⟨aY dst c.r s.tm,s.hp⟩ (xU args,[])) False) False)) False
 | .callA c _ a'=>cond (Nat.beq fid c.f) (pv c.sh args=c.args∧K a' ⟨aY dst c.r s.tm,s.hp⟩ ([],[])) False
 | .callH bs c a'=>cond (Nat.beq fid c.f) (cond (Nat.beq bs.length c.h.length) (cond (Bl bs) (pv c.sh args=d6 (bi bs f) c.args∧(bs.map s.hp=c.h.map λx=>some (iH (bi bs f) x)) ∧
   K a' ⟨aY dst (c.r.ren (bi bs f)) s.tm,c8 (handP bs f c.h') s.hp⟩ (bs,Fv bs f c.h')) False) False) False
 | _=>False
def KR(o:aO)(f:Nat)(s:S2)(a:An P Sf T)(K:KO P Sf T):Prop:=
 cond (okB o.op (evO s.tm) s.hp) (K a ⟨aY o.dst (evA o.op f (evO s.tm) s.hp).v s.tm,bD (evA o.op f (evO s.tm) s.hp) s.hp⟩ (rdH o.op s.tm,wrH (evA o.op f (evO s.tm) s.hp))) False
def fQ(o:aO)(f:Nat)(s:S2)(a:An P Sf T)(K:KO P Sf T):Prop:=
 match o.op with
 | .call g xs=>match evO s.tm g with
  | .func fid caps=>NH fid (xs.map (evO s.tm)++caps) o.dst f s a K
  | _=>False
 | .lit k n z ps=>cond (QT k n (ps.map λ(i,x)=>(i,evO s.tm x))) (cond (LH (ps.map λ(i,x)=>(i,evO s.tm x)))
   (K a ⟨aY o.dst (.sl k (qp (List.replicate n z) (ps.map λ(i,x)=>(i,evO s.tm x))) true) s.tm,s.hp⟩ (rdH o.op s.tm,[])) False) False
 | .isNil ptr ne x=>cond ptr (match Hq (evO s.tm x)with
  | some t=>K a ⟨aY o.dst (.bool (t != ne)) s.tm,s.hp⟩ (rdH o.op s.tm,[])
  | none=>False) False
 | _=>KR o f s a K
def elR(o:aO)(f:Nat)(s:S2){α:Type}(v:α→AV)(l:List α)(k:α→An P Sf T)(K:KO P Sf T):Prop:=
 match o.op with
 | .iaddr kk x i=>match evO s.tm i with
  | .val (.int _ i)=>match evO s.tm x with
   | .sl k' es _=>es=l.map v∧cond (Nat.beq k' kk) (cond (decide (0≤i)) (cond (decide (i<(l.length:Int))) (∀x,l[i.toNat]?=some x→K (k x) ⟨aY o.dst (.rptr (v x) 0) s.tm,s.hp⟩ (rdH o.op s.tm,[])) False) False) False
   | _=>False
  | _=>False
 | .load agg size x=>match evO s.tm x with
  | .eref b i off=>match s.hp b with
   | some (.vec _ es)=>es=l.map v∧cond (decide (i<l.length)) (∀x,l[i]?=some x→cond (wS (v x) off size agg) (K (k x) ⟨aY o.dst (eU (v x) off size agg) s.tm,s.hp⟩ (rdH o.op s.tm,[])) False) False
   | _=>False
  | .ref b off=>match s.hp b with
   | some (.box (.agg cs))=>cs=l.map v∧cond (cond agg false (Nat.beq size 1)) (cond (decide (off<l.length)) (∀x,l[off]?=some x→K (k x) ⟨aY o.dst (v x) s.tm,s.hp⟩ (rdH o.op s.tm,[])) False) False
   | _=>False
  | .rptr (.agg cs) off=>cs=l.map v∧cond (cond agg false (Nat.beq size 1)) (cond (decide (off<l.length)) (∀x,l[off]?=some x→K (k x) ⟨aY o.dst (v x) s.tm,s.hp⟩ (rdH o.op s.tm,[])) False) False
  | _=>False
 | .indexA n kk agg x i=>match evO s.tm i with
  | .val (.int _ i)=>match evO s.tm x with
   | .agg cs=>cs=l.map v∧cond (cond agg false (Nat.beq kk 1)) (cond (decide (0≤i)) (cond (decide (i<n)) (cond (decide (i.toNat<l.length)) (∀x,l[i.toNat]?=some x→K (k x) ⟨aY o.dst (v x) s.tm,s.hp⟩ (rdH o.op s.tm,[])) False) False) False) False
   | _=>False
  | _=>False
 | _=>False
def WB(o:aO)(f:Nat)(s:S2){α:Type}(v:α→List AV)(l:List α)(i n:Nat)(k:α→An P Sf T)(K:KO P Sf T):Prop:=
 match o.op with
 | .load agg size x=>match evO s.tm x with
  | .ref b off=>match s.hp b with
   | some (.box (.agg cs))=>cs=l.flatMap v∧off=i * n∧cond agg (cond (Nat.beq size n) (cond (decide (i<l.length)) (∀x,l[i]?=some x→K (k x) ⟨aY o.dst (.agg (v x)) s.tm,s.hp⟩ (rdH o.op s.tm,[])) False) False) False
   | _=>False
  | _=>False
 | _=>False
def stR(o:aO)(f:Nat)(s:S2){α:Type}(v:α→AV)(l:List α)(g:α→α)(k:α→An P Sf T)(K:KO P Sf T):Prop:=
 match o.op with
 | .store size a x=>match evO s.tm a with
  | .eref b i off=>match s.hp b with
   | some (.vec kk es)=>es=l.map v∧cond (decide (i<l.length)) (∀y,l[i]?=some y→cond (PD (v y) off size (evO s.tm x)) (dz (v y) off (evO s.tm x)=v (g y) ∧
     K (k y) ⟨aY o.dst .unk s.tm,upd (upd s.hp b none) b (some (.vec kk ((l.set i (g y)).map v)))⟩ (rdH o.op s.tm,[b,b])) False) False
   | _=>False
  | .ref b off=>match s.hp b with
   | some (.box (.agg cs))=>cs=l.map v∧cond (Nat.beq size 1) (cond (evO s.tm x).solid (cond (evO s.tm x).isAgg False (cond (decide (off<l.length)) (∀y,l[off]?=some y→evO s.tm x=v (g y) ∧
     K (k y) ⟨aY o.dst .unk s.tm,upd (upd s.hp b none) b (some (.box (.agg ((l.set off (g y)).map v))))⟩ (rdH o.op s.tm,[b,b])) False)) False) False
   | _=>False
  | _=>False
 | _=>False
def Ur(o:aO)(f:Nat)(s:S2){α:Type}(v:α→AV)(l:List α)(k:α→An P Sf T)(K:KO P Sf T):Prop:=
 match o.op with
 | .store size a x=>match evO s.tm a with
  | .eref b i off=>match s.hp b with
   | some (.vec kk es)=>es=l.map v∧cond (decide (i<l.length)) (∀y,l[i]?=some y→cond (PD (v y) off size (evO s.tm x))
     (K (k y) ⟨aY o.dst .unk s.tm,upd (upd s.hp b none) b (some (.vec kk ((l.map v).set i (dz (v y) off (evO s.tm x)))))⟩ (rdH o.op s.tm,[b,b])) False) False
   | _=>False
  | _=>False
 | _=>False
def Px(hp:Hp)(k:Nat)(x:AV)(K:List AV→Prop):Prop:=match x with
 | .vsub b lo n=>match hp b with
  | some (.vec k' es)=>cond (Nat.beq k' k) (cond (decide (lo+n≤es.length)) (K ((es.drop lo).take n)) False) False
  | _=>False
 | x=>match kd hp k x with
  | some ys=>K ys
  | none=>False
theorem DU{hp:Hp}{k:Nat}{x:AV}{K:List AV→Prop}(h:Px hp k x K):∃ys,kd hp k x=some ys∧K ys:=by
 unfold Px at h
 split at h
 ·rename_i b lo n
  split at h
  ·rename_i k' es e
   obtain⟨h1,q⟩:=az h
   obtain⟨h2,q'⟩:=az q
   refine⟨_,?_,q'⟩
   simp only[kd,e]
   rw[if_pos ⟨Nat.eq_of_beq_eq_true h1,of_decide_eq_true h2⟩]
  ·exact h.elim
 ·split at h
  ·rename_i ys e;exact⟨ys,e,h⟩
  ·exact h.elim
def Xj(o:aO)(f:Nat)(s:S2){α:Type}(v:α→AV)(l xs:List α)(a:An P Sf T)(K:KO P Sf T):Prop:=
 match o.op with
 | .append kk bytes sx x=>Px s.hp kk (evO s.tm x) λys=>match evO s.tm sx with
   | .sl _ es full=>es=l.map v∧ys=xs.map v∧cond (cond full (cond (Nat.ble bytes 134217728) es.isEmpty false) false) (cond (decide (l.length+xs.length≤1048576))
     (K a ⟨aY o.dst (.vec f) s.tm,upd s.hp f (some (.vec kk ((l++xs).map v)))⟩ (rdH o.op s.tm,[f])) False) False
   | .vec b=>match s.hp b with
    | some (.vec k' es)=>es=l.map v∧ys=xs.map v∧cond (cond (Nat.beq k' kk) (Nat.ble bytes 134217728) false) (cond (decide (l.length+xs.length≤1048576))
      (K a ⟨aY o.dst (.vec f) s.tm,upd (upd s.hp b none) f (some (.vec kk ((l++xs).map v)))⟩ (rdH o.op s.tm,[b,f])) False) False
    | _=>False
   | _=>False
 | _=>False
def Oj(o:aO)(f:Nat)(s:S2){α:Type}(v:α→AV)(l xs:List α)(a:An P Sf T)(K:KO P Sf T):Prop:=
 match o.op with
 | .append kk bytes sx x=>Px s.hp kk (evO s.tm x) λys=>match evO s.tm sx with
   | .sl k' es full=>es=l.map v∧ys=xs.map v∧cond (cond full (cond (Nat.ble bytes 134217728) (Nat.beq k' kk) false) false) (cond (decide (0<xs.length)) (cond (decide (l.length+xs.length≤1048576))
     (K a ⟨aY o.dst (.vec f) s.tm,upd s.hp f (some (.vec kk ((l++xs).map v)))⟩ (rdH o.op s.tm,[f])) False) False) False
   | _=>False
 | _=>False
def Pt(o:aO)(f:Nat)(s:S2){α:Type}(v:α→AV)(l:List α)(fl:Bool)(a:An P Sf T)(K:KO P Sf T):Prop:=
 match o.op with
 | .slice kk x lo hi mx=>match evO s.tm x with
  | .sl k' es full=>es=l.map v∧cond (Nat.beq k' kk) (match j7 (evO s.tm) lo,j7 (evO s.tm) hi,j7 (evO s.tm) mx with
   | some lo,some hi,some mx=>cond (cond mx.isSome hi.isSome true) (cond (c9 l.length (lo.getD 0) (hi.getD l.length) (mx.getD l.length))
     (cond fl (cond (mx.isSome || full) (cond (decide (hi.getD l.length=mx.getD l.length))
       (K a ⟨aY o.dst (.sl kk (((l.take (hi.getD l.length).toNat).drop (lo.getD 0).toNat).map v) true) s.tm,s.hp⟩ (rdH o.op s.tm,[])) False) False)
      (K a ⟨aY o.dst (.sl kk (((l.take (hi.getD l.length).toNat).drop (lo.getD 0).toNat).map v) (cond (mx.isSome || full) (decide (hi.getD l.length=mx.getD l.length)) false)) s.tm,s.hp⟩ (rdH o.op s.tm,[]))) False) False
   | _,_,_=>False) False
  | .vec b=>match s.hp b with
   | some (.vec k' es)=>es=l.map v∧cond (Nat.beq k' kk) (cond (decide (0<l.length)) (match j7 (evO s.tm) lo,j7 (evO s.tm) hi,mx with
    | some lo,some hi,none=>cond (c9 l.length (lo.getD 0) (hi.getD l.length) l.length)
      (K a ⟨aY o.dst (.vsub b (lo.getD 0).toNat (hi.getD l.length-lo.getD 0).toNat) s.tm,s.hp⟩ (rdH o.op s.tm,[])) False
    | some none,some (some h),some mx=>match evO s.tm mx with
     | .val (.int _ m)=>cond (decide (h=m)) (cond (c9 l.length 0 h h)
       (K a ⟨aY o.dst (.vec f) s.tm,upd (upd s.hp b none) f (some (.vec kk ((l.take h.toNat).map v)))⟩ (rdH o.op s.tm,[b,f])) False) False
     | _=>False
    | _,_,_=>False) False) False
   | _=>False
  | _=>False
 | .load agg size x=>match evO s.tm x with
  | .ref b off=>match s.hp b with
   | some (.box (.agg cs))=>cs=l.map v∧cond agg (cond (Nat.beq off 0) (cond (decide (l.length=size)) (K a ⟨aY o.dst (.agg (l.map v)) s.tm,s.hp⟩ (rdH o.op s.tm,[])) False) False) False
   | _=>False
  | _=>False
 | _=>False
def repR(o:aO)(f:Nat)(s:S2){α:Type}(v:α→AV)(x:α)(a:An P Sf T)(K:KO P Sf T):Prop:=
 match o.op with
 | .mks kk bytes z l c=>match evO s.tm l with
  | .val (.int .i64 n)=>z=v x∧cond (okB (.mks kk bytes z l c) (evO s.tm) s.hp) (K a ⟨aY o.dst (.vec f) s.tm,upd s.hp f (some (.vec kk ((List.replicate n.toNat x).map v)))⟩ (rdH o.op s.tm,[f])) False
  | _=>False
 | _=>False
def ownR(o:aO)(f:Nat)(s:S2)(a:An P Sf T)(K:KO P Sf T):Prop:=
 match o.op with
 | .lit k n z ps=>cond (QT k n (ps.map λ(i,x)=>(i,evO s.tm x)))
   (K a ⟨aY o.dst (.vec f) s.tm,upd s.hp f (some (.vec k (qp (List.replicate n z) (ps.map λ(i,x)=>(i,evO s.tm x)))))⟩ ([],[f])) False
 | _=>False
def mnR(o:aO)(f:Nat)(s:S2)(q:MN)(a:An P Sf T)(K:KO P Sf T):Prop:=
 match q with
 | .get de kf _ vf l x z=>match o.op with
  | .mget kk zz ok m k=>match tO s.hp (evO s.tm m),(evO s.tm k).key with
   | some (kk',ks,vs),some q=>ks=l.map (λp=>kf p.1)∧vs=l.map (λp=>vf p.2)∧q=kf x∧zz=vf z∧cond (kkB kk' kk) (cond (MS kk (kf x))
     (K a ⟨aY o.dst (cond ok (.tup [vf (L0 l x z),.bool (Vz l x)]) (vf (L0 l x z))) s.tm,s.hp⟩ (rdH o.op s.tm,[])) False) False
   | _,_=>False
  | _=>False
 | .put de kf _ vf l x v=>match o.op with
  | .mset kk m k y=>match evO s.tm m with
   | .mref b=>match s.hp b,(evO s.tm k).key with
    | some (.map kk' ks vs),some q=>ks=l.map (λp=>kf p.1)∧vs=l.map (λp=>vf p.2)∧q=kf x∧evO s.tm y=vf v∧cond (kkB kk' kk) (cond (MS kk (kf x)) (cond (vf v).solid
      (K a ⟨aY o.dst .unk s.tm,upd (upd s.hp b none) b (some (.map kk ((L1 l x v).map λp=>kf p.1) ((L1 l x v).map λp=>vf p.2)))⟩ (rdH o.op s.tm,[b,b])) False) False) False
    | _,_=>False
   | _=>False
  | _=>False
 | .del de kf _ vf l x=>match o.op with
  | .mdel kk m k=>match evO s.tm m with
   | .mref b=>match s.hp b,(evO s.tm k).key with
    | some (.map kk' ks vs),some q=>ks=l.map (λp=>kf p.1)∧vs=l.map (λp=>vf p.2)∧q=kf x∧cond (kkB kk' kk) (cond (MS kk (kf x))
      (K a ⟨aY o.dst (.tup []) s.tm,upd (upd s.hp b none) b (some (.map kk ((mdl l x).map λp=>kf p.1) ((mdl l x).map λp=>vf p.2)))⟩ (rdH o.op s.tm,[b,b])) False) False
    | _,_=>False
   | _=>False
  | _=>False
def opR(o:aO)(f:Nat)(s:S2):An P Sf T→KO P Sf T→Prop
 | .el g v l k,K=>cond (Nat.beq g f) (elR o f s v l k K) (fQ o f s (.el g v l k) K)
 | .elA g v l i n hv k,K=>cond (Nat.beq g f) (WB o f s v l i n k K) (fQ o f s (.elA g v l i n hv k) K)
 | .st g v l x k,K=>cond (Nat.beq g f) (stR o f s v l x k K) (fQ o f s (.st g v l x k) K)
 | .stI g v l k,K=>cond (Nat.beq g f) (Ur o f s v l k K) (fQ o f s (.stI g v l k) K)
 | .app g v l xs a',K=>cond (Nat.beq g f) (Xj o f s v l xs a' K) (fQ o f s (.app g v l xs a') K)
 | .appF g v l xs a',K=>cond (Nat.beq g f) (Oj o f s v l xs a' K) (fQ o f s (.appF g v l xs a') K)
 | .sub g v l fl a',K=>cond (Nat.beq g f) (Pt o f s v l fl a' K) (fQ o f s (.sub g v l fl a') K)
 | .rep g v x a',K=>cond (Nat.beq g f) (repR o f s v x a' K) (fQ o f s (.rep g v x a') K)
 | .own g a',K=>cond (Nat.beq g f) (ownR o f s a' K) (fQ o f s (.own g a') K)
 | .mn g q a',K=>cond (Nat.beq g f) (mnR o f s q a' K) (fQ o f s (.mn g q a') K)
 | .req g p k,K=>cond (Nat.beq g f) (∃h:p,opR o f s (k h) K) (fQ o f s (.req g p k) K)
 | a,K=>fQ o f s a K
def j8(P:Program)(n:Nat)(o:aO)(f:Nat)(s s':S2)(l:List Nat×List Nat):Prop:=
 (∀K:S2→Prop,K s'→exT P n o f s K)∧(∀K:S2→List Nat×List Nat→Prop,K s' l→exD P n o f s K)
def tz:AOp→Bool
 | .call _ _=>false
 | .lit _ _ _ _=>false
 | .isNil _ _ _=>false
 | _=>true
theorem pj{n:Nat}{o:aO}{f:Nat}{s:S2}(hp:tz o.op=true)(hc:(evA o.op f (evO s.tm) s.hp).c) :
  j8 P n o f s ⟨aY o.dst (evA o.op f (evO s.tm) s.hp).v s.tm,bD (evA o.op f (evO s.tm) s.hp) s.hp⟩ (rdH o.op s.tm,wrH (evA o.op f (evO s.tm) s.hp)):=by
 obtain⟨d,op,g⟩:=o
 refine⟨λK h=>?_,λK h=>?_⟩<;>cases op<;>first|exact⟨hc,h⟩|cases hp
theorem bL{n:Nat}{o:aO}{f:Nat}{s:S2}(hp:tz o.op=true){c:Prop}{v:AV}{rm:Option Nat}{ad:Option (Nat×Blk)}(he:evA o.op f (evO s.tm) s.hp={ c:=c,v:=v,rm:=rm,ad:=ad })(hc:c) :
    j8 P n o f s ⟨aY o.dst v s.tm,bD { c:=True,rm:=rm,ad:=ad } s.hp⟩ (rdH o.op s.tm,rm.toList++ad.toList.map (·.1)):=by
  have:=pj (P:=P) (n:=n) (o:=o) (f:=f) (s:=s) hp (by rw[he];exact hc)
  rw[he]at this
  exact this
theorem NG{n:Nat}{g:AO}{xs:List AO}{dst:Option Nat}{gd:Option (Nat×Bool)}{f:Nat}{s:S2}{a:An P Sf T}{K:KO P Sf T}{fid:FuncId}{caps:List AV}(hg:evO s.tm g=.func fid caps)
  (h:NH fid (xs.map (evO s.tm)++caps) dst f s a K):∃a' s' l,K a' s' l∧j8 P n ⟨dst,.call g xs,gd⟩ f s s' l:=by
 unfold NH at h
 split at h
 ·rename_i c a'
  obtain⟨b1,q⟩:=az h
  clear h
  have b1:=Nat.eq_of_beq_eq_true b1
  subst b1
  obtain⟨h2,h⟩:=q
  cases hp:cf (xs.map (evO s.tm)++caps)with
  | true =>
   rw[hp]at h
   rw[gX hp]at h2
   have hs:fa (xs.map (evO s.tm)++caps) c.args:=h2 ▸ eX _ _
   have hc:bE P n c.f (xs.map (evO s.tm)++caps) f s.hp [] c.r dq:=bE.pure c.fn (c.ok.sub hs Sub.refl) (aW hp)
   exact⟨_,_,_,h,λK hK=>⟨c.f,caps,[],c.r,dq,hg,.inl hc,hK⟩,λK hK=>⟨c.f,caps,[],c.r,dq,[],hg,.inl hc,λb hb=>absurd rfl hb,hK⟩⟩
  | false =>
   rw[hp]at h
   obtain⟨h3,h⟩:=az h
   obtain⟨h4,h⟩:=az h
   have hs:fa (i9 s.hp (xs.map (evO s.tm)++caps)) c.args:=h2 ▸ eX _ _
   have hc:bE P n c.f (xs.map (evO s.tm)++caps) f s.hp (xU (xs.map (evO s.tm)++caps)) c.r dq:=bE.lend c.fn (c.ok.sub hs Sub.refl) (kb h4 λb hb=>hb) (AV.flatB_ok h3)
   exact⟨_,_,_,h,λK hK=>⟨c.f,caps,_,c.r,dq,hg,.inl hc,hK⟩,λK hK=>⟨c.f,caps,_,c.r,dq,[],hg,.inl hc,λb hb=>absurd rfl hb,hK⟩⟩
 ·rename_i c hp a'
  obtain⟨b1,q⟩:=az h
  clear h
  have b1:=Nat.eq_of_beq_eq_true b1
  subst b1
  obtain⟨h2,h⟩:=q
  have hc:bE P n c.f (xs.map (evO s.tm)++caps) f s.hp [] c.r dq:=bE.subargs (h2 ▸ eX _ _) (bE.pure c.fn c.ok hp)
  exact⟨_,_,_,h,λK hK=>⟨c.f,caps,[],c.r,dq,hg,.inl hc,hK⟩,λK hK=>⟨c.f,caps,[],c.r,dq,[],hg,.inl hc,λb hb=>absurd rfl hb,hK⟩⟩
 ·rename_i bs c a'
  obtain⟨b1,q⟩:=az h
  clear h
  have b1:=Nat.eq_of_beq_eq_true b1
  subst b1
  obtain⟨h2,q⟩:=az q
  obtain⟨h3,h4,h5,h⟩:=az q
  have hs:fa (xs.map (evO s.tm)++caps) (d6 (bi bs f) c.args):=h4 ▸ eX _ _
  have hc:=bE.subargs hs (bE.handP (n:=n) c.fn c.ok bs c.good (Nat.eq_of_beq_eq_true h2) (qY h3) h5)
  exact⟨_,_,_,h,λK hK=>⟨c.f,caps,_,_,_,hg,.inl hc,hK⟩,λK hK=>⟨c.f,caps,_,_,_,_,hg,.inl hc,λb hb=>HJ hb,hK⟩⟩
 ·exact h.elim
theorem cS{n:Nat}{o:aO}{f:Nat}{s:S2}{a:An P Sf T}{K:KO P Sf T}(h:fQ o f s a K):∃a' s' l,K a' s' l∧j8 P n o f s s' l:=by
  have plain:tz o.op=true→KR o f s a K→∃a' s' l,K a' s' l∧j8 P n o f s s' l:=λhp h=>by
    obtain⟨h1,h⟩:=az h
    exact⟨_,_,_,h,pj hp (qV h1)⟩
  obtain⟨d,op,g⟩:=o
  cases op
  case call gg xs =>
    simp only[fQ]at h
    split at h
    · rename_i fid caps e;exact NG e h
    · exact h.elim
  case lit k N z ps =>
    obtain⟨h1,h⟩:=az h
    obtain⟨h2,h⟩:=az h
    exact⟨_,_,_,h,λK hK=>.inl ⟨⟨k8 h1,oG h2⟩,hK⟩,λK hK=>.inl ⟨⟨k8 h1,oG h2⟩,hK⟩⟩
  case isNil ptr ne x =>
    simp only[fQ]at h
    cases ptr with
    | false=>exact h.elim
    | true =>
      cases hv:Hq (evO s.tm x)with
      | none=>simp only[hv,cond_true]at h
      | some t =>
        simp only[hv,cond_true]at h
        obtain⟨k1,k2⟩:=EM (hp:=s.hp) hv
        have he:evA (.isNil true ne x) f (evO s.tm) s.hp={ c:=True,v:=.bool (t != ne) }:=by simp only[evA,hv]
        refine⟨_,_,_,h,λK hK=>⟨k1,λt' q=>?_⟩,λK hK=>?_⟩
        · rw[k2 t' q];exact hK
        · show(evA (.isNil true ne x) f (evO s.tm) s.hp).c∧K ⟨aY d (evA (.isNil true ne x) f (evO s.tm) s.hp).v s.tm,bD (evA (.isNil true ne x) f (evO s.tm) s.hp) s.hp⟩ (rdH (.isNil true ne x) s.tm,wrH (evA (.isNil true ne x) f (evO s.tm) s.hp))
          rw[he]
          exact⟨trivial,hK⟩
  all_goals exact plain rfl h
theorem il{α:Type}{l:List α}{v:α→AV}{i:Nat}{x:α}(h:l[i]?=some x):(l.map v).getD i .unk=v x:=by
 rw[List.getD_eq_getElem?_getD,List.getElem?_map,h];rfl
theorem oz{cs:List AV}{off:Nat}:eU (.agg cs) off 1 false=cs.getD off .unk:=by
 unfold eU
 rw[if_neg (by simp[AV.isAgg])]
 rfl
theorem WA{n:Nat}{o:aO}{f:Nat}{s:S2}{α:Type}{v:α→AV}{l:List α}{k:α→An P Sf T}{K:KO P Sf T}(h:elR o f s v l k K):∃a' s' l',K a' s' l'∧j8 P n o f s s' l':=by
 obtain⟨d,op,g⟩:=o
 cases op
 case iaddr kk x i =>
  simp only[elR]at h
  split at h
  ·rename_i ki i' e1
   split at h
   ·rename_i k' es full e2
    obtain⟨rfl,h⟩:=h
    obtain⟨h1,h⟩:=az h
    obtain⟨h2,h⟩:=az h
    obtain⟨h3,h⟩:=az h
    have h2:=of_decide_eq_true h2
    have h3:=of_decide_eq_true h3
    have hi:i'.toNat<l.length:=by omega
    have hx:l[i'.toNat]?=some l[i'.toNat]:=List.getElem?_eq_getElem hi
    refine⟨_,_,_,h _ hx,bL rfl (rm:=none) (ad:=none) (c:=k'=kk∧0≤i'∧i'<((l.map v).length:Int)) ?_ ⟨Nat.eq_of_beq_eq_true h1,h2,by rw[List.length_map];exact h3⟩⟩
    simp only[evA,e1,e2,il hx]
   ·exact h.elim
  ·exact h.elim
 case load agg size x =>
  simp only[elR]at h
  split at h
  ·rename_i b i off e1
   split at h
   ·rename_i kk es e2
    obtain⟨rfl,h⟩:=h
    obtain⟨h1,h⟩:=az h
    have h1:=of_decide_eq_true h1
    have hx:l[i]?=some l[i]:=List.getElem?_eq_getElem h1
    obtain⟨h2,h⟩:=az (h _ hx)
    refine⟨_,_,_,h,bL rfl (rm:=none) (ad:=none) (c:=i<(l.map v).length∧cV (v l[i]) off size agg) ?_ ⟨by rw[List.length_map];exact h1,kx h2⟩⟩
    simp only[evA,e1,e2,il hx]
   ·exact h.elim
  ·rename_i b off e1
   split at h
   ·rename_i cs e2
    obtain⟨rfl,h⟩:=h
    obtain⟨h0,h⟩:=az h
    obtain⟨h1,h⟩:=az h
    have h1:=of_decide_eq_true h1
    have hx:l[off]?=some l[off]:=List.getElem?_eq_getElem h1
    cases agg with
    | true=>cases h0
    | false =>
     have h0:size=1:=Nat.eq_of_beq_eq_true h0
     subst h0
     refine⟨_,_,_,h _ hx,bL rfl (rm:=none) (ad:=none) (c:=cV (.agg (l.map v)) off 1 false) ?_ ⟨rfl,by simp only[AV.cells,List.length_map];omega,λ_=>rfl⟩⟩
     simp only[evA,e1,e2,oz,il hx]
   ·exact h.elim
  ·rename_i cs off e1
   obtain⟨rfl,h⟩:=h
   obtain⟨h0,h⟩:=az h
   obtain⟨h1,h⟩:=az h
   have h1:=of_decide_eq_true h1
   have hx:l[off]?=some l[off]:=List.getElem?_eq_getElem h1
   cases agg with
   | true=>cases h0
   | false =>
    have h0:size=1:=Nat.eq_of_beq_eq_true h0
    subst h0
    refine⟨_,_,_,h _ hx,bL rfl (rm:=none) (ad:=none) (c:=cV (.agg (l.map v)) off 1 false) ?_ ⟨rfl,by simp only[AV.cells,List.length_map];omega,λ_=>rfl⟩⟩
    simp only[evA,e1,oz,il hx]
  ·exact h.elim
 case indexA N kk agg x i =>
  simp only[elR]at h
  split at h
  ·rename_i ki i' e1
   split at h
   ·rename_i cs e2
    obtain⟨rfl,h⟩:=h
    obtain⟨h0,h⟩:=az h
    obtain⟨h1,h⟩:=az h
    obtain⟨h2,h⟩:=az h
    obtain⟨h3,h⟩:=az h
    have h3:=of_decide_eq_true h3
    have hx:l[i'.toNat]?=some l[i'.toNat]:=List.getElem?_eq_getElem h3
    cases agg with
    | true=>cases h0
    | false =>
     have h0:kk=1:=Nat.eq_of_beq_eq_true h0
     subst h0
     refine⟨_,_,_,h _ hx,bL rfl (rm:=none) (ad:=none) (c:=(AV.agg (l.map v)).isAgg=true∧0≤i'∧i'<N∧cV (.agg (l.map v)) (i'.toNat * 1) 1 false) ?_
      ⟨rfl,of_decide_eq_true h1,of_decide_eq_true h2,rfl,by simp only[AV.cells,List.length_map];omega,λ_=>rfl⟩⟩
     simp only[evA,e1,e2,AV.cells,Nat.mul_one,il hx]
     rfl
   ·exact h.elim
  ·exact h.elim
 all_goals exact h.elim
theorem HM{α:Type}{l:List α}{v:α→List AV}{n:Nat}(hv:∀x,(v x).length=n):(l.flatMap v).length=l.length * n:=by
 induction l with
 | nil=>simp
 | cons a l ih=>rw[List.flatMap_cons,List.length_append,hv,ih,List.length_cons,Nat.succ_mul,Nat.add_comm]
theorem rH{α:Type}{v:α→List AV}{n:Nat}(hv:∀x,(v x).length=n):∀{l:List α} {i:Nat} {x:α},l[i]?=some x→((l.flatMap v).drop (i * n)).take n=v x
 | [],i,x,h=>by simp at h
 | a::l,0,x,h=>by
  simp only[List.getElem?_cons_zero,Option.some.injEq]at h
  subst h
  rw[Nat.zero_mul,List.drop_zero,List.flatMap_cons,List.take_append_of_le_length (by rw[hv];exact Nat.le_refl _),List.take_of_length_le (by rw[hv];exact Nat.le_refl _)]
 | a::l,i+1,x,h=>by
  rw[List.getElem?_cons_succ]at h
  rw[List.flatMap_cons,Nat.succ_mul,List.drop_append,List.drop_eq_nil_of_le (by rw[hv];omega),List.nil_append,hv,Nat.add_sub_cancel]
  exact rH hv h
theorem ow{cs:List AV}{off size:Nat}:eU (.agg cs) off size true=.agg ((cs.drop off).take size):=by
 unfold eU
 split
 ·rename_i h
  obtain⟨rfl,h,-⟩:=h
  have h:cs.length=size:=h
  rw[List.drop_zero,List.take_of_length_le (by omega)]
 ·rfl
theorem RW{n:Nat}{o:aO}{f:Nat}{s:S2}{α:Type}{v:α→List AV}{l:List α}{i m:Nat}(hv:∀x,(v x).length=m){k:α→An P Sf T}{K:KO P Sf T}(h:WB o f s v l i m k K):∃a' s' l',K a' s' l'∧j8 P n o f s s' l':=by
 obtain⟨d,op,g⟩:=o
 cases op
 case load agg size x =>
  simp only[WB]at h
  split at h
  ·rename_i b off e1
   split at h
   ·rename_i cs e2
    obtain⟨rfl,rfl,h⟩:=h
    obtain⟨h0,q⟩:=az h
    obtain⟨h1,q'⟩:=az q
    obtain⟨h2,q''⟩:=az q'
    have h1:=Nat.eq_of_beq_eq_true h1
    have h2:=of_decide_eq_true h2
    clear h q q'
    subst h0;subst h1
    have hx:l[i]?=some l[i]:=List.getElem?_eq_getElem h2
    have hl:i * size+size≤(l.flatMap v).length:=by
     rw[HM hv,←Nat.succ_mul];exact Nat.mul_le_mul_right _ h2
    refine⟨_,_,_,q'' _ hx,bL rfl (rm:=none) (ad:=none) (c:=cV (.agg (l.flatMap v)) (i * size) size true) ?_ ⟨rfl,hl,λe=>by cases e⟩⟩
    simp only[evA,e1,e2,ow,rH hv hx]
   ·exact h.elim
  ·exact h.elim
 all_goals exact h.elim
theorem Kf{α:Type}{l:List α}{v:α→AV}{i:Nat}{x:α}:(l.map v).set i (v x)=(l.set i x).map v:=by rw[List.map_set]
theorem Ak{cs:List AV}{off:Nat}{x:AV}(h:off<cs.length):iC cs off [x]=cs.set off x:=by
 unfold iC
 rw[List.set_eq_take_append_cons_drop,if_pos h]
 simp
theorem Uq{n:Nat}{o:aO}{f:Nat}{s:S2}{α:Type}{v:α→AV}{l:List α}{g:α→α}{k:α→An P Sf T}{K:KO P Sf T}(h:stR o f s v l g k K):∃a' s' l',K a' s' l'∧j8 P n o f s s' l':=by
 obtain⟨d,op,gd⟩:=o
 cases op
 case store size a x =>
  simp only[stR]at h
  split at h
  ·rename_i b i off e1
   split at h
   ·rename_i kk es e2
    obtain⟨rfl,h⟩:=h
    obtain⟨h1,h⟩:=az h
    have h1:=of_decide_eq_true h1
    have hx:l[i]?=some l[i]:=List.getElem?_eq_getElem h1
    obtain⟨h2,h3,h⟩:=az (h _ hx)
    refine⟨_,_,_,h,bL rfl (v:=.unk) (rm:=some b) (ad:=some (b,.vec kk ((l.set i (g l[i])).map v))) (c:=i<(l.map v).length∧lX (v l[i]) off size (evO s.tm x)) ?_ ⟨by rw[List.length_map];exact h1,sU h2⟩⟩
    simp only[evA,e1,e2,il hx,h3,Kf]
   ·exact h.elim
  ·rename_i b off e1
   split at h
   ·rename_i cs e2
    obtain⟨rfl,h⟩:=h
    obtain⟨h0,h⟩:=az h
    obtain⟨h1,h⟩:=az h
    cases h2:(evO s.tm x).isAgg with
    | true=>rw[h2]at h;exact h.elim
    | false =>
     rw[h2]at h
     obtain⟨h3,h⟩:=az h
     have h3:=of_decide_eq_true h3
     have hx:l[off]?=some l[off]:=List.getElem?_eq_getElem h3
     obtain⟨h4,h⟩:=h _ hx
     have h0:size=1:=Nat.eq_of_beq_eq_true h0
     subst h0
     have hc:(evO s.tm x).cells=[evO s.tm x]:=by
      revert h2;cases evO s.tm x<;>simp[AV.isAgg,AV.cells]
     refine⟨_,_,_,h,bL rfl (v:=.unk) (rm:=some b) (ad:=some (b,.box (.agg ((l.set off (g l[off])).map v)))) (c:=lX (.agg (l.map v)) off 1 (evO s.tm x)) ?_ ⟨rfl,h1,by rw[hc];rfl,by simp only[AV.cells,List.length_map];omega⟩⟩
     simp only[evA,e1,e2]
     unfold dz
     rw[if_neg (by rw[h2];simp[AV.isAgg]),hc]
     simp only[AV.cells]
     rw[Ak (by rw[List.length_map];exact h3),h4,Kf]
   ·exact h.elim
  ·exact h.elim
 all_goals exact h.elim
theorem Pv{n:Nat}{o:aO}{f:Nat}{s:S2}{α:Type}{v:α→AV}{l:List α}{k:α→An P Sf T}{K:KO P Sf T}(h:Ur o f s v l k K):∃a' s' l',K a' s' l'∧j8 P n o f s s' l':=by
 obtain⟨d,op,gd⟩:=o
 cases op
 case store size a x =>
  simp only[Ur]at h
  split at h
  ·rename_i b i off e1
   split at h
   ·rename_i kk es e2
    obtain⟨rfl,h⟩:=h
    obtain⟨h1,h⟩:=az h
    have h1:=of_decide_eq_true h1
    have hx:l[i]?=some l[i]:=List.getElem?_eq_getElem h1
    obtain⟨h2,h⟩:=az (h _ hx)
    refine⟨_,_,_,h,bL rfl (v:=.unk) (rm:=some b) (ad:=some (b,.vec kk ((l.map v).set i (dz (v l[i]) off (evO s.tm x))))) (c:=i<(l.map v).length∧lX (v l[i]) off size (evO s.tm x)) ?_ ⟨by rw[List.length_map];exact h1,sU h2⟩⟩
    simp only[evA,e1,e2,il hx]
   ·exact h.elim
  ·exact h.elim
 all_goals exact h.elim
theorem room{a b bytes:Nat}(h1:bytes≤134217728)(h2:a+b≤1048576):(a+b) * bytes≤2 ^ 47∧a+b≤maxLen:=by
 have:(a+b) * bytes≤1048576 * 134217728:=Nat.mul_le_mul h2 h1
 have h3:(1048576:Nat)≤maxLen:=by decide
 omega
theorem SA{n:Nat}{o:aO}{f:Nat}{s:S2}{α:Type}{v:α→AV}{l xs:List α}{a:An P Sf T}{K:KO P Sf T}(h:Xj o f s v l xs a K):∃a' s' l',K a' s' l'∧j8 P n o f s s' l':=by
 obtain⟨d,op,gd⟩:=o
 cases op
 case append kk bytes sx x =>
  simp only[Xj]at h
  obtain⟨ys,e0,h⟩:=DU h
  ·skip
   split at h
   ·rename_i k' es full e1
    obtain⟨rfl,rfl,h⟩:=h
    obtain⟨h0,h⟩:=az h
    obtain⟨h1,h⟩:=az h
    obtain⟨h2,h0⟩:=ah.mp h0
    obtain⟨h3,h4⟩:=ah.mp h0
    have hl:l=[]:=by cases l<;>simp_all
    subst hl
    have h1:=of_decide_eq_true h1
    have hr:=room (Nat.le_of_ble_eq_true h3) h1
    simp only[List.length_nil,Nat.zero_add]at hr
    refine⟨_,_,_,h,bL rfl (v:=.vec f) (rm:=none) (ad:=some (f,.vec kk (([]++xs).map v))) (c:=full=true∧(xs.map v).length * bytes≤2 ^ 47∧(xs.map v).length≤maxLen) ?_ ⟨h2,by rw[List.length_map];exact hr⟩⟩
    simp only[evA,e0,e1,dV,List.map_nil,if_pos,List.nil_append]
   ·rename_i b e1
    split at h
    ·rename_i k' es e2
     obtain⟨rfl,rfl,h⟩:=h
     obtain⟨h0,h⟩:=az h
     obtain⟨h1,h⟩:=az h
     obtain⟨h2,h3⟩:=ah.mp h0
     have h1:=of_decide_eq_true h1
     have hr:=room (Nat.le_of_ble_eq_true h3) h1
     refine⟨_,_,_,h,bL rfl (v:=.vec f) (rm:=some b) (ad:=some (f,.vec kk ((l++xs).map v))) (c:=k'=kk∧((l.map v).length+(xs.map v).length) * bytes≤2 ^ 47∧(l.map v).length+(xs.map v).length≤maxLen) ?_
      ⟨Nat.eq_of_beq_eq_true h2,by simp only[List.length_map];exact hr⟩⟩
     simp only[evA,e0,e1,e2,dV,List.map_append]
    ·exact h.elim
   ·exact h.elim
 all_goals exact h.elim
theorem Oi{n:Nat}{o:aO}{f:Nat}{s:S2}{α:Type}{v:α→AV}{l xs:List α}{a:An P Sf T}{K:KO P Sf T}(h:Oj o f s v l xs a K):∃a' s' l',K a' s' l'∧j8 P n o f s s' l':=by
 obtain⟨d,op,gd⟩:=o
 cases op
 case append kk bytes sx x =>
  simp only[Oj]at h
  obtain⟨ys,e0,h⟩:=DU h
  ·skip
   split at h
   ·rename_i k' es full e1
    obtain⟨rfl,rfl,h⟩:=h
    obtain⟨h0,h⟩:=az h
    obtain⟨h5,h⟩:=az h
    obtain⟨h1,h⟩:=az h
    obtain⟨h2,h0⟩:=ah.mp h0
    obtain⟨h3,h4⟩:=ah.mp h0
    have h1:=of_decide_eq_true h1
    have h5:=of_decide_eq_true h5
    have hr:=room (Nat.le_of_ble_eq_true h3) h1
    by_cases hl:l=[]
    ·subst hl
     simp only[List.length_nil,Nat.zero_add]at hr
     refine⟨_,_,_,h,bL rfl (v:=.vec f) (rm:=none) (ad:=some (f,.vec kk (([]++xs).map v))) (c:=full=true∧(xs.map v).length * bytes≤2 ^ 47∧(xs.map v).length≤maxLen) ?_ ⟨h2,by rw[List.length_map];exact hr⟩⟩
     simp only[evA,e0,e1,dV,List.map_nil,if_pos,List.nil_append]
    ·refine⟨_,_,_,h,bL rfl (v:=.vec f) (rm:=none) (ad:=some (f,.vec kk ((l++xs).map v))) (c:=k'=kk∧full=true∧((l.map v).length+(xs.map v).length) * bytes≤2 ^ 47∧(l.map v).length+(xs.map v).length≤maxLen∧0<(xs.map v).length) ?_
      ⟨Nat.eq_of_beq_eq_true h4,h2,by simp only[List.length_map];exact hr.1,by simp only[List.length_map];exact hr.2,by rw[List.length_map];exact h5⟩⟩
     have hm:¬l.map v=[]:=by simpa using hl
     simp only[evA,e0,e1,dV,if_neg hm,List.map_append]
   ·exact h.elim
 all_goals exact h.elim
theorem Ps{n:Nat}{o:aO}{f:Nat}{s:S2}{α:Type}{v:α→AV}{l:List α}{fl:Bool}{a:An P Sf T}{K:KO P Sf T}(h:Pt o f s v l fl a K):∃a' s' l',K a' s' l'∧j8 P n o f s s' l':=by
  obtain⟨d,op,gd⟩:=o
  cases op
  case load agg size x =>
    simp only[Pt]at h
    split at h
    · rename_i b off e1
      split at h
      · rename_i cs e2
        obtain⟨rfl,h⟩:=h
        obtain⟨h0,q⟩:=az h
        obtain⟨h1,q'⟩:=az q
        obtain⟨h2,q''⟩:=az q'
        have h1:=Nat.eq_of_beq_eq_true h1
        have h2:=of_decide_eq_true h2
        clear h q q'
        subst h0;subst h1;subst h2
        refine⟨_,_,_,q'',bL rfl (rm:=none) (ad:=none) (c:=cV (.agg (l.map v)) 0 l.length true) ?_ ⟨rfl,by show 0+l.length≤(l.map v).length;simp,λe=>by cases e⟩⟩
        simp only[evA,e1,e2,ow]
        rw[List.drop_zero,List.take_of_length_le (by simp)]
      · exact h.elim
    · exact h.elim
  case slice kk x lo hi mx =>
    simp only[Pt]at h
    split at h
    · rename_i k' es full e1
      obtain⟨rfl,h⟩:=h
      obtain⟨h0,h⟩:=az h
      have h0:=Nat.eq_of_beq_eq_true h0
      subst h0
      split at h
      · rename_i lo' hi' mx' e2 e3 e4
        obtain⟨h1,h⟩:=az h
        obtain⟨h2,h⟩:=az h
        have hb:=kQ h2
        have key:∀lo hi mx:Option Int,(mx.isSome=true→hi.isSome=true)→(0≤lo.getD 0∧lo.getD 0≤hi.getD l.length∧hi.getD l.length≤mx.getD l.length∧mx.getD l.length≤(l.length:Int)) →
            sliceA s.hp k' (.sl k' (l.map v) full) lo hi mx={ c:=(sliceA s.hp k' (.sl k' (l.map v) full) lo hi mx).c,v:=.sl k' (((l.take (hi.getD l.length).toNat).drop (lo.getD 0).toNat).map v) (cond (mx.isSome || full) (decide (hi.getD l.length=mx.getD l.length)) false) } ∧
            (sliceA s.hp k' (.sl k' (l.map v) full) lo hi mx).c:=by
          intro lo hi mx g1 g2
          refine⟨?_,?_⟩
          · have e9:∀a b:Bool,(a && b)=cond b a false:=by decide
            simp only[sliceA,List.length_map,List.map_drop,List.map_take,e9]
          · simp only[sliceA,List.length_map]
            exact⟨.inl trivial,g1,g2⟩
        have opt:∀{y:Option AO} {y':Option Int},j7 (evO s.tm) y=some y'→(y.map (evO s.tm)=none∧y'=none)∨∃kk i,y.map (evO s.tm)=some (.val (.int kk i))∧y'=some i:=by
          intro y y' e
          cases y with
          | none=>simp[j7]at e;exact .inl ⟨rfl,e.symm⟩
          | some y =>
            simp only[j7]at e
            split at e
            · rename_i kk i e'
              simp at e
              exact .inr ⟨kk,i,by simp[e'],e.symm⟩
            · cases e
        have hev:evA (.slice k' x lo hi mx) f (evO s.tm) s.hp=sliceA s.hp k' (.sl k' (l.map v) full) lo' hi' mx'∨(mx'.isSome=true∧lo'=none∧hi'=none)∨(mx'.isSome=true∧hi'=none):=by
          rcases opt e2 with⟨a1,rfl⟩|⟨q1,i1,a1,rfl⟩<;>rcases opt e3 with⟨a2,rfl⟩|⟨q2,i2,a2,rfl⟩<;>rcases opt e4 with⟨a3,rfl⟩|⟨q3,i3,a3,rfl⟩
          · left;simp only[evA,a1,a2,a3,e1,jS]
          · right;left;exact⟨rfl,rfl,rfl⟩
          · left;simp only[evA,a1,a2,a3,e1,cz]
          · left;simp only[evA,a1,a2,a3,e1,jS]
          · left;simp only[evA,a1,a2,a3,e1,jS]
          · right;right;exact⟨rfl,rfl⟩
          · left;simp only[evA,a1,a2,a3,e1,jS]
          · left;simp only[evA,a1,a2,a3,e1,jS]
        obtain⟨k1,k2⟩:=key lo' hi' mx' (ke h1) hb
        rcases hev with hev|⟨q1,q2,q3⟩|⟨q1,q2⟩
        · cases fl with
          | true =>
            obtain⟨p1,h⟩:=az h
            obtain⟨p2,h⟩:=az h
            rw[p1,p2]at k1
            exact⟨_,_,_,h,bL rfl (rm:=none) (ad:=none) (hev.trans k1) k2⟩
          | false=>exact⟨_,_,_,h,bL rfl (rm:=none) (ad:=none) (hev.trans k1) k2⟩
        · have:=ke h1 q1;rw[q3]at this;cases this
        · have:=ke h1 q1;rw[q2]at this;cases this
      · exact h.elim
    · rename_i b e1
      split at h
      · rename_i k' es e0
        obtain⟨rfl,h⟩:=h
        obtain⟨h0,h⟩:=az h
        have h0:=Nat.eq_of_beq_eq_true h0
        subst h0
        obtain⟨h9,h⟩:=az h
        have h9:=of_decide_eq_true h9
        cases e2:j7 (evO s.tm) lo with
        | none=>simp only[e2]at h
        | some lo' =>
        cases e3:j7 (evO s.tm) hi with
        | none=>simp only[e2,e3]at h
        | some hi' =>
        cases mx with
        | some m =>
          cases lo' with
          | some l0=>simp only[e2,e3]at h
          | none =>
          cases hi' with
          | none=>simp only[e2,e3]at h
          | some hh =>
          simp only[e2,e3]at h
          split at h
          · rename_i kk2 mm e4
            obtain⟨p1,h3⟩:=az h
            obtain⟨p2,h4⟩:=az h3
            have p1:=of_decide_eq_true p1
            clear h h3
            subst p1
            have hb:=kQ p2
            have a1:lo.map (evO s.tm)=none:=by
              cases lo with
              | none=>rfl
              | some y=>simp only[j7]at e2;split at e2<;>cases e2
            have a2:∃kk3,hi.map (evO s.tm)=some (.val (.int kk3 hh)):=by
              cases hi with
              | none=>simp[j7]at e3
              | some y =>
                simp only[j7]at e3
                split at e3
                · rename_i kk3 i3 e5
                  simp at e3;subst e3
                  exact⟨kk3,by simp[e5]⟩
                · cases e3
            obtain⟨kk3,a2⟩:=a2
            have hev:evA (.slice k' x lo hi (some m)) f (evO s.tm) s.hp={ c:=k'=k'∧0≤hh∧hh≤((l.map v).length:Int),v:=.vec f,rm:=some b,ad:=some (f,.vec k' ((l.take hh.toNat).map v)) }:=by
              simp only[evA,a1,a2,Option.map_some,e4,e1,jS,e0]
              rw[if_pos ⟨trivial,by rw[List.length_map];exact h9⟩,List.map_take]
            exact⟨_,_,_,h4,bL rfl (rm:=some b) (ad:=some (f,.vec k' ((l.take hh.toNat).map v))) hev ⟨rfl,hb.2.1,by rw[List.length_map];exact hb.2.2.2⟩⟩
          · exact h.elim
        | none =>
          simp only[e2,e3]at h
          obtain⟨h2,h⟩:=az h
          have hb:=kQ h2
          have key:∀lo hi:Option Int,(0≤lo.getD 0∧lo.getD 0≤hi.getD l.length∧hi.getD l.length≤l.length∧(l.length:Int)≤(l.length:Int)) →
              sliceA s.hp k' (.vec b) lo hi none={ c:=(sliceA s.hp k' (.vec b) lo hi none).c,v:=.vsub b (lo.getD 0).toNat (hi.getD l.length-lo.getD 0).toNat }∧(sliceA s.hp k' (.vec b) lo hi none).c:=by
            intro lo hi g2
            refine⟨?_,?_⟩
            · simp only[sliceA,e0,List.length_map,h9,and_self,if_true]
            · simp only[sliceA,e0,List.length_map]
              exact⟨trivial,λh=>by simp at h,g2⟩
          have opt:∀{y:Option AO} {y':Option Int},j7 (evO s.tm) y=some y'→(y.map (evO s.tm)=none∧y'=none)∨∃kk i,y.map (evO s.tm)=some (.val (.int kk i))∧y'=some i:=by
            intro y y' e
            cases y with
            | none=>simp[j7]at e;exact .inl ⟨rfl,e.symm⟩
            | some y =>
              simp only[j7]at e
              split at e
              · rename_i kk i e'
                simp at e
                exact .inr ⟨kk,i,by simp[e'],e.symm⟩
              · cases e
          have hres:∀h:Int,cz s.hp f k' (.vec b) h=sliceA s.hp k' (.vec b) none (some h) none:=λh=>by simp only[cz,e0]
          have hev:evA (.slice k' x lo hi none) f (evO s.tm) s.hp=sliceA s.hp k' (.vec b) lo' hi' none:=by
            rcases opt e2 with⟨a1,rfl⟩|⟨q1,i1,a1,rfl⟩<;>rcases opt e3 with⟨a2,rfl⟩|⟨q2,i2,a2,rfl⟩<;>simp only[evA,a1,a2,e1,Option.map_none,hres]
          obtain⟨k1,k2⟩:=key lo' hi' hb
          exact⟨_,_,_,h,bL rfl (rm:=none) (ad:=none) (hev.trans k1) k2⟩
      · exact h.elim
    · exact h.elim
  all_goals exact h.elim
theorem Qh{n:Nat}{o:aO}{f:Nat}{s:S2}{α:Type}{v:α→AV}{x:α}{a:An P Sf T}{K:KO P Sf T}(h:repR o f s v x a K):∃a' s' l',K a' s' l'∧j8 P n o f s s' l':=by
 obtain⟨d,op,gd⟩:=o
 cases op
 case mks kk bytes z l c =>
  simp only[repR]at h
  split at h
  ·rename_i m e1
   obtain⟨rfl,h⟩:=h
   obtain⟨h1,h⟩:=az h
   have hc:=qV (f:=f) h1
   simp only[okB]at h1
   split at h1
   ·rename_i l' c' e2 e3
    rw[e1]at e2;cases e2
    refine⟨_,_,_,h,bL rfl (v:=.vec f) (rm:=none) (ad:=some (f,.vec kk ((List.replicate m.toNat x).map v))) (c:=(evA (.mks kk bytes (v x) l c) f (evO s.tm) s.hp).c) ?_ hc⟩
    simp only[evA,e1,e3,List.map_replicate]
   ·cases h1
  ·exact h.elim
 all_goals exact h.elim
theorem Q3{n:Nat}{o:aO}{f:Nat}{s:S2}{a:An P Sf T}{K:KO P Sf T}(h:ownR o f s a K):∃a' s' l',K a' s' l'∧j8 P n o f s s' l':=by
 obtain⟨d,op,gd⟩:=o
 cases op
 case lit k N z ps =>
  obtain⟨h1,h⟩:=az h
  exact⟨_,_,_,h,λK hK=>.inr ⟨k8 h1,hK⟩,λK hK=>.inr ⟨k8 h1,hK⟩⟩
 all_goals exact h.elim
theorem iK{b:Bool}{X Y:Prop}(h:cond b X Y):X∨Y:=by cases b with
  | true=>exact .inl h
  | false=>exact .inr h
section
variable {α β : Type} [DecidableEq α]
theorem re{γ:Type}[DecidableEq γ]{g:α→γ}(hg:∀x y,g x=g y→x=y)(x:α):∀l:List α,(l.map g).idxOf (g x)=l.idxOf x
 | []=>rfl
 | y::l=>by
  rw[List.map_cons,List.idxOf_cons,List.idxOf_cons,re hg x l]
  by_cases e:y=x
  ·subst e;simp
  ·have:g y≠g x:=λh=>e (hg _ _ h)
   rw[beq_eq_false_iff_ne.mpr this,beq_eq_false_iff_ne.mpr e]
omit [DecidableEq α] in
theorem QR{γ:Type}{g:α→γ}(hg:∀x y,g x=g y→x=y){x:α}{l:List α}:g x∈l.map g↔x∈l:=
 ⟨λh=>by obtain⟨y,hy,e⟩:=List.mem_map.mp h;exact hg _ _ e ▸ hy,List.mem_map_of_mem⟩
variable {kf : α → MK} {vf : β → AV} {l : List (α × β)} {x : α}
omit [DecidableEq α] in
theorem xD:l.map (λp=>kf p.1)=(fm l).map kf:=by rw[fm,List.map_map];rfl
theorem ub(hi:∀x y,kf x=kf y→x=y):(l.map λp=>kf p.1).idxOf (kf x)=mG l x:=by rw[xD,re hi];rfl
omit [DecidableEq α] in
theorem mem_keys(hi:∀x y,kf x=kf y→x=y):kf x∈(l.map λp=>kf p.1)↔x∈fm l:=by rw[xD,QR hi]
theorem mX(h:x∈fm l):mG l x<l.length:=by
 have:=List.idxOf_lt_length_of_mem h
 rwa [fm,List.length_map]at this
theorem EQ(h:x ∉ fm l):mG l x=l.length:=by
 have:=List.idxOf_eq_length h
 rwa [fm,List.length_map]at this
theorem L4(h:x∈fm l):(l[mG l x]'(mX h)).1=x:=by
 have h1:(fm l)[mG l x]'(List.idxOf_lt_length_of_mem h)=x:=List.getElem_idxOf _
 simpa[fm]using h1
theorem xk(hi:∀x y,kf x=kf y→x=y)(z:β)(ok:Bool) :
  xl (l.map λp=>kf p.1) (l.map λp=>vf p.2) (kf x) (vf z) ok=cond ok (.tup [vf (L0 l x z),.bool (Vz l x)]) (vf (L0 l x z)):=by
 unfold xl Vz L0
 by_cases h:x∈fm l
 ·have e:l[mG l x]?=some (l[mG l x]'(mX h)):=List.getElem?_eq_getElem (mX h)
  rw[if_pos ((mem_keys hi).mpr h),ub hi,decide_eq_true h,List.getD_eq_getElem?_getD,List.getElem?_map,e]
  cases ok<;>rfl
 ·have e:l[mG l x]?=none:=by rw[EQ h];simp
  rw[if_neg (λq=>h ((mem_keys hi).mp q)),decide_eq_false h,e]
  cases ok<;>rfl
theorem xj(hi:∀x y,kf x=kf y→x=y)(kk:Option Nat)(v:β) :
  oC kk (l.map λp=>kf p.1) (l.map λp=>vf p.2) (kf x) (vf v)=.map kk ((L1 l x v).map λp=>kf p.1) ((L1 l x v).map λp=>vf p.2):=by
 unfold oC L1
 by_cases h:x∈fm l
 ·rw[if_pos ((mem_keys hi).mpr h),if_pos h,ub hi,List.map_set,List.map_set]
  congr 1
  have:(l.map λp=>kf p.1)[mG l x]'(by rw[List.length_map];exact mX h)=kf x:=by rw[List.getElem_map,L4 h]
  rw[←this,List.set_getElem_self]
 ·rw[if_neg (λq=>h ((mem_keys hi).mp q)),if_neg h,List.map_append,List.map_append];rfl
theorem xt(hi:∀x y,kf x=kf y→x=y)(kk:Option Nat) :
  oE kk (l.map λp=>kf p.1) (l.map λp=>vf p.2) (kf x)=.map kk ((mdl l x).map λp=>kf p.1) ((mdl l x).map λp=>vf p.2):=by
 unfold oE mdl
 by_cases h:x∈fm l
 ·rw[if_pos ((mem_keys hi).mpr h),ub hi,ci,ci]
 ·rw[if_neg (λq=>h ((mem_keys hi).mp q)),EQ h,List.eraseIdx_of_length_le (Nat.le_refl _)]
end
theorem Vy{n:Nat}{o:aO}{f:Nat}{s:S2}{q:MN}{a:An P Sf T}{K:KO P Sf T}(h:mnR o f s q a K):∃a' s' l',K a' s' l'∧j8 P n o f s s' l':=by
 obtain⟨d,op,gd⟩:=o
 cases q with
 | get de kf hi vf l x z =>
  cases op<;>simp only[mnR]at h
  case mget kk zz ok m k =>
   split at h
   ·rename_i kk' ks vs q e1 e2
    obtain⟨rfl,rfl,rfl,rfl,h⟩:=h
    obtain⟨h1,h⟩:=az h
    obtain⟨h2,h⟩:=az h
    refine⟨_,_,_,h,bL rfl (rm:=none) (ad:=none) (c:=kk'=kk∧(kf x).fits kk) ?_ ⟨tX h1,ng h2⟩⟩
    simp only[evA,e1,e2,xk hi]
   ·exact h.elim
  all_goals exact h.elim
 | put de kf hi vf l x v =>
  cases op<;>simp only[mnR]at h
  case mset kk m k y =>
   split at h
   ·rename_i b e0
    split at h
    ·rename_i kk' ks vs q e1 e2
     obtain⟨rfl,rfl,rfl,e3,h⟩:=h
     obtain⟨h1,h⟩:=az h
     obtain⟨h2,h⟩:=az h
     obtain⟨h3,h⟩:=az h
     refine⟨_,_,_,h,bL rfl (rm:=some b) (ad:=some (b,_)) (c:=kk'=kk∧(kf x).fits kk∧(vf v).solid=true) ?_ ⟨tX h1,ng h2,h3⟩⟩
     simp only[evA,e0,e1,e2,e3,xj hi]
    ·exact h.elim
   ·exact h.elim
  all_goals exact h.elim
 | del de kf hi vf l x =>
  cases op<;>simp only[mnR]at h
  case mdel kk m k =>
   split at h
   ·rename_i b e0
    split at h
    ·rename_i kk' ks vs q e1 e2
     obtain⟨rfl,rfl,rfl,h⟩:=h
     obtain⟨h1,h⟩:=az h
     obtain⟨h2,h⟩:=az h
     refine⟨_,_,_,h,bL rfl (rm:=some b) (ad:=some (b,_)) (c:=kk'=kk∧(kf x).fits kk) ?_ ⟨tX h1,ng h2⟩⟩
     simp only[evA,e0,e1,e2,xt hi]
    ·exact h.elim
   ·exact h.elim
  all_goals exact h.elim
theorem Bh{n:Nat}{o:aO}{f:Nat}{s:S2}{K:KO P Sf T}:∀{a:An P Sf T},opR o f s a K→∃a' s' l,K a' s' l∧j8 P n o f s s' l
 | .el g v l k,h=>(iK h).elim WA cS
 | .elA g v l i n hv k,h=>(iK h).elim (RW hv) cS
 | .st g v l x k,h=>(iK h).elim Uq cS
 | .stI g v l k,h=>(iK h).elim Pv cS
 | .app g v l xs a',h=>(iK h).elim SA cS
 | .appF g v l xs a',h=>(iK h).elim Oi cS
 | .sub g v l fl a',h=>(iK h).elim Ps cS
 | .rep g v x a',h=>(iK h).elim Qh cS
 | .own g a',h=>(iK h).elim Q3 cS
 | .mn g q a',h=>(iK h).elim Vy cS
 | .req g p k,h=>(iK h).elim (λ⟨_,h⟩=>Bh h) cS
 | .nil,h|.pass _,h|.br _ _ _,h|.callP _ _,h|.callH _ _ _,h|.callA _ _ _,h|.cmd _ _,h|.cmdL _ _,h|.wait _,h|.loop _ _ _ _ _ _ _,h|.join _ _ _ _ _,h|.join2 _ _ _ _ _,h|.back _ _ _,h|.hand _ _ _ _ _ _ _ _,h|.hand2 _ _ _ _ _ _,h|.unr _ _,h|.ret _,h|.retH _ _ _,h=>cS h
end
end Go.Am
namespace Go.Am
section
variable {P : Program} {Sf : Nat → Type} {T : Type}
def nilR(hp:Hp)(ptr:Bool)(x:AV)(K:Bool→Prop):Prop:=
 match ptr,x with
 | true,.ref _ _=>K false
 | true,.eref _ _ _=>K false
 | true,.rptr _ _=>K false
 | true,.val (.pointer none)=>K true
 | false,.sl _ es _=>∀t:Bool,(es≠[]→t=false)→K t
 | false,.vec b=>match hp b with
  | some (.vec _ es)=>∀t:Bool,(es≠[]→t=false)→K t
  | _=>False
 | _,_=>False
def Bi(o:aO)(f:Nat)(s:S2)(a:An P Sf T)(K:KO P Sf T):Prop:=
 match o.op with
 | .isNil ptr ne x=>nilR s.hp ptr (evO s.tm x) λt=>K a ⟨aY o.dst (.bool (t != ne)) s.tm,s.hp⟩ ([],[])
 | _=>opR o f s a K
def lm:List aO→Nat→S2→An P Sf T→(An P Sf T→S2→Nat→Prop)→Prop
 | [],f,s,a,K=>K a s f
 | o::os,f,s,a,K=>match o.guard with
  | none=>Bi o f s a λa' s' _=>lm os (f+16) s' a' K
  | some (d,want)=>match s.tm d with
   | .val (.bool b)=>match want with
    | true=>cond b (Bi o f ⟨upd s.tm d (.val (.bool true)),s.hp⟩ (a.l f) λa' s' _=>lm os (f+16) s' a' K) (lm os (f+16) ⟨aY o.dst (.tup []) (upd s.tm d (.val (.bool false))),s.hp⟩ (a.r f) K)
    | false=>cond b (lm os (f+16) ⟨aY o.dst (.tup []) (upd s.tm d (.val (.bool true))),s.hp⟩ (a.l f) K) (Bi o f ⟨upd s.tm d (.val (.bool false)),s.hp⟩ (a.r f) λa' s' _=>lm os (f+16) s' a' K)
   | .tup []=>lm os (f+16) ⟨aY o.dst (.tup []) s.tm,s.hp⟩ a K
   | _=>False
def kl:List aO→Nat→S2→Log→An P Sf T→(An P Sf T→S2→Nat→Log→Prop)→Prop
 | [],f,s,lg,a,K=>K a s f lg
 | o::os,f,s,lg,a,K=>match o.guard with
  | none=>opR o f s a λa' s' l=>kl os (f+16) s' (lg++[l]) a' K
  | some (d,want)=>match s.tm d with
   | .val (.bool b)=>match want with
    | true=>cond b (opR o f ⟨upd s.tm d (.val (.bool true)),s.hp⟩ (a.l f) λa' s' l=>kl os (f+16) s' (lg++[l]) a' K) (kl os (f+16) ⟨aY o.dst (.tup []) (upd s.tm d (.val (.bool false))),s.hp⟩ (lg++[([],[])]) (a.r f) K)
    | false=>cond b (kl os (f+16) ⟨aY o.dst (.tup []) (upd s.tm d (.val (.bool true))),s.hp⟩ (lg++[([],[])]) (a.l f) K) (opR o f ⟨upd s.tm d (.val (.bool false)),s.hp⟩ (a.r f) λa' s' l=>kl os (f+16) s' (lg++[l]) a' K)
   | .tup []=>kl os (f+16) ⟨aY o.dst (.tup []) s.tm,s.hp⟩ (lg++[([],[])]) a K
   | _=>False
theorem ee{α:Type}{f:Nat→α}{t:Nat}{v:α}(h:f t=v):upd f t v=f:=by
 funext x
 by_cases e:x=t
 ·subst e;rw[aq,h]
 ·rw[aD _ _ e]
theorem Q9{hp:Hp}{ptr:Bool}{x:AV}{K:Bool→Prop}(h:nilR hp ptr x K):kz ptr x∧∀t,tI hp x t→K t:=by
 unfold nilR at h
 split at h
 ·exact⟨trivial,λt ht=>by have ht:t=false:=ht;rw[ht];exact h⟩
 ·exact⟨trivial,λt ht=>by have ht:t=false:=ht;rw[ht];exact h⟩
 ·exact⟨trivial,λt ht=>by have ht:t=false:=ht;rw[ht];exact h⟩
 ·exact⟨trivial,λt ht=>by have ht:t=true:=ht;rw[ht];exact h⟩
 ·exact⟨trivial,λt ht=>h t ht⟩
 ·split at h
  ·rename_i e
   refine⟨trivial,λt ht=>h t ?_⟩
   simp only[tI,e]at ht;exact ht
  ·exact h.elim
 ·exact h.elim
theorem tF{n:Nat}{o:aO}{f:Nat}{s:S2}{a:An P Sf T}{K:KO P Sf T}{K':S2→Prop}(h:Bi o f s a K)(hK:∀a' s' l,K a' s' l→K' s'):exT P n o f s K':=by
 unfold Bi at h
 split at h
 ·rename_i ptr ne x e
  obtain⟨d,op,g⟩:=o
  simp only at e;subst e
  obtain⟨h1,h2⟩:=Q9 h
  exact⟨h1,λt ht=>hK _ _ _ (h2 t ht)⟩
 ·obtain⟨a',s',l,h1,h2⟩:=Bh (n:=n) h
  exact h2.1 K' (hK _ _ _ h1)
theorem ia{n:Nat}{K':S2→Nat→Prop}{K:An P Sf T→S2→Nat→Prop}(hK:∀a s f,K a s f→K' s f) :
  ∀{os:List aO} {f:Nat} {s:S2} {a:An P Sf T},lm os f s a K→evT P n os f s K'
 | [],f,s,a,h=>hK _ _ _ h
 | o::os,f,s,a,h=>by
  unfold lm at h
  unfold evT
  split at h
  ·rename_i e;rw[e]
   exact tF h λa' s' l h=>ia hK h
  ·rename_i d want e;rw[e]
   obtain⟨tm,hp⟩:=s
   split at h
   ·rename_i b eb
    have eb:tm d=.val (.bool b):=eb
    refine⟨some b,by show gv (tm d)=_;rw[eb];rfl,λht=>?_,λht=>?_⟩
    ·simp only[Option.some.injEq]at ht;subst ht
     cases b with
     | true =>
      have h:Bi o f ⟨upd tm d (.val (.bool true)),hp⟩ (a.l f) (λa' s' _=>lm os (f+16) s' a' K):=h
      rw[ee eb]at h
      exact tF h λa' s' l h=>ia hK h
     | false =>
      have h:Bi o f ⟨upd tm d (.val (.bool false)),hp⟩ (a.r f) (λa' s' _=>lm os (f+16) s' a' K):=h
      rw[ee eb]at h
      exact tF h λa' s' l h=>ia hK h
    ·cases b with
     | true=>cases want with
      | true=>exact absurd rfl ht
      | false =>
       have h:lm os (f+16) ⟨aY o.dst (.tup []) (upd tm d (.val (.bool true))),hp⟩ (a.l f) K:=h
       rw[ee eb]at h
       exact ia hK h
     | false=>cases want with
      | false=>exact absurd rfl ht
      | true =>
       have h:lm os (f+16) ⟨aY o.dst (.tup []) (upd tm d (.val (.bool false))),hp⟩ (a.r f) K:=h
       rw[ee eb]at h
       exact ia hK h
   ·rename_i eb
    exact⟨none,by show gv (tm d)=_;rw[show tm d=.tup []from eb];rfl,λht=>by simp at ht,λ_=>ia hK h⟩
   ·exact h.elim
theorem kj{n:Nat}{K':S2→Nat→Log→Prop}{K:An P Sf T→S2→Nat→Log→Prop}(hK:∀a s f lg,K a s f lg→K' s f lg) :
  ∀{os:List aO} {f:Nat} {s:S2} {lg:Log} {a:An P Sf T},kl os f s lg a K→evD P n os f s lg K'
 | [],f,s,lg,a,h=>hK _ _ _ _ h
 | o::os,f,s,lg,a,h=>by
  unfold kl at h
  unfold evD
  have step:∀{s:S2} {a:An P Sf T},opR o f s a (λa' s' l=>kl os (f+16) s' (lg++[l]) a' K)→exD P n o f s λs' l=>evD P n os (f+16) s' (lg++[l]) K':=λh=>by
   obtain⟨a',s',l,h1,h2⟩:=Bh (n:=n) h
   exact h2.2 _ (kj hK h1)
  split at h
  ·rename_i e;rw[e]
   exact step h
  ·rename_i d want e;rw[e]
   obtain⟨tm,hp⟩:=s
   split at h
   ·rename_i b eb
    have eb:tm d=.val (.bool b):=eb
    refine⟨some b,by show gv (tm d)=_;rw[eb];rfl,λht=>?_,λht=>?_⟩
    ·simp only[Option.some.injEq]at ht;subst ht
     cases b with
     | true =>
      have h:opR o f ⟨upd tm d (.val (.bool true)),hp⟩ (a.l f) (λa' s' l=>kl os (f+16) s' (lg++[l]) a' K):=h
      rw[ee eb]at h
      exact step h
     | false =>
      have h:opR o f ⟨upd tm d (.val (.bool false)),hp⟩ (a.r f) (λa' s' l=>kl os (f+16) s' (lg++[l]) a' K):=h
      rw[ee eb]at h
      exact step h
    ·cases b with
     | true=>cases want with
      | true=>exact absurd rfl ht
      | false =>
       have h:kl os (f+16) ⟨aY o.dst (.tup []) (upd tm d (.val (.bool true))),hp⟩ (lg++[([],[])]) (a.l f) K:=h
       rw[ee eb]at h
       exact kj hK h
     | false=>cases want with
      | false=>exact absurd rfl ht
      | true =>
       have h:kl os (f+16) ⟨aY o.dst (.tup []) (upd tm d (.val (.bool false))),hp⟩ (lg++[([],[])]) (a.r f) K:=h
       rw[ee eb]at h
       exact kj hK h
   ·rename_i eb
    exact⟨none,by show gv (tm d)=_;rw[show tm d=.tup []from eb];rfl,λht=>by simp at ht,λ_=>kj hK h⟩
   ·exact h.elim
end
def gvV(b b':Nat):Blk→AV
 | .vec k es=>cond (Nat.beq b' b) (.sl k es false) (.vec b')
 | _=>.vec b'
def gvF(b b' o:Nat):Blk→AV
 | .box x=>cond (Nat.beq b' b) (.rptr x o) (.ref b' o)
 | _=>.ref b' o
def gvM(b b':Nat):Blk→AV
 | .map kk ks vs=>cond (Nat.beq b' b) (.mp kk ks vs) (.mref b')
 | _=>.mref b'
mutual
def gvA(b:Nat)(x0:Blk):AV→AV
  | .vec b'=>gvV b b' x0
  | .ref b' o=>gvF b b' o x0
  | .agg cs=>.agg (gvL b x0 cs)
  | .tup cs=>.tup (gvL b x0 cs)
  | .func f cs=>.func f (gvL b x0 cs)
  | .val v=>.val v
  | .sl k es full=>.sl k es full
  | .rptr x o=>.rptr x o
  | .eref b i o=>.eref b i o
  | .vsub b i o=>.vsub b i o
  | .asub b i o k=>.asub b i o k
  | .mref b'=>gvM b b' x0
  | .mp kk ks vs=>.mp kk ks vs
  | .unk=>.unk
def gvL(b:Nat)(x0:Blk):List AV→List AV
  | []=>[]
  | x::xs=>gvA b x0 x::gvL b x0 xs
end
mutual
theorem lF{b:Nat}{x0:Blk}{hp:Hp}(hb:hp b=some x0)(hx:x0.pureB=true):∀(x:AV),bO b hp x (gvA b x0 x)
  | .vec b'=>by
    rw[gvA]
    cases x0 with
    | vec k es =>
      show bO b hp (.vec b') (cond (Nat.beq b' b) (.sl k es false) (.vec b'))
      cases e:Nat.beq b' b with
      | true=>rw[Nat.eq_of_beq_eq_true e];exact bO.vec hb (aW hx)
      | false=>exact bO.refl
    | box _=>exact bO.refl
    | row _ _ _ _=>exact bO.refl
    | map _ _ _=>exact bO.refl
  | .mref b'=>by
    rw[gvA]
    cases x0 with
    | map kk ks vs =>
      show bO b hp (.mref b') (cond (Nat.beq b' b) (.mp kk ks vs) (.mref b'))
      cases e:Nat.beq b' b with
      | true=>rw[Nat.eq_of_beq_eq_true e];exact bO.map hb (aW hx)
      | false=>exact bO.refl
    | vec _ _=>exact bO.refl
    | box _=>exact bO.refl
    | row _ _ _ _=>exact bO.refl
  | .ref b' o=>by
    rw[gvA]
    cases x0 with
    | box x =>
      show bO b hp (.ref b' o) (cond (Nat.beq b' b) (.rptr x o) (.ref b' o))
      cases e:Nat.beq b' b with
      | true=>rw[Nat.eq_of_beq_eq_true e];exact bO.ref hb (AV.pureB_ok hx)
      | false=>exact bO.refl
    | vec _ _=>exact bO.refl
    | row _ _ _ _=>exact bO.refl
    | map _ _ _=>exact bO.refl
  | .agg cs=>by rw[gvA];exact bO.agg (um hb hx cs)
  | .tup cs=>by rw[gvA];exact bO.tup (um hb hx cs)
  | .func f cs=>by rw[gvA];exact bO.func (um hb hx cs)
  | .val v=>by rw[gvA];exact bO.refl
  | .sl k es full=>by rw[gvA];exact bO.refl
  | .rptr x o=>by rw[gvA];exact bO.refl
  | .eref b i o=>by rw[gvA];exact bO.refl
  | .vsub b i o=>by rw[gvA];exact bO.refl
  | .asub b i o k=>by rw[gvA];exact bO.refl
  | .mp kk ks vs=>by rw[gvA];exact bO.refl
  | .unk=>by rw[gvA];exact bO.refl
theorem um{b:Nat}{x0:Blk}{hp:Hp}(hb:hp b=some x0)(hx:x0.pureB=true):∀(xs:List AV),dT b hp xs (gvL b x0 xs)
  | []=>by rw[gvL];trivial
  | x::xs=>by rw[gvL];exact⟨lF hb hx x,um hb hx xs⟩
end
theorem rC{b:Nat}{x0:Blk}{x:AV}(h:x.solid=true):(gvA b x0 x).solid=true:=by
 cases x<;>rw[gvA]<;>first|exact h|rfl|skip
 ·cases x0 with
  | box x=>show(cond _ _ _:AV).solid=true;cases Nat.beq _ b<;>rfl
  | vec _ _=>rfl
  | row _ _ _ _=>rfl
  | map _ _ _=>rfl
 ·cases x0 with
  | vec k es=>show(cond _ _ _:AV).solid=true;cases Nat.beq _ b<;>rfl
  | box _=>rfl
  | row _ _ _ _=>rfl
  | map _ _ _=>rfl
 ·cases x0 with
  | map kk ks vs=>show(cond _ _ _:AV).solid=true;cases Nat.beq _ b<;>rfl
  | box _=>rfl
  | vec _ _=>rfl
  | row _ _ _ _=>rfl
def gvB(b:Nat)(x0:Blk):Option Blk→Option Blk
 | some (.box y)=>some (.box (gvA b x0 y))
 | x=>x
theorem aQ.give2{k n:Nat}{s s':S3}(b:Nat)(hnx:s'.nx=s.nx)(h1:∀t,s'.tm t=.unk∨bO b s.hp (s.tm t) (s'.tm t))
  (h2:∀b' x,s'.hp b'=some x→b'≠b∧(s.hp b'=some x∨(∃y z,s.hp b'=some (.box y)∧x=.box z∧z.solid=true∧bO b s.hp y z)∨∃kk es es',s.hp b'=some (.vec kk es)∧x=.vec kk es'∧es'.length=es.length∧dT b s.hp es es'∧((∀z∈es,z.solid=true)→∀z∈es',z.solid=true))) (hb:s.hp b≠none):aQ k n s s':=by
 rintro P c a w ⟨h0,A,μ,H⟩
 have hle:∀k,A k→A k∨∃hd,μ b=some hd∧hd.emp=none∧hd.blk=k:=λ_ h=>.inl h
 have hlive:∃x hd,s.hp b=some x∧μ b=some hd∧(hd.emp=none→¬A hd.blk∧hd.blk<w.heap.size∧(c.own hd.blk∨c.w.heap.size≤hd.blk)):=by
  cases hx:s.hp b with
  | none=>exact absurd hx hb
  | some x=>obtain⟨hd,e1,_,e3⟩:=H.blk b x hx;exact⟨x,hd,rfl,e1,e3⟩
 obtain⟨xb,hdb,hxb,hmb,hpb⟩:=hlive
 have hsub:∀b' x,s'.hp b'=some x→b'≠b∧∃y,s.hp b'=some y:=by
  intro b' x hx
  obtain⟨e1,e2|⟨y,z,e2,_⟩|⟨kk,es,es',e2,_⟩⟩:=h2 b' x hx
  ·exact⟨e1,_,e2⟩
  ·exact⟨e1,_,e2⟩
  ·exact⟨e1,_,e2⟩
 refine⟨h0,λk=>A k∨∃hd,μ b=some hd∧hd.emp=none∧hd.blk=k,μ,λt=>?_,H.n,H.df,λb' x hx=>?_,λb1 b2 x x' hd hd' hx hx'=>?_,?_,λb' hb'=>?_,H.keep,λb' hb'=>.inl (H.A0 b' hb'),?_,H.mu⟩
 ·rcases h1 t with h|h
  ·rw[h];trivial
  ·exact h P c A μ _ s.tm n a w _ H (H.tm t)
 ·obtain⟨hne,y,hy⟩:=hsub b' x hx
  obtain⟨hd,g1,g2,g3⟩:=H.blk b' y hy
  refine⟨hd,g1,?_,λhe=>⟨?_,(g3 he).2⟩⟩
  ·rcases(h2 b' x hx).2 with e|⟨yy,z,e1,e2,e3,e4⟩|⟨kk,es,es',e1,e2,e3,e4,e5⟩
   ·rw[hy]at e;cases e
    exact g2.mono (dc.refl A w) hle (bv.refl _) (λ_=>rfl)
   ·rw[hy]at e1;cases e1
    subst e2
    obtain⟨q1,q2,v,ty,q3,q4⟩:=g2
    exact⟨q1,e3,v,ty,e4 P c A μ _ s.tm n a w v H q3,q4⟩
   ·rw[hy]at e1;cases e1
    subst e2
    obtain⟨q1,q2⟩:=g2
    refine⟨q1,?_⟩
    rcases q2 with⟨rfl,q2⟩|⟨r1,r2,r3,r4,C,ty,vs,r5,r6,r7,r8,r9,r10⟩
    ·left
     have:es'=[]:=List.length_eq_zero_iff.mp (by simpa using e3)
     exact⟨this,q2⟩
    ·exact .inr ⟨r1,by omega,r3,r4,C,ty,vs,r5,e4.rvl H r6,e5 r7,r8,r9,r10⟩
  ·rintro(h|⟨hd2,k1,k2,k3⟩)
   ·exact(g3 he).1 h
   ·exact hne (H.inj _ _ _ _ _ _ hy hxb g1 k1 he k2 k3.symm)
 ·obtain⟨_,y,hy⟩:=hsub b1 x hx
  obtain⟨_,y',hy'⟩:=hsub b2 x' hx'
  exact H.inj _ _ _ _ _ _ hy hy'
 ·refine H.lt.mono (dc.refl A w) hle ?_
  rintro k (h|⟨hd,k1,k2,rfl⟩)
  ·exact H.lt k h
  ·rw[hmb]at k1;cases k1;exact(hpb k2).2.1
 ·rw[hnx]at hb'
  obtain⟨q1,q2⟩:=H.fr b' hb'
  refine⟨q1,?_⟩
  cases hx:s'.hp b' with
  | none=>rfl
  | some x=>obtain⟨_,y,hy⟩:=hsub b' x hx;rw[q2]at hy;cases hy
 ·rintro k (h|⟨hd,k1,k2,rfl⟩)
  ·exact H.A1 k h
  ·rw[hmb]at k1;cases k1;exact .inr (hpb k2).2.2
theorem dT.setAt{b:Nat}{hp:Hp}{y z:AV}:∀{cs:List AV} {i:Nat},bO b hp y z→dT b hp (cs.set i y) (cs.set i z)
 | [],i,h=>trivial
 | c::cs,0,h=>⟨h,dT.refl⟩
 | c::cs,i+1,h=>⟨bO.refl,dT.setAt h⟩
theorem aQ.nilvecF{k n:Nat}{tm:Nat→AV}{hp:Hp}{nx:Nat}(t0 i kk k':Nat)(cs:List AV)(ht:tm t0=.agg cs)(h:cs[i]?=some (.sl kk [] true))(hk:k≤nx) :
  aQ k n ⟨tm,hp,nx⟩ ⟨upd tm t0 (.agg (cs.set i (.vec nx))),upd hp nx (some (.vec k' [])),nx+1⟩:=by
 rintro P c a w ⟨h0,A,μ,H⟩
 have h1:=H.tm t0
 rw[show(⟨tm,hp,nx⟩:S3).tm t0=_ from ht]at h1
 obtain⟨vs,e1,e2,e3⟩:=h1
 have hi:i<cs.length:=(List.getElem?_eq_some_iff.mp h).1
 have hl:=e2.length
 obtain⟨vi,hvi⟩:∃vi,vs[i]?=some vi:=⟨vs[i]'(by omega),List.getElem?_eq_getElem (by omega)⟩
 obtain⟨ad,hv⟩:=RV.nilsl (RVL.get2 e2 h hvi)
 obtain⟨f1,f2⟩:μ nx=none∧hp nx=none:=H.fr nx (Nat.le_refl _)
 let hd:Hd:=⟨some ad,0,k',0,0⟩
 have hle:bv μ (upd μ nx (some hd)):=by
  intro b hd' e
  by_cases g:b=nx
  ·subst g;rw[f1]at e;cases e
  ·rw[aD _ _ g];exact e
 have key:=H.add nx f2 (upd μ nx (some hd)) hle (λb hb=>aD _ _ hb) hd (aq _ _ _) (.vec k' []) ⟨rfl,.inl ⟨rfl,rfl⟩⟩ (λe=>by cases e) (λ_ _ _ _ _ _ e=>by cases e)
 refine⟨h0,A,upd μ nx (some hd),⟨λt=>?_,key.n,key.df,key.blk,key.inj,key.lt,λb hb=>?_,key.keep,key.A0,key.A1,key.mu⟩⟩
 ·by_cases ht:t=t0
  ·subst ht
   show RV w A (upd tm t (.agg (cs.set i (.vec nx))) t) _ _
   rw[aq]
   exact⟨vs,e1,RVL.setAt (RVL.mono (λ_ _=>rfl) (λ_ h=>h) _ hle e2) hvi ⟨hd,aq _ _ _,hv⟩,e3⟩
  ·show RV w A (upd tm t0 _ t) _ _
   rw[aD _ _ ht]
   exact key.tm t
 ·have hb:nx+1≤b:=hb
  exact key.fr b ⟨show nx≤b by omega,by omega⟩
def jQ(k:Nat)(c:Cmd)(s:S3)(K:S3→Prop):Prop:=
 match c with
 | .frz b=>match s.hp b with
  | some x0=>cond x0.pureB (K ⟨λt=>gvA b x0 (s.tm t),λc=>cond (Nat.beq c b) none (gvB b x0 (s.hp c)),s.nx⟩) False
  | none=>False
 | .frzE b es h=>match s.hp b with
  | some (.vec kk es')=>es'=es∧K ⟨λt=>gvA b (.vec kk es) (s.tm t),λc=>cond (Nat.beq c b) none (gvB b (.vec kk es) (s.hp c)),s.nx⟩
  | _=>False
 | .frzV b t i v l y x es h=>match s.hp b,s.hp t with
  | some (.vec kk es'),some (.vec k2 cs)=>es'=es∧cs=(l.map v).set i y∧gvA b (.vec kk es) y=v x∧cond (cond (Nat.beq t b) false (v x).solid)
    (K ⟨λt=>gvA b (.vec kk es) (s.tm t),λc=>cond (Nat.beq c b) none (cond (Nat.beq c t) (some (.vec k2 ((l.set i x).map v))) (gvB b (.vec kk es) (s.hp c))),s.nx⟩) False
  | _,_=>False
 | .nilF t i k'=>match s.tm t with
  | .agg cs=>match cs[i]? with
   | some (.sl _ es full)=>cond full (cond es.isEmpty (cond (Nat.ble k s.nx) (K ⟨upd s.tm t (.agg (cs.set i (.vec s.nx))),upd s.hp s.nx (some (.vec k' [])),s.nx+1⟩) False) False) False
   | _=>False
  | _=>False
 | .nilT t k'=>match s.tm t with
  | .sl _ es full=>cond full (cond es.isEmpty (cond (Nat.ble k s.nx) (K ⟨upd s.tm t (.vec s.nx),upd s.hp s.nx (some (.vec k' [])),s.nx+1⟩) False) False) False
  | _=>False
 | .nilB b i k'=>match s.hp b with
  | some (.box (.agg cs))=>match cs[i]? with
   | some (.sl _ es full)=>cond full (cond es.isEmpty (cond (Nat.ble k s.nx) (K ⟨s.tm,upd (upd s.hp b (some (.box (.agg (cs.set i (.vec s.nx)))))) s.nx (some (.vec k' [])),s.nx+1⟩) False) False) False
   | _=>False
  | _=>False
 | .nilC b k'=>match s.hp b with
  | some (.box (.sl _ es full))=>cond full (cond es.isEmpty (cond (Nat.ble k s.nx) (K ⟨s.tm,upd (upd s.hp b (some (.box (.vec s.nx)))) s.nx (some (.vec k' [])),s.nx+1⟩) False) False) False
  | _=>False
 | .wkT t sh=>K ⟨upd s.tm t (bf sh (s.tm t)),s.hp,s.nx⟩
 | .wkB b sh=>match s.hp b with
  | some (.box x)=>cond (bf sh x).solid (K ⟨s.tm,upd s.hp b (some (.box (bf sh x))),s.nx⟩) False
  | some (.vec k' es)=>cond (allB AV.solid (es.map (bf sh))) (K ⟨s.tm,upd s.hp b (some (.vec k' (es.map (bf sh)))),s.nx⟩) False
  | _=>False
 | .wkS b i sh v l y x=>match s.hp b with
  | some (.vec kk es)=>es=(l.map v).set i y∧bf sh y=v x∧cond (v x).solid (K ⟨s.tm,upd s.hp b (some (.vec kk ((l.set i x).map v))),s.nx⟩) False
  | _=>False
 | .wkV b sh v l=>match s.hp b with
  | some (.vec kk es)=>es.map (bf sh)=l.map v∧K ⟨s.tm,upd s.hp b (some (.vec kk (l.map v))),s.nx⟩
  | _=>False
theorem RVL.mapSub{w:World}{A:Nat→Prop}{μ:Mu}{f:AV→AV}(hf:∀x,Sub x (f x)):∀{xs:List AV} {vs:List Value},RVL w A xs μ vs→RVL w A (xs.map f) μ vs
 | [],_,h=>h
 | x::xs,_,⟨v,vs',h1,h2,h3⟩=>⟨v,vs',h1,hf _ _ _ _ _ h2,RVL.mapSub hf h3⟩
theorem aQ.subV{k n:Nat}{tm:Nat→AV}{hp:Hp}{nx:Nat}{kk:Nat}{es:List AV}{f:AV→AV}(b0:Nat)(h0:hp b0=some (.vec kk es))(h:∀x,Sub x (f x))(hy:∀x∈es.map f,x.solid=true):aQ k n ⟨tm,hp,nx⟩ ⟨tm,upd hp b0 (some (.vec kk (es.map f))),nx⟩:=by
 rintro P c a w ⟨h1,A,μ,H⟩
 obtain⟨hd,q1,q2,q6⟩:=H.blk b0 _ h0
 have back:∀b z,upd hp b0 (some (.vec kk (es.map f))) b=some z→∃z',hp b=some z':=by
  intro b z hz
  by_cases e:b=b0
  ·subst e;exact⟨_,h0⟩
  ·rw[aD _ _ e]at hz;exact⟨z,hz⟩
 refine⟨h1,A,μ,⟨H.tm,H.n,H.df,λb z hz=>?_,λb b' z z' hd1 hd2 hz hz'=>?_,H.lt,λb hb=>?_,H.keep,H.A0,H.A1,H.mu⟩⟩
 ·have hz:upd hp b0 (some (.vec kk (es.map f))) b=some z:=hz
  by_cases e:b=b0
  ·subst e;rw[aq]at hz;cases hz
   refine⟨hd,q1,?_,q6⟩
   obtain⟨q2,q3⟩:=q2
   refine⟨q2,?_⟩
   rcases q3 with⟨rfl,q⟩|⟨a1,a2,a3,a4,C,ty,vs,a5,a6,a7,a8⟩
   ·exact .inl ⟨rfl,q⟩
   ·exact .inr ⟨a1,by rw[List.length_map];exact a2,a3,a4,C,ty,vs,a5,RVL.mapSub h a6,hy,a8⟩
  ·rw[aD _ _ e]at hz;exact H.blk b z hz
 ·obtain⟨_,g⟩:=back _ _ hz
  obtain⟨_,g'⟩:=back _ _ hz'
  exact H.inj _ _ _ _ _ _ g g'
 ·have:μ b=none∧hp b=none:=H.fr b hb
  refine⟨this.1,?_⟩
  show upd hp b0 (some (.vec kk (es.map f))) b=none
  by_cases e:b=b0
  ·subst e;rw[h0]at this;cases this.2
  ·rw[aD _ _ e];exact this.2
theorem aQ.subL{k n:Nat}{tm:Nat→AV}{hp:Hp}{nx:Nat}{kk:Nat}{es es':List AV}(b0:Nat)(h0:hp b0=some (.vec kk es))(hl:es'.length=es.length)(h:∀(i:Nat) x y,es[i]?=some x→es'[i]?=some y→Sub x y)(hy:∀x∈es,x.solid=true→True)(hs:(∀x∈es,x.solid=true)→∀x∈es',x.solid=true):aQ k n ⟨tm,hp,nx⟩ ⟨tm,upd hp b0 (some (.vec kk (es'))),nx⟩:=by
 rintro P c a w ⟨h1,A,μ,H⟩
 obtain⟨hd,q1,q2,q6⟩:=H.blk b0 _ h0
 have back:∀b z,upd hp b0 (some (.vec kk (es'))) b=some z→∃z',hp b=some z':=by
  intro b z hz
  by_cases e:b=b0
  ·subst e;exact⟨_,h0⟩
  ·rw[aD _ _ e]at hz;exact⟨z,hz⟩
 refine⟨h1,A,μ,⟨H.tm,H.n,H.df,λb z hz=>?_,λb b' z z' hd1 hd2 hz hz'=>?_,H.lt,λb hb=>?_,H.keep,H.A0,H.A1,H.mu⟩⟩
 ·have hz:upd hp b0 (some (.vec kk (es'))) b=some z:=hz
  by_cases e:b=b0
  ·subst e;rw[aq]at hz;cases hz
   refine⟨hd,q1,?_,q6⟩
   obtain⟨q2,q3⟩:=q2
   refine⟨q2,?_⟩
   rcases q3 with⟨rfl,q⟩|⟨a1,a2,a3,a4,C,ty,vs,a5,a6,a7,a8⟩
   ·exact .inl ⟨List.eq_nil_of_length_eq_zero hl,q⟩
   ·exact .inr ⟨a1,by rw[hl];exact a2,a3,a4,C,ty,vs,a5,RVL.of_get (by rw[hl];exact a6.length) (λi y v hy hv=>by
     have hi:i<es.length:=by have:=(List.getElem?_eq_some_iff.mp hy).1;omega
     exact h i _ _ (List.getElem?_eq_getElem hi) hy _ _ _ _ (a6.get2 (List.getElem?_eq_getElem hi) hv)),hs a7,a8⟩
  ·rw[aD _ _ e]at hz;exact H.blk b z hz
 ·obtain⟨_,g⟩:=back _ _ hz
  obtain⟨_,g'⟩:=back _ _ hz'
  exact H.inj _ _ _ _ _ _ g g'
 ·have:μ b=none∧hp b=none:=H.fr b hb
  refine⟨this.1,?_⟩
  show upd hp b0 (some (.vec kk (es'))) b=none
  by_cases e:b=b0
  ·subst e;rw[h0]at this;cases this.2
  ·rw[aD _ _ e];exact this.2
theorem aQ.nilvecC{k n:Nat}{tm:Nat→AV}{hp:Hp}{nx:Nat}(b0 kk k':Nat)(hb:hp b0=some (.box (.sl kk [] true)))(hk:k≤nx) :
  aQ k n ⟨tm,hp,nx⟩ ⟨tm,upd (upd hp b0 (some (.box (.vec nx)))) nx (some (.vec k' [])),nx+1⟩:=by
 rintro P c a w ⟨h0,A,μ,H⟩
 obtain⟨hd0,q1,⟨q2,q3,v0,ty0,q5,q7⟩,q8⟩:=H.blk b0 _ hb
 obtain⟨ad,hv⟩:=RV.nilsl q5
 obtain⟨f1,f2⟩:μ nx=none∧hp nx=none:=H.fr nx (Nat.le_refl _)
 let hd:Hd:=⟨some ad,0,k',0,0⟩
 have hne:b0≠nx:=λe=>by subst e;rw[f2]at hb;cases hb
 have hle:bv μ (upd μ nx (some hd)):=by
  intro b hd' e
  by_cases g:b=nx
  ·subst g;rw[f1]at e;cases e
  ·rw[aD _ _ g];exact e
 have key:=H.add nx f2 (upd μ nx (some hd)) hle (λb hb=>aD _ _ hb) hd (aq _ _ _) (.vec k' []) ⟨rfl,.inl ⟨rfl,rfl⟩⟩ (λe=>by cases e) (λ_ _ _ _ _ _ e=>by cases e)
 have hswap:upd (upd hp b0 (some (.box (.vec nx)))) nx (some (.vec k' []))=upd (upd hp nx (some (.vec k' []))) b0 (some (.box (.vec nx))):=by
  funext b
  by_cases e1:b=b0
  ·subst e1;rw[aq,aD _ _ hne,aq]
  ·rw[aD _ _ e1]
   by_cases e2:b=nx
   ·subst e2;rw[aq,aq]
   ·rw[aD _ _ e2,aD _ _ e1,aD _ _ e2]
 rw[hswap]
 have back:∀b x,upd (upd hp nx (some (.vec k' []))) b0 (some (.box (.vec nx))) b=some x→∃y,upd hp nx (some (.vec k' [])) b=some y:=by
  intro b x hx
  by_cases e:b=b0
  ·subst e;exact⟨.box (.sl kk [] true),by rw[aD _ _ hne];exact hb⟩
  ·rw[aD _ _ e]at hx;exact⟨x,hx⟩
 refine⟨h0,A,upd μ nx (some hd),⟨key.tm,key.n,key.df,λb x hx=>?_,λb b' x x' hd1 hd2 hx hx'=>?_,key.lt,λb hb'=>?_,key.keep,key.A0,key.A1,key.mu⟩⟩
 ·by_cases e:b=b0
  ·subst e
   have hx:some (Blk.box (.vec nx))=some x:=by
    rw[←hx];exact(aq _ _ _).symm
   cases hx
   exact⟨hd0,hle _ _ q1,⟨q2,rfl,v0,ty0,⟨hd,aq _ _ _,hv⟩,q7⟩,q8⟩
  ·have hx:upd hp nx (some (.vec k' [])) b=some x:=by
    rw[←hx];exact(aD _ _ e).symm
   exact key.blk b x hx
 ·obtain⟨y,hy⟩:=back b x hx
  obtain⟨y',hy'⟩:=back b' x' hx'
  exact key.inj _ _ _ _ _ _ hy hy'
 ·have hb':nx+1≤b:=hb'
  have:upd μ nx (some hd) b=none∧upd hp nx (some (.vec k' [])) b=none:=key.fr b ⟨show nx≤b by omega,by omega⟩
  refine⟨this.1,?_⟩
  show upd (upd hp nx (some (.vec k' []))) b0 _ b=none
  by_cases e:b=b0
  ·subst e;have:=this.2;rw[aD _ _ hne,hb]at this;cases this
  ·rw[aD _ _ e];exact this.2
theorem yh{k n b:Nat}{x0:Blk}{s:S3}(hb:s.hp b=some x0)(hx:x0.pureB=true):aQ k n s ⟨λt=>gvA b x0 (s.tm t),λc=>cond (Nat.beq c b) none (gvB b x0 (s.hp c)),s.nx⟩:=by
 rintro P c a w H
 obtain⟨h0,A,μ,R⟩:=H
 refine aQ.give (s:=s) (s':=⟨λt=>gvA b x0 (s.tm t),λc=>cond (Nat.beq c b) none (gvB b x0 (s.hp c)),s.nx⟩) (k:=k) (n:=n) b rfl (λt=>.inr (lF hb hx _)) (λb' x hx'=>?_) (by rw[hb];simp) P c a w ⟨h0,A,μ,R⟩
 have hx':cond (Nat.beq b' b) none (gvB b x0 (s.hp b'))=some x:=hx'
 cases e:Nat.beq b' b with
 | true=>rw[e]at hx';cases hx'
 | false =>
  rw[e]at hx'
  have hx':gvB b x0 (s.hp b')=some x:=hx'
  refine⟨λe'=>by subst e';simp at e,?_⟩
  cases hs:s.hp b' with
  | none=>rw[hs]at hx';cases hx'
  | some y =>
   rw[hs]at hx'
   cases y with
   | box y =>
    cases hx'
    obtain⟨hd,g1,g2,g3⟩:=R.blk b' _ hs
    exact .inr ⟨y,_,rfl,rfl,rC g2.2.1,lF hb hx y⟩
   | vec k es=>cases hx';exact .inl rfl
   | row k es l c=>cases hx';exact .inl rfl
   | map kk ks vs=>cases hx';exact .inl rfl
theorem HK{k n b t i k2:Nat}{α:Type}{x0:Blk}{s:S3}{v:α→AV}{l:List α}{y:AV}{x:α}(hb:s.hp b=some x0)(hx:x0.pureB=true)(ht:s.hp t=some (.vec k2 ((l.map v).set i y)))
  (hg:gvA b x0 y=v x) (hne:t≠b) (hso:(v x).solid=true) :
  aQ k n s ⟨λt=>gvA b x0 (s.tm t),λc=>cond (Nat.beq c b) none (cond (Nat.beq c t) (some (.vec k2 ((l.set i x).map v))) (gvB b x0 (s.hp c))),s.nx⟩:=by
 rintro P c a w H
 obtain⟨h0,A,μ,R⟩:=H
 refine aQ.give2 (s:=s) (s':=⟨λt=>gvA b x0 (s.tm t),λc=>cond (Nat.beq c b) none (cond (Nat.beq c t) (some (.vec k2 ((l.set i x).map v))) (gvB b x0 (s.hp c))),s.nx⟩) (k:=k) (n:=n) b rfl (λt=>.inr (lF hb hx _)) (λb' z hz=>?_) (by rw[hb];simp) P c a w ⟨h0,A,μ,R⟩
 have hz:cond (Nat.beq b' b) none (cond (Nat.beq b' t) (some (.vec k2 ((l.set i x).map v))) (gvB b x0 (s.hp b')))=some z:=hz
 cases e:Nat.beq b' b with
 | true=>rw[e]at hz;cases hz
 | false =>
  rw[e]at hz
  have hz:cond (Nat.beq b' t) (some (.vec k2 ((l.set i x).map v))) (gvB b x0 (s.hp b'))=some z:=hz
  refine⟨λe'=>by subst e';simp at e,?_⟩
  cases e2:Nat.beq b' t with
  | true =>
   rw[e2]at hz;cases hz
   have e2:=Nat.eq_of_beq_eq_true e2
   subst e2
   refine .inr (.inr ⟨k2,_,_,ht,rfl,by simp,?_,λhs z hz=>?_⟩)
   ·rw[List.map_set,←hg];exact dT.setAt (lF hb hx y)
   ·rw[List.map_set]at hz
    obtain⟨j,hj,rfl⟩:=List.getElem_of_mem hz
    rw[List.getElem_set]
    split
    ·exact hso
    ·rename_i hij
     refine hs _ (List.mem_of_getElem? (i:=j) ?_)
     simp at hj
     rw[List.getElem?_set,if_neg hij,List.getElem?_eq_getElem (by simpa using hj)]
  | false =>
   rw[e2]at hz
   have hz:gvB b x0 (s.hp b')=some z:=hz
   cases hs:s.hp b' with
   | none=>rw[hs]at hz;cases hz
   | some y =>
    rw[hs]at hz
    cases y with
    | box y =>
     cases hz
     obtain⟨hd,g1,g2,g3⟩:=R.blk b' _ hs
     exact .inr (.inl ⟨y,_,rfl,rfl,rC g2.2.1,lF hb hx y⟩)
    | vec k es=>cases hz;exact .inl rfl
    | row k es l c=>cases hz;exact .inl rfl
    | map kk ks vs=>cases hz;exact .inl rfl
theorem ni{k n:Nat}{c:Cmd}{s:S3}{K:S3→Prop}(h:jQ k c s K):∃s',aQ k n s s'∧K s':=by
 obtain⟨tm,hp,nx⟩:=s
 cases c with
 | frz b =>
  simp only[jQ]at h
  split at h
  ·rename_i x0 e
   obtain⟨h1,h⟩:=az h
   exact⟨_,yh e h1,h⟩
  ·exact h.elim
 | frzE b es hes =>
  simp only[jQ]at h
  split at h
  ·rename_i kk es' e
   obtain⟨rfl,h⟩:=h
   exact⟨_,yh e hes,h⟩
  ·exact h.elim
 | frzV b t i v l y x es hes =>
  simp only[jQ]at h
  split at h
  ·rename_i kk es' k2 cs e1 e2
   obtain⟨rfl,rfl,h1,h⟩:=h
   obtain⟨h2,h⟩:=az h
   refine⟨_,HK (x0:=.vec kk es') e1 hes e2 h1 (λe'=>?_) ?_,h⟩
   ·subst e';simp at h2
   ·revert h2;cases Nat.beq t b<;>simp
  ·exact h.elim
 | nilF t i k' =>
  simp only[jQ]at h
  split at h
  ·rename_i cs e
   split at h
   ·rename_i kk es full e2
    obtain⟨h1,q⟩:=az h
    clear h
    obtain⟨h2,q'⟩:=az q
    obtain⟨h3,g'⟩:=az q'
    have h2:es=[]:=by cases es<;>simp_all
    subst h1;subst h2
    exact⟨_,aQ.nilvecF t i kk k' cs e e2 (Nat.le_of_ble_eq_true h3),g'⟩
   ·exact h.elim
  ·exact h.elim
 | nilT t k' =>
  simp only[jQ]at h
  split at h
  ·rename_i kk es full e
   obtain⟨h1,q⟩:=az h
   clear h
   obtain⟨h2,q'⟩:=az q
   obtain⟨h3,g'⟩:=az q'
   have h2:es=[]:=by cases es<;>simp_all
   subst h1;subst h2
   exact⟨_,aQ.nilvec t kk k' e (Nat.le_of_ble_eq_true h3),g'⟩
  ·exact h.elim
 | nilB b i k' =>
  simp only[jQ]at h
  split at h
  ·rename_i cs e
   split at h
   ·rename_i kk es full e2
    obtain⟨h1,q⟩:=az h
    clear h
    obtain⟨h2,q'⟩:=az q
    obtain⟨h3,g'⟩:=az q'
    have h2:es=[]:=by cases es<;>simp_all
    subst h1;subst h2
    exact⟨_,aQ.nilvecB b i kk k' cs e e2 (Nat.le_of_ble_eq_true h3),g'⟩
   ·exact h.elim
  ·exact h.elim
 | nilC b k' =>
  simp only[jQ]at h
  split at h
  ·rename_i kk es full e
   obtain⟨h1,q⟩:=az h
   clear h
   obtain⟨h2,q'⟩:=az q
   obtain⟨h3,g'⟩:=az q'
   have h2:es=[]:=by cases es<;>simp_all
   subst h1;subst h2
   exact⟨_,aQ.nilvecC b kk k' e (Nat.le_of_ble_eq_true h3),g'⟩
  ·exact h.elim
 | wkT t sh=>exact⟨_,aQ.subT _ (dS _ _),h⟩
 | wkB b sh =>
  simp only[jQ]at h
  split at h
  ·rename_i x e
   obtain⟨h1,h⟩:=az h
   exact⟨_,aQ.subB b e (dS _ _) h1,h⟩
  ·rename_i k' es e
   obtain⟨h1,h⟩:=az h
   exact⟨_,aQ.subV b e (dS _) (nk h1),h⟩
  ·exact h.elim
 | wkV b sh v l =>
  simp only[jQ]at h
  split at h
  ·rename_i kk es e
   obtain⟨h1,h⟩:=h
   refine⟨_,aQ.subL (es':=l.map v) b e (by rw[←h1];simp) (λj p q hp hq=>?_) (λ_ _ _=>trivial) (λho z hz=>?_),h⟩
   ·rw[←h1,List.getElem?_map,hp]at hq
    cases hq
    exact dS _ _
   ·rw[←h1]at hz
    obtain⟨y,hy,rfl⟩:=List.mem_map.mp hz
    rw[pw]
    exact ho y hy
  ·exact h.elim
 | wkS b i sh v l y x =>
  simp only[jQ]at h
  split at h
  ·rename_i kk es e
   obtain⟨rfl,h1,h⟩:=h
   obtain⟨h2,h⟩:=az h
   refine⟨_,aQ.subL (es':=(l.set i x).map v) b e (by simp) (λj p q hp hq=>?_) (λ_ _ _=>trivial) (λho z hz=>?_),h⟩
   ·rw[List.map_set,List.getElem?_set]at hq
    rw[List.getElem?_set]at hp
    by_cases g:i=j
    ·subst g
     simp only[↓reduceIte]at hp hq
     split at hp
     ·rename_i hlt
      rw[if_pos hlt]at hq
      cases hp;cases hq
      rw[←h1];exact dS _ _
     ·cases hp
    ·rw[if_neg g]at hp hq
     rw[hp]at hq;cases hq;exact Sub.refl
   ·rw[List.map_set]at hz
    obtain⟨j,hj,rfl⟩:=List.mem_iff_getElem.mp hz
    rw[List.getElem_set]
    split
    ·exact h2
    ·rename_i g
     have hj':j<(l.map v).length:=by simpa using hj
     have:=ho ((l.map v)[j]) (List.mem_iff_getElem.mpr ⟨j,by simpa using hj',by rw[List.getElem_set,if_neg g]⟩)
     exact this
  ·exact h.elim
def N3(k:Nat):List Cmd→S3→(S3→Prop)→Prop
 | [],s,K=>K s
 | c::r,s,K=>jQ k c s λs=>N3 k r s K
theorem yU{k n:Nat}{K:S3→Prop}:∀{cs:List Cmd} {s:S3},N3 k cs s K→∃s',aQ k n s s'∧K s'
 | [],s,h=>⟨s,aQ.refl,h⟩
 | c::r,s,h=>by
  obtain⟨s1,h1,h2⟩:=ni (n:=n) h
  obtain⟨s2,h3,h4⟩:=yU (n:=n) h2
  exact⟨s2,h1.trans h3,h4⟩
def hsB(m:Nat):List PB→Bool
 | []=>true
 | .box x::r=>cond (x.belB m) (hsB m r) false
 | .vec _ _ _::r=>hsB m r
 | .arr _ _::r=>hsB m r
 | .map _ _ _ _::r=>hsB m r
 | .gone::r=>hsB m r
def tsB(m:Nat):List (Nat×Sh×AV)→Bool
 | []=>true
 | p::r=>cond (p.2.2.belB m) (tsB m r) false
def pm(b:Nat):List Nat→List PB→Bool
 | c::bs,x::hs=>cond x.isGone (pm b bs hs) (cond (Nat.beq c b) false (pm b bs hs))
 | _,_=>true
def Hz:List Nat→List PB→Bool
 | b::bs,x::hs=>cond x.isGone (Hz bs hs) (cond (pm b bs hs) (Hz bs hs) false)
 | _,_=>true
theorem pk{b:Nat}:∀{bs:List Nat} {hs:List PB},pm b bs hs=true→∀(i:Nat) c x,bs[i]?=some c→hs[i]?=some x→x.isGone=false→c≠b
 | [],_,_,i,c,x,h1,_,_=>by simp at h1
 | _::_,[],_,i,c,x,_,h2,_=>by simp at h2
 | c0::bs,x0::hs,h,i,c,x,h1,h2,h3=>by
  rw[pm]at h
  cases i with
  | zero =>
   cases h1;cases h2
   rw[h3]at h
   rintro rfl
   simp at h
  | succ i =>
   have h:pm b bs hs=true:=by
    cases e:x0.isGone with
    | true=>rw[e]at h;exact h
    | false =>
     rw[e]at h
     cases e2:Nat.beq c0 b with
     | true=>rw[e2]at h;cases h
     | false=>rw[e2]at h;exact h
   exact pk h i c x (by simpa using h1) (by simpa using h2) h3
theorem Fh:∀{bs:List Nat} {hs:List PB},Hz bs hs=true→∀(i j:Nat) c x y,bs[i]?=some c→bs[j]?=some c→hs[i]?=some x→hs[j]?=some y→x.isGone=false→y.isGone=false→i=j
 | [],_,_,i,j,c,x,y,h1,_,_,_,_,_=>by simp at h1
 | _::_,[],_,i,j,c,x,y,_,_,h2,_,_,_=>by simp at h2
 | c0::bs,x0::hs,h,i,j,c,x,y,h1,h1',h2,h2',h3,h3'=>by
  rw[Hz]at h
  have hr:Hz bs hs=true∧(x0.isGone=false→pm c0 bs hs=true):=by
   cases e:x0.isGone with
   | true=>rw[e]at h;exact⟨h,λh=>by cases h⟩
   | false =>
    rw[e]at h
    obtain⟨a,b⟩:=ah.mp h
    exact⟨b,λ_=>a⟩
  rcases i with _|i<;>rcases j with _|j
  ·rfl
  ·cases h1;cases h2
   exact absurd rfl (pk (hr.2 h3) j _ _ (by simpa using h1') (by simpa using h2') h3')
  ·cases h1';cases h2'
   exact absurd rfl (pk (hr.2 h3') i _ _ (by simpa using h1) (by simpa using h2) h3)
  ·exact congrArg (·+1) (Fh hr.1 i j c x y (by simpa using h1) (by simpa using h1') (by simpa using h2) (by simpa using h2') h3 h3')
def nfB(k:Nat)(m:NF)(bs:List Nat):Bool:=
 cond (Nat.beq bs.length m.hs.length) (cond (Hz bs m.hs) (cond ((List.range k).all λb=>Nat.beq (bs.getD b 0) b) (cond (Nat.ble k m.hs.length) (cond (tsB m.hs.length m.ts) (hsB m.hs.length m.hs) false) false) false) false) false
def NF.lhs(m:NF)(s:S3)(bs:List Nat):List AV×List (Option Blk):=(m.ts.map λp=>bf p.2.1 (s.tm p.1),List.zipWith (λb x=>PB.see (s.hp b) x) bs m.hs)
def NF.rhs(m:NF)(bs:List Nat):List AV×List (Option Blk):=(m.ts.map λp=>p.2.2.ren λi=>bs.getD i 0,m.hs.map λx=>x.ren λi=>bs.getD i 0)
def nfP(k:Nat)(s:S3)(m:NF)(bs:List Nat)(R:Prop):Prop:=cond (nfB k m bs) (m.lhs s bs=m.rhs bs∧R) False
def Nf(m:NF)(bs:List Nat)(R:Prop):Prop:=m.rhs bs=m.rhs bs∧R
theorem pX{m:NF}{bs:List Nat}{R:Prop}:Nf m bs R↔R:=⟨λh=>h.2,λh=>⟨rfl,h⟩⟩
theorem lE{m:Nat}:∀{hs:List PB},hsB m hs=true→∀x∈hs,∀B,x.blk=some B→B.bel m∧∀π,x.ren π=some (B.ren π)
 | [],_,x,hx,_,_=>by simp at hx
 | .box y::r,h,x,hx,B,hB=>by
  obtain⟨h1,h2⟩:=ah.mp h
  rcases List.mem_cons.mp hx with rfl|hx
  ·cases hB;exact⟨AV.belB_ok h1,λπ=>rfl⟩
  ·exact lE h2 x hx B hB
 | .vec k es hes::r,h,x,hx,B,hB=>by
  rcases List.mem_cons.mp hx with rfl|hx
  ·cases hB;exact⟨bN (aW hes),λπ=>by show some (Blk.vec k es)=some (.vec k (d6 π es));rw[bF _ (aW hes)]⟩
  ·exact lE (hs:=r) h x hx B hB
 | .arr es hes::r,h,x,hx,B,hB=>by
  rcases List.mem_cons.mp hx with rfl|hx
  ·cases hB;exact⟨bN (aW hes),λπ=>by show some (Blk.box (.agg es))=some (.box (.agg (d6 π es)));rw[bF _ (aW hes)]⟩
  ·exact lE (hs:=r) h x hx B hB
 | .map kk ks vs hes::r,h,x,hx,B,hB=>by
  rcases List.mem_cons.mp hx with rfl|hx
  ·cases hB;exact⟨bN (aW hes),λπ=>by show some (Blk.map kk ks vs)=some (.map kk ks (d6 π vs));rw[bF _ (aW hes)]⟩
  ·exact lE (hs:=r) h x hx B hB
 | .gone::r,h,x,hx,B,hB=>by
  rcases List.mem_cons.mp hx with rfl|hx
  ·cases hB
  ·exact lE (hs:=r) h x hx B hB
theorem wJ{tm:Nat→AV}{π:Nat→Nat}{m:Nat}:∀{ts:List (Nat×Sh×AV)},(ts.map λp=>bf p.2.1 (tm p.1))=(ts.map λp=>p.2.2.ren π)→tsB m ts=true →
  ∀t,(dO (ts.map λp=>(p.1,p.2.2)) t).bel m∧Sub (tm t) ((dO (ts.map λp=>(p.1,p.2.2)) t).ren π)
 | [],_,_,t=>⟨trivial,Sub.unk⟩
 | p::ts,h,hb,t=>by
  simp only[List.map_cons,List.cons.injEq]at h
  obtain⟨h1,h2⟩:=ah.mp hb
  obtain⟨i1,i2⟩:=wJ h.2 h2 t
  by_cases e:t=p.1
  ·subst e
   simp only[List.map_cons,dO,↓reduceIte]
   exact⟨AV.belB_ok h1,h.1 ▸ dS _ _⟩
  ·simp only[List.map_cons,dO,if_neg e]
   exact⟨i1,i2⟩
theorem tJ{k n:Nat}{s:S3}{m:NF}{bs:List Nat}{R:Prop}(h:nfP k s m bs R):aQ k n s m.st∧R:=by
 obtain⟨h2,h1,h3⟩:=az h
 refine⟨?_,h3⟩
 obtain⟨e1,e2⟩:=Prod.mk.inj h1
 obtain⟨c1,h2⟩:=ah.mp h2
 obtain⟨c2,h2⟩:=ah.mp h2
 obtain⟨c3,h2⟩:=ah.mp h2
 obtain⟨c4,h2⟩:=ah.mp h2
 obtain⟨c5,c6⟩:=ah.mp h2
 have c1:=Nat.eq_of_beq_eq_true c1
 have c4:=Nat.le_of_ble_eq_true c4
 have c2:=Fh c2
 have live:∀{y:PB} {x},y.blk=some x→y.isGone=false∧∀v,PB.see v y=v:=by
  intro y x e;cases y<;>first|exact⟨rfl,λv=>rfl⟩|cases e
 have hres:=wJ e1 c5
 refine aQ.trans (s2:=⟨λt=>(m.st.tm t).ren λi=>bs.getD i 0,s.hp,s.nx⟩) (aQ.sub (λt=>(hres t).2) rfl rfl) ?_
 have hlt:∀{b x},m.st.hp b=some x→(∃y,m.hs[b]?=some y∧y.blk=some x)∧b<m.hs.length:=by
  intro b x e
  rw[show m.st.hp=bS (m.hs.map PB.blk)from(kF _).symm]at e
  have e:=cE.mp e
  rw[List.getElem?_map,Option.map_eq_some_iff]at e
  obtain⟨y,e1,e2⟩:=e
  exact⟨⟨y,e1,e2⟩,(List.getElem?_eq_some_iff.mp e1).1⟩
 have hbs:∀{b},b<m.hs.length→bs[b]?=some (bs.getD b 0):=by
  intro b hb
  rw[List.getD_eq_getElem?_getD,List.getElem?_eq_getElem (show b<bs.length by omega)];rfl
 refine aQ.ren (λi=>bs.getD i 0) (λt=>.inr ⟨rfl,(hres t).1⟩) (λb x e=>?_) (λb b' e e' he=>?_) (λb hb=>?_) c4
 ·obtain⟨⟨y,g1,g3⟩,g2⟩:=hlt e
  obtain⟨q1,q2⟩:=lE c6 y (List.mem_of_getElem? g1) x g3
  refine⟨g2,?_,q1⟩
  have:(List.zipWith (λb x=>PB.see (s.hp b) x) bs m.hs)[b]?=(m.hs.map λx=>x.ren λi=>bs.getD i 0)[b]?:=by rw[←e2]
  rw[List.getElem?_zipWith,List.getElem?_map,hbs g2,g1]at this
  simp only[Option.map_some,Option.some.injEq,(live g3).2]at this
  show s.hp (bs.getD b 0)=_
  rw[this,q2]
 ·have hb:∀{b},m.st.hp b≠none→∃y,m.hs[b]?=some y∧y.isGone=false∧b<m.hs.length:=by
   intro b e
   cases hx:m.st.hp b with
   | none=>exact absurd hx e
   | some x =>
    obtain⟨⟨y,g1,g3⟩,g2⟩:=hlt hx
    exact⟨y,g1,(live g3).1,g2⟩
  obtain⟨y,a1,a2,a3⟩:=hb e
  obtain⟨y',a1',a2',a3'⟩:=hb e'
  have he:bs.getD b 0=bs.getD b' 0:=he
  exact c2 b b' _ y y' (hbs a3) (by rw[hbs a3',he]) a1 a1' a2 a2'
 ·have:=List.all_eq_true.mp c3 b (List.mem_range.mpr hb)
  exact Nat.eq_of_beq_eq_true this
section
variable {P : Program} {Sf : Nat → Type} {T : Type} (k : Nat)
def pre:An P Sf T→S3→(An P Sf T→S3→Prop)→Prop
 | .cmd c a,s,K=>jQ k c s λs'=>pre a s' K
 | .wait a,s,K=>K a s
 | a,s,K=>K a s
def l6:An P Sf T→S3→(An P Sf T→S3→Prop)→Prop
 | .cmd c a,s,K=>jQ k c s λs'=>l6 a s' K
 | .cmdL c a,s,K=>jQ k c s λs'=>l6 a s' K
 | a,s,K=>K a s
abbrev KX(P:Program)(Sf:Nat→Type)(T:Type):=X→An P Sf T→S3→Prop
def zh(j:Nat)(nf:Sf j→NF)(R:Sf j→Prop)(a:An P Sf T)(s:S3):Prop:=
 match a with
 | .back j' t bs=>if h:j'=j then nfP k s (nf (h ▸ t)) bs (R (h ▸ t))else False
 | _=>False
def LI(c:AO)(b:Bool)(tm:Nat→AV):Nat→AV:=match c with
 | .t t=>upd tm t (.val (.bool b))
 | .c _=>tm
def Uo(f:An P Sf T→S3→KX P Sf T→Prop):Nat→An P Sf T→S3→KX P Sf T→Prop
 | 0,_,_,_=>False
 | m+1,a,s,K=>f a s λe a' s'=>match e with
  | .normal=>Uo f m a' s' K
  | e=>K e a' s'
def wpA:AC→An P Sf T→S3→KX P Sf T→Prop
 | .skip,a,s,K=>K .normal a s
 | .reg ops,a,s,K=>pre k a s λa s=>lm ops s.nx ⟨s.tm,s.hp⟩ a λa' s' f=>K .normal a' ⟨s'.tm,s'.hp,f⟩
 | .dreg ops par,a,s,K=>pre k a s λa s=>kl ops s.nx ⟨s.tm,s.hp⟩ [] a λa' s' f lg=>cond (EE par lg) (K .normal a' ⟨s'.tm,s'.hp,f⟩) False
 | .seq x y,a,s,K=>match a with
  | .pass a=>wpA x a s λe a' s'=>match e with
   | .normal=>wpA y a' s' K
   | e=>K e a' s'
  | .join j nf I a body=>(wpA x a s λe a' s'=>match e with
    | .normal=>l6 k a' s' λa' s'=>zh k j nf I a' s'
    | e=>K e a' s')∧∀t,I t→wpA y (body t) (nf t).st K
  | .join2 j nf I a body=>match y with
   | .seq y z=>(wpA x a s λe a' s'=>match e with
     | .normal=>wpA y a' s' λe a' s'=>match e with
      | .normal=>l6 k a' s' λa' s'=>zh k j nf I a' s'
      | e=>K e a' s'
     | e=>K e a' s')∧∀t,I t→wpA z (body t) (nf t).st K
   | _=>False
  | .hand k0 cs m1 bs s2 c _ a=>N3 k cs s λs=>nfP k s m1 bs (cond (Nat.beq k k0) (x=c∧wpA y a s2 K) False)
  | .hand2 k0 s1 s2 c _ a=>cond (Nat.beq k k0) (s=s1∧x=c∧wpA y a s2 K) False
  | a=>wpA x a s λe a' s'=>match e with
   | .normal=>wpA y a' s' K
   | e=>K e a' s'
 | .cond c x y,a,s,K=>pre k a s λa s=>match evO s.tm c with
  | .val (.bool b)=>cond b (wpA x (a.l s.nx) ⟨LI c true s.tm,s.hp,s.nx⟩ K) (wpA y (a.r s.nx) ⟨LI c false s.tm,s.hp,s.nx⟩ K)
  | _=>False
 | .block id x,a,s,K=>wpA x a s λe a' s'=>match e with
  | .exit i=>cond (Nat.beq i id) (K .normal a' s') (K (.exit i) a' s')
  | e=>K e a' s'
 | .loop x,a,s,K=>l6 k a s λa s=>match a with
  | .loop j nf I mu s0 bs body=>nfP k s (nf s0) bs (I s0)∧∀t,I t→wpA x (body t) (nf t).st λe a' s'=>match e with
   | .normal=>l6 k a' s' λa' s'=>zh k j nf (λt'=>I t'∧mu t'<mu t) a' s'
   | e=>K e a' s'
  | .unr m a=>Uo (λa s K=>wpA x a s K) m a s K
  | _=>False
 | .exit id,a,s,K=>K (.exit id) a s
 | .ret,a,s,K=>K .ret a s
 | .bad,_,_,_=>False
end
section
variable {P : Program} {Sf : Nat → Type} {T : Type} {k n : Nat}
theorem tl{K:An P Sf T→S3→Prop}:∀{a:An P Sf T} {s:S3},pre k a s K→∃a' s',aQ k n s s'∧K a' s'
 | .cmd c a,s,h=>by
  rw[pre]at h
  obtain⟨s',h1,h2⟩:=ni (n:=n) h
  obtain⟨a',s2,h3,h4⟩:=tl h2
  exact⟨a',s2,h1.trans h3,h4⟩
 | .wait a,s,h=>⟨a,s,aQ.refl,by rw[pre]at h;exact h⟩
 | .cmdL _ _,s,h|.nil,s,h|.pass _,s,h|.br _ _ _,s,h|.el _ _ _ _,s,h|.elA _ _ _ _ _ _ _,s,h|.st _ _ _ _ _,s,h|.stI _ _ _ _,s,h|.app _ _ _ _ _,s,h|.appF _ _ _ _ _,s,h|.sub _ _ _ _ _,s,h|.rep _ _ _ _,s,h|.own _ _,s,h|.mn _ _ _,s,h|.req _ _ _,s,h|.callP _ _,s,h|.callH _ _ _,s,h|.callA _ _ _,s,h
 | .loop _ _ _ _ _ _ _,s,h|.join _ _ _ _ _,s,h|.join2 _ _ _ _ _,s,h|.back _ _ _,s,h|.hand _ _ _ _ _ _ _ _,s,h|.hand2 _ _ _ _ _ _,s,h|.unr _ _,s,h|.ret _,s,h|.retH _ _ _,s,h=>⟨_,s,aQ.refl,h⟩
theorem gc{K:An P Sf T→S3→Prop}:∀{a:An P Sf T} {s:S3},l6 k a s K→∃a' s',aQ k n s s'∧K a' s'
 | .cmd c a,s,h=>by
  rw[l6]at h
  obtain⟨s',h1,h2⟩:=ni (n:=n) h
  obtain⟨a',s2,h3,h4⟩:=gc h2
  exact⟨a',s2,h1.trans h3,h4⟩
 | .cmdL c a,s,h=>by
  rw[l6]at h
  obtain⟨s',h1,h2⟩:=ni (n:=n) h
  obtain⟨a',s2,h3,h4⟩:=gc h2
  exact⟨a',s2,h1.trans h3,h4⟩
 | .wait _,s,h|.nil,s,h|.pass _,s,h|.br _ _ _,s,h|.el _ _ _ _,s,h|.elA _ _ _ _ _ _ _,s,h|.st _ _ _ _ _,s,h|.stI _ _ _ _,s,h|.app _ _ _ _ _,s,h|.appF _ _ _ _ _,s,h|.sub _ _ _ _ _,s,h|.rep _ _ _ _,s,h|.own _ _,s,h|.mn _ _ _,s,h|.req _ _ _,s,h|.callP _ _,s,h|.callH _ _ _,s,h|.callA _ _ _,s,h
 | .loop _ _ _ _ _ _ _,s,h|.join _ _ _ _ _,s,h|.join2 _ _ _ _ _,s,h|.back _ _ _,s,h|.hand _ _ _ _ _ _ _ _,s,h|.hand2 _ _ _ _ _ _,s,h|.unr _ _,s,h|.ret _,s,h|.retH _ _ _,s,h=>⟨_,s,aQ.refl,h⟩
theorem pQ{j:Nat}{nf:Sf j→NF}{R:Sf j→Prop}{a:An P Sf T}{s:S3}(h:zh k j nf R a s):∃t,R t∧aQ k n s (nf t).st:=by
 unfold zh at h
 split at h
 ·rename_i j' t bs
  by_cases e:j'=j
  ·subst e
   rw[dif_pos rfl]at h
   obtain⟨h1,h2⟩:=tJ (n:=n) h
   exact⟨_,h2,h1⟩
  ·rw[dif_neg e]at h;exact h.elim
 ·exact h.elim
theorem EW{c:AO}{b:Bool}{tm:Nat→AV}(h:evO tm c=.val (.bool b)):LI c b tm=tm:=by
 cases c with
 | t t=>exact ee h
 | c x=>rfl
theorem dE:∀{c:AC} {a:An P Sf T} {s:S3} {K:KX P Sf T} {Q:X→S3→Prop},wpA k c a s K→(∀e a' s',K e a' s'→Q e s')→AWP P k n c Q s
 | .skip,a,s,K,Q,h,hq=>AWP.skip (hq _ _ _ h)
 | .reg ops,a,s,K,Q,h,hq=>by
  obtain⟨a',s',h1,h2⟩:=tl (n:=n) h
  refine AWP.weak h1 (AWP.reg ?_)
  exact ia (λa'' s'' f hk=>hq _ _ _ hk) h2
 | .dreg ops par,a,s,K,Q,h,hq=>by
  obtain⟨a',s',h1,h2⟩:=tl (n:=n) h
  refine AWP.weak h1 (AWP.dreg ?_)
  refine kj (λa'' s'' f lg hk=>?_) h2
  obtain⟨g1,g2⟩:=az hk
  exact⟨g1,hq _ _ _ g2⟩
 | .seq x y,a,s,K,Q,h,hq=>by
  have plain:∀{a:An P Sf T},(wpA k x a s λe a' s'=>match e with
    | .normal=>wpA k y a' s' K
    | e=>K e a' s')→AWP P k n (.seq x y) Q s:=by
   intro a h
   refine AWP.seq (dE h λe a' s' hk=>?_)
   cases e with
   | normal=>exact dE hk hq
   | exit id=>exact hq _ _ _ hk
   | ret=>exact hq _ _ _ hk
  rw[wpA.eq_def]at h
  simp only at h
  split at h
  ·exact plain h
  ·rename_i j nf I a body
   obtain⟨h1,h2⟩:=h
   refine AWP.seq (dE h1 λe a' s' hk=>?_)
   cases e with
   | normal =>
    obtain⟨a2,s2,g1,g2⟩:=gc (n:=n) hk
    obtain⟨t,g3,g4⟩:=pQ (n:=n) g2
    exact AWP.weak (g1.trans g4) (dE (h2 t g3) hq)
   | exit id=>exact hq _ _ _ hk
   | ret=>exact hq _ _ _ hk
  ·rename_i j nf I a body
   split at h
   ·rename_i y z
    obtain⟨h1,h2⟩:=h
    refine AWP.seq (dE h1 λe a' s' hk=>?_)
    cases e with
    | normal =>
     refine AWP.seq (dE hk λe a' s' hk=>?_)
     cases e with
     | normal =>
      obtain⟨a2,s2,g1,g2⟩:=gc (n:=n) hk
      obtain⟨t,g3,g4⟩:=pQ (n:=n) g2
      exact AWP.weak (g1.trans g4) (dE (h2 t g3) hq)
     | exit id=>exact hq _ _ _ hk
     | ret=>exact hq _ _ _ hk
    | exit id=>exact hq _ _ _ hk
    | ret=>exact hq _ _ _ hk
   ·exact h.elim
  ·rename_i k0 cs m1 bs s2 c hc a
   obtain⟨s',h0,h⟩:=yU (n:=n) h
   obtain⟨h1,q1⟩:=tJ (n:=n) h
   obtain⟨h2,q2⟩:=az q1
   clear q1 h
   obtain⟨rfl,q3⟩:=q2
   have h2:=Nat.eq_of_beq_eq_true h2
   subst h2
   refine AWP.weak (h0.trans h1) (AWP.seq (AWP.mono (hc n) λe s' he=>?_))
   cases e with
   | normal=>exact AWP.weak he (dE q3 hq)
   | exit id=>exact he.elim
   | ret=>exact he.elim
  ·rename_i k0 s1 s2 c hc a
   obtain⟨h2,q2⟩:=az h
   clear h
   obtain⟨rfl,rfl,q3⟩:=q2
   have h2:=Nat.eq_of_beq_eq_true h2
   subst h2
   refine AWP.seq (AWP.mono (hc n) λe s' he=>?_)
   cases e with
   | normal=>exact AWP.weak he (dE q3 hq)
   | exit id=>exact he.elim
   | ret=>exact he.elim
  ·exact plain h
 | .cond c x y,a,s,K,Q,h,hq=>by
  obtain⟨a',s',h1,h2⟩:=tl (n:=n) h
  refine AWP.weak h1 ?_
  split at h2
  ·rename_i b e
   refine AWP.cond e (λhb=>?_) (λhb=>?_)
   ·subst hb
    have h2:wpA k x (a'.l s'.nx) ⟨LI c true s'.tm,s'.hp,s'.nx⟩ K:=h2
    rw[EW e]at h2
    exact dE h2 hq
   ·subst hb
    have h2:wpA k y (a'.r s'.nx) ⟨LI c false s'.tm,s'.hp,s'.nx⟩ K:=h2
    rw[EW e]at h2
    exact dE h2 hq
  ·exact h2.elim
 | .block id x,a,s,K,Q,h,hq=>by
  refine AWP.block (dE h λe a' s' hk=>?_)
  cases e with
  | normal=>exact hq _ _ _ hk
  | exit i =>
   have hk:cond (Nat.beq i id) (K .normal a' s') (K (.exit i) a' s'):=hk
   show if i=id then Q .normal s' else Q (.exit i) s'
   cases e:Nat.beq i id with
   | true=>rw[e]at hk;rw[if_pos (Nat.eq_of_beq_eq_true e)];exact hq _ _ _ hk
   | false=>rw[e]at hk;rw[if_neg (λe'=>by subst e';simp at e)];exact hq _ _ _ hk
  | ret=>exact hq _ _ _ hk
 | .loop x,a,s,K,Q,h,hq=>by
  obtain⟨a',s',h1,h2⟩:=gc (n:=n) h
  refine AWP.weak h1 ?_
  split at h2
  ·rename_i j nf I mu s0 bs body
   obtain⟨h2,h3⟩:=h2
   obtain⟨h4,h5⟩:=tJ (n:=n) h2
   refine AWP.loopS (σ:=Sf j) (λt=>(nf t).st) I mu h5 h4 λt ht=>dE (h3 t ht) λe a' s' hk=>?_
   cases e with
   | normal =>
    obtain⟨a2,s2,g1,g2⟩:=gc (n:=n) hk
    obtain⟨t',⟨g3,g4⟩,g5⟩:=pQ (n:=n) g2
    exact⟨t',g3,g4,g1.trans g5⟩
   | exit id=>exact hq _ _ _ hk
   | ret=>exact hq _ _ _ hk
  ·rename_i m a2
   refine AWP.loop (λm s=>∃a,Uo (λa s K=>wpA k x a s K) m a s K) (m:=m) ⟨_,aQ.refl,_,h2⟩ λm s hI=>?_
   obtain⟨a3,h3⟩:=hI
   cases m with
   | zero=>exact h3.elim
   | succ m =>
    refine dE h3 λe a' s' hk=>?_
    cases e with
    | normal=>exact⟨m,s',Nat.lt_succ_self m,aQ.refl,a',hk⟩
    | exit id=>exact hq _ _ _ hk
    | ret=>exact hq _ _ _ hk
  ·exact h2.elim
 | .exit id,a,s,K,Q,h,hq=>AWP.exit (hq _ _ _ h)
 | .ret,a,s,K,Q,h,hq=>AWP.ret (hq _ _ _ h)
 | .bad,_,_,_,_,h,_=>h.elim
end
end Go.Am
namespace Go.Am
def finS(k n:Nat)(res:List AR)(r:AV)(h':List (Option Blk)):X→S3→Prop
 | .exit _,_=>False
 | _,s=>∃s',aQ k n s s'∧(∃xs,kp s' res=some xs∧Sub (o3 xs) r)∧∀b x,bS h' b=some x→s'.hp b=some x
theorem bl.introS{P:Program}{f:FuncId}{fn:Func}{af:AF}{args:List AV}{h:List Blk}{r:AV}{h':List (Option Blk)}(hf:P.funcs[f]?=some fn)(hc:FY P fn=some af)(hn:args.length≤af.n)
    (hw:AWP P h.length af.n af.body (finS h.length af.n af.res r h') (Re af.n args h)):bl P f args h r h':=by
  intro w A μ cargs hH hmu hargs
  unfold FY at hc
  split at hc
  case h_1=>cases hc
  rename_i body hb
  split at hc
  case h_1=>cases hc
  rename_i rs hrs
  cases hc
  simp only at hw hn
  have hl:=hargs.length
  let c:Ctx:=⟨w,dP μ (bS (h.map some)),A,μ⟩
  refine calls_of_wp hf hb ?_
  have H0:Rel P h.length c fn.ntmps (Re fn.ntmps args h) { tmps:=cargs.toArray++Array.replicate (fn.ntmps-cargs.toArray.size) undef,defers:=[] } w:=by
    refine⟨hmu,A,μ,λt=>?_,?_,rfl,λb x hx=>?_,hH.inj,hH.lt,λb hb=>⟨hmu b hb,?_⟩,⟨rfl,rfl,rfl,Nat.le_refl _,λ_ _ _=>rfl⟩,λ_ h=>h,λ_ h=>.inl h,bv.refl _⟩
    · show RV w A (args.getD t .unk) μ _
      by_cases ht:t<args.length
      · have e1:args[t]?=some (args.getD t .unk):=by simp[List.getD,List.getElem?_eq_getElem ht]
        obtain⟨v,e2,e3⟩:=hargs.get e1
        have:(cargs.toArray++Array.replicate (fn.ntmps-cargs.toArray.size) undef).getD t undef=v:=by
          have hlt:t<cargs.length:=by omega
          have hv:cargs[t]=v:=by rw[List.getElem?_eq_getElem hlt]at e2;exact Option.some.inj e2
          rw[Array.getD_eq_getD_getElem?,Array.getElem?_append_left (by simpa using hlt)]
          simp[hlt,hv]
        rw[this];exact e3
      · have:args.getD t .unk=.unk:=by simp[List.getD,List.getElem?_eq_none (Nat.le_of_not_lt ht)]
        rw[this];trivial
    · simp;omega
    · obtain⟨hd,e1,e2,e3⟩:=hH.blk b x hx
      exact⟨hd,e1,e2,λhe=>⟨(e3 he).1,(e3 he).2,.inl ⟨b,x,hd,hx,e1,he,rfl⟩⟩⟩
    · show bS (h.map some) b=none
      have hb':h.length≤b:=hb
      simp[bS,List.getElem?_eq_none,hb']
  refine wp_mono (hw _ rfl c _ w H0) ?_
  have fin:∀(s:S3) (a':Act) (w':World),(∃s',aQ h.length fn.ntmps s s'∧(∃xs,kp s' rs=some xs∧Sub (o3 xs) r)∧∀b x,bS h' b=some x→s'.hp b=some x)→Rel P h.length c fn.ntmps s a' w' →
      a'.defers=[]∧∃v,(results fn a'.tmps).run P w'=.ok v w'∧(λe w'=>∃v A' μ',e=Ending.returned v∧RV w' A' r μ' v∧qe P w' A' μ' (bS h')∧bv μ μ'∧Ext (dP μ (bS (h.map some))) w w' ∧
        (∀b,A b→A' b)∧(∀b,A' b→A b∨dP μ (bS (h.map some)) b∨w.heap.size≤b)∧(∀b,dP μ' (bS h') b→dP μ (bS (h.map some)) b∨w.heap.size≤b)) (.returned v) w':=by
    rintro s a' w' ⟨s',hwk,⟨xs,hxs,hpk⟩,hsub⟩ hr
    obtain⟨h0,A',μ',H⟩:=hwk P c a' w' hr
    obtain⟨v,e1,e2⟩:=wF H hrs hxs
    have e2:=hpk _ _ _ _ e2
    refine⟨H.df,v,e1,v,A',μ',rfl,e2,?_,H.mu,?_,H.A0,H.A1,?_⟩
    · refine⟨λb x hx=>?_,λb b' x x' hd hd' hx hx'=>H.inj b b' x x' hd hd' (hsub b x hx) (hsub b' x' hx'),H.lt⟩
      obtain⟨hd,g1,g2,g3⟩:=H.blk b x (hsub b x hx)
      exact⟨hd,g1,g2,λhe=>⟨(g3 he).1,(g3 he).2.1⟩⟩
    · exact⟨H.keep.os,H.keep.tape,H.keep.output,H.keep.size,H.keep.block⟩
    · rintro b ⟨b',x,hd,hx,hm,he,rfl⟩
      obtain⟨hd',g1,g2,g3⟩:=H.blk b' x (hsub b' x hx)
      rw[hm]at g1;cases g1
      exact(g3 he).2.2
  intro e a' w' hq
  cases e with
  | normal=>obtain⟨s,h1,h2⟩:=hq;exact fin s a' w' h1 h2
  | ret=>obtain⟨s,h1,h2⟩:=hq;exact fin s a' w' h1 h2
  | exit id=>obtain⟨s,h1,h2⟩:=hq;exact h1.elim
  | _=>exact hq.elim
section
variable {P : Program} {Sf : Nat → Type} {T : Type}
def endP(res:List AR)(sh:Sh)(enc:T→AV)(r0:T):KX P Sf T
 | .exit _,_,_=>False
 | _,a,s=>l6 0 a s λa s=>match a with
  | .ret r=>match kp s res with
   | some xs=>bf sh (o3 xs)=enc r∧r=r0
   | none=>False
  | _=>False
def endH(k:Nat)(res:List AR)(sh:Sh)(enc:T→AV)(hB:T→List (Option Blk))(r0:T):KX P Sf T
 | .exit _,_,_=>False
 | _,a,s=>l6 k a s λa s=>match a with
  | .retH r m bs=>nfP k s m bs (match kp m.st res with
   | some xs=>bf sh (o3 xs)=enc r∧(m.hs.map PB.blk).take (hB r).length=hB r∧r=r0
   | none=>False)
  | _=>False
def C8(P:Program)(f:FuncId):Option AF:=(P.funcs[f]?).bind (FY P)
def mxP(P:Program)(f:FuncId)(args:List AV)(sh:Sh)(enc:T→AV)(a:An P Sf T)(r0:T):Prop:=
 match C8 P f with
 | some af=>cond (Nat.ble args.length af.n) (wpA 0 af.body a ⟨oV args 0,λ_=>none,0⟩ (endP af.res sh enc r0)) False
 | none=>False
def mxH(P:Program)(f:FuncId)(args:List AV)(h:List Blk)(sh:Sh)(enc:T→AV)(hB:T→List (Option Blk))(a:An P Sf T)(r0:T):Prop:=
 match C8 P f with
 | some af=>cond (Nat.ble args.length af.n) (wpA h.length af.body a ⟨oV args 0,ro h 0,h.length⟩ (endH h.length af.res sh enc hB r0)) False
 | none=>False
theorem mi{f:FuncId}{af:AF}(h:C8 P f=some af):∃fn,P.funcs[f]?=some fn∧FY P fn=some af:=Option.bind_eq_some_iff.mp h
theorem Vw{f:FuncId}{args:List AV}{sh:Sh}{enc:T→AV}{a:An P Sf T}{r0:T}(h:mxP P f args sh enc a r0)(hp:(enc r0).pure):ao P f args (enc r0):=by
 unfold mxP at h
 split at h
 ·rename_i af e
  obtain⟨fn,e1,e2⟩:=mi e
  obtain⟨h1,h⟩:=az h
  refine bl.pure (bl.introS e1 e2 (Nat.le_of_ble_eq_true h1) (h:=[]) (h':=[]) ?_) hp
  rw[Fi]
  refine dE h λe a' s' hk=>?_
  have fin:∀{a:An P Sf T} {s:S3},(l6 0 a s λa s=>match a with
    | .ret r=>match kp s af.res with
     | some xs=>bf sh (o3 xs)=enc r∧r=r0
     | none=>False
    | _=>False)→∃s',aQ 0 af.n s s'∧(∃xs,kp s' af.res=some xs∧Sub (o3 xs) (enc r0))∧∀b x,bS [] b=some x→s'.hp b=some x:=by
   intro a s h
   obtain⟨a2,s2,g1,g2⟩:=gc (n:=af.n) h
   split at g2
   ·split at g2
    ·rename_i xs ex
     obtain⟨g3,rfl⟩:=g2
     exact⟨s2,g1,⟨xs,ex,g3 ▸ dS _ _⟩,λb x hx=>by simp[bS]at hx⟩
    ·exact g2.elim
   ·exact g2.elim
  cases e with
  | normal=>exact fin hk
  | exit id=>exact hk.elim
  | ret=>exact fin hk
 ·exact h.elim
theorem Vx{f:FuncId}{args:List AV}{hs:List Blk}{sh:Sh}{enc:T→AV}{hB:T→List (Option Blk)}{a:An P Sf T}{r0:T}(h:mxH P f args hs sh enc hB a r0):bl P f args hs (enc r0) (hB r0):=by
 unfold mxH at h
 split at h
 ·rename_i af e
  obtain⟨fn,e1,e2⟩:=mi e
  obtain⟨h1,h⟩:=az h
  refine bl.introS e1 e2 (Nat.le_of_ble_eq_true h1) ?_
  rw[Fi]
  refine dE h λe a' s' hk=>?_
  have fin:∀{a:An P Sf T} {s:S3},(l6 hs.length a s λa s=>match a with
    | .retH r m bs=>nfP hs.length s m bs (match kp m.st af.res with
     | some xs=>bf sh (o3 xs)=enc r∧(m.hs.map PB.blk).take (hB r).length=hB r∧r=r0
     | none=>False)
    | _=>False)→∃s',aQ hs.length af.n s s'∧(∃xs,kp s' af.res=some xs∧Sub (o3 xs) (enc r0))∧∀b x,bS (hB r0) b=some x→s'.hp b=some x:=by
   intro a s h
   obtain⟨a2,s2,g1,g2⟩:=gc (n:=af.n) h
   split at g2
   ·rename_i r m bs
    obtain⟨g3,g2⟩:=tJ (n:=af.n) g2
    split at g2
    ·rename_i xs ex
     obtain⟨g4,g5,rfl⟩:=g2
     refine⟨m.st,g1.trans g3,⟨xs,ex,g4 ▸ dS _ _⟩,λb x hx=>?_⟩
     rw[show m.st.hp=bS (m.hs.map PB.blk)from(kF _).symm]
     have hx:=cE.mp hx
     rw[←g5]at hx
     refine cE.mpr ?_
     rw[List.getElem?_take]at hx
     split at hx
     ·exact hx
     ·cases hx
    ·exact g2.elim
   ·exact g2.elim
  cases e with
  | normal=>exact fin hk
  | exit id=>exact hk.elim
  | ret=>exact fin hk
 ·exact h.elim
end
def ck(b:Bool)(R:Prop):Prop:=cond b R False
def br(b:Bool)(X Y:Prop):Prop:=cond b X Y
def Cl{P:Program}(c:PC P)(R:Prop):Prop:=c.args=c.args∧R
def Ch{P:Program}(c:HC P)(bs:List Nat)(f:Nat)(R:Prop):Prop:=d6 (bi bs f) c.args=d6 (bi bs f) c.args∧(c.h.map λx=>some (iH (bi bs f) x))=(c.h.map λx=>some (iH (bi bs f) x))∧R
def Rf{α:Type}(x:α)(R:Prop):Prop:=x=x∧R
def Bk{σ:Type}(n:σ→NF)(bs:List Nat)(I:σ→Prop)(m:σ→Nat)(x t:σ):Prop:=Nf (n x) bs (I x∧m x<m t)
def Be{σ:Type}(n:σ→NF)(bs:List Nat)(I:σ→Prop)(x:σ):Prop:=Nf (n x) bs (I x)
def Bj{σ:Type}(n:σ→NF)(bs:List Nat)(x:σ):Prop:=Nf (n x) bs (x=x)
def Rp{T:Type}(e:T→AV)(r r0:T):Prop:=Rf (e r) (r=r0)
def Qt{T:Type}(m:NF)(bs:List Nat)(e:T→AV)(b:T→List (Option Blk))(r r0:T):Prop:=Nf m bs (Rf (e r) (Rf (b r) (r=r0)))
def B(l:List UInt8):ByteArray:=⟨l.toArray⟩
def bOr(k:IntKind)(a b:Int):Int:=k.wrap ((BitVec.ofInt k.bits a) ||| (BitVec.ofInt k.bits b)).toNat
def NV(k:IntKind)(a b:Int):Int:=k.wrap ((BitVec.ofInt k.bits a) &&& ~~~(BitVec.ofInt k.bits b)).toNat
def sP(k:IntKind)(a b:Int):Int:=k.wrap (a * 2 ^ (Nat.min b.toNat k.bits))
def shrI(k:IntKind)(a b:Int):Int:=a.fdiv (2 ^ (Nat.min b.toNat k.bits))
def MN.say:MN→Prop→Prop
 | .get _ kf _ vf l x z,R=>(l.map λp=>kf p.1)=(l.map λp=>kf p.1)∧(l.map λp=>vf p.2)=(l.map λp=>vf p.2)∧kf x=kf x∧vf z=vf z∧R
 | .put _ kf _ vf l x v,R=>(l.map λp=>kf p.1)=(l.map λp=>kf p.1)∧(l.map λp=>vf p.2)=(l.map λp=>vf p.2)∧kf x=kf x∧vf v=vf v∧R
 | .del _ kf _ vf l x,R=>(l.map λp=>kf p.1)=(l.map λp=>kf p.1)∧(l.map λp=>vf p.2)=(l.map λp=>vf p.2)∧kf x=kf x∧R
theorem MN.say_iff{q:MN}{R:Prop}:q.say R↔R:=by cases q<;>simp[MN.say]
theorem WP{b:Bool}{R:Prop}:ck b R↔b=true∧R:=by cases b<;>simp[ck]
theorem WU{b:Bool}{X Y:Prop}:br b X Y↔(b=true→X)∧(b=false→Y):=by cases b<;>simp[br]
theorem X7{P:Program}{c:PC P}{R:Prop}:Cl c R↔R:=⟨λh=>h.2,λh=>⟨rfl,h⟩⟩
theorem X8{P:Program}{c:HC P}{bs:List Nat}{f:Nat}{R:Prop}:Ch c bs f R↔R:=⟨λh=>h.2.2,λh=>⟨rfl,rfl,h⟩⟩
theorem v7{α:Type}{x:α}{R:Prop}:Rf x R↔R:=⟨λh=>h.2,λh=>⟨rfl,h⟩⟩
theorem X9{σ:Type}{n:σ→NF}{bs:List Nat}{I:σ→Prop}{m:σ→Nat}{x t:σ}:Bk n bs I m x t↔I x∧m x<m t:=pX
theorem XB{σ:Type}{n:σ→NF}{bs:List Nat}{I:σ→Prop}{x:σ}:Be n bs I x↔I x:=pX
theorem XA{σ:Type}{n:σ→NF}{bs:List Nat}{x:σ}:Bj n bs x↔True:=⟨λ_=>trivial,λ_=>pX.mpr rfl⟩
theorem Xu{T:Type}{e:T→AV}{r r0:T}:Rp e r r0↔r=r0:=v7
theorem Xw{T:Type}{m:NF}{bs:List Nat}{e:T→AV}{b:T→List (Option Blk)}{r r0:T}:Qt m bs e b r r0↔r=r0:=pX.trans (v7.trans v7)
def Idt(l:List AV)(R:Prop):Prop:=l=(l.map λy=>y)∧R
def X2{α:Type}(sh:Sh)(v:α→AV)(l xs:List α)(ys:List AV):Prop:=(((l.map v)++ys).map λy=>y).map (bf sh)=(l++xs).map v
theorem tN(l:List AV):l.map (λy=>y)=l:=List.map_id'' (λ_=>rfl) l
theorem Tb{l:List AV}{R:Prop}:Idt l R↔R:=⟨λh=>h.2,λh=>⟨(tN l).symm,h⟩⟩
theorem MR{α:Type}{sh:Sh}{v:α→AV}{l xs:List α}{ys:List AV}(h:∀x,bf sh (v x)=v x)(h2:ys.map (bf sh)=xs.map v):X2 sh v l xs ys:=by
 unfold X2
 rw[tN,List.map_append,List.map_append,h2,List.map_map]
 exact congrArg (·++_) (List.map_congr_left λy _=>h y)
def X1{α:Type}(sh:Sh)(v:α→AV)(n:Nat)(z:AV)(x:α):Prop:=((List.replicate n z).map λy=>y).map (bf sh)=(List.replicate n x).map v
theorem RD{α:Type}{sh:Sh}{v:α→AV}{n:Nat}{z:AV}{x:α}(h:bf sh z=v x):X1 sh v n z x:=by
 unfold X1
 rw[tN,List.map_replicate,List.map_replicate,h]
theorem aj{P:Program}{Sf:Nat→Type}{T:Type}{f:FuncId}{args:List AV}{sh:Sh}{enc:T→AV}{a:An P Sf T}{r0:T}{V:Prop}(h:V)(e:mxP P f args sh enc a r0=V)(hp:(enc r0).pure):ao P f args (enc r0):=by
 subst e;exact Vw h hp
theorem cC{P:Program}{Sf:Nat→Type}{T:Type}{f:FuncId}{args:List AV}{hs:List Blk}{sh:Sh}{enc:T→AV}{hB:T→List (Option Blk)}{a:An P Sf T}{r0:T}{V:Prop}(h:V)(e:mxH P f args hs sh enc hB a r0=V):bl P f args hs (enc r0) (hB r0):=by
 subst e;exact Vx h
attribute [irreducible] mxP mxH
abbrev W:=IntKind.i64.wrap
theorem bB{n:Int}(h:-9223372036854775808≤n∧n≤9223372036854775807):W n=n:=II h
theorem ifb{p q:Prop}[Decidable p]:(decide p=true→q)↔(p→q):=by simp
theorem ifn{p q:Prop}[Decidable p]:(decide p=false→q)↔(¬p→q):=by simp
def fnB (P : Program) (f : FuncId) : Bool := match P.funcs[f]? with
  | some fn => fn.body.isSome && !(fn.name == "runtime.NumGoroutine")
  | none => false
theorem ai{P:Program}{f:FuncId}(h:fnB P f=true):vD P f:=by
 unfold fnB at h
 split at h
 ·rename_i fn e
  simp only[Bool.and_eq_true,Bool.not_eq_true']at h
  exact⟨fn,e,h.1,h.2⟩
 ·cases h
theorem cT:maxLen=9223372036854775807:=rfl
theorem VR(n:Int):inK .i64 n↔-9223372036854775808≤n∧n≤9223372036854775807:=Iff.rfl
theorem ax{α:Type}{l:List α}{i:Nat}{x:α}(h:l[i]?=some x):l.take (i+1)=l.take i++[x]:=by rw[List.take_add_one,h];rfl
theorem ay{α:Type}{l:List α}{i:Nat}{x:α}(h:l[i]?=some x):i<l.length:=(List.getElem?_eq_some_iff.mp h).1
theorem aB{α:Type}{l:List α}{i:Nat}{x:α}(h:l[i]?=some x):x∈l:=List.mem_of_getElem? h
set_option linter.defProp false
def okU:=And.intro @okL.eq_1 (And.intro @okL.eq_2 (And.intro @AV.ok.eq_1 (And.intro @AV.ok.eq_2 (And.intro @AV.ok.eq_3 (And.intro @AV.ok.eq_4 (And.intro @AV.ok.eq_5 (And.intro @AV.ok.eq_6 (And.intro @VR (And.intro @and_true (And.intro @true_and cT))))))))))
def vcU:=And.intro @MN.say_iff <| And.intro @WU (And.intro @WP (And.intro @X7 (And.intro @X8 (And.intro @pX (And.intro @X9 (And.intro @XB (And.intro @XA (And.intro @Xu (And.intro @Xw (And.intro @ifb (And.intro @ifn (And.intro @decide_eq_true_eq (And.intro @decide_eq_false_iff_not (And.intro @Bool.and_eq_true @Bool.or_eq_true))))))))))))))
def rfU:=And.intro @v7 @Tb
end Go.Am
namespace Go.Am
inductive Ax (P:Program) (Sf:Nat→Type) (T:Type):Type 1 where
  | say (φ:Prop→Prop) (a:Ax P Sf T)
  | nil
  | pass (a:Ax P Sf T)
  | br (g:Nat) (c:Bool) (x y:Ax P Sf T)
  | el (f:Nat) {α:Type} (v:α→AV) (l:List α) (Q:(α→Prop)→Prop) (k:α→Ax P Sf T)
  | elA (f:Nat) {α:Type} (v:α→List AV) (l:List α) (i n:Nat) (hv:∀x,(v x).length=n) (Q:(α→Prop)→Prop) (k:α→Ax P Sf T)
  | st (f:Nat) {α:Type} (v:α→AV) (l:List α) (g:α→α) (Q:(α→Prop)→Prop) (k:α→Ax P Sf T)
  | stI (f:Nat) {α:Type} (v:α→AV) (l:List α) (Q:(α→Prop)→Prop) (k:α→Ax P Sf T)
  | app (f:Nat) {α:Type} (v:α→AV) (l xs:List α) (a:Ax P Sf T)
  | appF (f:Nat) {α:Type} (v:α→AV) (l xs:List α) (a:Ax P Sf T)
  | sub (f:Nat) {α:Type} (v:α→AV) (l:List α) (fl:Bool) (a:Ax P Sf T)
  | rep (f:Nat) {α:Type} (v:α→AV) (x:α) (a:Ax P Sf T)
  | own (f:Nat) (a:Ax P Sf T)
  | mn (f:Nat) (q:MN) (a:Ax P Sf T)
  | req (f:Nat) (p:Prop) (k:p→Ax P Sf T)
  | callP (c:PC P) (a:Ax P Sf T)
  | callH (bs:List Nat) (c:HC P) (f:Nat) (a:Ax P Sf T)
  | callA (c:PC P) (h:cI c.args) (a:Ax P Sf T)
  | cmd (c:Cmd) (a:Ax P Sf T)
  | cmdL (c:Cmd) (a:Ax P Sf T)
  | wait (a:Ax P Sf T)
  | loop (j:Nat) (nf:Sf j→NF) (I:Sf j→Prop) (mu:Sf j→Nat) (s0:Sf j) (bs:List Nat) (body:Sf j→(Sf j→List Nat→Prop)→Ax P Sf T)
  | join (j:Nat) (nf:Sf j→NF) (I:Sf j→Prop) (a:(Sf j→List Nat→Prop)→Ax P Sf T) (body:Sf j→Ax P Sf T)
  | join2 (j:Nat) (nf:Sf j→NF) (I:Sf j→Prop) (a:(Sf j→List Nat→Prop)→Ax P Sf T) (body:Sf j→Ax P Sf T)
  | bk (j:Nat) (b:Sf j→List Nat→Prop) (t:Sf j) (bs:List Nat)
  | hand (k0:Nat) (cs:List Cmd) (m1:NF) (bs:List Nat) (s2:S3) (c:AC) (h:∀n,gA P k0 n c m1.st s2) (a:Ax P Sf T)
  | hand2 (k0:Nat) (s1 s2:S3) (c:AC) (h:∀n,gA P k0 n c s1 s2) (a:Ax P Sf T)
  | allB (c:Bool→Prop) (k:Bool→Ax P Sf T)
  | unr (n:Nat) (a:Ax P Sf T)
  | ret (r:T)
  | retH (r:T) (m:NF) (bs:List Nat)
section
variable {P : Program} {Sf : Nat → Type} {T : Type}
def Ax.an:Ax P Sf T→An P Sf T
 | .say _ a=>a.an
 | .nil=>.nil
 | .pass a=>.pass a.an
 | .br g _ x y=>.br g x.an y.an
 | .el f v l _ k=>.el f v l λx=>(k x).an
 | .elA f v l i n hv _ k=>.elA f v l i n hv λx=>(k x).an
 | .st f v l g _ k=>.st f v l g λx=>(k x).an
 | .stI f v l _ k=>.stI f v l λx=>(k x).an
 | .app f v l xs a=>.app f v l xs a.an
 | .appF f v l xs a=>.appF f v l xs a.an
 | .sub f v l fl a=>.sub f v l fl a.an
 | .rep f v x a=>.rep f v x a.an
 | .own f a=>.own f a.an
 | .mn f q a=>.mn f q a.an
 | .req f p k=>.req f p λh=>(k h).an
 | .callP c a=>.callP c a.an
 | .callH bs c _ a=>.callH bs c a.an
 | .callA c h a=>.callA c h a.an
 | .cmd c a=>.cmd c a.an
 | .cmdL c a=>.cmdL c a.an
 | .wait a=>.wait a.an
 | .loop j nf I mu s0 bs body=>.loop j nf I mu s0 bs λt=>(body t λ_ _=>True).an
 | .join j nf I a body=>.join j nf I (a λ_ _=>True).an λt=>(body t).an
 | .join2 j nf I a body=>.join2 j nf I (a λ_ _=>True).an λt=>(body t).an
 | .bk j _ t bs=>.back j t bs
 | .hand k0 cs m1 bs s2 c h a=>.hand k0 cs m1 bs s2 c h a.an
 | .hand2 k0 s1 s2 c h a=>.hand2 k0 s1 s2 c h a.an
 | .allB _ k=>(k true).an
 | .unr n a=>.unr n a.an
 | .ret r=>.ret r
 | .retH r m bs=>.retH r m bs
def Ax.vc(e:T→AV)(b:T→List (Option Blk))(r0:T):Ax P Sf T→Prop
 | .say φ a=>φ (a.vc e b r0)
 | .nil=>True
 | .pass a=>a.vc e b r0
 | .br _ c x y=>Go.Am.br c (x.vc e b r0) (y.vc e b r0)
 | .el _ _ _ Q k=>Q λx=>(k x).vc e b r0
 | .elA _ _ _ _ _ _ Q k=>Q λx=>(k x).vc e b r0
 | .st _ _ _ _ Q k=>Q λx=>(k x).vc e b r0
 | .stI _ _ _ Q k=>Q λx=>(k x).vc e b r0
 | .app _ _ _ _ a=>a.vc e b r0
 | .appF _ _ _ _ a=>a.vc e b r0
 | .sub _ _ _ _ a=>a.vc e b r0
 | .rep _ _ _ a=>a.vc e b r0
 | .own _ a=>a.vc e b r0
 | .mn _ q a=>q.say (a.vc e b r0)
 | .req _ p k=>∃h:p,(k h).vc e b r0
 | .callP c a=>Cl c (a.vc e b r0)
 | .callH bs c f a=>Ch c bs f (a.vc e b r0)
 | .callA c _ a=>Cl c (a.vc e b r0)
 | .cmd _ a=>a.vc e b r0
 | .cmdL _ a=>a.vc e b r0
 | .wait a=>a.vc e b r0
 | .loop _ nf I mu s0 bs body=>Be nf bs I s0∧∀t,I t→(body t λx bs=>Bk nf bs I mu x t).vc e b r0
 | .join _ nf I a body=>(a λx bs=>Be nf bs I x).vc e b r0∧∀t,I t→(body t).vc e b r0
 | .join2 _ nf I a body=>(a λx bs=>Be nf bs I x).vc e b r0∧∀t,I t→(body t).vc e b r0
 | .bk _ b t bs=>b t bs
 | .hand _ _ m1 bs _ c _ a=>Nf m1 bs (Rf c (a.vc e b r0))
 | .hand2 _ s1 _ c _ a=>Rf s1 (Rf c (a.vc e b r0))
 | .allB c k=>∀x,c x→(k x).vc e b r0
 | .unr _ a=>a.vc e b r0
 | .ret r=>Rp e r r0
 | .retH r m bs=>Qt m bs e b r r0
def Ax.vp(e:T→AV)(r0:T)(x:Ax P Sf T):Prop:=x.vc e (λ_=>[]) r0
end
@[reducible] def noS:Nat→Type:=λ_=>Unit
end Go.Am
namespace Go.Proofs.YthhpaedpnjdnbaaGreatDoor
open Go Go.Am
structure Flt where
  mode:Int
  srcs:List Int
  deriving DecidableEq
structure Tap where
  L:List Int
  p:Nat
structure Dh where
  L:List Int
  p:Int
def Flt.v(x:Flt):AV:=.agg [.int x.mode,.sl 1 (x.srcs.map AV.int) false]
def Tap.v(x:Tap):AV:=.agg [.sl 1 (x.L.map AV.int) false,.int x.p]
@[simp] theorem AK (l:List Int):cf (l.map AV.int)=true:=ab (λ_=>rfl) l
def Mod(x n:Int):Int:=if n<1 then 0 else if x.tmod n<0 then x.tmod n+n else x.tmod n
theorem bg{x n:Int}(h:1≤n):0≤Mod x n∧Mod x n<n:=by
 have hb:=Int.tmod_lt_of_pos x (show 0<n by omega)
 have hb':=Int.lt_tmod_of_pos x (show 0<n by omega)
 unfold Mod;split
 ·omega
 split<;>omega
def Tz(x:Int)(n:Int):=okL [.int x,.int n]
def O7(r:Int):AV:=.int r
def O5(x:Int)(n:Int):Ax Tryz.prog noS (Int):=
 (.br 48 (decide (n<1)) (.ret (0))
(.say (ck (!(n==0))) (.br 144 (decide ((x.tmod n)<0)) (.ret (W ((x.tmod n)+n)))
(.ret (x.tmod n)))))
def O6(x:Int)(n:Int)(r0:Int):=(O5 x n).vp O7 r0
theorem Mod_p(x n:Int)(ok:Tz x n):O6 x n (Mod x n):=by
 simp only[Tz,okU,Blk.ok,aK,List.length_map]at ok
 dsimp only[O6,O5,noS,Ax.vp,Ax.vc];simp only[vcU,rfU,List.length_map]
 refine⟨λh=>by rw[Mod,if_pos h],λh=>⟨by simp;omega,λh2=>?_,λh2=>by rw[Mod,if_neg h,if_neg h2]⟩⟩
 have hb:=Int.tmod_lt_of_pos x (show 0<n by omega)
 have hb':=Int.lt_tmod_of_pos x (show 0<n by omega)
 rw[Mod,if_neg h,if_pos h2,bB (by omega)]
def Mod_c(x:Int)(n:Int):PC Tryz.prog:=⟨41,[.k,.k],[.int x,.int n],O7 (Mod x n),ao.of_ok λok=>aj (sh:=.k) (enc:=O7) (a:=(O5 x n).an) (Mod_p x n ok) (by kernel_rfl) (AV.pureB_ok rfl),ai (by kernel_rfl)⟩
def ag(L:List Int)(p:Nat):Nat:=if L.length≤p then p else p+1
def al(L:List Int)(p:Nat):Int:=L.getD p 0
def Tw(L:List Int)(p:Int):=okL [.ref 0 0]∧(.box (.agg [.sl 1 (L.map AV.int) false,.int p]):Blk).ok
def Tv(r:Dh×Int):AV:=.int r.2
def Oz(r:Dh×Int):List (Option Blk):=[some (.box (.agg [.sl 1 (r.1.L.map AV.int) false,.int r.1.p]))]
def Ox(L:List Int)(p:Int):Ax Tryz.prog noS (Dh×Int):=
 (.br 177 (decide (((L.map AV.int).length:Int)≤p)) (.retH ((⟨L,p⟩:Dh),0) ⟨[(2,.k,.int 0)],[.box (.agg [.sl 1 (L.map AV.int) false,.int p])]⟩ [0])
(.el 449 AV.int L (λR=>Rf (L.map AV.int) (ck (decide (0≤(W ((W (p+1))-1)))) (ck (decide ((W ((W (p+1))-1))<(L.length:Int)))
(∀x1,L[(W ((W (p+1))-1)).toNat]?=some x1 →
(R x1))))) λx1 =>
(.retH ((⟨L,W (p+1)⟩:Dh),x1) ⟨[(2,.k,.int x1)],[.box (.agg [.sl 1 (L.map AV.int) false,.int (W (p+1))])]⟩ [0])))
def Di(L:List Int)(p:Int)(r0:Dh×Int):=(Ox L p).vc Tv Oz r0
theorem Xv(L:List Int)(p:Int)(r0:Dh×Int)(h:Di L p r0):bl Tryz.prog 42 [.ref 0 0] [.box (.agg [.sl 1 (L.map AV.int) false,.int p])] (Tv r0) (Oz r0):=cC (sh:=.k) (hB:=Oz) (a:=(Ox L p).an) h (by kernel_rfl)
theorem Raw_p(L:List Int)(p:Nat)(ok:Tw L p):Di L p (⟨L,ag L p⟩,al L p):=by
 simp only[Tw,okU,Blk.ok,aK,List.length_map]at ok
 dsimp only[Di,Ox,noS,Ax.vp,Ax.vc];simp only[vcU,rfU,List.length_map]
 refine⟨λh=>?_,λh=>?_⟩
 ·rw[ag,if_pos (by omega)];simp[al,List.getElem?_eq_none (show L.length≤p by omega)]
 ·have e1:W ((p:Int)+1)=p+1:=bB (by omega)
  have e2:W ((p:Int)+1-1)=p:=by rw[bB (by omega)];omega
  rw[e1,e2]
  refine⟨by omega,by omega,λx hx=>?_⟩
  rw[Int.toNat_natCast]at hx
  rw[ag,if_neg (by omega)];simp[al,hx]
theorem Oy(L:List Int)(p:Nat):bl Tryz.prog 42 [.ref 0 0] [.box (Tap.v ⟨L,p⟩)] (.int (al L p)) [some (.box (Tap.v ⟨L,ag L p⟩))]:=
 bl.of_okh λok ok2=>Xv L p _ (Raw_p L p ⟨ok,ok2 _ (List.mem_singleton.mpr rfl)⟩)
def Raw_h(L:List Int)(p:Nat):HC Tryz.prog:=⟨42,[],[.ref 0 0],[.box (Tap.v ⟨L,p⟩)],.int (al L p),[some (.box (Tap.v ⟨L,ag L p⟩))],Oy L p,ai (by kernel_rfl),fk.of rfl⟩
def N_a(L:List Int)(p:Nat)(n:Int):=okL [.ref 0 0,.int n]∧(.box (.agg [.sl 1 (L.map AV.int) false,.int p]):Blk).ok
def N_e(r:Tap×Int):AV:=.int r.2
def N_b(r:Tap×Int):List (Option Blk):=[some (.box (.agg [.sl 1 (r.1.L.map AV.int) false,.int r.1.p]))]
def N_x(L:List Int)(p:Nat)(n:Int):Ax Tryz.prog noS (Tap×Int):=
 (.callH [0] (Raw_h L p) 33
(.callP (Mod_c (al L p) n)
(.retH ((⟨L,ag L p⟩:Tap),Mod (al L p) n) ⟨[(4,.k,.int (Mod (al L p) n))],[.box (.agg [.sl 1 (L.map AV.int) false,.int (ag L p)])]⟩ [0])))
def N_vc(L:List Int)(p:Nat)(n:Int)(r0:Tap×Int):=(N_x L p n).vc N_e N_b r0
theorem N_p(L:List Int)(p:Nat)(n:Int)(ok:N_a L p n):N_vc L p n (⟨L,ag L p⟩,Mod (al L p) n):=by
 dsimp only[N_vc,N_x,noS,Ax.vp,Ax.vc];simp only[vcU,rfU,List.length_map]
def N_h(L:List Int)(p:Nat)(n:Int):HC Tryz.prog:=⟨10,[.k,.k],[.ref 0 0,.int n],[.box (.agg [.sl 1 (L.map AV.int) false,.int p])],N_e ((⟨L,ag L p⟩,Mod (al L p) n):Tap×Int),N_b ((⟨L,ag L p⟩,Mod (al L p) n):Tap×Int),bl.of_okh λok ok2=>have ok:N_a L p n:=⟨ok,ok2 _ (by simp)⟩;cC (sh:=.k) (enc:=N_e) (hB:=N_b) (a:=(N_x L p n).an) (N_p L p n ok) (by kernel_rfl),ai (by kernel_rfl),fk.of (by simp[hcB,cJ,AV.belB,allB,eI,dQ,N_e,N_b,ab (v:=AV.int) (λ_=>rfl)])⟩
def rng(L:List Int)(p:Nat)(lo hi:Int):Int:=W (lo+Mod (al L p) (W (W (hi-lo)+1)))
def Gn(L:List Int)(p:Nat)(lo:Int)(hi:Int):=okL [.ref 0 0,.int lo,.int hi]∧(.box (.agg [.sl 1 (L.map AV.int) false,.int p]):Blk).ok
def nl(r:Tap×Int):AV:=.int r.2
def nm(r:Tap×Int):List (Option Blk):=[some (.box (.agg [.sl 1 (r.1.L.map AV.int) false,.int r.1.p]))]
def v8(L:List Int)(p:Nat)(lo:Int)(hi:Int):Ax Tryz.prog noS (Tap×Int):=
 (.callH [0] (N_h L p (W ((W (hi-lo))+1))) 113
(.retH ((⟨L,ag L p⟩:Tap),W (lo+(Mod (al L p) (W ((W (hi-lo))+1))))) ⟨[(6,.k,.int (W (lo+(Mod (al L p) (W ((W (hi-lo))+1))))))],[.box (.agg [.sl 1 (L.map AV.int) false,.int (ag L p)])]⟩ [0]))
def zp(L:List Int)(p:Nat)(lo:Int)(hi:Int)(r0:Tap×Int):=(v8 L p lo hi).vc nl nm r0
theorem SX(L:List Int)(p:Nat)(lo hi:Int)(ok:Gn L p lo hi):zp L p lo hi (⟨L,ag L p⟩,rng L p lo hi):=by
 dsimp only[zp,v8,noS,Ax.vp,Ax.vc];simp only[vcU,rfU,List.length_map]
 rfl
def da(L:List Int)(p:Nat)(lo:Int)(hi:Int):HC Tryz.prog:=⟨11,[.k,.k,.k],[.ref 0 0,.int lo,.int hi],[.box (.agg [.sl 1 (L.map AV.int) false,.int p])],nl ((⟨L,ag L p⟩,rng L p lo hi):Tap×Int),nm ((⟨L,ag L p⟩,rng L p lo hi):Tap×Int),bl.of_okh λok ok2=>have ok:Gn L p lo hi:=⟨ok,ok2 _ (by simp)⟩;cC (sh:=.k) (enc:=nl) (hB:=nm) (a:=(v8 L p lo hi).an) (SX L p lo hi ok) (by kernel_rfl),ai (by kernel_rfl),fk.of (by simp[hcB,cJ,AV.belB,allB,eI,dQ,nl,nm,ab (v:=AV.int) (λ_=>rfl)])⟩
def au(l:List Int)(r:Int):Int:=l.getD (Mod r l.length).toNat 0
def O0(L:List Int)(p:Nat)(l:List Int):=okL [.ref 0 0,.sl 1 (l.map AV.int) false]∧(.box (.agg [.sl 1 (L.map AV.int) false,.int p]):Blk).ok
def vA(r:Tap×Int):AV:=.int r.2
def vB(r:Tap×Int):List (Option Blk):=[some (.box (.agg [.sl 1 (r.1.L.map AV.int) false,.int r.1.p]))]
def Dj(L:List Int)(p:Nat)(l:List Int):Ax Tryz.prog noS (Tap×Int):=
 (.callH [0] (N_h L p ((l.map AV.int).length:Int)) 81
(.el 97 AV.int l (λR=>Rf (l.map AV.int) (ck (decide (0≤(Mod (al L p) ((l.map AV.int).length:Int)))) (ck (decide ((Mod (al L p) ((l.map AV.int).length:Int))<(l.length:Int)))
(∀x1,l[(Mod (al L p) ((l.map AV.int).length:Int)).toNat]?=some x1 →
(R x1))))) λx1 =>
(.retH ((⟨L,ag L p⟩:Tap),x1) ⟨[(4,.k,.int x1)],[.box (.agg [.sl 1 (L.map AV.int) false,.int (ag L p)])]⟩ [0])))
def Gp(L:List Int)(p:Nat)(l:List Int)(r0:Tap×Int):=(Dj L p l).vc vA vB r0
theorem Xx(L:List Int)(p:Nat)(l:List Int)(hl:l≠[])(ok:O0 L p l):Gp L p l (⟨L,ag L p⟩,au l (al L p)):=by
 have hl:0<l.length:=List.length_pos_iff.mpr hl
 have hm:=bg (x:=al L p) (show 1≤(l.length:Int) by omega)
 dsimp only[Gp,Dj,noS,Ax.vp,Ax.vc];simp only[vcU,rfU,List.length_map]
 refine⟨by omega,by omega,λx hx=>?_⟩
 rw[au,List.getD_eq_getElem?_getD,hx];rfl
def dH(L:List Int)(p:Nat)(l:List Int)(hl:l≠[]):HC Tryz.prog:=⟨36,[.k,(.s 1)],[.ref 0 0,.sl 1 (l.map AV.int) false],[.box (.agg [.sl 1 (L.map AV.int) false,.int p])],vA ((⟨L,ag L p⟩,au l (al L p)):Tap×Int),vB ((⟨L,ag L p⟩,au l (al L p)):Tap×Int),bl.of_okh λok ok2=>have ok:O0 L p l:=⟨ok,ok2 _ (by simp)⟩;cC (sh:=.k) (enc:=vA) (hB:=vB) (a:=(Dj L p l).an) (Xx L p l hl ok) (by kernel_rfl),ai (by kernel_rfl),fk.of (by simp[hcB,cJ,AV.belB,allB,eI,dQ,vA,vB,ab (v:=AV.int) (λ_=>rfl)])⟩
def Ty(t:List Int):=okL [.sl 1 (t.map AV.int) false]
def Gs(r:Tap):AV:=.ref 0 0
def Gt(r:Tap):List (Option Blk):=[some (.box (.agg [.sl 1 (r.L.map AV.int) false,.int r.p]))]
def O3(t:List Int):Ax Tryz.prog noS (Tap):=
 (.say (λR=>Rf (α:=List AV) (t.map AV.int) (ck (c9 t.length 0 (dR ((t.map AV.int).length:Int) 2000) (t.length:Int))
R)) (.sub 80 AV.int t false
(.retH (⟨(t.take ((dR ((t.map AV.int).length:Int) 2000).toNat)).drop 0,0⟩:Tap) ⟨[(2,.k,.ref 0 0)],[.box (.agg [.sl 1 (((t.take ((dR ((t.map AV.int).length:Int) 2000).toNat)).drop 0).map AV.int) false,.int 0])]⟩ [112])))
def O4(t:List Int)(r0:Tap):=(O3 t).vc Gs Gt r0
theorem New_p(t:List Int)(ok:Ty t):O4 t ⟨t.take 2000,0⟩:=by
 simp only[Ty,okU,Blk.ok,aK,List.length_map]at ok
 dsimp only[O4,O3,noS,Ax.vp,Ax.vc];simp only[vcU,rfU,List.length_map]
 have hm:dR (t.length:Int) 2000=((min t.length 2000:Nat):Int):=by unfold dR;split<;>omega
 rw[hm]
 refine⟨by simp[c9];omega,?_⟩
 rw[Int.toNat_natCast,List.drop_zero]
 congr 1
 rcases Nat.le_total t.length 2000 with h|h
 ·rw[Nat.min_eq_left h,List.take_of_length_le (Nat.le_refl _),List.take_of_length_le h]
 ·rw[Nat.min_eq_right h]
def New_h(t:List Int):HC Tryz.prog:=⟨6,[(.s 1)],[.sl 1 (t.map AV.int) false],[],Gs (⟨t.take 2000,0⟩:Tap),Gt (⟨t.take 2000,0⟩:Tap),bl.of_okh λok _=>cC (sh:=.k) (enc:=Gs) (hB:=Gt) (a:=(O3 t).an) (New_p t ok) (by kernel_rfl),ai (by kernel_rfl),fk.of (by simp[hcB,cJ,AV.belB,allB,eI,dQ,Gs,Gt,ab (v:=AV.int) (λ_=>rfl)])⟩
end Go.Proofs.YthhpaedpnjdnbaaGreatDoor
