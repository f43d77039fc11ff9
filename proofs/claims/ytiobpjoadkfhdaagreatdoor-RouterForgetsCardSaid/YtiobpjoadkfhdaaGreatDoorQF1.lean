/- Texts joined: AmA. -/
import Derived.WalkKit
import Derived.LoadGo2
import Derived.Deep.AppendSrc
import Derived.Lib.AppendZerosOnto
import Derived.Lib.SliceRun
import Derived.MapKept
import Derived.Lib.LaidTab
import Derived.Lib.ItoaNum
import Derived.Lib.TrailingZeros
import Derived.Scope
import Derived.Maps.RangeRun
namespace Go
set_option linter.defProp false
def f':=@List.length_map
def u':=@if_neg
def E':=@List.getElem?_eq_getElem
def F':=@And.intro
def G':=@List.take_of_length_le
def H':=@of_decide_eq_true
def I':=@List.getElem?_eq_some_iff
def J':=@List.getD_eq_getElem?_getD
def L':=@List.mem_append
def M':=@Nat.eq_of_beq_eq_true
def O':=@List.mem_singleton
def P':=@List.mem_cons
def R':=@List.mem_map
def S':=@List.getElem?_map
def T':=@List.mem_of_mem_take
def U':=@Nat.le_of_ble_eq_true
def V':=@Nat.le_refl
def X':=@Classical.not_not
def Y':=@List.length_append
def Z':=@List.length_cons
def aa':=@List.length_take
def ab':=@of_decide_eq_false
def ac':=@List.pairwise_iff_getElem
def ad':=@List.getElem_of_mem
def ae':=@Nat.mul_le_mul_right
def af':=@Classical.byContradiction
def ag':=@List.pairwise_append
def ah':=@Option.map_some
def ai':=@Int.le_refl
def aj':=@List.take_length
def ak':=@List.mem_of_mem_drop
def al':=@List.mem_of_getElem?
def am':=@List.getElem?_take
def an':=@List.pairwise_cons
def ao':=@Option.some.inj
def ap':=@List.flatMap_cons
def aq':=@List.not_mem_nil
def ar':=@List.drop_eq_getElem_cons
def as':=@Int.toNat_of_nonneg
def at':=@List.pairwise_map
def au':=@List.map_cons
def av':=@List.getElem?_eq_none
def aw':=@Option.map_eq_some_iff
def ax':=@List.foldl_cons
def ay':=@List.getElem_mem
def az':=@List.append_nil
def aA':=@List.mem_filter
def aB':=@Nat.zero_add
def aC':=@List.length_nil
def aD':=@List.eq_of_mem_replicate
def aE':=@List.map_congr_left
def aF':=@Nat.le_trans
def aG':=@List.eq_nil_of_length_eq_zero
def aH':=@List.pairwise_singleton
def aI':=@List.drop_of_length_le
def aJ':=@Bool.and_eq_true
def aK':=@Option.some.injEq
def aL':=@List.find?_eq_none
def aM':=@decide_eq_true_iff
def aN':=@List.getElem?_replicate
def aO':=@Nat.min_eq_left
def aP':=@List.filter_append
def aQ':=@List.mem_iff_getElem?
def aR':=@Nat.add_mul
def aS':=@Nat.zero_le
def aT':=@List.mem_map_of_mem
def aU':=@List.getElem?_append_right
def aV':=@List.map_map
def aW':=@List.foldl_append
def aX':=@Array.getElem?_eq_getElem
def aY':=@List.forall_mem_cons
def aZ':=@List.mem_range
def ba':=@List.all_eq_true
def bb':=@Array.getElem?_eq_some_iff
def bc':=@List.getElem_set
def bd':=@List.ext_getElem
def be':=@Bool.not_eq_true'
def bf':=@List.drop_zero
def bg':=@List.take_append_drop
def bh':=@List.length_filter_le
def bi':=@List.getElem?_drop
def bj':=@Nat.lt_of_lt_of_le
def bk':=@Bool.false_eq_true
def bl':=@List.mem_iff_getElem
def bm':=@List.map_set
def bn':=@List.drop_eq_nil_of_le
def bo':=@List.append_assoc
def bp':=@List.mem_or_eq_of_mem_set
def bq':=@List.nodup_cons
def br':=@List.mem_of_find?_eq_some
def bt':=@Option.isSome_iff_exists
def bu':=@Nat.add_sub_cancel
def bv':=@List.length_drop
def bw':=@Int.eq_ofNat_of_zero_le
def bx':=@Option.bind_eq_some_iff
def by':=@List.ext_getElem?
def bz':=@List.getElem_take
def bA':=@List.nil_append
def bB':=@Array.getD_eq_getD_getElem?
def bC':=@Array.length_toList
def bD':=@List.filter_eq_self
def bE':=@Nat.add_zero
def bF':=@List.findIdx_le_length
def bG':=@List.findIdx?_eq_some_iff_getElem
def bH':=@Nat.add_assoc
def bI':=@List.filter_cons
def bJ':=@List.set_append_right
def bK':=@List.mem_take_iff_getElem
def bL':=@Array.getElem?_setIfInBounds_ne
def bM':=@List.mem_cons_of_mem
def bN':=@List.getElem?_set
def bO':=@List.length_eq_zero_iff
def bP':=@List.flatMap_append
def bQ':=@List.mem_flatMap
def bR':=@List.not_of_lt_findIdx
def bS':=@List.filter_eq_nil_iff
def bT':=@Bool.not_eq_false'
def bU':=@Bool.or_eq_true
def bV':=@Array.getElem?_append_left
def bW':=@List.getElem?_append_left
def bX':=@Array.ext'
def bY':=@beq_iff_eq
def bZ':=@List.findIdx_getElem
def ca':=@List.findIdx?_eq_none_iff
def cb':=@List.set_eq_take_append_cons_drop
def cc':=@List.map_nil
def cd':=@Option.getD_some
def ce':=@Nat.sub_self
def cf':=@List.map_take
def cg':=@List.map_replicate
def ch':=@List.find?_eq_some_iff_getElem
def ci':=@List.find?_some
def cj':=@Bool.eq_iff_iff
def ck':=@List.drop_sublist
def cl':=@List.take_sublist
def cm':=@Nat.lt_trichotomy
def cn':=@Nat.lt_or_ge
def co':=@Int.ofNat_eq_natCast
def cp':=@List.getElem_map
def cq':=@Nat.min_eq_right
def cr':=@List.map_id''
def ct':=@List.replicate_zero
def cu':=@List.length_pos_iff
def cv':=@List.mergeSort_perm
end Go
set_option linter.unusedVariables false
set_option linter.unusedSimpArgs false
set_option linter.unusedSectionVars false
namespace Go.Am
inductive MK where
  | n (i:Int)
  | c (l:List Int)
  deriving DecidableEq
def MK.v:MK→Value
 | .n i=>.int .i64 i
 | .c l=>.agg (l.map (Value.int .i64)).toArray
def MK.fits:Option Nat→MK→Prop
 | none,.n _=>True
 | some k,.c l=>l.length=k
 | _,_=>False
inductive AV where
  | val (v:Value)
  | agg (cs:List AV)
  | tup (vs:List AV)
  | func (f:FuncId) (caps:List AV)
  | ref (b off:Nat)
  | eref (b i off:Nat)
  | rptr (x:AV) (off:Nat)
  | vec (b:Nat)
  | vsub (b lo len:Nat)
  | asub (b off len k:Nat)
  | sl (k:Nat) (es:List AV) (full:Bool)
  | mref (b:Nat)
  | mp (kk:Option Nat) (ks:List MK) (vs:List AV)
  | unk
  deriving Inhabited
def AV.cells:AV→List AV
 | .agg cs=>cs
 | v=>[v]
def AV.solid:AV→Bool
 | .unk|.tup _=>false
 | _=>true
def AV.isAgg:AV→Bool
 | .agg _=>true
 | _=>false
abbrev AV.int(n:Int):AV:=.val (.int .i64 n)
abbrev AV.bool(b:Bool):AV:=.val (.bool b)
abbrev AV.str(s:ByteArray):AV:=.val (.string s)
def inK(k:IntKind)(n:Int):Prop:=k.min≤n∧n≤k.max
def aU:Value→Prop
 | .bool _=>True
 | .int k n=>inK k n
 | .string s=>s.size≤maxLen
 | .pointer none=>True
 | .nilFunc=>True
 | .nilIface=>True
 | .float _ _=>True
 | .map none=>True
 | .iface _ (.int k n)=>inK k n
 | .iface _ (.string s)=>s.size≤maxLen
 | .iface _ (.bool _)=>True
 | _=>False
structure Hd where
  emp:Option (Option Addr)
  blk:Nat
  k:Nat
  len:Nat
  cap:Nat
def Hd.val(h:Hd):Value:=match h.emp with
 | some a=>.slice a 0 0
 | none=>.slice (some ⟨h.blk,0,none⟩) h.len h.cap
theorem Hd.val_slice(h:Hd):∃a n c,h.val=.slice a n c:=by unfold Hd.val;split<;>exact⟨_,_,_,rfl⟩
abbrev Mu:=Nat→Option Hd
def dC:Mu:=λ_=>none
def cq(v:Value):Prop:=∀c∈v.cells.toList,c.oneCell'=true
def co(kk:Option Nat)(ks:List MK)(ents:Array MapEntry)(clock:Nat):Prop:=
 ents.toList.map (·.key)=ks.map MK.v∧(∀q∈ks,q.fits kk)∧MapKept.Stamped ents clock
mutual
def RV(w:World)(A:Nat→Prop):AV→Mu→Value→Prop
  | .val x,_,cv=>cv=x∧aU x
  | .agg cs,μ,cv=>∃vs:List Value,cv=.agg vs.toArray∧RVL w A cs μ vs∧∀v∈vs,v.oneCell'=true
  | .tup xs,μ,cv=>∃vs:List Value,cv=.tuple vs.toArray∧RVL w A xs μ vs
  | .func f caps,μ,cv=>∃vs:List Value,cv=.func (.func f) #[] vs.toArray∧RVL w A caps μ vs
  | .ref b off,μ,cv=>∃hd,μ b=some hd∧hd.emp=none∧cv=.pointer (some ⟨hd.blk,off,none⟩)
  | .eref b i off,μ,cv=>∃hd,μ b=some hd∧hd.emp=none∧cv=.pointer (some ⟨hd.blk,i * hd.k+off,none⟩)
  | .rptr x off,_,cv=>∃blk o v,cv=.pointer (some ⟨blk,o+off,none⟩)∧A blk∧RV w A x dC v∧cq v ∧
      ∀p u,v.cells[p]?=some u→w.cell? ⟨blk,o+p,none⟩=some u
  | .vec b,μ,cv=>∃hd,μ b=some hd∧cv=hd.val
  | .vsub b lo len,μ,cv=>∃hd cap o,μ b=some hd∧hd.emp=none∧len≤cap∧(0<cap→o=lo * hd.k)∧cap+lo=hd.cap∧cv=.slice (some ⟨hd.blk,o,none⟩) len cap
  | .asub b off len k,μ,cv=>∃hd cap o,μ b=some hd∧hd.emp=none∧len≤cap∧(0<len→o=off)∧cv=.slice (some ⟨hd.blk,o,none⟩) len cap
  | .sl k es full,_,cv=>(es=[]∧∃a:Option Addr,cv=.slice a 0 0) ∨
      ∃blk off cap vs,cv=.slice (some ⟨blk,off,none⟩) es.length cap∧A blk∧es.length≤cap∧cap≤maxLen∧(full=true→cap=es.length) ∧
        RVL w A es dC vs∧(∀v∈vs,v.cells.size=k∧cq v)∧(∀p u,(vs.flatMap (·.cells.toList))[p]?=some u→w.cell? ⟨blk,off+p,none⟩=some u)∧∀x∈es,x.solid=true
  | .mref b,μ,cv=>∃hd,μ b=some hd∧hd.emp=none∧cv=.map (some hd.blk)
  | .mp kk ks vs,_,cv=>∃blk ents clock,cv=.map (some blk)∧A blk∧w.heap[blk]?=some (.map ents clock)∧co kk ks ents clock ∧
      RVL w A vs dC (ents.toList.map (·.val))∧∀x∈vs,x.solid=true
  | .unk,_,_=>True
def RVL(w:World)(A:Nat→Prop):List AV→Mu→List Value→Prop
  | [],_,vs=>vs=[]
  | x::xs,μ,vs=>∃v vs',vs=v::vs'∧RV w A x μ v∧RVL w A xs μ vs'
end
def cJ(A:Nat→Prop)(w w':World):Prop:=∀b,A b→w'.heap[b]?=w.heap[b]?
theorem cJ.cell{A:Nat→Prop}{w w':World}(h:cJ A w w'){b o:Nat}(hb:A b):w'.cell? ⟨b,o,none⟩=w.cell? ⟨b,o,none⟩:=
 World.cell?_of_block (h b hb)
def bp(μ μ':Mu):Prop:=∀b hd,μ b=some hd→μ' b=some hd
theorem bp.refl(μ:Mu):bp μ μ:=λ_ _ h=>h
theorem bp.trans{a b c:Mu}(h:bp a b)(k:bp b c):bp a c:=λx hd e=>k _ _ (h _ _ e)
section
variable {w w' : World} {A A' : Nat → Prop}
mutual
theorem RV.mono(hs:cJ A w w')(hA:∀b,A b→A' b):∀(x:AV) {μ μ':Mu} (hμ:bp μ μ') {cv:Value},RV w A x μ cv→RV w' A' x μ' cv
  | .val _,_,_,_,_,h=>h
  | .agg cs,_,_,hμ,_,⟨vs,h1,h2,h3⟩=>⟨vs,h1,RVL.mono hs hA cs hμ h2,h3⟩
  | .tup xs,_,_,hμ,_,⟨vs,h1,h2⟩=>⟨vs,h1,RVL.mono hs hA xs hμ h2⟩
  | .func f caps,_,_,hμ,_,⟨vs,h1,h2⟩=>⟨vs,h1,RVL.mono hs hA caps hμ h2⟩
  | .ref b off,_,_,hμ,_,⟨hd,h1,h2,h3⟩=>⟨hd,hμ _ _ h1,h2,h3⟩
  | .eref b i off,_,_,hμ,_,⟨hd,h1,h2,h3⟩=>⟨hd,hμ _ _ h1,h2,h3⟩
  | .rptr x off,_,_,_,_,⟨blk,o,v,h1,h2,h3,h4,h5⟩ =>
      ⟨blk,o,v,h1,hA _ h2,RV.mono hs hA x (bp.refl _) h3,h4,λp u hu=>by rw[hs.cell h2];exact h5 p u hu⟩
  | .vec b,_,_,hμ,_,⟨hd,h1,h2⟩=>⟨hd,hμ _ _ h1,h2⟩
  | .vsub b lo len,_,_,hμ,_,⟨hd,cap,o,h1,h2⟩=>⟨hd,cap,o,hμ _ _ h1,h2⟩
  | .asub b off len k,_,_,hμ,_,⟨hd,cap,o,h1,h2⟩=>⟨hd,cap,o,hμ _ _ h1,h2⟩
  | .sl k es full,_,_,_,_,h=>by
      rcases h with h|⟨blk,off,cap,vs,h1,h2,h3,h4,h5,h6,h7,h8,h9⟩
      · exact .inl h
      · exact .inr ⟨blk,off,cap,vs,h1,hA _ h2,h3,h4,h5,RVL.mono hs hA es (bp.refl _) h6,h7,(λp u hu=>by rw[hs.cell h2];exact h8 p u hu),h9⟩
  | .mref b,_,_,hμ,_,⟨hd,h1,h2⟩=>⟨hd,hμ _ _ h1,h2⟩
  | .mp kk ks vs,_,_,_,_,⟨blk,ents,clock,h1,h2,h3,h4,h5,h6⟩=>⟨blk,ents,clock,h1,hA _ h2,(hs blk h2).trans h3,h4,RVL.mono hs hA vs (bp.refl _) h5,h6⟩
  | .unk,_,_,_,_,_=>trivial
theorem RVL.mono(hs:cJ A w w')(hA:∀b,A b→A' b):∀(xs:List AV) {μ μ':Mu} (hμ:bp μ μ') {vs:List Value},RVL w A xs μ vs→RVL w' A' xs μ' vs
  | [],_,_,_,_,h=>h
  | x::xs,_,_,hμ,_,⟨v,vs',h1,h2,h3⟩=>⟨v,vs',h1,RV.mono hs hA x hμ h2,RVL.mono hs hA xs hμ h3⟩
end
end
mutual
/-- No part of the value leads into a block of the frame's own. -/
def AV.pure:AV→Prop
  | .val _=>True
  | .agg cs=>bU cs
  | .tup xs=>bU xs
  | .func _ caps=>bU caps
  | .ref _ _=>False
  | .eref _ _ _=>False
  | .rptr _ _=>True
  | .vec _=>False
  | .vsub _ _ _=>False
  | .asub _ _ _ _=>False
  | .sl _ _ _=>True
  | .mref _=>False
  | .mp _ _ _=>True
  | .unk=>True
def bU:List AV→Prop
  | []=>True
  | x::xs=>x.pure∧bU xs
end
section
variable {w : World} {A : Nat → Prop}
mutual
theorem RV.pure:∀{x:AV} {μ μ':Mu} {v:Value},x.pure→RV w A x μ v→RV w A x μ' v
  | .val _,_,_,_,_,h=>h
  | .agg cs,_,_,_,hp,⟨vs,h1,h2,h3⟩=>⟨vs,h1,RVL.pure hp h2,h3⟩
  | .tup xs,_,_,_,hp,⟨vs,h1,h2⟩=>⟨vs,h1,RVL.pure hp h2⟩
  | .func f caps,_,_,_,hp,⟨vs,h1,h2⟩=>⟨vs,h1,RVL.pure hp h2⟩
  | .ref _ _,_,_,_,hp,_=>hp.elim
  | .eref _ _ _,_,_,_,hp,_=>hp.elim
  | .rptr _ _,_,_,_,_,h=>h
  | .vec _,_,_,_,hp,_=>hp.elim
  | .vsub _ _ _,_,_,_,hp,_=>hp.elim
  | .asub _ _ _ _,_,_,_,hp,_=>hp.elim
  | .sl _ _ _,_,_,_,_,h=>h
  | .mref _,_,_,_,hp,_=>hp.elim
  | .mp _ _ _,_,_,_,_,h=>h
  | .unk,_,_,_,_,_=>trivial
theorem RVL.pure:∀{xs:List AV} {μ μ':Mu} {vs:List Value},bU xs→RVL w A xs μ vs→RVL w A xs μ' vs
  | [],_,_,_,_,h=>h
  | x::xs,_,_,_,hp,⟨v,vs',h1,h2,h3⟩=>⟨v,vs',h1,RV.pure hp.1 h2,RVL.pure hp.2 h3⟩
end
end
section
variable {w : World} {A : Nat → Prop} {μ : Mu}
theorem RVL.length:∀{xs:List AV} {vs:List Value},RVL w A xs μ vs→xs.length=vs.length
 | [],_,h=>by simp[RVL]at h;simp[h]
 | x::xs,_,⟨v,vs',h1,_,h3⟩=>by subst h1;simp[RVL.length h3]
theorem RVL.get:∀{xs:List AV} {vs:List Value},RVL w A xs μ vs→∀{i:Nat} {x:AV},xs[i]?=some x→∃v,vs[i]?=some v∧RV w A x μ v
 | [],_,_,i,x,h=>by simp at h
 | y::ys,_,⟨v,vs',h1,h2,h3⟩,0,x,h=>by simp at h;subst h1;subst h;exact⟨v,rfl,h2⟩
 | y::ys,_,⟨v,vs',h1,h2,h3⟩,i+1,x,h=>by subst h1;simpa using RVL.get h3 (by simpa using h)
theorem RVL.of_get:∀{xs:List AV} {vs:List Value},xs.length=vs.length→(∀(i:Nat) (x:AV) (v:Value),xs[i]?=some x→vs[i]?=some v→RV w A x μ v)→RVL w A xs μ vs
 | [],[],_,_=>rfl
 | x::xs,v::vs,hl,h=>⟨v,vs,rfl,h 0 x v rfl rfl,RVL.of_get (by simpa using hl) λi x v hx hv=>h (i+1) x v (by simpa using hx) (by simpa using hv)⟩
 | [],_::_,hl,_=>by simp at hl
 | _::_,[],hl,_=>by simp at hl
theorem RVL.get2{xs:List AV}{vs:List Value}(h:RVL w A xs μ vs){i:Nat}{x:AV}{v:Value}(hx:xs[i]?=some x)(hv:vs[i]?=some v):RV w A x μ v:=by
 obtain⟨v',h1,h2⟩:=h.get hx;rw[h1]at hv;cases hv;exact h2
theorem RVL.append:∀{xs ys:List AV} {us vs:List Value},RVL w A xs μ us→RVL w A ys μ vs→RVL w A (xs++ys) μ (us++vs)
 | [],_,_,_,h,h'=>by simp[RVL]at h;subst h;simpa using h'
 | x::xs,ys,_,_,⟨v,vs',h1,h2,h3⟩,h'=>by subst h1;exact⟨v,_,rfl,h2,RVL.append h3 h'⟩
theorem RVL.take{xs:List AV}{vs:List Value}(h:RVL w A xs μ vs)(n:Nat):RVL w A (xs.take n) μ (vs.take n):=
 RVL.of_get (by simp[h.length]) λi x v hx hv=>by
  rw[am']at hx hv;split at hx<;>simp_all;exact h.get2 hx hv
theorem RVL.drop{xs:List AV}{vs:List Value}(h:RVL w A xs μ vs)(n:Nat):RVL w A (xs.drop n) μ (vs.drop n):=
 RVL.of_get (by simp[h.length]) λi x v hx hv=>by
  rw[bi']at hx hv;exact h.get2 hx hv
theorem RVL.set{xs:List AV}{vs:List Value}(h:RVL w A xs μ vs)(n:Nat){x:AV}{v:Value}(hv:RV w A x μ v):RVL w A (xs.set n x) μ (vs.set n v):=
 RVL.of_get (by simp[h.length]) λi y u hy hu=>by
  rw[bN']at hy hu
  by_cases e:n=i
  ·simp_all
  ·simp[e]at hy hu;exact h.get2 hy hu
theorem RVL.singleton{x:AV}{v:Value}(h:RV w A x μ v):RVL w A [x] μ [v]:=⟨v,[],rfl,h,rfl⟩
theorem gV{v:Value}(h:v.oneCell'=true):v.cells=#[v]:=by cases v<;>simp_all [Value.oneCell',Value.cells]
theorem jC{v:Value}(h:v.oneCell'=true):cq v:=by
 intro c hc;rw[gV h]at hc;simp at hc;subst hc;exact h
theorem aU.one{v:Value}(h:aU v):v.oneCell'=true:=by cases v<;>simp_all [aU,Value.oneCell']
theorem RV.cells{x:AV}{cv:Value}(hs:x.solid=true)(h:RV w A x μ cv):RVL w A x.cells μ cv.cells.toList∧cq cv:=by
 have one:∀{x:AV},x.cells=[x]→cv.oneCell'=true→RV w A x μ cv→RVL w A x.cells μ cv.cells.toList∧cq cv:=by grind [gV,RVL.singleton,jC]
 cases x with
 | val v=>exact one rfl (by obtain⟨rfl,hp⟩:=h;exact hp.one) h
 | agg cs =>
  obtain⟨vs,rfl,h2,h3⟩:=h;exact⟨by simpa[AV.cells,Value.cells]using h2,λc hc=>h3 c (by simpa[Value.cells]using hc)⟩
 | tup xs=>simp[AV.solid]at hs
 | func f caps=>exact one rfl (by obtain⟨vs,rfl,_⟩:=h;rfl) h
 | ref b off=>exact one rfl (by obtain⟨hd,_,_,rfl⟩:=h;rfl) h
 | eref b i off=>exact one rfl (by obtain⟨hd,_,_,rfl⟩:=h;rfl) h
 | rptr x off=>exact one rfl (by obtain⟨_,_,_,rfl,_⟩:=h;rfl) h
 | vec b =>
  refine one rfl ?_ h;obtain⟨hd,_,rfl⟩:=h;obtain⟨a,n,c,e⟩:=hd.val_slice;rw[e];rfl
 | vsub b lo len=>exact one rfl (by obtain⟨hd,_,_,_,_,_,_,_,rfl⟩:=h;rfl) h
 | asub b off len k=>exact one rfl (by obtain⟨hd,_,_,_,_,_,_,rfl⟩:=h;rfl) h
 | sl k es full=>exact one rfl (by rcases h with⟨_,_,rfl⟩|⟨_,_,_,_,rfl,_⟩<;>rfl) h
 | mref b=>exact one rfl (by obtain⟨hd,_,_,rfl⟩:=h;rfl) h
 | mp kk ks vs=>exact one rfl (by obtain⟨_,_,_,rfl,_⟩:=h;rfl) h
 | unk=>simp[AV.solid]at hs
end
end Go.Am
namespace Go.Am
inductive Blk where
  | box (x:AV)
  | vec (k:Nat) (es:List AV)
  | row (k:Nat) (es:List AV) (len cap:Nat)
  | map (kk:Option Nat) (ks:List MK) (vs:List AV)
  | mst (kk:Option Nat) (ks:List MK) (vs:List AV) (st:List Nat) (ck:Nat)
  | itr (m:Nat) (st:List Nat) (ck:Nat) (seen:List Nat)
  deriving Inhabited
abbrev Hp:=Nat→Option Blk
def upd{α:Type}(f:Nat→α)(t:Nat)(v:α):Nat→α:=λx=>if x=t then v else f x
theorem ai{α:Type}(f:Nat→α)(t:Nat)(v:α):upd f t v t=v:=by simp[upd]
theorem az{α:Type}(f:Nat→α){t x:Nat}(v:α)(h:x≠t):upd f t v x=f x:=by simp[upd,h]
def dw(w:World)(A:Nat→Prop)(μ:Mu)(hd:Hd):Blk→Prop
 | .box x=>hd.emp=none∧x.solid=true∧∃v ty,RV w A x μ v∧w.heap[hd.blk]?=some (.cells v.cells ty (0,0))
 | .vec k es=>hd.k=k∧((es=[]∧hd.emp.isSome=true) ∨
   (hd.emp=none∧hd.len=es.length∧hd.len≤hd.cap∧hd.cap≤maxLen∧∃C ty vs,w.heap[hd.blk]?=some (.cells C ty (0,0))∧RVL w A es μ vs ∧
    (∀x∈es,x.solid=true)∧(∀v∈vs,v.cells.size=k)∧hd.cap * k≤C.size∧C.toList.take (hd.len * k)=vs.flatMap (·.cells.toList)))
 | .row k es len cap=>hd.k=k∧hd.emp=none∧hd.len=len∧hd.cap=cap∧es.length≤len∧len≤cap∧cap≤maxLen∧∃C ty vs,w.heap[hd.blk]?=some (.cells C ty (0,0))∧RVL w A es μ vs ∧
   (∀x∈es,x.solid=true)∧(∀v∈vs,v.cells.size=k)∧cap * k≤C.size∧C.toList.take (es.length * k)=vs.flatMap (·.cells.toList)
 | .map kk ks vs=>hd.emp=none∧∃ents clock,w.heap[hd.blk]?=some (.map ents clock)∧co kk ks ents clock∧RVL w A vs μ (ents.toList.map (·.val))∧∀x∈vs,x.solid=true
 | .mst kk ks vs st ck=>hd.emp=none∧∃ents,w.heap[hd.blk]?=some (.map ents ck)∧co kk ks ents ck∧RVL w A vs μ (ents.toList.map (·.val))∧(∀x∈vs,x.solid=true)∧ents.toList.map (·.born)=st
 | .itr m st ck seen=>hd.emp=none∧∃hm,μ m=some hm∧hm.emp=none∧w.heap[hd.blk]?=some (.mapIter (some hm.blk) ck seen.toArray ck)
theorem dw.mono{w w':World}{A A':Nat→Prop}{μ μ':Mu}{hd:Hd}{x:Blk}(hs:cJ A w w')(hA:∀b,A b→A' b)(hμ:bp μ μ')
  (hb:hd.emp=none→w'.heap[hd.blk]?=w.heap[hd.blk]?) (h:dw w A μ hd x):dw w' A' μ' hd x:=by
 cases x with
 | box x =>
  obtain⟨h1,h2,v,ty,h3,h4⟩:=h;exact⟨h1,h2,v,ty,h3.mono hs hA x hμ,by rw[hb h1];exact h4⟩
 | vec k es =>
  obtain⟨h0,h⟩:=h;refine⟨h0,?_⟩
  rcases h with h|⟨h1,h2,h3,h4,C,ty,vs,h5,h6,h7⟩
  ·exact .inl h
  ·exact .inr ⟨h1,h2,h3,h4,C,ty,vs,by rw[hb h1];exact h5,RVL.mono hs hA es hμ h6,h7⟩
 | row k es len cap =>
  obtain⟨h0,h1,h2,h3,h4,h4',h4'',C,ty,vs,h5,h6,h7⟩:=h;exact⟨h0,h1,h2,h3,h4,h4',h4'',C,ty,vs,by rw[hb h1];exact h5,RVL.mono hs hA es hμ h6,h7⟩
 | map kk ks vs =>
  obtain⟨h1,ents,clock,h2,h3,h4,h5⟩:=h;exact⟨h1,ents,clock,by rw[hb h1];exact h2,h3,RVL.mono hs hA vs hμ h4,h5⟩
 | mst kk ks vs st ck =>
  obtain⟨h1,ents,h2,h3,h4,h5⟩:=h;exact⟨h1,ents,by rw[hb h1];exact h2,h3,RVL.mono hs hA vs hμ h4,h5⟩
 | itr m st ck seen =>
  obtain⟨h1,hm,h2,h3,h4⟩:=h;exact⟨h1,hm,hμ _ _ h2,h3,by rw[hb h1];exact h4⟩
structure Ctx where
  w:World
  own:Nat→Prop
  A:Nat→Prop
  mu:Mu
/-- The package variables that the layer knows, by name, with what they hold. -/
def gvT (n : String) : Option AV :=
  if n = "bitcast/signal.zero" then some (.agg [.int 0, .int 0])
  else if n = "bitcast/signal.number" then some (.agg [.int 0, .int 1000000])
  else if n = "bitcast/signal.first" then some (.agg [.int 1, .int 1000000])
  else if n = "bitcast/signal.group" then some (.agg [.int 1, .int 99])
  else none
def gvP(P:Program)(g:Nat):Option AV:=(P.globals[g]?).bind λG=>gvT G.name
/-- The library's tables that the layer knows. -/
def Ro (n : String) : Option (IntKind × List Int) := if n = "internal/strconv.uint64pow10" then some (.u64, Lib.pow10Tab) else none
structure LtOk (P:Program) (A:Nat→Prop) (w:World):Prop where
  f:∀b,A b→b<w.heap.size
  g:∀g x,gvP P g=some x→RV w A (.rptr x 0) dC (.pointer (some ⟨g,0,none⟩))
  t:∀n k zs g,Ro n=some (k,zs)→P.globalNamed n=some g→A g∧Lib.TabIs P w n k zs
instance {P:Program} {A:Nat→Prop} {w:World}:CoeFun (LtOk P A w) (λ_=>∀b,A b→b<w.heap.size):=⟨LtOk.f⟩
theorem LtOk.mono{P:Program}{A A':Nat→Prop}{w w':World}(h:LtOk P A w)(hs:cJ A w w')(hA:∀b,A b→A' b)(hl:∀b,A' b→b<w'.heap.size):LtOk P A' w':=
 ⟨hl,λg x e=>(h.g g x e).mono hs hA _ (bp.refl _),λn k zs g e1 e2=>by
  obtain⟨q1,q2⟩:=h.t n k zs g e1 e2;refine⟨hA _ q1,?_⟩;unfold Lib.TabIs World.var? at *
  rw[e2]at q2 ⊢;simp only[Option.bind_some]at q2 ⊢;rw[hs g q1];exact q2⟩
structure Keep (c:Ctx) (w:World):Prop where
  os:w.os=c.w.os
  tape:w.tape=c.w.tape
  output:w.output=c.w.output
  size:c.w.heap.size≤w.heap.size
  block:∀k,k<c.w.heap.size→¬c.own k→w.heap[k]?=c.w.heap[k]?
structure aA (P:Program) (c:Ctx) (A:Nat→Prop) (μ:Mu) (fr:Nat→Prop) (tm:Nat→AV) (hp:Hp) (n:Nat) (a:Act) (w:World):Prop where
  tm:∀t,RV w A (tm t) μ (a.tmps.getD t undef)
  n:a.tmps.size=n
  df:a.defers=[]
  blk:∀b x,hp b=some x→∃hd,μ b=some hd∧dw w A μ hd x∧(hd.emp=none→¬A hd.blk∧hd.blk<w.heap.size∧(c.own hd.blk∨c.w.heap.size≤hd.blk))
  inj:∀b b' x x' hd hd',hp b=some x→hp b'=some x'→μ b=some hd→μ b'=some hd'→hd.emp=none→hd'.emp=none→hd.blk=hd'.blk→b=b'
  lt:LtOk P A w
  fr:∀b,fr b→μ b=none∧hp b=none
  keep:Keep c w
  A0:∀b,c.A b→A b
  A1:∀b,A b→c.A b∨c.own b∨c.w.heap.size≤b
  mu:bp c.mu μ
theorem aA.step{P:Program}{c:Ctx}{A:Nat→Prop}{μ:Mu}{fr:Nat→Prop}{tm:Nat→AV}{hp:Hp}{n:Nat}{a:Act}{w w':World}
  (h:aA P c A μ fr tm hp n a w) (hos:w'.os=w.os) (htape:w'.tape=w.tape) (hout:w'.output=w.output) (hsize:w.heap.size≤w'.heap.size)
  (hp':Hp) (hsub:∀b x,hp' b=some x→hp b=some x)
  (hkeep:∀k,k<w.heap.size→(∀b x hd,hp b=some x→hp' b=none→μ b=some hd→hd.emp=none→k≠hd.blk)→w'.heap[k]?=w.heap[k]?)
  (nA:Nat→Prop) (hnA:∀b,nA b→w.heap.size≤b∧b<w'.heap.size) :
  aA P c (λb=>A b∨nA b) μ fr tm hp' n a w'∧cJ A w w':=by
 have hA:cJ A w w':=by
  intro b hb;refine hkeep b (h.lt b hb) λb' x hd h1 _ h3 h4 e=>?_;obtain⟨hd',e1,_,e3⟩:=h.blk b' x h1
  simp_all
 have hle:∀b,A b→(A b∨nA b):=λb hb=>.inl hb
 refine⟨⟨λt=>(h.tm t).mono hA hle _ (bp.refl _),h.n,h.df,?_,?_,?_,?_,?_,λb hb=>.inl (h.A0 b hb),?_,h.mu⟩,hA⟩
 ·intro b x hx;obtain⟨hd,e1,e2,e3⟩:=h.blk b x (hsub b x hx)
  refine⟨hd,e1,e2.mono hA hle (bp.refl _) ?_,?_⟩
  ·intro he;refine hkeep _ (e3 he).2.1 λb' x' hd' h1 h2 h3 h4 e=>?_;have:=h.inj b b' x x' hd hd' (hsub b x hx) h1 e1 h3 he h4 e
   simp_all
  ·grind
 ·intro b b' x x' hd hd' h1 h2;exact h.inj b b' x x' hd hd' (hsub _ _ h1) (hsub _ _ h2)
 ·refine h.lt.mono hA hle ?_
  rintro b (hb|hb)
  ·exact bj' (h.lt b hb) hsize
  ·simp_all
 ·intro b hb;obtain⟨h1,h2⟩:=h.fr b hb;refine⟨h1,?_⟩;cases e:hp' b with
  | none=>rfl
  | some x=>have:=hsub b x e;rw[h2]at this;cases this
 ·refine⟨hos.trans h.keep.os,htape.trans h.keep.tape,hout.trans h.keep.output,aF' h.keep.size hsize,λk hk ho=>?_⟩;rw[←h.keep.block k hk ho];refine hkeep k (bj' hk h.keep.size) λb x hd h1 _ h3 h4 e=>?_;obtain⟨hd',e1,_,e3⟩:=h.blk b x h1
  grind
 ·rintro b (hb|hb)
  ·exact h.A1 b hb
  ·exact .inr (.inr (aF' h.keep.size (hnA b hb).1))
theorem aA.add{P:Program}{c:Ctx}{A:Nat→Prop}{μ:Mu}{fr:Nat→Prop}{tm:Nat→AV}{hp:Hp}{n:Nat}{a:Act}{w:World}
  (h:aA P c A μ fr tm hp n a w) (f:Nat) (hf:hp f=none) (μ':Mu) (hμ:bp μ μ') (hne:∀b,b≠f→μ' b=μ b) (hd:Hd) (hμf:μ' f=some hd) (x:Blk)
  (hok:dw w A μ' hd x) (hb:hd.emp=none→¬A hd.blk∧hd.blk<w.heap.size∧(c.own hd.blk∨c.w.heap.size≤hd.blk))
  (hi:∀b x' hd',hp b=some x'→μ b=some hd'→hd'.emp=none→hd.emp=none→hd'.blk≠hd.blk) :
  aA P c A μ' (λb=>fr b∧b≠f) tm (upd hp f (some x)) n a w:=by
 have hsame:cJ A w w:=λ_ _=>rfl
 refine⟨λt=>(h.tm t).mono hsame (λ_ h=>h) _ hμ,h.n,h.df,?_,?_,h.lt,?_,h.keep,h.A0,h.A1,h.mu.trans hμ⟩
 ·intro b y hy
  by_cases e:b=f
  ·grind [ai]
  ·rw[az _ _ e]at hy;obtain⟨hd',e1,e2,e3⟩:=h.blk b y hy;exact⟨hd',hμ _ _ e1,e2.mono hsame (λ_ h=>h) hμ (λ_=>rfl),e3⟩
 ·intro b b' y y' g g' h1 h2 h3 h4 h5 h6 h7
  by_cases e:b=f
  ·grind [az,absurd]
  ·by_cases e':b'=f
   ·grind [az,absurd]
   ·rw[az _ _ e]at h1;rw[az _ _ e']at h2;rw[hne _ e]at h3;rw[hne _ e']at h4;exact h.inj b b' y y' g g' h1 h2 h3 h4 h5 h6 h7
 ·rintro b ⟨hb1,hb2⟩;rw[hne _ hb2,az _ _ hb2];exact h.fr b hb1
theorem aA.free{P:Program}{c:Ctx}{A:Nat→Prop}{μ:Mu}{fr fr':Nat→Prop}{tm:Nat→AV}{hp:Hp}{n:Nat}{a:Act}{w:World}
  (h:aA P c A μ fr tm hp n a w) (hf:∀b,fr' b→fr b):aA P c A μ fr' tm hp n a w:=
 ⟨h.tm,h.n,h.df,h.blk,h.inj,h.lt,λb hb=>h.fr b (hf b hb),h.keep,h.A0,h.A1,h.mu⟩
def aO(d:Option Nat)(v:AV)(tm:Nat→AV):Nat→AV:=match d with|some t=>upd tm t v|none=>tm
theorem aA.put{P:Program}{c:Ctx}{A:Nat→Prop}{μ:Mu}{fr:Nat→Prop}{tm:Nat→AV}{hp:Hp}{n:Nat}{a:Act}{w:World}
  (h:aA P c A μ fr tm hp n a w) (d:Option Nat) (hd:∀t,d=some t→t<n) {v:AV} {cv:Value} (hv:RV w A v μ cv) :
  aA P c A μ fr (aO d v tm) hp n (a.put d cv) w:=by
 unfold aO;cases d with
 | none=>exact h
 | some d =>
  have hd':=hd d rfl;refine⟨λt=>?_,by simp[Act.put,h.n],h.df,h.blk,h.inj,h.lt,h.fr,h.keep,h.A0,h.A1,h.mu⟩
  by_cases e:t=d
  ·subst e;have:t<a.tmps.size:=by rw[h.n];exact hd'
   simpa[ai,Act.put,this]using hv
  ·simp only[az _ _ e,Act.put];have:(a.tmps.setIfInBounds d cv).getD t undef=a.tmps.getD t undef:=by
    simp[bL' (Ne.symm e)]
   rw[this];exact h.tm t
end Go.Am
namespace Go.Am
inductive AO where
  | t (n:Nat)
  | c (x:AV)
  deriving Inhabited
inductive EK where
  | i
  | b
  | s
  deriving Inhabited
inductive AOp where
  | move (x:AO)
  | pick (c a b:AO)
  | box (x:AO)
  | build (zero:List AV) (parts:List (Nat×Nat×AO))
  | lit (k n:Nat) (zero:AV) (parts:List (Nat×AO))
  | load (agg:Bool) (size:Nat) (x:AO)
  | store (size:Nat) (a x:AO)
  | nilc (x:AO)
  | bin (op:BinOp) (x y:AO)
  | binB (op:BinOp) (x y:AO)
  | eqs (ks:List EK) (ne:Bool) (x y:AO)
  | un (op:UnOp) (x:AO)
  | convI (k:IntKind) (x:AO)
  | convBS (x:AO)
  | convS (x:AO)
  | convSB (x:AO)
  | mkf (f:FuncId) (caps:List AO)
  | mks (k bytes:Nat) (zero:AV) (l c:AO)
  | sliceS (x:AO) (lo hi:Option AO)
  | slice (k:Nat) (x:AO) (lo hi mx:Option AO)
  | sliceA (n k:Nat) (x:AO) (lo hi:Option AO)
  | faddr (off:Nat) (x:AO)
  | field (agg:Bool) (off size:Nat) (x:AO)
  | iaddr (k:Nat) (x i:AO)
  | iaddrA (n k:Nat) (x i:AO)
  | indexA (n k:Nat) (agg:Bool) (x i:AO)
  | indexS (x i:AO)
  | ext (i:Nat) (x:AO)
  | len (x:AO)
  | lenS (x:AO)
  | cap (x:AO)
  | min (xs:List AO)
  | max (xs:List AO)
  | append (k bytes:Nat) (s x:AO)
  | appendS (bytes:Nat) (s x:AO)
  | appendZ (k bytes:Nat) (z:AV) (s n:AO)
  | copy (k:Nat) (d s:AO)
  | clear (k:Nat) (z:AV) (x:AO)
  | isNil (ptr ne:Bool) (x:AO)
  | mkI (t:TypeId) (x:AO)
  | asrt (t:TypeId) (z:AV) (x:AO)
  | mkm (kk:Option Nat)
  | mset (kk:Option Nat) (m k v:AO)
  | mget (kk:Option Nat) (z:AV) (ok:Bool) (m k:AO)
  | mlen (x:AO)
  | mdel (kk:Option Nat) (m k:AO)
  | call (f:AO) (args:List AO)
  | bad
  | rng (x:AO)
  | nxt (x:AO)
  | ent (x:AO)
  deriving Inhabited
structure aN where
  dst:Option Nat
  op:AOp
  guard:Option (Nat×Bool)
  deriving Inhabited
inductive AC where
  | skip
  | reg (ops:List aN)
  | dreg (ops:List aN) (par:List (Nat×Nat))
  | seq (a b:AC)
  | cond (c:AO) (x y:AC)
  | block (id:Nat) (c:AC)
  | loop (c:AC)
  | exit (id:Nat)
  | ret
  | bad
  | scope (c:AC)
  | label
  deriving Inhabited
inductive AR where
  | tmp (t:Nat)
  | cell (t:Nat) (agg:Bool) (size:Nat)
  deriving Inhabited
structure AF where
  n:Nat
  np:Nat
  res:List AR
  body:AC
  deriving Inhabited
def zB:Value→Bool
 | .bool _=>true
 | .int k n=>decide (k.min≤n) && decide (n≤k.max)
 | .string s=>decide (s.size≤maxLen)
 | .pointer none=>true
 | .nilFunc=>true
 | .nilIface=>true
 | .float _ _=>true
 | .map none=>true
 | .iface _ (.int k n)=>decide (k.min≤n) && decide (n≤k.max)
 | .iface _ (.string s)=>decide (s.size≤maxLen)
 | .iface _ (.bool _)=>true
 | _=>false
def mb(v:Value):AV:=match v with
 | .slice none 0 0=>.sl 0 [] true
 | v=>if zB v then .val v else .unk
def iK(v:Value):AV:=match v with
 | .agg cs=>if cs.all (·.oneCell')then .agg (cs.toList.map mb)else .unk
 | v=>mb v
def cO(P:Program):Operand→AO
 | .tmp t=>.t t
 | .const v=>.c (iK v)
 | .func f=>.c (.func f [])
 | .global g=>match gvP P g with
  | some x=>.c (.rptr x 0)
  | none=>.c .unk
def cn(P:Program)(t:TypeId):Option AV:=((P.info? t).bind (·.zero)).map iK
def sizeOf?(P:Program)(t:TypeId):Option Nat:=(P.info? t).map (·.size)
def bytesOf?(P:Program)(t:TypeId):Option Nat:=(P.info? t).map (·.bytes)
def eU(P:Program)(t:TypeId):Bool:=match P.underlying t with|some (.struct _)|some (.array _ _)=>true|_=>false
def uM(P:Program)(t:TypeId):Option EK:=match P.underlying t with
 | some .bool=>some .b
 | some (.int _)=>some .i
 | some .string=>some .s
 | _=>none
def xq (P : Program) : List Field → Nat → Option (List EK)
  | [], _ => some []
  | f :: r, j => match uM P f.type, xq P r (j + 1) with
    | some k, some ks => if f.offset == j && f.name != "_" then some (k :: ks) else none
    | _, _ => none
def Kh(P:Program)(t:TypeId):Option (List EK):=match P.underlying t with
 | some (.struct fs)=>if !P.stoodInHeld t && !P.eqGuardType P.depth t then xq P fs.toList 0 else none
 | _=>none
def nK(P:Program)(fs:Array Field):List (Nat×Operand)→Option (List (Nat×Nat×AO))
 | []=>some []
 | (i,x)::r=>match fs[i]? with
  | none=>none
  | some f=>match sizeOf? P f.type,nK P fs r with
   | some s,some r'=>some ((f.offset,s,cO P x)::r')
   | _,_=>none
/-- The kind of a map's keys. -/
def wD (P : Program) : List Field → Nat → Bool
  | [], _ => true
  | f :: fs, j => f.offset == j && f.name != "_" && (match P.underlying f.type with | some (.int .i64) => true | _ => false) && wD P fs (j + 1)
def kw(P:Program)(t:TypeId):Option (Option Nat):=match P.underlying t with
 | some (.int .i64)=>some none
 | some (.struct fs)=>if wD P fs.toList 0 && !P.stoodInHeld t then some (some fs.toList.length)else none
 | _=>none
def kH(P:Program)(t:TypeId)(m k x:Operand):AOp:=match P.underlying t with
 | some (.map kt _)=>match kw P kt with
  | some kk=>.mset kk (cO P m) (cO P k) (cO P x)
  | none=>.bad
 | _=>.bad
def dv(P:Program)(c:Call)(ty:TypeId):AOp:=
 match c.callee with
 | .value f=>.call (cO P f) (c.args.toList.map (cO P))
 | .invoke _ _=>.bad
 | .builtin b =>
  match b,c.args.toList,c.argTypes.toList with
  | .len,[x],[t]=>match P.underlying t with
   | some (.array n _)=>if n≤maxLen then .move (.c (.int n))else .bad
   | some .string=>.lenS (cO P x)
   | some (.slice _)=>.len (cO P x)
   | some (.map kt _)=>match kw P kt with
    | some _=>.mlen (cO P x)
    | none=>.bad
   | _=>.bad
  | .delete,[m,k],t::_=>match P.underlying t with
   | some (.map kt _)=>match kw P kt with
    | some kk=>.mdel kk (cO P m) (cO P k)
    | none=>.bad
   | _=>.bad
  | .cap,[x],[t]=>match P.underlying t with
   | some (.slice _)=>.cap (cO P x)
   | _=>.bad
  | .min,xs,_=>.min (xs.map (cO P))
  | .max,xs,_=>.max (xs.map (cO P))
  | .append,[s,x],[t,u]=>match P.underlying t,P.underlying u with
   | some (.slice e),some (.slice _)=>match sizeOf? P e,bytesOf? P e,(P.info? e).bind (·.zero)with
    | some k,some b,some z=>if 0<k∧z.cells.size=k then .append k b (cO P s) (cO P x)else .bad
    | _,_,_=>.bad
   | some (.slice e),some .string=>match sizeOf? P e,bytesOf? P e,(P.info? e).bind (·.zero)with
    | some 1,some b,some z=>if z.cells.size=1 then .appendS b (cO P s) (cO P x)else .bad
    | _,_,_=>.bad
   | some (.slice e),some (.int _)=>match sizeOf? P e,bytesOf? P e,cn P e with
    | some k,some b,some z=>if 0<k∧z.solid=true∧z.cells.length=k then .appendZ k b z (cO P s) (cO P x)else .bad
    | _,_,_=>.bad
   | _,_=>.bad
  | .clear,[x],[t]=>match P.underlying t with
   | some (.slice e)=>match sizeOf? P e,cn P e with
    | some k,some z=>if 0<k∧z.solid=true∧z.cells.length=k then .clear k z (cO P x)else .bad
    | _,_=>.bad
   | _=>.bad
  | .copy,[d,s],[t,u]=>match P.underlying t with
   | some (.slice e)=>match sizeOf? P e with
    | some k=>if 0<k then .copy k (cO P d) (cO P s)else .bad
    | _=>.bad
   | _=>.bad
  | _,_,_=>.bad
def pO(ptr:Bool):Operand→Bool
 | .const (.slice none _ _)=>!ptr
 | .const (.pointer none)=>ptr
 | _=>false
def iT(P:Program)(ptr:Bool)(op:BinOp)(x y:Operand):AOp:=
 if pO ptr y then
  match op with
  | .eql=>.isNil ptr false (cO P x)
  | .neq=>.isNil ptr true (cO P x)
  | _=>.bad
 else .bad
def cOp(P:Program)(op:Op)(ty:TypeId):AOp:=
 match op with
 | .move x|.assign x=>.move (cO P x)
 | .pick c a b=>.pick (cO P c) (cO P a) (cO P b)
 | .alloc t=>match cn P t with
  | some z=>.box (.c z)
  | none=>.bad
 | .box _ x=>.box (cO P x)
 | .build t parts=>match P.underlying t,cn P t with
  | some (.struct fs),some (.agg z)=>match nK P fs parts.toList with
   | some ps=>if fs.toList.all λf=>(sizeOf? P f.type).isSome then .build z ps else .bad
   | none=>.bad
  | some (.array _ e),some (.agg z)=>match sizeOf? P e with
   | some s=>.build z (parts.toList.map λ(i,x)=>(i * s,s,cO P x))
   | none=>.bad
  | _,_=>.bad
 | .buildSlice t n parts=>match P.underlying t with
  | some (.slice e)=>match sizeOf? P e,cn P e with
   | some k,some z=>if 0<k∧z.solid=true∧z.cells.length=k∧n * k≤2 ^ 24 then .lit k n z (parts.toList.map λ(i,x)=>(i,cO P x))else .bad
   | _,_=>.bad
  | _=>.bad
 | .load t x=>match P.underlying t,sizeOf? P t with
  | some _,some s=>if 0<s then .load (eU P t) s (cO P x)else .bad
  | _,_=>.bad
 | .store t a x=>match sizeOf? P t with
  | some s=>if 0<s then .store s (cO P a) (cO P x)else .bad
  | none=>.bad
 | .nilCheck x=>.nilc (cO P x)
 | .binOp op t x y _=>match P.underlying t with
  | some (.struct _)=>match Kh P t,op with
   | some ks,.eql=>.eqs ks false (cO P x) (cO P y)
   | some ks,.neq=>.eqs ks true (cO P x) (cO P y)
   | _,_=>.bad
  | some .bool=>.binB op (cO P x) (cO P y)
  | some (.int _)=>.bin op (cO P x) (cO P y)
  | some .string=>.bin op (cO P x) (cO P y)
  | some (.slice _)=>iT P false op x y
  | some (.pointer _)=>iT P true op x y
  | _=>.bad
 | .unOp op _ x=>.un op (cO P x)
 | .convert s d x=>match P.underlying s,P.underlying d with
  | some (.int _),some (.int k)=>.convI k (cO P x)
  | some .string,some .string=>.convS (cO P x)
  | some (.slice e),some .string=>match P.underlying e with
   | some (.int .u8)=>.convBS (cO P x)
   | _=>.bad
  | some .string,some (.slice e)=>match P.underlying e with
   | some (.int .u8)=>.convSB (cO P x)
   | _=>.bad
  | _,_=>.bad
 | .makeFunc (.func f) first captured=>if first.size=0 then .mkf f (captured.toList.map (cO P))else .bad
 | .makeSlice t l c=>match P.underlying t with
  | some (.slice e)=>match sizeOf? P e,bytesOf? P e,cn P e with
   | some k,some b,some z=>if 0<k∧z.solid=true∧z.cells.length=k then .mks k b z (cO P l) (cO P c)else .bad
   | _,_,_=>.bad
  | _=>.bad
 | .slice t x lo hi mx=>match P.underlying t with
  | some .string=>if mx.isNone then .sliceS (cO P x) (lo.map (cO P)) (hi.map (cO P))else .bad
  | some (.slice e)=>match sizeOf? P e with
   | some k=>if 0<k then .slice k (cO P x) (lo.map (cO P)) (hi.map (cO P)) (mx.map (cO P))else .bad
   | none=>.bad
  | some (.array n e)=>match sizeOf? P e with
   | some k=>if mx.isNone && decide (0<k)then .sliceA n k (cO P x) (lo.map (cO P)) (hi.map (cO P))else .bad
   | none=>.bad
  | _=>.bad
 | .fieldAddr s x i=>match P.underlying s with
  | some (.struct fs)=>match fs[i]? with
   | some f=>match sizeOf? P f.type with
    | some n=>if 0<n then .faddr f.offset (cO P x)else .bad
    | none=>.bad
   | none=>.bad
  | _=>.bad
 | .field s x i=>match P.underlying s with
  | some (.struct fs)=>match fs[i]? with
   | some f=>match P.underlying f.type,sizeOf? P f.type with
    | some _,some n=>if 0<n then .field (eU P f.type) f.offset n (cO P x)else .bad
    | _,_=>.bad
   | none=>.bad
  | _=>.bad
 | .indexAddr t x i=>match P.underlying t with
  | some (.slice e)=>match sizeOf? P e with
   | some k=>if 0<k then .iaddr k (cO P x) (cO P i)else .bad
   | none=>.bad
  | some (.array n e)=>match sizeOf? P e with
   | some k=>if 0<k then .iaddrA n k (cO P x) (cO P i)else .bad
   | none=>.bad
  | _=>.bad
 | .index t x i=>match P.underlying t with
  | some .string=>.indexS (cO P x) (cO P i)
  | some (.array n e)=>match P.underlying e,sizeOf? P e with
   | some _,some k=>if 0<k then .indexA n k (eU P e) (cO P x) (cO P i)else .bad
   | _,_=>.bad
  | _=>.bad
 | .extract x i=>.ext i (cO P x)
 | .makeInterface t x=>match P.underlying t with
  | some (.int _)=>.mkI t (cO P x)
  | some .string=>.mkI t (cO P x)
  | some .bool=>.mkI t (cO P x)
  | _=>.bad
 | .typeAssert x _ t true=>match P.underlying t,cn P t with
  | some (.int _),some z=>.asrt t z (cO P x)
  | some .string,some z=>.asrt t z (cO P x)
  | some .bool,some z=>.asrt t z (cO P x)
  | _,_=>.bad
 | .makeMap t none=>match P.underlying t with
  | some (.map kt _)=>match kw P kt with
   | some kk=>.mkm kk
   | none=>.bad
  | _=>.bad
 | .mapUpdate t m k x=>kH P t m k x
 | .insert t m k x=>kH P t m k x
 | .lookup t m k ok=>match P.underlying t with
  | some (.map kt e)=>match kw P kt,cn P e with
   | some kk,some z=>.mget kk z ok (cO P m) (cO P k)
   | _,_=>.bad
  | _=>.bad
 | .call c=>dv P c ty
 | .range t x=>match P.underlying t with
  | some (.map kt _)=>match kw P kt with
   | some none=>.rng (cO P x)
   | _=>.bad
  | _=>.bad
 | .next x false=>.nxt (cO P x)
 | .entry x=>.ent (cO P x)
 | _=>.bad
structure Out where
  c:Prop
  v:AV:=.unk
  rm:Option Nat:=none
  ad:Option (Nat×Blk):=none
def Out.bad:Out:={ c:=False }
def bQ(o:Out)(hp:Hp):Hp:=
 let h1:Hp:=match o.rm with|some b=>upd hp b none|none=>hp
 match o.ad with|some (f,x)=>upd h1 f (some x)|none=>h1
def pv(t:Bool)(x y:AV):AV:=
 match x,y with
 | .val (.bool p),.val (.bool q)=>.val (.bool (if t then p else q))
 | x,y=>if t then x else y
def jk(cs:List AV)(off:Nat)(xs:List AV):List AV:=cs.take off++xs++cs.drop (off+xs.length)
def fo(y:AV)(off size:Nat)(agg:Bool):AV:=
 if off=0∧y.cells.length=size∧y.isAgg=agg then y
 else if agg then .agg ((y.cells.drop off).take size)else y.cells.getD off .unk
def dp(y:AV)(off size:Nat)(agg:Bool):Prop:=y.solid=true∧off+size≤y.cells.length∧(agg=false→size=1)
def dL(y:AV)(off:Nat)(v:AV):AV:=
 if off=0∧v.cells.length=y.cells.length∧v.isAgg=y.isAgg then v else .agg (jk y.cells off v.cells)
def nR(y:AV)(off size:Nat)(v:AV):Prop:=y.solid=true∧v.solid=true∧v.cells.length=size∧off+size≤y.cells.length
def Kn(cs:List AV)(ps:List (Nat×Nat×AV)):List AV:=ps.foldl (λcs p=>jk cs p.1 p.2.2.cells) cs
def uz(n:Nat)(ps:List (Nat×Nat×AV)):Prop:=∀p∈ps,p.2.2.solid=true∧p.2.2.cells.length=p.2.1∧p.1+p.2.1≤n
def ri(es:List AV)(ps:List (Nat×AV)):List AV:=ps.foldl (λes p=>es.set p.1 p.2) es
def w9(k n:Nat)(ps:List (Nat×AV)):Prop:=∀p∈ps,p.2.solid=true∧p.2.cells.length=k∧p.1<n
def ug(ps:List (Nat×AV)):Prop:=∀p∈ps,p.2.pure
def ce:List EK→List AV→List AV→Option Bool
 | [],[],[]=>some true
 | .i::ks,.val (.int k a)::xs,.val (.int k' b)::ys=>if k=k' then(ce ks xs ys).map ((a==b) && ·)else none
 | .b::ks,.val (.bool a)::xs,.val (.bool b)::ys=>(ce ks xs ys).map ((a==b) && ·)
 | .s::ks,.val (.string a)::xs,.val (.string b)::ys=>(ce ks xs ys).map ((a.toList==b.toList) && ·)
 | _,_,_=>none
def dx(op:BinOp)(x y:AV):Out:=
  match x,y with
  | .val (.int k a),.val (.int k' b) =>
    match op with
    | .add=>{ c:=k=k',v:=.val (.int k (k.wrap (a+b))) }
    | .sub=>{ c:=k=k',v:=.val (.int k (k.wrap (a-b))) }
    | .mul=>{ c:=k=k',v:=.val (.int k (k.wrap (a * b))) }
    | .quo=>{ c:=k=k'∧b≠0,v:=.val (.int k (k.wrap (a.tdiv b))) }
    | .rem=>{ c:=k=k'∧b≠0,v:=.val (.int k (a.tmod b)) }
    | .eql=>{ c:=k=k',v:=.bool (a==b) }
    | .neq=>{ c:=k=k',v:=.bool (a != b) }
    | .lss=>{ c:=k=k',v:=.bool (decide (a<b)) }
    | .leq=>{ c:=k=k',v:=.bool (decide (a≤b)) }
    | .gtr=>{ c:=k=k',v:=.bool (decide (b<a)) }
    | .geq=>{ c:=k=k',v:=.bool (decide (b≤a)) }
    | .and=>{ c:=k=k',v:=.val (.int k (k.wrap ((BitVec.ofInt k.bits a) &&& (BitVec.ofInt k.bits b)).toNat)) }
    | .or=>{ c:=k=k',v:=.val (.int k (k.wrap ((BitVec.ofInt k.bits a) ||| (BitVec.ofInt k.bits b)).toNat)) }
    | .xor=>{ c:=k=k',v:=.val (.int k (k.wrap ((BitVec.ofInt k.bits a) ^^^ (BitVec.ofInt k.bits b)).toNat)) }
    | .andNot=>{ c:=k=k',v:=.val (.int k (k.wrap ((BitVec.ofInt k.bits a) &&& ~~~(BitVec.ofInt k.bits b)).toNat)) }
    | .shl=>{ c:=0≤b,v:=.val (.int k (k.wrap (a * 2 ^ (Nat.min b.toNat k.bits)))) }
    | .shr=>{ c:=0≤b,v:=.val (.int k (a.fdiv (2 ^ (Nat.min b.toNat k.bits)))) }
  | .val (.string a),.val (.string b) =>
    match op with
    | .add=>{ c:=a.size+b.size≤maxLen,v:=.str (a++b) }
    | .eql=>{ c:=True,v:=.bool (a.toList==b.toList) }
    | .neq=>{ c:=True,v:=.bool (!(a.toList==b.toList)) }
    | .lss=>{ c:=True,v:=.bool (Op.bytesLess a.toList b.toList) }
    | .leq=>{ c:=True,v:=.bool (Op.bytesLess a.toList b.toList || a.toList==b.toList) }
    | .gtr=>{ c:=True,v:=.bool (!(Op.bytesLess a.toList b.toList || a.toList==b.toList)) }
    | .geq=>{ c:=True,v:=.bool (!(Op.bytesLess a.toList b.toList)) }
    | _=>.bad
  | _,_=>.bad
def jb(op:BinOp)(x y:AV):Out:=
  match x,y with
  | .val (.bool a),.val (.bool b) =>
    match op with
    | .eql=>{ c:=True,v:=.bool (a==b) }
    | .neq=>{ c:=True,v:=.bool (!(a==b)) }
    | _=>.bad
  | _,_=>.bad
def unA(op:UnOp)(x:AV):Out:=
  match op,x with
  | .not,.val (.bool b)=>{ c:=True,v:=.bool !b }
  | .neg,.val (.int k n)=>{ c:=True,v:=.val (.int k (k.wrap (0-n))) }
  | _,_=>.bad
def je(hp:Hp):AV→Out
  | .sl _ es _=>{ c:=True,v:=.int es.length }
  | .vec b=>match hp b with
    | some (.vec _ es)=>{ c:=True,v:=.int es.length }
    | some (.row _ _ len _)=>{ c:=True,v:=.int len }
    | _=>.bad
  | .vsub _ _ n=>{ c:=n≤maxLen,v:=.int n }
  | .asub _ _ n _=>{ c:=n≤maxLen,v:=.int n }
  | _=>.bad
def ix(f:Int→Int→Int)(k:IntKind):Int→List AV→Option Int
 | a,[]=>some a
 | a,.val (.int k' b)::r=>if k'=k then ix f k (f a b) r else none
 | _,_=>none
def gW(a b:Int):Int:=if b<a then b else a
def il(a b:Int):Int:=if b > a then b else a
def gQ(f:Int→Int→Int):List AV→Out
  | .val (.int k a)::r=>match ix f k a r with
    | some n=>{ c:=True,v:=.val (.int k n) }
    | none=>.bad
  | _=>.bad
def nL(d:Nat):Option AV→Option Int
 | none=>some d
 | some (.val (.int _ i))=>some i
 | _=>none
def kK(hp:Hp)(k:Nat):AV→Option (List AV)
 | .sl k' es _=>if k'=k∨es=[]then some es else none
 | .vec b=>match hp b with
  | some (.vec k' es)=>if k'=k then some es else none
  | _=>none
 | .vsub b lo n=>match hp b with
  | some (.vec k' es)=>if k'=k∧lo+n≤es.length then some ((es.drop lo).take n)else none
  | some (.row k' es _ _)=>if k'=k∧lo+n≤es.length then some ((es.drop lo).take n)else none
  | _=>none
 | _=>none
def tv(hp:Hp)(k:Nat):AV→Option (Nat×List AV)
 | .vsub b lo n=>match hp b with
  | some (.row k' es _ _)=>if k'=k then some (n,(es.drop lo).take n)else none
  | _=>(kK hp k (.vsub b lo n)).map λl=>(n,l)
 | x=>(kK hp k x).map λl=>(l.length,l)
def over{α:Type}(es:List α)(lo:Nat)(xs:List α):List α:=es.take lo++xs++es.drop (lo+xs.length)
def qp(hp:Hp)(k:Nat)(d:AV)(src:Option (Nat×List AV)):Out:=
  match d,src with
  | .vsub b lo n,some (sn,xs)=>match hp b with
    | some (.vec k' es)=>{ c:=k'=k∧Nat.min sn n≤xs.length∧lo+n≤es.length,v:=.int (Nat.min sn n:Nat),rm:=some b,ad:=some (b,.vec k (over es lo (xs.take (Nat.min sn n)))) }
    | some (.row k' es len cap)=>{ c:=k'=k∧Nat.min sn n≤xs.length∧lo≤es.length∧lo+n≤len,v:=.int (Nat.min sn n:Nat),rm:=some b,ad:=some (b,.row k (over es lo (xs.take (Nat.min sn n))) len cap) }
    | _=>.bad
  | _,_=>.bad
def jB(hp:Hp)(k:Nat)(z:AV):AV→Out
  | .vsub b lo n=>match hp b with
    | some (.vec k' es)=>{ c:=k'=k∧lo+n≤es.length,rm:=some b,ad:=some (b,.vec k (over es lo (List.replicate n z))) }
    | some (.row k' es len cap)=>{ c:=k'=k∧es.length≤lo∧lo+n≤cap,rm:=some b,ad:=some (b,.row k es len cap) }
    | _=>.bad
  | _=>.bad
def Rt:AV→Option (List AV)
 | .val (.string s)=>some (s.data.toList.map λb=>.val (.int .u8 b.toNat))
 | _=>none
def sliceA(hp:Hp)(k:Nat)(x:AV)(lo hi mx:Option Int):Out:=
  match x with
  | .sl k' es full =>
    let h:Int:=hi.getD es.length
    let m:Int:=mx.getD es.length
    let l:Int:=lo.getD 0
    { c:=(k'=k∨es=[])∧(mx.isSome=true→hi.isSome=true)∧0≤l∧l≤h∧h≤m∧m≤es.length
      v:=.sl k ((es.take h.toNat).drop l.toNat) ((decide (h=m)) && (mx.isSome || full)) }
  | .vec b=>match hp b with
    | some (.vec k' es) =>
      let h:Int:=hi.getD es.length
      let m:Int:=mx.getD es.length
      let l:Int:=lo.getD 0
      { c:=k'=k∧(mx.isSome=true→hi.isSome=true)∧0≤l∧l≤h∧h≤m∧m≤es.length,v:=if mx=none∧0<es.length then .vsub b l.toNat (h-l).toNat else if mx=none then .vec b else .unk }
    | some (.row k' es len cap) =>
      let h:Int:=hi.getD len
      let m:Int:=mx.getD cap
      let l:Int:=lo.getD 0
      { c:=k'=k∧(mx.isSome=true→hi.isSome=true)∧0≤l∧l≤h∧h≤m∧m≤cap,v:=if mx=none then .vsub b l.toNat (h-l).toNat else .unk }
    | _=>.bad
  | .vsub b o n =>
    let h:Int:=hi.getD n
    let l:Int:=lo.getD 0
    { c:=mx=none∧0≤l∧l≤h∧h≤n∧((∃es,hp b=some (.vec k es))∨∃es len cap,hp b=some (.row k es len cap)),v:=.vsub b (o+l.toNat) (h-l).toNat }
  | .asub b o n k' =>
    let h:Int:=hi.getD n
    let l:Int:=lo.getD 0
    { c:=k'=k∧mx=none∧0≤l∧l≤h∧h≤n,v:=.asub b (o+l.toNat * k) (h-l).toNat k }
  | _=>.bad
def cG:List AV→Option (List UInt8)
 | []=>some []
 | .val (.int .u8 n)::r=>(cG r).map (UInt8.ofNat n.toNat::·)
 | _=>none
def i9(hp:Hp)(b:Nat):Option (List AV):=match hp b with
 | some (.box y)=>if y.solid then some y.cells else none
 | _=>none
def dP(hp:Hp)(f k bytes:Nat)(s:AV)(src:Option (List AV)):Out:=
  match src with
  | none=>.bad
  | some xs =>
    match s with
    | .sl k' es full =>
      if es=[]then { c:=full=true∧xs.length * bytes≤2 ^ 47∧xs.length≤maxLen,v:=.vec f,ad:=some (f,.vec k xs) }
      else { c:=k'=k∧full=true∧(es.length+xs.length) * bytes≤2 ^ 47∧es.length+xs.length≤maxLen∧0<xs.length,v:=.vec f,ad:=some (f,.vec k (es++xs)) }
    | .vec b=>match hp b with
      | some (.vec k' es)=>{ c:=k'=k∧(es.length+xs.length) * bytes≤2 ^ 47∧es.length+xs.length≤maxLen,v:=.vec f,rm:=some b,ad:=some (f,.vec k (es++xs)) }
      | some (.row k' es len cap)=>{ c:=k'=k∧len=es.length∧(es.length+xs.length) * bytes≤2 ^ 47∧es.length+xs.length≤maxLen,v:=.vec f,rm:=some b,ad:=some (f,.vec k (es++xs)) }
      | _=>.bad
    | .vsub b lo i=>match hp b with
      | some (.row k' es len cap)=>{ c:=k'=k∧lo=0∧i≤es.length∧i+xs.length≤cap∧0<cap,v:=.vec f,rm:=some b,ad:=some (f,.row k (es.take i++xs) (i+xs.length) cap) }
      | _=>.bad
    | _=>.bad
def eP(hp:Hp)(f k bytes:Nat)(z:AV)(s n:AV):Out:=
  match s,n with
  | .vsub b lo i,.val (.int .i64 m)=>match hp b with
    | some (.row k' es len cap)=>{ c:=k'=k∧lo=0∧i≤es.length∧0<m∧cap<i+m∧(i+m) * bytes≤2 ^ 47∧i+m≤maxLen,v:=.vec f,ad:=some (f,.vec k (es.take i++List.replicate m.toNat z)) }
    | _=>.bad
  | .sl _ [] true,.val (.int .i64 m)=>{ c:=0<m∧m * bytes≤2 ^ 47∧m≤maxLen,v:=.vec f,ad:=some (f,.vec k (List.replicate m.toNat z)) }
  | _,_=>.bad
def bV(hp:Hp)(f k:Nat)(x:AV)(h:Int):Out:=
  match x with
  | .vec b=>match hp b with
    | some (.row k' es len cap)=>if len<h then { c:=k'=k∧h≤cap,v:=.vec f,rm:=some b,ad:=some (f,.row k es h.toNat cap) } else sliceA hp k x none (some h) none
    | _=>sliceA hp k x none (some h) none
  | _=>sliceA hp k x none (some h) none
def lp(hp:Hp)(f k:Nat)(x:AV)(h m:Int):Out:=
  match x with
  | .vec b=>match hp b with
    | some (.vec k' es)=>if h=m∧0<es.length then { c:=k'=k∧0≤h∧h≤es.length,v:=.vec f,rm:=some b,ad:=some (f,.vec k (es.take h.toNat)) } else sliceA hp k x none (some h) (some m)
    | _=>sliceA hp k x none (some h) (some m)
  | _=>sliceA hp k x none (some h) (some m)
def evL(k n:Nat)(z:AV)(ps:List (Nat×AO))(f:Nat)(ρ:AO→AV):Out:=
  let qs:=ps.map λ(i,x)=>(i,ρ x)
  { c:=w9 k n qs,v:=.vec f,ad:=some (f,.vec k (ri (List.replicate n z) qs)) }
def tW(hp:Hp)(x:AV)(t:Bool):Prop:=
 match x with
 | .sl _ es _=>es≠[]→t=false
 | .vec b=>match hp b with
  | some (.vec _ es)=>es≠[]→t=false
  | some (.row _ _ _ _)=>t=false
  | _=>True
 | .vsub _ _ _|.asub _ _ _ _|.ref _ _|.eref _ _ _|.rptr _ _=>t=false
 | .val (.pointer none)=>t=true
 | _=>True
def mc(ptr:Bool)(x:AV):Prop:=
 match ptr,x with
 | false,.sl _ _ _=>True
 | false,.vec _=>True
 | false,.vsub _ _ _=>True
 | false,.asub _ _ _ _=>True
 | true,.ref _ _=>True
 | true,.eref _ _ _=>True
 | true,.rptr _ _=>True
 | true,.val (.pointer none)=>True
 | _,_=>False
def EF(x:AV):Option Bool:=
 match x with
 | .val (.pointer none)=>some true
 | .ref _ _=>some false
 | .eref _ _ _=>some false
 | .rptr _ _=>some false
 | _=>none
theorem CF{hp:Hp}{x:AV}{t:Bool}(h:EF x=some t):mc true x∧∀t',tW hp x t'→t'=t:=by
 unfold EF at h;split at h<;>first|(cases h;exact⟨trivial,λt' q=>q⟩)|cases h
def zV:List AV→Option (List Int)
 | []=>some []
 | .val (.int .i64 i)::r=>(zV r).map (i::·)
 | _=>none
def AV.key:AV→Option MK
 | .val (.int .i64 i)=>some (.n i)
 | .agg cs=>(zV cs).map .c
 | _=>none
def pE(kk:Option Nat)(ks:List MK)(vs:List AV)(k:MK)(v:AV):Blk:=
 if k∈ks then .map kk ks (vs.set (ks.idxOf k) v)else .map kk (ks++[k]) (vs++[v])
def pH(kk:Option Nat)(ks:List MK)(vs:List AV)(k:MK):Blk:=
 if k∈ks then .map kk (ks.eraseIdx (ks.idxOf k)) (vs.eraseIdx (ks.idxOf k))else .map kk ks vs
def mf(ks:List MK)(vs:List AV)(k:MK)(z:AV)(ok:Bool):AV:=
 if k∈ks then(if ok then .tup [vs.getD (ks.idxOf k) .unk,.bool true]else vs.getD (ks.idxOf k) .unk)else(if ok then .tup [z,.bool false]else z)
def rh(hp:Hp):AV→Option (Option Nat×List MK×List AV)
 | .mref b=>match hp b with
  | some (.map kk ks vs)=>some (kk,ks,vs)
  | some (.mst kk ks vs _ _)=>some (kk,ks,vs)
  | _=>none
 | .mp kk ks vs=>some (kk,ks,vs)
 | _=>none
def evA(op:AOp)(f:Nat)(ρ:AO→AV)(hp:Hp):Out:=
  match op with
  | .move x=>{ c:=True,v:=ρ x }
  | .pick c a b=>match ρ c with
    | .val (.bool t)=>{ c:=True,v:=pv t (ρ a) (ρ b) }
    | _=>.bad
  | .box x=>{ c:=(ρ x).solid=true,v:=.ref f 0,ad:=some (f,.box (ρ x)) }
  | .build z ps =>
    let qs:=ps.map λ(o,s,x)=>(o,s,ρ x)
    { c:=uz z.length qs,v:=.agg (Kn z qs) }
  | .lit k n z ps =>
    let qs:=ps.map λ(i,x)=>(i,ρ x)
    { c:=w9 k n qs∧ug qs,v:=.sl k (ri (List.replicate n z) qs) true }
  | .load agg size x=>match ρ x with
    | .ref b off=>match hp b with
      | some (.box y)=>{ c:=dp y off size agg,v:=fo y off size agg }
      | _=>.bad
    | .eref b i off=>match hp b with
      | some (.vec _ es)=>{ c:=i<es.length∧dp (es.getD i .unk) off size agg,v:=fo (es.getD i .unk) off size agg }
      | _=>.bad
    | .rptr y off=>{ c:=dp y off size agg,v:=fo y off size agg }
    | _=>.bad
  | .store size a x=>match ρ a with
    | .ref b off=>match hp b with
      | some (.box y)=>{ c:=nR y off size (ρ x),rm:=some b,ad:=some (b,.box (dL y off (ρ x))) }
      | _=>.bad
    | .eref b i off=>match hp b with
      | some (.vec k es)=>{ c:=i<es.length∧nR (es.getD i .unk) off size (ρ x),rm:=some b,ad:=some (b,.vec k (es.set i (dL (es.getD i .unk) off (ρ x)))) }
      | _=>.bad
    | _=>.bad
  | .nilc x=>match ρ x with
    | .ref b o=>{ c:=True,v:=.ref b o }
    | .eref b i o=>{ c:=True,v:=.eref b i o }
    | .rptr y o=>{ c:=True,v:=.rptr y o }
    | .func g caps=>{ c:=True,v:=.func g caps }
    | _=>.bad
  | .bin op x y=>dx op (ρ x) (ρ y)
  | .binB op x y=>jb op (ρ x) (ρ y)
  | .eqs ks ne x y=>match ρ x,ρ y with
    | .agg xs,.agg ys=>match ce ks xs ys with
      | some b=>{ c:=True,v:=.bool (if ne then !b else b) }
      | none=>.bad
    | _,_=>.bad
  | .un op x=>unA op (ρ x)
  | .convI k x=>match ρ x with
    | .val (.int _ n)=>{ c:=True,v:=.val (.int k (k.wrap n)) }
    | _=>.bad
  | .convS x=>match ρ x with
    | .val (.string s)=>{ c:=True,v:=.str s }
    | _=>.bad
  | .convBS x=>match ρ x with
    | .sl 1 es _=>match cG es with
      | some bs=>{ c:=True,v:=.str ⟨bs.toArray⟩ }
      | none=>.bad
    | .vec b=>match hp b with
      | some (.vec 1 es)=>match cG es with
        | some bs=>{ c:=True,v:=.str ⟨bs.toArray⟩ }
        | none=>.bad
      | _=>.bad
    | .asub b o n 1=>match i9 hp b with
      | some cs=>match cG ((cs.drop o).take n)with
        | some bs=>{ c:=o+n≤cs.length∧bs.length≤maxLen,v:=.str ⟨bs.toArray⟩ }
        | none=>.bad
      | none=>.bad
    | _=>.bad
  | .convSB x=>match ρ x with
    | .val (.string s)=>{ c:=True,v:=.sl 1 (s.data.toList.map λb=>.val (.int .u8 b.toNat)) false }
    | _=>.bad
  | .mkf g caps=>{ c:=True,v:=.func g (caps.map ρ) }
  | .mks k bytes z l c=>match ρ l,ρ c with
    | .val (.int .i64 l),.val (.int .i64 c)=>{ c:=0≤l∧l≤c∧c * bytes≤2 ^ 47∧c≤maxLen,v:=.vec f,ad:=some (f,.vec k (List.replicate l.toNat z)) }
    | _,_=>.bad
  | .sliceS x lo hi=>match ρ x with
    | .val (.string s)=>match nL 0 (lo.map ρ),nL s.size (hi.map ρ)with
      | some l,some h=>{ c:=0≤l∧l≤h∧h≤s.size,v:=.str (s.extract l.toNat h.toNat) }
      | _,_=>.bad
    | _=>.bad
  | .slice k x lo hi mx=>match (lo.map ρ),(hi.map ρ),(mx.map ρ)with
    | none,none,none=>sliceA hp k (ρ x) none none none
    | some (.val (.int _ l)),none,none=>sliceA hp k (ρ x) (some l) none none
    | none,some (.val (.int _ h)),none=>bV hp f k (ρ x) h
    | some (.val (.int _ l)),some (.val (.int _ h)),none=>sliceA hp k (ρ x) (some l) (some h) none
    | none,some (.val (.int _ h)),some (.val (.int _ m))=>lp hp f k (ρ x) h m
    | some (.val (.int _ l)),some (.val (.int _ h)),some (.val (.int _ m))=>sliceA hp k (ρ x) (some l) (some h) (some m)
    | _,_,_=>.bad
  | .sliceA n k x lo hi=>match ρ x with
    | .ref b off=>match nL 0 (lo.map ρ),nL n (hi.map ρ)with
      | some l,some h=>{ c:=0≤l∧l≤h∧h≤n∧n≤maxLen,v:=.asub b (off+l.toNat * k) (h-l).toNat k }
      | _,_=>.bad
    | _=>.bad
  | .faddr o x=>match ρ x with
    | .ref b off=>{ c:=True,v:=.ref b (off+o) }
    | .eref b i off=>{ c:=True,v:=.eref b i (off+o) }
    | .rptr y off=>{ c:=True,v:=.rptr y (off+o) }
    | _=>.bad
  | .field agg o size x=>{ c:=(ρ x).isAgg=true∧dp (ρ x) o size agg,v:=if agg then .agg (((ρ x).cells.drop o).take size)else(ρ x).cells.getD o .unk }
  | .iaddr k x i=>match ρ i with
    | .val (.int _ i)=>match ρ x with
      | .sl k' es _=>{ c:=k'=k∧0≤i∧i<es.length,v:=.rptr (es.getD i.toNat .unk) 0 }
      | .vec b=>match hp b with
        | some (.vec k' es)=>{ c:=k'=k∧0≤i∧i<es.length,v:=.eref b i.toNat 0 }
        | _=>.bad
      | .vsub b lo n=>match hp b with
        | some (.vec k' es)=>{ c:=k'=k∧0≤i∧i<n,v:=.eref b (lo+i.toNat) 0 }
        | _=>.bad
      | .asub b o n k'=>{ c:=k'=k∧0≤i∧i<n,v:=.ref b (o+i.toNat * k) }
      | _=>.bad
    | _=>.bad
  | .iaddrA n k x i=>match ρ i with
    | .val (.int _ i)=>match ρ x with
      | .ref b off=>{ c:=0≤i∧i<n,v:=.ref b (off+i.toNat * k) }
      | .eref b j off=>{ c:=0≤i∧i<n,v:=.eref b j (off+i.toNat * k) }
      | .rptr y off=>{ c:=0≤i∧i<n,v:=.rptr y (off+i.toNat * k) }
      | _=>.bad
    | _=>.bad
  | .indexA n k agg x i=>match ρ i with
    | .val (.int _ i)=>{ c:=(ρ x).isAgg=true∧0≤i∧i<n∧dp (ρ x) (i.toNat * k) k agg,v:=if agg then .agg (((ρ x).cells.drop (i.toNat * k)).take k)else(ρ x).cells.getD (i.toNat * k) .unk }
    | _=>.bad
  | .indexS x i=>match ρ x,ρ i with
    | .val (.string s),.val (.int _ i)=>{ c:=0≤i∧i<s.size,v:=.val (.int .u8 (s.data.getD i.toNat 0).toNat) }
    | _,_=>.bad
  | .ext i x=>match ρ x with
    | .tup xs=>{ c:=i<xs.length,v:=xs.getD i .unk }
    | _=>.bad
  | .len x=>je hp (ρ x)
  | .lenS x=>match ρ x with
    | .val (.string s)=>{ c:=True,v:=.int s.size }
    | _=>.bad
  | .cap x=>match ρ x with
    | .sl _ es true=>{ c:=True,v:=.int es.length }
    | .vec b=>match hp b with
      | some (.row _ _ _ cap)=>{ c:=True,v:=.int cap }
      | _=>.bad
    | _=>.bad
  | .min xs=>gQ gW (xs.map ρ)
  | .max xs=>gQ il (xs.map ρ)
  | .append k bytes s x=>dP hp f k bytes (ρ s) (kK hp k (ρ x))
  | .appendS bytes s x=>dP hp f 1 bytes (ρ s) (Rt (ρ x))
  | .appendZ k bytes z s n=>eP hp f k bytes z (ρ s) (ρ n)
  | .copy k d s=>qp hp k (ρ d) (tv hp k (ρ s))
  | .clear k z x=>jB hp k z (ρ x)
  | .isNil ptr ne x=>match ptr with
    | true=>match EF (ρ x)with
      | some t=>{ c:=True,v:=.bool (t != ne) }
      | none=>.bad
    | false=>.bad
  | .mkI t x=>match ρ x with
    | .val (.int k n)=>{ c:=True,v:=.val (.iface t (.int k n)) }
    | .val (.string s)=>{ c:=True,v:=.val (.iface t (.string s)) }
    | .val (.bool b)=>{ c:=True,v:=.val (.iface t (.bool b)) }
    | _=>.bad
  | .asrt t z x=>match ρ x with
    | .val (.iface t' v)=>{ c:=True,v:=if t'=t then .tup [.val v,.bool true]else .tup [z,.bool false] }
    | _=>.bad
  | .mkm kk=>{ c:=True,v:=.mref f,ad:=some (f,.map kk [] []) }
  | .mset kk m k x=>match ρ m with
    | .mref b=>match hp b,(ρ k).key with
      | some (.map kk' ks vs),some q=>{ c:=kk'=kk∧q.fits kk∧(ρ x).solid=true,rm:=some b,ad:=some (b,pE kk ks vs q (ρ x)) }
      | _,_=>.bad
    | _=>.bad
  | .mget kk z ok m k=>match rh hp (ρ m),(ρ k).key with
    | some (kk',ks,vs),some q=>{ c:=kk'=kk∧q.fits kk,v:=mf ks vs q z ok }
    | _,_=>.bad
  | .mlen x=>match rh hp (ρ x)with
    | some (_,ks,_)=>{ c:=ks.length≤maxLen,v:=.int ks.length }
    | none=>.bad
  | .mdel kk m k=>match ρ m with
    | .mref b=>match hp b,(ρ k).key with
      | some (.map kk' ks vs),some q=>{ c:=kk'=kk∧q.fits kk,v:=.tup [],rm:=some b,ad:=some (b,pH kk ks vs q) }
      | _,_=>.bad
    | _=>.bad
  | .call _ _=>.bad
  | .bad=>.bad
  | .rng _=>.bad
  | .nxt _=>.bad
  | .ent _=>.bad
end Go.Am
namespace Go.Am
def evO(tm:Nat→AV):AO→AV
 | .t k=>tm k
 | .c x=>x
theorem Io(μ:Mu):bp dC μ:=λ_ _ h=>by cases h
theorem cJ.refl(A:Nat→Prop)(w:World):cJ A w w:=λ_ _=>rfl
section
variable {P : Program} {c : Ctx} {A : Nat → Prop} {μ : Mu} {fr : Nat → Prop} {tm : Nat → AV} {hp : Hp} {n : Nat} {a : Act} {w : World}
theorem RV.up{x:AV}{v:Value}(h:RV w A x dC v):RV w A x μ v:=h.mono (cJ.refl A w) (λ_ h=>h) x (Io μ)
theorem RVL.up{xs:List AV}{vs:List Value}(h:RVL w A xs dC vs):RVL w A xs μ vs:=RVL.mono (cJ.refl A w) (λ_ h=>h) xs (Io μ) h
theorem zA{v:Value}(h:zB v=true):aU v:=by
 unfold zB at h;split at h<;>simp_all [aU,inK]
theorem rH(v:Value):RV w A (mb v) μ v:=by
 unfold mb
 split
 ·exact .inl ⟨rfl,none,rfl⟩
 ·split
  ·rename_i h;exact⟨rfl,zA h⟩
  ·trivial
theorem dB(v:Value):RV w A (iK v) μ v:=by
 unfold iK
 split
 ·rename_i cs
  split
  ·rename_i h;refine⟨cs.toList,by simp,?_,λv hv=>(Array.all_eq_true_iff_forall_mem.1 h) v (by simpa using hv)⟩
   grind [RVL.of_get,Option.some.injEq,rH]
  ·trivial
 ·exact rH v
theorem aA.ev(H:aA P c A μ fr tm hp n a w)(x:Operand):RV w A (evO tm (cO P x)) μ (a.eval x):=by
 cases x with
 | tmp t=>exact H.tm t
 | const v=>exact dB v
 | func f=>exact⟨[],rfl,rfl⟩
 | global g =>
  simp only[cO];cases e:gvP P g with
  | none=>trivial
  | some x=>exact(H.lt.g g x e).up
theorem RV.one{x:AV}{v:Value}(hs:x.solid=true)(hg:x.isAgg=false)(h:RV w A x μ v):v.oneCell'=true:=by
 have:=(RV.cells hs h).1.length;cases x with
 | val v=>obtain⟨rfl,hp⟩:=h;exact hp.one
 | agg cs=>simp[AV.isAgg]at hg
 | tup xs=>simp[AV.solid]at hs
 | func f caps=>obtain⟨vs,rfl,_⟩:=h;rfl
 | ref b off=>obtain⟨hd,_,_,rfl⟩:=h;rfl
 | eref b i off=>obtain⟨hd,_,_,rfl⟩:=h;rfl
 | rptr x off=>obtain⟨_,_,_,rfl,_⟩:=h;rfl
 | vec b=>obtain⟨hd,_,rfl⟩:=h;obtain⟨a,n,c,e⟩:=hd.val_slice;rw[e];rfl
 | vsub b lo len=>obtain⟨hd,_,_,_,_,_,_,_,rfl⟩:=h;rfl
 | asub b off len k=>obtain⟨hd,_,_,_,_,_,_,rfl⟩:=h;rfl
 | sl k es full=>rcases h with⟨_,_,rfl⟩|⟨_,_,_,_,rfl,_⟩<;>rfl
 | mref b=>obtain⟨hd,_,_,rfl⟩:=h;rfl
 | mp kk ks vs=>obtain⟨_,_,_,rfl,_⟩:=h;rfl
 | unk=>simp[AV.solid]at hs
def DY(w:World)(b o:Nat)(v:Value):Prop:=∀p u,v.cells[p]?=some u→w.cell? ⟨b,o+p,none⟩=some u
theorem fN{t:TypeId}{d:TypeDesc}(hu:P.underlying t=some d):(isAgg t).run P w=.ok (eU P t) w:=by
 unfold isAgg eU;rw[Sem.run_bind,run_underlying hu w,hu];cases d<;>rfl
theorem aZ{t:TypeId}{s:Nat}(hs:sizeOf? P t=some s):(sizeOf t).run P w=.ok s w:=by
 unfold sizeOf? at hs;cases hi:P.info? t with
 | none=>simp[hi]at hs
 | some i=>simp[hi]at hs;simp[sizeOf,typeInfo,hi,hs]
theorem DX{v:Value}{y:AV}(hy:RV w A y μ v)(h:y.isAgg=true):v=.agg v.cells:=by
 cases y<;>simp[AV.isAgg]at h;obtain⟨vs,rfl,_⟩:=hy;rfl
theorem Cr{y:AV}{v:Value}{off size:Nat}{agg:Bool}(hy:RV w A y μ v)(hok:dp y off size agg)(ha:agg=true) :
  RV w A (.agg ((y.cells.drop off).take size)) μ (.agg ((v.cells.toList.drop off).take size).toArray):=by
 obtain⟨h1,h2,h3⟩:=hok;have hc:=RV.cells h1 hy;exact⟨_,rfl,(hc.1.drop off).take size,λu hu=>hc.2 u (ak' (T' hu))⟩
theorem E9{y:AV}{v:Value}{off size:Nat}(hy:RV w A y μ v)(hok:dp y off size true) :
  RV w A (fo y off size true) μ (.agg ((v.cells.toList.drop off).take size).toArray):=by
 unfold fo
 split
 ·rename_i h;obtain⟨rfl,h2,h3⟩:=h;have e:=DX hy h3;have hl:=(RV.cells hok.1 hy).1.length;rw[bf',G' (by omega),Array.toArray_toList,←e];exact hy
 ·exact Cr hy hok rfl
theorem E8{y:AV}{v u:Value}{off size:Nat}(hy:RV w A y μ v)(hok:dp y off size false)(hu:v.cells[off]?=some u) :
  RV w A (fo y off size false) μ u:=by
 have hc:=RV.cells hok.1 hy;unfold fo
 split
 ·rename_i h;obtain⟨rfl,h2,h3⟩:=h;have ho:=RV.one hok.1 h3 hy
  grind [gV]
 ·simp only[bk',↓reduceIte];have hlt:off<y.cells.length:=by have:=hok.2.1;have:=hok.2.2 rfl;omega
  refine hc.1.get2 (i:=off) ?_ (by simpa using hu)
  simp_all
theorem jZ{t:TypeId}{d:TypeDesc}{size:Nat}(hu:P.underlying t=some d)(hs:sizeOf? P t=some size){y:AV}{v:Value}{off b o:Nat}
  (hy:RV w A y μ v) (hok:dp y off size (eU P t)) (hr:DY w b o v) :
  ∃cv,(loadVar t ⟨b,o+off,none⟩).run P w=.ok cv w∧RV w A (fo y off size (eU P t)) μ cv:=by
 have hc:=RV.cells hok.1 hy;have hl:=hc.1.length;cases hg:eU P t with
 | true =>
  rw[hg]at hok;refine⟨_,?_,E9 hy hok⟩;have hlen:((v.cells.toList.drop off).take size).length=size:=by
   have:=hok.2.1;simp;simp at hl;omega
  have hrun:=run_loadCells_list (P:=P) w ⟨b,o+off,none⟩ ((v.cells.toList.drop off).take size) (λj u hj=>by
   rw[Addr.add_lit];rw[am']at hj
   split at hj
   ·rw[bi']at hj;rw[bH'];exact hr _ _ (by simpa using hj)
   ·cases hj)
  rw[hlen]at hrun;simp[loadVar,fN hu,hg,aZ hs,hrun]
 | false =>
  rw[hg]at hok;have hlt:off<v.cells.size:=by have:=hok.2.1;have:=hok.2.2 rfl;simp at hl;omega
  refine⟨v.cells[off],?_,E8 hy hok (by simp[hlt])⟩;have hcell:=hr off _ (by simp[hlt]:v.cells[off]?=some v.cells[off]);simp[loadVar,fN hu,hg,hcell]
theorem aA.box(H:aA P c A μ fr tm hp n a w){b:Nat}{y:AV}(hb:hp b=some (.box y)) :
  ∃hd v ty,μ b=some hd∧hd.emp=none∧y.solid=true∧RV w A y μ v∧w.heap[hd.blk]?=some (.cells v.cells ty (0,0))∧DY w hd.blk 0 v:=by
 obtain⟨hd,h1,⟨h2,h3,v,ty,h4,h5⟩,h6⟩:=H.blk b _ hb;exact⟨hd,v,ty,h1,h2,h3,h4,h5,λp u hu=>by rw[aB',cell_of_row w hd.blk p v.cells ty _ h5];exact hu⟩
theorem ut{vs:List Value}{k:Nat}(hk:∀v∈vs,v.cells.size=k):∀{i p:Nat} {v:Value},vs[i]?=some v→p<k →
  (vs.flatMap (·.cells.toList))[i * k+p]?=v.cells[p]?:=by
 induction vs with
 | nil=>intro i p v h;simp at h
 | cons x xs ih =>
  intro i p v h hp;have hx:x.cells.size=k:=hk x (by simp);cases i with
  | zero =>
   simp at h;subst h;rw[ap',bW' (by simp;omega)];simp
  | succ i =>
   rw[ap',aU' (by simp[hx];rw[aR'];omega)];have:(i+1) * k+p-x.cells.toList.length=i * k+p:=by simp[hx,aR'];omega
   rw[this];exact ih (λv hv=>hk v (by simp[hv])) (by simpa using h) hp
theorem flat_len{vs:List Value}{k:Nat}(hk:∀v∈vs,v.cells.size=k):(vs.flatMap (·.cells.toList)).length=vs.length * k:=by
 induction vs with
 | nil=>simp
 | cons x xs ih =>
  rw[ap',Y',ih (λv hv=>hk v (by simp[hv]))];have:=hk x (by simp);simp[this,aR'];omega
theorem qc{b o:Nat}{vs:List Value}{k:Nat}(hk:∀v∈vs,v.cells.size=k)
  (hr:∀p u,(vs.flatMap (·.cells.toList))[p]?=some u→w.cell? ⟨b,o+p,none⟩=some u) {i:Nat} {v:Value} (hv:vs[i]?=some v):DY w b (o+i * k) v:=by
 intro p u hu;have hp:p<k:=by grind
 rw[bH'];exact hr _ _ (by rw[ut hk hv hp];exact hu)
theorem aA.vec(H:aA P c A μ fr tm hp n a w){b k:Nat}{es:List AV}(hb:hp b=some (.vec k es)) :
  ∃hd,μ b=some hd∧hd.k=k∧((es=[]∧∃a,hd.emp=some a)∨(hd.emp=none∧hd.len=es.length∧hd.len≤hd.cap∧hd.cap≤maxLen ∧
   ∃C ty vs,w.heap[hd.blk]?=some (.cells C ty (0,0))∧RVL w A es μ vs∧(∀x∈es,x.solid=true)∧(∀v∈vs,v.cells.size=k) ∧
    hd.cap * k≤C.size∧C.toList.take (hd.len * k)=vs.flatMap (·.cells.toList) ∧
    ∀p u,(vs.flatMap (·.cells.toList))[p]?=some u→w.cell? ⟨hd.blk,p,none⟩=some u)):=by
 obtain⟨hd,h1,⟨h2,h3⟩,h6⟩:=H.blk b _ hb;refine⟨hd,h1,h2,?_⟩
 rcases h3 with⟨h3,h4⟩|⟨h3,h4,h5,h7,C,ty,vs,g1,g2,g3,g4,g5,g6⟩
 ·grind [Option.isSome_iff_exists]
 ·grind [cell_of_row]
theorem aA.row(H:aA P c A μ fr tm hp n a w){b k len cap:Nat}{es:List AV}(hb:hp b=some (.row k es len cap)) :
  ∃hd,μ b=some hd∧hd.k=k∧hd.emp=none∧hd.len=len∧hd.cap=cap∧es.length≤len∧len≤cap∧cap≤maxLen ∧
   ∃C ty vs,w.heap[hd.blk]?=some (.cells C ty (0,0))∧RVL w A es μ vs∧(∀x∈es,x.solid=true)∧(∀v∈vs,v.cells.size=k) ∧
    cap * k≤C.size∧C.toList.take (es.length * k)=vs.flatMap (·.cells.toList) ∧
    ∀p u,(vs.flatMap (·.cells.toList))[p]?=some u→w.cell? ⟨hd.blk,p,none⟩=some u:=by
 obtain⟨hd,h1,⟨h2,h3,h4,h5,h6,h7,h8,C,ty,vs,g1,g2,g3,g4,g5,g6⟩,_⟩:=H.blk b _ hb;refine⟨hd,h1,h2,h3,h4,h5,h6,h7,h8,C,ty,vs,g1,g2,g3,g4,g5,g6,λp u hu=>?_⟩;rw[cell_of_row w hd.blk p C ty _ g1];rw[←g6,am']at hu
 split at hu
 ·simpa using hu
 ·cases hu
theorem aA.vec_at(H:aA P c A μ fr tm hp n a w){b k i:Nat}{es:List AV}(hb:hp b=some (.vec k es))(hi:i<es.length) :
  ∃hd v,μ b=some hd∧hd.emp=none∧hd.k=k∧RV w A (es.getD i .unk) μ v∧v.cells.size=k∧DY w hd.blk (i * k) v:=by
 obtain⟨hd,h1,h2,h3⟩:=H.vec hb
 rcases h3 with⟨rfl,_⟩|⟨h3,h4,h5,h7,C,ty,vs,g1,g2,g3,g4,g5,g6,g7⟩
 ·simp at hi
 ·have hx:es[i]?=some (es.getD i .unk):=by simp[List.getD,E' hi]
  obtain⟨v,e1,e2⟩:=g2.get hx;refine⟨hd,v,h1,h3,h2,e2,g4 v (al' e1),?_⟩;have:=qc (w:=w) (b:=hd.blk) (o:=0) g4 (by simpa using g7) e1;simpa using this
theorem c8(b:Addr):(Instr.sureAddr (.pointer (some b))).run P w=.ok b w:=rfl
theorem Fy{t:TypeId}{d:TypeDesc}{size:Nat}(hu:P.underlying t=some d)(hs:sizeOf? P t=some size)(H:aA P c A μ fr tm hp n a w)(x:Operand)(f:Nat)
  (hc:(evA (.load (eU P t) size (cO P x)) f (evO tm) hp).c) :
  ∃cv,(Instr.loadAt t (a.eval x)).run P w=.ok cv w∧RV w A (evA (.load (eU P t) size (cO P x)) f (evO tm) hp).v μ cv:=by
 have hx:=H.ev x;simp only[evA]at hc ⊢;generalize evO tm (cO P x)=X at *
 generalize a.eval x=cx at *
 cases X<;>simp only[Out.bad]at hc
 case ref b off =>
  obtain⟨hd,h1,h2,rfl⟩:=hx;cases hb:hp b with
  | none=>simp[hb]at hc
  | some y =>
   cases y with
   | vec k es=>simp[hb]at hc
   | row k es len cap=>simp[hb]at hc
   | map kk ks vs=>simp[hb]at hc
   | mst kk ks vs st ck=>simp[hb]at hc
   | itr m st ck seen=>simp[hb]at hc
   | box y =>
    simp only[hb]at hc ⊢;obtain⟨hd',v,ty,e1,e2,e3,e4,e5,e6⟩:=H.box hb;rw[h1]at e1;cases e1;have:=jZ hu hs (off:=off) e4 hc e6;simpa[Instr.loadAt,c8]using this
 case eref b i off =>
  obtain⟨hd,h1,h2,rfl⟩:=hx;cases hb:hp b with
  | none=>simp[hb]at hc
  | some y =>
   cases y with
   | box y=>simp[hb]at hc
   | row k es len cap=>simp[hb]at hc
   | map kk ks vs=>simp[hb]at hc
   | mst kk ks vs st ck=>simp[hb]at hc
   | itr m st ck seen=>simp[hb]at hc
   | vec k es =>
    simp only[hb]at hc ⊢;obtain⟨hi,hc⟩:=hc;obtain⟨hd',v,e1,e2,e3,e4,e5,e6⟩:=H.vec_at hb hi;rw[h1]at e1;cases e1;rw[e3];have:=jZ hu hs (off:=off) e4 hc e6;simpa[Instr.loadAt,c8]using this
 case rptr y off =>
  obtain⟨blk,o,v,rfl,h2,h3,h4,h5⟩:=hx;have:=jZ hu hs (off:=off) (h3.up (μ:=μ)) hc h5;simpa[Instr.loadAt,c8]using this
end
end Go.Am
namespace Go.Am
theorem dy(k:IntKind)(n:Int):inK k (k.wrap n):=by
 unfold inK IntKind.wrap IntKind.min IntKind.max;cases k<;>simp[IntKind.bits,IntKind.signed]<;>(try split)<;>omega
theorem GV{k:IntKind}{x y:Int}(hx:inK k x)(hy:inK k y)(h0:y≠0):inK k (x.tmod y):=by
 have hb:x.tmod y≤x∧0≤x.tmod y∨x≤x.tmod y∧x.tmod y≤0:=by
  match x,y with
  | .ofNat m,.ofNat n=>have:=Nat.mod_le m n;left;simp only[Int.tmod,co'];omega
  | .ofNat m,.negSucc n=>have:=Nat.mod_le m (n+1);left;simp only[Int.tmod,co',Nat.succ_eq_add_one];omega
  | .negSucc m,.ofNat n=>have:=Nat.mod_le (m+1) n;right;simp only[Int.tmod];simp only[co',Nat.succ_eq_add_one];omega
  | .negSucc m,.negSucc n=>have:=Nat.mod_le (m+1) (n+1);right;simp only[Int.tmod];simp only[co',Nat.succ_eq_add_one];omega
 grind [IntKind.min,IntKind.bits,IntKind.signed,IntKind.max,inK]
theorem Ko{k:IntKind}{x:Int}(hx:inK k x)(n:Nat):inK k (x.fdiv (2 ^ n)):=by
 have hp:(0:Int)<2 ^ n:=Int.pow_pos (by omega);have h1:x.fdiv (2 ^ n)=x / 2 ^ n:=Int.fdiv_eq_ediv_of_nonneg _ (Int.le_of_lt hp);have hmin:k.min≤0:=by cases k<;>simp[IntKind.min,IntKind.bits,IntKind.signed]
 have hmax:0≤k.max:=by cases k<;>simp[IntKind.max,IntKind.bits,IntKind.signed]
 have hp1:(1:Int)≤2 ^ n:=hp;obtain⟨hx1,hx2⟩:=hx;rw[h1];unfold inK
 rcases Int.le_total 0 x with h|h
 ·have:=Int.ediv_nonneg h (Int.le_of_lt hp);have:=Int.ediv_le_self (2 ^ n) h;omega
 ·have h2:x / 2 ^ n≤0:=by
   have:=Int.ediv_le_ediv hp h;simpa using this
  have h3:x≤x / 2 ^ n:=by
   rw[Int.le_ediv_iff_mul_le hp];have:x * 2 ^ n≤x * 1:=Int.mul_le_mul_of_nonpos_left h hp1;omega
  omega
theorem dt{n:Nat}(h:n≤maxLen):inK .i64 (n:Int):=by grind [inK,IntKind.min,IntKind.max,IntKind.bits,IntKind.signed,maxLen]
theorem pR(b:UInt8):inK .u8 (b.toNat:Int):=by
 unfold inK;simp[IntKind.min,IntKind.max,IntKind.bits,IntKind.signed];have:=b.toNat_lt;omega
section
variable {P : Program} {c : Ctx} {A : Nat → Prop} {μ : Mu} {fr : Nat → Prop} {tm : Nat → AV} {hp : Hp} {n : Nat} {a : Act} {w : World}
theorem bG{k:IntKind}{n:Int}(h:inK k n):RV w A (.val (.int k n)) μ (.int k n):=⟨rfl,h⟩
theorem cK(b:Bool):RV w A (.val (.bool b)) μ (.bool b):=⟨rfl,trivial⟩
def Val(P:Program)(w:World)(A:Nat→Prop)(μ:Mu)(s:Sem Value)(v:AV):Prop:=∃cv,s.run P w=.ok cv w∧RV w A v μ cv
theorem xI(op:BinOp)(T:TypeId){X Y:AV}{x y:Value}(hx:RV w A X μ x)(hy:RV w A Y μ y)(hc:(dx op X Y).c) :
  Val P w A μ (binOp op T x y) (dx op X Y).v:=by
 unfold Val;unfold dx at hc ⊢
 split at hc
 ·rename_i k a' k' b';obtain⟨rfl,hx⟩:=hx;obtain⟨rfl,hy⟩:=hy;simp only[aU]at hx hy;cases op<;>simp only[]at hc ⊢
  all_goals try (obtain rfl:=hc)
  case add=>exact⟨_,by simp[binOp,Op.intArith],bG (dy _ _)⟩
  case sub=>exact⟨_,by simp[binOp,Op.intArith],bG (dy _ _)⟩
  case mul=>exact⟨_,by simp[binOp,Op.intArith],bG (dy _ _)⟩
  case quo=>obtain⟨rfl,h0⟩:=hc;exact⟨_,by simp[binOp,Op.intDiv,h0],bG (dy _ _)⟩
  case rem=>obtain⟨rfl,h0⟩:=hc;exact⟨_,by simp[binOp,Op.intDiv,h0],bG (GV hx hy h0)⟩
  case eql=>exact⟨_,by simp[binOp,Op.intCmp],cK _⟩
  case neq=>exact⟨_,by simp[binOp,Op.intCmp],cK _⟩
  case lss=>exact⟨_,by simp[binOp,Op.intCmp],cK _⟩
  case leq=>exact⟨_,by simp[binOp,Op.intCmp],cK _⟩
  case gtr=>exact⟨_,by simp[binOp,Op.intCmp],cK _⟩
  case geq=>exact⟨_,by simp[binOp,Op.intCmp],cK _⟩
  case and=>exact⟨_,by simp[binOp,Op.intBits],bG (dy _ _)⟩
  case or=>exact⟨_,by simp[binOp,Op.intBits],bG (dy _ _)⟩
  case xor=>exact⟨_,by simp[binOp,Op.intBits],bG (dy _ _)⟩
  case andNot=>exact⟨_,by simp[binOp,Op.intBits],bG (dy _ _)⟩
  case shl =>
   have:¬b'<0:=by omega
   exact⟨_,by simp[binOp,Op.shift,this],bG (dy _ _)⟩
  case shr =>
   have:¬b'<0:=by omega
   exact⟨_,by simp[binOp,Op.shift,this],bG (Ko hx _)⟩
 ·rename_i a' b';obtain⟨rfl,hx⟩:=hx;obtain⟨rfl,hy⟩:=hy;cases op<;>simp only[Out.bad]at hc ⊢
  case add =>
   have h1:¬((a'.size+b'.size:Nat):Int) > IntKind.i64.max:=by grind [maxLen,IntKind.max,IntKind.bits,IntKind.signed]
   refine⟨.string (a'++b'),?_,rfl,?_⟩
   ·simp_all [binOp,Op.stringOp,reduceIte]
   ·grind [aU]
  all_goals exact⟨_,by simp[binOp,Op.stringOp],cK _⟩
 ·grind [Out.bad]
theorem ie{T:TypeId}(hT:P.underlying T=some .bool)(d:Nat)(x y:Bool):(Op.equalIn (d+1) T (.bool x) (.bool y)).run P w=.ok (x==y) w:=by
 unfold Op.equalIn;rw[Sem.run_bind,run_underlying hT];rfl
theorem F5(op:BinOp)(T:TypeId)(hT:P.underlying T=some .bool){X Y:AV}{x y:Value}(hx:RV w A X μ x)(hy:RV w A Y μ y)(hc:(jb op X Y).c) :
  Val P w A μ (binOp op T x y) (jb op X Y).v:=by
 unfold Val;unfold jb at hc ⊢
 split at hc
 ·rename_i a' b';obtain⟨rfl,hx⟩:=hx;obtain⟨rfl,hy⟩:=hy;have e:=ie (P:=P) (w:=w) hT 9999 a' b';have e':(Op.equal T (.bool a') (.bool b')).run P w=.ok (a'==b') w:=e
  cases op<;>simp only[Out.bad]at hc ⊢
  ·exact⟨_,by simp only[binOp,Sem.run_bind,e',Result.andThen_ok,Sem.run_pure],cK _⟩
  ·exact⟨_,by simp only[binOp,Sem.run_bind,e',Result.andThen_ok,Sem.run_pure],cK _⟩
 ·grind [Out.bad]
theorem Pf(op:UnOp){X:AV}{x:Value}(hx:RV w A X μ x)(hc:(unA op X).c):Val P w A μ (Op.unary op x) (unA op X).v:=by
 unfold Val;unfold unA at hc ⊢
 split at hc
 ·obtain⟨rfl,hx⟩:=hx;exact⟨_,by simp[Op.unary],cK _⟩
 ·obtain⟨rfl,hx⟩:=hx;exact⟨_,by simp[Op.unary,Op.intArith],bG (dy _ _)⟩
 ·grind [Out.bad]
theorem Ft{C X Y:AV}{cc x y:Value}{t:Bool}(hC:C=.val (.bool t))(hcc:RV w A C μ cc)(hx:RV w A X μ x)(hy:RV w A Y μ y) :
  ∃cv,(do pure (.value (if ←asBool cc then x else y)):Sem Next).run P w=.ok (.value cv) w∧RV w A (pv t X Y) μ cv:=by
 subst hC;obtain⟨rfl,_⟩:=hcc;refine⟨if t then x else y,by simp[asBool],?_⟩;unfold pv
 split
 ·grind
 ·grind
theorem K5{T e ty:TypeId}(H:aA P c A μ fr tm hp n a w){X:AV}{x:Value}(hT:P.underlying T=some (.slice e))(hx:RV w A X μ x)(hc:(je hp X).c) :
  Val P w A μ (Builtin.len_ #[T] ty #[x]) (je hp X).v:=by
 unfold Val;unfold je at hc ⊢
 split at hc
 ·rename_i k es full
  rcases hx with⟨rfl,a0,rfl⟩|⟨blk,off,cap,vs,rfl,_,h1,h2,_⟩
  ·exact⟨_,by simp[Builtin.len_,run_underlying hT,goInt],bG (dt (by simp))⟩
  ·exact⟨_,by simp[Builtin.len_,run_underlying hT,goInt],bG (dt (by omega))⟩
 ·rename_i b
  split at hc
  ·rename_i k es hb;simp only[hb];obtain⟨hd,h1,h2,h3⟩:=H.vec hb;obtain⟨hd',e1,rfl⟩:=hx;rw[h1]at e1;cases e1
   rcases h3 with⟨rfl,a',h3⟩|⟨h3,h4,h5,h7,_⟩
   ·exact⟨_,by simp[Hd.val,h3,Builtin.len_,run_underlying hT,goInt],bG (dt (by simp))⟩
   ·exact⟨_,by simp[Hd.val,h3,h4,Builtin.len_,run_underlying hT,goInt],bG (dt (by omega))⟩
  ·rename_i k es len cap hb;simp only[hb];obtain⟨hd,h1,h2,h3,h4,h5,h6,h7,h8,_⟩:=H.row hb;obtain⟨hd',e1,rfl⟩:=hx;rw[h1]at e1;cases e1;exact⟨_,by simp[Hd.val,h3,h4,Builtin.len_,run_underlying hT,goInt],bG (dt (by omega))⟩
  ·grind [Out.bad]
 ·obtain⟨hd,cap,o,_,_,_,_,_,rfl⟩:=hx;exact⟨_,by simp[Builtin.len_,run_underlying hT,goInt],bG (dt hc)⟩
 ·obtain⟨hd,cap,o,_,_,_,_,rfl⟩:=hx;exact⟨_,by simp[Builtin.len_,run_underlying hT,goInt],bG (dt hc)⟩
 ·grind [Out.bad]
theorem F2{T ty:TypeId}{f:Nat}{ρ:AO→AV}{X:AO}{x:Value}(hT:P.underlying T=some .string)(hx:RV w A (ρ X) μ x)(hc:(evA (.lenS X) f ρ hp).c) :
  Val P w A μ (Builtin.len_ #[T] ty #[x]) (evA (.lenS X) f ρ hp).v:=by
 simp only[evA]at hc ⊢;generalize ρ X=Y at *
 cases Y<;>simp only[Out.bad]at hc;obtain⟨rfl,hps⟩:=hx;cases x<;>simp only[]at hc;exact⟨_,by simp[Builtin.len_,run_underlying hT,goInt],bG (dt hps)⟩
theorem K7{T e ty:TypeId}{f:Nat}{ρ:AO→AV}{X:AO}{x:Value}(H:aA P c A μ fr tm hp n a w)(hT:P.underlying T=some (.slice e))(hx:RV w A (ρ X) μ x)(hc:(evA (.cap X) f ρ hp).c) :
  Val P w A μ (Builtin.cap_ #[T] ty #[x]) (evA (.cap X) f ρ hp).v:=by
 simp only[evA]at hc ⊢
 split at hc
 ·rename_i k es heq;rw[heq]at hx
  rcases hx with⟨rfl,a0,rfl⟩|⟨blk,off,cap,vs,rfl,_,h1,h2,h3,_⟩
  ·exact⟨_,by simp[Builtin.cap_,run_underlying hT,goInt],bG (dt (by simp))⟩
  ·have:=h3 rfl;subst this;exact⟨_,by simp[Builtin.cap_,run_underlying hT,goInt],bG (dt (by omega))⟩
 ·rename_i b heq;rw[heq]at hx
  split at hc
  ·rename_i k es len cap hb;simp only[hb];obtain⟨hd,h1,h2,h3,h4,h5,h6,h7,h8,_⟩:=H.row hb;obtain⟨hd',e1,rfl⟩:=hx;rw[h1]at e1;cases e1;exact⟨_,by simp[Hd.val,h3,h5,Builtin.cap_,run_underlying hT,goInt],bG (dt (by omega))⟩
  ·exact hc.elim
 ·exact hc.elim
theorem sE{k:IntKind}:∀(Xs:List AV) (xs:List Value) (a m:Int),inK k a→RVL w A Xs μ xs→ix gW k a Xs=some m →
  (xs.foldlM Builtin.min2 (.int k a)).run P w=.ok (.int k m) w∧inK k m
 | [],xs,a,m,ha,h,e=>by
  simp[RVL]at h;subst h;simp[ix]at e;subst e;exact⟨rfl,ha⟩
 | X::Xs,xs,a,m,ha,⟨v,vs,h0,h1,h2⟩,e=>by
  subst h0;unfold ix at e
  split at e
  ·simp_all
  ·rename_i a' a2 l' k' b r heq;cases heq
   split at e
   ·rename_i hk;subst hk;obtain⟨rfl,hb⟩:=h1;have hm:inK k' (gW a' b):=by unfold gW;split<;>assumption
    have:=sE Xs vs (gW a' b) m hm h2 e
    grind [Builtin.min2,gW]
   ·cases e
  ·cases e
theorem sF{k:IntKind}:∀(Xs:List AV) (xs:List Value) (a m:Int),inK k a→RVL w A Xs μ xs→ix il k a Xs=some m →
  (xs.foldlM Builtin.max2 (.int k a)).run P w=.ok (.int k m) w∧inK k m
 | [],xs,a,m,ha,h,e=>by
  simp[RVL]at h;subst h;simp[ix]at e;subst e;exact⟨rfl,ha⟩
 | X::Xs,xs,a,m,ha,⟨v,vs,h0,h1,h2⟩,e=>by
  subst h0;unfold ix at e
  split at e
  ·simp_all
  ·rename_i a' a2 l' k' b r heq;cases heq
   split at e
   ·rename_i hk;subst hk;obtain⟨rfl,hb⟩:=h1;have hm:inK k' (il a' b):=by unfold il;split<;>assumption
    have:=sF Xs vs (il a' b) m hm h2 e
    grind [Builtin.max2,il]
   ·cases e
  ·cases e
theorem K2{ts:Array TypeId}{ty:TypeId}{Xs:List AV}{xs:List Value}(h:RVL w A Xs μ xs)(hc:(gQ gW Xs).c) :
  Val P w A μ (Builtin.min_ ts ty xs.toArray) (gQ gW Xs).v:=by
 unfold gQ at hc ⊢
 split at hc
 ·rename_i k a' r;obtain⟨v,vs,rfl,h1,h2⟩:=h;obtain⟨rfl,ha⟩:=h1
  split at hc
  ·rename_i m hm;have:=sE (P:=P) r vs a' m ha h2 hm;simp only[hm];exact⟨_,by simpa[Builtin.min_]using this.1,bG this.2⟩
  ·grind [Out.bad]
 ·grind [Out.bad]
theorem K3{ts:Array TypeId}{ty:TypeId}{Xs:List AV}{xs:List Value}(h:RVL w A Xs μ xs)(hc:(gQ il Xs).c) :
  Val P w A μ (Builtin.max_ ts ty xs.toArray) (gQ il Xs).v:=by
 unfold gQ at hc ⊢
 split at hc
 ·rename_i k a' r;obtain⟨v,vs,rfl,h1,h2⟩:=h;obtain⟨rfl,ha⟩:=h1
  split at hc
  ·rename_i m hm;have:=sF (P:=P) r vs a' m ha h2 hm;simp only[hm];exact⟨_,by simpa[Builtin.max_]using this.1,bG this.2⟩
  ·grind [Out.bad]
 ·grind [Out.bad]
theorem aA.evs(H:aA P c A μ fr tm hp n a w)(xs:List Operand):RVL w A (xs.map λx=>evO tm (cO P x)) μ (xs.map a.eval):=
 RVL.of_get (by simp) λi x v hx hv=>by
  simp only[S',aw']at hx hv;obtain⟨y,h1,rfl⟩:=hx;obtain⟨z,h2,rfl⟩:=hv;rw[h1]at h2;cases h2;exact H.ev y
end
end Go.Am
namespace Go.Am
section
variable {P : Program} {c : Ctx} {A : Nat → Prop} {μ : Mu} {fr : Nat → Prop} {tm : Nat → AV} {hp : Hp} {n : Nat} {a : Act} {w : World}
theorem Au{S:TypeId}{fs:Array Field}{i sz f:Nat}{fd:Field}(hu:P.underlying S=some (.struct fs))(hi:fs[i]?=some fd)(hs:sizeOf? P fd.type=some sz)(h0:0<sz)
  {X:AO} {x:Value} (hx:RV w A (evO tm X) μ x) (hc:(evA (.faddr fd.offset X) f (evO tm) hp).c) :
  Val P w A μ (Instr.fieldAt S x i) (evA (.faddr fd.offset X) f (evO tm) hp).v:=by
 have hz:sz≠0:=by omega
 have place:∀b o,(fieldPlace ⟨b,o,none⟩ fd).run P w=.ok ⟨b,o+fd.offset,none⟩ w:=by
  intro b o;simp[fieldPlace,aZ hs,hz,Addr.add_lit]
 have run:∀b o,(Instr.fieldAt S (.pointer (some ⟨b,o,none⟩)) i).run P w=.ok (.pointer (some ⟨b,o+fd.offset,none⟩)) w:=by
  intro b o;simp[Instr.fieldAt,run_underlying hu,hi,c8,place]
 simp only[evA]at hc ⊢;generalize evO tm X=Y at *
 cases Y<;>simp only[Out.bad]at hc
 case ref b off =>
  obtain⟨hd,h1,h2,rfl⟩:=hx;exact⟨_,run _ _,hd,h1,h2,rfl⟩
 case eref b j off =>
  obtain⟨hd,h1,h2,rfl⟩:=hx;exact⟨_,run _ _,hd,h1,h2,congrArg (λo=>Value.pointer (some ⟨hd.blk,o,none⟩)) (bH' _ _ _)⟩
 case rptr y off =>
  obtain⟨blk,o,v,rfl,h2,h3,h4,h5⟩:=hx;exact⟨_,run _ _,blk,o,v,congrArg (λo=>Value.pointer (some ⟨blk,o,none⟩)) (bH' _ _ _),h2,h3,h4,h5⟩
theorem vF{T:TypeId}{d:TypeDesc}{size off:Nat}(hu:P.underlying T=some d)(hs:sizeOf? P T=some size){y:AV}{vs:Array Value}
  (hy:RV w A y μ (.agg vs)) (hok:dp y off size (eU P T)) :
  Val P w A μ (part T vs off) (if eU P T then .agg ((y.cells.drop off).take size)else y.cells.getD off .unk):=by
 have hc:=RV.cells hok.1 hy;have hl:=hc.1.length;cases hg:eU P T with
 | true =>
  rw[hg]at hok;refine⟨_,?_,Cr hy hok rfl⟩;have:vs.extract off (off+size)=((vs.toList.drop off).take size).toArray:=by grind
  simp[part,fN hu,hg,aZ hs,this,Value.cells]
 | false =>
  rw[hg]at hok;have hlt:off<vs.size:=by have:=hok.2.1;have:=hok.2.2 rfl;simp[Value.cells]at hl;omega
  have hlt':off<y.cells.length:=by have:=hok.2.1;have:=hok.2.2 rfl;omega
  refine⟨vs[off],by simp[part,fN hu,hg,hlt],?_⟩;simp only[bk',↓reduceIte];refine hc.1.get2 (i:=off) ?_ (by simp[Value.cells,hlt]);rw[E' hlt'];simp[List.getD,E' hlt']
theorem su{y:AV}{v:Value}(hy:RV w A y μ v)(h:y.isAgg=true):∃vs,v=.agg vs:=⟨_,DX hy h⟩
theorem As{S:TypeId}{fs:Array Field}{i sz f:Nat}{fd:Field}{d:TypeDesc}(hu:P.underlying S=some (.struct fs))(hi:fs[i]?=some fd)(hd:P.underlying fd.type=some d)(hs:sizeOf? P fd.type=some sz)
  {X:AO} {x:Value} (hx:RV w A (evO tm X) μ x) (hc:(evA (.field (eU P fd.type) fd.offset sz X) f (evO tm) hp).c) :
  Val P w A μ (Instr.field S x i) (evA (.field (eU P fd.type) fd.offset sz X) f (evO tm) hp).v:=by
 simp only[evA]at hc ⊢;obtain⟨h1,h2⟩:=hc;obtain⟨vs,rfl⟩:=su hx h1;obtain⟨cv,h3,h4⟩:=vF hd hs hx h2;exact⟨cv,by simp[Instr.field,run_underlying hu,hi,asAgg,h3],h4⟩
theorem eA(k:IntKind)(m:Int):(asIntOf (.int k m)).run P w=.ok (k,m) w:=rfl
theorem Ar{T e:TypeId}{k f:Nat}(hu:P.underlying T=some (.slice e))(hs:sizeOf? P e=some k)(H:aA P c A μ fr tm hp n a w)
  {X I:AO} {x i:Value} (hx:RV w A (evO tm X) μ x) (hi:RV w A (evO tm I) μ i) (hc:(evA (.iaddr k X I) f (evO tm) hp).c) :
  Val P w A μ (Instr.indexAt T x i) (evA (.iaddr k X I) f (evO tm) hp).v:=by
 have run:∀(b o ln cap:Nat) (kk:IntKind) (m:Int),0≤m→m<ln→(Instr.indexAt T (.slice (some ⟨b,o,none⟩) ln cap) (.int kk m)).run P w=.ok (.pointer (some ⟨b,o+m.toNat * k,none⟩)) w:=by
  intro b o ln cap kk m h1 h2;simp[Instr.indexAt,eA,run_underlying hu,h1,h2,aZ hs,Addr.add_lit]
 simp only[evA]at hc ⊢;generalize evO tm X=Y at *
 generalize evO tm I=J at *
 cases J<;>simp only[Out.bad]at hc;rename_i iv;obtain⟨rfl,hi⟩:=hi;cases i<;>simp only[]at hc;rename_i kk m;cases Y<;>simp only[]at hc
 case sl k' es full =>
  obtain⟨rfl,h1,h2⟩:=hc;have hn:m.toNat<es.length:=by omega
  rcases hx with⟨rfl,a0,rfl⟩|⟨blk,off,cap,vs,rfl,g1,g2,g3,g4,g5,g6,g7,g8⟩
  ·simp_all
  ·have hxe:es[m.toNat]?=some (es.getD m.toNat .unk):=by simp[List.getD,E' hn]
   obtain⟨v,e1,e2⟩:=g5.get hxe;have hv:=g6 v (al' e1);refine⟨_,run blk off es.length cap kk m h1 h2,blk,off+m.toNat * k',v,rfl,g1,e2,hv.2,?_⟩;exact qc (λv hv=>(g6 v hv).1) g7 e1
 case vec b =>
  split at hc
  ·rename_i k' es hb;simp only[hb];obtain⟨rfl,h1,h2⟩:=hc;obtain⟨hd,e1,e2⟩:=hx;obtain⟨hd',f1,f2,f3⟩:=H.vec hb;rw[e1]at f1;cases f1
   rcases f3 with⟨rfl,_⟩|⟨g1,g2,_⟩
   ·grind
   ·refine⟨_,?_,hd,e1,g1,rfl⟩
    grind [Hd.val]
  ·exact hc.elim
 case vsub b lo ln =>
  split at hc
  ·rename_i k' es hb;simp only[hb];obtain⟨rfl,h1,h2⟩:=hc;obtain⟨hd,cap,o,e1,e2,e3,e4,_,rfl⟩:=hx;obtain⟨hd',f1,f2,f3⟩:=H.vec hb;rw[e1]at f1;cases f1;refine⟨_,run hd.blk o ln cap kk m h1 h2,hd,e1,e2,?_⟩
   grind
  ·exact hc.elim
 case asub b off ln k' =>
  obtain⟨rfl,h1,h2⟩:=hc;obtain⟨hd,cap,o,e1,e2,e3,e4,rfl⟩:=hx;refine⟨_,run hd.blk o ln cap kk m h1 h2,hd,e1,e2,?_⟩;rw[e4 (by omega)]
theorem xD{T e:TypeId}{N k f:Nat}(hu:P.underlying T=some (.array N e))(hs:sizeOf? P e=some k)
  {X I:AO} {x i:Value} (hx:RV w A (evO tm X) μ x) (hi:RV w A (evO tm I) μ i) (hc:(evA (.iaddrA N k X I) f (evO tm) hp).c) :
  Val P w A μ (Instr.indexAt T x i) (evA (.iaddrA N k X I) f (evO tm) hp).v:=by
 have run:∀b o kk (m:Int),0≤m→m<N→(Instr.indexAt T (.pointer (some ⟨b,o,none⟩)) (.int kk m)).run P w=.ok (.pointer (some ⟨b,o+m.toNat * k,none⟩)) w:=by
  intro b o kk m h1 h2;simp[Instr.indexAt,eA,run_underlying hu,h1,h2,aZ hs,Addr.add_lit,c8]
 simp only[evA]at hc ⊢;generalize evO tm X=Y at *
 generalize evO tm I=J at *
 cases J<;>simp only[Out.bad]at hc;rename_i iv;obtain⟨rfl,hi⟩:=hi;cases i<;>simp only[]at hc;rename_i kk m;cases Y<;>simp only[]at hc
 case ref b off =>
  obtain⟨hd,h1,h2,rfl⟩:=hx;exact⟨_,run _ _ _ _ hc.1 hc.2,hd,h1,h2,rfl⟩
 case eref b j off =>
  obtain⟨hd,h1,h2,rfl⟩:=hx;exact⟨_,run _ _ _ _ hc.1 hc.2,hd,h1,h2,congrArg (λo=>Value.pointer (some ⟨hd.blk,o,none⟩)) (bH' _ _ _)⟩
 case rptr y off =>
  obtain⟨blk,o,v,rfl,h2,h3,h4,h5⟩:=hx;exact⟨_,run _ _ _ _ hc.1 hc.2,blk,o,v,congrArg (λo=>Value.pointer (some ⟨blk,o,none⟩)) (bH' _ _ _),h2,h3,h4,h5⟩
theorem xC{T e:TypeId}{d:TypeDesc}{N k f:Nat}(hu:P.underlying T=some (.array N e))(he:P.underlying e=some d)(hs:sizeOf? P e=some k)
  {X I:AO} {x i:Value} (hx:RV w A (evO tm X) μ x) (hi:RV w A (evO tm I) μ i) (hc:(evA (.indexA N k (eU P e) X I) f (evO tm) hp).c) :
  Val P w A μ (Instr.index T x i) (evA (.indexA N k (eU P e) X I) f (evO tm) hp).v:=by
 simp only[evA]at hc ⊢;generalize evO tm X=Y at *
 generalize evO tm I=J at *
 cases J<;>simp only[Out.bad]at hc;rename_i iv;obtain⟨rfl,hi⟩:=hi;cases i<;>simp only[]at hc;rename_i kk m;obtain⟨h1,h2,h3,h4⟩:=hc;obtain⟨vs,rfl⟩:=su hx h1;obtain⟨cv,h5,h6⟩:=vF he hs hx h4;exact⟨cv,by simp[Instr.index,eA,run_underlying hu,h2,h3,aZ hs,h5],h6⟩
theorem xB{T:TypeId}{f:Nat}(hu:P.underlying T=some .string)
  {X I:AO} {x i:Value} (hx:RV w A (evO tm X) μ x) (hi:RV w A (evO tm I) μ i) (hc:(evA (.indexS X I) f (evO tm) hp).c) :
  Val P w A μ (Instr.index T x i) (evA (.indexS X I) f (evO tm) hp).v:=by
 simp only[evA]at hc ⊢;split at hc
 case h_2=>exact hc.elim
 rename_i s kk m hX hI;simp only[hX,hI]at hx hi ⊢;obtain⟨rfl,hx⟩:=hx;obtain⟨rfl,hi⟩:=hi;obtain⟨h1,h2⟩:=hc;have hlt:m.toNat<s.data.size:=by simp_all
 have hget:s[m.toNat]?=some s.data[m.toNat]:=by
  have hlt':m.toNat<s.size:=hlt;rw[getElem?_pos s m.toNat hlt'];rfl
 refine⟨.int .u8 s.data[m.toNat].toNat,by simp[Instr.index,eA,run_underlying hu,h1,hget],?_⟩;have e:s.data.getD m.toNat 0=s.data[m.toNat]:=by simp_all
 rw[e];exact bG (pR _)
theorem K6{i f:Nat}{X:AO}{x:Value}(hx:RV w A (evO tm X) μ x)(hc:(evA (.ext i X) f (evO tm) hp).c) :
  Val P w A μ (Instr.extract x i) (evA (.ext i X) f (evO tm) hp).v:=by
 simp only[evA]at hc ⊢;generalize evO tm X=Y at *
 cases Y<;>simp only[Out.bad]at hc;rename_i xs;obtain⟨vs,rfl,h⟩:=hx;have hxe:xs[i]?=some (xs.getD i .unk):=by simp_all
 obtain⟨v,e1,e2⟩:=h.get hxe;have e1':vs.toArray[i]?=some v:=by simpa using e1
 exact⟨v,by simp only[Instr.extract,e1'];rfl,e2⟩
end
end Go.Am
namespace Go.Am
section
variable {P : Program} {c : Ctx} {A : Nat → Prop} {μ : Mu} {fr : Nat → Prop} {tm : Nat → AV} {hp : Hp} {n : Nat} {a : Act} {w : World}
def fA:Option Int→Option Value→Prop
 | none,none=>True
 | some i,some (.int _ j)=>j=i
 | _,_=>False
theorem bP{k:IntKind}{i:Nat}{y:Nat}{code:BoundsCode}(h:i≤y):(Instr.sliceBound (.int k i) y code).run P w=.ok i w:=by
 have h1:(0:Int)≤(i:Int):=by omega
 have h2:(i:Int)≤(y:Int):=by omega
 simp[Instr.sliceBound,eA,h1,h2,h]
theorem fA.none{v:Option Value}(h:fA none v):v=none:=by cases v<;>simp_all [fA]
theorem fA.some{i:Int}{v:Option Value}(h:fA (some i) v):∃k,v=some (.int k i):=by
 cases v with
 | none=>simp[fA]at h
 | some x=>cases x<;>simp_all [fA]
theorem bT{isS:Bool}{ln cap:Nat}{lo hi mx:Option Int}{lo' hi' mx':Option Value}(h1:fA lo lo')(h2:fA hi hi')(h3:fA mx mx')
  {l h m:Nat} (hm:m≤cap∧(mx=none→m=cap)∧∀i,mx=some i→i=m) (hh:h≤m∧(hi=none→h=ln∧mx=none)∧∀i,hi=some i→i=h)
  (hl:l≤h∧(lo=none→l=0)∧∀i,lo=some i→i=l) :
  (Instr.sliceBounds isS ln cap lo' hi' mx').run P w=.ok (l,h,m) w:=by
 obtain⟨m1,m2,m3⟩:=hm;obtain⟨g1,g2,g3⟩:=hh;obtain⟨l1,l2,l3⟩:=hl;cases lo with
 | none =>
  obtain rfl:=h1.none;obtain rfl:=l2 rfl;cases hi with
  | none =>
   obtain⟨rfl,rfl⟩:=g2 rfl;obtain rfl:=h2.none;obtain rfl:=h3.none;obtain rfl:=m2 rfl;simp[Instr.sliceBounds]
  | some i =>
   obtain⟨k,rfl⟩:=h2.some;obtain rfl:=g3 i rfl;cases mx with
   | none =>
    obtain rfl:=h3.none;obtain rfl:=m2 rfl;simp[Instr.sliceBounds,bP g1]
   | some j =>
    obtain⟨k,rfl⟩:=h3.some;obtain rfl:=m3 j rfl;simp[Instr.sliceBounds,bP g1,bP m1]
 | some x =>
  obtain⟨k,rfl⟩:=h1.some;obtain rfl:=l3 x rfl;cases hi with
  | none =>
   obtain⟨rfl,rfl⟩:=g2 rfl;obtain rfl:=h2.none;obtain rfl:=h3.none;obtain rfl:=m2 rfl;simp[Instr.sliceBounds,bP l1]
  | some i =>
   obtain⟨k,rfl⟩:=h2.some;obtain rfl:=g3 i rfl;cases mx with
   | none =>
    obtain rfl:=h3.none;obtain rfl:=m2 rfl;simp[Instr.sliceBounds,bP g1,bP l1]
   | some j =>
    obtain⟨k,rfl⟩:=h3.some;obtain rfl:=m3 j rfl;simp[Instr.sliceBounds,bP g1,bP m1,bP l1]
theorem qZ{xs:List AV}{vs:List Value}(h:RVL w A xs μ vs)(i j:Nat):RVL w A ((xs.take i).drop j) μ ((vs.take i).drop j):=(h.take i).drop j
theorem iy{vs:List Value}{k:Nat}(hk:∀v∈vs,v.cells.size=k)(j:Nat):((vs.drop j).flatMap (·.cells.toList))=(vs.flatMap (·.cells.toList)).drop (j * k):=by
 induction j generalizing vs with
 | zero=>simp
 | succ j ih =>
  cases vs with
  | nil=>simp
  | cons x xs =>
   have hx:=hk x (by simp);rw[List.drop_succ_cons,ih (λv hv=>hk v (by simp[hv])),ap',aR',Nat.one_mul];rw[List.drop_append];have:x.cells.toList.length=k:=by simpa using hx
   have e:List.drop (j * k+k) x.cells.toList=[]:=bn' (by omega);rw[e,this,bA',bu']
theorem flat_take{vs:List Value}{k:Nat}(hk:∀v∈vs,v.cells.size=k)(j:Nat):((vs.take j).flatMap (·.cells.toList))=(vs.flatMap (·.cells.toList)).take (j * k):=by
 induction j generalizing vs with
 | zero=>simp
 | succ j ih =>
  cases vs with
  | nil=>simp
  | cons x xs =>
   have hx:=hk x (by simp);rw[List.take_succ_cons,ap',ih (λv hv=>hk v (by simp[hv])),ap',aR',Nat.one_mul];rw[List.take_append];have:x.cells.toList.length=k:=by simpa using hx
   have e:List.take (j * k+k) x.cells.toList=x.cells.toList:=G' (by omega);rw[e,this,bu']
theorem ci{T e:TypeId}{k:Nat}(hu:P.underlying T=some (.slice e))(hs:sizeOf? P e=some k){a:Option Addr}{ln cap l h m:Nat}{lo' hi' mx':Option Value}
  (hb:(Instr.sliceBounds true ln cap lo' hi' mx').run P w=.ok (l,h,m) w) :
  (Instr.sliceAt T (.slice a ln cap) lo' hi' mx').run P w=.ok (.slice (if m=l then a else a.map (·.add (l * k))) (h-l) (m-l)) w:=by
 simp[Instr.sliceAt,Instr.slice,run_underlying hu,hb,aZ hs]
theorem gw{ln cap l h m:Nat}{lo hi mx:Option Int}{lo' hi' mx':Option Value}(h1:fA lo lo')(h2:fA hi hi')(h3:fA mx mx')(el:lo.getD 0=l)(eh:hi.getD ln=h)(em:mx.getD cap=m)
  (c1:mx.isSome=true→hi.isSome=true) (d3:l≤h) (d4:h≤m) (d5:m≤cap):(Instr.sliceBounds true ln cap lo' hi' mx').run P w=.ok (l,h,m) w:=by
 have hlo:l≤h∧(lo=none→l=0)∧∀i,lo=some i→i=l:=
  ⟨d3,λe=>by subst e;simp at el;omega,λi e=>by subst e;simpa using el⟩
 cases hmx:mx with
 | none =>
  subst hmx;simp at em;have em:cap=m:=by omega
  subst em
  refine bT h1 h2 h3 ⟨V' _,λ_=>rfl,λi e=>by simp at e⟩ ⟨by omega,λe=>?_,λi e=>?_⟩ hlo
  ·grind
  ·simp_all
 | some j =>
  refine bT h1 h2 (hmx ▸ h3) ⟨by omega,λe=>by simp at e,λi e=>?_⟩ ⟨d4,λe=>?_,λi e=>?_⟩ hlo
  ·simp_all
  ·simp_all
  ·simp_all
theorem fc{T e:TypeId}{k:Nat}(hu:P.underlying T=some (.slice e))(hs:sizeOf? P e=some k)(H:aA P c A μ fr tm hp n a w)
  {X:AV} {x:Value} {lo hi mx:Option Int} {lo' hi' mx':Option Value} (h1:fA lo lo') (h2:fA hi hi') (h3:fA mx mx') (hx:RV w A X μ x)
  (hc:(sliceA hp k X lo hi mx).c):Val P w A μ (Instr.sliceAt T x lo' hi' mx') (sliceA hp k X lo hi mx).v:=by
 unfold Val;unfold sliceA at hc ⊢
 split at hc
 ·rename_i k' es full;simp only at hc ⊢;obtain⟨c0,c1,c2,c3,c4,c5⟩:=hc;have hn:∃l h m:Nat,lo.getD 0=l∧hi.getD es.length=h∧mx.getD es.length=m:=⟨_,_,_,(as' c2).symm,(as' (by omega)).symm,(as' (by omega)).symm⟩
  obtain⟨l,h,m,el,eh,em⟩:=hn;rw[el]at c2 c3;rw[eh]at c3 c4;rw[em]at c4 c5;rw[el,eh,em];simp only[Int.toNat_natCast];have d3:l≤h:=by omega
  have d4:h≤m:=by omega
  have d5:m≤es.length:=by omega
  have bnd:∀cap,es.length≤cap→∃m',h≤m'∧m'≤cap∧(mx.isSome=true→m'=m)∧(mx=none→m'=cap)∧(Instr.sliceBounds true es.length cap lo' hi' mx').run P w=.ok (l,h,m') w:=by
   intro cap hcap
   have hlo:l≤h∧(lo=none→l=0)∧∀i,lo=some i→i=l:=
    ⟨d3,λe=>by subst e;simp at el;omega,λi e=>by subst e;simpa using el⟩
   cases hmx:mx with
   | none =>
    refine⟨cap,by omega,V' _,λh=>by simp at h,λ_=>rfl,?_⟩
    refine bT h1 h2 (hmx ▸ h3) ⟨V' _,λ_=>rfl,λi e=>by simp at e⟩ ⟨by omega,λe=>?_,λi e=>?_⟩ hlo
    ·grind
    ·simp_all
   | some j =>
    refine⟨m,d4,by omega,λ_=>rfl,λh=>by simp at h,?_⟩
    refine bT h1 h2 (hmx ▸ h3) ⟨by omega,λe=>by simp at e,λi e=>?_⟩ ⟨d4,λe=>?_,λi e=>?_⟩ hlo
    ·simp_all
    ·simp_all
    ·simp_all
  rcases hx with⟨rfl,a0,rfl⟩|⟨blk,off,cap,vs,rfl,g1,g2,g3,g4,g5,g6,g7,g8⟩
  ·obtain⟨m',b1,b2,b3,b4,b5⟩:=bnd 0 (by simp);simp at d5;refine⟨_,ci hu hs b5,.inl ⟨by simp,a0,?_⟩⟩
   simp_all
  ·obtain⟨m',b1,b2,b3,b4,b5⟩:=bnd cap g2
   refine⟨_,ci hu hs b5,.inr ⟨blk,if m'=l then off else off+l * k,m' - l,(vs.take h).drop l,?_,g1,?_,?_,?_,qZ g5 h l,?_,?_,λx hx=>g8 x (T' (ak' hx))⟩⟩
   ·grind [Addr.add_lit]
   ·simp;omega
   ·omega
   ·intro hf;simp only[aJ',decide_eq_true_eq,bU']at hf;have hlen:((es.take h).drop l).length=h-l:=by simp;omega
    rw[hlen];obtain⟨f1,f2⟩:=hf
    rcases f2 with f2|f2
    ·grind
    ·have:=g4 f2;cases hmx:mx with
     | none=>rw[hmx]at em;simp at em;rw[b4 hmx];omega
     | some j=>rw[b3 (by simp[hmx])];omega
   ·grind
   ·intro p u hu'
    rcases c0 with c0|c0
    ·subst c0;have hk:∀v∈vs,v.cells.size=k':=λv hv=>(g6 v hv).1;rw[iy (λv hv=>hk v (T' hv)),flat_take hk,bi',am']at hu'
     grind
    ·simp_all
 ·rename_i b
  split at hc
  ·rename_i k' es hb;simp only[hb]at hc ⊢;obtain⟨rfl,c1,c2,c3,c4,c5⟩:=hc;obtain⟨hd,e1,e2⟩:=hx;obtain⟨hd',f1,f2,f3⟩:=H.vec hb;rw[e1]at f1;cases f1;have hn:∃l h m:Nat,lo.getD 0=l∧hi.getD es.length=h∧mx.getD es.length=m:=⟨_,_,_,(as' c2).symm,(as' (by omega)).symm,(as' (by omega)).symm⟩
   obtain⟨l,h,m,el,eh,em⟩:=hn;rw[el]at c2 c3;rw[eh]at c3 c4;rw[em]at c4 c5;rw[el,eh];have bnd:∀cap,es.length≤cap→∃m',(mx=none→m'=cap)∧l≤m'∧(Instr.sliceBounds true es.length cap lo' hi' mx').run P w=.ok (l,h,m') w:=by
    intro cap hcap;cases hmx:mx with
    | none =>
     subst hmx;exact⟨cap,λ_=>rfl,by omega,gw h1 h2 h3 el eh rfl c1 (by omega) (by simp at em;omega) (V' _)⟩
    | some j =>
     subst hmx;exact⟨m,(λe=>by cases e),by omega,gw h1 h2 h3 el eh (by simpa using em) c1 (by omega) (by omega) (by omega)⟩
   have e3:((h:Int)-(l:Int)).toNat=h-l:=by omega
   rw[e3]
   rcases f3 with⟨rfl,a0,f3⟩|⟨g1,g2,g3,g4,_⟩
   ·obtain⟨m',b1,b2,b3⟩:=bnd 0 (by simp);have hv:x=.slice a0 0 0:=by rw[e2,Hd.val,f3]
    subst hv;simp only[aC']at c4 c5;refine⟨_,ci hu hs b3,?_⟩;split
    case isTrue q=>exact absurd q.2 (by simp)
    split
    case isFalse=>trivial
    rename_i hm;have q1:=b1 hm;have q2:l=0:=by omega
    have q3:h=0:=by omega
    subst q1;subst q2;subst q3;exact⟨hd,e1,by rw[Hd.val,f3];simp⟩
   have hv:x=.slice (some ⟨hd.blk,0,none⟩) es.length hd.cap:=by rw[e2,Hd.val,g1,g2]
   subst hv;obtain⟨m',b1,b2,b3⟩:=bnd hd.cap (by omega);refine⟨_,ci hu hs b3,?_⟩;split
   case isFalse hmx =>
    split
    case isFalse=>trivial
    rename_i hm;have q0:es.length=0:=Nat.eq_zero_of_not_pos λh=>hmx ⟨hm,h⟩;have q1:=b1 hm;have q2:l=0:=by omega
    have q3:h=0:=by omega
    subst q1;subst q2;subst q3;exact⟨hd,e1,by rw[Hd.val,g1,g2,q0];simp[Addr.add_lit]⟩
   rename_i hmx;have:=b1 hmx.1;subst this
   refine⟨hd,hd.cap-l,if hd.cap=l then 0 else 0+l * k',e1,g1,by omega,?_,by omega,?_⟩
   ·grind
   ·grind [Addr.add_lit]
  ·rename_i k' es len cap hb;simp only[hb]at hc ⊢;obtain⟨rfl,c1,c2,c3,c4,c5⟩:=hc;obtain⟨hd,e1,e2⟩:=hx;obtain⟨hd',f1,f2,g1,g2,g3,g4,g5,g6,_⟩:=H.row hb;rw[e1]at f1;cases f1;have hn:∃l h m:Nat,lo.getD 0=l∧hi.getD len=h∧mx.getD cap=m:=⟨_,_,_,(as' c2).symm,(as' (by omega)).symm,(as' (by omega)).symm⟩
   obtain⟨l,h,m,el,eh,em⟩:=hn;rw[el]at c2 c3;rw[eh]at c3 c4;rw[em]at c4 c5;rw[el,eh];have e3:((h:Int)-(l:Int)).toNat=h-l:=by omega
   rw[e3];have hv:x=.slice (some ⟨hd.blk,0,none⟩) len cap:=by rw[e2,Hd.val,g1,g2,g3]
   subst hv;refine⟨_,ci hu hs (gw h1 h2 h3 el eh em c1 (by omega) (by omega) (by omega)),?_⟩;split
   case isFalse=>trivial
   rename_i hmx;subst hmx;simp at em;have em:m=cap:=by omega
   subst em
   refine⟨hd,m-l,if m=l then 0 else 0+l * k',e1,g1,by omega,?_,by omega,?_⟩
   ·grind
   ·grind [Addr.add_lit]
  ·exact hc.elim
 ·rename_i b o ln;simp only at hc ⊢;obtain⟨rfl,c2,c3,c4,hb⟩:=hc;obtain⟨hd,cap,oo,e1,e2,e3,e4,e4',rfl⟩:=hx;have f2:hd.k=k:=by
   rcases hb with⟨es,hb⟩|⟨es,len,cap,hb⟩
   ·obtain⟨hd',f1,f2,_⟩:=H.vec hb;rw[e1]at f1;cases f1;exact f2
   ·obtain⟨hd',f1,f2,_⟩:=H.row hb;rw[e1]at f1;cases f1;exact f2
  have hn:∃l h:Nat,lo.getD 0=l∧hi.getD ln=h:=⟨_,_,(as' c2).symm,(as' (by omega)).symm⟩
  obtain⟨l,h,el,eh⟩:=hn;rw[el]at c2 c3;rw[eh]at c3 c4;rw[el,eh];have hb':(Instr.sliceBounds true ln cap lo' hi' mx').run P w=.ok (l,h,cap) w:=by
   refine bT h1 h2 h3 ⟨V' _,λ_=>rfl,λi e=>by simp at e⟩ ⟨by omega,λe=>?_,λi e=>?_⟩ ⟨by omega,λe=>?_,λi e=>?_⟩
   ·grind
   ·simp_all
   ·grind
   ·simp_all
  have e5:((h:Int)-(l:Int)).toNat=h-l:=by omega
  rw[e5]
  refine⟨_,ci hu hs hb',hd,cap-l,if cap=l then oo else oo+l * k,e1,e2,by omega,?_,by omega,?_⟩
  ·intro h0;have:oo=o * hd.k:=e4 (by omega);rw[u' (by omega),this,f2];simp[aR']
  ·grind [Addr.add_lit]
 ·rename_i b o ln k';simp only at hc ⊢;obtain⟨rfl,rfl,c2,c3,c4⟩:=hc;obtain⟨hd,cap,oo,e1,e2,e3,e4,rfl⟩:=hx;have hn:∃l h:Nat,lo.getD 0=l∧hi.getD ln=h:=⟨_,_,(as' c2).symm,(as' (by omega)).symm⟩
  obtain⟨l,h,el,eh⟩:=hn;rw[el]at c2 c3;rw[eh]at c3 c4;rw[el,eh];have hb':(Instr.sliceBounds true ln cap lo' hi' mx').run P w=.ok (l,h,cap) w:=by
   refine bT h1 h2 h3 ⟨V' _,λ_=>rfl,λi e=>by simp at e⟩ ⟨by omega,λe=>?_,λi e=>?_⟩ ⟨by omega,λe=>?_,λi e=>?_⟩
   ·grind
   ·simp_all
   ·grind
   ·simp_all
  have e5:((h:Int)-(l:Int)).toNat=h-l:=by omega
  rw[e5]
  refine⟨_,ci hu hs hb',hd,cap-l,if cap=l then oo else oo+l * k',e1,e2,by omega,?_,?_⟩
  ·grind
  ·grind [Addr.add_lit]
 ·exact hc.elim
end
end Go.Am
namespace Go.Am
section
variable {P : Program} {c : Ctx} {A : Nat → Prop} {μ : Mu} {fr : Nat → Prop} {tm : Nat → AV} {hp : Hp} {n : Nat} {a : Act} {w : World}
theorem mF{d:Nat}{lo:Option Operand}{i:Int}(H:aA P c A μ fr tm hp n a w)(h:nL d ((lo.map (cO P)).map (evO tm))=some i) :
  ∃o:Option Int,fA o (lo.map a.eval)∧o.getD d=i:=by
 cases lo with
 | none=>simp[nL]at h;exact⟨none,trivial,by simp[h]⟩
 | some x =>
  have hx:=H.ev x;simp only[ah']at h;unfold nL at h
  split at h
  ·simp_all
  ·rename_i k j e;simp at e h;subst h;rw[e]at hx;obtain⟨hx,_⟩:=hx;exact⟨some j,by simp[fA,hx],rfl⟩
  ·cases h
theorem oz(s:ByteArray)(i j:Nat):(s.extract i j).size≤s.size:=by grind [ByteArray.size_extract]
theorem xz{T:TypeId}{f:Nat}(hu:P.underlying T=some .string)(H:aA P c A μ fr tm hp n a w){x:Operand}{lo hi:Option Operand}
  (hc:(evA (.sliceS (cO P x) (lo.map (cO P)) (hi.map (cO P))) f (evO tm) hp).c) :
  Val P w A μ (Instr.sliceAt T (a.eval x) (lo.map a.eval) (hi.map a.eval) none) (evA (.sliceS (cO P x) (lo.map (cO P)) (hi.map (cO P))) f (evO tm) hp).v:=by
 have hx:=H.ev x;simp only[evA]at hc ⊢;generalize evO tm (cO P x)=X at *
 generalize a.eval x=xv at *
 cases X<;>simp only[Out.bad]at hc;rename_i sv;obtain⟨rfl,hx⟩:=hx;cases xv<;>simp only[]at hc;rename_i s;simp only[]at hc ⊢;split at hc
 case h_2=>exact hc.elim
 rename_i l' h' el eh;obtain⟨o1,f1,rfl⟩:=mF H el;obtain⟨o2,f2,rfl⟩:=mF H eh;obtain⟨c1,c2,c3⟩:=hc;dsimp only;have hn:∃l h:Nat,o1.getD (0:Nat)=l∧o2.getD s.size=h:=⟨_,_,(as' c1).symm,(as' (by omega)).symm⟩
 obtain⟨l,h,gl,gh⟩:=hn;rw[gl]at c1 c2;rw[gh]at c2 c3;rw[gl,gh];have hb:(Instr.sliceBounds false s.size s.size (lo.map a.eval) (hi.map a.eval) none).run P w=.ok (l,h,s.size) w:=by
  refine bT (mx:=none) (mx':=none) f1 f2 trivial ⟨V' _,λ_=>rfl,λi e=>by simp at e⟩ ⟨by omega,λe=>?_,λi e=>?_⟩ ⟨by omega,λe=>?_,λi e=>?_⟩
  ·grind
  ·simp_all
  ·grind
  ·simp_all
 rw[Int.toNat_natCast,Int.toNat_natCast]
 refine⟨.string (s.extract l h),?_,rfl,?_⟩
 ·simp[Instr.sliceAt,Instr.slice,run_underlying hu,hb]
 ·grind [oz,maxLen,aU]
theorem xA{T e:TypeId}{N k f:Nat}(hu:P.underlying T=some (.array N e))(hs:sizeOf? P e=some k)(H:aA P c A μ fr tm hp n a w){x:Operand}{lo hi:Option Operand}
  (hc:(evA (.sliceA N k (cO P x) (lo.map (cO P)) (hi.map (cO P))) f (evO tm) hp).c) :
  Val P w A μ (Instr.sliceAt T (a.eval x) (lo.map a.eval) (hi.map a.eval) none) (evA (.sliceA N k (cO P x) (lo.map (cO P)) (hi.map (cO P))) f (evO tm) hp).v:=by
 have hx:=H.ev x;simp only[evA]at hc ⊢;generalize evO tm (cO P x)=X at *
 generalize a.eval x=xv at *
 cases X<;>simp only[Out.bad]at hc;rename_i b off;obtain⟨hd,e1,e2,rfl⟩:=hx;split at hc
 case h_2=>exact hc.elim
 rename_i l' h' el eh;obtain⟨o1,f1,rfl⟩:=mF H el;obtain⟨o2,f2,rfl⟩:=mF H eh;obtain⟨c1,c2,c3,c4⟩:=hc;dsimp only;have hn:∃l h:Nat,o1.getD (0:Nat)=l∧o2.getD N=h:=⟨_,_,(as' c1).symm,(as' (by omega)).symm⟩
 obtain⟨l,h,gl,gh⟩:=hn;rw[gl]at c1 c2;rw[gh]at c2 c3;rw[gl,gh];have hb:(Instr.sliceBounds false N N (lo.map a.eval) (hi.map a.eval) none).run P w=.ok (l,h,N) w:=by
  refine bT (mx:=none) (mx':=none) f1 f2 trivial ⟨V' _,λ_=>rfl,λi e=>by simp at e⟩ ⟨by omega,λe=>?_,λi e=>?_⟩ ⟨by omega,λe=>?_,λi e=>?_⟩
  ·grind
  ·simp_all
  ·grind
  ·simp_all
 have e3:((h:Int)-(l:Int)).toNat=h-l:=by omega
 simp only[e3,Int.toNat_natCast]
 refine⟨_,?_,hd,N-l,if N=l then off else off+l * k,e1,e2,by omega,?_,rfl⟩
 ·simp only[Instr.sliceAt,Sem.run_bind,run_underlying hu,Result.andThen_ok,c8,hb,aZ hs,Sem.run_pure]
  grind [Addr.add_lit]
 ·grind
theorem Aw{S D:TypeId}{k k0:IntKind}{f:Nat}(hs:P.underlying S=some (.int k0))(hd:P.underlying D=some (.int k)){X:AO}{x:Value}(hx:RV w A (evO tm X) μ x)
  (hc:(evA (.convI k X) f (evO tm) hp).c):Val P w A μ (convert S D x) (evA (.convI k X) f (evO tm) hp).v:=by
 simp only[evA]at hc ⊢;generalize evO tm X=Y at *
 cases Y<;>simp only[Out.bad]at hc;obtain⟨rfl,_⟩:=hx;cases x<;>simp only[]at hc;exact⟨_,by simp[convert,run_underlying hs,run_underlying hd,Conv.intToInt],bG (dy _ _)⟩
theorem Av{S D:TypeId}{f:Nat}(hs:P.underlying S=some .string)(hd:P.underlying D=some .string){X:AO}{x:Value}(hx:RV w A (evO tm X) μ x)(hc:(evA (.convS X) f (evO tm) hp).c) :
  Val P w A μ (convert S D x) (evA (.convS X) f (evO tm) hp).v:=by
 simp only[evA]at hc ⊢;generalize evO tm X=Y at *
 cases Y<;>simp only[Out.bad]at hc;obtain⟨rfl,h⟩:=hx;cases x<;>simp only[]at hc;exact⟨_,by simp[convert,run_underlying hs,run_underlying hd],rfl,h⟩
theorem jE:∀{es:List AV} {vs:List Value} {bs:List UInt8},RVL w A es μ vs→cG es=some bs →
  ∃ns:List Int,vs=ns.map (Value.int .u8)∧ns.map (λn=>UInt8.ofNat n.toNat)=bs∧(∀v∈vs,v.cells=#[v])
 | [],vs,bs,h,e=>by simp_all [cG,RVL]
 | x::xs,vs,bs,⟨v,vs',h0,h1,h2⟩,e=>by
  subst h0;unfold cG at e
  split at e
  ·simp_all
  ·rename_i nn r heq;cases heq;cases hr:cG xs with
   | none=>simp[hr]at e
   | some bs' =>
    simp[hr]at e;subst e;obtain⟨ns,f1,f2,f3⟩:=jE h2 hr;obtain⟨rfl,hin⟩:=h1;refine⟨nn::ns,by simp[f1],by simp[f2],?_⟩;intro v hv
    rcases P'.1 hv with rfl|hv
    ·rfl
    ·exact f3 v hv
  ·cases e
theorem Aj(ns:List Int):∀(s:ByteArray),ns.foldl (λ(r:ByteArray) n=>r.push (UInt8.ofNat n.toNat)) s=⟨s.data++(ns.map (λn=>UInt8.ofNat n.toNat)).toArray⟩:=by
 induction ns with
 | nil=>intro s;simp
 | cons n ns ih =>
  intro s;rw[ax',ih]
  congr 1
  apply bX';simp[ByteArray.push]
theorem fC{b o ln cap:Nat}{es:List AV}{vs:List Value}{bs:List UInt8}(h:RVL w A es μ vs)(he:cG es=some bs)(hl:es.length=ln)
  (hr:∀p u,(vs.flatMap (·.cells.toList))[p]?=some u→w.cell? ⟨b,o+p,none⟩=some u) :
  (Conv.bytesToString (.slice (some ⟨b,o,none⟩) ln cap)).run P w=.ok (.string ⟨bs.toArray⟩) w:=by
 obtain⟨ns,f1,f2,f3⟩:=jE h he;have hf:vs.flatMap (·.cells.toList)=vs:=by
  clear hr h f1
  induction vs with
  | nil=>rfl
  | cons v vs ih=>rw[ap',f3 v (by simp),ih (λu hu=>f3 u (by simp[hu]))];rfl
 rw[hf]at hr;have h1:=run_loadCells_list (P:=P) w ⟨b,o,none⟩ vs (λj u hj=>by rw[Addr.add_lit];exact hr j u hj);rw[←h.length,hl,f1]at h1;have h2:=run_bytesToString (P:=P) w ⟨b,o,none⟩ ln cap ns h1;rw[h2,Aj,f2];simp
theorem lq:∀{es:List AV} {bs:List UInt8},cG es=some bs→bs.length=es.length
 | [],bs,e=>by simp[cG]at e;subst e;rfl
 | x::xs,bs,e=>by
  unfold cG at e
  split at e
  ·simp_all
  ·rename_i nn r heq;cases heq;cases hr:cG xs with
   | none=>simp[hr]at e
   | some bs'=>simp[hr]at e;subst e;simp[lq hr]
  ·cases e
theorem xG{S D e:TypeId}{f:Nat}(hs:P.underlying S=some (.slice e))(he:P.underlying e=some (.int .u8))(hd:P.underlying D=some .string)(H:aA P c A μ fr tm hp n a w)
  {X:AO} {x:Value} (hx:RV w A (evO tm X) μ x) (hc:(evA (.convBS X) f (evO tm) hp).c) :
  Val P w A μ (convert S D x) (evA (.convBS X) f (evO tm) hp).v:=by
 unfold Val;simp only[evA]at hc ⊢;generalize evO tm X=Y at *
 split at hc
 ·rename_i es full;split at hc
  case h_2=>exact hc.elim
  rename_i bs hbs
  rcases hx with⟨rfl,a0,rfl⟩|⟨blk,off,cap,vs,rfl,g1,g2,g3,g4,g5,g6,g7,g8⟩
  ·simp[cG]at hbs;subst hbs;refine⟨.string ⟨[].toArray⟩,?_,rfl,aS' _⟩;rw[run_convert_bytes_string w S D e _ _ _ hs he hd];cases a0 with
   | none=>rfl
   | some aa=>simp[Conv.bytesToString,loadCells,loadCellsFrom];rfl
  ·refine⟨_,by rw[run_convert_bytes_string w S D e _ _ _ hs he hd];exact fC g5 hbs rfl g7,rfl,?_⟩;have hl:=lq hbs;show bs.toArray.size≤maxLen;simp;omega
 ·rename_i b
  split at hc
  ·rename_i es hb;split at hc
   case h_2=>exact hc.elim
   rename_i bs hbs;simp only[hb,hbs];obtain⟨hd',e1,e2⟩:=hx;obtain⟨hd'',f1,f2,f3⟩:=H.vec hb;rw[e1]at f1;cases f1
   rcases f3 with⟨rfl,a',f3⟩|⟨g1,g2,g3,g4,C,ty,vs,k1,k2,k3,k4,k5,k6,k7⟩
   ·simp[cG]at hbs;subst hbs;refine⟨_,?_,rfl,aS' _⟩;rw[e2,Hd.val,f3];simp only[];rw[run_convert_bytes_string w S D e _ _ _ hs he hd];cases a' with
    | none=>rfl
    | some aa=>simp[Conv.bytesToString,loadCells,loadCellsFrom];rfl
   ·refine⟨_,?_,rfl,?_⟩
    ·rw[e2,Hd.val,g1];simp only[];rw[run_convert_bytes_string w S D e _ _ _ hs he hd];exact fC (o:=0) k2 hbs g2.symm (λp u hu=>by rw[aB'];exact k7 p u hu)
    ·have hl:=lq hbs;show bs.toArray.size≤maxLen;simp;omega
  ·exact hc.elim
 ·rename_i b o ln;split at hc
  case h_2=>exact hc.elim
  rename_i cs hcs;split at hc
  case h_2=>exact hc.elim
  rename_i bs hbs;simp only[hcs,hbs];obtain⟨c1,c2⟩:=hc;unfold i9 at hcs;split at hcs
  case h_2=>cases hcs
  rename_i y hy;split at hcs
  case isFalse=>cases hcs
  cases hcs;obtain⟨hd1,v,ty,e1,e2,e3,e4,e5,e6⟩:=H.box hy;obtain⟨hd',cap,oo,f1,f2,f3,f4,rfl⟩:=hx;rw[e1]at f1;cases f1;have hcl:=RV.cells e3 e4;have hll:=hcl.1.length;have hlen:((y.cells.drop o).take ln).length=ln:=by simp;omega
  have hrv:=(hcl.1.drop o).take ln;obtain⟨ns,k1,k2,k3⟩:=jE hrv hbs;have hf:((v.cells.toList.drop o).take ln).flatMap (·.cells.toList)=(v.cells.toList.drop o).take ln:=by
   clear e6 hrv k1 hlen hll hcl;generalize (v.cells.toList.drop o).take ln=us at *
   induction us with
   | nil=>rfl
   | cons u us ih=>rw[ap',k3 u (by simp),ih (λu hu=>k3 u (by simp[hu]))];rfl
  refine⟨.string ⟨bs.toArray⟩,?_,rfl,by show bs.toArray.size≤maxLen;simpa using c2⟩;rw[run_convert_bytes_string w S D e _ _ _ hs he hd];refine fC hrv hbs hlen (λp u hu=>?_);rw[hf,am']at hu
  split at hu
  ·rename_i hlt;rw[bi']at hu;rw[f4 (by omega)];have:=e6 (o+p) u (by simpa using hu);simpa using this
  ·cases hu
 ·exact hc.elim
theorem jp{T:TypeId}{k:EK}(hb:uM P T=some k){vs:Array Value}{off:Nat}{v:Value}(hv:vs[off]?=some v):(part T vs off).run P w=.ok v w:=by
 unfold uM at hb
 split at hb
 ·rename_i hu;simp[part,isAgg,run_underlying hu,hv]
 ·rename_i hu;simp[part,isAgg,run_underlying hu,hv]
 ·rename_i hu;simp[part,isAgg,run_underlying hu,hv]
 ·cases hb
theorem tG:∀(fs:List Field) (j d:Nat) (vs us:Array Value) (xs ys:List AV) (ks:List EK) (b:Bool),xq P fs j=some ks→RVL w A xs μ (vs.toList.drop j)→RVL w A ys μ (us.toList.drop j) →
  ce ks xs ys=some b→(Op.eqFields (d+1) vs us fs).run P w=.ok b w:=by
 intro fs
 induction fs with
 | nil =>
  intro j d vs us xs ys ks b hf hx hy he;simp[xq]at hf;subst hf;cases xs<;>cases ys<;>simp[ce]at he;subst he;simp[Op.eqFields]
 | cons f fs ih =>
  intro j d vs us xs ys ks b hf hx hy he;unfold xq at hf;split at hf
  case h_2=>cases hf
  rename_i k ks' hb hr;split at hf
  case isFalse=>cases hf
  rename_i hoff;simp only[aJ',bY',bne_iff_ne,ne_eq]at hoff;obtain⟨ho,hn⟩:=hoff;cases hf;cases xs with
  | nil=>cases k<;>simp[ce]at he
  | cons x xs =>
   cases ys with
   | nil=>cases k<;>simp[ce]at he
   | cons y ys =>
    have hvd:∀(zs:Array Value) (z:AV) (zz:List AV),RVL w A (z::zz) μ (zs.toList.drop j)→∃v,zs[j]?=some v∧RV w A z μ v∧RVL w A zz μ (zs.toList.drop (j+1)):=by
     intro zs z zz hz;obtain⟨v,vs',e1,e2,e3⟩:=hz;have hj:zs[j]?=some v:=by
      have:(zs.toList.drop j)[0]?=some v:=by rw[e1];rfl
      grind
     refine⟨v,hj,e2,?_⟩;have:zs.toList.drop (j+1)=vs':=by rw[←List.drop_drop,e1];rfl
     rw[this];exact e3
    obtain⟨v,v1,v2,v3⟩:=hvd vs x xs hx;obtain⟨u,u1,u2,u3⟩:=hvd us y ys hy;simp only[Op.eqFields,ne_eq,hn,not_false_eq_true,if_true,Sem.run_bind,ho,jp hb v1,jp hb u1,Result.andThen_ok]
    have fin:∀(r:Bool),(Op.equalIn (d+1) f.type v u).run P w=.ok r w→(ce ks' xs ys).map (r && ·)=some b →
      ((Op.equalIn (d+1) f.type v u).run P w).andThen (λa_1 w'=>(if(!a_1)=true then pure false else Op.eqFields (d+1) vs us fs:Sem Bool).run P w')=.ok b w:=by
     intro r h1 h2;rw[h1];cases hq:ce ks' xs ys with
     | none=>simp[hq]at h2
     | some q =>
      have:=ih (j+1) d vs us xs ys ks' q hr v3 u3 hq;rw[hq]at h2;simp only[ah',aK']at h2;cases r<;>simp at h2<;>subst h2<;>simp[this]
    unfold uM at hb
    cases k
    ·split at hb<;>cases hb;rename_i kk hu;unfold ce at he;split at he<;>try (first|(cases he;done)|(rename_i h _ _;cases h;done))
     rename_i h1 h2 h3;cases h1;cases h2;cases h3;obtain⟨rfl,_⟩:=v2;obtain⟨rfl,_⟩:=u2
     grind [run_equalIn_int]
    ·split at hb<;>cases hb;rename_i hu;unfold ce at he;split at he<;>try (first|(cases he;done)|(rename_i h _ _;cases h;done))
     rename_i h1 h2 h3;cases h1;cases h2;cases h3;obtain⟨rfl,_⟩:=v2;obtain⟨rfl,_⟩:=u2
     grind [ie]
    ·split at hb<;>cases hb;rename_i hu;unfold ce at he;split at he<;>try (first|(cases he;done)|(rename_i h _ _;cases h;done))
     rename_i h1 h2 h3;cases h1;cases h2;cases h3;obtain⟨rfl,_⟩:=v2;obtain⟨rfl,_⟩:=u2
     grind [run_equalIn_string]
theorem xE{T:TypeId}{ks:List EK}{ne:Bool}{f:Nat}(hT:Kh P T=some ks)(op:BinOp)(hop:op=if ne then .neq else .eql){x y:Operand}(H:aA P c A μ fr tm hp n a w)
  (hc:(evA (.eqs ks ne (cO P x) (cO P y)) f (evO tm) hp).c) :
  ∃cv,(do eqGuard op T x y (a.eval x) (a.eval y);binOp op T (a.eval x) (a.eval y):Sem Value).run P w=.ok cv w∧RV w A (evA (.eqs ks ne (cO P x) (cO P y)) f (evO tm) hp).v μ cv:=by
 have hx:=H.ev x;have hy:=H.ev y;simp only[evA]at hc ⊢;split at hc
 case h_2=>exact hc.elim
 rename_i xs ys hX hY;split at hc
 case h_2=>exact hc.elim
 rename_i b hb;rw[hX]at hx;rw[hY]at hy;simp only[hX,hY,hb];obtain⟨vs,e1,e2,_⟩:=hx;obtain⟨us,g1,g2,_⟩:=hy;unfold Kh at hT;split at hT
 case h_2=>cases hT
 rename_i fs hu;split at hT
 case isFalse=>cases hT
 rename_i hh;simp only[aJ',be']at hh;have hfo:P.fieldsOf T=fs:=by simp[Program.fieldsOf,hu]
 have hs:=run_equalIn_struct (P:=P) w 9999 T vs.toArray us.toArray (by rw[hfo];exact hu) hh.1;rw[hfo,tG fs.toList 0 9998 vs.toArray us.toArray xs ys ks b hT (by simpa using e2) (by simpa using g2) hb]at hs;rw[e1,g1];rw[Sem.run_bind,run_eqGuard_agg w op T x y _ _ hh.2,Result.andThen_ok];subst hop
 cases ne
 ·exact⟨.bool b,by simp only[bk',↓reduceIte];rw[run_eql_struct,hs];rfl,cK _⟩
 ·exact⟨.bool (!b),by simp only[↓reduceIte];rw[run_neq_struct,hs];rfl,cK _⟩
theorem iw(xs:List Value):∀(cs:Array Value) (off j:Nat),off+j+xs.length≤cs.size →
  (xs.zipIdx j).foldl (λ(cs:Array Value) (p:Value×Nat)=>cs.setIfInBounds (off+p.2) p.1) cs=(cs.toList.take (off+j)++xs++cs.toList.drop (off+j+xs.length)).toArray:=by
 induction xs with
 | nil=>intro cs off j h;simp
 | cons x xs ih =>
  intro cs off j h;simp only[List.zipIdx_cons,ax'];rw[ih _ _ _ (by simp at h ⊢;omega)];apply bX';have e:=list_seg_step cs.toList (off+j) x xs (by simp at h ⊢;omega);simp only[Array.toList_setIfInBounds];simpa[bH']using e
theorem ph{place:Nat→Option (Nat×Nat)}:∀(ps:List (Nat×Value)) (qs:List (Nat×Nat×AV)) (cs:Array Value) (zs:List AV),
  qs.length=ps.length→(∀(i:Nat) (p:Nat×Value) (q:Nat×Nat×AV),ps[i]?=some p→qs[i]?=some q→place p.1=some (q.1,q.2.1)∧RV w A q.2.2 μ p.2) →
  RVL w A zs μ cs.toList→(∀v∈cs.toList,v.oneCell'=true)→uz cs.size qs →
  ∃cs',Instr.fill place cs ps=some cs'∧RVL w A (Kn zs qs) μ cs'.toList∧(∀v∈cs'.toList,v.oneCell'=true)
 | [],qs,cs,zs,hl,_,hz,ho,_=>by
  have:qs=[]:=aG' (by simpa using hl);subst this;exact⟨cs,rfl,hz,ho⟩
 | (i,v)::ps,[],cs,zs,hl,_,_,_,_=>by simp at hl
 | (i,v)::ps,(off,sz,x)::qs,cs,zs,hl,hp,hz,ho,hk=>by
  obtain⟨h1,h2⟩:=hp 0 _ _ rfl rfl;obtain⟨k1,k2,k3⟩:=hk (off,sz,x) (by simp);simp only at h1 h2 k1 k2 k3;obtain⟨r1,r2⟩:=RV.cells k1 h2;have r3:=r1.length;have hsz:v.cells.size=sz:=by simp at r3;omega
  have hfold:=iw v.cells.toList cs off 0 (by simp;omega)
  have ih:=ph ps qs (cs.toList.take off++v.cells.toList++cs.toList.drop (off+v.cells.toList.length)).toArray (jk zs off x.cells) (by simpa using hl)
   (λj p q hj hq=>hp (j+1) p q (by simpa using hj) (by simpa using hq)) (by
    unfold jk;have hxl:x.cells.length=v.cells.toList.length:=by simpa using r3
    rw[hxl];simpa using((hz.take off).append r1).append (hz.drop (off+v.cells.toList.length)))
   (by
    intro u hu;simp only[L']at hu
    rcases hu with(hu|hu)|hu
    ·grind
    ·exact r2 u hu
    ·exact ho u (ak' hu))
   (by
    intro q hq;have:=hk q (by simp[hq]);refine⟨this.1,this.2.1,?_⟩;have hle:=this.2.2;simp;omega)
  obtain⟨cs',e1,e2,e3⟩:=ih;refine⟨cs',?_,e2,e3⟩;simp only[Instr.fill,h1];rw[u' (by simp;omega)];rw[←e1]
  congr 1
  simp only[bE']at hfold
  grind [Array.toList_zipIdx]
end
end Go.Am
namespace Go.Am
section
variable {P : Program} {c : Ctx} {A : Nat → Prop} {μ : Mu} {fr : Nat → Prop} {tm : Nat → AV} {hp : Hp} {n : Nat} {a : Act} {w : World}
theorem fk{t:TypeId}{z:AV}(hz:cn P t=some z):∃v,(zeroValue t).run P w=.ok v w∧z=iK v:=by
 unfold cn at hz;cases hi:P.info? t with
 | none=>simp[hi]at hz
 | some i =>
  cases hv:i.zero with
  | none=>simp[hi,hv]at hz
  | some v=>simp[hi,hv]at hz;exact⟨v,by simp[zeroValue,typeInfo,hi,hv],hz.symm⟩
theorem ol{fs:Array Field}:∀(ps:List (Nat×Operand)) (qs:List (Nat×Nat×AO)),nK P fs ps=some qs →
  qs.length=ps.length∧∀(i:Nat) (p:Nat×Operand) (q:Nat×Nat×AO),ps[i]?=some p→qs[i]?=some q→∃fd,fs[p.1]?=some fd∧q.1=fd.offset∧sizeOf? P fd.type=some q.2.1∧q.2.2=cO P p.2
 | [],qs,h=>by simp[nK]at h;subst h;simp
 | (i,x)::ps,qs,h=>by
  unfold nK at h;split at h
  case h_1=>cases h
  rename_i fd hfd;split at h
  case h_2=>cases h
  rename_i s r' hs hr;cases h;obtain⟨h1,h2⟩:=ol ps r' hr
  grind
theorem wv{fs:Array Field}(hf:∀f∈fs.toList,∃s,sizeOf? P f.type=some s) :
  ∃places:Array (Nat×Nat),(fs.mapM λf=>do pure (f.offset,←sizeOf f.type):Sem (Array (Nat×Nat))).run P w=.ok places w ∧
   places.size=fs.size∧∀(i:Nat) (fd:Field) (s:Nat),fs[i]?=some fd→sizeOf? P fd.type=some s→places[i]?=some (fd.offset,s):=by
 have key:∀(l:List Field),(∀f∈l,∃s,sizeOf? P f.type=some s)→∃pl:List (Nat×Nat),(l.mapM λf=>do pure (f.offset,←sizeOf f.type):Sem (List (Nat×Nat))).run P w=.ok pl w ∧
   pl.length=l.length∧∀(i:Nat) (fd:Field) (s:Nat),l[i]?=some fd→sizeOf? P fd.type=some s→pl[i]?=some (fd.offset,s):=by
  intro l
  induction l with
  | nil=>intro _;exact⟨[],by simp,rfl,by simp⟩
  | cons f l ih =>
   intro h;obtain⟨s,hs⟩:=h f (by simp);obtain⟨pl,e1,e2,e3⟩:=ih (λg hg=>h g (by simp[hg]))
   refine⟨(f.offset,s)::pl,?_,by simp[e2],?_⟩
   ·rw[List.mapM_cons];simp only[Sem.run_bind,aZ hs,Result.andThen_ok,Sem.run_pure,e1]
   ·grind
 obtain⟨pl,e1,e2,e3⟩:=key fs.toList hf
 refine⟨pl.toArray,?_,by simpa using e2,?_⟩
 ·grind [Array.mapM_eq_mapM_toList,Sem.run_map,Result.andThen_ok]
 ·simp_all
theorem mC{T:TypeId}{fs:Array Field}{z:List AV}{parts:Array (Nat×Operand)}{qs:List (Nat×Nat×AO)}{f:Nat}
  (hu:P.underlying T=some (.struct fs)) (hz:cn P T=some (.agg z)) (hq:nK P fs parts.toList=some qs) (hfs:∀f∈fs.toList,∃s,sizeOf? P f.type=some s) (H:aA P c A μ fr tm hp n a w)
  (hc:(evA (.build z qs) f (evO tm) hp).c) :
  Val P w A μ (Instr.build T (parts.map λ(i,x)=>(i,a.eval x))) (evA (.build z qs) f (evO tm) hp).v:=by
 simp only[evA]at hc ⊢;obtain⟨zv,hz1,hz2⟩:=fk (w:=w) hz;have hzr:RV w A (.agg z) μ zv:=by rw[hz2];exact dB zv
 obtain⟨vs,rfl,hzl,hzo⟩:=hzr;obtain⟨places,p1,p2,p3⟩:=wv (P:=P) (w:=w) hfs;obtain⟨q1,q2⟩:=ol parts.toList qs hq;have hlen:=hzl.length;obtain⟨cs',e1,e2,e3⟩:=ph (w:=w) (A:=A) (μ:=μ) (place:=(places[·]?)) (parts.toList.map λp=>(p.1,a.eval p.2)) (qs.map λp=>(p.1,p.2.1,evO tm p.2.2)) vs.toArray z (by simp[q1]) (by
   intro i p q hp hq;simp only[S',aw']at hp hq;obtain⟨p',h1,rfl⟩:=hp;obtain⟨q',h2,rfl⟩:=hq;obtain⟨fd,g1,g2,g3,g4⟩:=q2 i p' q' h1 h2
   refine⟨?_,?_⟩
   ·simp_all
   ·simp only[g4];exact H.ev _) (by simpa using hzl) (by simpa using hzo) (by simpa[←hlen]using hc)
 refine⟨.agg cs',?_,cs'.toList,by simp,e2,e3⟩;simp only[Instr.build,Sem.run_bind,hz1,Result.andThen_ok,run_underlying hu,p1,Value.cells];have:(Array.map (λx=>(x.fst,a.eval x.snd)) parts).toList=parts.toList.map λp=>(p.1,a.eval p.2):=by simp
 rw[this,e1];rfl
theorem nC{T e:TypeId}{N s:Nat}{z:List AV}{parts:Array (Nat×Operand)}{f:Nat}
  (hu:P.underlying T=some (.array N e)) (hz:cn P T=some (.agg z)) (hs:sizeOf? P e=some s) (H:aA P c A μ fr tm hp n a w)
  (hc:(evA (.build z (parts.toList.map λ(i,x)=>(i * s,s,cO P x))) f (evO tm) hp).c) :
  Val P w A μ (Instr.build T (parts.map λ(i,x)=>(i,a.eval x))) (evA (.build z (parts.toList.map λ(i,x)=>(i * s,s,cO P x))) f (evO tm) hp).v:=by
 simp only[evA]at hc ⊢;obtain⟨zv,hz1,hz2⟩:=fk (w:=w) hz;have hzr:RV w A (.agg z) μ zv:=by rw[hz2];exact dB zv
 obtain⟨vs,rfl,hzl,hzo⟩:=hzr;have hlen:=hzl.length;obtain⟨cs',e1,e2,e3⟩:=ph (w:=w) (A:=A) (μ:=μ) (place:=λi=>some (i * s,s)) (parts.toList.map λp=>(p.1,a.eval p.2)) ((parts.toList.map λp=>(p.1 * s,s,cO P p.2)).map λp=>(p.1,p.2.1,evO tm p.2.2)) vs.toArray z (by simp) (by
   intro i p q hp hq;simp only[S',aw']at hp hq;obtain⟨p',h1,rfl⟩:=hp;obtain⟨q',⟨q'',h2,rfl⟩,rfl⟩:=hq;rw[h1]at h2;cases h2;exact⟨rfl,H.ev _⟩) (by simpa using hzl) (by simpa using hzo) (by simpa[←hlen]using hc)
 refine⟨.agg cs',?_,cs'.toList,by simp,e2,e3⟩;simp only[Instr.build,Sem.run_bind,hz1,Result.andThen_ok,run_underlying hu,aZ hs,Value.cells];have:(Array.map (λx=>(x.fst,a.eval x.snd)) parts).toList=parts.toList.map λp=>(p.1,a.eval p.2):=by simp
 rw[this,e1];rfl
theorem K1{g f:Nat}{caps:Array Operand}(H:aA P c A μ fr tm hp n a w) :
  Val P w A μ (Instr.makeFunc (.func g) ((#[]:Array Operand).map a.eval) (caps.map a.eval)) (evA (.mkf g (caps.toList.map (cO P))) f (evO tm) hp).v:=by
 refine⟨_,rfl,caps.toList.map a.eval,?_,?_⟩
 ·have e1:(#[]:Array Operand).map a.eval=#[]:=by simp
  have e2:caps.map a.eval=(caps.toList.map a.eval).toArray:=by apply bX';simp
  rw[e1,e2]
 ·have:=H.evs caps.toList
  grind [evA,List.map_map,Function.comp_def]
def cd(P:Program)(c:Ctx)(fr:Nat→Prop)(tm:Nat→AV)(hp:Hp)(n:Nat)(a:Act)(w:World)(f:Nat)(s:Sem Value)(out:Out):Prop:=
 ∃cv w' A' μ',s.run P w=.ok cv w'∧aA P c A' μ' (λb=>fr b∧b≠f) tm (bQ out hp) n a w'∧RV w' A' out.v μ' cv
theorem Val.does{s:Sem Value}{out:Out}{f:Nat}(H:aA P c A μ fr tm hp n a w)(h:Val P w A μ s out.v)(h1:out.rm=none)(h2:out.ad=none):cd P c fr tm hp n a w f s out:=by
 obtain⟨cv,e1,e2⟩:=h;refine⟨cv,w,A,μ,e1,?_,e2⟩;have:bQ out hp=hp:=by simp[bQ,h1,h2]
 rw[this];exact H.free λb hb=>hb.1
theorem aA.newOwn(H:aA P c A μ fr tm hp n a w){f:Nat}(hf:fr f){w':World}(hos:w'.os=w.os)(htape:w'.tape=w.tape)(hout:w'.output=w.output)
  (hsize:w.heap.size<w'.heap.size) (hkeep:∀k,k<w.heap.size→w'.heap[k]?=w.heap[k]?) (hd:Hd) (he:hd.emp=none) (hb:hd.blk=w.heap.size) (x:Blk)
  (hok:∀A':Nat→Prop,(∀b,A b→A' b)→cJ A w w'→dw w' A' (upd μ f (some hd)) hd x) :
  ∃A',aA P c A' (upd μ f (some hd)) (λb=>fr b∧b≠f) tm (upd hp f (some x)) n a w':=by
 obtain⟨f1,f2⟩:=H.fr f hf;obtain⟨h1,h2⟩:=H.step (w':=w') hos htape hout (Nat.le_of_lt hsize) hp (λ_ _ h=>h) (λk hk _=>hkeep k hk) (λ_=>False) (λ_ h=>h.elim)
 refine⟨_,h1.add f f2 (upd μ f (some hd)) ?_ (λb hb=>az _ _ hb) hd (ai _ _ _) x (hok _ (λb hb=>.inl hb) h2) ?_ ?_⟩
 ·intro b g hg
  grind [az]
 ·intro _;rw[hb];refine⟨?_,hsize,.inr H.keep.size⟩
  rintro(h|h)
  ·have:=H.lt _ h;omega
  ·exact h
 ·intro b x' hd' hx' hm he' _ e;obtain⟨hd'',g1,_,g3⟩:=H.blk b x' hx'
  simp_all
theorem cD(H:aA P c A μ fr tm hp n a w){f:Nat}(hf:fr f)(hd:Hd):bp μ (upd μ f (some hd)):=by
 intro b g hg
 by_cases e:b=f
 ·subst e;rw[(H.fr b hf).1]at hg;cases hg
 ·grind [az]
theorem xH{T:TypeId}{X:AO}{x:Value}{f:Nat}(H:aA P c A μ fr tm hp n a w)(hf:fr f)(hx:RV w A (evO tm X) μ x)(hc:(evA (.box X) f (evO tm) hp).c)
  (s:Sem Value) (hs:s.run P w=.ok (.pointer (some ⟨w.heap.size,0,none⟩)) (w.alloc (.cells x.cells T))) :
  cd P c fr tm hp n a w f s (evA (.box X) f (evO tm) hp):=by
 simp only[evA]at hc ⊢
 let hd:Hd:=⟨none,w.heap.size,0,0,0⟩
 obtain⟨A',h⟩:=H.newOwn hf (w':=w.alloc (.cells x.cells T)) rfl rfl rfl (by simp) (λk hk=>heap_alloc_old w _ hk) hd rfl rfl (.box (evO tm X))
  (λA' hA hs=>⟨rfl,hc,x,T,hx.mono hs hA _ (cD H hf hd),heap_alloc_new w _⟩)
 exact⟨_,_,A',_,hs,h,hd,ai _ _ _,rfl,rfl⟩
theorem aA.newRO(H:aA P c A μ fr tm hp n a w){w':World}(hos:w'.os=w.os)(htape:w'.tape=w.tape)(hout:w'.output=w.output)
  (hsize:w.heap.size<w'.heap.size) (hkeep:∀k,k<w.heap.size→w'.heap[k]?=w.heap[k]?) :
  aA P c (λb=>A b∨b=w.heap.size) μ fr tm hp n a w'∧cJ A w w':=
 H.step hos htape hout (Nat.le_of_lt hsize) hp (λ_ _ h=>h) (λk hk _=>hkeep k hk) (λb=>b=w.heap.size) (λb hb=>⟨by omega,by omega⟩)
theorem xo{vs:List Value}{k:Nat}(hk:∀v∈vs,v.cells.size=k):∀{i:Nat} {v:Value},i<vs.length→v.cells.size=k →
  ((vs.set i v).flatMap (·.cells.toList))=(vs.flatMap (·.cells.toList)).take (i * k)++v.cells.toList++(vs.flatMap (·.cells.toList)).drop (i * k+k):=by
 intro i v hi hv;have e1:=flat_take hk i;have e2:=iy hk (i+1);rw[aR',Nat.one_mul]at e2;rw[←e1,←e2];have:vs.set i v=vs.take i++[v]++vs.drop (i+1):=by
  rw[cb',if_pos hi];simp
 rw[this];simp
theorem iH{k:Nat}:∀(ps:List (Nat×Value)) (qs:List (Nat×AV)) (vs:List Value) (es:List AV),
  qs.length=ps.length→(∀(i:Nat) (p:Nat×Value) (q:Nat×AV),ps[i]?=some p→qs[i]?=some q→q.1=p.1∧RV w A q.2 μ p.2) →
  RVL w A es μ vs→(∀v∈vs,v.cells.size=k∧cq v)→w9 k vs.length qs →
  (∀x∈es,x.solid=true)→∃vs',(∀x∈ri es qs,x.solid=true)∧Instr.fill (λi=>some (i * k,k)) (vs.flatMap (·.cells.toList)).toArray ps=some (vs'.flatMap (·.cells.toList)).toArray∧RVL w A (ri es qs) μ vs'∧(∀v∈vs',v.cells.size=k∧cq v)∧vs'.length=vs.length
 | [],qs,vs,es,hl,_,hz,ho,_=>by
  intro hso;have:qs=[]:=aG' (by simpa using hl);subst this;exact⟨vs,hso,rfl,hz,ho,rfl⟩
 | (i,v)::ps,[],vs,es,hl,_,_,_,_=>by simp at hl
 | (i,v)::ps,(j,x)::qs,vs,es,hl,hp,hz,ho,hk=>by
  intro hso;obtain⟨h1,h2⟩:=hp 0 _ _ rfl rfl;obtain⟨k1,k2,k3⟩:=hk (j,x) (by simp);simp only at h1 h2 k1 k2 k3;subst h1;obtain⟨r1,r2⟩:=RV.cells k1 h2;have r3:=r1.length;have hsz:v.cells.size=k:=by simp at r3;omega
  have hflen:=flat_len (λv hv=>(ho v hv).1);have hle:j * k+k≤vs.length * k:=by
   have:=ae' k (show j+1≤vs.length from k3)
   rwa [aR',Nat.one_mul]at this
  have hfold:=iw v.cells.toList (vs.flatMap (·.cells.toList)).toArray (j * k) 0 (by simp only[bE',bC',List.size_toArray,hflen];omega)
  have hset:=xo (λv hv=>(ho v hv).1) k3 hsz
  obtain⟨vs',e0,e1,e2,e3,e4⟩:=iH ps qs (vs.set j v) (es.set j x) (by simpa using hl)
   (λi p q hi hq=>hp (i+1) p q (by simpa using hi) (by simpa using hq)) (hz.set j h2)
   (by
    intro u hu
    rcases bp' hu with hu|rfl
    ·exact ho u hu
    ·exact⟨hsz,r2⟩)
   (by
    intro q hq;have:=hk q (by simp[hq]);simpa using this)
   (by
    intro u hu
    rcases bp' hu with hu|rfl
    ·exact hso u hu
    ·exact k1)
  refine⟨vs',e0,?_,e2,e3,by simpa using e4⟩;simp only[Instr.fill];rw[u' (by simp only[hsz,List.size_toArray,hflen];simp;omega)];rw[←e1]
  congr 1
  simp only[bE']at hfold;rw[hset];rw[←Array.foldl_toList,Array.toList_zipIdx];rw[hfold];simp[hsz]
end
end Go.Am
namespace Go.Am
section
variable {P : Program} {c : Ctx} {A : Nat → Prop} {μ : Mu} {fr : Nat → Prop} {tm : Nat → AV} {hp : Hp} {n : Nat} {a : Act} {w : World}
theorem cU{e:TypeId}{cells:Array Value}:(newRow e cells).run P w=.ok ⟨w.heap.size,0,none⟩ (w.alloc (.cells cells e)):=rfl
theorem cP(n:Nat)(v:Value):((List.replicate n v).flatMap (·.cells.toList))=(List.replicate n v.cells.toList).flatten:=by
 induction n with
 | zero=>rfl
 | succ n ih=>simp only[List.replicate_succ,ap',List.flatten_cons,ih]
theorem eW(z:Array Value)(n:Nat)(hz:0<z.size):((Array.range (n * z.size)).map (λi=>z[i % z.size]!)).toList=(List.replicate n z.toList).flatten:=by
 rw[Array.toList_map,Array.toList_range]
 induction n with
 | zero=>simp
 | succ n ih =>
  rw[List.replicate_succ',List.flatten_append,←ih,aR',Nat.one_mul,List.range_add,List.map_append,aV']
  congr 1
  simp only[List.flatten_cons,List.flatten_nil,az'];apply by';intro i;simp only[S',Function.comp_apply]
  rcases cn' i z.size with h|h
  ·rw[List.getElem?_range h];simp only[ah',Function.comp_apply]
   grind [Nat.mul_comm,Nat.mul_add_mod,Nat.mod_eq_of_lt]
  ·simp_all
theorem K4{T e:TypeId}{k N f:Nat}{z:AV}{parts:Array (Nat×Operand)}
  (hu:P.underlying T=some (.slice e)) (hs:sizeOf? P e=some k) (hz:cn P e=some z) (hk:0<k∧z.solid=true∧z.cells.length=k∧N * k≤2 ^ 24) (H:aA P c A μ fr tm hp n a w)
  (hc:(evA (.lit k N z (parts.toList.map λ(i,x)=>(i,cO P x))) f (evO tm) hp).c) :
  cd P c fr tm hp n a w f (Instr.buildSlice T N (parts.map λ(i,x)=>(i,a.eval x))) (evA (.lit k N z (parts.toList.map λ(i,x)=>(i,cO P x))) f (evO tm) hp):=by
 obtain⟨hk0,hzs,hzl,hN⟩:=hk;simp only[evA]at hc ⊢;obtain⟨hc,hpu⟩:=hc;obtain⟨zv,hz1,hz2⟩:=fk (w:=w) hz;have hzr:RV w A z dC zv:=by rw[hz2];exact dB zv
 obtain⟨r1,r2⟩:=RV.cells hzs hzr;have r3:=r1.length;have hzk:zv.cells.size=k:=by simp at r3;omega
 obtain⟨vs',e0,e1,e2,e3,e4⟩:=iH (w:=w) (A:=A) (μ:=dC) (k:=k) (parts.toList.map λp=>(p.1,a.eval p.2)) ((parts.toList.map λp=>(p.1,cO P p.2)).map λp=>(p.1,evO tm p.2)) (List.replicate N zv) (List.replicate N z) (by simp) (by
   intro i p q hp hq;simp only[S',aw']at hp hq;obtain⟨p',h1,rfl⟩:=hp;obtain⟨q',⟨q'',h2,rfl⟩,rfl⟩:=hq;rw[h1]at h2;cases h2;refine⟨rfl,RV.pure (hpu (p'.1,evO tm (cO P p'.2)) ?_) (H.ev _)⟩;simp only[aV',R',Function.comp_apply];exact⟨p',al' h1,rfl⟩)
  (RVL.of_get (by simp) λi x v hx hv=>by
   simp only[aN']at hx hv;split at hx<;>cases hx
   split at hv<;>cases hv
   ·exact hzr
   ·omega)
  (by intro v hv;rw[aD' hv];exact⟨hzk,r2⟩) (by simpa using hc) (by intro x hx;rw[aD' hx];exact hzs)
 have hrow:(Array.range (N * k)).map (λi=>zv.cells[i % zv.cells.size]!)=((List.replicate N zv).flatMap (·.cells.toList)).toArray:=by grind [Array.ext',eW,cP]
 have e5:vs'.length=N:=by simpa using e4
 have hrun:(Instr.buildSlice T N (parts.map λ(i,x)=>(i,a.eval x))).run P w=.ok (.slice (some ⟨w.heap.size,0,none⟩) N N) (w.alloc (.cells (vs'.flatMap (·.cells.toList)).toArray e)):=by
  have hpl:(Array.map (λx=>(x.fst,a.eval x.snd)) parts).toList=parts.toList.map λp=>(p.1,a.eval p.2):=by simp
  simp only[Instr.buildSlice,Sem.run_bind,run_underlying hu,Result.andThen_ok,aZ hs];rw[Sem.run_ite,u' (by omega)]
  by_cases h0:N=0
  ·subst h0;have hv':vs'=[]:=aG' e5;subst hv';have hr0:∀g:Nat→Value,(Array.range 0).map g=#[]:=λg=>by simp
   simp only[Nat.zero_mul,↓reduceIte,Sem.run_pure,Result.andThen_ok,hr0];simp only[ct',List.flatMap_nil]at e1;have e1':Instr.fill (λi=>some (i * k,k)) #[] (Array.map (λx=>(x.fst,a.eval x.snd)) parts).toList=some #[]:=by rw[hpl];exact e1
   simp only[e1',Sem.run_bind,cU,Result.andThen_ok,Sem.run_pure];rfl
  ·have hne:N * k≠0:=by
    have:=Nat.mul_pos (Nat.pos_of_ne_zero h0) hk0;omega
   simp only[hne,↓reduceIte,Sem.run_bind,hz1,Result.andThen_ok,Sem.run_pure,hrow,hpl,e1,cU]
 obtain⟨h1,h2⟩:=H.newRO (w':=w.alloc (.cells (vs'.flatMap (·.cells.toList)).toArray e)) rfl rfl rfl (by simp) (λk hk=>heap_alloc_old w _ hk)
 have hle:(ri (List.replicate N z) ((parts.toList.map λp=>(p.1,cO P p.2)).map λp=>(p.1,evO tm p.2))).length=N:=by rw[e2.length,e5]
 refine⟨_,_,_,μ,hrun,h1.free λb hb=>hb.1,?_⟩
 refine .inr ⟨w.heap.size,0,N,vs',?_,.inr rfl,?_,?_,λ_=>?_,RVL.mono h2 (λ_ h=>.inl h) _ (bp.refl _) e2,e3,λp u hu=>?_,e0⟩
 ·rw[hle]
 ·omega
 ·have:N≤N * k:=Nat.le_mul_of_pos_right _ hk0;unfold maxLen;omega
 ·rw[hle]
 ·simp_all
theorem Ew{α:Type}(C Y:List α)(M a k off:Nat)(hM:M≤C.length)(ha:a+k≤M)(hk:off+Y.length≤k) :
  (C.take (a+off)++Y++C.drop (a+off+Y.length)).take M =
   (C.take M).take a++((((C.take M).drop a).take k).take off++Y++(((C.take M).drop a).take k).drop (off+Y.length))++(C.take M).drop (a+k):=by
 apply by';intro p;simp only[List.getElem?_append,am',bi',Y',aa',bv'];have e1:min (a+off) C.length=a+off:=by omega
 have e2:min M C.length=M:=by omega
 have e3:min a M=a:=by omega
 have e4:min k (M-a)=k:=by omega
 have e5:min off k=off:=by omega
 rw[e1,e2,e3,e4,e5]
 by_cases h1:p<a
 ·grind
 ·grind
theorem dK{g:Nat}{old cs:Array Value}{t:TypeId}{f:Nat×Nat}(hg:w.heap[g]?=some (.cells old t f)):(w.setRow g cs).heap[g]?=some (.cells cs t f):=setRow_heap w g old cs t f hg
theorem aA.write(H:aA P c A μ fr tm hp n a w){b:Nat}{x0 x:Blk}{hd:Hd}(hb:hp b=some x0)(hm:μ b=some hd)(he:hd.emp=none)(cs:Array Value)
  (hok:∀w':World,w'=w.setRow hd.blk cs→cJ A w w'→dw w' A μ hd x) :
  aA P c A μ (λx=>fr x) tm (upd (upd hp b none) b (some x)) n a (w.setRow hd.blk cs):=by
 obtain⟨hd',e1,_,e3⟩:=H.blk b x0 hb;rw[hm]at e1;cases e1;obtain⟨g1,g2,g3⟩:=e3 he;obtain⟨h1,h2⟩:=H.step (w':=w.setRow hd.blk cs) rfl rfl rfl (by simp) (upd hp b none) (λb' y hy=>by
   by_cases e:b'=b
   ·grind [ai]
   ·rwa [az _ _ e]at hy)
  (λk hk hne=>setRow_other w hd.blk k cs (hne b x0 hd hb (ai _ _ _) hm he)) (λ_=>False) (λ_ h=>h.elim)
 have hA:(λx=>A x∨False)=A:=by funext x;simp
 rw[hA]at h1;have h3:=h1.add b (ai _ _ _) μ (bp.refl _) (λ_ _=>rfl) hd hm x (hok _ rfl h2) (λ_=>⟨g1,by simpa using g2,g3⟩) (by
  intro b' x' hd' hx' hm' he' _ heq
  by_cases e:b'=b
  ·grind [ai]
  ·rw[az _ _ e]at hx';exact e (H.inj b' b x' x0 hd' hd hx' hb hm' hm he' he heq))
 refine h3.free λy hy=>⟨hy,?_⟩
 rintro rfl;rw[(H.fr y hy).2]at hb;cases hb
theorem pg{y v:AV}{yv vv:Value}{off:Nat}{size:Nat}(hy:RV w A y μ yv)(hv:RV w A v μ vv)(hok:nR y off size v) :
  (dL y off v).solid=true∧∃z,RV w A (dL y off v) μ z∧z.cells.toList=yv.cells.toList.take off++vv.cells.toList++yv.cells.toList.drop (off+vv.cells.toList.length):=by
 obtain⟨h1,h2,h3,h4⟩:=hok;obtain⟨y1,y2⟩:=RV.cells h1 hy;obtain⟨v1,v2⟩:=RV.cells h2 hv;have l1:=y1.length;have l2:=v1.length;unfold dL
 split
 ·rename_i h;obtain⟨rfl,h6,h7⟩:=h
  grind
 ·refine⟨rfl,.agg (yv.cells.toList.take off++vv.cells.toList++yv.cells.toList.drop (off+vv.cells.toList.length)).toArray,⟨_,rfl,?_,?_⟩,by simp[Value.cells]⟩
  ·unfold jk;rw[l2];exact((y1.take off).append v1).append (y1.drop _)
  ·intro u hu;simp only[L']at hu
   rcases hu with(hu|hu)|hu
   ·exact y2 u (T' hu)
   ·exact v2 u hu
   ·exact y2 u (ak' hu)
theorem iZ{t ty:TypeId}{size g o:Nat}(hs:sizeOf? P ty=some size){cur:Array Value}(hg:w.heap[g]?=some (.cells cur t (0,0))){v:Value}(hv:v.cells.size=size)(hl:o+size≤cur.size)(ho:cq v) :
  (storeVar ty ⟨g,o,none⟩ v).run P w=.ok () (w.setRow g (cur.toList.take o++v.cells.toList++cur.toList.drop (o+v.cells.toList.length)).toArray):=by
 have h:=run_storeCells_at (P:=P) g o t v.cells.toList 0 cur w hg (by simp;omega) ho;simp only[bE']at h;simp only[storeVar,Sem.run_bind,aZ hs,Result.andThen_ok];simp[hv,h]
def Ee(P:Program)(c:Ctx)(fr:Nat→Prop)(tm:Nat→AV)(hp:Hp)(n:Nat)(a:Act)(w:World)(s:Sem Unit)(out:Out):Prop:=
 ∃w' A' μ',s.run P w=.ok () w'∧aA P c A' μ' fr tm (bQ out hp) n a w'
theorem Aq{T:TypeId}{size f:Nat}(hs:sizeOf? P T=some size)(H:aA P c A μ fr tm hp n a w){x y:Operand}(hc:(evA (.store size (cO P x) (cO P y)) f (evO tm) hp).c) :
  Ee P c fr tm hp n a w (Instr.storeAt T (a.eval x) (a.eval y)) (evA (.store size (cO P x) (cO P y)) f (evO tm) hp):=by
 have hx:=H.ev x;have hy:=H.ev y;unfold Ee;simp only[evA]at hc ⊢;generalize evO tm (cO P x)=X at *
 generalize a.eval x=xv at *
 generalize evO tm (cO P y)=Y at *
 generalize a.eval y=yv at *
 cases X<;>simp only[Out.bad]at hc
 case ref b off =>
  obtain⟨hd,h1,h2,rfl⟩:=hx;split at hc
  case h_2=>exact hc.elim
  rename_i z hb;simp only[hb];obtain⟨hd',v,ty,e1,e2,e3,e4,e5,e6⟩:=H.box hb;rw[h1]at e1;cases e1;obtain⟨c1,c2,c3,c4⟩:=hc;obtain⟨r1,r2⟩:=RV.cells c2 hy;have r3:=r1.length;have r4:=(RV.cells c1 e4).1.length;have hst:=iZ (P:=P) hs e5 (o:=off) (v:=yv) (by simp at r3;omega) (by simp at r4;omega) r2;refine⟨_,A,μ,by simp only[Instr.storeAt,Sem.run_bind,c8,Result.andThen_ok];exact hst,?_⟩;refine H.write hb h1 h2 _ (λw' hw' hs=>?_);obtain⟨k1,zz,k2,k3⟩:=pg e4 hy ⟨c1,c2,c3,c4⟩;refine⟨h2,k1,zz,ty,k2.mono hs (λ_ h=>h) _ (bp.refl _),?_⟩;rw[hw',dK e5,←k3,Array.toArray_toList]
 case eref b i off =>
  obtain⟨hd,h1,h2,rfl⟩:=hx;split at hc
  case h_2=>exact hc.elim
  rename_i k es hb;simp only[hb];obtain⟨hi,c1,c2,c3,c4⟩:=hc;obtain⟨hd',e1,e2,e3⟩:=H.vec hb;rw[h1]at e1;cases e1
  rcases e3 with⟨rfl,_⟩|⟨g1,g2,g3,g4,C,ty,vs,k1,k2,k3,k4,k5,k6,k7⟩
  ·simp at hi
  have hxe:es[i]?=some (es.getD i .unk):=by simp_all
  obtain⟨v,e1,e4⟩:=k2.get hxe;have hvk:=k4 v (al' e1);obtain⟨r1,r2⟩:=RV.cells c2 hy;have r3:=r1.length;have r4:=(RV.cells c1 e4).1.length;have hys:yv.cells.size=size:=by simp at r3;omega
  have hle:i * k+k≤hd.len * k:=by
   have:=ae' k (show i+1≤hd.len by omega)
   rwa [aR',Nat.one_mul]at this
  have hle2:hd.len * k≤hd.cap * k:=ae' k g3;have r4':(es.getD i .unk).cells.length=k:=by simp_all
  have hok4:off+size≤k:=by rw[←r4'];exact c4
  rw[e2];have hst:=iZ (P:=P) hs k1 (o:=i * k+off) (v:=yv) hys (by omega) r2;refine⟨_,A,μ,by simp only[Instr.storeAt,Sem.run_bind,c8,Result.andThen_ok];exact hst,?_⟩;refine H.write hb h1 h2 _ (λw' hw' hs=>?_);obtain⟨p1,zz,p2,p3⟩:=pg e4 hy ⟨c1,c2,c3,c4⟩;have hzk:zz.cells.size=k:=by
   have:=congrArg List.length p3
   grind
  have hilt:i<vs.length:=by rw[←k2.length];exact hi
  refine⟨e2,.inr ⟨h2,by simpa using g2,g3,g4,_,ty,vs.set i zz,by rw[hw'];exact dK k1,?_,?_,?_,?_,?_⟩⟩
  ·exact(RVL.mono hs (λ_ h=>h) _ (bp.refl _) k2).set i (p2.mono hs (λ_ h=>h) _ (bp.refl _))
  ·grind
  ·grind
  ·grind
  ·rw[xo k4 hilt hzk,p3,←k6];have hv':v.cells.toList=((C.toList.take (hd.len * k)).drop (i * k)).take k:=by
    rw[k6];apply by';intro p;rw[am']
    split
    ·rename_i hp;rw[bi',ut k4 e1 hp];simp
    ·simp;omega
   rw[hv'];exact Ew C.toList yv.cells.toList (hd.len * k) (i * k) k off (by rw[bC'];omega) hle (by rw[bC',hys];exact hok4)
end
end Go.Am
namespace Go.Am
section
variable {P : Program} {c : Ctx} {A : Nat → Prop} {μ : Mu} {fr : Nat → Prop} {tm : Nat → AV} {hp : Hp} {n : Nat} {a : Act} {w : World}
theorem j6{vs:List Value}(h:∀v∈vs,cq v):∀u∈vs.flatMap (·.cells.toList),u.oneCell'=true:=by
 intro u hu;obtain⟨v,hv,hu⟩:=bQ'.1 hu;exact h v hv u hu
theorem Rs(H:aA P c A μ fr tm hp n a w){k:Nat}{tx:TypeId}{X:AV}{x:Value}{xs:List AV}(hx:RV w A X μ x)(hs:kK hp k X=some xs)
  {e:TypeId} (he:P.underlying tx=some (.slice e)) :
  ∃vs,RVL w A xs μ vs∧(∀v∈vs,v.cells.size=k)∧(∀x∈xs,x.solid=true)∧Src P k tx x xs.length (vs.flatMap (·.cells.toList)) w:=by
 unfold kK at hs
 split at hs
 ·rename_i k' es full;split at hs
  case isFalse=>cases hs
  rename_i hk0;cases hs
  rcases hx with⟨rfl,a0,rfl⟩|⟨blk,off,cap,vs,rfl,g1,g2,g3,g4,g5,g6,g7,g8⟩
  ·refine⟨[],rfl,by simp,by simp,?_⟩;cases a0 with
   | none=>exact Src.ofNil w he 0
   | some aa=>exact Src.ofSlice w he aa 0 0 [] (by simp) (by simp) (by simp)
  ·refine⟨vs,g5.up,?_,g8,Src.ofSlice w he _ _ _ _ ?_ ?_ (j6 λv hv=>(g6 v hv).2)⟩
   ·intro v hv
    rcases hk0 with h|h
    ·rw[←h];exact(g6 v hv).1
    ·subst h;simp[RVL]at g5;subst g5;simp at hv
   ·rcases hk0 with h|h
    ·subst h;rw[flat_len λv hv=>(g6 v hv).1,g5.length]
    ·subst h;simp[RVL]at g5;subst g5;simp
   ·intro j u hu;rw[Addr.add_lit];exact g7 j u hu
 ·rename_i b;split at hs
  case h_2=>cases hs
  rename_i k' es hb;split at hs
  case isFalse=>cases hs
  rename_i hk0;subst hk0;obtain rfl:es=xs:=ao' hs;obtain⟨hd,e1,e2⟩:=hx;obtain⟨hd',f1,f2,f3⟩:=H.vec hb;rw[e1]at f1;cases f1
  rcases f3 with⟨rfl,a',f3⟩|⟨g1,g2,g3,g4,C,ty,vs,k1,k2,k3,k4,k5,k6,k7⟩
  ·refine⟨[],rfl,by simp,by simp,?_⟩;rw[e2,Hd.val,f3];cases a' with
   | none=>exact Src.ofNil w he 0
   | some aa=>exact Src.ofSlice w he aa 0 0 [] (by simp) (by simp) (by simp)
  ·refine⟨vs,k2,k4,k3,?_⟩;rw[e2,Hd.val,g1,g2]
   refine Src.ofSlice w he _ _ _ _ (by rw[flat_len k4,k2.length]) (λj u hu=>?_) (j6 λv hv=>?_)
   ·rw[Addr.add_lit,aB'];exact k7 j u hu
   ·obtain⟨i,hi⟩:=aQ'.1 hv;have hlt:i<es.length:=by rw[k2.length];exact(I'.1 hi).1
    have hxe:es[i]?=some es[i]:=E' hlt;exact(RV.cells (k3 _ (ay' hlt)) (k2.get2 hxe hi)).2
 ·rename_i b lo ln;obtain⟨hd,cap,o,e1,e2,e3,e4,e5,rfl⟩:=hx
  have part:∀(es:List AV) (vs:List Value),hd.k=k→lo+ln≤es.length→RVL w A es μ vs→(∀x∈es,x.solid=true)→(∀v∈vs,v.cells.size=k) →
    (∀p u,(vs.flatMap (·.cells.toList))[p]?=some u→w.cell? ⟨hd.blk,p,none⟩=some u) →
    ∃us,RVL w A ((es.drop lo).take ln) μ us∧(∀v∈us,v.cells.size=k)∧(∀x∈(es.drop lo).take ln,x.solid=true)∧Src P k tx (.slice (some ⟨hd.blk,o,none⟩) ln cap) ((es.drop lo).take ln).length (us.flatMap (·.cells.toList)) w:=by
   intro es vs f2 hk0 k2 k3 k4 k7;have hvl:=k2.length;have hk4:∀v∈(vs.drop lo).take ln,v.cells.size=hd.k:=by intro v hv;rw[f2];exact k4 v (ak' (T' hv))
   have hlen:((es.drop lo).take ln).length=ln:=by simp;omega
   refine⟨(vs.drop lo).take ln,(k2.drop lo).take ln,by rw[←f2];exact hk4,λx hx=>k3 x (ak' (T' hx)),?_⟩;rw[hlen]
   refine Src.ofSlice w he _ _ _ _ (by rw[←f2,flat_len hk4];congr 1;simp;omega) (λj u hu=>?_) (j6 λv hv=>?_)
   ·have hln:0<ln:=by
     rcases Nat.eq_zero_or_pos ln with h|h
     ·subst h;simp at hu
     ·exact h
    rw[Addr.add_lit,e4 (by omega)];rw[flat_take (λv hv=>k4 v (ak' hv)),iy k4,am']at hu
    split at hu
    ·rw[bi']at hu;rw[f2];exact k7 _ _ hu
    ·cases hu
   ·have hv':=ak' (T' hv);obtain⟨i,hi⟩:=aQ'.1 hv';have hlt:i<es.length:=by rw[k2.length];exact(I'.1 hi).1
    have hxe:es[i]?=some es[i]:=E' hlt;exact(RV.cells (k3 _ (ay' hlt)) (k2.get2 hxe hi)).2
  split at hs
  ·rename_i k' es hb;split at hs
   case isFalse=>cases hs
   rename_i hk0;obtain⟨rfl,hk0⟩:=hk0;cases hs;obtain⟨hd',f1,f2,f3⟩:=H.vec hb;rw[e1]at f1;cases f1
   rcases f3 with⟨rfl,a',f3⟩|⟨g1,g2,g3,g4,C,ty,vs,k1,k2,k3,k4,k5,k6,k7⟩
   ·rw[e2]at f3;cases f3
   ·exact part es vs f2 hk0 k2 k3 k4 k7
  ·rename_i k' es len cap' hb;split at hs
   case isFalse=>cases hs
   rename_i hk0;obtain⟨rfl,hk0⟩:=hk0;cases hs;obtain⟨hd',f1,f2,g1,g2,g3,g4,g5,g6,C,ty,vs,k1,k2,k3,k4,k5,k6,k7⟩:=H.row hb;rw[e1]at f1;cases f1;exact part es vs f2 hk0 k2 k3 k4 k7
  ·cases hs
 ·cases hs
theorem MI{tx:TypeId}{X:AV}{x:Value}{xs:List AV}(hx:RV w A X μ x)(hs:Rt X=some xs)(hu:P.underlying tx=some .string) :
  ∃vs,RVL w A xs μ vs∧(∀v∈vs,v.cells.size=1)∧(∀x∈xs,x.solid=true)∧Src P 1 tx x xs.length (vs.flatMap (·.cells.toList)) w:=by
 unfold Rt at hs
 split at hs
 ·rename_i s;cases hs;obtain⟨rfl,hps⟩:=hx
  refine⟨byteCells s,?_,?_,?_,?_⟩
  ·unfold byteCells;refine RVL.of_get (by simp) λi x v hx hv=>?_;simp only[S',aw']at hx hv;obtain⟨b,h1,rfl⟩:=hx;obtain⟨b',h2,rfl⟩:=hv
   grind [bG,pR]
  ·intro v hv;unfold byteCells at hv;obtain⟨b,_,rfl⟩:=R'.1 hv;rfl
  ·intro x hx;obtain⟨b,_,rfl⟩:=R'.1 hx;rfl
  ·have hf:∀l:List UInt8,(l.map λb=>Value.int .u8 b.toNat).flatMap (·.cells.toList)=l.map λb=>Value.int .u8 b.toNat:=by
    intro l;induction l with
    | nil=>rfl
    | cons b l ih=>rw[au',ap',ih];rfl
   have:=Src.ofString (P:=P) w hu s;have e1:(byteCells s).flatMap (·.cells.toList)=byteCells s:=hf _
   rw[e1];simpa using this
 ·cases hs
theorem km(t tx ty e:TypeId)(i:TypeInfo)(ht:P.underlying t=some (.slice e))(hi:P.info? e=some i){g sLen sCap:Nat}{cur:Array Value}{e':TypeId}(hg:w.heap[g]?=some (.cells cur e' (0,0)))
  {x:Value} {m:Nat} {news:List Value} (hs:Src P i.size tx x m news w) (hroom:sLen+m≤sCap) (hfit:sLen * i.size+news.length≤cur.size) :
  (Builtin.append_ #[t,tx] ty #[.slice (some ⟨g,0,none⟩) sLen sCap,x]).run P w =
   .ok (.slice (some ⟨g,0,none⟩) (sLen+m) sCap) (w.setRow g (cur.toList.take (sLen * i.size)++news++cur.toList.drop (sLen * i.size+news.length)).toArray):=by
 have hst:=run_storeCells_at (P:=P) g (sLen * i.size) e' news 0 cur w hg (by simpa using hfit) hs.one;simp only[bE']at hst;rcases hs.kind with⟨e2,hk⟩|hk<;>simp[Builtin.append_,run_underlying ht,run_underlying hk,sizeOf,typeInfo,hi,hs.len,hroom,hs.cells,Addr.add_lit,hst]
theorem o4(t tx ty e:TypeId)(i:TypeInfo)(ht:P.underlying t=some (.slice e))(hi:P.info? e=some i)(base:Option Addr){x:Value}(hs:Src P i.size tx x 0 [] w) :
  (Builtin.append_ #[t,tx] ty #[.slice base 0 0,x]).run P w=.ok (.slice base 0 0) w:=by
 have hst:∀b:Addr,(storeCells b [] 0).run P w=.ok () w:=λb=>rfl;rcases hs.kind with⟨e2,hk⟩|hk<;>cases base<;>simp[Builtin.append_,run_underlying ht,run_underlying hk,sizeOf,typeInfo,hi,hs.len,hs.cells,storeCells]
theorem oG{e:TypeId}{k bytes:Nat}(hs:sizeOf? P e=some k)(hb:bytesOf? P e=some bytes):∃i,P.info? e=some i∧i.size=k∧i.bytes=bytes:=by
 unfold sizeOf? at hs;unfold bytesOf? at hb;cases hi:P.info? e with
 | none=>simp[hi]at hs
 | some i=>simp[hi]at hs hb;exact⟨i,rfl,hs,hb⟩
theorem m9{k need old:Nat}{e:TypeId}{z:Value}(hz:z.cells.size=k)(h1:need≤maxLen){es:List AV}{vs:List Value}(hl:es.length=need)
  (hv:RVL w A es μ vs) (hso:∀x∈es,x.solid=true) (hk:∀v∈vs,v.cells.size=k)
  {w':World} {A':Nat→Prop} {μ':Mu} (hs:cJ A w w') (hA:∀b,A b→A' b) (hμ:bp μ μ') {blk:Nat}
  (hblk:w'.heap[blk]?=some (.cells ((vs.flatMap (·.cells.toList)).toArray++Builtin.zeroCells z.cells (grownCap w need old e-need)) e (0,0))) :
  dw w' A' μ' ⟨none,blk,k,need,grownCap w need old e⟩ (.vec k es):=by
 have hge:=grownCap_ge w need old e;have hcm:=grownCap_le_maxLen w need old e h1
 refine⟨rfl,.inr ⟨rfl,hl.symm,hge,hcm,_,e,vs,hblk,RVL.mono hs hA _ hμ hv,hso,hk,?_,?_⟩⟩
 ·simp only[Array.size_append,List.size_toArray,size_zeroCells,hz,flat_len hk,←hv.length,hl,←aR'];exact ae' k (by omega)
 ·simp only[Array.toList_append];have:need * k=(vs.flatMap (·.cells.toList)).length:=by rw[flat_len hk,←hv.length,hl]
  rw[this];exact List.take_left
theorem aA.drop(H:aA P c A μ fr tm hp n a w)(b:Nat):aA P c A μ fr tm (upd hp b none) n a w:=by
 have hsub:∀b' y,upd hp b none b'=some y→hp b'=some y:=by grind [ai,az]
 obtain⟨h1,_⟩:=H.step (w':=w) rfl rfl rfl (V' _) (upd hp b none) hsub (λ_ _ _=>rfl) (λ_=>False) (λ_ h=>h.elim)
 simp_all
theorem oc{T tx e ty:TypeId}{k bytes f:Nat}{z:Value}{i:TypeInfo}(hT:P.underlying T=some (.slice e))(hi:P.info? e=some i)(hik:i.size=k)(hib:i.bytes=bytes)(hiz:i.zero=some z)(hzk:z.cells.size=k)(h0:0<k)
  (H:aA P c A μ fr tm hp n a w) (hf:fr f) {S:AV} {s x:Value} (hsv:RV w A S μ s) {src:Option (List AV)}
  (hsrc:∀xs,src=some xs→∃vs,RVL w A xs μ vs∧(∀v∈vs,v.cells.size=k)∧(∀x∈xs,x.solid=true)∧Src P k tx x xs.length (vs.flatMap (·.cells.toList)) w)
  (hc:(dP hp f k bytes S src).c) :
  cd P c fr tm hp n a w f (Builtin.append_ #[T,tx] ty #[s,x]) (dP hp f k bytes S src):=by
 unfold dP at hc ⊢;split at hc
 case h_1=>exact hc.elim
 rename_i xs;obtain⟨vs,v1,v2,v3,v4⟩:=hsrc xs rfl;subst hik;subst hib;have fits:∀(need old:Nat),old<need→need * i.bytes≤2 ^ 47→Builtin.nextslicecap need old * i.bytes≤281474976710656:=λneed old h h'=>growslice_fits h (by simpa using h');have hml:∀m,m≤maxLen→((m:Nat):Int)≤9223372036854775807:=by grind [maxLen]
 -- nothing so far,no room
 have empty:∀(base:Option Addr) (hp0:Hp),aA P c A μ fr tm hp0 n a w→xs.length * i.bytes≤2 ^ 47→xs.length≤maxLen →
   ∃cv w' A' μ',(Builtin.append_ #[T,tx] ty #[.slice base 0 0,x]).run P w=.ok cv w'∧aA P c A' μ' (λb=>fr b∧b≠f) tm (upd hp0 f (some (.vec i.size xs))) n a w'∧RV w' A' (.vec f) μ' cv:=by
  intro base hp0 H0 c2 c3
  by_cases hx0:xs=[]
  ·subst hx0;simp[RVL]at v1;subst v1;simp only[List.flatMap_nil,aC']at v4;have hrun:=o4 T tx ty e i hT hi base v4
   let hd:Hd:=⟨some base,0,i.size,0,0⟩
   have:=H0.add f (H0.fr f hf).2 (upd μ f (some hd)) (cD H0 hf hd) (λb hb=>az _ _ hb) hd (ai _ _ _) (.vec i.size []) ⟨rfl,.inl ⟨rfl,rfl⟩⟩ (λh=>by cases h) (λ_ _ _ _ _ _ h=>by cases h);exact⟨_,_,_,_,hrun,this,hd,ai _ _ _,rfl⟩
  ·have hpos:0<xs.length:=cu'.2 hx0;have hold:(Builtin.firstCells i.size 0 (.slice base 0 0)).run P w.drew=.ok ([]:List Value).toArray w.drew:=by
    cases base with
    | none=>exact run_firstCells_none w.drew _ _ _ _
    | some b=>exact run_firstCells_some w.drew i.size 0 b 0 0 [] (by simp) (by simp)
   have hrun:=run_append_grow_src w T tx ty e i z hT hi hiz base 0 0 [] hold x xs.length _ v4 (by omega) (hml _ (by omega)) (fits _ _ (by omega) (by rw[aB'];exact c2));simp only[aB',bA']at hrun
   let hd:Hd:=⟨none,w.heap.size,i.size,xs.length,grownCap w xs.length 0 e⟩
   obtain⟨A',h1⟩:=H0.newOwn hf (w':=w.drew.alloc (.cells ((vs.flatMap (·.cells.toList)).toArray++Builtin.zeroCells z.cells (grownCap w xs.length 0 e-xs.length)) e)) rfl rfl rfl (by simp) (λk hk=>heap_alloc_old w.drew _ hk) hd rfl rfl (.vec i.size xs)
    (λA' hA hs=>m9 hzk c3 rfl v1 v3 v2 hs hA (cD H0 hf hd) (heap_alloc_new w.drew _))
   exact⟨_,_,A',_,hrun,h1,hd,ai _ _ _,rfl⟩
 -- a row that grows
 have grow:∀(b:Addr) (sLen sCap:Nat) (es:List AV) (us:List Value) (hp0:Hp),aA P c A μ fr tm hp0 n a w→RVL w A es μ us→(∀v∈us,v.cells.size=i.size)→(∀x∈es,x.solid=true)→es.length=sLen →
   (∀p u,(us.flatMap (·.cells.toList))[p]?=some u→w.cell? (b.add p)=some u)→sCap<sLen+xs.length→(sLen+xs.length) * i.bytes≤2 ^ 47→sLen+xs.length≤maxLen →
   ∃cv w' A' μ',(Builtin.append_ #[T,tx] ty #[.slice (some b) sLen sCap,x]).run P w=.ok cv w'∧aA P c A' μ' (λb=>fr b∧b≠f) tm (upd hp0 f (some (.vec i.size (es++xs)))) n a w'∧RV w' A' (.vec f) μ' cv:=by
  intro b sLen sCap es us hp0 H0 u1 u2 u3 u4 u5 u6 u7 u8;have hold:=run_firstCells_some (P:=P) w.drew i.size sLen b sLen sCap (us.flatMap (·.cells.toList)) (by rw[flat_len u2,←u1.length,u4]) (by simpa using u5)
  have hrun:=run_append_grow_src w T tx ty e i z hT hi hiz (some b) sLen sCap _ hold x xs.length _ v4 u6 (hml _ u8) (fits _ _ u6 u7);rw[←bP']at hrun
  let hd:Hd:=⟨none,w.heap.size,i.size,sLen+xs.length,grownCap w (sLen+xs.length) sCap e⟩
  have hk2:∀v∈us++vs,v.cells.size=i.size:=by grind
  have hk3:∀y∈es++xs,y.solid=true:=by grind
  obtain⟨A',h1⟩:=H0.newOwn hf (w':=w.drew.alloc (.cells (((us++vs).flatMap (·.cells.toList)).toArray++Builtin.zeroCells z.cells (grownCap w (sLen+xs.length) sCap e-(sLen+xs.length))) e)) rfl rfl rfl (by simp) (λk hk=>heap_alloc_old w.drew _ hk) hd rfl rfl (.vec i.size (es++xs))
   (λA' hA hs=>m9 hzk u8 (by simp[u4]) (u1.append v1) hk3 hk2 hs hA (cD H0 hf hd) (heap_alloc_new w.drew _))
  exact⟨_,_,A',_,hrun,h1,hd,ai _ _ _,rfl⟩
 -- a row with room: X is what the block is read as
 have room:∀(b:Nat) (x0:Blk) (hd:Hd) (C:Array Value) (ty':TypeId) (es:List AV) (us:List Value) (X:Blk),hp b=some x0→b≠f→μ b=some hd→hd.emp=none→w.heap[hd.blk]?=some (.cells C ty' (0,0))→RVL w A es μ us→(∀x∈es,x.solid=true) →
   (∀v∈us,v.cells.size=i.size)→hd.cap * i.size≤C.size→C.toList.take (es.length * i.size)=us.flatMap (·.cells.toList)→es.length+xs.length≤hd.cap→hd.cap≤maxLen →
   (X=.vec i.size (es++xs)∨X=.row i.size (es++xs) (es.length+xs.length) hd.cap) →
   ∃cv w' A' μ',(Builtin.append_ #[T,tx] ty #[.slice (some ⟨hd.blk,0,none⟩) es.length hd.cap,x]).run P w=.ok cv w'∧aA P c A' μ' (λb=>fr b∧b≠f) tm (upd (upd hp b none) f (some X)) n a w'∧RV w' A' (.vec f) μ' cv:=by
  intro b x0 hd C ty' es us X hb hbf e1 g1 k1 k2 k3 k4 k5 k6 hroom g4 hX;have hxl:(vs.flatMap (·.cells.toList)).length=xs.length * i.size:=by rw[flat_len v2,v1.length]
  have hfit:es.length * i.size+(vs.flatMap (·.cells.toList)).length≤C.size:=by
   rw[hxl,←aR'];exact aF' (ae' _ hroom) k5
  have hrun:=km T tx ty e i hT hi k1 v4 hroom hfit
  let hd2:Hd:=⟨none,hd.blk,i.size,es.length+xs.length,hd.cap⟩
  obtain⟨q1,q2,q3⟩:=(by
   obtain⟨hd'',p1,_,p3⟩:=H.blk b _ hb;rw[e1]at p1;cases p1;exact p3 g1:¬A hd.blk∧hd.blk<w.heap.size∧(c.own hd.blk∨c.w.heap.size≤hd.blk))
  obtain⟨h1,h2⟩:=H.step (w':=w.setRow hd.blk (C.toList.take (es.length * i.size)++(vs.flatMap (·.cells.toList))++C.toList.drop (es.length * i.size+(vs.flatMap (·.cells.toList)).length)).toArray) rfl rfl rfl (by simp) (upd hp b none) (λb' y hy=>by
    by_cases e:b'=b
    ·grind [ai]
    ·rwa [az _ _ e]at hy)
   (λk hk hne=>setRow_other w hd.blk k _ (hne b _ hd hb (ai _ _ _) e1 g1)) (λ_=>False) (λ_ h=>h.elim)
  have hA:(λx=>A x∨False)=A:=by funext x;simp
  rw[hA]at h1;have r1:=RVL.mono h2 (λ_ h=>h) _ (cD H hf hd2) (k2.append v1);have r2:∀x∈es++xs,x.solid=true:=by grind
  have r3:∀v∈us++vs,v.cells.size=i.size:=by grind
  have r4:((C.toList.take (es.length * i.size)++(vs.flatMap (·.cells.toList))++C.toList.drop (es.length * i.size+(vs.flatMap (·.cells.toList)).length)).toArray).size≥hd.cap * i.size:=by grind
  have r5:List.take ((es.length+xs.length) * i.size) (C.toList.take (es.length * i.size)++(vs.flatMap (·.cells.toList))++C.toList.drop (es.length * i.size+(vs.flatMap (·.cells.toList)).length))=(us++vs).flatMap (·.cells.toList):=by
   rw[bP',←k6];have hl:(es.length+xs.length) * i.size=(C.toList.take (es.length * i.size)++vs.flatMap (·.cells.toList)).length:=by
    have hC:C.toList.length=C.size:=bC';rw[Y',hxl,aa',aR'];omega
   rw[hl];exact List.take_left
  have h3:=h1.add f (by rw[az _ _ (Ne.symm hbf)];exact(H.fr f hf).2) (upd μ f (some hd2)) (cD H hf hd2) (λb hb=>az _ _ hb) hd2 (ai _ _ _) X (by
    rcases hX with rfl|rfl
    ·exact⟨rfl,.inr ⟨rfl,by simp[hd2],hroom,g4,_,ty',us++vs,dK k1,r1,r2,r3,r4,r5⟩⟩
    ·exact⟨rfl,rfl,rfl,rfl,by simp,hroom,g4,_,ty',us++vs,dK k1,r1,r2,r3,r4,by rw[Y'];exact r5⟩) (λ_=>⟨q1,by simpa using q2,q3⟩) (by
    intro b' x' hd' hx' hm' he' _ heq
    by_cases e:b'=b
    ·subst e;simp[ai]at hx'
    ·rw[az _ _ e]at hx';exact e (H.inj b' b x' _ hd' hd hx' hb hm' e1 he' g1 heq))
  exact⟨_,_,A,_,hrun,h3,hd2,ai _ _ _,rfl⟩
 split at hc
 ·rename_i k' es full
  split at hc
  ·rename_i he;subst he;obtain⟨c1,c2,c3⟩:=hc;subst c1;simp only[↓reduceIte]
   rcases hsv with⟨_,a0,rfl⟩|⟨blk,off,cap,us,rfl,g1,g2,g3,g4,g5⟩
   ·exact empty a0 hp H c2 c3
   ·have:cap=0:=by simpa using g4 rfl
    subst this;exact empty (some ⟨blk,off,none⟩) hp H c2 c3
  ·rename_i he;obtain⟨c0,c1,c2,c3,c4⟩:=hc;subst c0;subst c1;rw[u' he]
   rcases hsv with⟨h,_⟩|⟨blk,off,cap,us,rfl,g1,g2,g3,g4,g5,g6,g7,g8⟩
   ·simp_all
   ·have hcap:=g4 rfl;exact grow ⟨blk,off,none⟩ es.length cap es us hp H g5.up (λv hv=>(g6 v hv).1) g8 rfl (λp u hu=>by rw[Addr.add_lit];exact g7 p u hu) (by omega) c2 c3
 ·rename_i b
  split at hc
  ·rename_i k' es hb;obtain⟨c0,c2,c3⟩:=hc;subst c0;simp only[hb];obtain⟨hd,e1,rfl⟩:=hsv;obtain⟨hd',f1,f2,f3⟩:=H.vec hb;rw[e1]at f1;cases f1;have Hd0:=H.drop b;have hbf:b≠f:=by rintro rfl;rw[(H.fr b hf).2]at hb;cases hb
   rcases f3 with⟨rfl,a',f3⟩|⟨g1,g2,g3,g4,C,ty',us,k1,k2,k3,k4,k5,k6,k7⟩
   ·have:=empty a' _ Hd0 (by simpa using c2) (by simpa using c3);simp only[bA'];rw[Hd.val,f3];exact this
   ·have hv:hd.val=.slice (some ⟨hd.blk,0,none⟩) es.length hd.cap:=by rw[Hd.val,g1,g2]
    rw[hv]
    by_cases hroom:es.length+xs.length≤hd.cap
    ·exact room b _ hd C ty' es us _ hb hbf e1 g1 k1 k2 k3 k4 k5 (by rw[←k6,g2]) hroom g4 (.inl rfl)
    ·exact grow ⟨hd.blk,0,none⟩ es.length hd.cap es us _ Hd0 k2 k4 k3 rfl (λp u hu=>by rw[Addr.add_lit,aB'];exact k7 p u hu) (by omega) c2 c3
  ·rename_i k' es len cap hb;obtain⟨c0,c1,c2,c3⟩:=hc;subst c0;subst c1;simp only[hb];obtain⟨hd,e1,rfl⟩:=hsv;obtain⟨hd',f1,f2,g1,g2,g3,g4,g5,g6,C,ty',us,k1,k2,k3,k4,k5,k6,k7⟩:=H.row hb;rw[e1]at f1;cases f1;have Hd0:=H.drop b;have hbf:b≠f:=by rintro rfl;rw[(H.fr b hf).2]at hb;cases hb
   have hv:hd.val=.slice (some ⟨hd.blk,0,none⟩) es.length hd.cap:=by rw[Hd.val,g1,g2]
   rw[hv]
   by_cases hroom:es.length+xs.length≤hd.cap
   ·exact room b _ hd C ty' es us _ hb hbf e1 g1 k1 k2 k3 k4 (by rw[g3];exact k5) k6 hroom (by omega) (.inl rfl)
   ·exact grow ⟨hd.blk,0,none⟩ es.length hd.cap es us _ Hd0 k2 k4 k3 rfl (λp u hu=>by rw[Addr.add_lit,aB'];exact k7 p u hu) (by omega) c2 c3
  ·exact hc.elim
 ·rename_i b lo ii;split at hc
  case h_2=>exact hc.elim
  rename_i k' es len cap hb;obtain⟨c0,c1,c2,c3,c4⟩:=hc;subst c0;subst c1;simp only[hb];obtain⟨hd,cap',o,e1,e2,e3,e4,e5,rfl⟩:=hsv;obtain⟨hd',f1,f2,g1,g2,g3,g4,g5,g6,C,ty',us,k1,k2,k3,k4,k5,k6,k7⟩:=H.row hb;rw[e1]at f1;cases f1;have hbf:b≠f:=by rintro rfl;rw[(H.fr b hf).2]at hb;cases hb
  have ho:o=0:=by rw[e4 (by omega)];simp
  have hcap:cap'=hd.cap:=by omega
  have hl:(es.take ii).length=ii:=by simp;omega
  subst ho;subst hcap
  have:=room b _ hd C ty' (es.take ii) (us.take ii) (.row i.size (es.take ii++xs) ((es.take ii).length+xs.length) hd.cap) hb hbf e1 g1 k1 (k2.take ii) (λx hx=>k3 x (T' hx)) (λv hv=>k4 v (T' hv)) (by rw[g3];exact k5)
   (by rw[flat_take k4,←k6,List.take_take,hl];congr 1;exact(aO' (ae' _ c2)).symm) (by omega) (by omega) (.inr rfl)
  rw[hl,g3]at this;rw[g3];exact this
 ·exact hc.elim
theorem Kz{T e:TypeId}{k bytes f:Nat}{z:AV}(hT:P.underlying T=some (.slice e))(hs:sizeOf? P e=some k)(hb:bytesOf? P e=some bytes)(hz:cn P e=some z)(hk:0<k∧z.solid=true∧z.cells.length=k)
  (H:aA P c A μ fr tm hp n a w) (hf:fr f) {L C:AO} {l cc:Value} (hl:RV w A (evO tm L) μ l) (hcc:RV w A (evO tm C) μ cc) (hc:(evA (.mks k bytes z L C) f (evO tm) hp).c) :
  cd P c fr tm hp n a w f (Instr.makeSlice T l cc) (evA (.mks k bytes z L C) f (evO tm) hp):=by
 obtain⟨hk0,hzs,hzl⟩:=hk;obtain⟨i,hi,hik,hib⟩:=oG hs hb;simp only[evA]at hc ⊢;split at hc
 case h_2=>exact hc.elim
 rename_i ll lc hL hC;simp only[hL,hC]at hl hcc ⊢;obtain⟨rfl,hl⟩:=hl;obtain⟨rfl,hcc⟩:=hcc;obtain⟨c1,c2,c3,c4⟩:=hc;obtain⟨N,rfl⟩:=bw' c1;obtain⟨M,rfl⟩:=bw' (show 0≤lc by omega);have hNM:N≤M:=by omega
 have hM:M≤maxLen:=by omega
 have w1:IntKind.i64.wrap (N:Int)=N:=IntWalk.i64_in _ (by unfold maxLen at hM;omega);have w2:IntKind.i64.wrap (M:Int)=M:=IntWalk.i64_in _ (by unfold maxLen at hM;omega);obtain⟨zv,hz1,hz2⟩:=fk (w:=w) hz;have hzr:RV w A z μ zv:=by rw[hz2];exact dB zv
 obtain⟨r1,r2⟩:=RV.cells hzs hzr;have hzk:zv.cells.size=k:=by rw[←hzl,r1.length,bC']
 have hbm:¬(i.bytes:Int) * (M:Int) > 2 ^ 48:=by grind
 have hrow:(Array.range (M * k)).map (λi=>zv.cells[i % zv.cells.size]!)=((List.replicate M zv).flatMap (·.cells.toList)).toArray:=by grind [Array.ext',eW,cP]
 have hrun:(Instr.makeSlice T (.int .i64 (N:Int)) (.int .i64 (M:Int))).run P w=.ok (.slice (some ⟨w.heap.size,0,none⟩) N M) (w.alloc (.cells ((List.replicate M zv).flatMap (·.cells.toList)).toArray e)):=by
  simp only[Instr.makeSlice,Sem.run_bind,run_underlying hT,Result.andThen_ok,asInt,eA,Sem.run_pure,typeInfo,run_program,hi,w1,w2]
  rw[Sem.run_ite,u']
  ·simp only[Sem.run_bind,Result.andThen_ok,Int.toNat_natCast,run_askRoom,aZ hs]
   by_cases h0:M=0
   ·subst h0;have hr0:∀g:Nat→Value,(Array.range 0).map g=#[]:=λg=>by simp
    simp[cU,hr0]
   ·have hne:M * k≠0:=by have:=Nat.mul_pos (Nat.pos_of_ne_zero h0) hk0;omega
    simp only[hne,↓reduceIte,Sem.run_bind,hz1,Result.andThen_ok,Sem.run_pure,hrow,cU]
  ·simp only[bU',decide_eq_true_eq,not_or];refine⟨⟨⟨by omega,by simpa using hbm⟩,by omega⟩,by omega⟩
 let hd:Hd:=⟨none,w.heap.size,k,N,M⟩
 obtain⟨A',h1⟩:=H.newOwn hf (w':=w.alloc (.cells ((List.replicate M zv).flatMap (·.cells.toList)).toArray e)) rfl rfl rfl (by simp) (λk hk=>heap_alloc_old w _ hk) hd rfl rfl (.vec k (List.replicate N z))
  (λA' hA hs=>by
   refine⟨rfl,.inr ⟨rfl,by simp[hd],hNM,hM,_,e,List.replicate N zv,heap_alloc_new w _,?_,?_,?_,?_,?_⟩⟩
   ·refine RVL.of_get (by simp) λi x v hx hv=>?_;simp only[aN']at hx hv;split at hx<;>cases hx
    split at hv<;>cases hv
    ·exact hzr.mono hs hA _ (cD H hf hd)
    ·omega
   ·simp_all
   ·simp_all
   ·grind
   ·have hk':∀v∈List.replicate M zv,v.cells.size=k:=by intro v hv;rw[aD' hv];exact hzk
    show List.take (N * k) ((List.replicate M zv).flatMap (·.cells.toList))=_
    rw[←flat_take hk',List.take_replicate,aO' hNM])
 simp only[Int.toNat_natCast];exact⟨_,_,A',_,hrun,h1,hd,ai _ _ _,rfl⟩
theorem xF{S D e:TypeId}{f:Nat}(hs:P.underlying S=some .string)(hd:P.underlying D=some (.slice e))(he:P.underlying e=some (.int .u8))(H:aA P c A μ fr tm hp n a w)
  {X:AO} {x:Value} (hx:RV w A (evO tm X) μ x) (hc:(evA (.convSB X) f (evO tm) hp).c) :
  cd P c fr tm hp n a w f (convert S D x) (evA (.convSB X) f (evO tm) hp):=by
 simp only[evA]at hc ⊢;generalize evO tm X=Y at *
 cases Y<;>simp only[Out.bad]at hc;obtain⟨rfl,hps⟩:=hx;cases x<;>simp only[]at hc;rename_i s;have hps:s.size≤maxLen:=hps
 let cap:=grownCap w s.size 0 e
 have hge:s.size≤cap:=grownCap_ge w s.size 0 e;have hcm:cap≤maxLen:=grownCap_le_maxLen w s.size 0 e hps
 let cells:Array Value:=s.data.map (λb=>Value.int .u8 b.toNat)++Array.replicate (cap-s.size) (.int .u8 0)
 let w1:=w.drew.alloc (.cells cells e)
 have hsh:w1.shape? w.heap.size=some (e,cells.size):=by
  have:w1.heap[w.heap.size]?=some (.cells cells e):=heap_alloc_new w.drew (.cells cells e);simp[World.shape?,this]
 have hrun:(convert S D (.string s)).run P w=.ok (.slice (some ⟨w.heap.size,0,none⟩) s.size cap) (w1.freeze ⟨w.heap.size,cells.size,none⟩ 1):=by
  have h1:(convert S D (.string s)).run P w=(Conv.stringToBytes e s).run P w:=by simp[convert,run_underlying hs,run_underlying hd,run_underlying he]
  rw[h1];have h2:(choose (.appendCap s.size 0 e)).run P w=.ok cap w.drew:=by rw[run_choose];rfl
  simp only[Conv.stringToBytes,Sem.run_bind,h2,Result.andThen_ok,cU,markStringish,run_shape];have h3:(w.drew.alloc (.cells (s.data.map (λb=>Value.int .u8 b.toNat)++Array.replicate (cap-s.size) (.int .u8 0)) e)).shape? w.drew.heap.size=some (e,cells.size):=hsh;rw[h3];rfl
 have hfz:∀k,k≠w.heap.size→(w1.freeze ⟨w.heap.size,cells.size,none⟩ 1).heap[k]?=w1.heap[k]?:=by grind [World.freeze]
 have hcell:∀p,(w1.freeze ⟨w.heap.size,cells.size,none⟩ 1).cell? ⟨w.heap.size,p,none⟩=cells[p]?:=by
  intro p;have h1:w1.heap[w.heap.size]?=some (.cells cells e):=heap_alloc_new w.drew (.cells cells e);have h2:∃fr',(w1.freeze ⟨w.heap.size,cells.size,none⟩ 1).heap[w.heap.size]?=some (.cells cells e fr'):=by
   simp only[World.freeze]
   grind
  grind [cell_of_row]
 obtain⟨h1,h2⟩:=H.newRO (w':=w1.freeze ⟨w.heap.size,cells.size,none⟩ 1) rfl rfl rfl (by
   show w.heap.size<(World.freeze _ _ _).heap.size;simp only[World.freeze];rw[u' (by omega)];simp[w1]) (λk hk=>by
   rw[hfz k (by omega)];exact heap_alloc_old w.drew _ hk)
 have hlen:(s.data.toList.map λb=>AV.val (.int .u8 b.toNat)).length=s.size:=by simp
 refine⟨_,_,_,μ,hrun,h1.free λb hb=>hb.1,.inr ⟨w.heap.size,0,cap,byteCells s,by rw[hlen],.inr rfl,by rw[hlen];exact hge,hcm,(λh=>by cases h),?_,?_,?_,?_⟩⟩
 ·unfold byteCells;refine RVL.of_get (by simp) λi x v hx hv=>?_;simp only[S',aw']at hx hv;obtain⟨b,h1,rfl⟩:=hx;obtain⟨b',h2,rfl⟩:=hv
  grind [bG,pR]
 ·intro v hv;unfold byteCells at hv;obtain⟨b,_,rfl⟩:=R'.1 hv;exact⟨rfl,jC rfl⟩
 ·intro p u hu;have hf:∀l:List UInt8,(l.map λb=>Value.int .u8 b.toNat).flatMap (·.cells.toList)=l.map λb=>Value.int .u8 b.toNat:=by
   intro l;induction l with
   | nil=>rfl
   | cons b l ih=>rw[au',ap',ih];rfl
  grind [byteCells]
 ·intro x hx;obtain⟨b,_,rfl⟩:=R'.1 hx;rfl
end
end Go.Am
namespace Go.Am
theorem EA{α:Type}(C Y:List α)(M a:Nat)(hM:M≤C.length)(ha:a≤M)(hf:a+Y.length≤C.length) :
  (C.take a++Y++C.drop (a+Y.length)).take (max M (a+Y.length))=(C.take M).take a++Y++(C.take M).drop (a+Y.length):=by
 apply by';intro p;have hmax:max M (a+Y.length)=if M≤a+Y.length then a+Y.length else M:=by grind
 rw[hmax];simp only[List.getElem?_append,am',bi',Y',aa',bv'];have e1:min a C.length=a:=by omega
 have e2:min M C.length=M:=by omega
 have e3:min a M=a:=by omega
 rw[e1,e2,e3]
 by_cases h0:M≤a+Y.length
 ·grind
 ·grind
theorem nV{α:Type}{es xs:List α}{lo:Nat}(h:lo≤es.length):(over es lo xs).length=max es.length (lo+xs.length):=by grind [over]
theorem vW{α:Type}{es xs:List α}{lo:Nat}{x:α}(h:x∈over es lo xs):x∈es∨x∈xs:=by grind [over]
theorem p8{α:Type}(es:List α)(lo:Nat):over es lo []=es:=by simp[over]
section
variable {P : Program} {c : Ctx} {A : Nat → Prop} {μ : Mu} {fr : Nat → Prop} {tm : Nat → AV} {hp : Hp} {n : Nat} {a : Act} {w : World}
theorem RVL.over{es xs:List AV}{us vs:List Value}(h:RVL w A es μ us)(h':RVL w A xs μ vs)(lo:Nat):RVL w A (over es lo xs) μ (over us lo vs):=by
 unfold Go.Am.over;rw[h'.length];exact((h.take lo).append h').append (h.drop _)
theorem Fg{k lo:Nat}{us vs:List Value}(h1:∀v∈us,v.cells.size=k)(h2:∀v∈vs,v.cells.size=k) :
  (over us lo vs).flatMap (·.cells.toList)=(us.flatMap (·.cells.toList)).take (lo * k)++vs.flatMap (·.cells.toList)++(us.flatMap (·.cells.toList)).drop (lo * k+(vs.flatMap (·.cells.toList)).length):=by
 unfold over;rw[bP',bP',flat_take h1,iy h1,flat_len h2,aR']
theorem O4(a b k:Nat):max a b * k=max (a * k) (b * k):=by simp_all
theorem If{k lo:Nat}{C:Array Value}{es xs:List AV}{us vs:List Value}(k2:RVL w A es μ us)(v1:RVL w A xs μ vs)(k4:∀v∈us,v.cells.size=k)(v2:∀v∈vs,v.cells.size=k)
  (k6:C.toList.take (es.length * k)=us.flatMap (·.cells.toList)) (hes:es.length * k≤C.size) (hlo:lo≤es.length) (hfit:(lo+xs.length) * k≤C.size) :
  let Y:=vs.flatMap (·.cells.toList)
  let C':=(C.toList.take (lo * k)++Y++C.toList.drop (lo * k+Y.length)).toArray
  C'.size=C.size∧C'.toList.take ((over es lo xs).length * k)=(over us lo vs).flatMap (·.cells.toList):=by
 intro Y C';have hY:Y.length=xs.length * k:=by rw[show Y.length=vs.length * k from flat_len v2,v1.length]
 have hlk:lo * k≤es.length * k:=ae' k hlo;rw[aR']at hfit
 constructor
 ·grind
 ·show(C.toList.take (lo * k)++Y++C.toList.drop (lo * k+Y.length)).take _=_;rw[Fg k4 v2,←k6,nV hlo,O4,aR',←hY];exact EA C.toList Y _ _ (by simpa using hes) hlk (by rw[hY];simpa using hfit)
theorem Eu(H:aA P c A μ fr tm hp n a w){k sn:Nat}{X:AV}{x:Value}{xs:List AV}(hx:RV w A X μ x)(hs:tv hp k X=some (sn,xs)) :
  ∃vs,RVL w A xs μ vs∧(∀v∈vs,v.cells.size=k)∧(∀v∈vs,cq v)∧(∀x∈xs,x.solid=true)∧(Builtin.lenOf x).run P w=.ok sn w ∧
   ∀m,m≤xs.length→(Builtin.firstCells k m x).run P w=.ok ((vs.take m).flatMap (·.cells.toList)).toArray w:=by
 have first:∀(b:Addr) (ln cap:Nat) (vs:List Value),(∀v∈vs,v.cells.size=k)→(∀p u,(vs.flatMap (·.cells.toList))[p]?=some u→w.cell? (b.add p)=some u) →
   ∀m,m≤vs.length→(Builtin.firstCells k m (.slice (some b) ln cap)).run P w=.ok ((vs.take m).flatMap (·.cells.toList)).toArray w:=by
  intro b ln cap vs hk hr m hm;refine run_firstCells_some w k m b ln cap _ (by rw[flat_len λv hv=>hk v (T' hv)];rw[aa',aO' hm]) (λp u hu=>hr p u ?_);rw[flat_take hk,am']at hu
  split at hu
  ·exact hu
  ·cases hu
 have nothing:∀(b:Option Addr),∀m,m≤([]:List AV).length→(Builtin.firstCells k m (.slice b 0 0)).run P w=.ok ((([]:List Value).take m).flatMap (·.cells.toList)).toArray w:=by
  intro b m hm;have:m=0:=by simpa using hm
  subst this;cases b with
  | none=>exact run_firstCells_none w _ _ _ _
  | some b=>exact run_firstCells_some w k 0 b 0 0 [] (by simp) (by simp)
 have ones:∀{es:List AV} {vs:List Value},RVL w A es μ vs→(∀x∈es,x.solid=true)→∀v∈vs,cq v:=by
  intro es vs k2 k3 v hv;obtain⟨i,hi⟩:=aQ'.1 hv;have hlt:i<es.length:=by rw[k2.length];exact(I'.1 hi).1
  exact(RV.cells (k3 _ (ay' hlt)) (k2.get2 (E' hlt) hi)).2
 have part:∀{b lo ln:Nat} {es:List AV} {us:List Value} {hd:Hd} {o cap:Nat},hd.k=k→(0<ln→o=lo * hd.k)→RVL w A es μ us→(∀x∈es,x.solid=true)→(∀v∈us,v.cells.size=k) →
   (∀p u,(us.flatMap (·.cells.toList))[p]?=some u→w.cell? ⟨hd.blk,p,none⟩=some u) →
   ∃vs,RVL w A ((es.drop lo).take ln) μ vs∧(∀v∈vs,v.cells.size=k)∧(∀v∈vs,cq v)∧(∀x∈(es.drop lo).take ln,x.solid=true)∧(Builtin.lenOf (.slice (some ⟨hd.blk,o,none⟩) ln cap)).run P w=.ok ln w ∧
    ∀m,m≤((es.drop lo).take ln).length→(Builtin.firstCells k m (.slice (some ⟨hd.blk,o,none⟩) ln cap)).run P w=.ok ((vs.take m).flatMap (·.cells.toList)).toArray w:=by
  intro b lo ln es us hd o cap f2 e4 k2 k3 k4 k7;have q2:RVL w A ((es.drop lo).take ln) μ ((us.drop lo).take ln):=(k2.drop lo).take ln;have q3:∀x∈(es.drop lo).take ln,x.solid=true:=λx hx=>k3 x (ak' (T' hx));have q4:∀v∈(us.drop lo).take ln,v.cells.size=k:=λv hv=>k4 v (ak' (T' hv));refine⟨(us.drop lo).take ln,q2,q4,ones q2 q3,q3,rfl,?_⟩;rw[q2.length];refine first _ _ _ _ q4 (λp u hu=>?_)
  have hln:0<ln:=by
   rcases Nat.eq_zero_or_pos ln with h|h
   ·subst h;simp at hu
   ·exact h
  rw[Addr.add_lit,e4 hln,f2];rw[flat_take (λv hv=>k4 v (ak' hv)),iy k4,am']at hu
  split at hu
  ·rw[bi']at hu;exact k7 _ _ hu
  ·cases hu
 have whole:∀(Z:AV) (xs:List AV),kK hp k Z=some xs→RV w A Z μ x→(∀b lo ln,Z≠.vsub b lo ln)→∃vs,RVL w A xs μ vs∧(∀v∈vs,v.cells.size=k)∧(∀v∈vs,cq v)∧(∀x∈xs,x.solid=true)∧(Builtin.lenOf x).run P w=.ok xs.length w ∧
   ∀m,m≤xs.length→(Builtin.firstCells k m x).run P w=.ok ((vs.take m).flatMap (·.cells.toList)).toArray w:=by
  clear hs hx;intro Z xs hs hx hne;unfold kK at hs
  split at hs
  ·rename_i k' es full;split at hs
   case isFalse=>cases hs
   rename_i hk0;cases hs
   rcases hx with⟨rfl,a0,rfl⟩|⟨blk,off,cap,vs,rfl,g1,g2,g3,g4,g5,g6,g7,g8⟩
   ·exact⟨[],rfl,by simp,by simp,by simp,rfl,nothing a0⟩
   ·have hk:∀v∈vs,v.cells.size=k:=by
     intro v hv
     rcases hk0 with h|h
     ·rw[←h];exact(g6 v hv).1
     ·subst h;simp[RVL]at g5;subst g5;simp at hv
    refine⟨vs,g5.up,hk,λv hv=>(g6 v hv).2,g8,rfl,?_⟩;rw[g5.length];exact first _ _ _ vs hk (λp u hu=>by rw[Addr.add_lit];exact g7 p u hu)
  ·rename_i b;split at hs
   case h_2=>cases hs
   rename_i k' es hb;split at hs
   case isFalse=>cases hs
   rename_i hk0;subst hk0;obtain rfl:es=xs:=ao' hs;obtain⟨hd,e1,e2⟩:=hx;obtain⟨hd',f1,f2,f3⟩:=H.vec hb;rw[e1]at f1;cases f1
   rcases f3 with⟨rfl,a',f3⟩|⟨g1,g2,g3,g4,C,ty,vs,k1,k2,k3,k4,k5,k6,k7⟩
   ·rw[e2,Hd.val,f3];exact⟨[],rfl,by simp,by simp,by simp,rfl,nothing a'⟩
   ·rw[e2,Hd.val,g1,g2];refine⟨vs,k2,k4,ones k2 k3,k3,rfl,?_⟩;rw[k2.length];exact first _ _ _ vs k4 (λp u hu=>by rw[Addr.add_lit,aB'];exact k7 p u hu)
  ·exact absurd rfl (hne _ _ _)
  ·cases hs
 unfold tv at hs
 split at hs
 ·rename_i b lo ln;obtain⟨hd,cap,o,e1,e2,e3,e4,e5,rfl⟩:=hx
  split at hs
  ·rename_i k' es len cap' hb;split at hs
   case isFalse=>cases hs
   rename_i hk0;subst hk0;cases hs;obtain⟨hd',f1,f2,g1,g2,g3,g4,g5,g6,C,ty,vs,k1,k2,k3,k4,k5,k6,k7⟩:=H.row hb;rw[e1]at f1;cases f1;exact part (b:=b) f2 (λh=>e4 (by omega)) k2 k3 k4 k7
  ·rename_i hb;simp only[aw',kK]at hs;obtain⟨l,hs,e⟩:=hs;cases e
   split at hs
   ·rename_i k' es hb;split at hs
    case isFalse=>cases hs
    rename_i hk0;obtain⟨rfl,hk0⟩:=hk0;cases hs;obtain⟨hd',f1,f2,f3⟩:=H.vec hb;rw[e1]at f1;cases f1
    rcases f3 with⟨rfl,a',f3⟩|⟨g1,g2,g3,g4,C,ty,vs,k1,k2,k3,k4,k5,k6,k7⟩
    ·rw[e2]at f3;cases f3
    ·exact part (b:=b) f2 (λh=>e4 (by omega)) k2 k3 k4 k7
   ·rename_i hb';exact absurd hb' (hb _ _ _ _)
   ·cases hs
 ·rename_i Z hne;simp only[aw']at hs;obtain⟨l,hs,e⟩:=hs;cases e;exact whole _ _ hs hx (λb lo ln e=>hne b lo ln e)
theorem oV{b:Nat}{x:Blk}(h:hp b=some x):upd (upd hp b none) b (some x)=hp:=by grind [ai,az]
theorem rl(H:aA P c A μ fr tm hp n a w){b k lo:Nat}{x0 X:Blk}{hd:Hd}{C:Array Value}{ty:TypeId}{es xs:List AV}{us vs:List Value}(hb:hp b=some x0)(e1:μ b=some hd)(e2:hd.emp=none)(f2:hd.k=k)
  (k1:w.heap[hd.blk]?=some (.cells C ty (0,0))) (k2:RVL w A es μ us) (k3:∀x∈es,x.solid=true) (k4:∀v∈us,v.cells.size=k) (k5:hd.cap * k≤C.size) (k6:C.toList.take (es.length * k)=us.flatMap (·.cells.toList))
  (v1:RVL w A xs μ vs) (v2:∀v∈vs,v.cells.size=k) (v3:∀x∈xs,x.solid=true) (hel:es.length≤hd.len) (hlc:hd.len≤hd.cap) (hcm:hd.cap≤maxLen) (hlo:lo≤es.length) (hfit:lo+xs.length≤hd.len)
  (hX:(X=.vec k (over es lo xs)∧es.length=hd.len)∨X=.row k (over es lo xs) hd.len hd.cap) :
  aA P c A μ (λx=>fr x) tm (upd (upd hp b none) b (some X)) n a (w.setRow hd.blk (C.toList.take (lo * k)++vs.flatMap (·.cells.toList)++C.toList.drop (lo * k+(vs.flatMap (·.cells.toList)).length)).toArray):=by
 have hkc:∀m,m≤hd.cap→m * k≤C.size:=λm hm=>aF' (ae' k hm) k5;obtain⟨z1,z2⟩:=If (C:=C) (lo:=lo) k2 v1 k4 v2 k6 (hkc _ (by omega)) hlo (hkc _ (by omega));refine H.write hb e1 e2 _ (λw' hw' hs=>?_);have hh:w'.heap[hd.blk]?=some (.cells (C.toList.take (lo * k)++vs.flatMap (·.cells.toList)++C.toList.drop (lo * k+(vs.flatMap (·.cells.toList)).length)).toArray ty (0,0)):=by rw[hw',dK k1]
 have r1:RVL w' A (over es lo xs) μ (over us lo vs):=RVL.mono hs (λ_ h=>h) _ (bp.refl _) (k2.over v1 lo);have r2:∀x∈over es lo xs,x.solid=true:=λx hx=>(vW hx).elim (k3 x) (v3 x);have r3:∀v∈over us lo vs,v.cells.size=k:=λx hx=>(vW hx).elim (k4 x) (v2 x);have r4:(over es lo xs).length=max es.length (lo+xs.length):=nV hlo
 rcases hX with⟨rfl,hel'⟩|rfl
 ·have hol:(over es lo xs).length=hd.len:=by rw[r4,Nat.max_def];split<;>omega
  refine⟨f2,.inr ⟨e2,hol.symm,hlc,hcm,_,ty,_,hh,r1,r2,r3,by rw[z1];exact k5,by rw[←hol];exact z2⟩⟩
 ·have hol:(over es lo xs).length≤hd.len:=by rw[r4,Nat.max_def];split<;>omega
  exact⟨f2,e2,rfl,rfl,hol,hlc,hcm,_,ty,_,hh,r1,r2,r3,by rw[z1];exact k5,z2⟩
theorem F3{T tx e ty:TypeId}{k f:Nat}(hT:P.underlying T=some (.slice e))(hs:sizeOf? P e=some k)(h0:0<k)(H:aA P c A μ fr tm hp n a w){D S:AV}{d s:Value}(hdv:RV w A D μ d)(hsv:RV w A S μ s)
    (hc:(qp hp k D (tv hp k S)).c):cd P c fr tm hp n a w f (Builtin.copy_ #[T,tx] ty #[d,s]) (qp hp k D (tv hp k S)):=by
  unfold qp at hc ⊢;split at hc
  case h_2=>exact hc.elim
  rename_i b lo ln sn xs hsp;obtain⟨vs,v1,v2,v3,v4,v5,v6⟩:=Eu (P:=P) H hsv hsp;obtain⟨hd,cap,o,e1,e2,e3,e4,e5,rfl⟩:=hdv;have hml:(Nat.min sn ln:Nat)≤ln:=Nat.min_le_right _ _
  have lem:∀(x0:Blk) (X:Blk) (C:Array Value) (ty':TypeId) (es:List AV) (us:List Value),hp b=some x0→hd.k=k→w.heap[hd.blk]?=some (.cells C ty' (0,0))→RVL w A es μ us→(∀x∈es,x.solid=true)→(∀v∈us,v.cells.size=k) →
      hd.cap * k≤C.size→C.toList.take (es.length * k)=us.flatMap (·.cells.toList)→es.length≤hd.len→hd.len≤hd.cap→hd.cap≤maxLen→lo≤es.length→lo+ln≤hd.len→Nat.min sn ln≤xs.length →
      ((X=.vec k (over es lo (xs.take (Nat.min sn ln)))∧es.length=hd.len)∨X=.row k (over es lo (xs.take (Nat.min sn ln))) hd.len hd.cap)→(xs.take (Nat.min sn ln)=[]→X=x0) →
      cd P c fr tm hp n a w f (Builtin.copy_ #[T,tx] ty #[.slice (some ⟨hd.blk,o,none⟩) ln cap,s]) { c:=True,v:=.int (Nat.min sn ln:Nat),rm:=some b,ad:=some (b,X) }:=by
    intro x0 X C ty' es us hb f2 k1 k2 k3 k4 k5 k6 g1 g2 g3 g4 g5 g6 hX hX0;have hxl:(xs.take (Nat.min sn ln)).length=Nat.min sn ln:=by simp_all
    have hY:((vs.take (Nat.min sn ln)).flatMap (·.cells.toList)).length=Nat.min sn ln * k:=by
      rw[flat_len λv hv=>v2 v (T' hv),←(v1.take _).length,hxl]
    have hk:=hs;unfold sizeOf? at hk;have hlo':lo * k+Nat.min sn ln * k≤C.size:=by
      rw[←aR'];exact aF' (ae' k (by omega)) k5
    have hrun:∀w',(storeCells ⟨hd.blk,o,none⟩ ((vs.take (Nat.min sn ln)).flatMap (·.cells.toList))).run P w=.ok () w' →
        (Builtin.copy_ #[T,tx] ty #[.slice (some ⟨hd.blk,o,none⟩) ln cap,s]).run P w=.ok (goInt (Nat.min sn ln)) w':=by
      intro w' hst;simp[Builtin.copy_,run_underlying hT,v5,aZ hs,v6 _ g6,hst]
    have hrv:∀w',RV w' A (.int (Nat.min sn ln:Nat)) μ (goInt (Nat.min sn ln)):=λw'=>bG (dt (by omega))
    by_cases hm:Nat.min sn ln=0
    · have hnil:xs.take (Nat.min sn ln)=[]:=by rw[hm];rfl
      have:=hX0 hnil;subst this;refine⟨_,w,A,μ,hrun w (by rw[hm];rfl),?_,hrv w⟩;simp only[bQ];rw[oV hb];exact H.free λb hb=>hb.1
    · have ho:o=lo * k:=by rw[e4 (by omega),f2]
      have hst:=run_storeCells_at (P:=P) hd.blk o ty' ((vs.take (Nat.min sn ln)).flatMap (·.cells.toList)) 0 C w k1 (by rw[hY,ho];simpa using hlo') (j6 λv hv=>v3 v (T' hv))
      simp only[bE']at hst;have hwr:=rl (X:=X) H hb e1 e2 f2 k1 k2 k3 k4 k5 k6 (v1.take (Nat.min sn ln)) (λv hv=>v2 v (T' hv)) (λx hx=>v4 x (T' hx)) g1 g2 g3 g4 (by rw[hxl];omega) hX;rw[ho]at hst;refine⟨_,_,A,μ,hrun _ (by rw[ho];exact hst),?_,hrv _⟩;exact hwr.free λb hb=>hb.1
  split at hc
  · rename_i k' es hb
    obtain⟨rfl,g6,g5⟩:=hc;simp only[hb];obtain⟨hd',f1,f2,f3⟩:=H.vec hb;rw[e1]at f1;cases f1
    rcases f3 with⟨rfl,a',f3⟩|⟨g1,g2,g3,g4,C,ty',us,k1,k2,k3,k4,k5,k6,k7⟩
    · simp_all
    obtain⟨ww,w',A',μ',h1,h2,h3⟩:=lem _ (.vec k' (over es lo (xs.take (Nat.min sn ln)))) C ty' es us hb f2 k1 k2 k3 k4 k5 (by rw[←g2];exact k6) (by omega) g3 g4 (by omega) (by omega) g6 (.inl ⟨rfl,g2.symm⟩) (λe=>by rw[e,p8]);exact⟨ww,w',A',μ',h1,h2,h3⟩
  · rename_i k' es len cap' hb
    obtain⟨rfl,g6,g5,g5'⟩:=hc;simp only[hb];obtain⟨hd',f1,f2,g1,g2,g3,g4,g7,g8,C,ty',us,k1,k2,k3,k4,k5,k6,k7⟩:=H.row hb;rw[e1]at f1;cases f1;obtain⟨ww,w',A',μ',h1,h2,h3⟩:=lem _ (.row k' (over es lo (xs.take (Nat.min sn ln))) len cap') C ty' es us hb f2 k1 k2 k3 k4 (by rw[g3];exact k5) k6 (by omega) (by omega) (by omega) g5 (by omega) g6 (.inr (by rw[g2,g3])) (λe=>by rw[e,p8]);exact⟨ww,w',A',μ',h1,h2,h3⟩
  · exact hc.elim
theorem Ay{T e ty:TypeId}{k f:Nat}{z:AV}(hT:P.underlying T=some (.slice e))(hz:cn P e=some z)(hk:0<k∧z.solid=true∧z.cells.length=k)(H:aA P c A μ fr tm hp n a w){X:AV}{x:Value}(hx:RV w A X μ x)
  (hc:(jB hp k z X).c):cd P c fr tm hp n a w f (Builtin.clear_ #[T] ty #[x]) (jB hp k z X):=by
 obtain⟨h0,hzs,hzl⟩:=hk;obtain⟨zv,hzr,hze⟩:∃v,(∀w,(zeroValue e).run P w=.ok v w)∧z=iK v:=by
  unfold cn at hz;cases hi:P.info? e with
  | none=>simp[hi]at hz
  | some i =>
   cases hv:i.zero with
   | none=>simp[hi,hv]at hz
   | some v=>simp[hi,hv]at hz;exact⟨v,λw=>by simp[zeroValue,typeInfo,hi,hv],hz.symm⟩
 have hrz:∀μ,RV w A z μ zv:=λμ=>by rw[hze];exact dB zv
 have hzc:=RV.cells hzs (hrz μ);have hzk:zv.cells.size=k:=by have:=hzc.1.length;rw[hzl]at this;simpa using this.symm
 unfold jB at hc ⊢;split at hc
 case h_2=>exact hc.elim
 rename_i b lo ln;obtain⟨hd,cap,o,e1,e2,e3,e4,e5,rfl⟩:=hx;have hY:∀m,((List.replicate m zv).flatMap (·.cells.toList)).length=m * k:=λm=>by simp_all
 have hone:∀v∈(List.replicate ln zv).flatMap (·.cells.toList),v.oneCell'=true:=j6 λv hv=>by rw[aD' hv];exact hzc.2
 have hzero:(Builtin.zeroCells zv.cells ln).toList=(List.replicate ln zv).flatMap (·.cells.toList):=by
  rw[cP,←eW zv.cells ln (by omega)];rfl
 have hrv0:∀w' A' μ',RV w' A' .unk μ' (.tuple #[]):=λ_ _ _=>trivial;have hrun0:ln=0→(Builtin.clear_ #[T] ty #[.slice (some ⟨hd.blk,o,none⟩) ln cap]).run P w=.ok (.tuple #[]) w:=by
  rintro rfl;simp[Builtin.clear_,run_underlying hT]
 have hrun:∀w',0<ln→(storeCells ⟨hd.blk,o,none⟩ ((List.replicate ln zv).flatMap (·.cells.toList))).run P w=.ok () w'→(Builtin.clear_ #[T] ty #[.slice (some ⟨hd.blk,o,none⟩) ln cap]).run P w=.ok (.tuple #[]) w':=by
  intro w' hl hst;obtain⟨m,rfl⟩:∃m,ln=m+1:=⟨ln-1,by omega⟩
  simp[Builtin.clear_,run_underlying hT,hzr,hzero,hst]
 split at hc
 ·rename_i k' es hb;obtain⟨rfl,g5⟩:=hc;simp only[hb];obtain⟨hd',f1,f2,f3⟩:=H.vec hb;rw[e1]at f1;cases f1
  rcases f3 with⟨rfl,a',f3⟩|⟨g1,g2,g3,g4,C,ty',us,k1,k2,k3,k4,k5,k6,k7⟩
  ·simp_all
  by_cases hm:ln=0
  ·subst hm;refine⟨_,w,A,μ,hrun0 rfl,?_,hrv0 _ _ _⟩;simp only[bQ,ct',p8];rw[oV hb];exact H.free λb hb=>hb.1
  ·have ho:o=lo * k':=by rw[e4 (by omega),f2]
   have hlo':lo * k'+ln * k'≤C.size:=by
    rw[←aR'];exact aF' (ae' k' (by omega)) k5
   have hst:=run_storeCells_at (P:=P) hd.blk o ty' ((List.replicate ln zv).flatMap (·.cells.toList)) 0 C w k1 (by rw[hY,ho];simpa using hlo') hone
   simp only[bE']at hst
   have hwr:=rl (X:=.vec k' (over es lo (List.replicate ln z))) (lo:=lo) H hb e1 e2 f2 k1 k2 k3 k4 k5 (by rw[←g2];exact k6) (xs:=List.replicate ln z) (vs:=List.replicate ln zv)
    (RVL.of_get (by simp) λi x v hx hv=>by
     simp only[aN']at hx hv;split at hx<;>cases hx
     split at hv<;>cases hv
     ·exact hrz μ
     ·omega)
    (λv hv=>by rw[aD' hv];exact hzk) (λx hx=>by rw[aD' hx];exact hzs) (by omega) g3 g4 (by omega) (by simp;omega) (.inl ⟨rfl,g2.symm⟩)
   rw[ho]at hst;refine⟨_,_,A,μ,hrun _ (by omega) (by rw[ho];exact hst),?_,hrv0 _ _ _⟩;exact hwr.free λb hb=>hb.1
 ·rename_i k' es len cap' hb;obtain⟨rfl,g5,g5'⟩:=hc;simp only[hb];obtain⟨hd',f1,f2,g1,g2,g3,g4,g7,g8,C,ty',us,k1,k2,k3,k4,k5,k6,k7⟩:=H.row hb;rw[e1]at f1;cases f1
  by_cases hm:ln=0
  ·subst hm;refine⟨_,w,A,μ,hrun0 rfl,?_,hrv0 _ _ _⟩;simp only[bQ];rw[oV hb];exact H.free λb hb=>hb.1
  ·have ho:o=lo * k':=by rw[e4 (by omega),f2]
   have hlo':lo * k'+ln * k'≤C.size:=by
    rw[←aR'];exact aF' (ae' k' (by omega)) k5
   have hst:=run_storeCells_at (P:=P) hd.blk o ty' ((List.replicate ln zv).flatMap (·.cells.toList)) 0 C w k1 (by rw[hY,ho];simpa using hlo') hone
   simp only[bE']at hst;rw[ho]at hst;refine⟨_,_,A,μ,hrun _ (by omega) (by rw[ho];exact hst),?_,hrv0 _ _ _⟩;have hwr:=H.write (x:=.row k' es len cap') hb e1 e2 (C.toList.take (lo * k')++(List.replicate ln zv).flatMap (·.cells.toList)++C.toList.drop (lo * k'+((List.replicate ln zv).flatMap (·.cells.toList)).length)).toArray (λw' hw' hs=>by
    refine⟨f2,e2,g2,g3,g4,g7,g8,_,ty',us,by rw[hw',dK k1],RVL.mono hs (λ_ h=>h) _ (bp.refl _) k2,k3,k4,?_,?_⟩
    ·grind
    ·have hle:es.length * k'≤lo * k':=ae' k' g5;rw[←k6];show(C.toList.take (lo * k')++_++_).take _=_;rw[bo',List.take_append_of_le_length (by simp;omega),List.take_take,aO' hle])
   exact hwr.free λb hb=>hb.1
 ·exact hc.elim
theorem uB{T tx e ty:TypeId}{k bytes f:Nat}{z:AV}{kn:IntKind}(hT:P.underlying T=some (.slice e))(htx:P.underlying tx=some (.int kn))(hs:sizeOf? P e=some k)(hb:bytesOf? P e=some bytes)(hz:cn P e=some z)
  (hk:0<k∧z.solid=true∧z.cells.length=k) (H:aA P c A μ fr tm hp n a w) (hf:fr f) {S N:AV} {s m:Value} (hsv:RV w A S μ s) (hnv:RV w A N μ m)
  (hc:(eP hp f k bytes z S N).c):cd P c fr tm hp n a w f (Builtin.append_ #[T,tx] ty #[s,m]) (eP hp f k bytes z S N):=by
 obtain⟨h0,hzs,hzl⟩:=hk;obtain⟨i,hi,hik,hib⟩:=oG hs hb;obtain⟨zv,hiz,hze⟩:∃v,i.zero=some v∧z=iK v:=by
  unfold cn at hz;rw[hi]at hz;cases hv:i.zero with
  | none=>simp[hv]at hz
  | some v=>simp[hv]at hz;exact⟨v,rfl,hz.symm⟩
 have hrz:RV w A z μ zv:=by rw[hze];exact dB zv
 have hzc:=RV.cells hzs hrz;have hzk:zv.cells.size=k:=by have:=hzc.1.length;rw[hzl]at this;simpa using this.symm
 unfold eP at hc ⊢;split at hc
 case h_3=>exact hc.elim
 case h_2 =>
  rename_i kq mm;obtain⟨c1,c2,c3⟩:=hc;obtain⟨base,rfl⟩:∃a:Option Addr,s=.slice a 0 0:=by
   rcases hsv with⟨_,h⟩|⟨blk,off,cap,vs,e1,e2,e3,e4,e5,_⟩
   ·exact h
   ·simp_all
  obtain⟨rfl,_⟩:=hnv;obtain⟨M,rfl⟩:=bw' (show 0≤mm by omega);have hold:(Builtin.firstCells i.size 0 (.slice base 0 0)).run P w.drew=.ok #[] w.drew:=by
   cases base with
   | none=>exact run_firstCells_none w.drew i.size 0 0 0
   | some a=>exact run_firstCells_some w.drew i.size 0 a 0 0 [] (by simp) (λj v hj=>by simp at hj)
  have hbytes:(0+M) * i.bytes≤2 ^ 47:=by rw[hib,aB'];exact_mod_cast c2
  have hM48:M * i.bytes≤281474976710656:=by rw[aB']at hbytes;omega
  have hrun:=Lib.run_append_grow_zeros (P:=P) w T tx ty e i zv .i64 kn hT htx hi hiz base 0 0 [] hold M (by omega) (by omega) (by omega) (by unfold maxLen at c3;omega) hM48 (growslice_fits (by omega) hbytes);have hflat:(List.replicate M zv).flatMap (·.cells.toList)=(Builtin.zeroCells zv.cells M).toList:=by
   rw[cP,←eW zv.cells M (by omega)];rfl
  have harr:(#[]:Array Value)++Builtin.zeroCells zv.cells M=((List.replicate M zv).flatMap (·.cells.toList)).toArray:=by rw[hflat];simp
  rw[aB',show([]:List Value).toArray=#[]from rfl,harr]at hrun
  let hd2:Hd:=⟨none,w.heap.size,k,M,grownCap w M 0 e⟩
  have hrep:RVL w A (List.replicate M z) μ (List.replicate M zv):=RVL.of_get (by simp) λj x v hx hv=>by grind
  obtain⟨A',h1⟩:=H.newOwn hf (w':=w.drew.alloc (.cells (((List.replicate M zv).flatMap (·.cells.toList)).toArray++Builtin.zeroCells zv.cells (grownCap w M 0 e-M)) e)) rfl rfl rfl (by simp) (λk hk=>heap_alloc_old w.drew _ hk) hd2 rfl rfl (.vec k (List.replicate M z))
   (λA' hA hs=>m9 hzk (by omega) (by simp) hrep (λx hx=>by rw[aD' hx];exact hzs) (λv hv=>by rw[aD' hv];exact hzk) hs hA (cD H hf hd2) (heap_alloc_new w.drew _))
  simp only[Int.toNat_natCast];exact⟨_,_,A',_,hrun,h1,hd2,ai _ _ _,rfl⟩
 rename_i b lo ii mm;split at hc
 case h_2=>exact hc.elim
 rename_i k' es len cap' hbb;obtain⟨rfl,rfl,c2,c3,c4,c5,c6⟩:=hc;simp only[hbb];obtain⟨hd,cap,o,e1,e2,e3,e4,e5,rfl⟩:=hsv;obtain⟨rfl,_⟩:=hnv;obtain⟨hd',f1,f2,g1,g2,g3,g4,g7,g8,C,ty',us,k1,k2,k3,k4,k5,k6,k7⟩:=H.row hbb;rw[e1]at f1;cases f1;obtain⟨M,rfl⟩:=bw' (show 0≤mm by omega);have hcap:cap=cap':=by omega
 subst hcap;have hul:(us.take ii).length=ii:=by rw[aa',←k2.length];omega
 have huk:∀v∈us.take ii,v.cells.size=k':=λv hv=>k4 v (T' hv);have hold:(Builtin.firstCells i.size ii (.slice (some ⟨hd.blk,o,none⟩) ii cap)).run P w.drew=.ok ((us.take ii).flatMap (·.cells.toList)).toArray w.drew:=by
  rw[hik];refine run_firstCells_some w.drew k' ii ⟨hd.blk,o,none⟩ ii cap _ (by rw[flat_len huk,hul]) (λp u hu=>?_);have hii:0<ii:=by grind
  have ho:o=0:=by rw[e4 (by omega)];simp
  rw[Addr.add_lit,ho,aB'];refine k7 p u ?_;rw[flat_take k4,am']at hu
  simp_all
 have hbytes:(ii+M) * i.bytes≤2 ^ 47:=by grind
 have hM48:M * i.bytes≤281474976710656:=by grind
 have hrun:=Lib.run_append_grow_zeros (P:=P) w T tx ty e i zv .i64 kn hT htx hi hiz (some ⟨hd.blk,o,none⟩) ii cap _ hold M (by omega) (by omega) (by omega) (by unfold maxLen at c6;omega) hM48 (growslice_fits (by omega) hbytes);have hflat:(us.take ii++List.replicate M zv).flatMap (·.cells.toList)=(us.take ii).flatMap (·.cells.toList)++(Builtin.zeroCells zv.cells M).toList:=by
  rw[bP',cP,←eW zv.cells M (by omega)];rfl
 have harr:((us.take ii).flatMap (·.cells.toList)).toArray++Builtin.zeroCells zv.cells M=((us.take ii++List.replicate M zv).flatMap (·.cells.toList)).toArray:=by simp_all
 rw[harr]at hrun
 let hd2:Hd:=⟨none,w.heap.size,k',ii+M,grownCap w (ii+M) cap e⟩
 have hrep:RVL w A (List.replicate M z) μ (List.replicate M zv):=RVL.of_get (by simp) λj x v hx hv=>by grind
 obtain⟨A',h1⟩:=H.newOwn hf (w':=w.drew.alloc (.cells (((us.take ii++List.replicate M zv).flatMap (·.cells.toList)).toArray++Builtin.zeroCells zv.cells (grownCap w (ii+M) cap e-(ii+M))) e)) rfl rfl rfl (by simp) (λk hk=>heap_alloc_old w.drew _ hk) hd2 rfl rfl (.vec k' (es.take ii++List.replicate M z))
  (λA' hA hs=>m9 hzk (by omega) (by simp;omega) ((k2.take ii).append hrep) (λx hx=>by
    rcases L'.1 hx with hx|hx
    ·grind
    ·rw[aD' hx];exact hzs) (λv hv=>by
    rcases L'.1 hv with hv|hv
    ·simp_all
    ·rw[aD' hv];exact hzk) hs hA (cD H hf hd2) (heap_alloc_new w.drew _))
 simp only[Int.toNat_natCast];exact⟨_,_,A',_,hrun,h1,hd2,ai _ _ _,rfl⟩
theorem F4{T e:TypeId}{k f:Nat}(hu:P.underlying T=some (.slice e))(hs:sizeOf? P e=some k)(H:aA P c A μ fr tm hp n a w)(hf:fr f)
  {X:AV} {x:Value} {h m:Int} {lo' hi' mx':Option Value} (h1:fA none lo') (h2:fA (some h) hi') (h3:fA (some m) mx') (hx:RV w A X μ x)
  (hc:(lp hp f k X h m).c):cd P c fr tm hp n a w f (Instr.sliceAt T x lo' hi' mx') (lp hp f k X h m):=by
 have plain:(sliceA hp k X none (some h) (some m)).c→cd P c fr tm hp n a w f (Instr.sliceAt T x lo' hi' mx') (sliceA hp k X none (some h) (some m)):=λhc=>by
  refine Val.does H (fc hu hs H h1 h2 h3 hx hc) ?_ ?_<;>(unfold sliceA;(repeat' split)<;>rfl)
 unfold lp at hc ⊢
 split at hc
 ·rename_i b
  split at hc
  ·rename_i k' es hb
   try simp only[hb]
   split at hc
   ·rename_i hlt;rw[if_pos hlt];obtain⟨rfl,hh0,hh⟩:=hc;obtain⟨rfl,hne⟩:=hlt;obtain⟨hd,e1,rfl⟩:=hx;obtain⟨hd',f1,f2,hvv⟩:=H.vec hb;rw[e1]at f1;cases f1
    rcases hvv with⟨rfl,_⟩|⟨g1,g2,g3,g4,C,ty',us,k1,k2,k3,k4,k5,k6,k7⟩
    ·simp at hne
    obtain⟨N,rfl⟩:=bw' hh0;have hN:N≤es.length:=by omega
    have hbf:b≠f:=by rintro rfl;rw[(H.fr b hf).2]at hb;cases hb
    have hv:hd.val=.slice (some ⟨hd.blk,0,none⟩) es.length hd.cap:=by rw[Hd.val,g1,g2]
    have hbd:=gw (P:=P) (w:=w) (ln:=es.length) (cap:=hd.cap) (l:=0) (h:=N) (m:=N) h1 h2 h3 rfl rfl rfl (by simp) (by omega) (by omega) (by omega);have hrun:=ci (P:=P) (w:=w) hu hs (a:=some ⟨hd.blk,0,none⟩) hbd
    let hd2:Hd:=⟨none,hd.blk,k',N,N⟩
    obtain⟨q1,q2,q3⟩:=(by
     obtain⟨hd'',p1,_,p3⟩:=H.blk b _ hb;rw[e1]at p1;cases p1;exact p3 g1:¬A hd.blk∧hd.blk<w.heap.size∧(c.own hd.blk∨c.w.heap.size≤hd.blk))
    have h1:=H.drop b;have r2:=RVL.mono (cJ.refl A w) (λ_ h=>h) _ (cD H hf hd2) (k2.take N)
    have h3:=h1.add f (by rw[az _ _ (Ne.symm hbf)];exact(H.fr f hf).2) (upd μ f (some hd2)) (cD H hf hd2) (λb hb=>az _ _ hb) hd2 (ai _ _ _) (.vec k' (es.take N))
     ⟨rfl,.inr ⟨rfl,by rw[aa'];show N=_;omega,V' _,by show N≤_;omega,C,ty',us.take N,k1,r2,λy hy=>k3 y (T' hy),λy hy=>k4 y (T' hy),
      aF' (ae' k' (show N≤hd.cap by omega)) k5,by
       show C.toList.take (N * k')=_;rw[flat_take k4,←k6,List.take_take,aO' (ae' k' (by omega))]⟩⟩ (λ_=>⟨q1,q2,q3⟩) (by
     intro b' x' hd' hx' hm' he' _ heq
     by_cases e:b'=b
     ·grind [ai]
     ·rw[az _ _ e]at hx';exact e (H.inj b' b x' _ hd' hd hx' hb hm' e1 he' g1 heq))
    rw[hv];simp only[Int.toNat_natCast];refine⟨_,w,A,_,hrun,h3,hd2,ai _ _ _,?_⟩;simp only[Nat.zero_mul,Nat.sub_zero,Hd.val,hd2,ah',Addr.add_lit,bE',ite_self]
   ·grind
  ·simp_all
 ·exact plain hc
theorem uA{T e:TypeId}{k f:Nat}(hu:P.underlying T=some (.slice e))(hs:sizeOf? P e=some k)(H:aA P c A μ fr tm hp n a w)(hf:fr f)
  {X:AV} {x:Value} {h:Int} {lo' hi' mx':Option Value} (h1:fA none lo') (h2:fA (some h) hi') (h3:fA none mx') (hx:RV w A X μ x)
  (hc:(bV hp f k X h).c):cd P c fr tm hp n a w f (Instr.sliceAt T x lo' hi' mx') (bV hp f k X h):=by
 have plain:(sliceA hp k X none (some h) none).c→cd P c fr tm hp n a w f (Instr.sliceAt T x lo' hi' mx') (sliceA hp k X none (some h) none):=λhc=>by
  refine Val.does H (fc hu hs H h1 h2 h3 hx hc) ?_ ?_<;>(unfold sliceA;(repeat' split)<;>rfl)
 unfold bV at hc ⊢
 split at hc
 ·rename_i b
  split at hc
  ·rename_i k' es len cap hb
   try simp only[hb]
   split at hc
   ·rename_i hlt;rw[if_pos hlt];obtain⟨rfl,hh⟩:=hc;obtain⟨hd,e1,rfl⟩:=hx;obtain⟨hd',f1,f2,g1,g2,g3,g4,g5,g6,C,ty',us,k1,k2,k3,k4,k5,k6,k7⟩:=H.row hb;rw[e1]at f1;cases f1;obtain⟨N,rfl⟩:=bw' (show 0≤h by omega);have hbf:b≠f:=by rintro rfl;rw[(H.fr b hf).2]at hb;cases hb
    have hv:hd.val=.slice (some ⟨hd.blk,0,none⟩) len cap:=by rw[Hd.val,g1,g2,g3]
    have hbd:=gw (P:=P) (w:=w) (ln:=len) (cap:=cap) (l:=0) (h:=N) (m:=cap) h1 h2 h3 rfl rfl rfl (by simp) (by omega) (by omega) (by omega);have hrun:=ci (P:=P) (w:=w) hu hs (a:=some ⟨hd.blk,0,none⟩) hbd
    let hd2:Hd:=⟨none,hd.blk,k',N,cap⟩
    obtain⟨q1,q2,q3⟩:=(by
     obtain⟨hd'',p1,_,p3⟩:=H.blk b _ hb;rw[e1]at p1;cases p1;exact p3 g1:¬A hd.blk∧hd.blk<w.heap.size∧(c.own hd.blk∨c.w.heap.size≤hd.blk))
    have h1:=H.drop b
    have h3:=h1.add f (by rw[az _ _ (Ne.symm hbf)];exact(H.fr f hf).2) (upd μ f (some hd2)) (cD H hf hd2) (λb hb=>az _ _ hb) hd2 (ai _ _ _) (.row k' es N cap)
     ⟨rfl,rfl,rfl,rfl,by omega,by omega,g6,C,ty',us,k1,RVL.mono (cJ.refl A w) (λ_ h=>h) _ (cD H hf hd2) k2,k3,k4,k5,k6⟩ (λ_=>⟨q1,q2,q3⟩) (by
     intro b' x' hd' hx' hm' he' _ heq
     by_cases e:b'=b
     ·grind [ai]
     ·rw[az _ _ e]at hx';exact e (H.inj b' b x' _ hd' hd hx' hb hm' e1 he' g1 heq))
    rw[hv];simp only[Int.toNat_natCast];refine⟨_,w,A,_,hrun,h3,hd2,ai _ _ _,?_⟩;simp only[Nat.zero_mul,Nat.sub_zero,Hd.val,hd2,ah',Addr.add_lit,bE',ite_self]
   ·grind
  ·simp_all
 ·exact plain hc
theorem ic(d:Nat){t e:TypeId}(h:P.underlying t=some (.pointer e))(b:Option Addr) :
  (Op.equalIn (d+1) t (.pointer b) (.pointer none)).run P w=.ok b.isNone w:=by
 cases b<;>simp[Op.equalIn,run_underlying h]
theorem Cs{T e:TypeId}{op:BinOp}{ptr ne:Bool}(hop:op=if ne then .neq else .eql){y:Value}(hy:(ptr=false∧P.underlying T=some (.slice e)∧∃n c,y=.slice none n c)∨(ptr=true∧P.underlying T=some (.pointer e)∧y=.pointer none))
  {X:AV} {x:Value} (H:aA P c A μ fr tm hp n a w) (hx:RV w A X μ x) (hc:mc ptr X) :
  ∃t,tW hp X t∧(binOp op T x y).run P w=.ok (.bool (t != ne)) w:=by
 have sl:∀(b:Option Addr) (l cc n' c':Nat),P.underlying T=some (.slice e)→(binOp op T (.slice b l cc) (.slice none n' c')).run P w=.ok (.bool (b.isNone != ne)) w:=by
  intro b l cc n' c' hT;have h:(Op.equal T (.slice b l cc) (.slice none n' c')).run P w=.ok b.isNone w:=Lib.run_equalIn_slice_nil w 9999 T e b l cc n' c' hT;subst hop
  cases ne
  ·simp_all [binOp,reduceIte]
  ·simp_all [binOp,reduceIte]
 have pt:∀(b:Option Addr),P.underlying T=some (.pointer e)→(binOp op T (.pointer b) (.pointer none)).run P w=.ok (.bool (b.isNone != ne)) w:=by
  intro b hT;have h:(Op.equal T (.pointer b) (.pointer none)).run P w=.ok b.isNone w:=ic 9999 hT b;subst hop
  cases ne
  ·simp_all [binOp,reduceIte]
  ·simp_all [binOp,reduceIte]
 rcases hy with⟨rfl,hT,n',c',rfl⟩|⟨rfl,hT,rfl⟩
 ·cases X<;>simp only[mc]at hc
  case sl k es full =>
   rcases hx with⟨rfl,a0,rfl⟩|⟨blk,off,cap,vs,rfl,_⟩
   ·exact⟨a0.isNone,λh=>absurd rfl h,sl _ _ _ _ _ hT⟩
   ·exact⟨false,λ_=>rfl,sl _ _ _ _ _ hT⟩
  case vec b =>
   obtain⟨hd,e1,rfl⟩:=hx;unfold tW;cases hb:hp b with
   | none =>
    simp only[hb];obtain⟨aa,l,cc,he⟩:=hd.val_slice;rw[he];exact⟨aa.isNone,trivial,sl _ _ _ _ _ hT⟩
   | some y =>
    cases y with
    | box y =>
     simp only[hb];obtain⟨aa,l,cc,he⟩:=hd.val_slice;rw[he];exact⟨aa.isNone,trivial,sl _ _ _ _ _ hT⟩
    | vec k es =>
     simp only[hb];obtain⟨hd',f1,f2,f3⟩:=H.vec hb;rw[e1]at f1;cases f1
     rcases f3 with⟨rfl,a',f3⟩|⟨g1,g2,_⟩
     ·rw[Hd.val,f3]
      simp_all
     ·rw[Hd.val,g1]
      simp_all
    | row k es len cap =>
     simp only[hb];obtain⟨hd',f1,f2,g1,_⟩:=H.row hb;rw[e1]at f1;cases f1;rw[Hd.val,g1];exact⟨false,rfl,sl _ _ _ _ _ hT⟩
    | map kk ks vs =>
     simp only[hb];obtain⟨aa,l,cc,he⟩:=hd.val_slice;rw[he];exact⟨aa.isNone,trivial,sl _ _ _ _ _ hT⟩
    | mst kk ks vs st ck =>
     simp only[hb];obtain⟨aa,l,cc,he⟩:=hd.val_slice;rw[he];exact⟨aa.isNone,trivial,sl _ _ _ _ _ hT⟩
    | itr m st ck seen =>
     simp only[hb];obtain⟨aa,l,cc,he⟩:=hd.val_slice;rw[he];exact⟨aa.isNone,trivial,sl _ _ _ _ _ hT⟩
  case vsub b lo l =>
   obtain⟨hd,cap,o,_,_,_,_,_,rfl⟩:=hx;exact⟨false,rfl,sl _ _ _ _ _ hT⟩
  case asub b off l k =>
   obtain⟨hd,cap,o,_,_,_,_,rfl⟩:=hx;exact⟨false,rfl,sl _ _ _ _ _ hT⟩
 ·cases X<;>simp only[mc]at hc
  case val v =>
   obtain⟨rfl,_⟩:=hx;have:x=.pointer none:=by grind
   subst this;exact⟨true,rfl,pt _ hT⟩
  case ref b o =>
   obtain⟨hd,_,_,rfl⟩:=hx;exact⟨false,rfl,pt _ hT⟩
  case eref b j o =>
   obtain⟨hd,_,_,rfl⟩:=hx;exact⟨false,rfl,pt _ hT⟩
  case rptr y o =>
   obtain⟨blk,oo,v,rfl,_⟩:=hx;exact⟨false,rfl,pt _ hT⟩
theorem Fz{T e:TypeId}{k N f:Nat}{z:AV}{parts:Array (Nat×Operand)}
  (hu:P.underlying T=some (.slice e)) (hs:sizeOf? P e=some k) (hz:cn P e=some z) (hk:0<k∧z.solid=true∧z.cells.length=k∧N * k≤2 ^ 24) (H:aA P c A μ fr tm hp n a w) (hf:fr f)
  (hc:(evL k N z (parts.toList.map λ(i,x)=>(i,cO P x)) f (evO tm)).c) :
  cd P c fr tm hp n a w f (Instr.buildSlice T N (parts.map λ(i,x)=>(i,a.eval x))) (evL k N z (parts.toList.map λ(i,x)=>(i,cO P x)) f (evO tm)):=by
 obtain⟨hk0,hzs,hzl,hN⟩:=hk;simp only[evL]at hc ⊢;obtain⟨zv,hz1,hz2⟩:=fk (w:=w) hz;have hzr:RV w A z μ zv:=by rw[hz2];exact dB zv
 obtain⟨r1,r2⟩:=RV.cells hzs hzr;have r3:=r1.length;have hzk:zv.cells.size=k:=by simp at r3;omega
 obtain⟨vs',e0,e1,e2,e3,e4⟩:=iH (w:=w) (A:=A) (μ:=μ) (k:=k) (parts.toList.map λp=>(p.1,a.eval p.2)) ((parts.toList.map λp=>(p.1,cO P p.2)).map λp=>(p.1,evO tm p.2)) (List.replicate N zv) (List.replicate N z) (by simp) (by
   intro i p q hp hq;simp only[S',aw']at hp hq;obtain⟨p',h1,rfl⟩:=hp;obtain⟨q',⟨q'',h2,rfl⟩,rfl⟩:=hq;rw[h1]at h2;cases h2;exact⟨rfl,H.ev _⟩)
  (RVL.of_get (by simp) λi x v hx hv=>by
   simp only[aN']at hx hv;split at hx<;>cases hx
   split at hv<;>cases hv
   ·exact hzr
   ·omega)
  (by intro v hv;rw[aD' hv];exact⟨hzk,r2⟩) (by simpa using hc) (by intro x hx;rw[aD' hx];exact hzs)
 have hrow:(Array.range (N * k)).map (λi=>zv.cells[i % zv.cells.size]!)=((List.replicate N zv).flatMap (·.cells.toList)).toArray:=by grind [Array.ext',eW,cP]
 have e5:vs'.length=N:=by simpa using e4
 have hrun:(Instr.buildSlice T N (parts.map λ(i,x)=>(i,a.eval x))).run P w=.ok (.slice (some ⟨w.heap.size,0,none⟩) N N) (w.alloc (.cells (vs'.flatMap (·.cells.toList)).toArray e)):=by
  have hpl:(Array.map (λx=>(x.fst,a.eval x.snd)) parts).toList=parts.toList.map λp=>(p.1,a.eval p.2):=by simp
  simp only[Instr.buildSlice,Sem.run_bind,run_underlying hu,Result.andThen_ok,aZ hs];rw[Sem.run_ite,u' (by omega)]
  by_cases h0:N=0
  ·subst h0;have hv':vs'=[]:=aG' e5;subst hv';have hr0:∀g:Nat→Value,(Array.range 0).map g=#[]:=λg=>by simp
   simp only[Nat.zero_mul,↓reduceIte,Sem.run_pure,Result.andThen_ok,hr0];simp only[ct',List.flatMap_nil]at e1;have e1':Instr.fill (λi=>some (i * k,k)) #[] (Array.map (λx=>(x.fst,a.eval x.snd)) parts).toList=some #[]:=by rw[hpl];exact e1
   simp only[e1',Sem.run_bind,cU,Result.andThen_ok,Sem.run_pure];rfl
  ·have hne:N * k≠0:=by
    have:=Nat.mul_pos (Nat.pos_of_ne_zero h0) hk0;omega
   simp only[hne,↓reduceIte,Sem.run_bind,hz1,Result.andThen_ok,Sem.run_pure,hrow,hpl,e1,cU]
 have hle:(ri (List.replicate N z) ((parts.toList.map λp=>(p.1,cO P p.2)).map λp=>(p.1,evO tm p.2))).length=N:=by rw[e2.length,e5]
 have hNm:N≤maxLen:=by
  have:N≤N * k:=Nat.le_mul_of_pos_right _ hk0;unfold maxLen;omega
 let hd:Hd:=⟨none,w.heap.size,k,N,N⟩
 obtain⟨A',h1⟩:=H.newOwn hf (w':=w.alloc (.cells (vs'.flatMap (·.cells.toList)).toArray e)) rfl rfl rfl (by simp) (λk hk=>heap_alloc_old w _ hk) hd rfl rfl (.vec k (ri (List.replicate N z) ((parts.toList.map λp=>(p.1,cO P p.2)).map λp=>(p.1,evO tm p.2))))
  (λA' hA hs=>by
   refine⟨rfl,.inr ⟨rfl,hle.symm,V' _,hNm,_,e,vs',heap_alloc_new w _,RVL.mono hs hA _ (cD H hf hd) e2,e0,λv hv=>(e3 v hv).1,?_,?_⟩⟩
   ·rw[List.size_toArray,flat_len λv hv=>(e3 v hv).1,e5];exact V' _
   ·show List.take (N * k) (vs'.flatMap (·.cells.toList))=_
    rw[G'];rw[flat_len λv hv=>(e3 v hv).1,e5];exact V' _)
 exact⟨_,_,A',_,hrun,h1,hd,ai _ _ _,rfl⟩
end
end Go.Am
namespace Go.Am
section
variable {P : Program} {c : Ctx} {A : Nat → Prop} {μ : Mu} {fr : Nat → Prop} {tm : Nat → AV} {hp : Hp} {n : Nat} {a : Act} {w : World}
theorem aA.writeObj(H:aA P c A μ fr tm hp n a w){b:Nat}{x0 x:Blk}{hd:Hd}(hb:hp b=some x0)(hm:μ b=some hd)(he:hd.emp=none)(o:Obj)
    (hok:∀w':World,w'={ w with heap:=w.heap.setIfInBounds hd.blk o }→cJ A w w'→dw w' A μ hd x) :
    aA P c A μ (λx=>fr x) tm (upd (upd hp b none) b (some x)) n a { w with heap:=w.heap.setIfInBounds hd.blk o }:=by
  obtain⟨hd',e1,_,e3⟩:=H.blk b x0 hb;rw[hm]at e1;cases e1;obtain⟨g1,g2,g3⟩:=e3 he;obtain⟨h1,h2⟩:=H.step (w':={ w with heap:=w.heap.setIfInBounds hd.blk o }) rfl rfl rfl (by simp) (upd hp b none) (λb' y hy=>by
      by_cases e:b'=b
      · grind [ai]
      · rwa [az _ _ e]at hy)
    (λk hk hne=>by
      have:=hne b x0 hd hb (ai _ _ _) hm he;simp[Ne.symm this]) (λ_=>False) (λ_ h=>h.elim)
  have hA:(λx=>A x∨False)=A:=by funext x;simp
  rw[hA]at h1;have h3:=h1.add b (ai _ _ _) μ (bp.refl _) (λ_ _=>rfl) hd hm x (hok _ rfl h2) (λ_=>⟨g1,by simpa using g2,g3⟩) (by
    intro b' x' hd' hx' hm' he' _ heq
    by_cases e:b'=b
    · grind [ai]
    · rw[az _ _ e]at hx'
      exact e (H.inj b' b x' x0 hd' hd hx' hb hm' hm he' he heq))
  refine h3.free λy hy=>⟨hy,?_⟩
  rintro rfl;rw[(H.fr y hy).2]at hb;cases hb
theorem MK.v_inj{kk:Option Nat}{p q:MK}(hp:p.fits kk)(hq:q.fits kk)(h:p.v=q.v):p=q:=by
 cases p<;>cases q<;>cases kk<;>simp_all [MK.fits,MK.v]
 grind [List.map_inj_right]
theorem Df{w:World}{A:Nat→Prop}{μ:Mu}:∀{cs:List AV} {l:List Int} {vs:List Value},zV cs=some l→RVL w A cs μ vs→vs=l.map (Value.int .i64)
 | [],l,vs,h,hv=>by simp[zV]at h;subst h;exact hv
 | x::r,l,vs,h,hv=>by
  obtain⟨v,vs',rfl,h1,h2⟩:=hv;cases x with
  | val u =>
   cases u with
   | int k i =>
    cases k<;>simp[zV]at h;obtain⟨l',h3,rfl⟩:=h;obtain⟨rfl,_⟩:=h1;rw[Df h3 h2];rfl
   | _=>simp[zV]at h
  | _=>simp[zV]at h
theorem zT{x:AV}{q:MK}{v:Value}(h:x.key=some q)(hv:RV w A x μ v):v=q.v:=by
 cases x with
 | val u =>
  cases u with
  | int k i=>cases k<;>simp[AV.key]at h;subst h;obtain⟨rfl,_⟩:=hv;rfl
  | _=>simp[AV.key]at h
 | agg cs =>
  simp only[AV.key,aw']at h;obtain⟨l,h1,rfl⟩:=h;obtain⟨vs,rfl,h2,_⟩:=hv;rw[Df h1 h2];rfl
 | _=>simp[AV.key]at h
theorem ss {f : Field} {fs : List Field} {j : Nat} (h : wD P (f :: fs) j = true) : f.offset = j ∧ f.name ≠ "_" ∧ P.underlying f.type = some (.int .i64) ∧ wD P fs (j + 1) = true := by grind [wD]
theorem lj{vs:Array Value}{j:Nat}{v:Value}{r:List Value}(h:vs.toList.drop j=v::r):vs[j]?=some v∧vs.toList.drop (j+1)=r:=by
 refine⟨?_,by rw[←List.drop_drop,h];rfl⟩;have:(vs.toList.drop j)[0]?=some v:=by rw[h];rfl
 grind
theorem px{T:TypeId}(hu:P.underlying T=some (.int .i64)){vs:Array Value}{off:Nat}{v:Value}(hv:vs[off]?=some v)(w:World):(part T vs off).run P w=.ok v w:=by
 simp[part,isAgg,run_underlying hu,hv]
theorem zq(w:World):∀(fs:List Field) (j d:Nat) (vs us:Array Value) (l m:List Int),wD P fs j=true→vs.toList.drop j=l.map (Value.int .i64)→us.toList.drop j=m.map (Value.int .i64) →
  l.length=fs.length→m.length=fs.length→(Op.eqFields (d+1) vs us fs).run P w=.ok (decide (l=m)) w:=by
 intro fs
 induction fs with
 | nil =>
  intro j d vs us l m _ _ _ hl hm;rw[bO'.mp hl,bO'.mp hm];simp[Op.eqFields]
 | cons f fs ih =>
  intro j d vs us l m hf hx hy hl hm;obtain⟨ho,hn,hu,hr⟩:=ss hf;cases l with
  | nil=>cases hl
  | cons x l =>
   cases m with
   | nil=>cases hm
   | cons y m =>
    obtain⟨v1,v2⟩:=lj hx;obtain⟨u1,u2⟩:=lj hy;have:=ih (j+1) d vs us l m hr v2 u2 (by simpa using hl) (by simpa using hm);simp only[Op.eqFields,ne_eq,hn,not_false_eq_true,if_true,Sem.run_bind,ho,px hu v1,px hu u1,Result.andThen_ok,run_equalIn_int w d _ _ _ _ _ hu]
    by_cases e:x=y
    ·simp_all
    ·simp[e]
theorem kU{kt:TypeId}{kk:Option Nat}(h:kw P kt=some kk):(kk=none∧P.underlying kt=some (.int .i64)) ∨
  ∃fs:Array Field,P.underlying kt=some (.struct fs)∧wD P fs.toList 0=true∧P.stoodInHeld kt=false∧kk=some fs.toList.length:=by
 unfold kw at h
 split at h
 ·simp_all
 ·simp_all
 ·cases h
theorem Js : ∀ (fs : List Field) (j : Nat) (vs : Array Value) (l : List Int), wD P fs j = true → vs.toList.drop j = l.map (Value.int .i64) → l.length = fs.length → ∀ f ∈ fs, f.name ≠ "_" ∧ P.underlying f.type = some (.int .i64) ∧ ∃ x, vs[f.offset]? = some (.int .i64 x) := by
  intro fs
  induction fs with
  | nil => intro j vs l _ _ _ f hf; simp at hf
  | cons f fs ih =>
    intro j vs l hf hx hl g hg;obtain ⟨ho, hn, hu, hr⟩ := ss hf;cases l with
    | nil => cases hl
    | cons x l =>
      obtain ⟨v1, v2⟩ := lj hx
      rcases P'.mp hg with rfl | hg
      · simp_all
      · grind
theorem lP(w:World)(g:Field→PUnit→Sem (ForInStep PUnit)):∀(fs:List Field),(∀f∈fs,(g f ⟨⟩).run P w=.ok (.yield ⟨⟩) w)→(forIn fs PUnit.unit g).run P w=.ok ⟨⟩ w
 | [],_=>by simp
 | f::fs,h=>by
  simp only[List.forIn_cons,Sem.run_bind,h f (.head _),Result.andThen_ok];exact lP w g fs λf hf=>h f (.tail _ hf)
theorem kN{kt:TypeId}{kk:Option Nat}(h:kw P kt=some kk){q:MK}(hq:q.fits kk)(w:World)(em:Bool):(Instr.checkKey em 10000 kt q.v).run P w=.ok () w:=by
 rcases kU h with⟨rfl,hu⟩|⟨fs,hu,hf,_,rfl⟩
 ·cases q with
  | n i=>exact MapKept.run_checkKey (P:=P) (w:=w) hu (by simp[MapKept.IsKey,MK.v]) em 9999
  | c l=>exact hq.elim
 ·cases q with
  | n i=>exact hq.elim
  | c l =>
   have hm:=Js (P:=P) fs.toList 0 (l.map (Value.int .i64)).toArray l hf (by simp) hq;unfold Instr.checkKey;simp only[Sem.run_bind,run_underlying hu,Result.andThen_ok,MK.v];rw[←Array.forIn_toList,lP w _ fs.toList λf hf=>by
    obtain⟨h1,h2,x,h3⟩:=hm f hf;have hc:(Instr.checkKey em 9999 f.type (.int .i64 x)).run P w=.ok () w:=MapKept.run_checkKey (P:=P) (w:=w) h2 (by simp[MapKept.IsKey]) em 9998;simp[h1,Sem.run_bind,px h2 h3 w,Result.andThen,hc]]
   rfl
theorem zo{kk:Option Nat}{q:MK}(hq:q.fits kk)(w:World):(Instr.keyThatStays q.v q.v).run P w=.ok q.v w:=by
 have:Instr.sameBits 10000 q.v q.v=true:=by
  cases q with
  | n i=>simp[MK.v,Instr.sameBits]
  | c l =>
   simp only[MK.v,Instr.sameBits,beq_self_eq_true,Bool.true_and];simp[ba',List.zip_map',Instr.sameBits]
 simp[Instr.keyThatStays,this]
theorem zp{kt:TypeId}{k:Nat}(h:kw P kt=some (some k)){p q:MK}(hp:p.fits (some k))(hq:q.fits (some k))(w:World):(Op.equal kt p.v q.v).run P w=.ok (decide (p=q)) w:=by
 rcases kU h with⟨e,_⟩|⟨fs,hu,hf,hs,e⟩
 ·cases e
 ·cases e;cases p with
  | n i=>exact hp.elim
  | c l =>
   cases q with
   | n i=>exact hq.elim
   | c m =>
    have hfo:P.fieldsOf kt=fs:=by simp[Program.fieldsOf,hu]
    have hs:=run_equalIn_struct (P:=P) w 9999 kt (l.map (Value.int .i64)).toArray (m.map (Value.int .i64)).toArray (by rw[hfo];exact hu) hs;rw[hfo,zq w fs.toList 0 9998 _ _ l m hf (by simp) (by simp) hp hq]at hs;refine Eq.trans hs ?_;simp
theorem vG{kt:TypeId}{k:Nat}(h:kw P kt=some (some k)){q:MK}(hq:q.fits (some k))(w:World):∀(l:List MapEntry) (i:Nat),(∀x∈l,∃p:MK,p.fits (some k)∧p.v=x.key) →
  ((Instr.findAsking kt q.v l i).run P w=.ok none w∧∀x∈l,x.key≠q.v)∨∃j e,(Instr.findAsking kt q.v l i).run P w=.ok (some (i+j,e.val)) w∧l[j]?=some e∧e.key=q.v
 | [],_,_=>.inl ⟨by simp[Instr.findAsking],by simp⟩
 | e::es,i,hl=>by
  obtain⟨p,hp,he⟩:=hl e (.head _);have hr:=zp h hq hp w;rw[he]at hr
  by_cases hqp:q=p
  ·subst hqp;exact .inr ⟨0,e,by simp[Instr.findAsking,hr,Result.andThen],rfl,he.symm⟩
  ·have hne:e.key≠q.v:=λc=>hqp (MK.v_inj hq hp (c.symm.trans he.symm))
   rcases vG h hq w es (i+1) (λx hx=>hl x (.tail _ hx))with⟨h1,h2⟩|⟨j,e',h1,h2,h3⟩
   ·simp_all [Instr.findAsking,Result.andThen]
   ·exact .inr ⟨j+1,e',by simp[Instr.findAsking,hr,Result.andThen,hqp,h1];omega,by simpa using h2,h3⟩
theorem E2{kt:TypeId}{kk:Option Nat}(h:kw P kt=some kk){q:MK}(hq:q.fits kk)(w:World)(l:List MapEntry)(hl:∀x∈l,∃p:MK,p.fits kk∧p.v=x.key) :
  ((Instr.findKey kt q.v l).run P w=.ok none w∧∀x∈l,x.key≠q.v)∨∃j e,(Instr.findKey kt q.v l).run P w=.ok (some (j,e.val)) w∧l[j]?=some e∧e.key=q.v:=by
 rcases kU h with⟨rfl,hu⟩|⟨fs,hu,hf,hs,rfl⟩
 ·have hd:∀q:MK,q.fits none→MapKept.IsKey (.int .i64) q.v:=λq hq=>by cases q<;>simp_all [MK.fits,MK.v,MapKept.IsKey]
  rcases MapKept.findNow_spec (hd q hq) l 0 (λx hx=>by obtain⟨p,hp,e⟩:=hl x hx;rw[←e];exact hd p hp)with⟨g1,g2⟩|⟨j,e,g1,g2,g3⟩
  ·grind [MapKept.run_findKey]
  ·rw[aB']at g1
   grind [MapKept.run_findKey]
 ·have ha:(Instr.findKey kt q.v l).run P w=(Instr.findAsking kt q.v l 0).run P w:=by
   cases l with
   | nil=>simp[Instr.findKey,run_underlying hu,Result.andThen,Instr.findNow,Instr.findAsking]
   | cons e es =>
    have:Instr.findNow (.struct fs) q.v (e::es) 0=none:=by grind [Instr.findNow,Instr.sameNow,MK.v]
    simp[Instr.findKey,run_underlying hu,Result.andThen,this]
  rw[ha]
  rcases vG h hq w l 0 hl with g|⟨j,e,g1,g2,g3⟩
  ·exact .inl g
  ·rw[aB']at g1;exact .inr ⟨j,e,g1,g2,g3⟩
theorem J4{ks:List MK}{j:Nat}{q:MK}(hn:ks.Nodup)(h:ks[j]?=some q):ks.idxOf q=j:=by grind
theorem co.nodup{kk:Option Nat}{ks:List MK}{ents:Array MapEntry}{clock:Nat}(h:co kk ks ents clock):ks.Nodup:=by
 obtain⟨h1,_,_,_,h3⟩:=h;rw[h1]at h3;exact List.Pairwise.of_map MK.v (λ_ _ h e=>h (congrArg _ e)) h3
theorem dd{α β:Type}(f:α→β):∀(l:List α) (i:Nat),(l.eraseIdx i).map f=(l.map f).eraseIdx i
 | [],_=>rfl
 | _::_,0=>rfl
 | x::l,i+1=>by simp only[List.eraseIdx_cons_succ,au',dd f l i]
theorem co.find{kk:Option Nat}{ks:List MK}{ents:Array MapEntry}{clock:Nat}{kt:TypeId}{q:MK}(h:co kk ks ents clock)(hd:kw P kt=some kk)(hq:q.fits kk)(w:World) :
  (q ∉ ks∧(Instr.findKey kt q.v ents.toList).run P w=.ok none w∧∀x∈ents.toList,x.key≠q.v) ∨
  (q∈ks∧∃e,ents.toList[ks.idxOf q]?=some e∧e.key=q.v∧(Instr.findKey kt q.v ents.toList).run P w=.ok (some (ks.idxOf q,e.val)) w):=by
 obtain⟨h1,h2,h3⟩:=h;have hk:∀x∈ents.toList,∃p∈ks,p.v=x.key:=λx hx=>by grind [List.mem_map_of_mem]
 rcases E2 hd hq w ents.toList (λx hx=>by obtain⟨p,hp,e⟩:=hk x hx;exact⟨p,h2 p hp,e⟩)with⟨g1,g2⟩|⟨j,e,g1,g2,g3⟩
 ·grind [List.mem_map_of_mem]
 ·have e1:(ents.toList.map (·.key))[j]?=some e.key:=by rw[S',g2];rfl
  rw[h1,S']at e1;obtain⟨p,hp,e2⟩:=aw'.mp e1;have hpm:p∈ks:=al' hp;have:p=q:=MK.v_inj (h2 p hpm) hq (e2.trans g3);subst this;have hi:=J4 (co.nodup ⟨h1,h2,h3⟩) hp;exact .inr ⟨hpm,e,by rw[hi];exact g2,g3,by rw[hi];exact g1⟩
theorem co.len{kk:Option Nat}{ks:List MK}{ents:Array MapEntry}{clock:Nat}(h:co kk ks ents clock):ents.size=ks.length:=by
 have:=congrArg List.length h.1;simpa using this
theorem co.push{kk:Option Nat}{ks:List MK}{ents:Array MapEntry}{clock:Nat}{q:MK}(h:co kk ks ents clock)(hq:q.fits kk)(hn:∀x∈ents.toList,x.key≠q.v)(v:Value) :
  co kk (ks++[q]) (ents.push ⟨q.v,v,clock⟩) (clock+1):=by
 refine⟨by simp[h.1],λp hp=>?_,MapKept.stamped_push h.2.2 hn⟩
 rcases L'.mp hp with hp|hp
 ·exact h.2.1 p hp
 ·simp_all
theorem co.set{kk:Option Nat}{ks:List MK}{ents:Array MapEntry}{clock:Nat}{i:Nat}{e:MapEntry}{q:MK}(h:co kk ks ents clock)(he:ents.toList[i]?=some e)(hk:e.key=q.v)(v:Value) :
    co kk ks (ents.modify i λe=>{ e with key:=q.v,val:=v }) clock∧((ents.modify i λe=>{ e with key:=q.v,val:=v }).toList.map (·.val))=(ents.toList.map (·.val)).set i v:=by
  have hi:ents[i]?=some e:=by simp_all
  have hs:=MapKept.stamped_modify h.2.2 i (λe=>{ e with key:=q.v,val:=v }) (λ_ _=>rfl) (λx _ hx=>by rw[hi]at hx;cases hx;exact hk.symm)
  refine⟨⟨?_,h.2.1,hs⟩,?_⟩
  · rw[←h.1]
    refine by' λj=>?_
    grind
  · refine by' λj=>?_
    grind
theorem co.erase{kk:Option Nat}{ks:List MK}{ents:Array MapEntry}{clock:Nat}(h:co kk ks ents clock)(i:Nat) :
  co kk (ks.eraseIdx i) (ents.eraseIdxIfInBounds i) clock∧((ents.eraseIdxIfInBounds i).toList.map (·.val))=(ents.toList.map (·.val)).eraseIdx i:=by
 have ht:(ents.eraseIdxIfInBounds i).toList=ents.toList.eraseIdx i:=by simp_all
 refine⟨⟨?_,λp hp=>h.2.1 p (List.mem_of_mem_eraseIdx hp),?_⟩,?_⟩
 ·rw[ht,dd,h.1,dd]
 ·obtain⟨s1,s2,s3⟩:=h.2.2
  refine⟨λx hx=>s1 x ?_,?_,?_⟩
  ·grind
  ·grind
  ·grind
 ·rw[ht,dd]
theorem aA.mapBlk(H:aA P c A μ fr tm hp n a w){b:Nat}{kk:Option Nat}{ks:List MK}{vs:List AV}(hb:hp b=some (.map kk ks vs)) :
  ∃hd ents clock,μ b=some hd∧hd.emp=none∧w.heap[hd.blk]?=some (.map ents clock)∧co kk ks ents clock∧RVL w A vs μ (ents.toList.map (·.val))∧∀x∈vs,x.solid=true:=by
 obtain⟨hd,h1,⟨h2,ents,clock,h3,h4,h5,h6⟩,_⟩:=H.blk b _ hb;exact⟨hd,ents,clock,h1,h2,h3,h4,h5,h6⟩
theorem K0{kk:Option Nat}{t:TypeId}{f:Nat}(H:aA P c A μ fr tm hp n a w)(hf:fr f):cd P c fr tm hp n a w f (Instr.makeMap t none) (evA (.mkm kk) f (evO tm) hp):=by
 let hd:Hd:=⟨none,w.heap.size,0,0,0⟩
 obtain⟨A',h⟩:=H.newOwn hf (w':=w.alloc (.map #[] 0)) rfl rfl rfl (by simp) (λk hk=>heap_alloc_old w _ hk) hd rfl rfl (.map kk [] [])
  (λA' hA hs=>⟨rfl,#[],0,heap_alloc_new w _,⟨rfl,λ_ h=>by simp at h,MapKept.stamped_empty 0⟩,rfl,λ_ h=>by simp at h⟩)
 refine⟨.map (some w.heap.size),w.alloc (.map #[] 0),A',_,?_,h,hd,ai _ _ _,rfl,rfl⟩
 simp_all [Instr.makeMap,Result.andThen]
theorem sK{kk:Option Nat}{t kt e:TypeId}{f:Nat}(hT:P.underlying t=some (.map kt e))(hk:kw P kt=some kk)(H:aA P c A μ fr tm hp n a w){m k x:Operand}
    (hc:(evA (.mset kk (cO P m) (cO P k) (cO P x)) f (evO tm) hp).c) :
    Ee P c fr tm hp n a w (Instr.mapUpdate t (a.eval m) (a.eval k) (a.eval x)) (evA (.mset kk (cO P m) (cO P k) (cO P x)) f (evO tm) hp):=by
  have hm:=H.ev m;have hkk:=H.ev k;have hx:=H.ev x;unfold Ee;simp only[evA]at hc ⊢;generalize evO tm (cO P m)=M at *
  generalize a.eval m=mv at *
  generalize evO tm (cO P k)=K at *
  generalize a.eval k=kv at *
  generalize evO tm (cO P x)=X at *
  generalize a.eval x=xv at *
  cases M<;>simp only[Out.bad]at hc;rename_i b;split at hc
  case h_2=>exact hc.elim
  rename_i kk' ks vs q hb hq;obtain⟨rfl,hfit,hso⟩:=hc;simp only[hb,hq];obtain rfl:=zT hq hkk;obtain⟨hd,h1,h2,rfl⟩:=hm;obtain⟨hd',ents,clock,g1,g2,g3,g4,g5,g6⟩:=H.mapBlk hb;rw[h1]at g1;cases g1;have hck:=λw:World=>kN hk hfit w false
  rcases g4.find hk hfit w with⟨n1,n2,n3⟩|⟨n1,en,n2,n3,n4⟩
  · refine⟨_,A,μ,?_,H.writeObj (x:=pE kk' ks vs q X) hb h1 h2 (.map (ents.push ⟨q.v,xv,clock⟩) (clock+1)) λw' hw' hs=>?_⟩
    · simp[Instr.mapUpdate,run_underlying hT,MapKept.run_getObj_map g3,hck,n2,MapKept.run_setObj_map _ g3,Result.andThen]
    · rw[pE,u' n1]
      refine⟨h2,_,_,by rw[hw'];exact(MapKept.heap_set g3).1,g4.push hfit n3 xv,?_,λy hy=>?_⟩
      · simp only[Array.toList_push,List.map_append,au',cc']
        exact(RVL.mono hs (λ_ h=>h) vs (bp.refl _) g5).append (RVL.singleton (hx.mono hs (λ_ h=>h) _ (bp.refl _)))
      · grind
  · have hi:ents[ks.idxOf q]?=some en:=by rw[←Array.getElem?_toList];exact n2
    obtain⟨e1,e2⟩:=g4.set n2 n3 xv
    refine⟨_,A,μ,?_,H.writeObj (x:=pE kk' ks vs q X) hb h1 h2 (.map (ents.modify (ks.idxOf q) λe=>{ e with key:=q.v,val:=xv }) clock) λw' hw' hs=>?_⟩
    · have hst:(Instr.keyThatStays en.key q.v).run P w=.ok q.v w:=by rw[n3];exact zo hfit w
      simp[Instr.mapUpdate,run_underlying hT,MapKept.run_getObj_map g3,hck,n4,MapKept.run_setObj_map _ g3,Result.andThen,hi,hst]
    · rw[pE,if_pos n1]
      refine⟨h2,_,_,by rw[hw'];exact(MapKept.heap_set g3).1,e1,?_,λy hy=>?_⟩
      · rw[e2]
        exact(RVL.mono hs (λ_ h=>h) vs (bp.refl _) g5).set _ (hx.mono hs (λ_ h=>h) _ (bp.refl _))
      · grind
theorem Fx{kk:Option Nat}{t kt e ty:TypeId}{ts:Array TypeId}{f:Nat}(h0:ts[0]?=some t)(hT:P.underlying t=some (.map kt e))(hk:kw P kt=some kk)(H:aA P c A μ fr tm hp n a w){m k:Operand}
  (hc:(evA (.mdel kk (cO P m) (cO P k)) f (evO tm) hp).c) :
  cd P c fr tm hp n a w f (Builtin.delete_ ts ty #[a.eval m,a.eval k]) (evA (.mdel kk (cO P m) (cO P k)) f (evO tm) hp):=by
 have hm:=H.ev m;have hkk:=H.ev k;unfold cd;simp only[evA]at hc ⊢;generalize evO tm (cO P m)=M at *
 generalize a.eval m=mv at *
 generalize evO tm (cO P k)=K at *
 generalize a.eval k=kv at *
 cases M<;>simp only[Out.bad]at hc;rename_i b;split at hc
 case h_2=>exact hc.elim
 rename_i kk' ks vs q hb hq;obtain⟨rfl,hfit⟩:=hc;simp only[hb,hq];obtain rfl:=zT hq hkk;obtain⟨hd,h1,h2,rfl⟩:=hm;obtain⟨hd',ents,clock,g1,g2,g3,g4,g5,g6⟩:=H.mapBlk hb;rw[h1]at g1;cases g1;have hck:=λ(w:World) (em:Bool)=>kN hk hfit w em
 rcases g4.find hk hfit w with⟨n1,n2,n3⟩|⟨n1,en,n2,n3,n4⟩
 ·refine⟨.tuple #[],_,A,μ,?_,(H.writeObj (x:=pH kk' ks vs q) hb h1 h2 (.map ents clock) λw' hw' hs=>?_).free λb h=>h.1,[],rfl,rfl⟩
  ·simp[Builtin.delete_,h0,run_underlying hT,MapKept.run_getObj_map g3,hck,n2,MapKept.run_setObj_map _ g3,Result.andThen]
  ·rw[pH,u' n1];exact⟨h2,_,_,by rw[hw'];exact(MapKept.heap_set g3).1,g4,RVL.mono hs (λ_ h=>h) vs (bp.refl _) g5,g6⟩
 ·obtain⟨e1,e2⟩:=g4.erase (ks.idxOf q)
  refine⟨.tuple #[],_,A,μ,?_,(H.writeObj (x:=pH kk' ks vs q) hb h1 h2 (.map (ents.eraseIdxIfInBounds (ks.idxOf q)) clock) λw' hw' hs=>?_).free λb h=>h.1,[],rfl,rfl⟩
  ·simp[Builtin.delete_,h0,run_underlying hT,MapKept.run_getObj_map g3,hck,n4,MapKept.run_setObj_map _ g3,Result.andThen]
  ·rw[pH,if_pos n1];refine⟨h2,_,_,by rw[hw'];exact(MapKept.heap_set g3).1,e1,?_,λy hy=>g6 y (List.mem_of_mem_eraseIdx hy)⟩;rw[e2];refine RVL.of_get (by simp[List.length_eraseIdx,g5.length]) λi x v hx hv=>?_;rw[List.getElem?_eraseIdx]at hx hv;have g5':=RVL.mono hs (λ_ h=>h) vs (bp.refl _) g5
   split at hx
   ·rename_i hlt;rw[if_pos hlt]at hv;exact g5'.get2 hx hv
   ·rename_i hlt;rw[u' hlt]at hv;exact g5'.get2 hx hv
theorem CT(H:aA P c A μ fr tm hp n a w){X:AV}{x:Value}{kk:Option Nat}{ks:List MK}{vs:List AV}(h:rh hp X=some (kk,ks,vs))(hx:RV w A X μ x) :
  ∃r ents clock,x=.map (some r)∧w.heap[r]?=some (.map ents clock)∧co kk ks ents clock∧RVL w A vs μ (ents.toList.map (·.val)):=by
 cases X<;>simp only[rh]at h
 case mref b =>
  split at h
  ·rename_i hb;cases h;obtain⟨hd,h1,h2,rfl⟩:=hx;obtain⟨hd',ents,clock,g1,g2,g3,g4,g5,g6⟩:=H.mapBlk hb
   grind
  ·rename_i hb;cases h;obtain⟨hd,h1,h2,rfl⟩:=hx;obtain⟨hd',g1,⟨g2,ents,g3,g4,g5,g6,_⟩,_⟩:=H.blk b _ hb
   grind
  ·cases h
 case mp kk' ks' vs' =>
  cases h;obtain⟨blk,ents,clock,rfl,h2,h3,h4,h5,h6⟩:=hx;exact⟨blk,ents,clock,rfl,h3,h4,h5.up⟩
 all_goals cases h
theorem Fw{kk:Option Nat}{t kt e:TypeId}{z:AV}{ok:Bool}{f:Nat}(hT:P.underlying t=some (.map kt e))(hk:kw P kt=some kk)(hz:cn P e=some z)(H:aA P c A μ fr tm hp n a w){m k:Operand}
  (hc:(evA (.mget kk z ok (cO P m) (cO P k)) f (evO tm) hp).c):Val P w A μ (Instr.lookup t (a.eval m) (a.eval k) ok) (evA (.mget kk z ok (cO P m) (cO P k)) f (evO tm) hp).v:=by
 have hm:=H.ev m;have hkk:=H.ev k;simp only[evA]at hc ⊢;generalize evO tm (cO P m)=M at *
 generalize a.eval m=mv at *
 generalize evO tm (cO P k)=K at *
 generalize a.eval k=kv at *
 split at hc
 case h_2=>exact hc.elim
 rename_i kk' ks vs q hM hq;obtain⟨rfl,hfit⟩:=hc;simp only[hM,hq];obtain rfl:=zT hq hkk;obtain⟨r,ents,clock,rfl,g3,g4,g5⟩:=CT H hM hm;have hck:=λ(w:World) (em:Bool)=>kN hk hfit w em
 rcases g4.find hk hfit w with⟨n1,n2,n3⟩|⟨n1,en,n2,n3,n4⟩
 ·obtain⟨zv,z1,z2⟩:=fk (w:=w) hz;have hzv:RV w A z μ zv:=by rw[z2];exact dB zv
  refine⟨if ok then .tuple #[zv,.bool false]else zv,?_,?_⟩
  ·simp[Instr.lookup,run_underlying hT,MapKept.run_getObj_map g3,hck,n2,z1,Result.andThen]
  ·rw[mf,u' n1]
   cases ok
   ·exact hzv
   ·exact⟨[zv,.bool false],rfl,_,_,rfl,hzv,_,_,rfl,⟨rfl,trivial⟩,rfl⟩
 ·have hv:RV w A (vs.getD (ks.idxOf q) .unk) μ en.val:=by
   have e1:(ents.toList.map (·.val))[ks.idxOf q]?=some en.val:=by simp_all
   have hlt:ks.idxOf q<vs.length:=by rw[g5.length];exact(I'.mp e1).1
   have e2:vs[ks.idxOf q]?=some (vs.getD (ks.idxOf q) .unk):=by simp_all
   exact g5.get2 e2 e1
  refine⟨if ok then .tuple #[en.val,.bool true]else en.val,?_,?_⟩
  ·simp[Instr.lookup,run_underlying hT,MapKept.run_getObj_map g3,hck,n4,Result.andThen]
  ·rw[mf,if_pos n1]
   cases ok
   ·exact hv
   ·exact⟨[en.val,.bool true],rfl,_,_,rfl,hv,_,_,rfl,⟨rfl,trivial⟩,rfl⟩
theorem Fv{t kt e ty:TypeId}{f:Nat}{X:AO}{x:Value}(hT:P.underlying t=some (.map kt e))(H:aA P c A μ fr tm hp n a w)(hx:RV w A (evO tm X) μ x)
  (hc:(evA (.mlen X) f (evO tm) hp).c):Val P w A μ (Builtin.len_ #[t] ty #[x]) (evA (.mlen X) f (evO tm) hp).v:=by
 simp only[evA]at hc ⊢;split at hc
 case h_2=>exact hc.elim
 rename_i kk ks vs hM;simp only[hM];obtain⟨r,ents,clock,rfl,g3,g4,g5⟩:=CT H hM hx;refine⟨.int .i64 ks.length,?_,bG (dt hc)⟩;simp[Builtin.len_,run_underlying hT,MapKept.run_getObj_map g3,Result.andThen,goInt,g4.len]
theorem qn{t:TypeId}{f:Nat}{X:AO}{x:Value}(hT:∀ms,P.underlying t≠some (.interface ms))(hT2:(P.underlying t).isSome=true)(hx:RV w A (evO tm X) μ x)(hc:(evA (.mkI t X) f (evO tm) hp).c) :
  Val P w A μ (Instr.makeInterface t x) (evA (.mkI t X) f (evO tm) hp).v:=by
 have hr:(Instr.makeInterface t x).run P w=.ok (.iface t x) w:=by
  obtain⟨d,hd⟩:=bt'.mp hT2;unfold Instr.makeInterface;simp only[Sem.run_bind,run_underlying hd,Result.andThen_ok]
  simp_all
 simp only[evA]at hc ⊢;generalize evO tm X=Y at *
 cases Y<;>simp only[Out.bad]at hc;rename_i v;obtain⟨rfl,hp⟩:=hx
 cases x<;>simp only at hc
 ·exact⟨_,hr,rfl,trivial⟩
 ·exact⟨_,hr,rfl,hp⟩
 ·exact⟨_,hr,rfl,hp⟩
theorem nD{t s:TypeId}{z:AV}{f:Nat}{X:AO}{x:Value}(hT:∀ms,P.underlying t≠some (.interface ms))(hT2:(P.underlying t).isSome=true)(hz:cn P t=some z)(hx:RV w A (evO tm X) μ x)(hc:(evA (.asrt t z X) f (evO tm) hp).c) :
  Val P w A μ (Instr.typeAssert x s t true) (evA (.asrt t z X) f (evO tm) hp).v:=by
 simp only[evA]at hc ⊢;generalize evO tm X=Y at *
 cases Y<;>simp only[Out.bad]at hc;rename_i v;obtain⟨rfl,hp⟩:=hx;cases x<;>simp only at hc;rename_i t' v;obtain⟨d,hd⟩:=bt'.mp hT2;obtain⟨zv,z1,z2⟩:=fk (w:=w) hz;have hzv:RV w A z μ zv:=by rw[z2];exact dB zv
 have hpv:aU v:=by cases v<;>simp_all [aU]
 by_cases e:t'=t
 ·refine⟨.tuple #[v,.bool true],?_,?_⟩
  ·unfold Instr.typeAssert;simp only[Sem.run_bind,run_underlying hd,Result.andThen_ok]
   simp_all
  ·simp only[if_pos e];exact⟨_,rfl,_,_,rfl,⟨rfl,hpv⟩,_,_,rfl,⟨rfl,trivial⟩,rfl⟩
 ·refine⟨.tuple #[zv,.bool false],?_,?_⟩
  ·unfold Instr.typeAssert;simp only[Sem.run_bind,run_underlying hd,Result.andThen_ok]
   simp_all
  ·simp only[u' e];exact⟨_,rfl,_,_,rfl,hzv,_,_,rfl,⟨rfl,trivial⟩,rfl⟩
def mJ(P:Program)(c:Ctx)(fr:Nat→Prop)(tm:Nat→AV)(hp:Hp)(n:Nat)(a:Act)(w:World)(f:Nat)(s:Sem Next)(out:Out):Prop:=
 ∃cv w' A' μ',(s.run P w=.ok (.value cv) w'∨(s.run P w=.ok .skip w'∧cv=undef))∧aA P c A' μ' (λb=>fr b∧b≠f) tm (bQ out hp) n a w'∧RV w' A' out.v μ' cv
theorem cd.next{s:Sem Value}{f:Nat}{out:Out}(h:cd P c fr tm hp n a w f s out):mJ P c fr tm hp n a w f (do pure (.value (←s))) out:=by
 obtain⟨cv,w',A',μ',h1,h2,h3⟩:=h;exact⟨cv,w',A',μ',.inl (by simp only[Sem.run_bind,h1,Result.andThen_ok,Sem.run_pure]),h2,h3⟩
theorem Val.next{s:Sem Value}{out:Out}{f:Nat}(H:aA P c A μ fr tm hp n a w)(h:Val P w A μ s out.v)(h1:out.rm=none)(h2:out.ad=none):mJ P c fr tm hp n a w f (do pure (.value (←s))) out:=
 (h.does H h1 h2).next
theorem fU(op:BinOp)(x y:AV):(dx op x y).rm=none∧(dx op x y).ad=none:=by
 unfold dx;split
 ·grind
 ·cases op<;>exact⟨rfl,rfl⟩
 ·exact⟨rfl,rfl⟩
theorem iU(op:BinOp)(x y:AV):(jb op x y).rm=none∧(jb op x y).ad=none:=by
 unfold jb;split
 ·cases op<;>exact⟨rfl,rfl⟩
 ·exact⟨rfl,rfl⟩
theorem lJ(op:UnOp)(x:AV):(unA op x).rm=none∧(unA op x).ad=none:=by unfold unA;split<;>exact⟨rfl,rfl⟩
theorem sr(hp:Hp)(x:AV):(je hp x).rm=none∧(je hp x).ad=none:=by
 unfold je;repeat' split
 all_goals exact⟨rfl,rfl⟩
theorem fb(g:Int→Int→Int)(x:List AV):(gQ g x).rm=none∧(gQ g x).ad=none:=by
 unfold gQ;repeat' split
 all_goals exact⟨rfl,rfl⟩
theorem cQ(hp:Hp)(k:Nat)(x:AV)(lo hi mx:Option Int):(sliceA hp k x lo hi mx).rm=none∧(sliceA hp k x lo hi mx).ad=none:=by
 unfold sliceA;repeat' split
 all_goals exact⟨rfl,rfl⟩
theorem cp{lo:Option Operand}{v:Option AV}(H:aA P c A μ fr tm hp n a w)(h:(lo.map (cO P)).map (evO tm)=v)(o:Option Int)
  (ho:(v=none∧o=none)∨∃k i,v=some (.val (.int k i))∧o=some i):fA o (lo.map a.eval):=by
 cases lo with
 | none=>simp at h;subst h;rcases ho with⟨_,rfl⟩|⟨k,i,h,_⟩;trivial;cases h
 | some x =>
  have hx:=H.ev x;simp at h
  rcases ho with⟨h',_⟩|⟨k,i,h',rfl⟩
  ·simp_all
  ·rw[h']at h;have e:evO tm (cO P x)=.val (.int k i):=ao' h;rw[e]at hx;obtain⟨hx,_⟩:=hx;simp[fA,hx]
theorem mJ.congr{s s':Sem Next}{f:Nat}{out:Out}(h:mJ P c fr tm hp n a w f s' out)(e:s.run P w=s'.run P w):mJ P c fr tm hp n a w f s out:=by grind [mJ]
theorem u9{o:Oper}{b:Builtin}{args:Array Operand}{ts:Array TypeId}(ho:o.op=.call { callee:=.builtin b,args:=args,argTypes:=ts }) :
    ∃consts,(execOp a.eval o).run P w=(builtin b ts o.type consts (args.map a.eval)).run P w:=by
  have h1:∃cs:Array Bool,resolve a.eval { callee:=.builtin b,args:=args,argTypes:=ts } o.type=pure { target:=.builtin b ts o.type cs,args:=args.map a.eval }:=⟨_,rfl⟩
  obtain⟨cs,h⟩:=h1;refine⟨cs,?_⟩;unfold execOp;rw[ho];simp only[h,Sem.run_bind,Sem.run_pure,Result.andThen_ok,invoke]
theorem Ks{o:Oper}{cc:Call}{f:Nat}(ho:o.op=.call cc)(H:aA P c A μ fr tm hp n a w)(hf:fr f)(hc:(evA (dv P cc o.type) f (evO tm) hp).c) :
  mJ P c fr tm hp n a w f (execOp a.eval o) (evA (dv P cc o.type) f (evO tm) hp):=by
 have bad:∀{op'},op'=AOp.bad→(evA op' f (evO tm) hp).c→False:=by rintro _ rfl h;exact h
 obtain⟨callee,args,ts⟩:=cc;cases callee with
 | value g=>simp only[dv,evA]at hc;exact hc.elim
 | invoke r m=>simp only[dv,evA]at hc;exact hc.elim
 | builtin b =>
  obtain⟨consts,he⟩:=u9 (P:=P) (w:=w) (a:=a) ho;refine mJ.congr ?_ he;clear he ho;simp only[dv]at hc ⊢
  split at hc
  ·-- len
   rename_i x t e1 e2;have ea:args=#[x]:=by grind
   have et:ts=#[t]:=by grind
   subst ea;subst et
   split at hc
   ·rename_i N e hu;split at hc
    case isFalse=>exact(bad rfl hc).elim
    rename_i hN
    try rw[if_pos hN]
    refine Val.next (s:=Builtin.len_ #[t] o.type (#[x].map a.eval)) H ⟨.int .i64 N,?_,bG (dt hN)⟩ rfl rfl;simp[Builtin.len_,run_underlying hu,goInt]
   ·rename_i hu;refine Val.next (s:=Builtin.len_ #[t] o.type (#[x].map a.eval)) H (by simpa using F2 (P:=P) (ty:=o.type) hu (H.ev x) hc) ?_ ?_<;>(simp only[evA];split<;>rfl)
   ·rename_i e hu;exact Val.next (s:=Builtin.len_ #[t] o.type (#[x].map a.eval)) H (by rw[show(#[x].map a.eval:Array Value)=#[a.eval x] by simp];exact K5 (P:=P) (ty:=o.type) H hu (H.ev x) hc) (sr _ _).1 (sr _ _).2
   ·rename_i kt e hu;split at hc
    case h_2=>exact(bad rfl hc).elim
    rename_i kk hk;refine Val.next (s:=Builtin.len_ #[t] o.type (#[x].map a.eval)) H (by simpa using Fv (P:=P) (ty:=o.type) hu H (H.ev x) hc) ?_ ?_<;>(simp only[evA];(repeat' split)<;>rfl)
   ·simp_all
  ·-- delete
   rename_i m k t rest e1 e2;have ea:args=#[m,k]:=by grind
   have et:ts[0]?=some t:=by rw[←Array.getElem?_toList,e2];rfl
   subst ea;split at hc
   case h_2=>exact(bad rfl hc).elim
   rename_i kt e hu;split at hc
   case h_2=>exact(bad rfl hc).elim
   rename_i kk hk;exact cd.next (s:=Builtin.delete_ ts o.type (#[m,k].map a.eval)) (by simpa using Fx (P:=P) (ty:=o.type) et hu hk H hc)
  ·-- cap
   rename_i x t e1 e2;have ea:args=#[x]:=by grind
   have et:ts=#[t]:=by grind
   subst ea;subst et;split at hc
   case h_2=>exact(bad rfl hc).elim
   rename_i e hu;refine Val.next (s:=Builtin.cap_ #[t] o.type (#[x].map a.eval)) H (by simpa using K7 (P:=P) (ty:=o.type) H hu (H.ev x) hc) ?_ ?_<;>(simp only[evA];(repeat' split)<;>rfl)
  ·-- min
   have hx:=H.evs args.toList;have ea:args.map a.eval=(args.toList.map a.eval).toArray:=by apply bX';simp
   rw[ea];have e3:(args.toList.map (cO P)).map (evO tm)=args.toList.map λx=>evO tm (cO P x):=by simp
   simp only[evA,e3]at hc ⊢;exact Val.next (s:=Builtin.min_ ts o.type _) H (K2 hx hc) (fb _ _).1 (fb _ _).2
  ·-- max
   have hx:=H.evs args.toList;have ea:args.map a.eval=(args.toList.map a.eval).toArray:=by apply bX';simp
   rw[ea];have e3:(args.toList.map (cO P)).map (evO tm)=args.toList.map λx=>evO tm (cO P x):=by simp
   simp only[evA,e3]at hc ⊢;exact Val.next (s:=Builtin.max_ ts o.type _) H (K3 hx hc) (fb _ _).1 (fb _ _).2
  ·-- append
   rename_i s x t u e1 e2;have ea:args=#[s,x]:=by grind
   have et:ts=#[t,u]:=by grind
   subst ea;subst et
   split at hc
   ·rename_i e e' hu hu';split at hc
    case h_2=>exact(bad rfl hc).elim
    rename_i k b z hs hb hz;split at hc
    case isFalse=>exact(bad rfl hc).elim
    rename_i hk
    try rw[if_pos hk]
    obtain⟨i,hi,hik,hib⟩:=oG hs hb;have hiz:i.zero=some z:=by simpa[hi]using hz
    refine cd.next (s:=Builtin.append_ #[t,u] o.type (#[s,x].map a.eval)) ?_;have:=oc (P:=P) (ty:=o.type) (tx:=u) hu hi hik hib hiz hk.2 hk.1 H hf (H.ev s) (λxs hxs=>Rs H (H.ev x) hxs hu') hc;rw[show(#[s,x].map a.eval:Array Value)=#[a.eval s,a.eval x] by simp];exact this
   ·rename_i e hu hu';split at hc
    case h_2=>exact(bad rfl hc).elim
    rename_i b z hs hb hz;split at hc
    case isFalse=>exact(bad rfl hc).elim
    rename_i hk
    try rw[if_pos hk]
    obtain⟨i,hi,hik,hib⟩:=oG hs hb;have hiz:i.zero=some z:=by simpa[hi]using hz
    refine cd.next (s:=Builtin.append_ #[t,u] o.type (#[s,x].map a.eval)) ?_;have:=oc (P:=P) (ty:=o.type) (tx:=u) hu hi hik hib hiz hk (by omega) H hf (H.ev s) (λxs hxs=>MI (H.ev x) hxs hu') hc;rw[show(#[s,x].map a.eval:Array Value)=#[a.eval s,a.eval x] by simp];exact this
   ·rename_i e kn hu hu';split at hc
    case h_2=>exact(bad rfl hc).elim
    rename_i k b z hs hb hz;split at hc
    case isFalse=>exact(bad rfl hc).elim
    rename_i hk
    try rw[if_pos hk]
    refine cd.next (s:=Builtin.append_ #[t,u] o.type (#[s,x].map a.eval)) ?_;have:=uB (P:=P) (ty:=o.type) (tx:=u) hu hu' hs hb hz hk H hf (H.ev s) (H.ev x) hc;rw[show(#[s,x].map a.eval:Array Value)=#[a.eval s,a.eval x] by simp];exact this
   ·simp_all
  ·-- clear
   rename_i x t e1 e2;have ea:args=#[x]:=by grind
   have et:ts=#[t]:=by grind
   subst ea;subst et;split at hc
   case h_2=>exact(bad rfl hc).elim
   rename_i e hu;split at hc
   case h_2=>exact(bad rfl hc).elim
   rename_i k z hs hz;split at hc
   case isFalse=>exact(bad rfl hc).elim
   rename_i hk
   try rw[if_pos hk]
   refine cd.next (s:=Builtin.clear_ #[t] o.type (#[x].map a.eval)) ?_;have:=Ay (P:=P) (ty:=o.type) (f:=f) hu hz hk H (H.ev x) hc;rw[show(#[x].map a.eval:Array Value)=#[a.eval x] by simp];exact this
  ·-- copy
   rename_i d s t u e1 e2;have ea:args=#[d,s]:=by grind
   have et:ts=#[t,u]:=by grind
   subst ea;subst et;split at hc
   case h_2=>exact(bad rfl hc).elim
   rename_i e hu;split at hc
   case h_2=>exact(bad rfl hc).elim
   rename_i k hs;split at hc
   case isFalse=>exact(bad rfl hc).elim
   rename_i hk
   try rw[if_pos hk]
   refine cd.next (s:=Builtin.copy_ #[t,u] o.type (#[d,s].map a.eval)) ?_;have:=F3 (P:=P) (ty:=o.type) (tx:=u) (f:=f) hu hs hk H (H.ev d) (H.ev s) hc;rw[show(#[d,s].map a.eval:Array Value)=#[a.eval d,a.eval s] by simp];exact this
  ·simp_all
theorem Fu{T e:TypeId}{op:BinOp}{x y:Operand}{f:Nat}(hT:P.underlying T=some (.pointer e))(H:aA P c A μ fr tm hp n a w)(hc:(evA (iT P true op x y) f (evO tm) hp).c) :
  Val P w A μ (do eqGuard op T x y (a.eval x) (a.eval y);binOp op T (a.eval x) (a.eval y)) (evA (iT P true op x y) f (evO tm) hp).v∧(evA (iT P true op x y) f (evO tm) hp).rm=none∧(evA (iT P true op x y) f (evO tm) hp).ad=none:=by
 have go:∀ne:Bool,op=(if ne then .neq else .eql)→y=.const (.pointer none)→(evA (.isNil true ne (cO P x)) f (evO tm) hp).c →
   Val P w A μ (do eqGuard op T x y (a.eval x) (a.eval y);binOp op T (a.eval x) (a.eval y)) (evA (.isNil true ne (cO P x)) f (evO tm) hp).v∧(evA (.isNil true ne (cO P x)) f (evO tm) hp).rm=none∧(evA (.isNil true ne (cO P x)) f (evO tm) hp).ad=none:=by
  intro ne hop hy hc;simp only[evA]at hc ⊢;cases hv:EF (evO tm (cO P x))with
  | none=>simp only[hv]at hc;exact hc.elim
  | some t =>
   obtain⟨k1,k2⟩:=CF (hp:=hp) hv;obtain⟨t',g1,g2⟩:=Cs (T:=T) (e:=e) (ptr:=true) (ne:=ne) (y:=.pointer none) hop (.inr ⟨rfl,hT,rfl⟩) H (H.ev x) k1;cases k2 t' g1;refine⟨⟨_,?_,cK _⟩,rfl,rfl⟩;subst hy;have hg:(eqGuard op T x (.const (.pointer none)) (a.eval x) (a.eval (.const (.pointer none)))).run P w=.ok () w:=by
    have hv:a.eval (.const (.pointer none))=.pointer none:=rfl
    simp_all [eqGuard]
   rw[Sem.run_bind,hg,Result.andThen_ok];exact g2
 unfold iT at hc ⊢
 split at hc
 ·rename_i hy;rw[if_pos hy];have hy:y=.const (.pointer none):=by
   unfold pO at hy
   grind
  cases op<;>first|exact hc.elim|exact go false rfl hy hc|exact go true rfl hy hc
 ·exact hc.elim
theorem P2{op:BinOp}{x y:Operand}{f:Nat}{ρ:AO→AV}(hc:(evA (iT P false op x y) f ρ hp).c):False:=by
 unfold iT at hc
 split at hc
 ·cases op<;>exact hc
 ·exact hc
theorem Fo(o:Oper){f:Nat}(H:aA P c A μ fr tm hp n a w)(hf:fr f)(hc:(evA (cOp P o.op o.type) f (evO tm) hp).c) :
  mJ P c fr tm hp n a w f (execOp a.eval o) (evA (cOp P o.op o.type) f (evO tm) hp):=by
 obtain⟨dst,op,ty,pos,after,guard⟩:=o;simp only at hc ⊢;have bad:∀{op'},op'=AOp.bad→(evA op' f (evO tm) hp).c→False:=by rintro _ rfl h;exact h
 cases op with
 | move x=>exact⟨_,w,A,μ,.inl rfl,H.free λb h=>h.1,H.ev x⟩
 | assign x=>exact⟨_,w,A,μ,.inl rfl,H.free λb h=>h.1,H.ev x⟩
 | pick cc x y =>
  simp only[cOp,evA]at hc ⊢;split at hc
  case h_2=>exact hc.elim
  rename_i t ht;obtain⟨cv,h1,h2⟩:=Ft (P:=P) (w:=w) ht (H.ev cc) (H.ev x) (H.ev y);exact⟨cv,w,A,μ,.inl h1,H.free λb h=>h.1,h2⟩
 | alloc t =>
  simp only[cOp]at hc ⊢;cases hz:cn P t with
  | none=>simp only[hz]at hc;exact(bad rfl hc).elim
  | some z =>
   simp only[hz]at hc ⊢;obtain⟨zv,h1,h2⟩:=fk (w:=w) hz;refine cd.next (s:=Instr.alloc t true (.tuple #[])) (xH (X:=.c z) (x:=zv) (T:=t) H hf (by show RV w A z μ zv;rw[h2];exact dB zv) hc _ ?_);simp only[Instr.alloc,Sem.run_bind,h1,Result.andThen_ok,newVar,cU,Sem.run_pure]
 | box t x =>
  exact cd.next (xH (T:=t) H hf (H.ev x) hc _ (by simp only[Instr.box,Sem.run_bind,newVar,cU,Result.andThen_ok,Sem.run_pure]))
 | build t parts =>
  simp only[cOp]at hc ⊢
  split at hc
  ·rename_i fs z hu hz
   try simp only[hu,hz]at hc ⊢
   split at hc
   case h_2=>exact(bad rfl hc).elim
   rename_i ps hps;split at hc
   case isFalse=>exact(bad rfl hc).elim
   rename_i hall
   try simp only[hps,hall,↓reduceIte]
   refine Val.next H (mC hu hz hps ?_ H hc) rfl rfl
   grind [List.all_eq_true,Option.isSome_iff_exists]
  ·rename_i N e z hu hz
   try simp only[hu,hz]at hc ⊢
   split at hc
   case h_2=>exact(bad rfl hc).elim
   rename_i s hs
   try simp only[hs]
   exact Val.next H (nC hu hz hs H hc) rfl rfl
  ·simp_all
 | buildSlice t N parts =>
  simp only[cOp]at hc ⊢;split at hc
  case h_2=>exact(bad rfl hc).elim
  rename_i e hu
  try simp only[hu]
  split at hc
  case h_2=>exact(bad rfl hc).elim
  rename_i k z hs hz;split at hc
  case isFalse=>exact(bad rfl hc).elim
  rename_i hk
  try simp only[hs,hz,hk,and_self,↓reduceIte]
  try rw[if_pos hk]
  exact cd.next (K4 (f:=f) hu hs hz hk H hc)
 | load t x =>
  simp only[cOp]at hc ⊢;split at hc
  case h_2=>exact(bad rfl hc).elim
  rename_i d s hu hs;split at hc
  case isFalse=>exact(bad rfl hc).elim
  rename_i h0
  try simp only[hu,hs,h0,↓reduceIte]
  refine Val.next H (Fy hu hs H x f hc) ?_ ?_
  ·grind [evA]
  ·grind [evA]
 | store t x y =>
  simp only[cOp]at hc ⊢;split at hc
  case h_2=>exact(bad rfl hc).elim
  rename_i s hs;split at hc
  case isFalse=>exact(bad rfl hc).elim
  rename_i h0
  try simp only[hs,h0,↓reduceIte]
  obtain⟨w',A',μ',h1,h2⟩:=Aq hs H hc;refine⟨undef,w',A',μ',.inr ⟨by simp only[execOp,Sem.run_bind,h1,Result.andThen_ok,Sem.run_pure],rfl⟩,h2.free λb h=>h.1,?_⟩;have:(evA (.store s (cO P x) (cO P y)) f (evO tm) hp).v=.unk:=by grind [evA]
  rw[this];trivial
 | nilCheck x =>
  have hx:=H.ev x;simp only[cOp,evA]at hc ⊢
  split at hc
  ·rename_i b o e;rw[e]at hx;obtain⟨hd,h1,h2,h3⟩:=hx;exact⟨a.eval x,w,A,μ,.inl (by simp[execOp,h3]),H.free λb h=>h.1,hd,h1,h2,h3⟩
  ·rename_i b i o e;rw[e]at hx;obtain⟨hd,h1,h2,h3⟩:=hx;exact⟨a.eval x,w,A,μ,.inl (by simp[execOp,h3]),H.free λb h=>h.1,hd,h1,h2,h3⟩
  ·rename_i y o e;rw[e]at hx;obtain⟨blk,oo,v,h1,h2⟩:=hx;exact⟨a.eval x,w,A,μ,.inl (by simp[execOp,h1]),H.free λb h=>h.1,blk,oo,v,h1,h2⟩
  ·rename_i g caps e;rw[e]at hx;obtain⟨vs,h1,h2⟩:=hx;exact⟨a.eval x,w,A,μ,.inl (by simp[execOp,h1]),H.free λb h=>h.1,vs,h1,h2⟩
  ·exact hc.elim
 | binOp op t x y yt =>
  simp only[cOp]at hc ⊢
  split at hc
  ·split at hc
   ·rename_i fs hu ks hT;obtain⟨cv,h1,h2⟩:=xE (P:=P) (ne:=false) hT .eql rfl H hc;have hp0:(evA (.eqs ks false (cO P x) (cO P y)) f (evO tm) hp).rm=none∧(evA (.eqs ks false (cO P x) (cO P y)) f (evO tm) hp).ad=none:=by
     simp only[evA];repeat' split
     all_goals exact⟨rfl,rfl⟩
    exact Val.next H ⟨cv,h1,h2⟩ hp0.1 hp0.2
   ·rename_i fs hu ks hT;obtain⟨cv,h1,h2⟩:=xE (P:=P) (ne:=true) hT .neq rfl H hc;have hp0:(evA (.eqs ks true (cO P x) (cO P y)) f (evO tm) hp).rm=none∧(evA (.eqs ks true (cO P x) (cO P y)) f (evO tm) hp).ad=none:=by
     simp only[evA];repeat' split
     all_goals exact⟨rfl,rfl⟩
    exact Val.next H ⟨cv,h1,h2⟩ hp0.1 hp0.2
   ·simp_all
  ·rename_i hu;have hg:(eqGuard op t x y (a.eval x) (a.eval y)).run P w=.ok () w:=by
    have hx:=H.ev x;have hy:=H.ev y;simp only[evA,jb]at hc
    split at hc
    ·rename_i p q e1 e2;rw[e1]at hx;rw[e2]at hy;obtain⟨hx,_⟩:=hx
     simp_all [eqGuard]
    ·exact hc.elim
   obtain⟨cv,h1,h2⟩:=F5 (P:=P) (w:=w) op t hu (H.ev x) (H.ev y) hc;refine Val.next (s:=do eqGuard op t x y (a.eval x) (a.eval y);binOp op t (a.eval x) (a.eval y)) H ⟨cv,?_,h2⟩ (iU _ _ _).1 (iU _ _ _).2
   simp_all
  ·rename_i k hu;have hg:(eqGuard op t x y (a.eval x) (a.eval y)).run P w=.ok () w:=by
    have hx:=H.ev x;have hy:=H.ev y;simp only[evA,dx]at hc
    split at hc
    ·rename_i k p k' q e1 e2;rw[e1]at hx;rw[e2]at hy;obtain⟨hx,_⟩:=hx
     simp_all [eqGuard]
    ·rename_i p q e1 e2;rw[e1]at hx;rw[e2]at hy;obtain⟨hx,_⟩:=hx
     simp_all [eqGuard]
    ·exact hc.elim
   obtain⟨cv,h1,h2⟩:=xI (P:=P) (w:=w) op t (H.ev x) (H.ev y) hc;refine Val.next (s:=do eqGuard op t x y (a.eval x) (a.eval y);binOp op t (a.eval x) (a.eval y)) H ⟨cv,?_,h2⟩ (fU _ _ _).1 (fU _ _ _).2
   simp_all
  ·rename_i hu;have hg:(eqGuard op t x y (a.eval x) (a.eval y)).run P w=.ok () w:=by
    have hx:=H.ev x;have hy:=H.ev y;simp only[evA,dx]at hc
    split at hc
    ·rename_i k p k' q e1 e2;rw[e1]at hx;rw[e2]at hy;obtain⟨hx,_⟩:=hx
     simp_all [eqGuard]
    ·rename_i p q e1 e2;rw[e1]at hx;rw[e2]at hy;obtain⟨hx,_⟩:=hx
     simp_all [eqGuard]
    ·exact hc.elim
   obtain⟨cv,h1,h2⟩:=xI (P:=P) (w:=w) op t (H.ev x) (H.ev y) hc;refine Val.next (s:=do eqGuard op t x y (a.eval x) (a.eval y);binOp op t (a.eval x) (a.eval y)) H ⟨cv,?_,h2⟩ (fU _ _ _).1 (fU _ _ _).2
   simp_all
  ·grind [P2]
  ·rename_i hu;obtain⟨h1,h2,h3⟩:=Fu (P:=P) hu H hc;exact Val.next (s:=do eqGuard op t x y (a.eval x) (a.eval y);binOp op t (a.eval x) (a.eval y)) H h1 h2 h3
  ·simp_all
 | unOp op t x=>exact Val.next H (Pf op (H.ev x) hc) (lJ _ _).1 (lJ _ _).2
 | convert s d x =>
  simp only[cOp]at hc ⊢
  split at hc
  ·rename_i k0 k hs hd;refine Val.next H (Aw hs hd (H.ev x) hc) ?_ ?_<;>(simp only[evA];split<;>rfl)
  ·rename_i hs hd;refine Val.next H (Av hs hd (H.ev x) hc) ?_ ?_<;>(simp only[evA];split<;>rfl)
  ·rename_i e hs hd;split at hc
   case h_2=>exact(bad rfl hc).elim
   rename_i he
   refine Val.next H (xG hs he hd H (H.ev x) hc) ?_ ?_
   ·grind [evA]
   ·grind [evA]
  ·rename_i e hs hd;split at hc
   case h_2=>exact(bad rfl hc).elim
   rename_i he;exact cd.next (xF hs hd he H (H.ev x) hc)
  ·simp_all
 | makeFunc fn first captured =>
  cases fn with
  | func g =>
   simp only[cOp]at hc ⊢;split at hc
   case isFalse=>exact(bad rfl hc).elim
   rename_i hz;have hf0:first=#[]:=Array.eq_empty_of_size_eq_zero hz
   subst hf0
   try rw[if_pos hz]
   exact Val.next H (K1 (f:=f) H) rfl rfl
  | _=>exact(bad rfl hc).elim
 | makeSlice t l cc =>
  simp only[cOp]at hc ⊢;split at hc
  case h_2=>exact(bad rfl hc).elim
  rename_i e hu;split at hc
  case h_2=>exact(bad rfl hc).elim
  rename_i k b z hs hb hz;split at hc
  case isFalse=>exact(bad rfl hc).elim
  rename_i hk
  try rw[if_pos hk]
  exact cd.next (Kz hu hs hb hz hk H hf (H.ev l) (H.ev cc) hc)
 | slice t x lo hi mx =>
  simp only[cOp]at hc ⊢
  split at hc
  ·rename_i hu;split at hc
   case isFalse=>exact(bad rfl hc).elim
   rename_i hm;have hm0:mx=none:=by simpa using hm
   subst hm0
   try rw[if_pos hm]
   refine Val.next H (xz hu H hc) ?_ ?_
   ·grind [evA]
   ·grind [evA]
  ·rename_i e hu;split at hc
   case h_2=>exact(bad rfl hc).elim
   rename_i k hs;split at hc
   case isFalse=>exact(bad rfl hc).elim
   rename_i hk
   try rw[if_pos hk]
   simp only[evA]at hc ⊢
   split at hc
   ·rename_i e1 e2 e3;exact Val.next H (fc hu hs H (cp H e1 none (.inl ⟨rfl,rfl⟩)) (cp H e2 none (.inl ⟨rfl,rfl⟩)) (cp H e3 none (.inl ⟨rfl,rfl⟩)) (H.ev x) hc) (cQ _ _ _ _ _ _).1 (cQ _ _ _ _ _ _).2
   ·rename_i e1 e2 e3;exact Val.next H (fc hu hs H (cp H e1 (some _) (.inr ⟨_,_,rfl,rfl⟩)) (cp H e2 none (.inl ⟨rfl,rfl⟩)) (cp H e3 none (.inl ⟨rfl,rfl⟩)) (H.ev x) hc) (cQ _ _ _ _ _ _).1 (cQ _ _ _ _ _ _).2
   ·rename_i e1 e2 e3;exact cd.next (uA hu hs H hf (cp H e1 none (.inl ⟨rfl,rfl⟩)) (cp H e2 (some _) (.inr ⟨_,_,rfl,rfl⟩)) (cp H e3 none (.inl ⟨rfl,rfl⟩)) (H.ev x) hc)
   ·rename_i e1 e2 e3;exact Val.next H (fc hu hs H (cp H e1 (some _) (.inr ⟨_,_,rfl,rfl⟩)) (cp H e2 (some _) (.inr ⟨_,_,rfl,rfl⟩)) (cp H e3 none (.inl ⟨rfl,rfl⟩)) (H.ev x) hc) (cQ _ _ _ _ _ _).1 (cQ _ _ _ _ _ _).2
   ·rename_i e1 e2 e3;exact cd.next (F4 hu hs H hf (cp H e1 none (.inl ⟨rfl,rfl⟩)) (cp H e2 (some _) (.inr ⟨_,_,rfl,rfl⟩)) (cp H e3 (some _) (.inr ⟨_,_,rfl,rfl⟩)) (H.ev x) hc)
   ·rename_i e1 e2 e3;exact Val.next H (fc hu hs H (cp H e1 (some _) (.inr ⟨_,_,rfl,rfl⟩)) (cp H e2 (some _) (.inr ⟨_,_,rfl,rfl⟩)) (cp H e3 (some _) (.inr ⟨_,_,rfl,rfl⟩)) (H.ev x) hc) (cQ _ _ _ _ _ _).1 (cQ _ _ _ _ _ _).2
   ·exact hc.elim
  ·rename_i N e hu;split at hc
   case h_2=>exact(bad rfl hc).elim
   rename_i k hs;split at hc
   case isFalse=>exact(bad rfl hc).elim
   rename_i hk;have hm0:mx=none:=by simp at hk;simpa using hk.1
   subst hm0
   try rw[if_pos hk]
   refine Val.next H (xA hu hs H hc) ?_ ?_
   ·grind [evA]
   ·grind [evA]
  ·simp_all
 | fieldAddr s x i =>
  simp only[cOp]at hc ⊢;split at hc
  case h_2=>exact(bad rfl hc).elim
  rename_i fs hu;split at hc
  case h_2=>exact(bad rfl hc).elim
  rename_i fd hi;split at hc
  case h_2=>exact(bad rfl hc).elim
  rename_i k hs;split at hc
  case isFalse=>exact(bad rfl hc).elim
  rename_i hk
  try rw[if_pos hk]
  refine Val.next H (Au hu hi hs hk (H.ev x) hc) ?_ ?_
  ·grind [evA]
  ·grind [evA]
 | field s x i =>
  simp only[cOp]at hc ⊢;split at hc
  case h_2=>exact(bad rfl hc).elim
  rename_i fs hu;split at hc
  case h_2=>exact(bad rfl hc).elim
  rename_i fd hi;split at hc
  case h_2=>exact(bad rfl hc).elim
  rename_i d k hd hs;split at hc
  case isFalse=>exact(bad rfl hc).elim
  rename_i hk
  try rw[if_pos hk]
  exact Val.next H (As hu hi hd hs (H.ev x) hc) rfl rfl
 | indexAddr t x i =>
  simp only[cOp]at hc ⊢
  split at hc
  ·rename_i e hu;split at hc
   case h_2=>exact(bad rfl hc).elim
   rename_i k hs;split at hc
   case isFalse=>exact(bad rfl hc).elim
   rename_i hk
   try rw[if_pos hk]
   refine Val.next H (Ar hu hs H (H.ev x) (H.ev i) hc) ?_ ?_
   ·grind [evA]
   ·grind [evA]
  ·rename_i N e hu;split at hc
   case h_2=>exact(bad rfl hc).elim
   rename_i k hs;split at hc
   case isFalse=>exact(bad rfl hc).elim
   rename_i hk
   try rw[if_pos hk]
   refine Val.next H (xD hu hs (H.ev x) (H.ev i) hc) ?_ ?_
   ·grind [evA]
   ·grind [evA]
  ·simp_all
 | index t x i =>
  simp only[cOp]at hc ⊢
  split at hc
  ·rename_i hu
   refine Val.next H (xB hu (H.ev x) (H.ev i) hc) ?_ ?_
   ·grind [evA]
   ·grind [evA]
  ·rename_i N e hu;split at hc
   case h_2=>exact(bad rfl hc).elim
   rename_i d k hd hs;split at hc
   case isFalse=>exact(bad rfl hc).elim
   rename_i hk
   try rw[if_pos hk]
   refine Val.next H (xC hu hd hs (H.ev x) (H.ev i) hc) ?_ ?_
   ·grind [evA]
   ·grind [evA]
  ·simp_all
 | extract x i =>
  refine Val.next H (K6 (H.ev x) hc) ?_ ?_<;>(simp only[cOp,evA];split<;>rfl)
 | makeInterface t x =>
  simp only[cOp]at hc ⊢
  split at hc
  ·rename_i k hu;refine Val.next H (qn (by rw[hu];intro _ h;cases h) (by rw[hu];rfl) (H.ev x) hc) ?_ ?_<;>(simp only[evA];(repeat' split)<;>rfl)
  ·rename_i hu;refine Val.next H (qn (by rw[hu];intro _ h;cases h) (by rw[hu];rfl) (H.ev x) hc) ?_ ?_<;>(simp only[evA];(repeat' split)<;>rfl)
  ·rename_i hu;refine Val.next H (qn (by rw[hu];intro _ h;cases h) (by rw[hu];rfl) (H.ev x) hc) ?_ ?_<;>(simp only[evA];(repeat' split)<;>rfl)
  ·simp_all
 | typeAssert x st t ok =>
  cases ok with
  | false=>exact(bad rfl hc).elim
  | true =>
   simp only[cOp]at hc ⊢
   split at hc
   ·rename_i k z hu hz;refine Val.next H (nD (by rw[hu];intro _ h;cases h) (by rw[hu];rfl) hz (H.ev x) hc) ?_ ?_<;>(simp only[evA];(repeat' split)<;>rfl)
   ·rename_i z hu hz;refine Val.next H (nD (by rw[hu];intro _ h;cases h) (by rw[hu];rfl) hz (H.ev x) hc) ?_ ?_<;>(simp only[evA];(repeat' split)<;>rfl)
   ·rename_i z hu hz;refine Val.next H (nD (by rw[hu];intro _ h;cases h) (by rw[hu];rfl) hz (H.ev x) hc) ?_ ?_<;>(simp only[evA];(repeat' split)<;>rfl)
   ·simp_all
 | makeMap t r =>
  cases r with
  | some r=>exact(bad rfl hc).elim
  | none =>
   simp only[cOp]at hc ⊢;split at hc
   case h_2=>exact(bad rfl hc).elim
   rename_i kt e hu;split at hc
   case h_2=>exact(bad rfl hc).elim
   rename_i kk hk;exact cd.next (K0 H hf)
 | mapUpdate t m k x =>
  simp only[cOp,kH]at hc ⊢;split at hc
  case h_2=>exact(bad rfl hc).elim
  rename_i kt e hu;split at hc
  case h_2=>exact(bad rfl hc).elim
  rename_i kk hk;obtain⟨w',A',μ',h1,h2⟩:=sK hu hk H hc;refine⟨undef,w',A',μ',.inr ⟨by simp only[execOp,Sem.run_bind,h1,Result.andThen_ok,Sem.run_pure],rfl⟩,h2.free λb h=>h.1,?_⟩;have:(evA (.mset kk (cO P m) (cO P k) (cO P x)) f (evO tm) hp).v=.unk:=by grind [evA]
  rw[this];trivial
 | insert t m k x =>
  simp only[cOp,kH]at hc ⊢;split at hc
  case h_2=>exact(bad rfl hc).elim
  rename_i kt e hu;split at hc
  case h_2=>exact(bad rfl hc).elim
  rename_i kk hk;obtain⟨w',A',μ',h1,h2⟩:=sK hu hk H hc;refine⟨undef,w',A',μ',.inr ⟨by simp only[execOp,Sem.run_bind,h1,Result.andThen_ok,Sem.run_pure],rfl⟩,h2.free λb h=>h.1,?_⟩;have:(evA (.mset kk (cO P m) (cO P k) (cO P x)) f (evO tm) hp).v=.unk:=by grind [evA]
  rw[this];trivial
 | lookup t m k ok =>
  simp only[cOp]at hc ⊢;split at hc
  case h_2=>exact(bad rfl hc).elim
  rename_i kt e hu;split at hc
  case h_2=>exact(bad rfl hc).elim
  rename_i kk z hk hz;refine Val.next H (Fw hu hk hz H hc) ?_ ?_<;>(simp only[evA];(repeat' split)<;>rfl)
 | call cc=>exact Ks rfl H hf hc
 | range t x=>simp only[cOp]at hc;(repeat' split at hc)<;>exact(id hc:False).elim
 | next x b=>cases b<;>exact(id hc:False).elim
 | _=>exact(bad rfl hc).elim
end
end Go.Am
namespace Go.Am
mutual
def AV.ren(π:Nat→Nat):AV→AV
  | .agg cs=>.agg (dm π cs)
  | .tup xs=>.tup (dm π xs)
  | .func f caps=>.func f (dm π caps)
  | .ref b off=>.ref (π b) off
  | .eref b i off=>.eref (π b) i off
  | .vec b=>.vec (π b)
  | .vsub b lo len=>.vsub (π b) lo len
  | .asub b off len k=>.asub (π b) off len k
  | .val v=>.val v
  | .rptr x off=>.rptr x off
  | .sl k es full=>.sl k es full
  | .mref b=>.mref (π b)
  | .mp kk ks vs=>.mp kk ks vs
  | .unk=>.unk
def dm(π:Nat→Nat):List AV→List AV
  | []=>[]
  | x::xs=>x.ren π::dm π xs
end
mutual
/-- The value's blocks have cA below k. -/
def AV.bel(k:Nat):AV→Prop
  | .agg cs=>fP k cs
  | .tup xs=>fP k xs
  | .func _ caps=>fP k caps
  | .ref b _=>b<k
  | .eref b _ _=>b<k
  | .vec b=>b<k
  | .vsub b _ _=>b<k
  | .asub b _ _ _=>b<k
  | .val _=>True
  | .rptr _ _=>True
  | .sl _ _ _=>True
  | .mref b=>b<k
  | .mp _ _ _=>True
  | .unk=>True
def fP(k:Nat):List AV→Prop
  | []=>True
  | x::xs=>x.bel k∧fP k xs
end
def Blk.ren(π:Nat→Nat):Blk→Blk
 | .box x=>.box (x.ren π)
 | .vec k es=>.vec k (dm π es)
 | .row k es len cap=>.row k (dm π es) len cap
 | .map kk ks vs=>.map kk ks (dm π vs)
 | .mst kk ks vs st ck=>.mst kk ks (dm π vs) st ck
 | .itr m st ck seen=>.itr (π m) st ck seen
def Blk.bel(k:Nat):Blk→Prop
 | .box x=>x.bel k
 | .vec _ es=>fP k es
 | .row _ es _ _=>fP k es
 | .map _ _ vs=>fP k vs
 | .mst _ _ vs _ _=>fP k vs
 | .itr m _ _ _=>m<k
theorem cX(π:Nat→Nat):∀xs:List AV,dm π xs=xs.map (AV.ren π)
 | []=>rfl
 | x::xs=>by rw[dm,cX π xs];rfl
theorem AV.ren_solid(π:Nat→Nat)(x:AV):(x.ren π).solid=x.solid:=by cases x<;>rfl
mutual
theorem AV.ren_pure(π:Nat→Nat):∀{x:AV},x.pure→x.ren π=x
  | .agg cs,h=>by rw[AV.ren,bf π h]
  | .tup cs,h=>by rw[AV.ren,bf π h]
  | .func f cs,h=>by rw[AV.ren,bf π h]
  | .val _,_=>rfl
  | .rptr _ _,_=>rfl
  | .sl _ _ _,_=>rfl
  | .mref _,h=>h.elim
  | .mp _ _ _,_=>rfl
  | .unk,_=>rfl
  | .ref _ _,h=>h.elim
  | .eref _ _ _,h=>h.elim
  | .vec _,h=>h.elim
  | .vsub _ _ _,h=>h.elim
  | .asub _ _ _ _,h=>h.elim
theorem bf(π:Nat→Nat):∀{xs:List AV},bU xs→dm π xs=xs
  | [],_=>rfl
  | x::xs,h=>by rw[dm,AV.ren_pure π h.1,bf π h.2]
end
section
variable {w : World} {A : Nat → Prop}
mutual
theorem RV.unren{π:Nat→Nat}{μ ν:Mu}{k:Nat}(h:∀b,b<k→∀hd,μ (π b)=some hd→ν b=some hd):∀{x:AV} {v:Value},x.bel k→RV w A (x.ren π) μ v→RV w A x ν v
  | .val _,_,_,hv=>hv
  | .agg cs,_,hb,⟨vs,h1,h2,h3⟩=>⟨vs,h1,RVL.unren h hb h2,h3⟩
  | .tup xs,_,hb,⟨vs,h1,h2⟩=>⟨vs,h1,RVL.unren h hb h2⟩
  | .func f caps,_,hb,⟨vs,h1,h2⟩=>⟨vs,h1,RVL.unren h hb h2⟩
  | .ref b off,_,hb,⟨hd,h1,h2⟩=>⟨hd,h b hb hd h1,h2⟩
  | .eref b i off,_,hb,⟨hd,h1,h2⟩=>⟨hd,h b hb hd h1,h2⟩
  | .rptr _ _,_,_,hv=>hv
  | .vec b,_,hb,⟨hd,h1,h2⟩=>⟨hd,h b hb hd h1,h2⟩
  | .vsub b lo len,_,hb,⟨hd,cap,o,h1,h2⟩=>⟨hd,cap,o,h b hb hd h1,h2⟩
  | .asub b off len kk,_,hb,⟨hd,cap,o,h1,h2⟩=>⟨hd,cap,o,h b hb hd h1,h2⟩
  | .sl _ _ _,_,_,hv=>hv
  | .mref b,_,hb,⟨hd,h1,h2⟩=>⟨hd,h b hb hd h1,h2⟩
  | .mp _ _ _,_,_,hv=>hv
  | .unk,_,_,_=>trivial
theorem RVL.unren{π:Nat→Nat}{μ ν:Mu}{k:Nat}(h:∀b,b<k→∀hd,μ (π b)=some hd→ν b=some hd):∀{xs:List AV} {vs:List Value},fP k xs→RVL w A (dm π xs) μ vs→RVL w A xs ν vs
  | [],_,_,hv=>hv
  | x::xs,_,hb,⟨v,vs',h1,h2,h3⟩=>⟨v,vs',h1,RV.unren h hb.1 h2,RVL.unren h hb.2 h3⟩
end
mutual
theorem RV.doren{π:Nat→Nat}{μ ν:Mu}{k:Nat}(h:∀b,b<k→∀hd,ν b=some hd→μ (π b)=some hd):∀{x:AV} {v:Value},x.bel k→RV w A x ν v→RV w A (x.ren π) μ v
  | .val _,_,_,hv=>hv
  | .agg cs,_,hb,⟨vs,h1,h2,h3⟩=>⟨vs,h1,RVL.doren h hb h2,h3⟩
  | .tup xs,_,hb,⟨vs,h1,h2⟩=>⟨vs,h1,RVL.doren h hb h2⟩
  | .func f caps,_,hb,⟨vs,h1,h2⟩=>⟨vs,h1,RVL.doren h hb h2⟩
  | .ref b off,_,hb,⟨hd,h1,h2⟩=>⟨hd,h b hb hd h1,h2⟩
  | .eref b i off,_,hb,⟨hd,h1,h2⟩=>⟨hd,h b hb hd h1,h2⟩
  | .rptr _ _,_,_,hv=>hv
  | .vec b,_,hb,⟨hd,h1,h2⟩=>⟨hd,h b hb hd h1,h2⟩
  | .vsub b lo len,_,hb,⟨hd,cap,o,h1,h2⟩=>⟨hd,cap,o,h b hb hd h1,h2⟩
  | .asub b off len kk,_,hb,⟨hd,cap,o,h1,h2⟩=>⟨hd,cap,o,h b hb hd h1,h2⟩
  | .sl _ _ _,_,_,hv=>hv
  | .mref b,_,hb,⟨hd,h1,h2⟩=>⟨hd,h b hb hd h1,h2⟩
  | .mp _ _ _,_,_,hv=>hv
  | .unk,_,_,_=>trivial
theorem RVL.doren{π:Nat→Nat}{μ ν:Mu}{k:Nat}(h:∀b,b<k→∀hd,ν b=some hd→μ (π b)=some hd):∀{xs:List AV} {vs:List Value},fP k xs→RVL w A xs ν vs→RVL w A (dm π xs) μ vs
  | [],_,_,hv=>hv
  | x::xs,_,hb,⟨v,vs',h1,h2,h3⟩=>⟨v,vs',h1,RV.doren h hb.1 h2,RVL.doren h hb.2 h3⟩
end
theorem dz{π:Nat→Nat}{es:List AV}:(∀x∈dm π es,x.solid=true)↔∀x∈es,x.solid=true:=by
 rw[cX]
 constructor
 ·intro h x hx;have:=h _ (R'.2 ⟨x,hx,rfl⟩)
  rwa [AV.ren_solid]at this
 ·intro h x hx;obtain⟨y,hy,rfl⟩:=R'.1 hx;rw[AV.ren_solid];exact h y hy
theorem dw.unren{π:Nat→Nat}{μ ν:Mu}{k:Nat}(h:∀b,b<k→∀hd,μ (π b)=some hd→ν b=some hd){hd:Hd}{x:Blk}(hb:x.bel k)(hx:dw w A μ hd (x.ren π)):dw w A ν hd x:=by
 cases x with
 | box x =>
  obtain⟨h1,h2,v,ty,h3,h4⟩:=hx;rw[AV.ren_solid]at h2;exact⟨h1,h2,v,ty,RV.unren h hb h3,h4⟩
 | vec kk es =>
  obtain⟨h0,hx⟩:=hx;refine⟨h0,?_⟩
  rcases hx with⟨h1,h2⟩|⟨h1,h2,h3,h4,C,ty,vs,h5,h6,h7,h8,h9⟩
  ·refine .inl ⟨?_,h2⟩;rw[cX]at h1;simpa using h1
  ·refine .inr ⟨h1,?_,h3,h4,C,ty,vs,h5,RVL.unren h hb h6,dz.1 h7,h8,h9⟩;rw[cX]at h2;simpa using h2
 | row kk es len cap =>
  obtain⟨h0,h1,h2,h3,g1,g2,g3,C,ty,vs,h5,h6,h7,h8,h9,h10⟩:=hx;have hl:(dm π es).length=es.length:=by rw[cX];simp
  rw[hl]at g1 h10;exact⟨h0,h1,h2,h3,g1,g2,g3,C,ty,vs,h5,RVL.unren h hb h6,dz.1 h7,h8,h9,h10⟩
 | map kk ks vs =>
  obtain⟨h1,ents,clock,h2,h3,h4,h5⟩:=hx;exact⟨h1,ents,clock,h2,h3,RVL.unren h hb h4,dz.1 h5⟩
 | mst kk ks vs st ck =>
  obtain⟨h1,ents,h2,h3,h4,h5,h6⟩:=hx;exact⟨h1,ents,h2,h3,RVL.unren h hb h4,dz.1 h5,h6⟩
 | itr m st ck seen =>
  obtain⟨h1,hm,h2,h3,h4⟩:=hx;exact⟨h1,hm,h m hb hm h2,h3,h4⟩
theorem dw.doren{π:Nat→Nat}{μ ν:Mu}{k:Nat}(h:∀b,b<k→∀hd,ν b=some hd→μ (π b)=some hd){hd:Hd}{x:Blk}(hb:x.bel k)(hx:dw w A ν hd x):dw w A μ hd (x.ren π):=by
 cases x with
 | box x =>
  obtain⟨h1,h2,v,ty,h3,h4⟩:=hx;exact⟨h1,by rw[AV.ren_solid];exact h2,v,ty,RV.doren h hb h3,h4⟩
 | vec kk es =>
  obtain⟨h0,hx⟩:=hx;refine⟨h0,?_⟩
  rcases hx with⟨h1,h2⟩|⟨h1,h2,h3,h4,C,ty,vs,h5,h6,h7,h8,h9⟩
  ·grind [cX]
  ·refine .inr ⟨h1,?_,h3,h4,C,ty,vs,h5,RVL.doren h hb h6,dz.2 h7,h8,h9⟩;rw[cX];simpa using h2
 | row kk es len cap =>
  obtain⟨h0,h1,h2,h3,g1,g2,g3,C,ty,vs,h5,h6,h7,h8,h9,h10⟩:=hx;have hl:(dm π es).length=es.length:=by rw[cX];simp
  exact⟨h0,h1,h2,h3,by rw[hl];exact g1,g2,g3,C,ty,vs,h5,RVL.doren h hb h6,dz.2 h7,h8,h9,by rw[hl];exact h10⟩
 | map kk ks vs =>
  obtain⟨h1,ents,clock,h2,h3,h4,h5⟩:=hx;exact⟨h1,ents,clock,h2,h3,RVL.doren h hb h4,dz.2 h5⟩
 | mst kk ks vs st ck =>
  obtain⟨h1,ents,h2,h3,h4,h5,h6⟩:=hx;exact⟨h1,ents,h2,h3,RVL.doren h hb h4,dz.2 h5,h6⟩
 | itr m st ck seen =>
  obtain⟨h1,hm,h2,h3,h4⟩:=hx;exact⟨h1,hm,h m hb hm h2,h3,h4⟩
end
mutual
/-- A value that reads no memory. -/
def AV.flat:AV→Prop
  | .val _=>True
  | .agg cs=>qe cs
  | .tup xs=>qe xs
  | _=>False
def qe:List AV→Prop
  | []=>True
  | x::xs=>x.flat∧qe xs
end
section
variable {w w' : World} {A A' : Nat → Prop}
mutual
theorem RV.flat:∀{x:AV} {μ μ':Mu} {v:Value},x.flat→RV w A x μ v→RV w' A' x μ' v
  | .val _,_,_,_,_,h=>h
  | .agg cs,_,_,_,hp,⟨vs,h1,h2,h3⟩=>⟨vs,h1,RVL.flat hp h2,h3⟩
  | .tup xs,_,_,_,hp,⟨vs,h1,h2⟩=>⟨vs,h1,RVL.flat hp h2⟩
  | .func _ _,_,_,_,hp,_=>hp.elim
  | .ref _ _,_,_,_,hp,_=>hp.elim
  | .eref _ _ _,_,_,_,hp,_=>hp.elim
  | .rptr _ _,_,_,_,hp,_=>hp.elim
  | .vec _,_,_,_,hp,_=>hp.elim
  | .vsub _ _ _,_,_,_,hp,_=>hp.elim
  | .asub _ _ _ _,_,_,_,hp,_=>hp.elim
  | .sl _ _ _,_,_,_,hp,_=>hp.elim
  | .mref _,_,_,_,hp,_=>hp.elim
  | .mp _ _ _,_,_,_,hp,_=>hp.elim
  | .unk,_,_,_,hp,_=>hp.elim
theorem RVL.flat:∀{xs:List AV} {μ μ':Mu} {vs:List Value},qe xs→RVL w A xs μ vs→RVL w' A' xs μ' vs
  | [],_,_,_,_,h=>h
  | x::xs,_,_,_,hp,⟨v,vs',h1,h2,h3⟩=>⟨v,vs',h1,RV.flat hp.1 h2,RVL.flat hp.2 h3⟩
end
end
structure Ext (own:Nat→Prop) (w w':World):Prop where
  os:w'.os=w.os
  tape:w'.tape=w.tape
  output:w'.output=w.output
  size:w.heap.size≤w'.heap.size
  block:∀k,k<w.heap.size→¬own k→w'.heap[k]?=w.heap[k]?
structure jM (P:Program) (w:World) (A:Nat→Prop) (μ:Mu) (hp:Hp):Prop where
  blk:∀b x,hp b=some x→∃hd,μ b=some hd∧dw w A μ hd x∧(hd.emp=none→¬A hd.blk∧hd.blk<w.heap.size)
  inj:∀b b' x x' hd hd',hp b=some x→hp b'=some x'→μ b=some hd→μ b'=some hd'→hd.emp=none→hd'.emp=none→hd.blk=hd'.blk→b=b'
  lt:LtOk P A w
def cg(μ:Mu)(hp:Hp)(k:Nat):Prop:=∃b x hd,hp b=some x∧μ b=some hd∧hd.emp=none∧hd.blk=k
def bo(l:List (Option Blk)):Hp:=λb=>(l[b]?).join
def eQ(P:Program)(f:FuncId)(args:List AV)(r:AV):Prop:=
 ∀(w:World) (A:Nat→Prop) (cargs:List Value),LtOk P A w→RVL w A args dC cargs →
  Calls P f cargs.toArray w λe w'=>∃v A',e=.returned v∧RV w' A' r dC v∧Ext (λ_=>False) w w'∧(∀b,A b→A' b)∧(∀b,A' b→A b∨w.heap.size≤b)∧(∀b,A' b→b<w'.heap.size)
def bc(P:Program)(f:FuncId)(args:List AV)(h:List Blk)(r:AV)(h':List (Option Blk)):Prop:=
 ∀(w:World) (A:Nat→Prop) (μ:Mu) (cargs:List Value),jM P w A μ (bo (h.map some))→(∀b,h.length≤b→μ b=none)→RVL w A args μ cargs →
  Calls P f cargs.toArray w λe w'=>∃v A' μ',e=.returned v∧RV w' A' r μ' v∧jM P w' A' μ' (bo h')∧bp μ μ'∧Ext (cg μ (bo (h.map some))) w w' ∧
   (∀b,A b→A' b)∧(∀b,A' b→A b∨cg μ (bo (h.map some)) b∨w.heap.size≤b) ∧
   (∀b,cg μ' (bo h') b→cg μ (bo (h.map some)) b∨w.heap.size≤b)
theorem eQ.heap{P:Program}{f:FuncId}{args:List AV}{r:AV}(h:eQ P f args r)(hp:bU args):bc P f args [] r []:=by
 intro w A μ cargs h1 h2 h3;refine(h w A cargs h1.lt (RVL.pure hp h3)).mono ?_;rintro e w' ⟨v,A',rfl,r1,r2,r3,r4,r5⟩
 refine⟨v,A',μ,rfl,r1.up,?_,bp.refl _,?_,r3,λb hb=>?_,?_⟩
 ·refine⟨λb x hx=>?_,λb b' x x' hd hd' hx=>?_,h1.lt.mono (λb hb=>r2.block b (h1.lt b hb) (λh=>h)) r3 r5⟩<;>simp[bo]at hx
 ·exact⟨r2.os,r2.tape,r2.output,r2.size,λk hk _=>r2.block k hk (λh=>h)⟩
 ·grind
 ·simp_all
theorem bc.pure{P:Program}{f:FuncId}{args:List AV}{r:AV}(h:bc P f args [] r [])(hr:r.pure):eQ P f args r:=by
 intro w A cargs hlt h3
 refine(h w A dC cargs ⟨λb x hx=>?_,λb b' x x' hd hd' hx=>?_,hlt⟩ (λ_ _=>rfl) h3).mono ?_
 ·grind [bo]
 ·grind [bo]
 ·rintro e w' ⟨v,A',μ',rfl,r1,r2,r3,r4,r5,r6,r7⟩;have hno:∀k,¬cg dC (bo (([]:List Blk).map some)) k:=by rintro k ⟨b,x,hd,hx,_⟩;simp[bo]at hx
  refine⟨v,A',rfl,RV.pure hr r1,⟨r4.os,r4.tape,r4.output,r4.size,λk hk _=>r4.block k hk (hno k)⟩,r5,λb hb=>?_,r2.lt⟩
  simp_all
end Go.Am
