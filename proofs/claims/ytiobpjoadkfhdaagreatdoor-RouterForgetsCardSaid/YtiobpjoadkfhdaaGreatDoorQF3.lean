/- Texts joined: Rd Mx1 Mx2 Mx3 Mx4 Mx5 Mx6. -/
import Derived.ChangeArms
import Derived.ChangeSlices
import Derived.ChangeSame
import Derived.ChangeShapes
import Derived.WideShapes
import Derived.RowKit
import Derived.ChangeMaps5
import Derived.KernelRfl
import Derived.Test.YtiobpjoadkfhdaaGreatDoorQF2
set_option linter.unusedVariables false
set_option linter.unusedSimpArgs false
set_option linter.unusedSectionVars false
namespace Go.Am
open Go.ChangeShapes Go.WideShapes Go.RowKit
section
variable {P : Program} {H : Type} {enc : TypeId × Value → H} {w : World} {base : Nat} {held : Bool} {fuel : Nat} {cs : List Value} {x : DataW H × List MemPlace}
inductive eV (B:Nat) {H:Type}:DataW H→Prop where
  | lit (l:Lit):eV B (.lit l)
  | nil:eV B .nil
  | slice (es sp:List (DataW H)):es.length≤B→(∀d∈es,eV B d)→eV B (.slice es sp)
  | agg (ps:List (DataW H)):(∀d∈ps,eV B d)→eV B (.agg ps)
  | ptr (d:DataW H):eV B (.ptr d)
  | iface (t:_) (d:_):eV B (.iface t d)
  | map (e:_):eV B (.map e)
  | held (h:_):eV B (.held h)
theorem HN{t e:TypeId}{k:Nat}(hk:0<k)(ht:P.underlying t=some (.slice e))(hc:P.cellsOf e=k){α:Type}(f:α→AV){B:Nat}{q:α→Prop}
  (hsol:∀a,(f a).solid=true)
  (he:∀(n:Nat) (cs:List Value) (y:DataW H×List MemPlace),DataW.trod enc P w base (λ_=>true) held n e cs=some y→cs.length=k→∃(a:α) (v:Value),v.cells.toList=cs∧cq v∧RV w (Old w) (f a) dC v∧(eV B y.1→q a))
  (h:DataW.trod enc P w base (λ_=>true) held fuel t cs=some x):∃(l:List α),RVL w (Old w) [.sl k (l.map f) false] dC cs∧(eV B x.1→l.length≤B∧∀a∈l,q a):=by
 rcases DataW.trod_slice ht h with⟨rfl,_⟩|⟨a,len,cap,elems,rest,n,_,rfl,rfl,hb,hl,hm,hlen,hel,hsp,hns⟩
 ·exact⟨[],⟨_,_,rfl,.inl ⟨rfl,_,rfl⟩,rfl⟩,λ_=>⟨by simp,λa ha=>by simp at ha⟩⟩
 by_cases h0:cap=0
 ·subst h0;have:len=0:=by omega
  subst this;exact⟨[],⟨_,_,rfl,.inl ⟨rfl,_,rfl⟩,rfl⟩,λ_=>⟨by simp,λa ha=>by simp at ha⟩⟩
 obtain⟨hrl,hr⟩:=hsp rfl
 -- the first cell
 have hfirst:∃v,w.cell? a=some v:=by
  have h1:∃cs',w.cells? base (a.add (0 * k)) k=some cs':=by
   by_cases hz:0<len
   ·have h1:=hel 0 hz;rw[hc,E' (show 0<elems.length by omega),bx']at h1;obtain⟨cs',h2,_⟩:=h1;exact⟨cs',h2⟩
   ·have h1:=hr 0 (by omega);rw[hc,E' (show 0<rest.length by omega),bx']at h1;obtain⟨cs',h2,_⟩:=h1;exact⟨cs',by rw[show len+0=0 by omega]at h2;exact h2⟩
  obtain⟨cs',h2⟩:=h1;obtain⟨_,h3,h4⟩:=World.cells?_some h2;have h5:=h4 0 hk;rw[E' (show 0<cs'.length by omega)]at h5;refine⟨_,by rw[←h5];congr 1;simp[Addr.add]⟩
 obtain⟨v0,hv0⟩:=hfirst;obtain⟨e1,e2⟩:=Addr.eta hv0;have each:∀i,i<len→∃(b:α) (v:Value),(v.cells.size=k∧∀j u,v.cells[j]?=some u→w.cell? ⟨a.block,a.off+(i * k+j),none⟩=some u)∧cq v∧RV w (Old w) (f b) dC v∧∀y,elems[i]?=some y→eV B y.1→q b:=by
  intro i hi;have h1:=hel i hi;rw[hc,E' (show i<elems.length by omega),bx']at h1;obtain⟨cs',h2,h3⟩:=h1;obtain⟨_,h4,h5⟩:=World.cells?_some h2;obtain⟨b,v,g1,g2,g3,g4⟩:=he n cs' _ h3 h4;have hsz:v.cells.size=k:=by rw[←h4,←g1];simp
  refine⟨b,v,⟨hsz,λj u hu=>?_⟩,g2,g3,λy hy=>by rw[E' (show i<elems.length by omega)]at hy;cases hy;exact g4⟩;have hj:j<k:=by have:=(bb'.mp hu).1;omega
  have h6:=h5 j hj;rw[←g1]at h6;rw[e1]at h6;have e3:((Addr.mk a.block a.off none).add (i * k)).add j=⟨a.block,a.off+(i * k+j),none⟩:=by
   simp only[Addr.add]
   by_cases q1:i * k=0
   ·rw[if_pos q1,q1]
    by_cases q2:j=0
    ·rw[if_pos q2,q2];rfl
    ·rw[u' q2];simp
   ·rw[u' q1]
    by_cases q2:j=0
    ·rw[if_pos q2,q2];rfl
    ·rw[u' q2];simp[bH']
  rw[e3]at h6;rw[h6];simpa using hu
 have build:∀n,n≤len→∃(l:List α) (vs:List Value),l.length=n∧vs.length=n∧∀i b v,l[i]?=some b→vs[i]?=some v→(v.cells.size=k∧∀j u,v.cells[j]?=some u→w.cell? ⟨a.block,a.off+(i * k+j),none⟩=some u)∧cq v∧RV w (Old w) (f b) dC v∧∀y,elems[i]?=some y→eV B y.1→q b:=by
  intro n
  induction n with
  | zero=>intro _;exact⟨[],[],rfl,rfl,λi b v hb=>by simp at hb⟩
  | succ n ih =>
   intro hn;obtain⟨l,vs,h1,h2,h3⟩:=ih (by omega);obtain⟨b,v,h4⟩:=each n (by omega);refine⟨l++[b],vs++[v],by simp[h1],by simp[h2],λi b' v' hb' hv'=>?_⟩
   by_cases hi:i<n
   ·rw[bW' (by omega)]at hb' hv';exact h3 i b' v' hb' hv'
   ·have hil:i<(l++[b]).length:=(I'.mp hb').1;have hie:i=n:=by simp[h1]at hil;omega
    subst hie;rw[aU' (by omega),h1]at hb';rw[aU' (by omega),h2]at hv';simp at hb' hv';subst hb';subst hv';exact h4
 obtain⟨l,vs,h1,h2,h3⟩:=build len (V' _);have hget:∀i,i<len→∃b v,l[i]?=some b∧vs[i]?=some v:=λi hi=>⟨_,_,E' (by omega),E' (by omega)⟩
 have hvs:∀v∈vs,v.cells.size=k∧cq v:=λv hv=>by
  obtain⟨i,hi,rfl⟩:=ad' hv;obtain⟨g1,g2,_⟩:=h3 i _ _ (E' (show i<l.length by omega)) (E' hi);exact⟨g1.1,g2⟩
 refine⟨l,⟨_,_,rfl,.inr ⟨a.block,a.off,cap,vs,?_,e2,?_,hm,(λh=>by cases h),?_,hvs,?_,?_⟩,rfl⟩,λhs=>?_⟩
 ·rw[←e1];simp[h1]
 ·simp[h1];exact hl
 ·refine RVL.of_get (by simp[h1,h2]) λi y v hy hv=>?_;rw[S']at hy;cases hb:l[i]? with
  | none=>rw[hb]at hy;simp at hy
  | some b =>
   rw[hb]at hy;simp at hy;subst hy;exact(h3 i b v hb hv).2.2.1
 ·intro p u hu;have hk':∀v∈vs,v.cells.size=k:=λv hv=>(hvs v hv).1;have hp:p<vs.length * k:=by rw[←flat_len hk'];exact(I'.mp hu).1
  have hi:p / k<vs.length:=Nat.div_lt_of_lt_mul (by rw[Nat.mul_comm];exact hp);have hj:p % k<k:=Nat.mod_lt _ hk;have hpe:p=p / k * k+p % k:=by rw[Nat.mul_comm];exact(Nat.div_add_mod p k).symm
  have hv:=E' hi;have hfa:=ut hk' hv hj;rw[←hpe,hu]at hfa;have:=(h3 (p / k) _ _ (E' (show p / k<l.length by omega)) hv).1.2 (p % k) u (by simpa using hfa.symm);rw[hpe];exact this
 ·intro y hy;obtain⟨b,_,rfl⟩:=R'.mp hy;exact hsol b
 ·cases hs with
  | slice _ _ s1 s2 =>
   rw[f']at s1;refine⟨by omega,λc hc=>?_⟩;obtain⟨i,hi,rfl⟩:=ad' hc;have hie:i<elems.length:=by omega
   exact(h3 i _ _ (E' hi) (E' (show i<vs.length by omega))).2.2.2 _ (E' hie) (s2 _ (aT' (ay' hie)))
theorem Cq{xs:List AV}{vs:List Value}(h:RVL w (Old w) xs dC vs)(hs:∀x∈xs,x.solid=true∧x.isAgg=false):∀v∈vs,v.oneCell'=true:=λv hv=>by
 obtain⟨i,hi⟩:=List.getElem?_of_mem hv;have hlt:i<xs.length:=by rw[h.length];exact(I'.mp hi).1
 have hx:=E' hlt;have:=hs _ (ay' hlt);exact RV.one this.1 this.2 (h.get2 hx hi)
theorem zn{xs ys:List AV}{us vs:List Value}(h:RVL w (Old w) xs dC us)(h':RVL w (Old w) ys dC vs):RVL w (Old w) (xs++ys) dC (us++vs):=by
 refine RVL.of_get (by rw[Y',Y',h.length,h'.length]) λi x v hx hv=>?_
 by_cases hi:i<xs.length
 ·rw[bW' hi]at hx;rw[bW' (by rw[←h.length];exact hi)]at hv;exact h.get2 hx hv
 ·rw[aU' (by omega)]at hx;rw[aU' (by rw[←h.length];omega),←h.length]at hv;exact h'.get2 hx hv
end
structure Rd (P:Program) (α:Type) where
  t:TypeId
  n:Nat
  enc:α→List AV
  v:α→AV
  pos:0<n
  hn:P.cellsOf t=n
  sol:∀a,∀x∈enc a,x.solid=true∧x.isAgg=false
  hv:(∀a,v a=.agg (enc a))∨(∀a,enc a=[v a])
  q:Nat→α→Prop
  rd:∀{H:Type} {e:TypeId×Value→H} {w:World} {base:Nat} {held:Bool} {fuel:Nat} {cs:List Value} {x:DataW H×List MemPlace} (B:Nat),
    cs.length=n→DataW.trod e P w base (λ_=>true) held fuel t cs=some x→∃a,RVL w (Old w) (enc a) dC cs∧(eV B x.1→q B a)
theorem Rd.vsol{P:Program}{α:Type}(r:Rd P α)(a:α):(r.v a).solid=true:=by
 rcases r.hv with h|h
 ·rw[h];rfl
 ·exact(r.sol a (r.v a) (by rw[h];simp)).1
theorem Rd.elem{P:Program}{α:Type}(r:Rd P α){H:Type}{e:TypeId×Value→H}{w:World}{base:Nat}{held:Bool}{fuel:Nat}{cs:List Value}{x:DataW H×List MemPlace}(B:Nat)
  (h:DataW.trod e P w base (λ_=>true) held fuel r.t cs=some x) (hl:cs.length=r.n):∃(a:α) (u:Value),u.cells.toList=cs∧cq u∧RV w (Old w) (r.v a) dC u∧(eV B x.1→r.q B a):=by
 obtain⟨a,ha,hq⟩:=r.rd B hl h
 rcases r.hv with hv|hv
 ·refine⟨a,.agg cs.toArray,by simp[Value.cells],λc hc=>Cq ha (r.sol a) c (by simpa[Value.cells]using hc),?_,hq⟩;rw[hv];exact⟨cs,rfl,ha,Cq ha (r.sol a)⟩
 ·have ha':=ha;rw[hv]at ha';obtain⟨u,us,rfl,h1,rfl⟩:=ha';have h2:=r.sol a (r.v a) (by rw[hv];simp);have ho:=RV.one h2.1 h2.2 h1;have hc:u.cells=#[u]:=by cases u<;>first|rfl|simp[Value.oneCell']at ho
  exact⟨a,u,by rw[hc],λc hc'=>by rw[hc]at hc';simp at hc';rw[hc'];exact ho,h1,hq⟩
def Rd.int{P:Program}(k:IntKind)(t:TypeId)(ht:P.underlying t=some (.int k))(hn:P.cellsOf t=1):Rd P Int:=
 ⟨t,1,λa=>[.val (.int k a)],λa=>.val (.int k a),by omega,hn,λa x hx=>by simp at hx;subst hx;exact⟨rfl,rfl⟩,.inr λ_=>rfl,λ_ _=>True,λ_ hl h=>by
  obtain⟨n,rfl,_,hw⟩:=DataW.trod_int ht h;exact⟨n,⟨_,_,rfl,⟨rfl,by simpa[Lit.wf,aU,inK]using hw⟩,rfl⟩,λ_=>trivial⟩⟩
structure RdF (P:Program) (α:Type) where
  ts:List (TypeId×Nat)
  n:Nat
  enc:α→List AV
  hn:n=(ts.map (·.2)).sum
  sol:∀a,∀x∈enc a,x.solid=true∧x.isAgg=false
  q:Nat→α→Prop
  rd:∀{H:Type} {e:TypeId×Value→H} {w:World} {base:Nat} {held:Bool} {fuel:Nat} {cs:List Value} {ys:List (DataW H×List MemPlace)} (B:Nat),
    cs.length=n→ys.length=ts.length →
    (∀(i o:Nat) (p:TypeId×Nat),ts[i]?=some p→o=((ts.take i).map (·.2)).sum→DataW.trod e P w base (λ_=>true) held fuel p.1 ((cs.drop o).take p.2)=ys[i]?)→∃a,RVL w (Old w) (enc a) dC cs∧((∀y∈ys,eV B y.1)→q B a)
def RdF.cons{P:Program}{α β:Type}(r:Rd P α)(f:RdF P β):RdF P (α×β):=
 ⟨(r.t,r.n)::f.ts,r.n+f.n,λa=>r.enc a.1++f.enc a.2,by rw[f.hn];simp,λa x hx=>by
   rcases L'.mp hx with hx|hx
   ·exact r.sol _ x hx
   ·exact f.sol _ x hx,λB a=>r.q B a.1∧f.q B a.2,λ{H e w base held fuel cs ys} B hl hy h=>by
  match ys,hy with
  | y::ys,hy =>
  have h0:=h 0 0 _ rfl rfl;simp only[bf',List.getElem?_cons_zero]at h0;obtain⟨a,ha,qa⟩:=r.rd B (by simp;omega) h0;obtain⟨b,hb,qb⟩:=f.rd B (cs:=cs.drop r.n) (ys:=ys) (fuel:=fuel) (e:=e) (w:=w) (base:=base) (held:=held) (by simp;omega) (by simpa using hy) λi o p hp ho=>by
   have:=h (i+1) (r.n+o) p (by simpa using hp) (by simp[ho]);rw[List.drop_drop];simpa using this
  refine⟨(a,b),?_,λhs=>⟨qa (hs y (by simp)),qb λz hz=>hs z (by simp[hz])⟩⟩;have:=zn ha hb
  rwa [bg']at this⟩
section
variable {P : Program} {H : Type} {enc : TypeId × Value → H} {w : World} {base : Nat} {held : Bool}
theorem Rd.argL{α:Type}(r:Rd P α){t:TypeId}(ht:P.underlying t=some (.slice r.t)){v:Value}{d:DataW H}{ps:List MemPlace}{q:Reach}{b0:Nat}(hval:Value.okWide P w q b0 t v)
  (B:Nat) (hd:DataW.Trod enc P w base (λ_=>true) held t v d ps):∃l:List α,RV w (Old w) (.sl r.n (l.map r.v) false) dC v∧(eV B d→l.length≤B∧∀a∈l,r.q B a):=by
 obtain⟨a,len,cap,rfl⟩:=okWide_slice ht hval;obtain⟨fuel,hf⟩:=hd;obtain⟨s,⟨u,us,h1,h2,h3⟩,hq⟩:=HN r.pos ht r.hn r.v r.vsol (B:=B) (q:=r.q B) (λn cs y hy hl=>r.elem B hy hl) hf;have:(Value.slice a len cap).cells.toList=[.slice a len cap]:=rfl;rw[this]at h1;obtain⟨rfl,_⟩:=List.cons.inj h1;exact⟨s,h2,hq⟩
end
end Go.Am
namespace Go.Am
mutual
def AV.pureB:AV→Bool
  | .val _=>true
  | .agg cs=>bM cs
  | .tup xs=>bM xs
  | .func _ caps=>bM caps
  | .ref _ _=>false
  | .eref _ _ _=>false
  | .rptr _ _=>true
  | .vec _=>false
  | .vsub _ _ _=>false
  | .asub _ _ _ _=>false
  | .sl _ _ _=>true
  | .mref _=>false
  | .mp _ _ _=>true
  | .unk=>true
def bM:List AV→Bool
  | []=>true
  | x::xs=>cond x.pureB (bM xs) false
end
mutual
def AV.flatB:AV→Bool
  | .val _=>true
  | .agg cs=>uu cs
  | .tup xs=>uu xs
  | _=>false
def uu:List AV→Bool
  | []=>true
  | x::xs=>cond x.flatB (uu xs) false
end
mutual
def AV.belB(k:Nat):AV→Bool
  | .agg cs=>bJ k cs
  | .tup xs=>bJ k xs
  | .func _ caps=>bJ k caps
  | .ref b _=>Nat.blt b k
  | .eref b _ _=>Nat.blt b k
  | .vec b=>Nat.blt b k
  | .vsub b _ _=>Nat.blt b k
  | .asub b _ _ _=>Nat.blt b k
  | .val _=>true
  | .rptr _ _=>true
  | .sl _ _ _=>true
  | .mref b=>Nat.blt b k
  | .mp _ _ _=>true
  | .unk=>true
def bJ(k:Nat):List AV→Bool
  | []=>true
  | x::xs=>cond (x.belB k) (bJ k xs) false
end
theorem ag{a b:Bool}:cond a b false=true↔a=true∧b=true:=by cases a<;>simp
mutual
theorem AV.pureB_ok:∀{x:AV},x.pureB=true→x.pure
  | .val _,_=>trivial
  | .agg cs,h=>aV (xs:=cs) h
  | .tup xs,h=>aV (xs:=xs) h
  | .func _ caps,h=>aV (xs:=caps) h
  | .ref _ _,h=>by cases h
  | .eref _ _ _,h=>by cases h
  | .rptr _ _,_=>trivial
  | .vec _,h=>by cases h
  | .vsub _ _ _,h=>by cases h
  | .asub _ _ _ _,h=>by cases h
  | .sl _ _ _,_=>trivial
  | .mref _,h=>by cases h
  | .mp _ _ _,_=>trivial
  | .unk,_=>trivial
theorem aV:∀{xs:List AV},bM xs=true→bU xs
  | [],_=>trivial
  | x::xs,h=>by
    have h:=ag.mp h;exact⟨AV.pureB_ok h.1,aV h.2⟩
end
mutual
theorem AV.flatB_ok:∀{x:AV},x.flatB=true→x.flat
  | .val _,_=>trivial
  | .agg cs,h=>nv (xs:=cs) h
  | .tup xs,h=>nv (xs:=xs) h
  | .func _ _,h=>by cases h
  | .ref _ _,h=>by cases h
  | .eref _ _ _,h=>by cases h
  | .rptr _ _,h=>by cases h
  | .vec _,h=>by cases h
  | .vsub _ _ _,h=>by cases h
  | .asub _ _ _ _,h=>by cases h
  | .sl _ _ _,h=>by cases h
  | .mref _,h=>by cases h
  | .mp _ _ _,h=>by cases h
  | .unk,h=>by cases h
theorem nv:∀{xs:List AV},uu xs=true→qe xs
  | [],_=>trivial
  | x::xs,h=>by
    have h:=ag.mp h;exact⟨AV.flatB_ok h.1,nv h.2⟩
end
mutual
theorem AV.belB_ok{k:Nat}:∀{x:AV},x.belB k=true→x.bel k
  | .val _,_=>trivial
  | .agg cs,h=>jF (xs:=cs) h
  | .tup xs,h=>jF (xs:=xs) h
  | .func _ caps,h=>jF (xs:=caps) h
  | .ref _ _,h=>U' h
  | .eref _ _ _,h=>U' h
  | .rptr _ _,_=>trivial
  | .vec _,h=>U' h
  | .vsub _ _ _,h=>U' h
  | .asub _ _ _ _,h=>U' h
  | .sl _ _ _,_=>trivial
  | .mref _,h=>U' h
  | .mp _ _ _,_=>trivial
  | .unk,_=>trivial
theorem jF{k:Nat}:∀{xs:List AV},bJ k xs=true→fP k xs
  | [],_=>trivial
  | x::xs,h=>by
    have h:=ag.mp h;exact⟨AV.belB_ok h.1,jF h.2⟩
end
theorem ae{α:Type}{v:α→AV}(h:∀x,(v x).pureB=true):∀l:List α,bM (l.map v)=true
 | []=>rfl
 | x::l=>ag.mpr ⟨h x,ae h l⟩
def c9:List (List AV)→Bool
 | []=>true
 | es::r=>cond (bM es) (c9 r) false
inductive Sh where
  | k
  | s (kk:Nat)
  | a (l:List Sh)
  | v (s:Sh)
mutual
def bh:Sh→AV→AV
  | .k,x=>x
  | .s kk,.sl 0 es full=>cond es.isEmpty (.sl kk es false) (.sl 0 es full)
  | .s _,.sl (k+1) es _=>.sl (k+1) es false
  | .s _,x=>x
  | .a l,.agg cs=>.agg (qf l cs)
  | .a l,.tup cs=>.tup (qf l cs)
  | .a l,.func f cs=>.func f (qf l cs)
  | .a _,x=>x
  | .v s,.sl k es _=>.sl k (es.map (bh s)) false
  | .v _,x=>x
def qf:List Sh→List AV→List AV
  | [],xs=>xs
  | _::_,[]=>[]
  | s::l,x::xs=>bh s x::qf l xs
end
theorem qg(s:Sh)(x:AV):(bh s x).solid=x.solid:=by
 cases s with
 | k=>rw[bh]
 | s kk =>
  cases x<;>first|(rw[bh];done)|(rw[bh]<;>simp;done)|skip
  rename_i k es full;cases k with
  | zero=>rw[bh];cases es<;>rfl
  | succ k=>rw[bh];rfl
 | a l=>cases x<;>first|(rw[bh];done)|(rw[bh]<;>simp;done)|(rw[bh];rfl)
 | v s=>cases x<;>first|(rw[bh];done)|(rw[bh]<;>simp;done)|(rw[bh];rfl)
theorem gF.mapS{f:AV→AV}(h:∀x,Sub x (f x)):∀xs:List AV,gF xs (xs.map f)
 | []=>trivial
 | x::xs=>⟨h x,gF.mapS h xs⟩
theorem Sub.slE{k:Nat}{es es':List AV}{full:Bool}(h:gF es es')(hl:es'.length=es.length)(hs:(∀x∈es,x.solid=true)→∀x∈es',x.solid=true):Sub (.sl k es full) (.sl k es' false):=by
 intro w A μ v hv
 rcases hv with⟨h1,h2⟩|⟨blk,off,cap,vs,e1,e2,e3,e4,e5,e6,e7,e8⟩
 ·subst h1;exact .inl ⟨aG' hl,h2⟩
 ·obtain⟨e8,e9⟩:=e8;exact .inr ⟨blk,off,cap,vs,by rw[hl];exact e1,e2,by rw[hl];exact e3,e4,(λh=>by cases h),h.rvl e6,e7,e8,hs e9⟩
theorem Sub.func{f:FuncId}{xs ys:List AV}(h:gF xs ys):Sub (.func f xs) (.func f ys):=λw A μ v ⟨vs,h1,h2⟩=>⟨vs,h1,h.rvl h2⟩
mutual
theorem dG:∀(s:Sh) (x:AV),Sub x (bh s x)
  | .k,x=>by rw[bh];exact Sub.refl
  | .s kk,.sl 0 es full=>by
    rw[bh];cases es with
    | nil=>exact Sub.sl (.inr rfl) (by simp)
    | cons y es=>exact Sub.refl
  | .s kk,.sl (k+1) es full=>by rw[bh];exact Sub.sl (.inl rfl) (by simp)
  | .s _,.val _=>by rw[bh];exact Sub.refl;all_goals simp
  | .s _,.agg _=>by rw[bh];exact Sub.refl;all_goals simp
  | .s _,.tup _=>by rw[bh];exact Sub.refl;all_goals simp
  | .s _,.func _ _=>by rw[bh];exact Sub.refl;all_goals simp
  | .s _,.ref _ _=>by rw[bh];exact Sub.refl;all_goals simp
  | .s _,.eref _ _ _=>by rw[bh];exact Sub.refl;all_goals simp
  | .s _,.rptr _ _=>by rw[bh];exact Sub.refl;all_goals simp
  | .s _,.vec _=>by rw[bh];exact Sub.refl;all_goals simp
  | .s _,.vsub _ _ _=>by rw[bh];exact Sub.refl;all_goals simp
  | .s _,.asub _ _ _ _=>by rw[bh];exact Sub.refl;all_goals simp
  | .s _,.mref _=>by rw[bh];exact Sub.refl;all_goals simp
  | .s _,.mp _ _ _=>by rw[bh];exact Sub.refl;all_goals simp
  | .s _,.unk=>by rw[bh];exact Sub.refl;all_goals simp
  | .a l,.agg cs=>by rw[bh];exact Sub.agg (fv l cs)
  | .a l,.tup cs=>by rw[bh];exact Sub.tup (fv l cs)
  | .a l,.func f cs=>by rw[bh];exact Sub.func (fv l cs)
  | .a _,.val _=>by rw[bh];exact Sub.refl;all_goals simp
  | .a _,.sl _ _ _=>by rw[bh];exact Sub.refl;all_goals simp
  | .a _,.ref _ _=>by rw[bh];exact Sub.refl;all_goals simp
  | .a _,.eref _ _ _=>by rw[bh];exact Sub.refl;all_goals simp
  | .a _,.rptr _ _=>by rw[bh];exact Sub.refl;all_goals simp
  | .a _,.vec _=>by rw[bh];exact Sub.refl;all_goals simp
  | .a _,.vsub _ _ _=>by rw[bh];exact Sub.refl;all_goals simp
  | .a _,.asub _ _ _ _=>by rw[bh];exact Sub.refl;all_goals simp
  | .a _,.mref _=>by rw[bh];exact Sub.refl;all_goals simp
  | .a _,.mp _ _ _=>by rw[bh];exact Sub.refl;all_goals simp
  | .a _,.unk=>by rw[bh];exact Sub.refl;all_goals simp
  | .v s,.sl k es full=>by
    rw[bh];exact Sub.slE (gF.mapS (λx=>dG s x) es) (by simp) λh x hx=>by
      obtain⟨y,hy,rfl⟩:=R'.mp hx;rw[qg];exact h y hy
  | .v _,.val _=>by rw[bh];exact Sub.refl;all_goals simp
  | .v _,.agg _=>by rw[bh];exact Sub.refl;all_goals simp
  | .v _,.tup _=>by rw[bh];exact Sub.refl;all_goals simp
  | .v _,.func _ _=>by rw[bh];exact Sub.refl;all_goals simp
  | .v _,.ref _ _=>by rw[bh];exact Sub.refl;all_goals simp
  | .v _,.eref _ _ _=>by rw[bh];exact Sub.refl;all_goals simp
  | .v _,.rptr _ _=>by rw[bh];exact Sub.refl;all_goals simp
  | .v _,.vec _=>by rw[bh];exact Sub.refl;all_goals simp
  | .v _,.vsub _ _ _=>by rw[bh];exact Sub.refl;all_goals simp
  | .v _,.asub _ _ _ _=>by rw[bh];exact Sub.refl;all_goals simp
  | .v _,.mref _=>by rw[bh];exact Sub.refl;all_goals simp
  | .v _,.mp _ _ _=>by rw[bh];exact Sub.refl;all_goals simp
  | .v _,.unk=>by rw[bh];exact Sub.refl;all_goals simp
theorem fv:∀(l:List Sh) (xs:List AV),gF xs (qf l xs)
  | [],xs=>by rw[qf];exact gF.refl
  | _::_,[]=>by rw[qf];trivial
  | s::l,x::xs=>by rw[qf];exact⟨dG s x,fv l xs⟩
end
structure PC (P:Program) where
  f:FuncId
  sh:List Sh
  args:List AV
  r:AV
  ok:eQ P f args r
  fn:mI P f
def PC.wsh{P:Program}(c:PC P)(sh:List Sh):PC P:=⟨c.f,sh,c.args,c.r,c.ok,c.fn⟩
def Blk.pureB:Blk→Bool
 | .box x=>x.pureB
 | .vec _ es=>bM es
 | .row _ es _ _=>bM es
 | .map _ _ vs=>bM vs
 | _=>false
def jt(π:Nat→Nat):Blk→Blk
 | .box x=>.box (x.ren π)
 | x=>x
def cF(n:Nat):Blk→Bool
 | .box x=>x.belB n
 | .vec _ es=>bM es
 | .row _ es _ _=>bM es
 | .map _ _ vs=>bM vs
 | _=>false
structure qT (args:List AV) (h:List Blk) (r:AV) (h':List (Option Blk)):Prop where
  args:fP h.length args
  hp:∀x∈h,cF h.length x=true
  le:h.length≤h'.length
  le':h'.length≤h.length+16
  r:r.bel h'.length
  h':∀x,some x∈h'→cF h'.length x=true
def allB{α:Type}(p:α→Bool):List α→Bool
 | []=>true
 | x::r=>cond (p x) (allB p r) false
theorem oN{α:Type}{p:α→Bool}:∀{l:List α},allB p l=true→∀x∈l,p x=true
 | [],_,x,hx=>by simp at hx
 | y::r,h,x,hx=>by
  obtain⟨h1,h2⟩:=ag.mp h
  rcases P'.mp hx with rfl|hx
  ·exact h1
  ·exact oN h2 x hx
def bW(n:Nat):Option Blk→Bool
 | some x=>cF n x
 | none=>true
def hcB(args:List AV)(h:List Blk)(r:AV)(h':List (Option Blk)):Bool:=
 cond (bJ h.length args) (cond (allB (cF h.length) h) (cond (Nat.ble h.length h'.length) (cond (Nat.ble h'.length (h.length+16)) (cond (r.belB h'.length) (allB (bW h'.length) h') false) false) false) false) false
theorem qT.of{args:List AV}{h:List Blk}{r:AV}{h':List (Option Blk)}(e:hcB args h r h'=true):qT args h r h':=by
 obtain⟨h1,e⟩:=ag.mp e;obtain⟨h2,e⟩:=ag.mp e;obtain⟨h3,e⟩:=ag.mp e;obtain⟨h4,e⟩:=ag.mp e;obtain⟨h5,h6⟩:=ag.mp e;exact⟨jF h1,oN h2,U' h3,U' h4,AV.belB_ok h5,λx hx=>oN h6 _ hx⟩
structure HC (P:Program) where
  f:FuncId
  sh:List Sh
  args:List AV
  h:List Blk
  r:AV
  h':List (Option Blk)
  ok:bc P f args h r h'
  fn:mI P f
  good:qT args h r h'
inductive PB where
  | box (x:AV)
  | vec (k:Nat) (es:List AV) (h:bM es=true)
  | arr (es:List AV) (h:bM es=true)
  | map (kk:Option Nat) (ks:List MK) (vs:List AV) (h:bM vs=true)
  | gone
def PB.blk:PB→Option Blk
 | .box x=>some (.box x)
 | .vec k es _=>some (.vec k es)
 | .arr es _=>some (.box (.agg es))
 | .map kk ks vs _=>some (.map kk ks vs)
 | .gone=>none
def PB.ren(π:Nat→Nat):PB→Option Blk
 | .box x=>some (.box (x.ren π))
 | .vec k es _=>some (.vec k es)
 | .arr es _=>some (.box (.agg es))
 | .map kk ks vs _=>some (.map kk ks vs)
 | .gone=>none
def PB.isGone:PB→Bool
 | .gone=>true
 | _=>false
def PB.see(v:Option Blk):PB→Option Blk
 | .gone=>none
 | _=>v
structure NF where
  ts:List (Nat×Sh×AV)
  hs:List PB
def NF.st(m:NF):S3:=⟨ed (m.ts.map λp=>(p.1,p.2.2)),hpL 0 (m.hs.map PB.blk),m.hs.length⟩
inductive Cmd:Type 1 where
  | frz (b:Nat)
  | frzE (b:Nat) (es:List AV) (h:bM es=true)
  | frzM (b:Nat) (es:List AV) (h:bM es=true)
  | nilT (t k:Nat)
  | frzV (b t i:Nat) {α:Type} (v:α→AV) (l:List α) (y:AV) (x:α) (es:List AV) (h:bM es=true)
  | nilF (t i k:Nat)
  | nilB (b i k:Nat)
  | nilC (b k:Nat)
  | wkT (t:Nat) (s:Sh)
  | wkB (b:Nat) (s:Sh)
  | wkS (b i:Nat) (sh:Sh) {α:Type} (v:α→AV) (l:List α) (y:AV) (x:α)
  | wkV (b:Nat) (sh:Sh) {α:Type} (v:α→AV) (l:List α)
section
variable {α β : Type} [DecidableEq α]
def eT(l:List (α×β)):List α:=l.map Prod.fst
def me(l:List (α×β))(x:α):Nat:=(eT l).idxOf x
def zN(l:List (α×β))(x:α):Bool:=decide (x∈eT l)
def re(l:List (α×β))(x:α)(z:β):β:=match l[me l x]? with
 | some p=>p.2
 | none=>z
def IA(l:List (α×β))(x:α)(v:β):List (α×β):=if x∈eT l then l.set (me l x) (x,v)else l++[(x,v)]
def mdl(l:List (α×β))(x:α):List (α×β):=l.eraseIdx (me l x)
end
inductive MN:Type 1 where
  | get {α β:Type} (de:DecidableEq α) (kf:α→MK) (hi:∀x y,kf x=kf y→x=y) (vf:β→AV) (l:List (α×β)) (x:α) (z:β)
  | put {α β:Type} (de:DecidableEq α) (kf:α→MK) (hi:∀x y,kf x=kf y→x=y) (vf:β→AV) (l:List (α×β)) (x:α) (v:β)
  | del {α β:Type} (de:DecidableEq α) (kf:α→MK) (hi:∀x y,kf x=kf y→x=y) (vf:β→AV) (l:List (α×β)) (x:α)
  | getB (h:Bool) {α β:Type} (de:DecidableEq α) (kf:α→MK) (hi:∀x y,kf x=kf y→x=y) (vf:β→AV) (l:List (α×β)) (x:α) (z:β)
def fK(P:Program)(k n:Nat)(c:AC)(s s2:S3):Prop:=AWP P k n c (λe s'=>match e with
 | .normal=>aF k n s' s2
 | _=>False) s
inductive An (P:Program) (Sf:Nat→Type) (T:Type):Type 1 where
  | nil
  | pass (a:An P Sf T)
  | br (g:Nat) (x y:An P Sf T)
  | el (f:Nat) {α:Type} (v:α→AV) (l:List α) (k:α→An P Sf T)
  | elA (f:Nat) {α:Type} (v:α→List AV) (l:List α) (i n:Nat) (hv:∀x,(v x).length=n) (k:α→An P Sf T)
  | st (f:Nat) {α:Type} (v:α→AV) (l:List α) (g:α→α) (k:α→An P Sf T)
  | stI (f:Nat) {α:Type} (v:α→AV) (l:List α) (k:α→An P Sf T)
  | app (f:Nat) {α:Type} (v:α→AV) (l xs:List α) (a:An P Sf T)
  | appF (f:Nat) {α:Type} (v:α→AV) (l xs:List α) (a:An P Sf T)
  | sub (f:Nat) {α:Type} (v:α→AV) (l:List α) (fl:Bool) (a:An P Sf T)
  | rep (f:Nat) {α:Type} (v:α→AV) (x:α) (a:An P Sf T)
  | own (f:Nat) (a:An P Sf T)
  | mn (f:Nat) (q:MN) (a:An P Sf T)
  | req (f:Nat) (p:Prop) (k:p→An P Sf T)
  | callP (c:PC P) (a:An P Sf T)
  | callH (bs:List Nat) (c:HC P) (a:An P Sf T)
  | callA (c:PC P) (h:bU c.args) (a:An P Sf T)
  | cmd (c:Cmd) (a:An P Sf T)
  | cmdL (c:Cmd) (a:An P Sf T)
  | wait (a:An P Sf T)
  | loop (j:Nat) (nf:Sf j→NF) (I:Sf j→Prop) (mu:Sf j→Nat) (s0:Sf j) (bs:List Nat) (body:Sf j→An P Sf T)
  | join (j:Nat) (nf:Sf j→NF) (I:Sf j→Prop) (a:An P Sf T) (body:Sf j→An P Sf T)
  | join2 (j:Nat) (nf:Sf j→NF) (I:Sf j→Prop) (a:An P Sf T) (body:Sf j→An P Sf T)
  | back (j:Nat) (t:Sf j) (bs:List Nat)
  | hand (k0:Nat) (cs:List Cmd) (m1:NF) (bs:List Nat) (s2:S3) (c:AC) (h:∀n,fK P k0 n c m1.st s2) (a:An P Sf T)
  | hand2 (k0:Nat) (s1 s2:S3) (c:AC) (h:∀n,fK P k0 n c s1 s2) (a:An P Sf T)
  | handQ (k0:Nat) (m1:NF) (bs:List Nat) (s2:S3) (c:AC) (p:Prop) (h:p→∀n,fK P k0 n c m1.st s2) (a:An P Sf T)
  | unr (n:Nat) (a:An P Sf T)
  | ret (r:T)
  | retH (r:T) (m:NF) (bs:List Nat)
section
variable {P : Program} {Sf : Nat → Type} {T : Type}
def An.l(f:Nat):An P Sf T→An P Sf T
 | .br g x y=>cond (Nat.beq g f) x (.br g x y)
 | a=>a
def An.r(f:Nat):An P Sf T→An P Sf T
 | .br g x y=>cond (Nat.beq g f) y (.br g x y)
 | a=>a
end
def vS(y:AV)(off size:Nat)(agg:Bool):Bool:=cond y.solid (cond (cond agg true (Nat.beq size 1)) (Nat.ble (off+size) y.cells.length) false) false
def Nc(y:AV)(off size:Nat)(v:AV):Bool:=cond y.solid (cond v.solid (cond (Nat.beq v.cells.length size) (Nat.ble (off+size) y.cells.length) false) false) false
def Km(n:Nat):List (Nat×Nat×AV)→Bool
 | []=>true
 | (o,s,x)::r=>cond x.solid (cond (Nat.beq x.cells.length s) (cond (Nat.ble (o+s) n) (Km n r) false) false) false
def O9(k n:Nat):List (Nat×AV)→Bool
 | []=>true
 | (i,x)::r=>cond x.solid (cond (Nat.beq x.cells.length k) (cond (Nat.blt i n) (O9 k n r) false) false) false
def Je:List (Nat×AV)→Bool
 | []=>true
 | (_,x)::r=>cond x.pureB (Je r) false
def AX(op:BinOp)(x y:AV):Bool:=match x,y with
 | .val (.int k _),.val (.int k' b)=>match op with
  | .quo=>cond (decide (k=k')) (!(b==0)) false
  | .rem=>cond (decide (k=k')) (!(b==0)) false
  | .shl=>decide (0≤b)
  | .shr=>decide (0≤b)
  | _=>decide (k=k')
 | .val (.string a),.val (.string b)=>match op with
  | .add=>decide (a.size+b.size≤maxLen)
  | .eql|.neq|.lss|.leq|.gtr|.geq=>true
  | _=>false
 | _,_=>false
def cj(n:Nat)(l h m:Int):Bool:=cond (decide (0≤l)) (cond (decide (l≤h)) (cond (decide (h≤m)) (decide (m≤(n:Int))) false) false) false
def fZ(hp:Hp)(k:Nat)(x:AV)(lo hi mx:Option Int):Bool:=match x with
 | .sl k' es _=>cond (cond (Nat.beq k' k) true es.isEmpty) (cond (cond mx.isSome hi.isSome true) (cj es.length (lo.getD 0) (hi.getD es.length) (mx.getD es.length)) false) false
 | .vec b=>match hp b with
  | some (.vec k' es)=>cond (Nat.beq k' k) (cond (cond mx.isSome hi.isSome true) (cj es.length (lo.getD 0) (hi.getD es.length) (mx.getD es.length)) false) false
  | _=>false
 | _=>false
def ku(ρ:AO→AV):Option AO→Option (Option Int)
 | none=>some none
 | some x=>match ρ x with
  | .val (.int _ i)=>some (some i)
  | _=>none
def kkB:Option Nat→Option Nat→Bool
 | none,none=>true
 | some a,some b=>Nat.beq a b
 | _,_=>false
def Fi:Option Nat→MK→Bool
 | none,.n _=>true
 | some k,.c l=>Nat.beq l.length k
 | _,_=>false
def okB(op:AOp)(ρ:AO→AV)(hp:Hp):Bool:=match op with
 | .move _=>true
 | .pick c _ _=>match ρ c with
  | .val (.bool _)=>true
  | _=>false
 | .box x=>(ρ x).solid
 | .build z ps=>Km z.length (ps.map λ(o,s,x)=>(o,s,ρ x))
 | .load agg size x=>match ρ x with
  | .ref b off=>match hp b with
   | some (.box y)=>vS y off size agg
   | _=>false
  | .rptr y off=>vS y off size agg
  | _=>false
 | .store size a x=>match ρ a with
  | .ref b off=>match hp b with
   | some (.box y)=>Nc y off size (ρ x)
   | _=>false
  | _=>false
 | .nilc x=>match ρ x with
  | .ref _ _=>true
  | .eref _ _ _=>true
  | .rptr _ _=>true
  | .func _ _=>true
  | _=>false
 | .bin op x y=>AX op (ρ x) (ρ y)
 | .binB op x y=>match ρ x,ρ y with
  | .val (.bool _),.val (.bool _)=>match op with
   | .eql=>true
   | .neq=>true
   | _=>false
  | _,_=>false
 | .eqs ks _ x y=>match ρ x,ρ y with
  | .agg xs,.agg ys=>(ce ks xs ys).isSome
  | _,_=>false
 | .un op x=>match op,ρ x with
  | .not,.val (.bool _)=>true
  | .neg,.val (.int _ _)=>true
  | _,_=>false
 | .convI _ x=>match ρ x with
  | .val (.int _ _)=>true
  | _=>false
 | .convS x=>match ρ x with
  | .val (.string _)=>true
  | _=>false
 | .convSB x=>match ρ x with
  | .val (.string _)=>true
  | _=>false
 | .convBS x=>match ρ x with
  | .sl k es _=>cond (Nat.beq k 1) (cG es).isSome false
  | .asub b o n k=>cond (Nat.beq k 1) (match i9 hp b with
   | some cs=>match cG ((cs.drop o).take n)with
    | some bs=>cond (Nat.ble (o+n) cs.length) (Nat.ble bs.length 4096) false
    | none=>false
   | none=>false) false
  | _=>false
 | .sliceA n _ x lo hi=>match ρ x with
  | .ref _ _=>cond lo.isNone (cond hi.isNone (Nat.ble n 4096) false) false
  | _=>false
 | .mkf _ _=>true
 | .mks _ bytes _ l c=>match ρ l,ρ c with
  | .val (.int .i64 l),.val (.int .i64 c)=>cond (Nat.ble bytes 134217728) (cond (decide (0≤l)) (cond (decide (l≤c)) (decide (c≤1048576)) false) false) false
  | _,_=>false
 | .sliceS x lo hi=>match ρ x with
  | .val (.string s)=>match nL 0 (lo.map ρ),nL s.size (hi.map ρ)with
   | some l,some h=>cond (decide (0≤l)) (cond (decide (l≤h)) (decide (h≤s.size)) false) false
   | _,_=>false
  | _=>false
 | .slice k x lo hi mx=>match lo.map ρ,hi.map ρ,mx.map ρ with
  | none,none,none=>fZ hp k (ρ x) none none none
  | some (.val (.int _ l)),none,none=>fZ hp k (ρ x) (some l) none none
  | none,some (.val (.int _ h)),none=>fZ hp k (ρ x) none (some h) none
  | some (.val (.int _ l)),some (.val (.int _ h)),none=>fZ hp k (ρ x) (some l) (some h) none
  | none,some (.val (.int _ h)),some (.val (.int _ m))=>fZ hp k (ρ x) none (some h) (some m)
  | some (.val (.int _ l)),some (.val (.int _ h)),some (.val (.int _ m))=>fZ hp k (ρ x) (some l) (some h) (some m)
  | _,_,_=>false
 | .faddr _ x=>match ρ x with
  | .ref _ _=>true
  | .eref _ _ _=>true
  | .rptr _ _=>true
  | _=>false
 | .field agg o size x=>cond (ρ x).isAgg (vS (ρ x) o size agg) false
 | .iaddr k x i=>match ρ i with
  | .val (.int _ i)=>match ρ x with
   | .vec b=>match hp b with
    | some (.vec k' es)=>cond (Nat.beq k' k) (cond (decide (0≤i)) (decide (i<es.length)) false) false
    | _=>false
   | .vsub b _ n=>match hp b with
    | some (.vec k' _)=>cond (Nat.beq k' k) (cond (decide (0≤i)) (decide (i<n)) false) false
    | _=>false
   | _=>false
  | _=>false
 | .iaddrA n _ x i=>match ρ i with
  | .val (.int _ i)=>match ρ x with
   | .ref _ _=>cond (decide (0≤i)) (decide (i<n)) false
   | .eref _ _ _=>cond (decide (0≤i)) (decide (i<n)) false
   | .rptr _ _=>cond (decide (0≤i)) (decide (i<n)) false
   | _=>false
  | _=>false
 | .indexS x i=>match ρ x,ρ i with
  | .val (.string s),.val (.int _ i)=>cond (decide (0≤i)) (decide (i<s.size)) false
  | _,_=>false
 | .ext i x=>match ρ x with
  | .tup xs=>Nat.blt i xs.length
  | _=>false
 | .len x=>match ρ x with
  | .sl _ _ _=>true
  | .vec b=>match hp b with
   | some (.vec _ _)=>true
   | _=>false
  | _=>false
 | .lenS x=>match ρ x with
  | .val (.string _)=>true
  | _=>false
 | .cap x=>match ρ x with
  | .sl _ _ full=>full
  | _=>false
 | .min xs=>match xs.map ρ with
  | .val (.int k a)::r=>(ix gW k a r).isSome
  | _=>false
 | .max xs=>match xs.map ρ with
  | .val (.int k a)::r=>(ix il k a r).isSome
  | _=>false
 | .mkI _ x=>match ρ x with
  | .val (.int _ _)=>true
  | .val (.string _)=>true
  | .val (.bool _)=>true
  | _=>false
 | .asrt _ _ x=>match ρ x with
  | .val (.iface _ _)=>true
  | _=>false
 | .mkm _=>true
 | .mset kk m k x=>match ρ m with
  | .mref b=>match hp b,(ρ k).key with
   | some (.map kk' _ _),some q=>cond (kkB kk' kk) (cond (Fi kk q) (ρ x).solid false) false
   | _,_=>false
  | _=>false
 | .mlen x=>match rh hp (ρ x)with
  | some (_,ks,_)=>decide (ks.length≤maxLen)
  | none=>false
 | _=>false
end Go.Am
namespace Go.Am
theorem lZ{y:AV}{off size:Nat}{agg:Bool}(h:vS y off size agg=true):dp y off size agg:=by
 obtain⟨h1,h⟩:=ag.mp h;obtain⟨h2,h3⟩:=ag.mp h;refine⟨h1,U' h3,λe=>?_⟩;subst e;exact M' h2
theorem tD{y:AV}{off size:Nat}{v:AV}(h:Nc y off size v=true):nR y off size v:=by
 obtain⟨h1,h⟩:=ag.mp h;obtain⟨h2,h⟩:=ag.mp h;obtain⟨h3,h4⟩:=ag.mp h;exact⟨h1,h2,M' h3,U' h4⟩
theorem xr{n:Nat}:∀{ps:List (Nat×Nat×AV)},Km n ps=true→uz n ps
 | [],_=>λp hp=>by simp at hp
 | (o,s,x)::r,h=>by
  obtain⟨h1,h⟩:=ag.mp h;obtain⟨h2,h⟩:=ag.mp h;obtain⟨h3,h4⟩:=ag.mp h;intro p hp
  rcases P'.mp hp with rfl|hp
  ·exact⟨h1,M' h2,U' h3⟩
  ·exact xr h4 p hp
theorem mh{k n:Nat}:∀{ps:List (Nat×AV)},O9 k n ps=true→w9 k n ps
 | [],_=>λp hp=>by simp at hp
 | (i,x)::r,h=>by
  obtain⟨h1,h⟩:=ag.mp h;obtain⟨h2,h⟩:=ag.mp h;obtain⟨h3,h4⟩:=ag.mp h;intro p hp
  rcases P'.mp hp with rfl|hp
  ·exact⟨h1,M' h2,U' h3⟩
  ·exact mh h4 p hp
theorem pJ:∀{ps:List (Nat×AV)},Je ps=true→ug ps
 | [],_=>λp hp=>by simp at hp
 | (i,x)::r,h=>by
  obtain⟨h1,h2⟩:=ag.mp h;intro p hp
  rcases P'.mp hp with rfl|hp
  ·exact AV.pureB_ok h1
  ·exact pJ h2 p hp
theorem FQ{op:BinOp}{x y:AV}(h:AX op x y=true):(dx op x y).c:=by
 unfold AX at h
 split at h
 ·rename_i k a k' b;cases op with
  | quo=>obtain⟨h1,h2⟩:=ag.mp h;exact⟨H' h1,by simpa using h2⟩
  | rem=>obtain⟨h1,h2⟩:=ag.mp h;exact⟨H' h1,by simpa using h2⟩
  | shl=>exact H' (p:=0≤b) h
  | shr=>exact H' (p:=0≤b) h
  | _=>exact H' (p:=k=k') h
 ·rename_i a b;cases op with
  | add=>exact H' (p:=a.size+b.size≤maxLen) h
  | eql=>trivial
  | neq=>trivial
  | lss=>trivial
  | leq=>trivial
  | gtr=>trivial
  | geq=>trivial
  | _=>cases h
 ·cases h
theorem mE{n:Nat}{l h m:Int}(e:cj n l h m=true):0≤l∧l≤h∧h≤m∧m≤(n:Int):=by
 obtain⟨h1,e⟩:=ag.mp e;obtain⟨h2,e⟩:=ag.mp e;obtain⟨h3,h4⟩:=ag.mp e;exact⟨H' h1,H' h2,H' h3,H' h4⟩
theorem lK{a b:Bool}(h:cond a b true=true):a=true→b=true:=by cases a<;>simp_all
theorem fR{hp:Hp}{k:Nat}{x:AV}{lo hi mx:Option Int}(h:fZ hp k x lo hi mx=true):(sliceA hp k x lo hi mx).c:=by
 unfold fZ at h
 split at h
 ·rename_i k' es full;obtain⟨h1,h⟩:=ag.mp h;obtain⟨h2,h3⟩:=ag.mp h;have b:=mE h3;refine⟨?_,lK h2,b.1,b.2.1,b.2.2.1,b.2.2.2⟩;cases hk:Nat.beq k' k with
  | true=>exact .inl (M' hk)
  | false=>rw[hk]at h1;exact .inr (by simpa using h1)
 ·rename_i b
  split at h
  ·rename_i k' es he;obtain⟨h1,h⟩:=ag.mp h;obtain⟨h2,h3⟩:=ag.mp h;have b:=mE h3;simp only[sliceA,he];exact⟨M' h1,lK h2,b.1,b.2.1,b.2.2.1,b.2.2.2⟩
  ·cases h
 ·cases h
theorem Px{hp:Hp}{f k:Nat}{x:AV}{h m:Int}(e:fZ hp k x none (some h) (some m)=true):(lp hp f k x h m).c:=by
 have hs:=fR e;unfold lp
 split
 ·split
  ·rename_i b k' es he
   split
   ·simp only[sliceA,he,cd',Option.getD_none]at hs;exact⟨hs.1,by have:=hs.2.2;omega,by have:=hs.2.2;omega⟩
   ·exact hs
  ·exact hs
 ·exact hs
theorem vK{hp:Hp}{f k:Nat}{x:AV}{h:Int}(e:fZ hp k x none (some h) none=true):bV hp f k x h=sliceA hp k x none (some h) none:=by
 unfold fZ at e
 split at e
 ·rfl
 ·split at e
  ·rename_i he;simp only[bV,he]
  ·cases e
 ·cases e
theorem nl{a b:Option Nat}(h:kkB a b=true):a=b:=by
 cases a<;>cases b<;>first|rfl|(cases h;done)|exact congrArg some (M' h)
theorem kb{kk:Option Nat}{q:MK}(h:Fi kk q=true):q.fits kk:=by
 cases kk<;>cases q<;>first|trivial|(cases h;done)|exact M' h
theorem sc{op:AOp}{f:Nat}{ρ:AO→AV}{hp:Hp}(h:okB op ρ hp=true):(evA op f ρ hp).c:=by
  cases op<;>simp only[okB]at h
  case move x=>trivial
  case pick c a b =>
    split at h
    · rename_i e;simp only[evA,e]
    · cases h
  case box x=>exact h
  case build z ps=>exact xr h
  case load agg size x =>
    split at h
    · rename_i b off e
      split at h
      · rename_i y hy;simp only[evA,e,hy];exact lZ h
      · cases h
    · rename_i e;simp only[evA,e];exact lZ h
    · cases h
  case store size a x =>
    split at h
    · rename_i b off e
      split at h
      · rename_i y hy;simp only[evA,e,hy];exact tD h
      · cases h
    · cases h
  case nilc x=>split at h<;>first|(rename_i e;simp only[evA,e];done)|cases h
  case bin op x y=>exact FQ h
  case binB op x y =>
    split at h
    · rename_i e1 e2
      simp only[evA,e1,e2];cases op<;>simp at h<;>trivial
    · cases h
  case eqs ks ne x y =>
    split at h
    · rename_i e1 e2
      simp only[evA,e1,e2];cases he:ce ks _ _ with
      | none=>rw[he]at h;cases h
      | some b=>trivial
    · cases h
  case un op x =>
    simp only[evA];generalize ρ x=y at h ⊢;cases op<;>cases y with
    | val v=>cases v<;>simp at h<;>trivial
    | _=>simp at h
  case convI k x=>split at h<;>first|(rename_i e;simp only[evA,e];done)|cases h
  case convS x=>split at h<;>first|(rename_i e;simp only[evA,e];done)|cases h
  case convSB x=>split at h<;>first|(rename_i e;simp only[evA,e];done)|cases h
  case convBS x =>
    split at h
    · rename_i k es fu e
      obtain⟨h1,h2⟩:=ag.mp h;cases M' h1;simp only[evA,e];cases hb:cG es with
      | none=>rw[hb]at h2;cases h2
      | some bs=>trivial
    · rename_i b o n k e
      obtain⟨h1,h2⟩:=ag.mp h;cases M' h1
      split at h2
      · rename_i cs e1
        split at h2
        · rename_i bs e2
          obtain⟨h3,h4⟩:=ag.mp h2;simp only[evA,e,e1,e2];exact⟨U' h3,aF' (U' h4) (by decide)⟩
        · cases h2
      · cases h2
    · cases h
  case sliceA n k x lo hi =>
    split at h
    · rename_i b off e
      obtain⟨h1,h2⟩:=ag.mp h;obtain⟨h2,h3⟩:=ag.mp h2;cases lo with
      | some _=>cases h1
      | none =>
      cases hi with
      | some _=>cases h2
      | none =>
      simp only[evA,e,Option.map_none,nL];have:=U' h3;exact⟨ai' _,by omega,ai' _,by rw[show maxLen=9223372036854775807 from rfl];omega⟩
    · cases h
  case mkf=>trivial
  case mks k bytes z l c =>
    split at h
    · rename_i l' c' e1 e2
      obtain⟨h0,h⟩:=ag.mp h;obtain⟨h1,h⟩:=ag.mp h;obtain⟨h2,h3⟩:=ag.mp h;have h0:=U' h0;have h1:=H' h1;have h2:=H' h2;have h3:=H' h3;simp only[evA,e1,e2]
      refine⟨h1,h2,?_,?_⟩
      · have g:c' * (bytes:Int)≤1048576 * 134217728:=Int.mul_le_mul h3 (by omega) (by omega) (by omega)
        omega
      · show c'≤(maxLen:Int)
        have:(1048576:Int)≤(maxLen:Int):=by decide
        omega
    · cases h
  case sliceS x lo hi =>
    split at h
    · rename_i e1
      split at h
      · rename_i e2 e3
        obtain⟨h1,h⟩:=ag.mp h;obtain⟨h2,h3⟩:=ag.mp h;simp only[evA,e1,e2,e3];exact⟨H' h1,H' h2,H' h3⟩
      · cases h
    · cases h
  case slice k x lo hi mx =>
    split at h
    · rename_i e1 e2 e3;simp only[evA,e1,e2,e3];exact fR h
    · rename_i e1 e2 e3;simp only[evA,e1,e2,e3];exact fR h
    · rename_i e1 e2 e3;simp only[evA,e1,e2,e3];rw[vK h];exact fR h
    · rename_i e1 e2 e3;simp only[evA,e1,e2,e3];exact fR h
    · rename_i e1 e2 e3;simp only[evA,e1,e2,e3];exact Px h
    · rename_i e1 e2 e3;simp only[evA,e1,e2,e3];exact fR h
    · cases h
  case faddr o x=>split at h<;>first|(rename_i e;simp only[evA,e];done)|cases h
  case field agg o size x =>
    obtain⟨h1,h2⟩:=ag.mp h;exact⟨h1,lZ h2⟩
  case iaddr k x i =>
    split at h
    · rename_i i' e1
      split at h
      · rename_i b e2
        split at h
        · rename_i k' es e3
          obtain⟨h1,h⟩:=ag.mp h;obtain⟨h2,h3⟩:=ag.mp h;simp only[evA,e1,e2,e3];exact⟨M' h1,H' h2,H' h3⟩
        · cases h
      · rename_i b lo n e2
        split at h
        · rename_i k' es e3
          obtain⟨h1,h⟩:=ag.mp h;obtain⟨h2,h3⟩:=ag.mp h;simp only[evA,e1,e2,e3];exact⟨M' h1,H' h2,H' h3⟩
        · cases h
      · cases h
    · cases h
  case iaddrA n k x i =>
    split at h
    · rename_i i' e1
      split at h<;>first
        | (rename_i e2
           obtain⟨h2,h3⟩:=ag.mp h;simp only[evA,e1,e2];exact⟨H' h2,H' h3⟩)
        | cases h
    · cases h
  case indexS x i =>
    split at h
    · rename_i e1 e2
      obtain⟨h2,h3⟩:=ag.mp h;simp only[evA,e1,e2];exact⟨H' h2,H' h3⟩
    · cases h
  case ext i x =>
    split at h
    · rename_i e;simp only[evA,e];exact U' h
    · cases h
  case len x =>
    split at h
    · rename_i e;simp only[evA,e,je]
    · rename_i b e
      split at h
      · rename_i e2;simp only[evA,e,je,e2]
      · cases h
    · cases h
  case lenS x=>split at h<;>first|(rename_i e;simp only[evA,e];done)|cases h
  case cap x =>
    split at h
    · rename_i k es full e;subst h;simp only[evA,e]
    · cases h
  case min xs =>
    simp only[evA]
    split at h
    · rename_i k a r e
      simp only[e,gQ];cases he:ix gW k a r with
      | none=>rw[he]at h;cases h
      | some b=>trivial
    · cases h
  case max xs =>
    simp only[evA]
    split at h
    · rename_i k a r e
      simp only[e,gQ];cases he:ix il k a r with
      | none=>rw[he]at h;cases h
      | some b=>trivial
    · cases h
  case mkI t x=>split at h<;>first|(rename_i e;simp only[evA,e];done)|cases h
  case asrt t z x=>split at h<;>first|(rename_i e;simp only[evA,e];done)|cases h
  case mkm=>trivial
  case mset kk m k x =>
    split at h
    · rename_i b e1
      split at h
      · rename_i kk' ks vs q e2 e3
        obtain⟨h1,h⟩:=ag.mp h;obtain⟨h2,h3⟩:=ag.mp h;simp only[evA,e1,e2,e3];exact⟨nl h1,kb h2,h3⟩
      · cases h
    · cases h
  case mlen x =>
    split at h
    · rename_i e;simp only[evA,e];exact H' h
    · cases h
  all_goals cases h
end Go.Am
namespace Go.Am
mutual
def dY(hp:Hp):AV→AV
  | .ref b off=>match hp b with
    | some (.box x)=>.rptr x off
    | _=>.ref b off
  | .vec b=>match hp b with
    | some (.vec k es)=>.sl k es false
    | _=>.vec b
  | .agg cs=>.agg (jh hp cs)
  | .func f cs=>.func f (jh hp cs)
  | .val v=>.val v
  | .sl k es full=>.sl k es full
  | .rptr x o=>.rptr x o
  | .tup cs=>.tup cs
  | .eref b i o=>.eref b i o
  | .vsub b i o=>.vsub b i o
  | .asub b i o k=>.asub b i o k
  | .mref b=>match hp b with
    | some (.map kk ks vs)=>.mp kk ks vs
    | _=>.mref b
  | .mp kk ks vs=>.mp kk ks vs
  | .unk=>.unk
def jh(hp:Hp):List AV→List AV
  | []=>[]
  | x::xs=>dY hp x::jh hp xs
end
mutual
def oS(hp:Hp):AV→List (List AV)
  | .ref b off=>match hp b with
    | some (.box x)=>[[x]]
    | _=>[[.ref b off]]
  | .vec b=>match hp b with
    | some (.vec k es)=>[es]
    | _=>[[.vec b]]
  | .agg cs=>Ek hp cs
  | .func _ cs=>Ek hp cs
  | .val _=>[]
  | .sl _ _ _=>[]
  | .rptr _ _=>[]
  | .unk=>[]
  | .tup _=>[[.vec 0]]
  | .eref _ _ _=>[[.vec 0]]
  | .vsub _ _ _=>[[.vec 0]]
  | .asub _ _ _ _=>[[.vec 0]]
  | .mref b=>match hp b with
    | some (.map _ _ vs)=>[vs]
    | _=>[[.mref b]]
  | .mp _ _ _=>[]
def Ek(hp:Hp):List AV→List (List AV)
  | []=>[]
  | x::xs=>oS hp x++Ek hp xs
end
mutual
def Aa:AV→List Nat
  | .ref b _=>[b]
  | .vec b=>[b]
  | .mref b=>[b]
  | .agg cs=>xd cs
  | .func _ cs=>xd cs
  | _=>[]
def xd:List AV→List Nat
  | []=>[]
  | x::xs=>Aa x++xd xs
end
theorem nU:∀{a b:List (List AV)},c9 (a++b)=true→c9 a=true∧c9 b=true
 | [],b,h=>⟨rfl,h⟩
 | x::a,b,h=>by
  obtain⟨h1,h2⟩:=ag.mp h;obtain⟨h3,h4⟩:=nU (a:=a) h2;exact⟨ag.mpr ⟨h1,h3⟩,h4⟩
mutual
theorem Gl{hp:Hp}{foot:List Nat}:∀{x:AV},c9 (oS hp x)=true→(∀b∈Aa x,b∈foot)→fI foot hp x (dY hp x)
  | .ref b off,h,hf=>by
    rw[oS]at h;rw[dY]
    split at h
    · rename_i x hx
      exact fI.ref (hf b (by simp[Aa])) hx (AV.pureB_ok (ag.mp (ag.mp h).1).1)
    · cases h
  | .vec b,h,hf=>by
    rw[oS]at h;rw[dY]
    split at h
    · rename_i k es hx
      exact fI.vec (hf b (by simp[Aa])) hx (aV (ag.mp h).1)
    · cases h
  | .agg cs,h,hf=>by
    rw[oS]at h;rw[dY];exact fI.agg (lG h λb hb=>hf b (by simpa[Aa]using hb))
  | .func f cs,h,hf=>by
    rw[oS]at h;rw[dY];exact fI.func (lG h λb hb=>hf b (by simpa[Aa]using hb))
  | .val v,_,_=>by rw[dY];exact fI.pure trivial
  | .sl _ _ _,_,_=>by rw[dY];exact fI.pure trivial
  | .rptr _ _,_,_=>by rw[dY];exact fI.pure trivial
  | .unk,_,_=>by rw[dY];exact fI.pure trivial
  | .tup _,h,_=>by rw[oS]at h;cases h
  | .eref _ _ _,h,_=>by rw[oS]at h;cases h
  | .vsub _ _ _,h,_=>by rw[oS]at h;cases h
  | .asub _ _ _ _,h,_=>by rw[oS]at h;cases h
  | .mref b,h,hf=>by
    rw[oS]at h;rw[dY]
    split at h
    · rename_i kk ks vs hx
      exact fI.map (hf b (by simp[Aa])) hx (aV (ag.mp h).1)
    · cases h
  | .mp _ _ _,_,_=>by rw[dY];exact fI.pure trivial
theorem lG{hp:Hp}{foot:List Nat}:∀{xs:List AV},c9 (Ek hp xs)=true→(∀b∈xd xs,b∈foot)→jL foot hp xs (jh hp xs)
  | [],_,_=>by rw[jh];trivial
  | x::xs,h,hf=>by
    rw[Ek]at h;rw[jh];obtain⟨h1,h2⟩:=nU h;exact⟨Gl h1 λb hb=>hf b (by simp[xd,hb]),lG h2 λb hb=>hf b (by simp[xd,hb])⟩
end
mutual
theorem yR{hp:Hp}:∀{x:AV},x.pureB=true→dY hp x=x
  | .agg cs,h=>by rw[dY,iF (xs:=cs) h]
  | .func f cs,h=>by rw[dY,iF (xs:=cs) h]
  | .val v,_=>by rw[dY]
  | .sl _ _ _,_=>by rw[dY]
  | .rptr _ _,_=>by rw[dY]
  | .unk,_=>by rw[dY]
  | .tup _,h=>by rw[dY]
  | .ref _ _,h=>by cases h
  | .vec _,h=>by cases h
  | .eref _ _ _,h=>by cases h
  | .vsub _ _ _,h=>by cases h
  | .asub _ _ _ _,h=>by cases h
  | .mref _,h=>by cases h
  | .mp _ _ _,_=>by rw[dY]
theorem iF{hp:Hp}:∀{xs:List AV},bM xs=true→jh hp xs=xs
  | [],_=>by rw[jh]
  | x::xs,h=>by
    obtain⟨h1,h2⟩:=ag.mp h;rw[jh,yR h1,iF h2]
end
theorem wc{n:Nat}{x:Blk}(h:cF n x=true)(π:Nat→Nat):jt π x=x.ren π:=by
 cases x with
 | box x=>rfl
 | vec k es=>rw[Blk.ren,bf _ (aV h)];rfl
 | row k es l c=>rw[Blk.ren,bf _ (aV h)];rfl
 | map kk ks vs=>rw[Blk.ren,bf _ (aV h)];rfl
 | mst _ _ _ _ _=>cases h
 | itr _ _ _ _=>cases h
theorem we{n:Nat}{x:Blk}(h:cF n x=true):x.bel n:=by
 cases x with
 | box x=>exact AV.belB_ok h
 | vec k es=>exact bm (aV h)
 | row k es l c=>exact bm (aV h)
 | map kk ks vs=>exact bm (aV h)
 | mst _ _ _ _ _=>cases h
 | itr _ _ _ _=>cases h
def handP(bs:List Nat)(f:Nat)(h':List (Option Blk)):Eff:=fH (h'.zipIdx.map λp=>(bj bs f p.2,p.1.map (jt (bj bs f))))
def Dt(bs:List Nat)(f:Nat)(h':List (Option Blk)):List Nat:=(List.range h'.length).map (bj bs f)
def zL:List Nat→Bool
 | []=>true
 | b::r=>cond (r.all λc=>!Nat.beq b c) (zL r) false
theorem sd:∀{l:List Nat},zL l=true→l.Nodup
 | [],_=>List.nodup_nil
 | b::r,h=>by
  obtain⟨h1,h2⟩:=ag.mp h;refine bq'.mpr ⟨λhb=>?_,sd h2⟩;have:=ba'.mp h1 b hb;simp at this
theorem ql{l:List (Option Blk×Nat)}{bs:List Nat}{f:Nat}(h:∀p∈l,p.1.map (Blk.ren (bj bs f))=p.1.map (jt (bj bs f))) :
  fH (l.map λp=>(bj bs f p.2,p.1.map (Blk.ren (bj bs f))))=fH (l.map λp=>(bj bs f p.2,p.1.map (jt (bj bs f)))):=by
 have:(l.map λp=>(bj bs f p.2,p.1.map (Blk.ren (bj bs f))))=l.map λp=>(bj bs f p.2,p.1.map (jt (bj bs f))):=aE' λp hp=>by rw[h p hp]
 rw[this]
theorem JQ{n:Nat}{bs:List Nat}{f:Nat}{h':List (Option Blk)}(h:∀x,some x∈h'→cF n x=true):cC bs f h'=handP bs f h':=by
 refine ql λp hp=>?_;cases e:p.1 with
 | none=>rfl
 | some x =>
  have hx:some x∈h':=by
   rw[←e];exact List.fst_mem_of_mem_zipIdx hp
  show some (x.ren _)=some (jt _ x);rw[wc (h x hx)]
theorem Kx{l:List (Nat×Option Blk)}{b:Nat}(h:fH l b≠none):b∈l.map (·.1):=by
 induction l with
 | nil=>exact absurd rfl h
 | cons p l ih =>
  obtain⟨c,x⟩:=p
  by_cases e:b=c
  ·subst e;simp
  ·have:fH ((c,x)::l) b=fH l b:=by show(if b=c then _ else _)=_;rw[u' e]
   rw[this]at h;simp only[au',P'];exact .inr (ih h)
theorem Fe{bs:List Nat}{f:Nat}{h':List (Option Blk)}{b:Nat}(h:handP bs f h' b≠none):b∈Dt bs f h':=by
 have:=Kx h;rw[aV']at this;obtain⟨p,hp,rfl⟩:=R'.mp this;refine R'.mpr ⟨p.2,aZ'.mpr ?_,rfl⟩;have:=List.snd_lt_of_mem_zipIdx hp;simpa using this
theorem bg.handP{P:Program}{n:Nat}{fid:FuncId}{args:List AV}{f:Nat}{hp:Hp}{r:AV}{h:List Blk}{h':List (Option Blk)}(hf:mI P fid)(hs:bc P fid args h r h')(bs:List Nat)
  (g:qT args h r h') (hl:bs.length=h.length) (hnd:bs.Nodup) (hb:bs.map hp=h.map λx=>some (jt (bj bs f) x)) :
  bg P n fid (dm (bj bs f) args) f hp bs (r.ren (bj bs f)) (Am.handP bs f h'):=by
 rw[←JQ g.h'];refine bg.hand hf hs bs hl hnd g.args (λi b x e1 e2=>?_) g.le g.le' g.r λx hx=>we (g.h' x hx);have hx:x∈h:=al' e2;refine⟨we (g.hp x hx),?_⟩;rw[←wc (g.hp x hx)];have:(bs.map hp)[i]?=(h.map λx=>some (jt (bj bs f) x))[i]?:=by rw[hb]
 rw[S',S',e1,e2]at this;simpa using this
theorem bg.subargs{P:Program}{n:Nat}{fid:FuncId}{args args':List AV}{f:Nat}{hp:Hp}{foot:List Nat}{v:AV}{e:Eff}(h:gF args args')(hc:bg P n fid args' f hp foot v e):bg P n fid args f hp foot v e:=
 ⟨hc.1,λc A μ fr tm' hp' a w cargs H h1 h2 h3=>hc.2 c A μ fr tm' hp' a w cargs H h1 h2 (h.rvl h3)⟩
end Go.Am
namespace Go.Am
theorem au{b:Bool}{R:Prop}(h:cond b R False):b=true∧R:=by
 cases b with
 | true=>exact⟨rfl,h⟩
 | false=>exact h.elim
section
variable {P : Program} {Sf : Nat → Type} {T : Type}
abbrev KO(P:Program)(Sf:Nat→Type)(T:Type):=An P Sf T→S2→List Nat×List Nat→Prop
def Lr(fid:FuncId)(args:List AV)(dst:Option Nat)(f:Nat)(s:S2)(a:An P Sf T)(K:KO P Sf T):Prop:=
 match a with
 | .callP c a'=>cond (Nat.beq fid c.f) (qf c.sh (jh s.hp args)=c.args∧cond (bM args) (K a' ⟨aO dst c.r s.tm,s.hp⟩ ([],[]))
   (cond c.r.flatB (cond (c9 (Ek s.hp args)) (K a' ⟨aO dst c.r s.tm,s.hp⟩ (xd args,[])) False) False)) False
 | .callA c _ a'=>cond (Nat.beq fid c.f) (qf c.sh args=c.args∧K a' ⟨aO dst c.r s.tm,s.hp⟩ ([],[])) False
 | .callH bs c a'=>cond (Nat.beq fid c.f) (cond (Nat.beq bs.length c.h.length) (cond (zL bs) (qf c.sh args=dm (bj bs f) c.args∧(bs.map s.hp=c.h.map λx=>some (jt (bj bs f) x)) ∧
   K a' ⟨aO dst (c.r.ren (bj bs f)) s.tm,cu (handP bs f c.h') s.hp⟩ (bs,Dt bs f c.h')) False) False) False
 | _=>False
def HZ(o:aN)(f:Nat)(s:S2)(a:An P Sf T)(K:KO P Sf T):Prop:=
 cond (okB o.op (evO s.tm) s.hp) (K a ⟨aO o.dst (evA o.op f (evO s.tm) s.hp).v s.tm,bQ (evA o.op f (evO s.tm) s.hp) s.hp⟩ (rdH o.op s.tm,wrH (evA o.op f (evO s.tm) s.hp))) False
def gz(o:aN)(f:Nat)(s:S2)(a:An P Sf T)(K:KO P Sf T):Prop:=
 match o.op with
 | .call g xs=>match evO s.tm g with
  | .func fid caps=>Lr fid (xs.map (evO s.tm)++caps) o.dst f s a K
  | _=>False
 | .lit k n z ps=>cond (O9 k n (ps.map λ(i,x)=>(i,evO s.tm x))) (cond (Je (ps.map λ(i,x)=>(i,evO s.tm x)))
   (K a ⟨aO o.dst (.sl k (ri (List.replicate n z) (ps.map λ(i,x)=>(i,evO s.tm x))) true) s.tm,s.hp⟩ (rdH o.op s.tm,[])) False) False
 | .isNil ptr ne x=>cond ptr (match EF (evO s.tm x)with
  | some t=>K a ⟨aO o.dst (.bool (t != ne)) s.tm,s.hp⟩ (rdH o.op s.tm,[])
  | none=>False) False
 | _=>HZ o f s a K
def elR(o:aN)(f:Nat)(s:S2){α:Type}(v:α→AV)(l:List α)(k:α→An P Sf T)(K:KO P Sf T):Prop:=
 match o.op with
 | .iaddr kk x i=>match evO s.tm i with
  | .val (.int _ i)=>match evO s.tm x with
   | .sl k' es _=>es=l.map v∧cond (Nat.beq k' kk) (cond (decide (0≤i)) (cond (decide (i<(l.length:Int))) (∀x,l[i.toNat]?=some x→K (k x) ⟨aO o.dst (.rptr (v x) 0) s.tm,s.hp⟩ (rdH o.op s.tm,[])) False) False) False
   | _=>False
  | _=>False
 | .load agg size x=>match evO s.tm x with
  | .eref b i off=>match s.hp b with
   | some (.vec _ es)=>es=l.map v∧cond (decide (i<l.length)) (∀x,l[i]?=some x→cond (vS (v x) off size agg) (K (k x) ⟨aO o.dst (fo (v x) off size agg) s.tm,s.hp⟩ (rdH o.op s.tm,[])) False) False
   | _=>False
  | .ref b off=>match s.hp b with
   | some (.box (.agg cs))=>cs=l.map v∧cond (cond agg false (Nat.beq size 1)) (cond (decide (off<l.length)) (∀x,l[off]?=some x→K (k x) ⟨aO o.dst (v x) s.tm,s.hp⟩ (rdH o.op s.tm,[])) False) False
   | _=>False
  | .rptr (.agg cs) off=>cs=l.map v∧cond (cond agg false (Nat.beq size 1)) (cond (decide (off<l.length)) (∀x,l[off]?=some x→K (k x) ⟨aO o.dst (v x) s.tm,s.hp⟩ (rdH o.op s.tm,[])) False) False
  | _=>False
 | .indexA n kk agg x i=>match evO s.tm i with
  | .val (.int _ i)=>match evO s.tm x with
   | .agg cs=>cs=l.map v∧cond (cond agg false (Nat.beq kk 1)) (cond (decide (0≤i)) (cond (decide (i<n)) (cond (decide (i.toNat<l.length)) (∀x,l[i.toNat]?=some x→K (k x) ⟨aO o.dst (v x) s.tm,s.hp⟩ (rdH o.op s.tm,[])) False) False) False) False
   | _=>False
  | _=>False
 | _=>False
def SO(o:aN)(f:Nat)(s:S2){α:Type}(v:α→List AV)(l:List α)(i n:Nat)(k:α→An P Sf T)(K:KO P Sf T):Prop:=
 match o.op with
 | .load agg size x=>match evO s.tm x with
  | .ref b off=>match s.hp b with
   | some (.box (.agg cs))=>cs=l.flatMap v∧off=i * n∧cond agg (cond (Nat.beq size n) (cond (decide (i<l.length)) (∀x,l[i]?=some x→K (k x) ⟨aO o.dst (.agg (v x)) s.tm,s.hp⟩ (rdH o.op s.tm,[])) False) False) False
   | _=>False
  | _=>False
 | _=>False
def stR(o:aN)(f:Nat)(s:S2){α:Type}(v:α→AV)(l:List α)(g:α→α)(k:α→An P Sf T)(K:KO P Sf T):Prop:=
 match o.op with
 | .store size a x=>match evO s.tm a with
  | .eref b i off=>match s.hp b with
   | some (.vec kk es)=>es=l.map v∧cond (decide (i<l.length)) (∀y,l[i]?=some y→cond (Nc (v y) off size (evO s.tm x)) (dL (v y) off (evO s.tm x)=v (g y) ∧
     K (k y) ⟨aO o.dst .unk s.tm,upd (upd s.hp b none) b (some (.vec kk ((l.set i (g y)).map v)))⟩ (rdH o.op s.tm,[b,b])) False) False
   | _=>False
  | .ref b off=>match s.hp b with
   | some (.box (.agg cs))=>cs=l.map v∧cond (Nat.beq size 1) (cond (evO s.tm x).solid (cond (evO s.tm x).isAgg False (cond (decide (off<l.length)) (∀y,l[off]?=some y→evO s.tm x=v (g y) ∧
     K (k y) ⟨aO o.dst .unk s.tm,upd (upd s.hp b none) b (some (.box (.agg ((l.set off (g y)).map v))))⟩ (rdH o.op s.tm,[b,b])) False)) False) False
   | _=>False
  | _=>False
 | _=>False
def Rr(o:aN)(f:Nat)(s:S2){α:Type}(v:α→AV)(l:List α)(k:α→An P Sf T)(K:KO P Sf T):Prop:=
 match o.op with
 | .store size a x=>match evO s.tm a with
  | .eref b i off=>match s.hp b with
   | some (.vec kk es)=>es=l.map v∧cond (decide (i<l.length)) (∀y,l[i]?=some y→cond (Nc (v y) off size (evO s.tm x))
     (K (k y) ⟨aO o.dst .unk s.tm,upd (upd s.hp b none) b (some (.vec kk ((l.map v).set i (dL (v y) off (evO s.tm x)))))⟩ (rdH o.op s.tm,[b,b])) False) False
   | _=>False
  | _=>False
 | _=>False
def MJ(hp:Hp)(k:Nat)(x:AV)(K:List AV→Prop):Prop:=match x with
 | .vsub b lo n=>match hp b with
  | some (.vec k' es)=>cond (Nat.beq k' k) (cond (decide (lo+n≤es.length)) (K ((es.drop lo).take n)) False) False
  | _=>False
 | x=>match kK hp k x with
  | some ys=>K ys
  | none=>False
theorem BQ{hp:Hp}{k:Nat}{x:AV}{K:List AV→Prop}(h:MJ hp k x K):∃ys,kK hp k x=some ys∧K ys:=by
 unfold MJ at h
 split at h
 ·rename_i b lo n
  split at h
  ·rename_i k' es e;obtain⟨h1,q⟩:=au h;obtain⟨h2,q'⟩:=au q;refine⟨_,?_,q'⟩;simp only[kK,e];rw[if_pos ⟨M' h1,H' h2⟩]
  ·exact h.elim
 ·split at h
  ·rename_i ys e;exact⟨ys,e,h⟩
  ·exact h.elim
def Tz(o:aN)(f:Nat)(s:S2){α:Type}(v:α→AV)(l xs:List α)(a:An P Sf T)(K:KO P Sf T):Prop:=
 match o.op with
 | .append kk bytes sx x=>MJ s.hp kk (evO s.tm x) λys=>match evO s.tm sx with
   | .sl _ es full=>es=l.map v∧ys=xs.map v∧cond (cond full (cond (Nat.ble bytes 134217728) es.isEmpty false) false) (cond (decide (l.length+xs.length≤1048576))
     (K a ⟨aO o.dst (.vec f) s.tm,upd s.hp f (some (.vec kk ((l++xs).map v)))⟩ (rdH o.op s.tm,[f])) False) False
   | .vec b=>match s.hp b with
    | some (.vec k' es)=>es=l.map v∧ys=xs.map v∧cond (cond (Nat.beq k' kk) (Nat.ble bytes 134217728) false) (cond (decide (l.length+xs.length≤1048576))
      (K a ⟨aO o.dst (.vec f) s.tm,upd (upd s.hp b none) f (some (.vec kk ((l++xs).map v)))⟩ (rdH o.op s.tm,[b,f])) False) False
    | _=>False
   | _=>False
 | _=>False
def LK(o:aN)(f:Nat)(s:S2){α:Type}(v:α→AV)(l xs:List α)(a:An P Sf T)(K:KO P Sf T):Prop:=
 match o.op with
 | .append kk bytes sx x=>MJ s.hp kk (evO s.tm x) λys=>match evO s.tm sx with
   | .sl k' es full=>es=l.map v∧ys=xs.map v∧cond (cond full (cond (Nat.ble bytes 134217728) (Nat.beq k' kk) false) false) (cond (decide (0<xs.length)) (cond (decide (l.length+xs.length≤1048576))
     (K a ⟨aO o.dst (.vec f) s.tm,upd s.hp f (some (.vec kk ((l++xs).map v)))⟩ (rdH o.op s.tm,[f])) False) False) False
   | _=>False
 | _=>False
def MA(o:aN)(f:Nat)(s:S2){α:Type}(v:α→AV)(l:List α)(fl:Bool)(a:An P Sf T)(K:KO P Sf T):Prop:=
 match o.op with
 | .slice kk x lo hi mx=>match evO s.tm x with
  | .sl k' es full=>es=l.map v∧cond (Nat.beq k' kk) (match ku (evO s.tm) lo,ku (evO s.tm) hi,ku (evO s.tm) mx with
   | some lo,some hi,some mx=>cond (cond mx.isSome hi.isSome true) (cond (cj l.length (lo.getD 0) (hi.getD l.length) (mx.getD l.length))
     (cond fl (cond (mx.isSome || full) (cond (decide (hi.getD l.length=mx.getD l.length))
       (K a ⟨aO o.dst (.sl kk (((l.take (hi.getD l.length).toNat).drop (lo.getD 0).toNat).map v) true) s.tm,s.hp⟩ (rdH o.op s.tm,[])) False) False)
      (K a ⟨aO o.dst (.sl kk (((l.take (hi.getD l.length).toNat).drop (lo.getD 0).toNat).map v) (cond (mx.isSome || full) (decide (hi.getD l.length=mx.getD l.length)) false)) s.tm,s.hp⟩ (rdH o.op s.tm,[]))) False) False
   | _,_,_=>False) False
  | .vec b=>match s.hp b with
   | some (.vec k' es)=>es=l.map v∧cond (Nat.beq k' kk) (cond (decide (0<l.length)) (match ku (evO s.tm) lo,ku (evO s.tm) hi,mx with
    | some lo,some hi,none=>cond (cj l.length (lo.getD 0) (hi.getD l.length) l.length)
      (K a ⟨aO o.dst (.vsub b (lo.getD 0).toNat (hi.getD l.length-lo.getD 0).toNat) s.tm,s.hp⟩ (rdH o.op s.tm,[])) False
    | some none,some (some h),some mx=>match evO s.tm mx with
     | .val (.int _ m)=>cond (decide (h=m)) (cond (cj l.length 0 h h)
       (K a ⟨aO o.dst (.vec f) s.tm,upd (upd s.hp b none) f (some (.vec kk ((l.take h.toNat).map v)))⟩ (rdH o.op s.tm,[b,f])) False) False
     | _=>False
    | _,_,_=>False) False) False
   | _=>False
  | _=>False
 | .load agg size x=>match evO s.tm x with
  | .ref b off=>match s.hp b with
   | some (.box (.agg cs))=>cs=l.map v∧cond agg (cond (Nat.beq off 0) (cond (decide (l.length=size)) (K a ⟨aO o.dst (.agg (l.map v)) s.tm,s.hp⟩ (rdH o.op s.tm,[])) False) False) False
   | _=>False
  | _=>False
 | _=>False
def SbB(es:List AV)(x:AV):Prop:=∃bs,cG es=some bs∧AV.str ⟨bs.toArray⟩=x
def NL(o:aN)(f:Nat)(s:S2){α:Type}(v:α→AV)(x:α)(a:An P Sf T)(K:KO P Sf T):Prop:=
 match o.op with
 | .mks kk bytes z l c=>match evO s.tm l with
  | .val (.int .i64 n)=>z=v x∧cond (okB (.mks kk bytes z l c) (evO s.tm) s.hp) (K a ⟨aO o.dst (.vec f) s.tm,upd s.hp f (some (.vec kk ((List.replicate n.toNat x).map v)))⟩ (rdH o.op s.tm,[f])) False
  | _=>False
 | .convBS y=>match evO s.tm y with
  | .sl kk es _=>SbB es (v x)∧cond (Nat.beq kk 1) (K a ⟨aO o.dst (v x) s.tm,s.hp⟩ (rdH o.op s.tm,[])) False
  | .vec b=>match s.hp b with
   | some (.vec kk es)=>SbB es (v x)∧cond (Nat.beq kk 1) (K a ⟨aO o.dst (v x) s.tm,s.hp⟩ (rdH o.op s.tm,[])) False
   | _=>False
  | _=>False
 | _=>False
def ownR(o:aN)(f:Nat)(s:S2)(a:An P Sf T)(K:KO P Sf T):Prop:=
 match o.op with
 | .lit k n z ps=>cond (O9 k n (ps.map λ(i,x)=>(i,evO s.tm x)))
   (K a ⟨aO o.dst (.vec f) s.tm,upd s.hp f (some (.vec k (ri (List.replicate n z) (ps.map λ(i,x)=>(i,evO s.tm x)))))⟩ ([],[f])) False
 | _=>False
def mnR(o:aN)(f:Nat)(s:S2)(q:MN)(a:An P Sf T)(K:KO P Sf T):Prop:=
 match q with
 | .get de kf _ vf l x z=>match o.op with
  | .mget kk zz ok m k=>match rh s.hp (evO s.tm m),(evO s.tm k).key with
   | some (kk',ks,vs),some q=>ks=l.map (λp=>kf p.1)∧vs=l.map (λp=>vf p.2)∧q=kf x∧zz=vf z∧cond (kkB kk' kk) (cond (Fi kk (kf x))
     (K a ⟨aO o.dst (cond ok (.tup [vf (re l x z),.bool (zN l x)]) (vf (re l x z))) s.tm,s.hp⟩ (rdH o.op s.tm,[])) False) False
   | _,_=>False
  | _=>False
 | .put de kf _ vf l x v=>match o.op with
  | .mset kk m k y=>match evO s.tm m with
   | .mref b=>match s.hp b,(evO s.tm k).key with
    | some (.map kk' ks vs),some q=>ks=l.map (λp=>kf p.1)∧vs=l.map (λp=>vf p.2)∧q=kf x∧evO s.tm y=vf v∧cond (kkB kk' kk) (cond (Fi kk (kf x)) (cond (vf v).solid
      (K a ⟨aO o.dst .unk s.tm,upd (upd s.hp b none) b (some (.map kk ((IA l x v).map λp=>kf p.1) ((IA l x v).map λp=>vf p.2)))⟩ (rdH o.op s.tm,[b,b])) False) False) False
    | _,_=>False
   | _=>False
  | _=>False
 | .del de kf _ vf l x=>match o.op with
  | .mdel kk m k=>match evO s.tm m with
   | .mref b=>match s.hp b,(evO s.tm k).key with
    | some (.map kk' ks vs),some q=>ks=l.map (λp=>kf p.1)∧vs=l.map (λp=>vf p.2)∧q=kf x∧cond (kkB kk' kk) (cond (Fi kk (kf x))
      (K a ⟨aO o.dst (.tup []) s.tm,upd (upd s.hp b none) b (some (.map kk ((mdl l x).map λp=>kf p.1) ((mdl l x).map λp=>vf p.2)))⟩ (rdH o.op s.tm,[b,b])) False) False
    | _,_=>False
   | _=>False
  | _=>False
 | .getB hs de kf _ vf l x z=>match o.op with
  | .mget kk zz ok m k=>match rh s.hp (evO s.tm m),(evO s.tm k).key with
   | some (kk',ks,vs),some q=>ks=l.map (λp=>kf p.1)∧vs=l.map (λp=>vf p.2)∧q=kf x∧cond (kkB kk' kk) (cond (Fi kk (kf x)) (cond (zN l x)
     (K (cond hs a (a.l f)) ⟨aO o.dst (cond ok (.tup [vf (re l x z),.bool true]) (vf (re l x z))) s.tm,s.hp⟩ (rdH o.op s.tm,[]))
     (cond hs False (K (a.r f) ⟨aO o.dst (cond ok (.tup [zz,.bool false]) zz) s.tm,s.hp⟩ (rdH o.op s.tm,[])))) False) False
   | _,_=>False
  | _=>False
def opR(o:aN)(f:Nat)(s:S2):An P Sf T→KO P Sf T→Prop
 | .el g v l k,K=>cond (Nat.beq g f) (elR o f s v l k K) (gz o f s (.el g v l k) K)
 | .elA g v l i n hv k,K=>cond (Nat.beq g f) (SO o f s v l i n k K) (gz o f s (.elA g v l i n hv k) K)
 | .st g v l x k,K=>cond (Nat.beq g f) (stR o f s v l x k K) (gz o f s (.st g v l x k) K)
 | .stI g v l k,K=>cond (Nat.beq g f) (Rr o f s v l k K) (gz o f s (.stI g v l k) K)
 | .app g v l xs a',K=>cond (Nat.beq g f) (Tz o f s v l xs a' K) (gz o f s (.app g v l xs a') K)
 | .appF g v l xs a',K=>cond (Nat.beq g f) (LK o f s v l xs a' K) (gz o f s (.appF g v l xs a') K)
 | .sub g v l fl a',K=>cond (Nat.beq g f) (MA o f s v l fl a' K) (gz o f s (.sub g v l fl a') K)
 | .rep g v x a',K=>cond (Nat.beq g f) (NL o f s v x a' K) (gz o f s (.rep g v x a') K)
 | .own g a',K=>cond (Nat.beq g f) (ownR o f s a' K) (gz o f s (.own g a') K)
 | .mn g q a',K=>cond (Nat.beq g f) (mnR o f s q a' K) (gz o f s (.mn g q a') K)
 | .req g p k,K=>cond (Nat.beq g f) (∃h:p,opR o f s (k h) K) (gz o f s (.req g p k) K)
 | a,K=>gz o f s a K
def ky(P:Program)(n:Nat)(o:aN)(f:Nat)(s s':S2)(l:List Nat×List Nat):Prop:=
 (∀K:S2→Prop,K s'→exT P n o f s K)∧(∀K:S2→List Nat×List Nat→Prop,K s' l→exD P n o f s K)
def tT:AOp→Bool
 | .call _ _=>false
 | .lit _ _ _ _=>false
 | .isNil _ _ _=>false
 | .rng _=>false
 | .nxt _=>false
 | .ent _=>false
 | _=>true
theorem pV{n:Nat}{o:aN}{f:Nat}{s:S2}(hp:tT o.op=true)(hc:(evA o.op f (evO s.tm) s.hp).c) :
  ky P n o f s ⟨aO o.dst (evA o.op f (evO s.tm) s.hp).v s.tm,bQ (evA o.op f (evO s.tm) s.hp) s.hp⟩ (rdH o.op s.tm,wrH (evA o.op f (evO s.tm) s.hp)):=by
 obtain⟨d,op,g⟩:=o;refine⟨λK h=>?_,λK h=>?_⟩<;>cases op<;>first|exact⟨hc,h⟩|cases hp
theorem bF{n:Nat}{o:aN}{f:Nat}{s:S2}(hp:tT o.op=true){c:Prop}{v:AV}{rm:Option Nat}{ad:Option (Nat×Blk)}(he:evA o.op f (evO s.tm) s.hp={ c:=c,v:=v,rm:=rm,ad:=ad })(hc:c) :
    ky P n o f s ⟨aO o.dst v s.tm,bQ { c:=True,rm:=rm,ad:=ad } s.hp⟩ (rdH o.op s.tm,rm.toList++ad.toList.map (·.1)):=by
  have:=pV (P:=P) (n:=n) (o:=o) (f:=f) (s:=s) hp (by rw[he];exact hc);rw[he]at this;exact this
theorem Lq{n:Nat}{g:AO}{xs:List AO}{dst:Option Nat}{gd:Option (Nat×Bool)}{f:Nat}{s:S2}{a:An P Sf T}{K:KO P Sf T}{fid:FuncId}{caps:List AV}(hg:evO s.tm g=.func fid caps)
  (h:Lr fid (xs.map (evO s.tm)++caps) dst f s a K):∃a' s' l,K a' s' l∧ky P n ⟨dst,.call g xs,gd⟩ f s s' l:=by
 unfold Lr at h
 split at h
 ·rename_i c a';obtain⟨b1,q⟩:=au h;clear h;have b1:=M' b1;subst b1;obtain⟨h2,h⟩:=q;cases hp:bM (xs.map (evO s.tm)++caps)with
  | true =>
   rw[hp]at h;rw[iF hp]at h2;have hs:gF (xs.map (evO s.tm)++caps) c.args:=h2 ▸ fv _ _;have hc:bg P n c.f (xs.map (evO s.tm)++caps) f s.hp [] c.r cY:=bg.pure c.fn (c.ok.sub hs Sub.refl) (aV hp);exact⟨_,_,_,h,λK hK=>⟨c.f,caps,[],c.r,cY,hg,.inl hc,hK⟩,λK hK=>⟨c.f,caps,[],c.r,cY,[],hg,.inl hc,λb hb=>absurd rfl hb,hK⟩⟩
  | false =>
   rw[hp]at h;obtain⟨h3,h⟩:=au h;obtain⟨h4,h⟩:=au h;have hs:gF (jh s.hp (xs.map (evO s.tm)++caps)) c.args:=h2 ▸ fv _ _;have hc:bg P n c.f (xs.map (evO s.tm)++caps) f s.hp (xd (xs.map (evO s.tm)++caps)) c.r cY:=bg.lend c.fn (c.ok.sub hs Sub.refl) (lG h4 λb hb=>hb) (AV.flatB_ok h3);exact⟨_,_,_,h,λK hK=>⟨c.f,caps,_,c.r,cY,hg,.inl hc,hK⟩,λK hK=>⟨c.f,caps,_,c.r,cY,[],hg,.inl hc,λb hb=>absurd rfl hb,hK⟩⟩
 ·rename_i c hp a';obtain⟨b1,q⟩:=au h;clear h;have b1:=M' b1;subst b1;obtain⟨h2,h⟩:=q;have hc:bg P n c.f (xs.map (evO s.tm)++caps) f s.hp [] c.r cY:=bg.subargs (h2 ▸ fv _ _) (bg.pure c.fn c.ok hp);exact⟨_,_,_,h,λK hK=>⟨c.f,caps,[],c.r,cY,hg,.inl hc,hK⟩,λK hK=>⟨c.f,caps,[],c.r,cY,[],hg,.inl hc,λb hb=>absurd rfl hb,hK⟩⟩
 ·rename_i bs c a';obtain⟨b1,q⟩:=au h;clear h;have b1:=M' b1;subst b1;obtain⟨h2,q⟩:=au q;obtain⟨h3,h4,h5,h⟩:=au q;have hs:gF (xs.map (evO s.tm)++caps) (dm (bj bs f) c.args):=h4 ▸ fv _ _;have hc:=bg.subargs hs (bg.handP (n:=n) c.fn c.ok bs c.good (M' h2) (sd h3) h5);exact⟨_,_,_,h,λK hK=>⟨c.f,caps,_,_,_,hg,.inl hc,hK⟩,λK hK=>⟨c.f,caps,_,_,_,_,hg,.inl hc,λb hb=>Fe hb,hK⟩⟩
 ·exact h.elim
theorem db{n:Nat}{o:aN}{f:Nat}{s:S2}{a:An P Sf T}{K:KO P Sf T}(h:gz o f s a K):∃a' s' l,K a' s' l∧ky P n o f s s' l:=by
  have plain:tT o.op=true→HZ o f s a K→∃a' s' l,K a' s' l∧ky P n o f s s' l:=λhp h=>by
    obtain⟨h1,h⟩:=au h;exact⟨_,_,_,h,pV hp (sc h1)⟩
  obtain⟨d,op,g⟩:=o;cases op
  case call gg xs =>
    simp only[gz]at h
    split at h
    · rename_i fid caps e;exact Lq e h
    · exact h.elim
  case lit k N z ps =>
    obtain⟨h1,h⟩:=au h;obtain⟨h2,h⟩:=au h;exact⟨_,_,_,h,λK hK=>.inl ⟨⟨mh h1,pJ h2⟩,hK⟩,λK hK=>.inl ⟨⟨mh h1,pJ h2⟩,hK⟩⟩
  case isNil ptr ne x =>
    simp only[gz]at h;cases ptr with
    | false=>exact h.elim
    | true =>
      cases hv:EF (evO s.tm x)with
      | none=>simp only[hv,cond_true]at h
      | some t =>
        simp only[hv,cond_true]at h;obtain⟨k1,k2⟩:=CF (hp:=s.hp) hv;have he:evA (.isNil true ne x) f (evO s.tm) s.hp={ c:=True,v:=.bool (t != ne) }:=by simp only[evA,hv]
        refine⟨_,_,_,h,λK hK=>⟨k1,λt' q=>?_⟩,λK hK=>?_⟩
        · rw[k2 t' q];exact hK
        · show(evA (.isNil true ne x) f (evO s.tm) s.hp).c∧K ⟨aO d (evA (.isNil true ne x) f (evO s.tm) s.hp).v s.tm,bQ (evA (.isNil true ne x) f (evO s.tm) s.hp) s.hp⟩ (rdH (.isNil true ne x) s.tm,wrH (evA (.isNil true ne x) f (evO s.tm) s.hp))
          rw[he];exact⟨trivial,hK⟩
  case rng x=>exact(id h:False).elim
  case nxt x=>exact(id h:False).elim
  case ent x=>exact(id h:False).elim
  all_goals exact plain rfl h
theorem iN{α:Type}{l:List α}{v:α→AV}{i:Nat}{x:α}(h:l[i]?=some x):(l.map v).getD i .unk=v x:=by
 rw[J',S',h];rfl
theorem pz{cs:List AV}{off:Nat}:fo (.agg cs) off 1 false=cs.getD off .unk:=by
 unfold fo;rw[u' (by simp[AV.isAgg])];rfl
theorem SN{n:Nat}{o:aN}{f:Nat}{s:S2}{α:Type}{v:α→AV}{l:List α}{k:α→An P Sf T}{K:KO P Sf T}(h:elR o f s v l k K):∃a' s' l',K a' s' l'∧ky P n o f s s' l':=by
 obtain⟨d,op,g⟩:=o;cases op
 case iaddr kk x i =>
  simp only[elR]at h
  split at h
  ·rename_i ki i' e1
   split at h
   ·rename_i k' es full e2;obtain⟨rfl,h⟩:=h;obtain⟨h1,h⟩:=au h;obtain⟨h2,h⟩:=au h;obtain⟨h3,h⟩:=au h;have h2:=H' h2;have h3:=H' h3;have hi:i'.toNat<l.length:=by omega
    have hx:l[i'.toNat]?=some l[i'.toNat]:=E' hi;refine⟨_,_,_,h _ hx,bF rfl (rm:=none) (ad:=none) (c:=k'=kk∧0≤i'∧i'<((l.map v).length:Int)) ?_ ⟨M' h1,h2,by rw[f'];exact h3⟩⟩;simp only[evA,e1,e2,iN hx]
   ·exact h.elim
  ·exact h.elim
 case load agg size x =>
  simp only[elR]at h
  split at h
  ·rename_i b i off e1
   split at h
   ·rename_i kk es e2;obtain⟨rfl,h⟩:=h;obtain⟨h1,h⟩:=au h;have h1:=H' h1;have hx:l[i]?=some l[i]:=E' h1;obtain⟨h2,h⟩:=au (h _ hx);refine⟨_,_,_,h,bF rfl (rm:=none) (ad:=none) (c:=i<(l.map v).length∧dp (v l[i]) off size agg) ?_ ⟨by rw[f'];exact h1,lZ h2⟩⟩;simp only[evA,e1,e2,iN hx]
   ·exact h.elim
  ·rename_i b off e1
   split at h
   ·rename_i cs e2;obtain⟨rfl,h⟩:=h;obtain⟨h0,h⟩:=au h;obtain⟨h1,h⟩:=au h;have h1:=H' h1;have hx:l[off]?=some l[off]:=E' h1;cases agg with
    | true=>cases h0
    | false =>
     have h0:size=1:=M' h0;subst h0;refine⟨_,_,_,h _ hx,bF rfl (rm:=none) (ad:=none) (c:=dp (.agg (l.map v)) off 1 false) ?_ ⟨rfl,by simp only[AV.cells,f'];omega,λ_=>rfl⟩⟩;simp only[evA,e1,e2,pz,iN hx]
   ·exact h.elim
  ·rename_i cs off e1;obtain⟨rfl,h⟩:=h;obtain⟨h0,h⟩:=au h;obtain⟨h1,h⟩:=au h;have h1:=H' h1;have hx:l[off]?=some l[off]:=E' h1;cases agg with
   | true=>cases h0
   | false =>
    have h0:size=1:=M' h0;subst h0;refine⟨_,_,_,h _ hx,bF rfl (rm:=none) (ad:=none) (c:=dp (.agg (l.map v)) off 1 false) ?_ ⟨rfl,by simp only[AV.cells,f'];omega,λ_=>rfl⟩⟩;simp only[evA,e1,pz,iN hx]
  ·exact h.elim
 case indexA N kk agg x i =>
  simp only[elR]at h
  split at h
  ·rename_i ki i' e1
   split at h
   ·rename_i cs e2;obtain⟨rfl,h⟩:=h;obtain⟨h0,h⟩:=au h;obtain⟨h1,h⟩:=au h;obtain⟨h2,h⟩:=au h;obtain⟨h3,h⟩:=au h;have h3:=H' h3;have hx:l[i'.toNat]?=some l[i'.toNat]:=E' h3;cases agg with
    | true=>cases h0
    | false =>
     have h0:kk=1:=M' h0;subst h0
     refine⟨_,_,_,h _ hx,bF rfl (rm:=none) (ad:=none) (c:=(AV.agg (l.map v)).isAgg=true∧0≤i'∧i'<N∧dp (.agg (l.map v)) (i'.toNat * 1) 1 false) ?_
      ⟨rfl,H' h1,H' h2,rfl,by simp only[AV.cells,f'];omega,λ_=>rfl⟩⟩
     simp only[evA,e1,e2,AV.cells,Nat.mul_one,iN hx];rfl
   ·exact h.elim
  ·exact h.elim
 all_goals exact h.elim
theorem Fh{α:Type}{l:List α}{v:α→List AV}{n:Nat}(hv:∀x,(v x).length=n):(l.flatMap v).length=l.length * n:=by
 induction l with
 | nil=>simp
 | cons a l ih=>rw[ap',Y',hv,ih,Z',Nat.succ_mul,Nat.add_comm]
theorem sH{α:Type}{v:α→List AV}{n:Nat}(hv:∀x,(v x).length=n):∀{l:List α} {i:Nat} {x:α},l[i]?=some x→((l.flatMap v).drop (i * n)).take n=v x
 | [],i,x,h=>by simp at h
 | a::l,0,x,h=>by
  simp only[List.getElem?_cons_zero,aK']at h;subst h;rw[Nat.zero_mul,bf',ap',List.take_append_of_le_length (by rw[hv];exact V' _),G' (by rw[hv];exact V' _)]
 | a::l,i+1,x,h=>by
  rw[List.getElem?_cons_succ]at h;rw[ap',Nat.succ_mul,List.drop_append,bn' (by rw[hv];omega),bA',hv,bu'];exact sH hv h
theorem py{cs:List AV}{off size:Nat}:fo (.agg cs) off size true=.agg ((cs.drop off).take size):=by
 unfold fo
 split
 ·rename_i h;obtain⟨rfl,h,-⟩:=h;have h:cs.length=size:=h;rw[bf',G' (by omega)]
 ·rfl
theorem Pe{n:Nat}{o:aN}{f:Nat}{s:S2}{α:Type}{v:α→List AV}{l:List α}{i m:Nat}(hv:∀x,(v x).length=m){k:α→An P Sf T}{K:KO P Sf T}(h:SO o f s v l i m k K):∃a' s' l',K a' s' l'∧ky P n o f s s' l':=by
 obtain⟨d,op,g⟩:=o;cases op
 case load agg size x =>
  simp only[SO]at h
  split at h
  ·rename_i b off e1
   split at h
   ·rename_i cs e2;obtain⟨rfl,rfl,h⟩:=h;obtain⟨h0,q⟩:=au h;obtain⟨h1,q'⟩:=au q;obtain⟨h2,q''⟩:=au q';have h1:=M' h1;have h2:=H' h2;clear h q q';subst h0;subst h1;have hx:l[i]?=some l[i]:=E' h2;have hl:i * size+size≤(l.flatMap v).length:=by
     rw[Fh hv,←Nat.succ_mul];exact ae' _ h2
    refine⟨_,_,_,q'' _ hx,bF rfl (rm:=none) (ad:=none) (c:=dp (.agg (l.flatMap v)) (i * size) size true) ?_ ⟨rfl,hl,λe=>by cases e⟩⟩;simp only[evA,e1,e2,py,sH hv hx]
   ·exact h.elim
  ·exact h.elim
 all_goals exact h.elim
theorem Hv{α:Type}{l:List α}{v:α→AV}{i:Nat}{x:α}:(l.map v).set i (v x)=(l.set i x).map v:=by rw[bm']
theorem yZ{cs:List AV}{off:Nat}{x:AV}(h:off<cs.length):jk cs off [x]=cs.set off x:=by
 unfold jk;rw[cb',if_pos h];simp
theorem Rq{n:Nat}{o:aN}{f:Nat}{s:S2}{α:Type}{v:α→AV}{l:List α}{g:α→α}{k:α→An P Sf T}{K:KO P Sf T}(h:stR o f s v l g k K):∃a' s' l',K a' s' l'∧ky P n o f s s' l':=by
 obtain⟨d,op,gd⟩:=o;cases op
 case store size a x =>
  simp only[stR]at h
  split at h
  ·rename_i b i off e1
   split at h
   ·rename_i kk es e2;obtain⟨rfl,h⟩:=h;obtain⟨h1,h⟩:=au h;have h1:=H' h1;have hx:l[i]?=some l[i]:=E' h1;obtain⟨h2,h3,h⟩:=au (h _ hx);refine⟨_,_,_,h,bF rfl (v:=.unk) (rm:=some b) (ad:=some (b,.vec kk ((l.set i (g l[i])).map v))) (c:=i<(l.map v).length∧nR (v l[i]) off size (evO s.tm x)) ?_ ⟨by rw[f'];exact h1,tD h2⟩⟩;simp only[evA,e1,e2,iN hx,h3,Hv]
   ·exact h.elim
  ·rename_i b off e1
   split at h
   ·rename_i cs e2;obtain⟨rfl,h⟩:=h;obtain⟨h0,h⟩:=au h;obtain⟨h1,h⟩:=au h;cases h2:(evO s.tm x).isAgg with
    | true=>rw[h2]at h;exact h.elim
    | false =>
     rw[h2]at h;obtain⟨h3,h⟩:=au h;have h3:=H' h3;have hx:l[off]?=some l[off]:=E' h3;obtain⟨h4,h⟩:=h _ hx;have h0:size=1:=M' h0;subst h0;have hc:(evO s.tm x).cells=[evO s.tm x]:=by
      revert h2;cases evO s.tm x<;>simp[AV.isAgg,AV.cells]
     refine⟨_,_,_,h,bF rfl (v:=.unk) (rm:=some b) (ad:=some (b,.box (.agg ((l.set off (g l[off])).map v)))) (c:=nR (.agg (l.map v)) off 1 (evO s.tm x)) ?_ ⟨rfl,h1,by rw[hc];rfl,by simp only[AV.cells,f'];omega⟩⟩;simp only[evA,e1,e2];unfold dL;rw[u' (by rw[h2];simp[AV.isAgg]),hc];simp only[AV.cells];rw[yZ (by rw[f'];exact h3),h4,Hv]
   ·exact h.elim
  ·exact h.elim
 all_goals exact h.elim
theorem MH{n:Nat}{o:aN}{f:Nat}{s:S2}{α:Type}{v:α→AV}{l:List α}{k:α→An P Sf T}{K:KO P Sf T}(h:Rr o f s v l k K):∃a' s' l',K a' s' l'∧ky P n o f s s' l':=by
 obtain⟨d,op,gd⟩:=o;cases op
 case store size a x =>
  simp only[Rr]at h
  split at h
  ·rename_i b i off e1
   split at h
   ·rename_i kk es e2;obtain⟨rfl,h⟩:=h;obtain⟨h1,h⟩:=au h;have h1:=H' h1;have hx:l[i]?=some l[i]:=E' h1;obtain⟨h2,h⟩:=au (h _ hx);refine⟨_,_,_,h,bF rfl (v:=.unk) (rm:=some b) (ad:=some (b,.vec kk ((l.map v).set i (dL (v l[i]) off (evO s.tm x))))) (c:=i<(l.map v).length∧nR (v l[i]) off size (evO s.tm x)) ?_ ⟨by rw[f'];exact h1,tD h2⟩⟩;simp only[evA,e1,e2,iN hx]
   ·exact h.elim
  ·exact h.elim
 all_goals exact h.elim
theorem room{a b bytes:Nat}(h1:bytes≤134217728)(h2:a+b≤1048576):(a+b) * bytes≤2 ^ 47∧a+b≤maxLen:=by
 have:(a+b) * bytes≤1048576 * 134217728:=Nat.mul_le_mul h2 h1;have h3:(1048576:Nat)≤maxLen:=by decide
 omega
theorem PK{n:Nat}{o:aN}{f:Nat}{s:S2}{α:Type}{v:α→AV}{l xs:List α}{a:An P Sf T}{K:KO P Sf T}(h:Tz o f s v l xs a K):∃a' s' l',K a' s' l'∧ky P n o f s s' l':=by
 obtain⟨d,op,gd⟩:=o;cases op
 case append kk bytes sx x =>
  simp only[Tz]at h
  obtain⟨ys,e0,h⟩:=BQ h
  ·skip
   split at h
   ·rename_i k' es full e1;obtain⟨rfl,rfl,h⟩:=h;obtain⟨h0,h⟩:=au h;obtain⟨h1,h⟩:=au h;obtain⟨h2,h0⟩:=ag.mp h0;obtain⟨h3,h4⟩:=ag.mp h0;have hl:l=[]:=by cases l<;>simp_all
    subst hl;have h1:=H' h1;have hr:=room (U' h3) h1;simp only[aC',aB']at hr;refine⟨_,_,_,h,bF rfl (v:=.vec f) (rm:=none) (ad:=some (f,.vec kk (([]++xs).map v))) (c:=full=true∧(xs.map v).length * bytes≤2 ^ 47∧(xs.map v).length≤maxLen) ?_ ⟨h2,by rw[f'];exact hr⟩⟩;simp only[evA,e0,e1,dP,cc',if_pos,bA']
   ·rename_i b e1
    split at h
    ·rename_i k' es e2;obtain⟨rfl,rfl,h⟩:=h;obtain⟨h0,h⟩:=au h;obtain⟨h1,h⟩:=au h;obtain⟨h2,h3⟩:=ag.mp h0;have h1:=H' h1;have hr:=room (U' h3) h1
     refine⟨_,_,_,h,bF rfl (v:=.vec f) (rm:=some b) (ad:=some (f,.vec kk ((l++xs).map v))) (c:=k'=kk∧((l.map v).length+(xs.map v).length) * bytes≤2 ^ 47∧(l.map v).length+(xs.map v).length≤maxLen) ?_
      ⟨M' h2,by simp only[f'];exact hr⟩⟩
     simp only[evA,e0,e1,e2,dP,List.map_append]
    ·exact h.elim
   ·exact h.elim
 all_goals exact h.elim
theorem LJ{n:Nat}{o:aN}{f:Nat}{s:S2}{α:Type}{v:α→AV}{l xs:List α}{a:An P Sf T}{K:KO P Sf T}(h:LK o f s v l xs a K):∃a' s' l',K a' s' l'∧ky P n o f s s' l':=by
 obtain⟨d,op,gd⟩:=o;cases op
 case append kk bytes sx x =>
  simp only[LK]at h
  obtain⟨ys,e0,h⟩:=BQ h
  ·skip
   split at h
   ·rename_i k' es full e1;obtain⟨rfl,rfl,h⟩:=h;obtain⟨h0,h⟩:=au h;obtain⟨h5,h⟩:=au h;obtain⟨h1,h⟩:=au h;obtain⟨h2,h0⟩:=ag.mp h0;obtain⟨h3,h4⟩:=ag.mp h0;have h1:=H' h1;have h5:=H' h5;have hr:=room (U' h3) h1
    by_cases hl:l=[]
    ·subst hl;simp only[aC',aB']at hr;refine⟨_,_,_,h,bF rfl (v:=.vec f) (rm:=none) (ad:=some (f,.vec kk (([]++xs).map v))) (c:=full=true∧(xs.map v).length * bytes≤2 ^ 47∧(xs.map v).length≤maxLen) ?_ ⟨h2,by rw[f'];exact hr⟩⟩;simp only[evA,e0,e1,dP,cc',if_pos,bA']
    ·refine⟨_,_,_,h,bF rfl (v:=.vec f) (rm:=none) (ad:=some (f,.vec kk ((l++xs).map v))) (c:=k'=kk∧full=true∧((l.map v).length+(xs.map v).length) * bytes≤2 ^ 47∧(l.map v).length+(xs.map v).length≤maxLen∧0<(xs.map v).length) ?_
      ⟨M' h4,h2,by simp only[f'];exact hr.1,by simp only[f'];exact hr.2,by rw[f'];exact h5⟩⟩
     have hm:¬l.map v=[]:=by simpa using hl
     simp only[evA,e0,e1,dP,u' hm,List.map_append]
   ·exact h.elim
 all_goals exact h.elim
theorem M9{n:Nat}{o:aN}{f:Nat}{s:S2}{α:Type}{v:α→AV}{l:List α}{fl:Bool}{a:An P Sf T}{K:KO P Sf T}(h:MA o f s v l fl a K):∃a' s' l',K a' s' l'∧ky P n o f s s' l':=by
  obtain⟨d,op,gd⟩:=o;cases op
  case load agg size x =>
    simp only[MA]at h
    split at h
    · rename_i b off e1
      split at h
      · rename_i cs e2
        obtain⟨rfl,h⟩:=h;obtain⟨h0,q⟩:=au h;obtain⟨h1,q'⟩:=au q;obtain⟨h2,q''⟩:=au q';have h1:=M' h1;have h2:=H' h2;clear h q q';subst h0;subst h1;subst h2;refine⟨_,_,_,q'',bF rfl (rm:=none) (ad:=none) (c:=dp (.agg (l.map v)) 0 l.length true) ?_ ⟨rfl,by show 0+l.length≤(l.map v).length;simp,λe=>by cases e⟩⟩;simp only[evA,e1,e2,py];rw[bf',G' (by simp)]
      · exact h.elim
    · exact h.elim
  case slice kk x lo hi mx =>
    simp only[MA]at h
    split at h
    · rename_i k' es full e1
      obtain⟨rfl,h⟩:=h;obtain⟨h0,h⟩:=au h;have h0:=M' h0;subst h0
      split at h
      · rename_i lo' hi' mx' e2 e3 e4
        obtain⟨h1,h⟩:=au h;obtain⟨h2,h⟩:=au h;have hb:=mE h2
        have key:∀lo hi mx:Option Int,(mx.isSome=true→hi.isSome=true)→(0≤lo.getD 0∧lo.getD 0≤hi.getD l.length∧hi.getD l.length≤mx.getD l.length∧mx.getD l.length≤(l.length:Int)) →
            sliceA s.hp k' (.sl k' (l.map v) full) lo hi mx={ c:=(sliceA s.hp k' (.sl k' (l.map v) full) lo hi mx).c,v:=.sl k' (((l.take (hi.getD l.length).toNat).drop (lo.getD 0).toNat).map v) (cond (mx.isSome || full) (decide (hi.getD l.length=mx.getD l.length)) false) } ∧
            (sliceA s.hp k' (.sl k' (l.map v) full) lo hi mx).c:=by
          intro lo hi mx g1 g2
          refine⟨?_,?_⟩
          · have e9:∀a b:Bool,(a && b)=cond b a false:=by decide
            simp only[sliceA,f',List.map_drop,cf',e9]
          · simp only[sliceA,f']
            exact⟨.inl trivial,g1,g2⟩
        have opt:∀{y:Option AO} {y':Option Int},ku (evO s.tm) y=some y'→(y.map (evO s.tm)=none∧y'=none)∨∃kk i,y.map (evO s.tm)=some (.val (.int kk i))∧y'=some i:=by
          intro y y' e;cases y with
          | none=>simp[ku]at e;exact .inl ⟨rfl,e.symm⟩
          | some y =>
            simp only[ku]at e
            split at e
            · rename_i kk i e'
              simp at e;exact .inr ⟨kk,i,by simp[e'],e.symm⟩
            · cases e
        have hev:evA (.slice k' x lo hi mx) f (evO s.tm) s.hp=sliceA s.hp k' (.sl k' (l.map v) full) lo' hi' mx'∨(mx'.isSome=true∧lo'=none∧hi'=none)∨(mx'.isSome=true∧hi'=none):=by
          rcases opt e2 with⟨a1,rfl⟩|⟨q1,i1,a1,rfl⟩<;>rcases opt e3 with⟨a2,rfl⟩|⟨q2,i2,a2,rfl⟩<;>rcases opt e4 with⟨a3,rfl⟩|⟨q3,i3,a3,rfl⟩
          · left;simp only[evA,a1,a2,a3,e1,lp]
          · right;left;exact⟨rfl,rfl,rfl⟩
          · left;simp only[evA,a1,a2,a3,e1,bV]
          · left;simp only[evA,a1,a2,a3,e1,lp]
          · left;simp only[evA,a1,a2,a3,e1,lp]
          · right;right;exact⟨rfl,rfl⟩
          · left;simp only[evA,a1,a2,a3,e1,lp]
          · left;simp only[evA,a1,a2,a3,e1,lp]
        obtain⟨k1,k2⟩:=key lo' hi' mx' (lK h1) hb
        rcases hev with hev|⟨q1,q2,q3⟩|⟨q1,q2⟩
        · cases fl with
          | true =>
            obtain⟨p1,h⟩:=au h;obtain⟨p2,h⟩:=au h;rw[p1,p2]at k1;exact⟨_,_,_,h,bF rfl (rm:=none) (ad:=none) (hev.trans k1) k2⟩
          | false=>exact⟨_,_,_,h,bF rfl (rm:=none) (ad:=none) (hev.trans k1) k2⟩
        · have:=lK h1 q1;rw[q3]at this;cases this
        · have:=lK h1 q1;rw[q2]at this;cases this
      · exact h.elim
    · rename_i b e1
      split at h
      · rename_i k' es e0
        obtain⟨rfl,h⟩:=h;obtain⟨h0,h⟩:=au h;have h0:=M' h0;subst h0;obtain⟨h9,h⟩:=au h;have h9:=H' h9;cases e2:ku (evO s.tm) lo with
        | none=>simp only[e2]at h
        | some lo' =>
        cases e3:ku (evO s.tm) hi with
        | none=>simp only[e2,e3]at h
        | some hi' =>
        cases mx with
        | some m =>
          cases lo' with
          | some l0=>simp only[e2,e3]at h
          | none =>
          cases hi' with
          | none=>simp only[e2,e3]at h
          | some hh =>
          simp only[e2,e3]at h
          split at h
          · rename_i kk2 mm e4
            obtain⟨p1,h3⟩:=au h;obtain⟨p2,h4⟩:=au h3;have p1:=H' p1;clear h h3;subst p1;have hb:=mE p2;have a1:lo.map (evO s.tm)=none:=by
              cases lo with
              | none=>rfl
              | some y=>simp only[ku]at e2;split at e2<;>cases e2
            have a2:∃kk3,hi.map (evO s.tm)=some (.val (.int kk3 hh)):=by
              cases hi with
              | none=>simp[ku]at e3
              | some y =>
                simp only[ku]at e3
                split at e3
                · rename_i kk3 i3 e5
                  simp at e3;subst e3;exact⟨kk3,by simp[e5]⟩
                · cases e3
            obtain⟨kk3,a2⟩:=a2;have hev:evA (.slice k' x lo hi (some m)) f (evO s.tm) s.hp={ c:=k'=k'∧0≤hh∧hh≤((l.map v).length:Int),v:=.vec f,rm:=some b,ad:=some (f,.vec k' ((l.take hh.toNat).map v)) }:=by
              simp only[evA,a1,a2,ah',e4,e1,lp,e0];rw[if_pos ⟨trivial,by rw[f'];exact h9⟩,cf']
            exact⟨_,_,_,h4,bF rfl (rm:=some b) (ad:=some (f,.vec k' ((l.take hh.toNat).map v))) hev ⟨rfl,hb.2.1,by rw[f'];exact hb.2.2.2⟩⟩
          · exact h.elim
        | none =>
          simp only[e2,e3]at h;obtain⟨h2,h⟩:=au h;have hb:=mE h2
          have key:∀lo hi:Option Int,(0≤lo.getD 0∧lo.getD 0≤hi.getD l.length∧hi.getD l.length≤l.length∧(l.length:Int)≤(l.length:Int)) →
              sliceA s.hp k' (.vec b) lo hi none={ c:=(sliceA s.hp k' (.vec b) lo hi none).c,v:=.vsub b (lo.getD 0).toNat (hi.getD l.length-lo.getD 0).toNat }∧(sliceA s.hp k' (.vec b) lo hi none).c:=by
            intro lo hi g2
            refine⟨?_,?_⟩
            · simp only[sliceA,e0,f',h9,and_self,if_true]
            · simp only[sliceA,e0,f']
              exact⟨trivial,λh=>by simp at h,g2⟩
          have opt:∀{y:Option AO} {y':Option Int},ku (evO s.tm) y=some y'→(y.map (evO s.tm)=none∧y'=none)∨∃kk i,y.map (evO s.tm)=some (.val (.int kk i))∧y'=some i:=by
            intro y y' e;cases y with
            | none=>simp[ku]at e;exact .inl ⟨rfl,e.symm⟩
            | some y =>
              simp only[ku]at e
              split at e
              · rename_i kk i e'
                simp at e;exact .inr ⟨kk,i,by simp[e'],e.symm⟩
              · cases e
          have hres:∀h:Int,bV s.hp f k' (.vec b) h=sliceA s.hp k' (.vec b) none (some h) none:=λh=>by simp only[bV,e0]
          have hev:evA (.slice k' x lo hi none) f (evO s.tm) s.hp=sliceA s.hp k' (.vec b) lo' hi' none:=by
            rcases opt e2 with⟨a1,rfl⟩|⟨q1,i1,a1,rfl⟩<;>rcases opt e3 with⟨a2,rfl⟩|⟨q2,i2,a2,rfl⟩<;>simp only[evA,a1,a2,e1,Option.map_none,hres]
          obtain⟨k1,k2⟩:=key lo' hi' hb;exact⟨_,_,_,h,bF rfl (rm:=none) (ad:=none) (hev.trans k1) k2⟩
      · exact h.elim
    · exact h.elim
  all_goals exact h.elim
theorem NK{n:Nat}{o:aN}{f:Nat}{s:S2}{α:Type}{v:α→AV}{x:α}{a:An P Sf T}{K:KO P Sf T}(h:NL o f s v x a K):∃a' s' l',K a' s' l'∧ky P n o f s s' l':=by
 obtain⟨d,op,gd⟩:=o;cases op
 case mks kk bytes z l c =>
  simp only[NL]at h
  split at h
  ·rename_i m e1;obtain⟨rfl,h⟩:=h;obtain⟨h1,h⟩:=au h;have hc:=sc (f:=f) h1;simp only[okB]at h1
   split at h1
   ·rename_i l' c' e2 e3;rw[e1]at e2;cases e2;refine⟨_,_,_,h,bF rfl (v:=.vec f) (rm:=none) (ad:=some (f,.vec kk ((List.replicate m.toNat x).map v))) (c:=(evA (.mks kk bytes (v x) l c) f (evO s.tm) s.hp).c) ?_ hc⟩;simp only[evA,e1,e3,cg']
   ·cases h1
  ·exact h.elim
 case convBS y =>
  simp only[NL]at h
  split at h
  ·rename_i kk es fu e1;obtain⟨⟨bs,e2,e3⟩,h⟩:=h;obtain⟨h1,h⟩:=au h;cases M' h1;rw[←e3]at h;exact⟨_,_,_,h,bF rfl (rm:=none) (ad:=none) (c:=True) (by simp only[evA,e1,e2]) trivial⟩
  ·rename_i b e1
   split at h
   ·rename_i kk es e0;obtain⟨⟨bs,e2,e3⟩,h⟩:=h;obtain⟨h1,h⟩:=au h;cases M' h1;rw[←e3]at h;exact⟨_,_,_,h,bF rfl (rm:=none) (ad:=none) (c:=True) (by simp only[evA,e1,e0,e2]) trivial⟩
   ·exact h.elim
  ·exact h.elim
 all_goals exact h.elim
theorem NW{n:Nat}{o:aN}{f:Nat}{s:S2}{a:An P Sf T}{K:KO P Sf T}(h:ownR o f s a K):∃a' s' l',K a' s' l'∧ky P n o f s s' l':=by
 obtain⟨d,op,gd⟩:=o;cases op
 case lit k N z ps =>
  obtain⟨h1,h⟩:=au h;exact⟨_,_,_,h,λK hK=>.inr ⟨mh h1,hK⟩,λK hK=>.inr ⟨mh h1,hK⟩⟩
 all_goals exact h.elim
theorem jv{b:Bool}{X Y:Prop}(h:cond b X Y):X∨Y:=by cases b with
  | true=>exact .inl h
  | false=>exact .inr h
section
variable {α β : Type} [DecidableEq α]
theorem sj{γ:Type}[DecidableEq γ]{g:α→γ}(hg:∀x y,g x=g y→x=y)(x:α):∀l:List α,(l.map g).idxOf (g x)=l.idxOf x
 | []=>rfl
 | y::l=>by
  rw[au',List.idxOf_cons,List.idxOf_cons,sj hg x l]
  by_cases e:y=x
  ·subst e;simp
  ·have:g y≠g x:=λh=>e (hg _ _ h);rw[beq_eq_false_iff_ne.mpr this,beq_eq_false_iff_ne.mpr e]
omit [DecidableEq α] in
theorem O5{γ:Type}{g:α→γ}(hg:∀x y,g x=g y→x=y){x:α}{l:List α}:g x∈l.map g↔x∈l:=
 ⟨λh=>by obtain⟨y,hy,e⟩:=R'.mp h;exact hg _ _ e ▸ hy,aT'⟩
variable {kf : α → MK} {vf : β → AV} {l : List (α × β)} {x : α}
omit [DecidableEq α] in
theorem wC:l.map (λp=>kf p.1)=(eT l).map kf:=by rw[eT,aV'];rfl
theorem oH(hi:∀x y,kf x=kf y→x=y):(l.map λp=>kf p.1).idxOf (kf x)=me l x:=by rw[wC,sj hi];rfl
omit [DecidableEq α] in
theorem mem_keys(hi:∀x y,kf x=kf y→x=y):kf x∈(l.map λp=>kf p.1)↔x∈eT l:=by rw[wC,O5 hi]
theorem jX(h:x∈eT l):me l x<l.length:=by
 have:=List.idxOf_lt_length_of_mem h
 rwa [eT,f']at this
theorem CM(h:x ∉ eT l):me l x=l.length:=by
 have:=List.idxOf_eq_length h
 rwa [eT,f']at this
theorem ID(h:x∈eT l):(l[me l x]'(jX h)).1=x:=by
 have h1:(eT l)[me l x]'(List.idxOf_lt_length_of_mem h)=x:=List.getElem_idxOf _;simpa[eT]using h1
theorem wl(hi:∀x y,kf x=kf y→x=y)(z:β)(ok:Bool) :
  mf (l.map λp=>kf p.1) (l.map λp=>vf p.2) (kf x) (vf z) ok=cond ok (.tup [vf (re l x z),.bool (zN l x)]) (vf (re l x z)):=by
 unfold mf zN re
 by_cases h:x∈eT l
 ·have e:l[me l x]?=some (l[me l x]'(jX h)):=E' (jX h);rw[if_pos ((mem_keys hi).mpr h),oH hi,decide_eq_true h,J',S',e];cases ok<;>rfl
 ·have e:l[me l x]?=none:=by rw[CM h];simp
  rw[u' (λq=>h ((mem_keys hi).mp q)),decide_eq_false h,e];cases ok<;>rfl
theorem EJ(hi:∀x y,kf x=kf y→x=y){z:β}{zz:AV}{ok:Bool}(hm:zN l x=true) :
  mf (l.map λp=>kf p.1) (l.map λp=>vf p.2) (kf x) zz ok=cond ok (.tup [vf (re l x z),.bool true]) (vf (re l x z)):=by
 have h:x∈eT l:=H' hm;unfold mf re;have e:l[me l x]?=some (l[me l x]'(jX h)):=E' (jX h);rw[if_pos ((mem_keys hi).mpr h),oH hi,J',S',e];cases ok<;>rfl
theorem EI(hi:∀x y,kf x=kf y→x=y){zz:AV}{ok:Bool}(hm:zN l x=false) :
  mf (l.map λp=>kf p.1) (l.map λp=>vf p.2) (kf x) zz ok=cond ok (.tup [zz,.bool false]) zz:=by
 have h:x ∉ eT l:=ab' hm;unfold mf;rw[u' (λq=>h ((mem_keys hi).mp q))];cases ok<;>rfl
theorem wj(hi:∀x y,kf x=kf y→x=y)(kk:Option Nat)(v:β) :
  pE kk (l.map λp=>kf p.1) (l.map λp=>vf p.2) (kf x) (vf v)=.map kk ((IA l x v).map λp=>kf p.1) ((IA l x v).map λp=>vf p.2):=by
 unfold pE IA
 by_cases h:x∈eT l
 ·rw[if_pos ((mem_keys hi).mpr h),if_pos h,oH hi,bm',bm']
  congr 1
  have:(l.map λp=>kf p.1)[me l x]'(by rw[f'];exact jX h)=kf x:=by rw[cp',ID h]
  rw[←this,List.set_getElem_self]
 ·rw[u' (λq=>h ((mem_keys hi).mp q)),u' h,List.map_append,List.map_append];rfl
theorem wu(hi:∀x y,kf x=kf y→x=y)(kk:Option Nat) :
  pH kk (l.map λp=>kf p.1) (l.map λp=>vf p.2) (kf x)=.map kk ((mdl l x).map λp=>kf p.1) ((mdl l x).map λp=>vf p.2):=by
 unfold pH mdl
 by_cases h:x∈eT l
 ·rw[if_pos ((mem_keys hi).mpr h),oH hi,dd,dd]
 ·rw[u' (λq=>h ((mem_keys hi).mp q)),CM h,List.eraseIdx_of_length_le (V' _)]
end
theorem Sg{n:Nat}{o:aN}{f:Nat}{s:S2}{q:MN}{a:An P Sf T}{K:KO P Sf T}(h:mnR o f s q a K):∃a' s' l',K a' s' l'∧ky P n o f s s' l':=by
 obtain⟨d,op,gd⟩:=o;cases q with
 | get de kf hi vf l x z =>
  cases op<;>simp only[mnR]at h
  case mget kk zz ok m k =>
   split at h
   ·rename_i kk' ks vs q e1 e2;obtain⟨rfl,rfl,rfl,rfl,h⟩:=h;obtain⟨h1,h⟩:=au h;obtain⟨h2,h⟩:=au h;refine⟨_,_,_,h,bF rfl (rm:=none) (ad:=none) (c:=kk'=kk∧(kf x).fits kk) ?_ ⟨nl h1,kb h2⟩⟩;simp only[evA,e1,e2,wl hi]
   ·exact h.elim
  all_goals exact h.elim
 | put de kf hi vf l x v =>
  cases op<;>simp only[mnR]at h
  case mset kk m k y =>
   split at h
   ·rename_i b e0
    split at h
    ·rename_i kk' ks vs q e1 e2;obtain⟨rfl,rfl,rfl,e3,h⟩:=h;obtain⟨h1,h⟩:=au h;obtain⟨h2,h⟩:=au h;obtain⟨h3,h⟩:=au h;refine⟨_,_,_,h,bF rfl (rm:=some b) (ad:=some (b,_)) (c:=kk'=kk∧(kf x).fits kk∧(vf v).solid=true) ?_ ⟨nl h1,kb h2,h3⟩⟩;simp only[evA,e0,e1,e2,e3,wj hi]
    ·exact h.elim
   ·exact h.elim
  all_goals exact h.elim
 | del de kf hi vf l x =>
  cases op<;>simp only[mnR]at h
  case mdel kk m k =>
   split at h
   ·rename_i b e0
    split at h
    ·rename_i kk' ks vs q e1 e2;obtain⟨rfl,rfl,rfl,h⟩:=h;obtain⟨h1,h⟩:=au h;obtain⟨h2,h⟩:=au h;refine⟨_,_,_,h,bF rfl (rm:=some b) (ad:=some (b,_)) (c:=kk'=kk∧(kf x).fits kk) ?_ ⟨nl h1,kb h2⟩⟩;simp only[evA,e0,e1,e2,wu hi]
    ·exact h.elim
   ·exact h.elim
  all_goals exact h.elim
 | getB hs de kf hi vf l x z =>
  cases op<;>simp only[mnR]at h
  case mget kk zz ok m k =>
   split at h
   ·rename_i kk' ks vs q e1 e2;obtain⟨rfl,rfl,rfl,h⟩:=h;obtain⟨h1,h⟩:=au h;obtain⟨h2,h⟩:=au h;cases hm:zN l x with
    | true =>
     rw[hm]at h;refine⟨_,_,_,h,bF rfl (rm:=none) (ad:=none) (c:=kk'=kk∧(kf x).fits kk) ?_ ⟨nl h1,kb h2⟩⟩;simp only[evA,e1,e2,EJ (z:=z) hi hm]
    | false =>
     rw[hm]at h;cases hs with
     | true=>exact h.elim
     | false =>
      refine⟨_,_,_,h,bF rfl (rm:=none) (ad:=none) (c:=kk'=kk∧(kf x).fits kk) ?_ ⟨nl h1,kb h2⟩⟩;simp only[evA,e1,e2,EI hi hm]
   ·exact h.elim
  all_goals exact h.elim
theorem zI{n:Nat}{o:aN}{f:Nat}{s:S2}{K:KO P Sf T}:∀{a:An P Sf T},opR o f s a K→∃a' s' l,K a' s' l∧ky P n o f s s' l
 | .el g v l k,h=>(jv h).elim SN db
 | .elA g v l i n hv k,h=>(jv h).elim (Pe hv) db
 | .st g v l x k,h=>(jv h).elim Rq db
 | .stI g v l k,h=>(jv h).elim MH db
 | .app g v l xs a',h=>(jv h).elim PK db
 | .appF g v l xs a',h=>(jv h).elim LJ db
 | .sub g v l fl a',h=>(jv h).elim M9 db
 | .rep g v x a',h=>(jv h).elim NK db
 | .own g a',h=>(jv h).elim NW db
 | .mn g q a',h=>(jv h).elim Sg db
 | .req g p k,h=>(jv h).elim (λ⟨_,h⟩=>zI h) db
 | .nil,h|.pass _,h|.br _ _ _,h|.callP _ _,h|.callH _ _ _,h|.callA _ _ _,h|.cmd _ _,h|.cmdL _ _,h|.wait _,h|.loop _ _ _ _ _ _ _,h|.join _ _ _ _ _,h|.join2 _ _ _ _ _,h|.back _ _ _,h|.hand _ _ _ _ _ _ _ _,h|.hand2 _ _ _ _ _ _,h|.handQ _ _ _ _ _ _ _ _,h|.unr _ _,h|.ret _,h|.retH _ _ _,h=>db h
end
end Go.Am
namespace Go.Am
section
variable {P : Program} {Sf : Nat → Type} {T : Type}
def nilR(hp:Hp)(ptr:Bool)(x:AV)(K:Bool→Prop):Prop:=
 match ptr,x with
 | true,.ref _ _=>K false
 | true,.eref _ _ _=>K false
 | true,.rptr _ _=>K false
 | true,.val (.pointer none)=>K true
 | false,.sl _ es _=>∀t:Bool,(es≠[]→t=false)→K t
 | false,.vec b=>match hp b with
  | some (.vec _ es)=>∀t:Bool,(es≠[]→t=false)→K t
  | _=>False
 | _,_=>False
def zJ(o:aN)(f:Nat)(s:S2)(a:An P Sf T)(K:KO P Sf T):Prop:=
 match o.op with
 | .isNil ptr ne x=>nilR s.hp ptr (evO s.tm x) λt=>K a ⟨aO o.dst (.bool (t != ne)) s.tm,s.hp⟩ ([],[])
 | _=>opR o f s a K
def mU:List aN→Nat→S2→An P Sf T→(An P Sf T→S2→Nat→Prop)→Prop
 | [],f,s,a,K=>K a s f
 | o::os,f,s,a,K=>match o.guard with
  | none=>zJ o f s a λa' s' _=>mU os (f+16) s' a' K
  | some (d,want)=>match s.tm d with
   | .val (.bool b)=>match want with
    | true=>cond b (zJ o f ⟨upd s.tm d (.val (.bool true)),s.hp⟩ (a.l f) λa' s' _=>mU os (f+16) s' a' K) (mU os (f+16) ⟨aO o.dst (.tup []) (upd s.tm d (.val (.bool false))),s.hp⟩ (a.r f) K)
    | false=>cond b (mU os (f+16) ⟨aO o.dst (.tup []) (upd s.tm d (.val (.bool true))),s.hp⟩ (a.l f) K) (zJ o f ⟨upd s.tm d (.val (.bool false)),s.hp⟩ (a.r f) λa' s' _=>mU os (f+16) s' a' K)
   | .tup []=>mU os (f+16) ⟨aO o.dst (.tup []) s.tm,s.hp⟩ a K
   | _=>False
def lR:List aN→Nat→S2→Log→An P Sf T→(An P Sf T→S2→Nat→Log→Prop)→Prop
 | [],f,s,lg,a,K=>K a s f lg
 | o::os,f,s,lg,a,K=>match o.guard with
  | none=>opR o f s a λa' s' l=>lR os (f+16) s' (lg++[l]) a' K
  | some (d,want)=>match s.tm d with
   | .val (.bool b)=>match want with
    | true=>cond b (opR o f ⟨upd s.tm d (.val (.bool true)),s.hp⟩ (a.l f) λa' s' l=>lR os (f+16) s' (lg++[l]) a' K) (lR os (f+16) ⟨aO o.dst (.tup []) (upd s.tm d (.val (.bool false))),s.hp⟩ (lg++[([],[])]) (a.r f) K)
    | false=>cond b (lR os (f+16) ⟨aO o.dst (.tup []) (upd s.tm d (.val (.bool true))),s.hp⟩ (lg++[([],[])]) (a.l f) K) (opR o f ⟨upd s.tm d (.val (.bool false)),s.hp⟩ (a.r f) λa' s' l=>lR os (f+16) s' (lg++[l]) a' K)
   | .tup []=>lR os (f+16) ⟨aO o.dst (.tup []) s.tm,s.hp⟩ (lg++[([],[])]) a K
   | _=>False
theorem eI{α:Type}{f:Nat→α}{t:Nat}{v:α}(h:f t=v):upd f t v=f:=by
 funext x
 by_cases e:x=t
 ·subst e;rw[ai,h]
 ·rw[az _ _ e]
theorem Oa{hp:Hp}{ptr:Bool}{x:AV}{K:Bool→Prop}(h:nilR hp ptr x K):mc ptr x∧∀t,tW hp x t→K t:=by
 unfold nilR at h
 split at h
 ·exact⟨trivial,λt ht=>by have ht:t=false:=ht;rw[ht];exact h⟩
 ·exact⟨trivial,λt ht=>by have ht:t=false:=ht;rw[ht];exact h⟩
 ·exact⟨trivial,λt ht=>by have ht:t=false:=ht;rw[ht];exact h⟩
 ·exact⟨trivial,λt ht=>by have ht:t=true:=ht;rw[ht];exact h⟩
 ·exact⟨trivial,λt ht=>h t ht⟩
 ·split at h
  ·rename_i e;refine⟨trivial,λt ht=>h t ?_⟩;simp only[tW,e]at ht;exact ht
  ·exact h.elim
 ·exact h.elim
theorem tU{n:Nat}{o:aN}{f:Nat}{s:S2}{a:An P Sf T}{K:KO P Sf T}{K':S2→Prop}(h:zJ o f s a K)(hK:∀a' s' l,K a' s' l→K' s'):exT P n o f s K':=by
 unfold zJ at h
 split at h
 ·rename_i ptr ne x e;obtain⟨d,op,g⟩:=o;simp only at e;subst e;obtain⟨h1,h2⟩:=Oa h;exact⟨h1,λt ht=>hK _ _ _ (h2 t ht)⟩
 ·obtain⟨a',s',l,h1,h2⟩:=zI (n:=n) h;exact h2.1 K' (hK _ _ _ h1)
theorem iI{n:Nat}{K':S2→Nat→Prop}{K:An P Sf T→S2→Nat→Prop}(hK:∀a s f,K a s f→K' s f) :
  ∀{os:List aN} {f:Nat} {s:S2} {a:An P Sf T},mU os f s a K→evT P n os f s K'
 | [],f,s,a,h=>hK _ _ _ h
 | o::os,f,s,a,h=>by
  unfold mU at h;unfold evT
  split at h
  ·rename_i e;rw[e];exact tU h λa' s' l h=>iI hK h
  ·rename_i d want e;rw[e];obtain⟨tm,hp⟩:=s
   split at h
   ·rename_i b eb;have eb:tm d=.val (.bool b):=eb
    refine⟨some b,by show gv (tm d)=_;rw[eb];rfl,λht=>?_,λht=>?_⟩
    ·simp only[aK']at ht;subst ht;cases b with
     | true =>
      have h:zJ o f ⟨upd tm d (.val (.bool true)),hp⟩ (a.l f) (λa' s' _=>mU os (f+16) s' a' K):=h;rw[eI eb]at h;exact tU h λa' s' l h=>iI hK h
     | false =>
      have h:zJ o f ⟨upd tm d (.val (.bool false)),hp⟩ (a.r f) (λa' s' _=>mU os (f+16) s' a' K):=h;rw[eI eb]at h;exact tU h λa' s' l h=>iI hK h
    ·cases b with
     | true=>cases want with
      | true=>exact absurd rfl ht
      | false =>
       have h:mU os (f+16) ⟨aO o.dst (.tup []) (upd tm d (.val (.bool true))),hp⟩ (a.l f) K:=h;rw[eI eb]at h;exact iI hK h
     | false=>cases want with
      | false=>exact absurd rfl ht
      | true =>
       have h:mU os (f+16) ⟨aO o.dst (.tup []) (upd tm d (.val (.bool false))),hp⟩ (a.r f) K:=h;rw[eI eb]at h;exact iI hK h
   ·rename_i eb;exact⟨none,by show gv (tm d)=_;rw[show tm d=.tup []from eb];rfl,λht=>by simp at ht,λ_=>iI hK h⟩
   ·exact h.elim
theorem lQ{n:Nat}{K':S2→Nat→Log→Prop}{K:An P Sf T→S2→Nat→Log→Prop}(hK:∀a s f lg,K a s f lg→K' s f lg) :
  ∀{os:List aN} {f:Nat} {s:S2} {lg:Log} {a:An P Sf T},lR os f s lg a K→evD P n os f s lg K'
 | [],f,s,lg,a,h=>hK _ _ _ _ h
 | o::os,f,s,lg,a,h=>by
  unfold lR at h;unfold evD;have step:∀{s:S2} {a:An P Sf T},opR o f s a (λa' s' l=>lR os (f+16) s' (lg++[l]) a' K)→exD P n o f s λs' l=>evD P n os (f+16) s' (lg++[l]) K':=λh=>by
   obtain⟨a',s',l,h1,h2⟩:=zI (n:=n) h;exact h2.2 _ (lQ hK h1)
  split at h
  ·rename_i e;rw[e];exact step h
  ·rename_i d want e;rw[e];obtain⟨tm,hp⟩:=s
   split at h
   ·rename_i b eb;have eb:tm d=.val (.bool b):=eb
    refine⟨some b,by show gv (tm d)=_;rw[eb];rfl,λht=>?_,λht=>?_⟩
    ·simp only[aK']at ht;subst ht;cases b with
     | true =>
      have h:opR o f ⟨upd tm d (.val (.bool true)),hp⟩ (a.l f) (λa' s' l=>lR os (f+16) s' (lg++[l]) a' K):=h;rw[eI eb]at h;exact step h
     | false =>
      have h:opR o f ⟨upd tm d (.val (.bool false)),hp⟩ (a.r f) (λa' s' l=>lR os (f+16) s' (lg++[l]) a' K):=h;rw[eI eb]at h;exact step h
    ·cases b with
     | true=>cases want with
      | true=>exact absurd rfl ht
      | false =>
       have h:lR os (f+16) ⟨aO o.dst (.tup []) (upd tm d (.val (.bool true))),hp⟩ (lg++[([],[])]) (a.l f) K:=h;rw[eI eb]at h;exact lQ hK h
     | false=>cases want with
      | false=>exact absurd rfl ht
      | true =>
       have h:lR os (f+16) ⟨aO o.dst (.tup []) (upd tm d (.val (.bool false))),hp⟩ (lg++[([],[])]) (a.r f) K:=h;rw[eI eb]at h;exact lQ hK h
   ·rename_i eb;exact⟨none,by show gv (tm d)=_;rw[show tm d=.tup []from eb];rfl,λht=>by simp at ht,λ_=>lQ hK h⟩
   ·exact h.elim
end
def gvV(b b':Nat):Blk→AV
 | .vec k es=>cond (Nat.beq b' b) (.sl k es false) (.vec b')
 | _=>.vec b'
def gvF(b b' o:Nat):Blk→AV
 | .box x=>cond (Nat.beq b' b) (.rptr x o) (.ref b' o)
 | _=>.ref b' o
def gvM(b b':Nat):Blk→AV
 | .map kk ks vs=>cond (Nat.beq b' b) (.mp kk ks vs) (.mref b')
 | _=>.mref b'
mutual
def gvA(b:Nat)(x0:Blk):AV→AV
  | .vec b'=>gvV b b' x0
  | .ref b' o=>gvF b b' o x0
  | .agg cs=>.agg (gvL b x0 cs)
  | .tup cs=>.tup (gvL b x0 cs)
  | .func f cs=>.func f (gvL b x0 cs)
  | .val v=>.val v
  | .sl k es full=>.sl k es full
  | .rptr x o=>.rptr x o
  | .eref b i o=>.eref b i o
  | .vsub b i o=>.vsub b i o
  | .asub b i o k=>.asub b i o k
  | .mref b'=>gvM b b' x0
  | .mp kk ks vs=>.mp kk ks vs
  | .unk=>.unk
def gvL(b:Nat)(x0:Blk):List AV→List AV
  | []=>[]
  | x::xs=>gvA b x0 x::gvL b x0 xs
end
mutual
theorem nt{b:Nat}{x0:Blk}{hp:Hp}(hb:hp b=some x0)(hx:x0.pureB=true):∀(x:AV),bD b hp x (gvA b x0 x)
  | .vec b'=>by
    rw[gvA];cases x0 with
    | vec k es =>
      show bD b hp (.vec b') (cond (Nat.beq b' b) (.sl k es false) (.vec b'));cases e:Nat.beq b' b with
      | true=>rw[M' e];exact bD.vec hb (aV hx)
      | false=>exact bD.refl
    | box _=>exact bD.refl
    | row _ _ _ _=>exact bD.refl
    | map _ _ _=>exact bD.refl
    | mst _ _ _ _ _=>exact bD.refl
    | itr _ _ _ _=>exact bD.refl
  | .mref b'=>by
    rw[gvA];cases x0 with
    | map kk ks vs =>
      show bD b hp (.mref b') (cond (Nat.beq b' b) (.mp kk ks vs) (.mref b'));cases e:Nat.beq b' b with
      | true=>rw[M' e];exact bD.map hb (aV hx)
      | false=>exact bD.refl
    | vec _ _=>exact bD.refl
    | box _=>exact bD.refl
    | row _ _ _ _=>exact bD.refl
    | mst _ _ _ _ _=>exact bD.refl
    | itr _ _ _ _=>exact bD.refl
  | .ref b' o=>by
    rw[gvA];cases x0 with
    | box x =>
      show bD b hp (.ref b' o) (cond (Nat.beq b' b) (.rptr x o) (.ref b' o));cases e:Nat.beq b' b with
      | true=>rw[M' e];exact bD.ref hb (AV.pureB_ok hx)
      | false=>exact bD.refl
    | vec _ _=>exact bD.refl
    | row _ _ _ _=>exact bD.refl
    | map _ _ _=>exact bD.refl
    | mst _ _ _ _ _=>exact bD.refl
    | itr _ _ _ _=>exact bD.refl
  | .agg cs=>by rw[gvA];exact bD.agg (um hb hx cs)
  | .tup cs=>by rw[gvA];exact bD.tup (um hb hx cs)
  | .func f cs=>by rw[gvA];exact bD.func (um hb hx cs)
  | .val v=>by rw[gvA];exact bD.refl
  | .sl k es full=>by rw[gvA];exact bD.refl
  | .rptr x o=>by rw[gvA];exact bD.refl
  | .eref b i o=>by rw[gvA];exact bD.refl
  | .vsub b i o=>by rw[gvA];exact bD.refl
  | .asub b i o k=>by rw[gvA];exact bD.refl
  | .mp kk ks vs=>by rw[gvA];exact bD.refl
  | .unk=>by rw[gvA];exact bD.refl
theorem um{b:Nat}{x0:Blk}{hp:Hp}(hb:hp b=some x0)(hx:x0.pureB=true):∀(xs:List AV),fB b hp xs (gvL b x0 xs)
  | []=>by rw[gvL];trivial
  | x::xs=>by rw[gvL];exact⟨nt hb hx x,um hb hx xs⟩
end
theorem sA{b:Nat}{x0:Blk}{x:AV}(h:x.solid=true):(gvA b x0 x).solid=true:=by
 cases x<;>rw[gvA]<;>first|exact h|rfl|skip
 ·cases x0 with
  | box x=>show(cond _ _ _:AV).solid=true;cases Nat.beq _ b<;>rfl
  | vec _ _=>rfl
  | row _ _ _ _=>rfl
  | map _ _ _=>rfl
  | mst _ _ _ _ _=>rfl
  | itr _ _ _ _=>rfl
 ·cases x0 with
  | vec k es=>show(cond _ _ _:AV).solid=true;cases Nat.beq _ b<;>rfl
  | box _=>rfl
  | row _ _ _ _=>rfl
  | map _ _ _=>rfl
  | mst _ _ _ _ _=>rfl
  | itr _ _ _ _=>rfl
 ·cases x0 with
  | map kk ks vs=>show(cond _ _ _:AV).solid=true;cases Nat.beq _ b<;>rfl
  | box _=>rfl
  | vec _ _=>rfl
  | row _ _ _ _=>rfl
  | mst _ _ _ _ _=>rfl
  | itr _ _ _ _=>rfl
def gvB(b:Nat)(x0:Blk):Option Blk→Option Blk
 | some (.box y)=>some (.box (gvA b x0 y))
 | x=>x
theorem aF.give2{k n:Nat}{s s':S3}(b:Nat)(hnx:s'.nx=s.nx)(h1:∀t,s'.tm t=.unk∨bD b s.hp (s.tm t) (s'.tm t))
  (h2:∀b' x,s'.hp b'=some x→b'≠b∧(s.hp b'=some x∨(∃y z,s.hp b'=some (.box y)∧x=.box z∧z.solid=true∧bD b s.hp y z)∨∃kk es es',s.hp b'=some (.vec kk es)∧x=.vec kk es'∧es'.length=es.length∧fB b s.hp es es'∧((∀z∈es,z.solid=true)→∀z∈es',z.solid=true))) (hb:s.hp b≠none):aF k n s s':=by
 rintro P c a w ⟨h0,A,μ,H⟩;have hle:∀k,A k→A k∨∃hd,μ b=some hd∧hd.emp=none∧hd.blk=k:=λ_ h=>.inl h;have hlive:∃x hd,s.hp b=some x∧μ b=some hd∧(hd.emp=none→¬A hd.blk∧hd.blk<w.heap.size∧(c.own hd.blk∨c.w.heap.size≤hd.blk)):=by
  cases hx:s.hp b with
  | none=>exact absurd hx hb
  | some x=>obtain⟨hd,e1,_,e3⟩:=H.blk b x hx;exact⟨x,hd,rfl,e1,e3⟩
 obtain⟨xb,hdb,hxb,hmb,hpb⟩:=hlive;have hsub:∀b' x,s'.hp b'=some x→b'≠b∧∃y,s.hp b'=some y:=by
  intro b' x hx
  obtain⟨e1,e2|⟨y,z,e2,_⟩|⟨kk,es,es',e2,_⟩⟩:=h2 b' x hx
  ·exact⟨e1,_,e2⟩
  ·exact⟨e1,_,e2⟩
  ·exact⟨e1,_,e2⟩
 refine⟨h0,λk=>A k∨∃hd,μ b=some hd∧hd.emp=none∧hd.blk=k,μ,λt=>?_,H.n,H.df,λb' x hx=>?_,λb1 b2 x x' hd hd' hx hx'=>?_,?_,λb' hb'=>?_,H.keep,λb' hb'=>.inl (H.A0 b' hb'),?_,H.mu⟩
 ·rcases h1 t with h|h
  ·rw[h];trivial
  ·exact h P c A μ _ s.tm n a w _ H (H.tm t)
 ·obtain⟨hne,y,hy⟩:=hsub b' x hx;obtain⟨hd,g1,g2,g3⟩:=H.blk b' y hy
  refine⟨hd,g1,?_,λhe=>⟨?_,(g3 he).2⟩⟩
  ·rcases(h2 b' x hx).2 with e|⟨yy,z,e1,e2,e3,e4⟩|⟨kk,es,es',e1,e2,e3,e4,e5⟩
   ·rw[hy]at e;cases e;exact g2.mono (cJ.refl A w) hle (bp.refl _) (λ_=>rfl)
   ·rw[hy]at e1;cases e1;subst e2;obtain⟨q1,q2,v,ty,q3,q4⟩:=g2;exact⟨q1,e3,v,ty,e4 P c A μ _ s.tm n a w v H q3,q4⟩
   ·rw[hy]at e1;cases e1;subst e2;obtain⟨q1,q2⟩:=g2;refine⟨q1,?_⟩
    rcases q2 with⟨rfl,q2⟩|⟨r1,r2,r3,r4,C,ty,vs,r5,r6,r7,r8,r9,r10⟩
    ·left;have:es'=[]:=bO'.mp (by simpa using e3);exact⟨this,q2⟩
    ·exact .inr ⟨r1,by omega,r3,r4,C,ty,vs,r5,e4.rvl H r6,e5 r7,r8,r9,r10⟩
  ·rintro(h|⟨hd2,k1,k2,k3⟩)
   ·exact(g3 he).1 h
   ·exact hne (H.inj _ _ _ _ _ _ hy hxb g1 k1 he k2 k3.symm)
 ·obtain⟨_,y,hy⟩:=hsub b1 x hx;obtain⟨_,y',hy'⟩:=hsub b2 x' hx';exact H.inj _ _ _ _ _ _ hy hy'
 ·refine H.lt.mono (cJ.refl A w) hle ?_
  rintro k (h|⟨hd,k1,k2,rfl⟩)
  ·exact H.lt k h
  ·rw[hmb]at k1;cases k1;exact(hpb k2).2.1
 ·rw[hnx]at hb';obtain⟨q1,q2⟩:=H.fr b' hb';refine⟨q1,?_⟩;cases hx:s'.hp b' with
  | none=>rfl
  | some x=>obtain⟨_,y,hy⟩:=hsub b' x hx;rw[q2]at hy;cases hy
 ·rintro k (h|⟨hd,k1,k2,rfl⟩)
  ·exact H.A1 k h
  ·rw[hmb]at k1;cases k1;exact .inr (hpb k2).2.2
theorem fB.setAt{b:Nat}{hp:Hp}{y z:AV}:∀{cs:List AV} {i:Nat},bD b hp y z→fB b hp (cs.set i y) (cs.set i z)
 | [],i,h=>trivial
 | c::cs,0,h=>⟨h,fB.refl⟩
 | c::cs,i+1,h=>⟨bD.refl,fB.setAt h⟩
theorem aF.nilvecF{k n:Nat}{tm:Nat→AV}{hp:Hp}{nx:Nat}(t0 i kk k':Nat)(cs:List AV)(ht:tm t0=.agg cs)(h:cs[i]?=some (.sl kk [] true))(hk:k≤nx) :
  aF k n ⟨tm,hp,nx⟩ ⟨upd tm t0 (.agg (cs.set i (.vec nx))),upd hp nx (some (.vec k' [])),nx+1⟩:=by
 rintro P c a w ⟨h0,A,μ,H⟩;have h1:=H.tm t0;rw[show(⟨tm,hp,nx⟩:S3).tm t0=_ from ht]at h1;obtain⟨vs,e1,e2,e3⟩:=h1;have hi:i<cs.length:=(I'.mp h).1;have hl:=e2.length;obtain⟨vi,hvi⟩:∃vi,vs[i]?=some vi:=⟨vs[i]'(by omega),E' (by omega)⟩
 obtain⟨ad,hv⟩:=RV.nilsl (RVL.get2 e2 h hvi);obtain⟨f1,f2⟩:μ nx=none∧hp nx=none:=H.fr nx (V' _)
 let hd:Hd:=⟨some ad,0,k',0,0⟩
 have hle:bp μ (upd μ nx (some hd)):=by
  intro b hd' e
  by_cases g:b=nx
  ·subst g;rw[f1]at e;cases e
  ·rw[az _ _ g];exact e
 have key:=H.add nx f2 (upd μ nx (some hd)) hle (λb hb=>az _ _ hb) hd (ai _ _ _) (.vec k' []) ⟨rfl,.inl ⟨rfl,rfl⟩⟩ (λe=>by cases e) (λ_ _ _ _ _ _ e=>by cases e)
 refine⟨h0,A,upd μ nx (some hd),⟨λt=>?_,key.n,key.df,key.blk,key.inj,key.lt,λb hb=>?_,key.keep,key.A0,key.A1,key.mu⟩⟩
 ·by_cases ht:t=t0
  ·subst ht;show RV w A (upd tm t (.agg (cs.set i (.vec nx))) t) _ _;rw[ai];exact⟨vs,e1,RVL.setAt (RVL.mono (λ_ _=>rfl) (λ_ h=>h) _ hle e2) hvi ⟨hd,ai _ _ _,hv⟩,e3⟩
  ·show RV w A (upd tm t0 _ t) _ _;rw[az _ _ ht];exact key.tm t
 ·have hb:nx+1≤b:=hb;exact key.fr b ⟨show nx≤b by omega,by omega⟩
def kx(k:Nat)(c:Cmd)(s:S3)(K:S3→Prop):Prop:=
 match c with
 | .frz b=>match s.hp b with
  | some x0=>cond x0.pureB (K ⟨λt=>gvA b x0 (s.tm t),λc=>cond (Nat.beq c b) none (gvB b x0 (s.hp c)),s.nx⟩) False
  | none=>False
 | .frzE b es h=>match s.hp b with
  | some (.vec kk es')=>es'=es∧K ⟨λt=>gvA b (.vec kk es) (s.tm t),λc=>cond (Nat.beq c b) none (gvB b (.vec kk es) (s.hp c)),s.nx⟩
  | _=>False
 | .frzM b es h=>match s.hp b with
  | some (.map kk ks es')=>es'=es∧K ⟨λt=>gvA b (.map kk ks es) (s.tm t),λc=>cond (Nat.beq c b) none (gvB b (.map kk ks es) (s.hp c)),s.nx⟩
  | _=>False
 | .frzV b t i v l y x es h=>match s.hp b,s.hp t with
  | some (.vec kk es'),some (.vec k2 cs)=>es'=es∧cs=(l.map v).set i y∧gvA b (.vec kk es) y=v x∧cond (cond (Nat.beq t b) false (v x).solid)
    (K ⟨λt=>gvA b (.vec kk es) (s.tm t),λc=>cond (Nat.beq c b) none (cond (Nat.beq c t) (some (.vec k2 ((l.set i x).map v))) (gvB b (.vec kk es) (s.hp c))),s.nx⟩) False
  | _,_=>False
 | .nilF t i k'=>match s.tm t with
  | .agg cs=>match cs[i]? with
   | some (.sl _ es full)=>cond full (cond es.isEmpty (cond (Nat.ble k s.nx) (K ⟨upd s.tm t (.agg (cs.set i (.vec s.nx))),upd s.hp s.nx (some (.vec k' [])),s.nx+1⟩) False) False) False
   | _=>False
  | _=>False
 | .nilT t k'=>match s.tm t with
  | .sl _ es full=>cond full (cond es.isEmpty (cond (Nat.ble k s.nx) (K ⟨upd s.tm t (.vec s.nx),upd s.hp s.nx (some (.vec k' [])),s.nx+1⟩) False) False) False
  | _=>False
 | .nilB b i k'=>match s.hp b with
  | some (.box (.agg cs))=>match cs[i]? with
   | some (.sl _ es full)=>cond full (cond es.isEmpty (cond (Nat.ble k s.nx) (K ⟨s.tm,upd (upd s.hp b (some (.box (.agg (cs.set i (.vec s.nx)))))) s.nx (some (.vec k' [])),s.nx+1⟩) False) False) False
   | _=>False
  | _=>False
 | .nilC b k'=>match s.hp b with
  | some (.box (.sl _ es full))=>cond full (cond es.isEmpty (cond (Nat.ble k s.nx) (K ⟨s.tm,upd (upd s.hp b (some (.box (.vec s.nx)))) s.nx (some (.vec k' [])),s.nx+1⟩) False) False) False
  | _=>False
 | .wkT t sh=>K ⟨upd s.tm t (bh sh (s.tm t)),s.hp,s.nx⟩
 | .wkB b sh=>match s.hp b with
  | some (.box x)=>cond (bh sh x).solid (K ⟨s.tm,upd s.hp b (some (.box (bh sh x))),s.nx⟩) False
  | some (.vec k' es)=>cond (allB AV.solid (es.map (bh sh))) (K ⟨s.tm,upd s.hp b (some (.vec k' (es.map (bh sh)))),s.nx⟩) False
  | _=>False
 | .wkS b i sh v l y x=>match s.hp b with
  | some (.vec kk es)=>es=(l.map v).set i y∧bh sh y=v x∧cond (v x).solid (K ⟨s.tm,upd s.hp b (some (.vec kk ((l.set i x).map v))),s.nx⟩) False
  | _=>False
 | .wkV b sh v l=>match s.hp b with
  | some (.vec kk es)=>es.map (bh sh)=l.map v∧K ⟨s.tm,upd s.hp b (some (.vec kk (l.map v))),s.nx⟩
  | _=>False
theorem RVL.mapSub{w:World}{A:Nat→Prop}{μ:Mu}{f:AV→AV}(hf:∀x,Sub x (f x)):∀{xs:List AV} {vs:List Value},RVL w A xs μ vs→RVL w A (xs.map f) μ vs
 | [],_,h=>h
 | x::xs,_,⟨v,vs',h1,h2,h3⟩=>⟨v,vs',h1,hf _ _ _ _ _ h2,RVL.mapSub hf h3⟩
theorem aF.subV{k n:Nat}{tm:Nat→AV}{hp:Hp}{nx:Nat}{kk:Nat}{es:List AV}{f:AV→AV}(b0:Nat)(h0:hp b0=some (.vec kk es))(h:∀x,Sub x (f x))(hy:∀x∈es.map f,x.solid=true):aF k n ⟨tm,hp,nx⟩ ⟨tm,upd hp b0 (some (.vec kk (es.map f))),nx⟩:=by
 rintro P c a w ⟨h1,A,μ,H⟩;obtain⟨hd,q1,q2,q6⟩:=H.blk b0 _ h0;have back:∀b z,upd hp b0 (some (.vec kk (es.map f))) b=some z→∃z',hp b=some z':=by
  intro b z hz
  by_cases e:b=b0
  ·subst e;exact⟨_,h0⟩
  ·rw[az _ _ e]at hz;exact⟨z,hz⟩
 refine⟨h1,A,μ,⟨H.tm,H.n,H.df,λb z hz=>?_,λb b' z z' hd1 hd2 hz hz'=>?_,H.lt,λb hb=>?_,H.keep,H.A0,H.A1,H.mu⟩⟩
 ·have hz:upd hp b0 (some (.vec kk (es.map f))) b=some z:=hz
  by_cases e:b=b0
  ·subst e;rw[ai]at hz;cases hz;refine⟨hd,q1,?_,q6⟩;obtain⟨q2,q3⟩:=q2;refine⟨q2,?_⟩
   rcases q3 with⟨rfl,q⟩|⟨a1,a2,a3,a4,C,ty,vs,a5,a6,a7,a8⟩
   ·exact .inl ⟨rfl,q⟩
   ·exact .inr ⟨a1,by rw[f'];exact a2,a3,a4,C,ty,vs,a5,RVL.mapSub h a6,hy,a8⟩
  ·rw[az _ _ e]at hz;exact H.blk b z hz
 ·obtain⟨_,g⟩:=back _ _ hz;obtain⟨_,g'⟩:=back _ _ hz';exact H.inj _ _ _ _ _ _ g g'
 ·have:μ b=none∧hp b=none:=H.fr b hb;refine⟨this.1,?_⟩;show upd hp b0 (some (.vec kk (es.map f))) b=none
  by_cases e:b=b0
  ·subst e;rw[h0]at this;cases this.2
  ·rw[az _ _ e];exact this.2
theorem aF.subL{k n:Nat}{tm:Nat→AV}{hp:Hp}{nx:Nat}{kk:Nat}{es es':List AV}(b0:Nat)(h0:hp b0=some (.vec kk es))(hl:es'.length=es.length)(h:∀(i:Nat) x y,es[i]?=some x→es'[i]?=some y→Sub x y)(hy:∀x∈es,x.solid=true→True)(hs:(∀x∈es,x.solid=true)→∀x∈es',x.solid=true):aF k n ⟨tm,hp,nx⟩ ⟨tm,upd hp b0 (some (.vec kk (es'))),nx⟩:=by
 rintro P c a w ⟨h1,A,μ,H⟩;obtain⟨hd,q1,q2,q6⟩:=H.blk b0 _ h0;have back:∀b z,upd hp b0 (some (.vec kk (es'))) b=some z→∃z',hp b=some z':=by
  intro b z hz
  by_cases e:b=b0
  ·subst e;exact⟨_,h0⟩
  ·rw[az _ _ e]at hz;exact⟨z,hz⟩
 refine⟨h1,A,μ,⟨H.tm,H.n,H.df,λb z hz=>?_,λb b' z z' hd1 hd2 hz hz'=>?_,H.lt,λb hb=>?_,H.keep,H.A0,H.A1,H.mu⟩⟩
 ·have hz:upd hp b0 (some (.vec kk (es'))) b=some z:=hz
  by_cases e:b=b0
  ·subst e;rw[ai]at hz;cases hz;refine⟨hd,q1,?_,q6⟩;obtain⟨q2,q3⟩:=q2;refine⟨q2,?_⟩
   rcases q3 with⟨rfl,q⟩|⟨a1,a2,a3,a4,C,ty,vs,a5,a6,a7,a8⟩
   ·exact .inl ⟨aG' hl,q⟩
   ·exact .inr ⟨a1,by rw[hl];exact a2,a3,a4,C,ty,vs,a5,RVL.of_get (by rw[hl];exact a6.length) (λi y v hy hv=>by
     have hi:i<es.length:=by have:=(I'.mp hy).1;omega
     exact h i _ _ (E' hi) hy _ _ _ _ (a6.get2 (E' hi) hv)),hs a7,a8⟩
  ·rw[az _ _ e]at hz;exact H.blk b z hz
 ·obtain⟨_,g⟩:=back _ _ hz;obtain⟨_,g'⟩:=back _ _ hz';exact H.inj _ _ _ _ _ _ g g'
 ·have:μ b=none∧hp b=none:=H.fr b hb;refine⟨this.1,?_⟩;show upd hp b0 (some (.vec kk (es'))) b=none
  by_cases e:b=b0
  ·subst e;rw[h0]at this;cases this.2
  ·rw[az _ _ e];exact this.2
theorem aF.nilvecC{k n:Nat}{tm:Nat→AV}{hp:Hp}{nx:Nat}(b0 kk k':Nat)(hb:hp b0=some (.box (.sl kk [] true)))(hk:k≤nx) :
  aF k n ⟨tm,hp,nx⟩ ⟨tm,upd (upd hp b0 (some (.box (.vec nx)))) nx (some (.vec k' [])),nx+1⟩:=by
 rintro P c a w ⟨h0,A,μ,H⟩;obtain⟨hd0,q1,⟨q2,q3,v0,ty0,q5,q7⟩,q8⟩:=H.blk b0 _ hb;obtain⟨ad,hv⟩:=RV.nilsl q5;obtain⟨f1,f2⟩:μ nx=none∧hp nx=none:=H.fr nx (V' _)
 let hd:Hd:=⟨some ad,0,k',0,0⟩
 have hne:b0≠nx:=λe=>by subst e;rw[f2]at hb;cases hb
 have hle:bp μ (upd μ nx (some hd)):=by
  intro b hd' e
  by_cases g:b=nx
  ·subst g;rw[f1]at e;cases e
  ·rw[az _ _ g];exact e
 have key:=H.add nx f2 (upd μ nx (some hd)) hle (λb hb=>az _ _ hb) hd (ai _ _ _) (.vec k' []) ⟨rfl,.inl ⟨rfl,rfl⟩⟩ (λe=>by cases e) (λ_ _ _ _ _ _ e=>by cases e);have hswap:upd (upd hp b0 (some (.box (.vec nx)))) nx (some (.vec k' []))=upd (upd hp nx (some (.vec k' []))) b0 (some (.box (.vec nx))):=by
  funext b
  by_cases e1:b=b0
  ·subst e1;rw[ai,az _ _ hne,ai]
  ·rw[az _ _ e1]
   by_cases e2:b=nx
   ·subst e2;rw[ai,ai]
   ·rw[az _ _ e2,az _ _ e1,az _ _ e2]
 rw[hswap];have back:∀b x,upd (upd hp nx (some (.vec k' []))) b0 (some (.box (.vec nx))) b=some x→∃y,upd hp nx (some (.vec k' [])) b=some y:=by
  intro b x hx
  by_cases e:b=b0
  ·subst e;exact⟨.box (.sl kk [] true),by rw[az _ _ hne];exact hb⟩
  ·rw[az _ _ e]at hx;exact⟨x,hx⟩
 refine⟨h0,A,upd μ nx (some hd),⟨key.tm,key.n,key.df,λb x hx=>?_,λb b' x x' hd1 hd2 hx hx'=>?_,key.lt,λb hb'=>?_,key.keep,key.A0,key.A1,key.mu⟩⟩
 ·by_cases e:b=b0
  ·subst e;have hx:some (Blk.box (.vec nx))=some x:=by
    rw[←hx];exact(ai _ _ _).symm
   cases hx;exact⟨hd0,hle _ _ q1,⟨q2,rfl,v0,ty0,⟨hd,ai _ _ _,hv⟩,q7⟩,q8⟩
  ·have hx:upd hp nx (some (.vec k' [])) b=some x:=by
    rw[←hx];exact(az _ _ e).symm
   exact key.blk b x hx
 ·obtain⟨y,hy⟩:=back b x hx;obtain⟨y',hy'⟩:=back b' x' hx';exact key.inj _ _ _ _ _ _ hy hy'
 ·have hb':nx+1≤b:=hb';have:upd μ nx (some hd) b=none∧upd hp nx (some (.vec k' [])) b=none:=key.fr b ⟨show nx≤b by omega,by omega⟩;refine⟨this.1,?_⟩;show upd (upd hp nx (some (.vec k' []))) b0 _ b=none
  by_cases e:b=b0
  ·subst e;have:=this.2;rw[az _ _ hne,hb]at this;cases this
  ·rw[az _ _ e];exact this.2
theorem pW{k n b:Nat}{x0:Blk}{s:S3}(hb:s.hp b=some x0)(hx:x0.pureB=true):aF k n s ⟨λt=>gvA b x0 (s.tm t),λc=>cond (Nat.beq c b) none (gvB b x0 (s.hp c)),s.nx⟩:=by
 rintro P c a w H;obtain⟨h0,A,μ,R⟩:=H;refine aF.give (s:=s) (s':=⟨λt=>gvA b x0 (s.tm t),λc=>cond (Nat.beq c b) none (gvB b x0 (s.hp c)),s.nx⟩) (k:=k) (n:=n) b rfl (λt=>.inr (nt hb hx _)) (λb' x hx'=>?_) (by rw[hb];simp) P c a w ⟨h0,A,μ,R⟩;have hx':cond (Nat.beq b' b) none (gvB b x0 (s.hp b'))=some x:=hx';cases e:Nat.beq b' b with
 | true=>rw[e]at hx';cases hx'
 | false =>
  rw[e]at hx';have hx':gvB b x0 (s.hp b')=some x:=hx';refine⟨λe'=>by subst e';simp at e,?_⟩;cases hs:s.hp b' with
  | none=>rw[hs]at hx';cases hx'
  | some y =>
   rw[hs]at hx';cases y with
   | box y =>
    cases hx';obtain⟨hd,g1,g2,g3⟩:=R.blk b' _ hs;exact .inr ⟨y,_,rfl,rfl,sA g2.2.1,nt hb hx y⟩
   | vec k es=>cases hx';exact .inl rfl
   | row k es l c=>cases hx';exact .inl rfl
   | map kk ks vs=>cases hx';exact .inl rfl
   | mst _ _ _ _ _=>cases hx';exact .inl rfl
   | itr _ _ _ _=>cases hx';exact .inl rfl
theorem Ff{k n b t i k2:Nat}{α:Type}{x0:Blk}{s:S3}{v:α→AV}{l:List α}{y:AV}{x:α}(hb:s.hp b=some x0)(hx:x0.pureB=true)(ht:s.hp t=some (.vec k2 ((l.map v).set i y)))
  (hg:gvA b x0 y=v x) (hne:t≠b) (hso:(v x).solid=true) :
  aF k n s ⟨λt=>gvA b x0 (s.tm t),λc=>cond (Nat.beq c b) none (cond (Nat.beq c t) (some (.vec k2 ((l.set i x).map v))) (gvB b x0 (s.hp c))),s.nx⟩:=by
 rintro P c a w H;obtain⟨h0,A,μ,R⟩:=H;refine aF.give2 (s:=s) (s':=⟨λt=>gvA b x0 (s.tm t),λc=>cond (Nat.beq c b) none (cond (Nat.beq c t) (some (.vec k2 ((l.set i x).map v))) (gvB b x0 (s.hp c))),s.nx⟩) (k:=k) (n:=n) b rfl (λt=>.inr (nt hb hx _)) (λb' z hz=>?_) (by rw[hb];simp) P c a w ⟨h0,A,μ,R⟩;have hz:cond (Nat.beq b' b) none (cond (Nat.beq b' t) (some (.vec k2 ((l.set i x).map v))) (gvB b x0 (s.hp b')))=some z:=hz;cases e:Nat.beq b' b with
 | true=>rw[e]at hz;cases hz
 | false =>
  rw[e]at hz;have hz:cond (Nat.beq b' t) (some (.vec k2 ((l.set i x).map v))) (gvB b x0 (s.hp b'))=some z:=hz;refine⟨λe'=>by subst e';simp at e,?_⟩;cases e2:Nat.beq b' t with
  | true =>
   rw[e2]at hz;cases hz;have e2:=M' e2;subst e2
   refine .inr (.inr ⟨k2,_,_,ht,rfl,by simp,?_,λhs z hz=>?_⟩)
   ·rw[bm',←hg];exact fB.setAt (nt hb hx y)
   ·rw[bm']at hz;obtain⟨j,hj,rfl⟩:=ad' hz;rw[bc']
    split
    ·exact hso
    ·rename_i hij;refine hs _ (al' (i:=j) ?_);simp at hj;rw[bN',u' hij,E' (by simpa using hj)]
  | false =>
   rw[e2]at hz;have hz:gvB b x0 (s.hp b')=some z:=hz;cases hs:s.hp b' with
   | none=>rw[hs]at hz;cases hz
   | some y =>
    rw[hs]at hz;cases y with
    | box y =>
     cases hz;obtain⟨hd,g1,g2,g3⟩:=R.blk b' _ hs;exact .inr (.inl ⟨y,_,rfl,rfl,sA g2.2.1,nt hb hx y⟩)
    | vec k es=>cases hz;exact .inl rfl
    | row k es l c=>cases hz;exact .inl rfl
    | map kk ks vs=>cases hz;exact .inl rfl
    | mst _ _ _ _ _=>cases hz;exact .inl rfl
    | itr _ _ _ _=>cases hz;exact .inl rfl
theorem oL{k n:Nat}{c:Cmd}{s:S3}{K:S3→Prop}(h:kx k c s K):∃s',aF k n s s'∧K s':=by
 obtain⟨tm,hp,nx⟩:=s;cases c with
 | frz b =>
  simp only[kx]at h
  split at h
  ·rename_i x0 e;obtain⟨h1,h⟩:=au h;exact⟨_,pW e h1,h⟩
  ·exact h.elim
 | frzE b es hes =>
  simp only[kx]at h
  split at h
  ·rename_i kk es' e;obtain⟨rfl,h⟩:=h;exact⟨_,pW e hes,h⟩
  ·exact h.elim
 | frzM b es hes =>
  simp only[kx]at h
  split at h
  ·rename_i kk ks es' e;obtain⟨rfl,h⟩:=h;exact⟨_,pW e hes,h⟩
  ·exact h.elim
 | frzV b t i v l y x es hes =>
  simp only[kx]at h
  split at h
  ·rename_i kk es' k2 cs e1 e2;obtain⟨rfl,rfl,h1,h⟩:=h;obtain⟨h2,h⟩:=au h
   refine⟨_,Ff (x0:=.vec kk es') e1 hes e2 h1 (λe'=>?_) ?_,h⟩
   ·subst e';simp at h2
   ·revert h2;cases Nat.beq t b<;>simp
  ·exact h.elim
 | nilF t i k' =>
  simp only[kx]at h
  split at h
  ·rename_i cs e
   split at h
   ·rename_i kk es full e2;obtain⟨h1,q⟩:=au h;clear h;obtain⟨h2,q'⟩:=au q;obtain⟨h3,g'⟩:=au q';have h2:es=[]:=by cases es<;>simp_all
    subst h1;subst h2;exact⟨_,aF.nilvecF t i kk k' cs e e2 (U' h3),g'⟩
   ·exact h.elim
  ·exact h.elim
 | nilT t k' =>
  simp only[kx]at h
  split at h
  ·rename_i kk es full e;obtain⟨h1,q⟩:=au h;clear h;obtain⟨h2,q'⟩:=au q;obtain⟨h3,g'⟩:=au q';have h2:es=[]:=by cases es<;>simp_all
   subst h1;subst h2;exact⟨_,aF.nilvec t kk k' e (U' h3),g'⟩
  ·exact h.elim
 | nilB b i k' =>
  simp only[kx]at h
  split at h
  ·rename_i cs e
   split at h
   ·rename_i kk es full e2;obtain⟨h1,q⟩:=au h;clear h;obtain⟨h2,q'⟩:=au q;obtain⟨h3,g'⟩:=au q';have h2:es=[]:=by cases es<;>simp_all
    subst h1;subst h2;exact⟨_,aF.nilvecB b i kk k' cs e e2 (U' h3),g'⟩
   ·exact h.elim
  ·exact h.elim
 | nilC b k' =>
  simp only[kx]at h
  split at h
  ·rename_i kk es full e;obtain⟨h1,q⟩:=au h;clear h;obtain⟨h2,q'⟩:=au q;obtain⟨h3,g'⟩:=au q';have h2:es=[]:=by cases es<;>simp_all
   subst h1;subst h2;exact⟨_,aF.nilvecC b kk k' e (U' h3),g'⟩
  ·exact h.elim
 | wkT t sh=>exact⟨_,aF.subT _ (dG _ _),h⟩
 | wkB b sh =>
  simp only[kx]at h
  split at h
  ·rename_i x e;obtain⟨h1,h⟩:=au h;exact⟨_,aF.subB b e (dG _ _) h1,h⟩
  ·rename_i k' es e;obtain⟨h1,h⟩:=au h;exact⟨_,aF.subV b e (dG _) (oN h1),h⟩
  ·exact h.elim
 | wkV b sh v l =>
  simp only[kx]at h
  split at h
  ·rename_i kk es e;obtain⟨h1,h⟩:=h
   refine⟨_,aF.subL (es':=l.map v) b e (by rw[←h1];simp) (λj p q hp hq=>?_) (λ_ _ _=>trivial) (λho z hz=>?_),h⟩
   ·rw[←h1,S',hp]at hq;cases hq;exact dG _ _
   ·rw[←h1]at hz;obtain⟨y,hy,rfl⟩:=R'.mp hz;rw[qg];exact ho y hy
  ·exact h.elim
 | wkS b i sh v l y x =>
  simp only[kx]at h
  split at h
  ·rename_i kk es e;obtain⟨rfl,h1,h⟩:=h;obtain⟨h2,h⟩:=au h
   refine⟨_,aF.subL (es':=(l.set i x).map v) b e (by simp) (λj p q hp hq=>?_) (λ_ _ _=>trivial) (λho z hz=>?_),h⟩
   ·rw[bm',bN']at hq;rw[bN']at hp
    by_cases g:i=j
    ·subst g;simp only[↓reduceIte]at hp hq
     split at hp
     ·rename_i hlt;rw[if_pos hlt]at hq;cases hp;cases hq;rw[←h1];exact dG _ _
     ·cases hp
    ·rw[u' g]at hp hq;rw[hp]at hq;cases hq;exact Sub.refl
   ·rw[bm']at hz;obtain⟨j,hj,rfl⟩:=bl'.mp hz;rw[bc']
    split
    ·exact h2
    ·rename_i g;have hj':j<(l.map v).length:=by simpa using hj
     have:=ho ((l.map v)[j]) (bl'.mpr ⟨j,by simpa using hj',by rw[bc',u' g]⟩);exact this
  ·exact h.elim
def KJ(k:Nat):List Cmd→S3→(S3→Prop)→Prop
 | [],s,K=>K s
 | c::r,s,K=>kx k c s λs=>KJ k r s K
theorem xS{k n:Nat}{K:S3→Prop}:∀{cs:List Cmd} {s:S3},KJ k cs s K→∃s',aF k n s s'∧K s'
 | [],s,h=>⟨s,aF.refl,h⟩
 | c::r,s,h=>by
  obtain⟨s1,h1,h2⟩:=oL (n:=n) h;obtain⟨s2,h3,h4⟩:=xS (n:=n) h2;exact⟨s2,h1.trans h3,h4⟩
def hsB(m:Nat):List PB→Bool
 | []=>true
 | .box x::r=>cond (x.belB m) (hsB m r) false
 | .vec _ _ _::r=>hsB m r
 | .arr _ _::r=>hsB m r
 | .map _ _ _ _::r=>hsB m r
 | .gone::r=>hsB m r
def tsB(m:Nat):List (Nat×Sh×AV)→Bool
 | []=>true
 | p::r=>cond (p.2.2.belB m) (tsB m r) false
def pY(b:Nat):List Nat→List PB→Bool
 | c::bs,x::hs=>cond x.isGone (pY b bs hs) (cond (Nat.beq c b) false (pY b bs hs))
 | _,_=>true
def EU:List Nat→List PB→Bool
 | b::bs,x::hs=>cond x.isGone (EU bs hs) (cond (pY b bs hs) (EU bs hs) false)
 | _,_=>true
theorem pX{b:Nat}:∀{bs:List Nat} {hs:List PB},pY b bs hs=true→∀(i:Nat) c x,bs[i]?=some c→hs[i]?=some x→x.isGone=false→c≠b
 | [],_,_,i,c,x,h1,_,_=>by simp at h1
 | _::_,[],_,i,c,x,_,h2,_=>by simp at h2
 | c0::bs,x0::hs,h,i,c,x,h1,h2,h3=>by
  rw[pY]at h;cases i with
  | zero =>
   cases h1;cases h2;rw[h3]at h;rintro rfl;simp at h
  | succ i =>
   have h:pY b bs hs=true:=by
    cases e:x0.isGone with
    | true=>rw[e]at h;exact h
    | false =>
     rw[e]at h;cases e2:Nat.beq c0 b with
     | true=>rw[e2]at h;cases h
     | false=>rw[e2]at h;exact h
   exact pX h i c x (by simpa using h1) (by simpa using h2) h3
theorem Dj:∀{bs:List Nat} {hs:List PB},EU bs hs=true→∀(i j:Nat) c x y,bs[i]?=some c→bs[j]?=some c→hs[i]?=some x→hs[j]?=some y→x.isGone=false→y.isGone=false→i=j
 | [],_,_,i,j,c,x,y,h1,_,_,_,_,_=>by simp at h1
 | _::_,[],_,i,j,c,x,y,_,_,h2,_,_,_=>by simp at h2
 | c0::bs,x0::hs,h,i,j,c,x,y,h1,h1',h2,h2',h3,h3'=>by
  rw[EU]at h;have hr:EU bs hs=true∧(x0.isGone=false→pY c0 bs hs=true):=by
   cases e:x0.isGone with
   | true=>rw[e]at h;exact⟨h,λh=>by cases h⟩
   | false =>
    rw[e]at h;obtain⟨a,b⟩:=ag.mp h;exact⟨b,λ_=>a⟩
  rcases i with _|i<;>rcases j with _|j
  ·rfl
  ·cases h1;cases h2;exact absurd rfl (pX (hr.2 h3) j _ _ (by simpa using h1') (by simpa using h2') h3')
  ·cases h1';cases h2';exact absurd rfl (pX (hr.2 h3') i _ _ (by simpa using h1) (by simpa using h2) h3)
  ·exact congrArg (·+1) (Dj hr.1 i j c x y (by simpa using h1) (by simpa using h1') (by simpa using h2) (by simpa using h2') h3 h3')
def nfB(k:Nat)(m:NF)(bs:List Nat):Bool:=
 cond (Nat.beq bs.length m.hs.length) (cond (EU bs m.hs) (cond ((List.range k).all λb=>Nat.beq (bs.getD b 0) b) (cond (Nat.ble k m.hs.length) (cond (tsB m.hs.length m.ts) (hsB m.hs.length m.hs) false) false) false) false) false
def NF.lhs(m:NF)(s:S3)(bs:List Nat):List AV×List (Option Blk):=(m.ts.map λp=>bh p.2.1 (s.tm p.1),List.zipWith (λb x=>PB.see (s.hp b) x) bs m.hs)
def NF.rhs(m:NF)(bs:List Nat):List AV×List (Option Blk):=(m.ts.map λp=>p.2.2.ren λi=>bs.getD i 0,m.hs.map λx=>x.ren λi=>bs.getD i 0)
def nfP(k:Nat)(s:S3)(m:NF)(bs:List Nat)(R:Prop):Prop:=cond (nfB k m bs) (m.lhs s bs=m.rhs bs∧R) False
def Nf(m:NF)(bs:List Nat)(R:Prop):Prop:=m.rhs bs=m.rhs bs∧R
theorem qR{m:NF}{bs:List Nat}{R:Prop}:Nf m bs R↔R:=⟨λh=>h.2,λh=>⟨rfl,h⟩⟩
theorem nq{m:Nat}:∀{hs:List PB},hsB m hs=true→∀x∈hs,∀B,x.blk=some B→B.bel m∧∀π,x.ren π=some (B.ren π)
 | [],_,x,hx,_,_=>by simp at hx
 | .box y::r,h,x,hx,B,hB=>by
  obtain⟨h1,h2⟩:=ag.mp h
  rcases P'.mp hx with rfl|hx
  ·cases hB;exact⟨AV.belB_ok h1,λπ=>rfl⟩
  ·exact nq h2 x hx B hB
 | .vec k es hes::r,h,x,hx,B,hB=>by
  rcases P'.mp hx with rfl|hx
  ·cases hB;exact⟨bm (aV hes),λπ=>by show some (Blk.vec k es)=some (.vec k (dm π es));rw[bf _ (aV hes)]⟩
  ·exact nq (hs:=r) h x hx B hB
 | .arr es hes::r,h,x,hx,B,hB=>by
  rcases P'.mp hx with rfl|hx
  ·cases hB;exact⟨bm (aV hes),λπ=>by show some (Blk.box (.agg es))=some (.box (.agg (dm π es)));rw[bf _ (aV hes)]⟩
  ·exact nq (hs:=r) h x hx B hB
 | .map kk ks vs hes::r,h,x,hx,B,hB=>by
  rcases P'.mp hx with rfl|hx
  ·cases hB;exact⟨bm (aV hes),λπ=>by show some (Blk.map kk ks vs)=some (.map kk ks (dm π vs));rw[bf _ (aV hes)]⟩
  ·exact nq (hs:=r) h x hx B hB
 | .gone::r,h,x,hx,B,hB=>by
  rcases P'.mp hx with rfl|hx
  ·cases hB
  ·exact nq (hs:=r) h x hx B hB
theorem vL{tm:Nat→AV}{π:Nat→Nat}{m:Nat}:∀{ts:List (Nat×Sh×AV)},(ts.map λp=>bh p.2.1 (tm p.1))=(ts.map λp=>p.2.2.ren π)→tsB m ts=true →
  ∀t,(ed (ts.map λp=>(p.1,p.2.2)) t).bel m∧Sub (tm t) ((ed (ts.map λp=>(p.1,p.2.2)) t).ren π)
 | [],_,_,t=>⟨trivial,Sub.unk⟩
 | p::ts,h,hb,t=>by
  simp only[au',List.cons.injEq]at h;obtain⟨h1,h2⟩:=ag.mp hb;obtain⟨i1,i2⟩:=vL h.2 h2 t
  by_cases e:t=p.1
  ·subst e;simp only[au',ed,↓reduceIte];exact⟨AV.belB_ok h1,h.1 ▸ dG _ _⟩
  ·simp only[au',ed,u' e];exact⟨i1,i2⟩
theorem pC{k n:Nat}{s:S3}{m:NF}{bs:List Nat}{R:Prop}(h:nfP k s m bs R):aF k n s m.st∧R:=by
 obtain⟨h2,h1,h3⟩:=au h;refine⟨?_,h3⟩;obtain⟨e1,e2⟩:=Prod.mk.inj h1;obtain⟨c1,h2⟩:=ag.mp h2;obtain⟨c2,h2⟩:=ag.mp h2;obtain⟨c3,h2⟩:=ag.mp h2;obtain⟨c4,h2⟩:=ag.mp h2;obtain⟨c5,c6⟩:=ag.mp h2;have c1:=M' c1;have c4:=U' c4;have c2:=Dj c2;have live:∀{y:PB} {x},y.blk=some x→y.isGone=false∧∀v,PB.see v y=v:=by
  intro y x e;cases y<;>first|exact⟨rfl,λv=>rfl⟩|cases e
 have hres:=vL e1 c5;refine aF.trans (s2:=⟨λt=>(m.st.tm t).ren λi=>bs.getD i 0,s.hp,s.nx⟩) (aF.sub (λt=>(hres t).2) rfl rfl) ?_;have hlt:∀{b x},m.st.hp b=some x→(∃y,m.hs[b]?=some y∧y.blk=some x)∧b<m.hs.length:=by
  intro b x e;rw[show m.st.hp=bo (m.hs.map PB.blk)from(mw _).symm]at e;have e:=bu.mp e;rw[S',aw']at e;obtain⟨y,e1,e2⟩:=e;exact⟨⟨y,e1,e2⟩,(I'.mp e1).1⟩
 have hbs:∀{b},b<m.hs.length→bs[b]?=some (bs.getD b 0):=by
  intro b hb;rw[J',E' (show b<bs.length by omega)];rfl
 refine aF.ren (λi=>bs.getD i 0) (λt=>.inr ⟨rfl,(hres t).1⟩) (λb x e=>?_) (λb b' e e' he=>?_) (λb hb=>?_) c4
 ·obtain⟨⟨y,g1,g3⟩,g2⟩:=hlt e;obtain⟨q1,q2⟩:=nq c6 y (al' g1) x g3;refine⟨g2,?_,q1⟩;have:(List.zipWith (λb x=>PB.see (s.hp b) x) bs m.hs)[b]?=(m.hs.map λx=>x.ren λi=>bs.getD i 0)[b]?:=by rw[←e2]
  rw[List.getElem?_zipWith,S',hbs g2,g1]at this;simp only[ah',aK',(live g3).2]at this;show s.hp (bs.getD b 0)=_;rw[this,q2]
 ·have hb:∀{b},m.st.hp b≠none→∃y,m.hs[b]?=some y∧y.isGone=false∧b<m.hs.length:=by
   intro b e;cases hx:m.st.hp b with
   | none=>exact absurd hx e
   | some x =>
    obtain⟨⟨y,g1,g3⟩,g2⟩:=hlt hx;exact⟨y,g1,(live g3).1,g2⟩
  obtain⟨y,a1,a2,a3⟩:=hb e;obtain⟨y',a1',a2',a3'⟩:=hb e';have he:bs.getD b 0=bs.getD b' 0:=he;exact c2 b b' _ y y' (hbs a3) (by rw[hbs a3',he]) a1 a1' a2 a2'
 ·have:=ba'.mp c3 b (aZ'.mpr hb);exact M' this
section
variable {P : Program} {Sf : Nat → Type} {T : Type} (k : Nat)
def pre:An P Sf T→S3→(An P Sf T→S3→Prop)→Prop
 | .cmd c a,s,K=>kx k c s λs'=>pre a s' K
 | .wait a,s,K=>K a s
 | a,s,K=>K a s
def mZ:An P Sf T→S3→(An P Sf T→S3→Prop)→Prop
 | .cmd c a,s,K=>kx k c s λs'=>mZ a s' K
 | .cmdL c a,s,K=>kx k c s λs'=>mZ a s' K
 | a,s,K=>K a s
abbrev KX(P:Program)(Sf:Nat→Type)(T:Type):=X→An P Sf T→S3→Prop
def yp(j:Nat)(nf:Sf j→NF)(R:Sf j→Prop)(a:An P Sf T)(s:S3):Prop:=
 match a with
 | .back j' t bs=>if h:j'=j then nfP k s (nf (h ▸ t)) bs (R (h ▸ t))else False
 | _=>False
def Jf(c:AO)(b:Bool)(tm:Nat→AV):Nat→AV:=match c with
 | .t t=>upd tm t (.val (.bool b))
 | .c _=>tm
def Rm(f:An P Sf T→S3→KX P Sf T→Prop):Nat→An P Sf T→S3→KX P Sf T→Prop
 | 0,_,_,_=>False
 | m+1,a,s,K=>f a s λe a' s'=>match e with
  | .normal=>Rm f m a' s' K
  | e=>K e a' s'
def wpA:AC→An P Sf T→S3→KX P Sf T→Prop
 | .skip,a,s,K=>K .normal a s
 | .reg ops,a,s,K=>pre k a s λa s=>mU ops s.nx ⟨s.tm,s.hp⟩ a λa' s' f=>K .normal a' ⟨s'.tm,s'.hp,f⟩
 | .dreg ops par,a,s,K=>pre k a s λa s=>lR ops s.nx ⟨s.tm,s.hp⟩ [] a λa' s' f lg=>cond (vT par lg) (K .normal a' ⟨s'.tm,s'.hp,f⟩) False
 | .seq x y,a,s,K=>match a with
  | .pass a=>wpA x a s λe a' s'=>match e with
   | .normal=>wpA y a' s' K
   | e=>K e a' s'
  | .join j nf I a body=>(wpA x a s λe a' s'=>match e with
    | .normal=>mZ k a' s' λa' s'=>yp k j nf I a' s'
    | e=>K e a' s')∧∀t,I t→wpA y (body t) (nf t).st K
  | .join2 j nf I a body=>match y with
   | .seq y z=>(wpA x a s λe a' s'=>match e with
     | .normal=>wpA y a' s' λe a' s'=>match e with
      | .normal=>mZ k a' s' λa' s'=>yp k j nf I a' s'
      | e=>K e a' s'
     | e=>K e a' s')∧∀t,I t→wpA z (body t) (nf t).st K
   | _=>False
  | .hand k0 cs m1 bs s2 c _ a=>KJ k cs s λs=>nfP k s m1 bs (cond (Nat.beq k k0) (x=c∧wpA y a s2 K) False)
  | .hand2 k0 s1 s2 c _ a=>cond (Nat.beq k k0) (s=s1∧x=c∧wpA y a s2 K) False
  | .handQ k0 m1 bs s2 c p _ a=>nfP k s m1 bs (cond (Nat.beq k k0) (x=c∧p∧wpA y a s2 K) False)
  | a=>wpA x a s λe a' s'=>match e with
   | .normal=>wpA y a' s' K
   | e=>K e a' s'
 | .cond c x y,a,s,K=>pre k a s λa s=>match evO s.tm c with
  | .val (.bool b)=>cond b (wpA x (a.l s.nx) ⟨Jf c true s.tm,s.hp,s.nx⟩ K) (wpA y (a.r s.nx) ⟨Jf c false s.tm,s.hp,s.nx⟩ K)
  | _=>False
 | .block id x,a,s,K=>wpA x a s λe a' s'=>match e with
  | .exit i=>cond (Nat.beq i id) (K .normal a' s') (K (.exit i) a' s')
  | e=>K e a' s'
 | .loop x,a,s,K=>mZ k a s λa s=>match a with
  | .loop j nf I mu s0 bs body=>nfP k s (nf s0) bs (I s0)∧∀t,I t→wpA x (body t) (nf t).st λe a' s'=>match e with
   | .normal=>mZ k a' s' λa' s'=>yp k j nf (λt'=>I t'∧mu t'<mu t) a' s'
   | e=>K e a' s'
  | .unr m a=>Rm (λa s K=>wpA x a s K) m a s K
  | _=>False
 | .exit id,a,s,K=>K (.exit id) a s
 | .ret,a,s,K=>K .ret a s
 | .scope x,a,s,K=>wpA x a s K
 | .label,a,s,K=>K .normal a s
 | .bad,_,_,_=>False
end
section
variable {P : Program} {Sf : Nat → Type} {T : Type} {k n : Nat}
theorem tQ{K:An P Sf T→S3→Prop}:∀{a:An P Sf T} {s:S3},pre k a s K→∃a' s',aF k n s s'∧K a' s'
 | .cmd c a,s,h=>by
  rw[pre]at h;obtain⟨s',h1,h2⟩:=oL (n:=n) h;obtain⟨a',s2,h3,h4⟩:=tQ h2;exact⟨a',s2,h1.trans h3,h4⟩
 | .wait a,s,h=>⟨a,s,aF.refl,by rw[pre]at h;exact h⟩
 | .cmdL _ _,s,h|.nil,s,h|.pass _,s,h|.br _ _ _,s,h|.el _ _ _ _,s,h|.elA _ _ _ _ _ _ _,s,h|.st _ _ _ _ _,s,h|.stI _ _ _ _,s,h|.app _ _ _ _ _,s,h|.appF _ _ _ _ _,s,h|.sub _ _ _ _ _,s,h|.rep _ _ _ _,s,h|.own _ _,s,h|.mn _ _ _,s,h|.req _ _ _,s,h|.callP _ _,s,h|.callH _ _ _,s,h|.callA _ _ _,s,h
 | .loop _ _ _ _ _ _ _,s,h|.join _ _ _ _ _,s,h|.join2 _ _ _ _ _,s,h|.back _ _ _,s,h|.hand _ _ _ _ _ _ _ _,s,h|.hand2 _ _ _ _ _ _,s,h|.handQ _ _ _ _ _ _ _ _,s,h|.unr _ _,s,h|.ret _,s,h|.retH _ _ _,s,h=>⟨_,s,aF.refl,h⟩
theorem gK{K:An P Sf T→S3→Prop}:∀{a:An P Sf T} {s:S3},mZ k a s K→∃a' s',aF k n s s'∧K a' s'
 | .cmd c a,s,h=>by
  rw[mZ]at h;obtain⟨s',h1,h2⟩:=oL (n:=n) h;obtain⟨a',s2,h3,h4⟩:=gK h2;exact⟨a',s2,h1.trans h3,h4⟩
 | .cmdL c a,s,h=>by
  rw[mZ]at h;obtain⟨s',h1,h2⟩:=oL (n:=n) h;obtain⟨a',s2,h3,h4⟩:=gK h2;exact⟨a',s2,h1.trans h3,h4⟩
 | .wait _,s,h|.nil,s,h|.pass _,s,h|.br _ _ _,s,h|.el _ _ _ _,s,h|.elA _ _ _ _ _ _ _,s,h|.st _ _ _ _ _,s,h|.stI _ _ _ _,s,h|.app _ _ _ _ _,s,h|.appF _ _ _ _ _,s,h|.sub _ _ _ _ _,s,h|.rep _ _ _ _,s,h|.own _ _,s,h|.mn _ _ _,s,h|.req _ _ _,s,h|.callP _ _,s,h|.callH _ _ _,s,h|.callA _ _ _,s,h
 | .loop _ _ _ _ _ _ _,s,h|.join _ _ _ _ _,s,h|.join2 _ _ _ _ _,s,h|.back _ _ _,s,h|.hand _ _ _ _ _ _ _ _,s,h|.hand2 _ _ _ _ _ _,s,h|.handQ _ _ _ _ _ _ _ _,s,h|.unr _ _,s,h|.ret _,s,h|.retH _ _ _,s,h=>⟨_,s,aF.refl,h⟩
theorem qM{j:Nat}{nf:Sf j→NF}{R:Sf j→Prop}{a:An P Sf T}{s:S3}(h:yp k j nf R a s):∃t,R t∧aF k n s (nf t).st:=by
 unfold yp at h
 split at h
 ·rename_i j' t bs
  by_cases e:j'=j
  ·subst e;rw[dif_pos rfl]at h;obtain⟨h1,h2⟩:=pC (n:=n) h;exact⟨_,h2,h1⟩
  ·rw[dif_neg e]at h;exact h.elim
 ·exact h.elim
theorem CX{c:AO}{b:Bool}{tm:Nat→AV}(h:evO tm c=.val (.bool b)):Jf c b tm=tm:=by
 cases c with
 | t t=>exact eI h
 | c x=>rfl
theorem di:∀{c:AC} {a:An P Sf T} {s:S3} {K:KX P Sf T} {Q:X→S3→Prop},wpA k c a s K→(∀e a' s',K e a' s'→Q e s')→AWP P k n c Q s
 | .skip,a,s,K,Q,h,hq=>AWP.skip (hq _ _ _ h)
 | .reg ops,a,s,K,Q,h,hq=>by
  obtain⟨a',s',h1,h2⟩:=tQ (n:=n) h;refine AWP.weak h1 (AWP.reg ?_);exact iI (λa'' s'' f hk=>hq _ _ _ hk) h2
 | .dreg ops par,a,s,K,Q,h,hq=>by
  obtain⟨a',s',h1,h2⟩:=tQ (n:=n) h;refine AWP.weak h1 (AWP.dreg ?_);refine lQ (λa'' s'' f lg hk=>?_) h2;obtain⟨g1,g2⟩:=au hk;exact⟨g1,hq _ _ _ g2⟩
 | .seq x y,a,s,K,Q,h,hq=>by
  have plain:∀{a:An P Sf T},(wpA k x a s λe a' s'=>match e with
    | .normal=>wpA k y a' s' K
    | e=>K e a' s')→AWP P k n (.seq x y) Q s:=by
   intro a h;refine AWP.seq (di h λe a' s' hk=>?_);cases e with
   | normal=>exact di hk hq
   | exit id=>exact hq _ _ _ hk
   | ret=>exact hq _ _ _ hk
  rw[wpA.eq_def]at h;simp only at h
  split at h
  ·exact plain h
  ·rename_i j nf I a body;obtain⟨h1,h2⟩:=h;refine AWP.seq (di h1 λe a' s' hk=>?_);cases e with
   | normal =>
    obtain⟨a2,s2,g1,g2⟩:=gK (n:=n) hk;obtain⟨t,g3,g4⟩:=qM (n:=n) g2;exact AWP.weak (g1.trans g4) (di (h2 t g3) hq)
   | exit id=>exact hq _ _ _ hk
   | ret=>exact hq _ _ _ hk
  ·rename_i j nf I a body
   split at h
   ·rename_i y z;obtain⟨h1,h2⟩:=h;refine AWP.seq (di h1 λe a' s' hk=>?_);cases e with
    | normal =>
     refine AWP.seq (di hk λe a' s' hk=>?_);cases e with
     | normal =>
      obtain⟨a2,s2,g1,g2⟩:=gK (n:=n) hk;obtain⟨t,g3,g4⟩:=qM (n:=n) g2;exact AWP.weak (g1.trans g4) (di (h2 t g3) hq)
     | exit id=>exact hq _ _ _ hk
     | ret=>exact hq _ _ _ hk
    | exit id=>exact hq _ _ _ hk
    | ret=>exact hq _ _ _ hk
   ·exact h.elim
  ·rename_i k0 cs m1 bs s2 c hc a;obtain⟨s',h0,h⟩:=xS (n:=n) h;obtain⟨h1,q1⟩:=pC (n:=n) h;obtain⟨h2,q2⟩:=au q1;clear q1 h;obtain⟨rfl,q3⟩:=q2;have h2:=M' h2;subst h2;refine AWP.weak (h0.trans h1) (AWP.seq (AWP.mono (hc n) λe s' he=>?_));cases e with
   | normal=>exact AWP.weak he (di q3 hq)
   | exit id=>exact he.elim
   | ret=>exact he.elim
  ·rename_i k0 s1 s2 c hc a;obtain⟨h2,q2⟩:=au h;clear h;obtain⟨rfl,rfl,q3⟩:=q2;have h2:=M' h2;subst h2;refine AWP.seq (AWP.mono (hc n) λe s' he=>?_);cases e with
   | normal=>exact AWP.weak he (di q3 hq)
   | exit id=>exact he.elim
   | ret=>exact he.elim
  ·rename_i k0 m1 bs s2 c p hc a;obtain⟨h1,q1⟩:=pC (n:=n) h;obtain⟨h2,q2⟩:=au q1;clear q1 h;obtain⟨rfl,hp,q3⟩:=q2;have h2:=M' h2;subst h2;refine AWP.weak h1 (AWP.seq (AWP.mono (hc hp n) λe s' he=>?_));cases e with
   | normal=>exact AWP.weak he (di q3 hq)
   | exit id=>exact he.elim
   | ret=>exact he.elim
  ·exact plain h
 | .cond c x y,a,s,K,Q,h,hq=>by
  obtain⟨a',s',h1,h2⟩:=tQ (n:=n) h;refine AWP.weak h1 ?_
  split at h2
  ·rename_i b e
   refine AWP.cond e (λhb=>?_) (λhb=>?_)
   ·subst hb;have h2:wpA k x (a'.l s'.nx) ⟨Jf c true s'.tm,s'.hp,s'.nx⟩ K:=h2;rw[CX e]at h2;exact di h2 hq
   ·subst hb;have h2:wpA k y (a'.r s'.nx) ⟨Jf c false s'.tm,s'.hp,s'.nx⟩ K:=h2;rw[CX e]at h2;exact di h2 hq
  ·exact h2.elim
 | .block id x,a,s,K,Q,h,hq=>by
  refine AWP.block (di h λe a' s' hk=>?_);cases e with
  | normal=>exact hq _ _ _ hk
  | exit i =>
   have hk:cond (Nat.beq i id) (K .normal a' s') (K (.exit i) a' s'):=hk;show if i=id then Q .normal s' else Q (.exit i) s'
   cases e:Nat.beq i id with
   | true=>rw[e]at hk;rw[if_pos (M' e)];exact hq _ _ _ hk
   | false=>rw[e]at hk;rw[u' (λe'=>by subst e';simp at e)];exact hq _ _ _ hk
  | ret=>exact hq _ _ _ hk
 | .loop x,a,s,K,Q,h,hq=>by
  obtain⟨a',s',h1,h2⟩:=gK (n:=n) h;refine AWP.weak h1 ?_
  split at h2
  ·rename_i j nf I mu s0 bs body;obtain⟨h2,h3⟩:=h2;obtain⟨h4,h5⟩:=pC (n:=n) h2;refine AWP.loopS (σ:=Sf j) (λt=>(nf t).st) I mu h5 h4 λt ht=>di (h3 t ht) λe a' s' hk=>?_;cases e with
   | normal =>
    obtain⟨a2,s2,g1,g2⟩:=gK (n:=n) hk;obtain⟨t',⟨g3,g4⟩,g5⟩:=qM (n:=n) g2;exact⟨t',g3,g4,g1.trans g5⟩
   | exit id=>exact hq _ _ _ hk
   | ret=>exact hq _ _ _ hk
  ·rename_i m a2;refine AWP.loop (λm s=>∃a,Rm (λa s K=>wpA k x a s K) m a s K) (m:=m) ⟨_,aF.refl,_,h2⟩ λm s hI=>?_;obtain⟨a3,h3⟩:=hI;cases m with
   | zero=>exact h3.elim
   | succ m =>
    refine di h3 λe a' s' hk=>?_;cases e with
    | normal=>exact⟨m,s',Nat.lt_succ_self m,aF.refl,a',hk⟩
    | exit id=>exact hq _ _ _ hk
    | ret=>exact hq _ _ _ hk
  ·exact h2.elim
 | .exit id,a,s,K,Q,h,hq=>AWP.exit (hq _ _ _ h)
 | .ret,a,s,K,Q,h,hq=>AWP.ret (hq _ _ _ h)
 | .scope x,a,s,K,Q,h,hq=>AWP.scope (di h hq)
 | .label,a,s,K,Q,h,hq=>AWP.label (hq _ _ _ h)
 | .bad,_,_,_,_,h,_=>h.elim
end
end Go.Am
namespace Go.Am
def finS(k n:Nat)(res:List AR)(r:AV)(h':List (Option Blk)):X→S3→Prop
 | .exit _,_=>False
 | _,s=>∃s',aF k n s s'∧(∃xs,kO s' res=some xs∧Sub (o6 xs) r)∧∀b x,bo h' b=some x→s'.hp b=some x
theorem bc.introS{P:Program}{f:FuncId}{fn:Func}{af:AF}{args:List AV}{h:List Blk}{r:AV}{h':List (Option Blk)}(hf:P.funcs[f]?=some fn)(hc:jD P fn=some af)(hn:args.length≤af.n)
    (hw:AWP P h.length af.n af.body (finS h.length af.n af.res r h') (zY af.n args h)):bc P f args h r h':=by
  intro w A μ cargs hH hmu hargs;unfold jD at hc;split at hc
  case h_1=>cases hc
  rename_i body hb;split at hc
  case h_1=>cases hc
  rename_i rs hrs;cases hc;simp only at hw hn;have hl:=hargs.length
  let c:Ctx:=⟨w,cg μ (bo (h.map some)),A,μ⟩
  refine calls_of_wp hf hb ?_;have H0:Rel P h.length c fn.ntmps (zY fn.ntmps args h) { tmps:=cargs.toArray++Array.replicate (fn.ntmps-cargs.toArray.size) undef,defers:=[] } w:=by
    refine⟨hmu,A,μ,λt=>?_,?_,rfl,λb x hx=>?_,hH.inj,hH.lt,λb hb=>⟨hmu b hb,?_⟩,⟨rfl,rfl,rfl,V' _,λ_ _ _=>rfl⟩,λ_ h=>h,λ_ h=>.inl h,bp.refl _⟩
    · show RV w A (args.getD t .unk) μ _
      by_cases ht:t<args.length
      · have e1:args[t]?=some (args.getD t .unk):=by simp[List.getD,E' ht]
        obtain⟨v,e2,e3⟩:=hargs.get e1;have:(cargs.toArray++Array.replicate (fn.ntmps-cargs.toArray.size) undef).getD t undef=v:=by
          have hlt:t<cargs.length:=by omega
          have hv:cargs[t]=v:=by rw[E' hlt]at e2;exact ao' e2
          rw[bB',bV' (by simpa using hlt)];simp[hlt,hv]
        rw[this];exact e3
      · have:args.getD t .unk=.unk:=by simp[List.getD,av' (Nat.le_of_not_lt ht)]
        rw[this];trivial
    · simp;omega
    · obtain⟨hd,e1,e2,e3⟩:=hH.blk b x hx
      exact⟨hd,e1,e2,λhe=>⟨(e3 he).1,(e3 he).2,.inl ⟨b,x,hd,hx,e1,he,rfl⟩⟩⟩
    · show bo (h.map some) b=none
      have hb':h.length≤b:=hb;simp[bo,av',hb']
  refine wp_mono (hw _ rfl c _ w H0) ?_
  have fin:∀(s:S3) (a':Act) (w':World),(∃s',aF h.length fn.ntmps s s'∧(∃xs,kO s' rs=some xs∧Sub (o6 xs) r)∧∀b x,bo h' b=some x→s'.hp b=some x)→Rel P h.length c fn.ntmps s a' w' →
      a'.defers=[]∧∃v,(results fn a'.tmps).run P w'=.ok v w'∧(λe w'=>∃v A' μ',e=Ending.returned v∧RV w' A' r μ' v∧jM P w' A' μ' (bo h')∧bp μ μ'∧Ext (cg μ (bo (h.map some))) w w' ∧
        (∀b,A b→A' b)∧(∀b,A' b→A b∨cg μ (bo (h.map some)) b∨w.heap.size≤b)∧(∀b,cg μ' (bo h') b→cg μ (bo (h.map some)) b∨w.heap.size≤b)) (.returned v) w':=by
    rintro s a' w' ⟨s',hwk,⟨xs,hxs,hpk⟩,hsub⟩ hr;obtain⟨h0,A',μ',H⟩:=hwk P c a' w' hr;obtain⟨v,e1,e2⟩:=nS H hrs hxs;have e2:=hpk _ _ _ _ e2
    refine⟨H.df,v,e1,v,A',μ',rfl,e2,?_,H.mu,?_,H.A0,H.A1,?_⟩
    · refine⟨λb x hx=>?_,λb b' x x' hd hd' hx hx'=>H.inj b b' x x' hd hd' (hsub b x hx) (hsub b' x' hx'),H.lt⟩
      obtain⟨hd,g1,g2,g3⟩:=H.blk b x (hsub b x hx);exact⟨hd,g1,g2,λhe=>⟨(g3 he).1,(g3 he).2.1⟩⟩
    · exact⟨H.keep.os,H.keep.tape,H.keep.output,H.keep.size,H.keep.block⟩
    · rintro b ⟨b',x,hd,hx,hm,he,rfl⟩
      obtain⟨hd',g1,g2,g3⟩:=H.blk b' x (hsub b' x hx);rw[hm]at g1;cases g1;exact(g3 he).2.2
  intro e a' w' hq;cases e with
  | normal=>obtain⟨s,h1,h2⟩:=hq;exact fin s a' w' h1 h2
  | ret=>obtain⟨s,h1,h2⟩:=hq;exact fin s a' w' h1 h2
  | exit id=>obtain⟨s,h1,h2⟩:=hq;exact h1.elim
  | _=>exact hq.elim
section
variable {P : Program} {Sf : Nat → Type} {T : Type}
def endP(res:List AR)(sh:Sh)(enc:T→AV)(r0:T):KX P Sf T
 | .exit _,_,_=>False
 | _,a,s=>mZ 0 a s λa s=>match a with
  | .ret r=>match kO s res with
   | some xs=>bh sh (o6 xs)=enc r∧r=r0
   | none=>False
  | _=>False
def endH(k:Nat)(res:List AR)(sh:Sh)(enc:T→AV)(hB:T→List (Option Blk))(r0:T):KX P Sf T
 | .exit _,_,_=>False
 | _,a,s=>mZ k a s λa s=>match a with
  | .retH r m bs=>nfP k s m bs (match kO m.st res with
   | some xs=>bh sh (o6 xs)=enc r∧(m.hs.map PB.blk).take (hB r).length=hB r∧r=r0
   | none=>False)
  | _=>False
def A9(P:Program)(f:FuncId):Option AF:=(P.funcs[f]?).bind (jD P)
def mxP(P:Program)(f:FuncId)(args:List AV)(sh:Sh)(enc:T→AV)(a:An P Sf T)(r0:T):Prop:=
 match A9 P f with
 | some af=>cond (Nat.ble args.length af.n) (wpA 0 af.body a ⟨j0 args 0,λ_=>none,0⟩ (endP af.res sh enc r0)) False
 | none=>False
def mxH(P:Program)(f:FuncId)(args:List AV)(h:List Blk)(sh:Sh)(enc:T→AV)(hB:T→List (Option Blk))(a:An P Sf T)(r0:T):Prop:=
 match A9 P f with
 | some af=>cond (Nat.ble args.length af.n) (wpA h.length af.body a ⟨j0 args 0,kE h 0,h.length⟩ (endH h.length af.res sh enc hB r0)) False
 | none=>False
theorem od{f:FuncId}{af:AF}(h:A9 P f=some af):∃fn,P.funcs[f]?=some fn∧jD P fn=some af:=bx'.mp h
theorem Sc{f:FuncId}{args:List AV}{sh:Sh}{enc:T→AV}{a:An P Sf T}{r0:T}(h:mxP P f args sh enc a r0)(hp:(enc r0).pure):eQ P f args (enc r0):=by
 unfold mxP at h
 split at h
 ·rename_i af e;obtain⟨fn,e1,e2⟩:=od e;obtain⟨h1,h⟩:=au h;refine bc.pure (bc.introS e1 e2 (U' h1) (h:=[]) (h':=[]) ?_) hp;rw[ui];refine di h λe a' s' hk=>?_
  have fin:∀{a:An P Sf T} {s:S3},(mZ 0 a s λa s=>match a with
    | .ret r=>match kO s af.res with
     | some xs=>bh sh (o6 xs)=enc r∧r=r0
     | none=>False
    | _=>False)→∃s',aF 0 af.n s s'∧(∃xs,kO s' af.res=some xs∧Sub (o6 xs) (enc r0))∧∀b x,bo [] b=some x→s'.hp b=some x:=by
   intro a s h;obtain⟨a2,s2,g1,g2⟩:=gK (n:=af.n) h
   split at g2
   ·split at g2
    ·rename_i xs ex;obtain⟨g3,rfl⟩:=g2;exact⟨s2,g1,⟨xs,ex,g3 ▸ dG _ _⟩,λb x hx=>by simp[bo]at hx⟩
    ·exact g2.elim
   ·exact g2.elim
  cases e with
  | normal=>exact fin hk
  | exit id=>exact hk.elim
  | ret=>exact fin hk
 ·exact h.elim
theorem Iy{f:FuncId}{args:List AV}{hs:List Blk}{sh:Sh}{enc:T→AV}{hB:T→List (Option Blk)}{a:An P Sf T}{r0:T}(h:mxH P f args hs sh enc hB a r0):bc P f args hs (enc r0) (hB r0):=by
 unfold mxH at h
 split at h
 ·rename_i af e;obtain⟨fn,e1,e2⟩:=od e;obtain⟨h1,h⟩:=au h;refine bc.introS e1 e2 (U' h1) ?_;rw[ui];refine di h λe a' s' hk=>?_
  have fin:∀{a:An P Sf T} {s:S3},(mZ hs.length a s λa s=>match a with
    | .retH r m bs=>nfP hs.length s m bs (match kO m.st af.res with
     | some xs=>bh sh (o6 xs)=enc r∧(m.hs.map PB.blk).take (hB r).length=hB r∧r=r0
     | none=>False)
    | _=>False)→∃s',aF hs.length af.n s s'∧(∃xs,kO s' af.res=some xs∧Sub (o6 xs) (enc r0))∧∀b x,bo (hB r0) b=some x→s'.hp b=some x:=by
   intro a s h;obtain⟨a2,s2,g1,g2⟩:=gK (n:=af.n) h
   split at g2
   ·rename_i r m bs;obtain⟨g3,g2⟩:=pC (n:=af.n) g2
    split at g2
    ·rename_i xs ex;obtain⟨g4,g5,rfl⟩:=g2;refine⟨m.st,g1.trans g3,⟨xs,ex,g4 ▸ dG _ _⟩,λb x hx=>?_⟩;rw[show m.st.hp=bo (m.hs.map PB.blk)from(mw _).symm];have hx:=bu.mp hx;rw[←g5]at hx;refine bu.mpr ?_;rw[am']at hx
     split at hx
     ·exact hx
     ·cases hx
    ·exact g2.elim
   ·exact g2.elim
  cases e with
  | normal=>exact fin hk
  | exit id=>exact hk.elim
  | ret=>exact fin hk
 ·exact h.elim
end
def ck(b:Bool)(R:Prop):Prop:=cond b R False
def br(b:Bool)(X Y:Prop):Prop:=cond b X Y
def Cl{P:Program}(c:PC P)(R:Prop):Prop:=c.args=c.args∧R
def Ch{P:Program}(c:HC P)(bs:List Nat)(f:Nat)(R:Prop):Prop:=dm (bj bs f) c.args=dm (bj bs f) c.args∧(c.h.map λx=>some (jt (bj bs f) x))=(c.h.map λx=>some (jt (bj bs f) x))∧R
def Rf{α:Type}(x:α)(R:Prop):Prop:=x=x∧R
def Bk{σ:Type}(n:σ→NF)(bs:List Nat)(I:σ→Prop)(m:σ→Nat)(x t:σ):Prop:=Nf (n x) bs (I x∧m x<m t)
def Be{σ:Type}(n:σ→NF)(bs:List Nat)(I:σ→Prop)(x:σ):Prop:=Nf (n x) bs (I x)
def Bj{σ:Type}(n:σ→NF)(bs:List Nat)(x:σ):Prop:=Nf (n x) bs (x=x)
def Rp{T:Type}(e:T→AV)(r r0:T):Prop:=Rf (e r) (r=r0)
def Qt{T:Type}(m:NF)(bs:List Nat)(e:T→AV)(b:T→List (Option Blk))(r r0:T):Prop:=Nf m bs (Rf (e r) (Rf (b r) (r=r0)))
def B(l:List UInt8):ByteArray:=⟨l.toArray⟩
def MN.say:MN→Prop→Prop
 | .get _ kf _ vf l x z,R=>(l.map λp=>kf p.1)=(l.map λp=>kf p.1)∧(l.map λp=>vf p.2)=(l.map λp=>vf p.2)∧kf x=kf x∧vf z=vf z∧R
 | .put _ kf _ vf l x v,R=>(l.map λp=>kf p.1)=(l.map λp=>kf p.1)∧(l.map λp=>vf p.2)=(l.map λp=>vf p.2)∧kf x=kf x∧vf v=vf v∧R
 | .del _ kf _ vf l x,R=>(l.map λp=>kf p.1)=(l.map λp=>kf p.1)∧(l.map λp=>vf p.2)=(l.map λp=>vf p.2)∧kf x=kf x∧R
 | .getB _ _ kf _ vf l x _,R=>(l.map λp=>kf p.1)=(l.map λp=>kf p.1)∧(l.map λp=>vf p.2)=(l.map λp=>vf p.2)∧kf x=kf x∧R
theorem MN.say_iff{q:MN}{R:Prop}:q.say R↔R:=by cases q<;>simp[MN.say]
theorem Tf{b:Bool}{R:Prop}:ck b R↔b=true∧R:=by cases b<;>simp[ck]
theorem To{b:Bool}{X Y:Prop}:br b X Y↔(b=true→X)∧(b=false→Y):=by cases b<;>simp[br]
theorem TQ{P:Program}{c:PC P}{R:Prop}:Cl c R↔R:=⟨λh=>h.2,λh=>⟨rfl,h⟩⟩
theorem TR{P:Program}{c:HC P}{bs:List Nat}{f:Nat}{R:Prop}:Ch c bs f R↔R:=⟨λh=>h.2.2,λh=>⟨rfl,rfl,h⟩⟩
theorem uU{α:Type}{x:α}{R:Prop}:Rf x R↔R:=⟨λh=>h.2,λh=>⟨rfl,h⟩⟩
theorem TS{σ:Type}{n:σ→NF}{bs:List Nat}{I:σ→Prop}{m:σ→Nat}{x t:σ}:Bk n bs I m x t↔I x∧m x<m t:=qR
theorem TU{σ:Type}{n:σ→NF}{bs:List Nat}{I:σ→Prop}{x:σ}:Be n bs I x↔I x:=qR
theorem TT{σ:Type}{n:σ→NF}{bs:List Nat}{x:σ}:Bj n bs x↔True:=⟨λ_=>trivial,λ_=>qR.mpr rfl⟩
theorem TD{T:Type}{e:T→AV}{r r0:T}:Rp e r r0↔r=r0:=uU
theorem TG{T:Type}{m:NF}{bs:List Nat}{e:T→AV}{b:T→List (Option Blk)}{r r0:T}:Qt m bs e b r r0↔r=r0:=qR.trans (uU.trans uU)
def Idt(l:List AV)(R:Prop):Prop:=l=(l.map λy=>y)∧R
def TL{α:Type}(sh:Sh)(v:α→AV)(l xs:List α)(ys:List AV):Prop:=(((l.map v)++ys).map λy=>y).map (bh sh)=(l++xs).map v
theorem oF(l:List AV):l.map (λy=>y)=l:=cr' (λ_=>rfl) l
theorem PY{l:List AV}{R:Prop}:Idt l R↔R:=⟨λh=>h.2,λh=>⟨(oF l).symm,h⟩⟩
theorem Ki{α:Type}{sh:Sh}{v:α→AV}{l xs:List α}{ys:List AV}(h:∀x,bh sh (v x)=v x)(h2:ys.map (bh sh)=xs.map v):TL sh v l xs ys:=by
 unfold TL;rw[oF,List.map_append,List.map_append,h2,aV'];exact congrArg (·++_) (aE' λy _=>h y)
def Qa{α:Type}(sh:Sh)(v:α→AV)(n:Nat)(z:AV)(x:α):Prop:=((List.replicate n z).map λy=>y).map (bh sh)=(List.replicate n x).map v
theorem D3{α:Type}{sh:Sh}{v:α→AV}{n:Nat}{z:AV}{x:α}(h:bh sh z=v x):Qa sh v n z x:=by
 unfold Qa;rw[oF,cg',cg',h]
theorem Sd{P:Program}{Sf:Nat→Type}{T:Type}{f:FuncId}{args:List AV}{sh:Sh}{enc:T→AV}{a:An P Sf T}{r0:T}{V:Prop}(h:V)(e:mxP P f args sh enc a r0=V)(hp:(enc r0).pure):eQ P f args (enc r0):=by
 subst e;exact Sc h hp
theorem Iz{P:Program}{Sf:Nat→Type}{T:Type}{f:FuncId}{args:List AV}{hs:List Blk}{sh:Sh}{enc:T→AV}{hB:T→List (Option Blk)}{a:An P Sf T}{r0:T}{V:Prop}(h:V)(e:mxH P f args hs sh enc hB a r0=V):bc P f args hs (enc r0) (hB r0):=by
 subst e;exact Iy h
attribute [irreducible] mxP mxH
abbrev W:=IntKind.i64.wrap
theorem cf{n:Int}(h:-9223372036854775808≤n∧n≤9223372036854775807):W n=n:=Gb h
theorem ifb{p q:Prop}[Decidable p]:(decide p=true→q)↔(p→q):=by simp
theorem ifn{p q:Prop}[Decidable p]:(decide p=false→q)↔(¬p→q):=by simp
def fnB (P : Program) (f : FuncId) : Bool := match P.funcs[f]? with
  | some fn => fn.body.isSome && !(fn.name == "runtime.NumGoroutine")
  | none => false
theorem iO{P:Program}{f:FuncId}(h:fnB P f=true):mI P f:=by
 unfold fnB at h
 split at h
 ·rename_i fn e;simp only[aJ',be']at h;exact⟨fn,e,h.1,h.2⟩
 ·cases h
theorem dc:maxLen=9223372036854775807:=rfl
theorem St(n:Int):inK .i64 n↔-9223372036854775808≤n∧n≤9223372036854775807:=Iff.rfl
theorem al{α:Type}{l:List α}{i:Nat}{x:α}(h:l[i]?=some x):l.take (i+1)=l.take i++[x]:=by rw[List.take_add_one,h];rfl
theorem aw{α:Type}{l:List α}{i:Nat}{x:α}(h:l[i]?=some x):i<l.length:=(I'.mp h).1
theorem aq{α:Type}{l:List α}{i:Nat}{x:α}(h:l[i]?=some x):x∈l:=al' h
set_option linter.defProp false
def okU:=F' @okL.eq_1 (F' @okL.eq_2 (F' @AV.ok.eq_1 (F' @AV.ok.eq_2 (F' @AV.ok.eq_3 (F' @AV.ok.eq_4 (F' @AV.ok.eq_5 (F' @AV.ok.eq_6 (F' @St (F' @and_true (F' @true_and dc))))))))))
def PZ{α:Type}(v:α→AV)(l:List α)(x:α)(le:List AV)(y:AV):Prop:=((le++[y]).map λy=>y)=((l++[x]).map v).set l.length y
def Qk{α:Type}(l:List α)(x:α):List α:=(l++[x]).set l.length x
theorem Hf{α:Type}(l:List α)(x:α):Qk l x=l++[x]:=by
 unfold Qk;rw[bJ' _ _ (V' _)];simp
theorem OT{α:Type}{v:α→AV}{l:List α}{x:α}{y:AV}:PZ v l x (l.map v) y:=by
 unfold PZ;rw[oF,List.map_append,bJ' _ _ (by simp)];simp
theorem Kd{α:Type}{v:α→AV}{l:List α}{x:α}{y:AV}:PZ v l x (l.map v) y↔True:=⟨λ_=>trivial,λ_=>OT⟩
theorem Kc{α:Type}{v:α→AV}{x:α}{y:AV}:PZ v [] x [] y↔True:=⟨λ_=>trivial,λ_=>rfl⟩
def B8(l:List Int):ByteArray:=⟨(l.map λx=>UInt8.ofNat x.toNat).toArray⟩
theorem sX:∀l:List Int,cG (l.map λx=>AV.val (.int .u8 x))=some (l.map λx=>UInt8.ofNat x.toNat)
 | []=>rfl
 | x::l=>by
  show(cG (l.map λx=>AV.val (.int .u8 x))).map (UInt8.ofNat x.toNat::·)=_
  rw[sX l];rfl
theorem Nv{l:List Int}:SbB (l.map λx=>AV.val (.int .u8 x)) (AV.str (B8 l))↔True:=⟨λ_=>trivial,λ_=>⟨_,sX l,rfl⟩⟩
def vcU:=F' @MN.say_iff <| F' @To (F' @Tf (F' @TQ (F' @TR (F' @qR (F' @TS (F' @TU (F' @TT (F' @TD (F' @TG (F' @ifb (F' @ifn (F' @decide_eq_true_eq (F' @decide_eq_false_iff_not (F' @aJ' @bU'))))))))))))))
def rfU:=F' @uU (F' @PY (F' @Kd (F' @Kc (F' @Hf @Nv))))
end Go.Am
