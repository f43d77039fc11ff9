/- Texts joined: Rd Mx1 Mx2 Mx3 Mx4 Mx5 Mx6. -/
import Derived.ChangeArms
import Derived.ChangeSlices
import Derived.ChangeSame
import Derived.ChangeShapes
import Derived.WideShapes
import Derived.RowKit
import Derived.ChangeMaps5
import Derived.KernelRfl
import Derived.Test.YtiobpjoadkfhdaaGreatDoorQR2
set_option linter.unusedVariables false
set_option linter.unusedSimpArgs false
set_option linter.unusedSectionVars false
namespace Go.Am
open Go.ChangeShapes Go.WideShapes Go.RowKit
section
variable {P : Program} {H : Type} {enc : TypeId × Value → H} {w : World} {base : Nat} {held : Bool} {fuel : Nat} {cs : List Value} {x : DataW H × List MemPlace}
inductive eU (B:Nat) {H:Type}:DataW H→Prop where
  | lit (l:Lit):eU B (.lit l)
  | nil:eU B .nil
  | slice (es sp:List (DataW H)):es.length≤B→(∀d∈es,eU B d)→eU B (.slice es sp)
  | agg (ps:List (DataW H)):(∀d∈ps,eU B d)→eU B (.agg ps)
  | ptr (d:DataW H):eU B (.ptr d)
  | iface (t:_) (d:_):eU B (.iface t d)
  | map (e:_):eU B (.map e)
  | held (h:_):eU B (.held h)
theorem If{t e:TypeId}{k:Nat}(hk:0<k)(ht:P.underlying t=some (.slice e))(hc:P.cellsOf e=k){α:Type}(f:α→AV){B:Nat}{q:α→Prop}
  (hsol:∀a,(f a).solid=true)
  (he:∀(n:Nat) (cs:List Value) (y:DataW H×List MemPlace),DataW.trod enc P w base (λ_=>true) held n e cs=some y→cs.length=k→∃(a:α) (v:Value),v.cells.toList=cs∧cq v∧RV w (Old w) (f a) dz v∧(eU B y.1→q a))
  (h:DataW.trod enc P w base (λ_=>true) held fuel t cs=some x):∃(l:List α),RVL w (Old w) [.sl k (l.map f) false] dz cs∧(eU B x.1→l.length≤B∧∀a∈l,q a):=by
 rcases DataW.trod_slice ht h with⟨rfl,_⟩|⟨a,len,cap,elems,rest,n,_,rfl,rfl,hb,hl,hm,hlen,hel,hsp,hns⟩
 ·exact⟨[],⟨_,_,rfl,.inl ⟨rfl,_,rfl⟩,rfl⟩,λ_=>⟨by simp,λa ha=>by simp at ha⟩⟩
 by_cases h0:cap=0
 ·subst h0;have:len=0:=by omega
  subst this;exact⟨[],⟨_,_,rfl,.inl ⟨rfl,_,rfl⟩,rfl⟩,λ_=>⟨by simp,λa ha=>by simp at ha⟩⟩
 obtain⟨hrl,hr⟩:=hsp rfl
 -- the first cell
 have hfirst:∃v,w.cell? a=some v:=by
  have h1:∃cs',w.cells? base (a.add (0 * k)) k=some cs':=by
   by_cases hz:0<len
   ·have h1:=hel 0 hz;rw[hc,E' (show 0<elems.length by omega),bx']at h1;obtain⟨cs',h2,_⟩:=h1;exact⟨cs',h2⟩
   ·have h1:=hr 0 (by omega);rw[hc,E' (show 0<rest.length by omega),bx']at h1;obtain⟨cs',h2,_⟩:=h1;exact⟨cs',by rw[show len+0=0 by omega]at h2;exact h2⟩
  obtain⟨cs',h2⟩:=h1;obtain⟨_,h3,h4⟩:=World.cells?_some h2;have h5:=h4 0 hk;rw[E' (show 0<cs'.length by omega)]at h5;refine⟨_,by rw[←h5];congr 1;simp[Addr.add]⟩
 obtain⟨v0,hv0⟩:=hfirst;obtain⟨e1,e2⟩:=Addr.eta hv0;have each:∀i,i<len→∃(b:α) (v:Value),(v.cells.size=k∧∀j u,v.cells[j]?=some u→w.cell? ⟨a.block,a.off+(i * k+j),none⟩=some u)∧cq v∧RV w (Old w) (f b) dz v∧∀y,elems[i]?=some y→eU B y.1→q b:=by
  intro i hi;have h1:=hel i hi;rw[hc,E' (show i<elems.length by omega),bx']at h1;obtain⟨cs',h2,h3⟩:=h1;obtain⟨_,h4,h5⟩:=World.cells?_some h2;obtain⟨b,v,g1,g2,g3,g4⟩:=he n cs' _ h3 h4;have hsz:v.cells.size=k:=by rw[←h4,←g1];simp
  refine⟨b,v,⟨hsz,λj u hu=>?_⟩,g2,g3,λy hy=>by rw[E' (show i<elems.length by omega)]at hy;cases hy;exact g4⟩;have hj:j<k:=by have:=(ba'.mp hu).1;omega
  have h6:=h5 j hj;rw[←g1]at h6;rw[e1]at h6;have e3:((Addr.mk a.block a.off none).add (i * k)).add j=⟨a.block,a.off+(i * k+j),none⟩:=by
   simp only[Addr.add]
   by_cases q1:i * k=0
   ·rw[if_pos q1,q1]
    by_cases q2:j=0
    ·rw[if_pos q2,q2];rfl
    ·rw[u' q2];simp
   ·rw[u' q1]
    by_cases q2:j=0
    ·rw[if_pos q2,q2];rfl
    ·rw[u' q2];simp[bI']
  rw[e3]at h6;rw[h6];simpa using hu
 have build:∀n,n≤len→∃(l:List α) (vs:List Value),l.length=n∧vs.length=n∧∀i b v,l[i]?=some b→vs[i]?=some v→(v.cells.size=k∧∀j u,v.cells[j]?=some u→w.cell? ⟨a.block,a.off+(i * k+j),none⟩=some u)∧cq v∧RV w (Old w) (f b) dz v∧∀y,elems[i]?=some y→eU B y.1→q b:=by
  intro n
  induction n with
  | zero=>intro _;exact⟨[],[],rfl,rfl,λi b v hb=>by simp at hb⟩
  | succ n ih =>
   intro hn;obtain⟨l,vs,h1,h2,h3⟩:=ih (by omega);obtain⟨b,v,h4⟩:=each n (by omega);refine⟨l++[b],vs++[v],by simp[h1],by simp[h2],λi b' v' hb' hv'=>?_⟩
   by_cases hi:i<n
   ·rw[bY' (by omega)]at hb' hv';exact h3 i b' v' hb' hv'
   ·have hil:i<(l++[b]).length:=(I'.mp hb').1;have hie:i=n:=by simp[h1]at hil;omega
    subst hie;rw[aU' (by omega),h1]at hb';rw[aU' (by omega),h2]at hv';simp at hb' hv';subst hb';subst hv';exact h4
 obtain⟨l,vs,h1,h2,h3⟩:=build len (V' _);have hget:∀i,i<len→∃b v,l[i]?=some b∧vs[i]?=some v:=λi hi=>⟨_,_,E' (by omega),E' (by omega)⟩
 have hvs:∀v∈vs,v.cells.size=k∧cq v:=λv hv=>by
  obtain⟨i,hi,rfl⟩:=ad' hv;obtain⟨g1,g2,_⟩:=h3 i _ _ (E' (show i<l.length by omega)) (E' hi);exact⟨g1.1,g2⟩
 refine⟨l,⟨_,_,rfl,.inr ⟨a.block,a.off,cap,vs,?_,e2,?_,hm,(λh=>by cases h),?_,hvs,?_,?_⟩,rfl⟩,λhs=>?_⟩
 ·rw[←e1];simp[h1]
 ·simp[h1];exact hl
 ·refine RVL.of_get (by simp[h1,h2]) λi y v hy hv=>?_;rw[S']at hy;cases hb:l[i]? with
  | none=>rw[hb]at hy;simp at hy
  | some b =>
   rw[hb]at hy;simp at hy;subst hy;exact(h3 i b v hb hv).2.2.1
 ·intro p u hu;have hk':∀v∈vs,v.cells.size=k:=λv hv=>(hvs v hv).1;have hp:p<vs.length * k:=by rw[←flat_len hk'];exact(I'.mp hu).1
  have hi:p / k<vs.length:=Nat.div_lt_of_lt_mul (by rw[Nat.mul_comm];exact hp);have hj:p % k<k:=Nat.mod_lt _ hk;have hpe:p=p / k * k+p % k:=by rw[Nat.mul_comm];exact(Nat.div_add_mod p k).symm
  have hv:=E' hi;have hfa:=uh hk' hv hj;rw[←hpe,hu]at hfa;have:=(h3 (p / k) _ _ (E' (show p / k<l.length by omega)) hv).1.2 (p % k) u (by simpa using hfa.symm);rw[hpe];exact this
 ·intro y hy;obtain⟨b,_,rfl⟩:=R'.mp hy;exact hsol b
 ·cases hs with
  | slice _ _ s1 s2 =>
   rw[f']at s1;refine⟨by omega,λc hc=>?_⟩;obtain⟨i,hi,rfl⟩:=ad' hc;have hie:i<elems.length:=by omega
   exact(h3 i _ _ (E' hi) (E' (show i<vs.length by omega))).2.2.2 _ (E' hie) (s2 _ (bD' (ay' hie)))
theorem Cv{xs:List AV}{vs:List Value}(h:RVL w (Old w) xs dz vs)(hs:∀x∈xs,x.solid=true∧x.isAgg=false):∀v∈vs,v.oneCell'=true:=λv hv=>by
 obtain⟨i,hi⟩:=List.getElem?_of_mem hv;have hlt:i<xs.length:=by rw[h.length];exact(I'.mp hi).1
 have hx:=E' hlt;have:=hs _ (ay' hlt);exact RV.one this.1 this.2 (h.get2 hx hi)
theorem ze{xs ys:List AV}{us vs:List Value}(h:RVL w (Old w) xs dz us)(h':RVL w (Old w) ys dz vs):RVL w (Old w) (xs++ys) dz (us++vs):=by
 refine RVL.of_get (by rw[Y',Y',h.length,h'.length]) λi x v hx hv=>?_
 by_cases hi:i<xs.length
 ·rw[bY' hi]at hx;rw[bY' (by rw[←h.length];exact hi)]at hv;exact h.get2 hx hv
 ·rw[aU' (by omega)]at hx;rw[aU' (by rw[←h.length];omega),←h.length]at hv;exact h'.get2 hx hv
end
structure Rd (P:Program) (α:Type) where
  t:TypeId
  n:Nat
  enc:α→List AV
  v:α→AV
  pos:0<n
  hn:P.cellsOf t=n
  sol:∀a,∀x∈enc a,x.solid=true∧x.isAgg=false
  hv:(∀a,v a=.agg (enc a))∨(∀a,enc a=[v a])
  q:Nat→α→Prop
  rd:∀{H:Type} {e:TypeId×Value→H} {w:World} {base:Nat} {held:Bool} {fuel:Nat} {cs:List Value} {x:DataW H×List MemPlace} (B:Nat),
    cs.length=n→DataW.trod e P w base (λ_=>true) held fuel t cs=some x→∃a,RVL w (Old w) (enc a) dz cs∧(eU B x.1→q B a)
theorem Rd.vsol{P:Program}{α:Type}(r:Rd P α)(a:α):(r.v a).solid=true:=by
 rcases r.hv with h|h
 ·rw[h];rfl
 ·exact(r.sol a (r.v a) (by rw[h];simp)).1
theorem Rd.elem{P:Program}{α:Type}(r:Rd P α){H:Type}{e:TypeId×Value→H}{w:World}{base:Nat}{held:Bool}{fuel:Nat}{cs:List Value}{x:DataW H×List MemPlace}(B:Nat)
  (h:DataW.trod e P w base (λ_=>true) held fuel r.t cs=some x) (hl:cs.length=r.n):∃(a:α) (u:Value),u.cells.toList=cs∧cq u∧RV w (Old w) (r.v a) dz u∧(eU B x.1→r.q B a):=by
 obtain⟨a,ha,hq⟩:=r.rd B hl h
 rcases r.hv with hv|hv
 ·refine⟨a,.agg cs.toArray,by simp[Value.cells],λc hc=>Cv ha (r.sol a) c (by simpa[Value.cells]using hc),?_,hq⟩;rw[hv];exact⟨cs,rfl,ha,Cv ha (r.sol a)⟩
 ·have ha':=ha;rw[hv]at ha';obtain⟨u,us,rfl,h1,rfl⟩:=ha';have h2:=r.sol a (r.v a) (by rw[hv];simp);have ho:=RV.one h2.1 h2.2 h1;have hc:u.cells=#[u]:=by cases u<;>first|rfl|simp[Value.oneCell']at ho
  exact⟨a,u,by rw[hc],λc hc'=>by rw[hc]at hc';simp at hc';rw[hc'];exact ho,h1,hq⟩
def Rd.int{P:Program}(k:IntKind)(t:TypeId)(ht:P.underlying t=some (.int k))(hn:P.cellsOf t=1):Rd P Int:=
 ⟨t,1,λa=>[.val (.int k a)],λa=>.val (.int k a),by omega,hn,λa x hx=>by simp at hx;subst hx;exact⟨rfl,rfl⟩,.inr λ_=>rfl,λ_ _=>True,λ_ hl h=>by
  obtain⟨n,rfl,_,hw⟩:=DataW.trod_int ht h;exact⟨n,⟨_,_,rfl,⟨rfl,by simpa[Lit.wf,aP,inK]using hw⟩,rfl⟩,λ_=>trivial⟩⟩
structure RdF (P:Program) (α:Type) where
  ts:List (TypeId×Nat)
  n:Nat
  enc:α→List AV
  hn:n=(ts.map (·.2)).sum
  sol:∀a,∀x∈enc a,x.solid=true∧x.isAgg=false
  q:Nat→α→Prop
  rd:∀{H:Type} {e:TypeId×Value→H} {w:World} {base:Nat} {held:Bool} {fuel:Nat} {cs:List Value} {ys:List (DataW H×List MemPlace)} (B:Nat),
    cs.length=n→ys.length=ts.length →
    (∀(i o:Nat) (p:TypeId×Nat),ts[i]?=some p→o=((ts.take i).map (·.2)).sum→DataW.trod e P w base (λ_=>true) held fuel p.1 ((cs.drop o).take p.2)=ys[i]?)→∃a,RVL w (Old w) (enc a) dz cs∧((∀y∈ys,eU B y.1)→q B a)
def RdF.cons{P:Program}{α β:Type}(r:Rd P α)(f:RdF P β):RdF P (α×β):=
 ⟨(r.t,r.n)::f.ts,r.n+f.n,λa=>r.enc a.1++f.enc a.2,by rw[f.hn];simp,λa x hx=>by
   rcases L'.mp hx with hx|hx
   ·exact r.sol _ x hx
   ·exact f.sol _ x hx,λB a=>r.q B a.1∧f.q B a.2,λ{H e w base held fuel cs ys} B hl hy h=>by
  match ys,hy with
  | y::ys,hy =>
  have h0:=h 0 0 _ rfl rfl;simp only[be',List.getElem?_cons_zero]at h0;obtain⟨a,ha,qa⟩:=r.rd B (by simp;omega) h0;obtain⟨b,hb,qb⟩:=f.rd B (cs:=cs.drop r.n) (ys:=ys) (fuel:=fuel) (e:=e) (w:=w) (base:=base) (held:=held) (by simp;omega) (by simpa using hy) λi o p hp ho=>by
   have:=h (i+1) (r.n+o) p (by simpa using hp) (by simp[ho]);rw[List.drop_drop];simpa using this
  refine⟨(a,b),?_,λhs=>⟨qa (hs y (by simp)),qb λz hz=>hs z (by simp[hz])⟩⟩;have:=ze ha hb
  rwa [bf']at this⟩
section
variable {P : Program} {H : Type} {enc : TypeId × Value → H} {w : World} {base : Nat} {held : Bool}
theorem Rd.argL{α:Type}(r:Rd P α){t:TypeId}(ht:P.underlying t=some (.slice r.t)){v:Value}{d:DataW H}{ps:List MemPlace}{q:Reach}{b0:Nat}(hval:Value.okWide P w q b0 t v)
  (B:Nat) (hd:DataW.Trod enc P w base (λ_=>true) held t v d ps):∃l:List α,RV w (Old w) (.sl r.n (l.map r.v) false) dz v∧(eU B d→l.length≤B∧∀a∈l,r.q B a):=by
 obtain⟨a,len,cap,rfl⟩:=okWide_slice ht hval;obtain⟨fuel,hf⟩:=hd;obtain⟨s,⟨u,us,h1,h2,h3⟩,hq⟩:=If r.pos ht r.hn r.v r.vsol (B:=B) (q:=r.q B) (λn cs y hy hl=>r.elem B hy hl) hf;have:(Value.slice a len cap).cells.toList=[.slice a len cap]:=rfl;rw[this]at h1;obtain⟨rfl,_⟩:=List.cons.inj h1;exact⟨s,h2,hq⟩
end
end Go.Am
namespace Go.Am
mutual
def AV.pureB:AV→Bool
  | .val _=>true
  | .agg cs=>bM cs
  | .tup xs=>bM xs
  | .func _ caps=>bM caps
  | .ref _ _=>false
  | .eref _ _ _=>false
  | .rptr _ _=>true
  | .vec _=>false
  | .vsub _ _ _=>false
  | .asub _ _ _ _=>false
  | .sl _ _ _=>true
  | .mref _=>false
  | .mp _ _ _=>true
  | .unk=>true
def bM:List AV→Bool
  | []=>true
  | x::xs=>cond x.pureB (bM xs) false
end
mutual
def AV.flatB:AV→Bool
  | .val _=>true
  | .agg cs=>ui cs
  | .tup xs=>ui xs
  | _=>false
def ui:List AV→Bool
  | []=>true
  | x::xs=>cond x.flatB (ui xs) false
end
mutual
def AV.belB(k:Nat):AV→Bool
  | .agg cs=>bI k cs
  | .tup xs=>bI k xs
  | .func _ caps=>bI k caps
  | .ref b _=>Nat.blt b k
  | .eref b _ _=>Nat.blt b k
  | .vec b=>Nat.blt b k
  | .vsub b _ _=>Nat.blt b k
  | .asub b _ _ _=>Nat.blt b k
  | .val _=>true
  | .rptr _ _=>true
  | .sl _ _ _=>true
  | .mref b=>Nat.blt b k
  | .mp _ _ _=>true
  | .unk=>true
def bI(k:Nat):List AV→Bool
  | []=>true
  | x::xs=>cond (x.belB k) (bI k xs) false
end
theorem ag{a b:Bool}:cond a b false=true↔a=true∧b=true:=by cases a<;>simp
mutual
theorem AV.pureB_ok:∀{x:AV},x.pureB=true→x.pure
  | .val _,_=>trivial
  | .agg cs,h=>aU (xs:=cs) h
  | .tup xs,h=>aU (xs:=xs) h
  | .func _ caps,h=>aU (xs:=caps) h
  | .ref _ _,h=>by cases h
  | .eref _ _ _,h=>by cases h
  | .rptr _ _,_=>trivial
  | .vec _,h=>by cases h
  | .vsub _ _ _,h=>by cases h
  | .asub _ _ _ _,h=>by cases h
  | .sl _ _ _,_=>trivial
  | .mref _,h=>by cases h
  | .mp _ _ _,_=>trivial
  | .unk,_=>trivial
theorem aU:∀{xs:List AV},bM xs=true→bT xs
  | [],_=>trivial
  | x::xs,h=>by
    have h:=ag.mp h;exact⟨AV.pureB_ok h.1,aU h.2⟩
end
mutual
theorem AV.flatB_ok:∀{x:AV},x.flatB=true→x.flat
  | .val _,_=>trivial
  | .agg cs,h=>nt (xs:=cs) h
  | .tup xs,h=>nt (xs:=xs) h
  | .func _ _,h=>by cases h
  | .ref _ _,h=>by cases h
  | .eref _ _ _,h=>by cases h
  | .rptr _ _,h=>by cases h
  | .vec _,h=>by cases h
  | .vsub _ _ _,h=>by cases h
  | .asub _ _ _ _,h=>by cases h
  | .sl _ _ _,h=>by cases h
  | .mref _,h=>by cases h
  | .mp _ _ _,h=>by cases h
  | .unk,h=>by cases h
theorem nt:∀{xs:List AV},ui xs=true→pX xs
  | [],_=>trivial
  | x::xs,h=>by
    have h:=ag.mp h;exact⟨AV.flatB_ok h.1,nt h.2⟩
end
mutual
theorem AV.belB_ok{k:Nat}:∀{x:AV},x.belB k=true→x.bel k
  | .val _,_=>trivial
  | .agg cs,h=>jD (xs:=cs) h
  | .tup xs,h=>jD (xs:=xs) h
  | .func _ caps,h=>jD (xs:=caps) h
  | .ref _ _,h=>U' h
  | .eref _ _ _,h=>U' h
  | .rptr _ _,_=>trivial
  | .vec _,h=>U' h
  | .vsub _ _ _,h=>U' h
  | .asub _ _ _ _,h=>U' h
  | .sl _ _ _,_=>trivial
  | .mref _,h=>U' h
  | .mp _ _ _,_=>trivial
  | .unk,_=>trivial
theorem jD{k:Nat}:∀{xs:List AV},bI k xs=true→fP k xs
  | [],_=>trivial
  | x::xs,h=>by
    have h:=ag.mp h;exact⟨AV.belB_ok h.1,jD h.2⟩
end
theorem ae{α:Type}{v:α→AV}(h:∀x,(v x).pureB=true):∀l:List α,bM (l.map v)=true
 | []=>rfl
 | x::l=>ag.mpr ⟨h x,ae h l⟩
def c9:List (List AV)→Bool
 | []=>true
 | es::r=>cond (bM es) (c9 r) false
inductive Sh where
  | k
  | s (kk:Nat)
  | a (l:List Sh)
  | v (s:Sh)
mutual
def bg:Sh→AV→AV
  | .k,x=>x
  | .s kk,.sl 0 es full=>cond es.isEmpty (.sl kk es false) (.sl 0 es full)
  | .s _,.sl (k+1) es _=>.sl (k+1) es false
  | .s _,x=>x
  | .a l,.agg cs=>.agg (pY l cs)
  | .a l,.tup cs=>.tup (pY l cs)
  | .a l,.func f cs=>.func f (pY l cs)
  | .a _,x=>x
  | .v s,.sl k es _=>.sl k (es.map (bg s)) false
  | .v _,x=>x
def pY:List Sh→List AV→List AV
  | [],xs=>xs
  | _::_,[]=>[]
  | s::l,x::xs=>bg s x::pY l xs
end
theorem pZ(s:Sh)(x:AV):(bg s x).solid=x.solid:=by
 cases s with
 | k=>rw[bg]
 | s kk =>
  cases x<;>first|(rw[bg];done)|(rw[bg]<;>simp;done)|skip
  rename_i k es full;cases k with
  | zero=>rw[bg];cases es<;>rfl
  | succ k=>rw[bg];rfl
 | a l=>cases x<;>first|(rw[bg];done)|(rw[bg]<;>simp;done)|(rw[bg];rfl)
 | v s=>cases x<;>first|(rw[bg];done)|(rw[bg]<;>simp;done)|(rw[bg];rfl)
theorem gF.mapS{f:AV→AV}(h:∀x,Sub x (f x)):∀xs:List AV,gF xs (xs.map f)
 | []=>trivial
 | x::xs=>⟨h x,gF.mapS h xs⟩
theorem Sub.slE{k:Nat}{es es':List AV}{full:Bool}(h:gF es es')(hl:es'.length=es.length)(hs:(∀x∈es,x.solid=true)→∀x∈es',x.solid=true):Sub (.sl k es full) (.sl k es' false):=by
 intro w A μ v hv
 rcases hv with⟨h1,h2⟩|⟨blk,off,cap,vs,e1,e2,e3,e4,e5,e6,e7,e8⟩
 ·subst h1;exact .inl ⟨aH' hl,h2⟩
 ·obtain⟨e8,e9⟩:=e8;exact .inr ⟨blk,off,cap,vs,by rw[hl];exact e1,e2,by rw[hl];exact e3,e4,(λh=>by cases h),h.rvl e6,e7,e8,hs e9⟩
theorem Sub.func{f:FuncId}{xs ys:List AV}(h:gF xs ys):Sub (.func f xs) (.func f ys):=λw A μ v ⟨vs,h1,h2⟩=>⟨vs,h1,h.rvl h2⟩
mutual
theorem dE:∀(s:Sh) (x:AV),Sub x (bg s x)
  | .k,x=>by rw[bg];exact Sub.refl
  | .s kk,.sl 0 es full=>by
    rw[bg];cases es with
    | nil=>exact Sub.sl (.inr rfl) (by simp)
    | cons y es=>exact Sub.refl
  | .s kk,.sl (k+1) es full=>by rw[bg];exact Sub.sl (.inl rfl) (by simp)
  | .s _,.val _=>by rw[bg];exact Sub.refl;all_goals simp
  | .s _,.agg _=>by rw[bg];exact Sub.refl;all_goals simp
  | .s _,.tup _=>by rw[bg];exact Sub.refl;all_goals simp
  | .s _,.func _ _=>by rw[bg];exact Sub.refl;all_goals simp
  | .s _,.ref _ _=>by rw[bg];exact Sub.refl;all_goals simp
  | .s _,.eref _ _ _=>by rw[bg];exact Sub.refl;all_goals simp
  | .s _,.rptr _ _=>by rw[bg];exact Sub.refl;all_goals simp
  | .s _,.vec _=>by rw[bg];exact Sub.refl;all_goals simp
  | .s _,.vsub _ _ _=>by rw[bg];exact Sub.refl;all_goals simp
  | .s _,.asub _ _ _ _=>by rw[bg];exact Sub.refl;all_goals simp
  | .s _,.mref _=>by rw[bg];exact Sub.refl;all_goals simp
  | .s _,.mp _ _ _=>by rw[bg];exact Sub.refl;all_goals simp
  | .s _,.unk=>by rw[bg];exact Sub.refl;all_goals simp
  | .a l,.agg cs=>by rw[bg];exact Sub.agg (fv l cs)
  | .a l,.tup cs=>by rw[bg];exact Sub.tup (fv l cs)
  | .a l,.func f cs=>by rw[bg];exact Sub.func (fv l cs)
  | .a _,.val _=>by rw[bg];exact Sub.refl;all_goals simp
  | .a _,.sl _ _ _=>by rw[bg];exact Sub.refl;all_goals simp
  | .a _,.ref _ _=>by rw[bg];exact Sub.refl;all_goals simp
  | .a _,.eref _ _ _=>by rw[bg];exact Sub.refl;all_goals simp
  | .a _,.rptr _ _=>by rw[bg];exact Sub.refl;all_goals simp
  | .a _,.vec _=>by rw[bg];exact Sub.refl;all_goals simp
  | .a _,.vsub _ _ _=>by rw[bg];exact Sub.refl;all_goals simp
  | .a _,.asub _ _ _ _=>by rw[bg];exact Sub.refl;all_goals simp
  | .a _,.mref _=>by rw[bg];exact Sub.refl;all_goals simp
  | .a _,.mp _ _ _=>by rw[bg];exact Sub.refl;all_goals simp
  | .a _,.unk=>by rw[bg];exact Sub.refl;all_goals simp
  | .v s,.sl k es full=>by
    rw[bg];exact Sub.slE (gF.mapS (λx=>dE s x) es) (by simp) λh x hx=>by
      obtain⟨y,hy,rfl⟩:=R'.mp hx;rw[pZ];exact h y hy
  | .v _,.val _=>by rw[bg];exact Sub.refl;all_goals simp
  | .v _,.agg _=>by rw[bg];exact Sub.refl;all_goals simp
  | .v _,.tup _=>by rw[bg];exact Sub.refl;all_goals simp
  | .v _,.func _ _=>by rw[bg];exact Sub.refl;all_goals simp
  | .v _,.ref _ _=>by rw[bg];exact Sub.refl;all_goals simp
  | .v _,.eref _ _ _=>by rw[bg];exact Sub.refl;all_goals simp
  | .v _,.rptr _ _=>by rw[bg];exact Sub.refl;all_goals simp
  | .v _,.vec _=>by rw[bg];exact Sub.refl;all_goals simp
  | .v _,.vsub _ _ _=>by rw[bg];exact Sub.refl;all_goals simp
  | .v _,.asub _ _ _ _=>by rw[bg];exact Sub.refl;all_goals simp
  | .v _,.mref _=>by rw[bg];exact Sub.refl;all_goals simp
  | .v _,.mp _ _ _=>by rw[bg];exact Sub.refl;all_goals simp
  | .v _,.unk=>by rw[bg];exact Sub.refl;all_goals simp
theorem fv:∀(l:List Sh) (xs:List AV),gF xs (pY l xs)
  | [],xs=>by rw[pY];exact gF.refl
  | _::_,[]=>by rw[pY];trivial
  | s::l,x::xs=>by rw[pY];exact⟨dE s x,fv l xs⟩
end
structure PC (P:Program) where
  f:FuncId
  sh:List Sh
  args:List AV
  r:AV
  ok:eO P f args r
  fn:mG P f
def PC.wsh{P:Program}(c:PC P)(sh:List Sh):PC P:=⟨c.f,sh,c.args,c.r,c.ok,c.fn⟩
def Blk.pureB:Blk→Bool
 | .box x=>x.pureB
 | .vec _ es=>bM es
 | .row _ es _ _=>bM es
 | .map _ _ vs=>bM vs
 | _=>false
def js(π:Nat→Nat):Blk→Blk
 | .box x=>.box (x.ren π)
 | x=>x
def cE(n:Nat):Blk→Bool
 | .box x=>x.belB n
 | .vec _ es=>bM es
 | .row _ es _ _=>bM es
 | .map _ _ vs=>bM vs
 | _=>false
structure qO (args:List AV) (h:List Blk) (r:AV) (h':List (Option Blk)):Prop where
  args:fP h.length args
  hp:∀x∈h,cE h.length x=true
  le:h.length≤h'.length
  le':h'.length≤h.length+16
  r:r.bel h'.length
  h':∀x,some x∈h'→cE h'.length x=true
def allB{α:Type}(p:α→Bool):List α→Bool
 | []=>true
 | x::r=>cond (p x) (allB p r) false
theorem oM{α:Type}{p:α→Bool}:∀{l:List α},allB p l=true→∀x∈l,p x=true
 | [],_,x,hx=>by simp at hx
 | y::r,h,x,hx=>by
  obtain⟨h1,h2⟩:=ag.mp h
  rcases P'.mp hx with rfl|hx
  ·exact h1
  ·exact oM h2 x hx
def bW(n:Nat):Option Blk→Bool
 | some x=>cE n x
 | none=>true
def hcB(args:List AV)(h:List Blk)(r:AV)(h':List (Option Blk)):Bool:=
 cond (bI h.length args) (cond (allB (cE h.length) h) (cond (Nat.ble h.length h'.length) (cond (Nat.ble h'.length (h.length+16)) (cond (r.belB h'.length) (allB (bW h'.length) h') false) false) false) false) false
theorem qO.of{args:List AV}{h:List Blk}{r:AV}{h':List (Option Blk)}(e:hcB args h r h'=true):qO args h r h':=by
 obtain⟨h1,e⟩:=ag.mp e;obtain⟨h2,e⟩:=ag.mp e;obtain⟨h3,e⟩:=ag.mp e;obtain⟨h4,e⟩:=ag.mp e;obtain⟨h5,h6⟩:=ag.mp e;exact⟨jD h1,oM h2,U' h3,U' h4,AV.belB_ok h5,λx hx=>oM h6 _ hx⟩
structure HC (P:Program) where
  f:FuncId
  sh:List Sh
  args:List AV
  h:List Blk
  r:AV
  h':List (Option Blk)
  ok:ba P f args h r h'
  fn:mG P f
  good:qO args h r h'
inductive PB where
  | box (x:AV)
  | vec (k:Nat) (es:List AV) (h:bM es=true)
  | arr (es:List AV) (h:bM es=true)
  | map (kk:Option Nat) (ks:List MK) (vs:List AV) (h:bM vs=true)
  | gone
def PB.blk:PB→Option Blk
 | .box x=>some (.box x)
 | .vec k es _=>some (.vec k es)
 | .arr es _=>some (.box (.agg es))
 | .map kk ks vs _=>some (.map kk ks vs)
 | .gone=>none
def PB.ren(π:Nat→Nat):PB→Option Blk
 | .box x=>some (.box (x.ren π))
 | .vec k es _=>some (.vec k es)
 | .arr es _=>some (.box (.agg es))
 | .map kk ks vs _=>some (.map kk ks vs)
 | .gone=>none
def PB.isGone:PB→Bool
 | .gone=>true
 | _=>false
def PB.see(v:Option Blk):PB→Option Blk
 | .gone=>none
 | _=>v
structure NF where
  ts:List (Nat×Sh×AV)
  hs:List PB
def NF.st(m:NF):S3:=⟨dZ (m.ts.map λp=>(p.1,p.2.2)),hpL 0 (m.hs.map PB.blk),m.hs.length⟩
inductive Cmd:Type 1 where
  | frz (b:Nat)
  | frzE (b:Nat) (es:List AV) (h:bM es=true)
  | frzM (b:Nat) (es:List AV) (h:bM es=true)
  | nilT (t k:Nat)
  | frzV (b t i:Nat) {α:Type} (v:α→AV) (l:List α) (y:AV) (x:α) (es:List AV) (h:bM es=true)
  | nilF (t i k:Nat)
  | nilB (b i k:Nat)
  | nilC (b k:Nat)
  | wkT (t:Nat) (s:Sh)
  | wkB (b:Nat) (s:Sh)
  | wkS (b i:Nat) (sh:Sh) {α:Type} (v:α→AV) (l:List α) (y:AV) (x:α)
  | wkV (b:Nat) (sh:Sh) {α:Type} (v:α→AV) (l:List α)
section
variable {α β : Type} [DecidableEq α]
def eS(l:List (α×β)):List α:=l.map Prod.fst
def lZ(l:List (α×β))(x:α):Nat:=(eS l).idxOf x
def zB(l:List (α×β))(x:α):Bool:=decide (x∈eS l)
def qX(l:List (α×β))(x:α)(z:β):β:=match l[lZ l x]? with
 | some p=>p.2
 | none=>z
def IQ(l:List (α×β))(x:α)(v:β):List (α×β):=if x∈eS l then l.set (lZ l x) (x,v)else l++[(x,v)]
def mdl(l:List (α×β))(x:α):List (α×β):=l.eraseIdx (lZ l x)
end
inductive MN:Type 1 where
  | get {α β:Type} (de:DecidableEq α) (kf:α→MK) (hi:∀x y,kf x=kf y→x=y) (vf:β→AV) (l:List (α×β)) (x:α) (z:β)
  | put {α β:Type} (de:DecidableEq α) (kf:α→MK) (hi:∀x y,kf x=kf y→x=y) (vf:β→AV) (l:List (α×β)) (x:α) (v:β)
  | del {α β:Type} (de:DecidableEq α) (kf:α→MK) (hi:∀x y,kf x=kf y→x=y) (vf:β→AV) (l:List (α×β)) (x:α)
  | getB (h:Bool) {α β:Type} (de:DecidableEq α) (kf:α→MK) (hi:∀x y,kf x=kf y→x=y) (vf:β→AV) (l:List (α×β)) (x:α) (z:β)
def fK(P:Program)(k n:Nat)(c:AC)(s s2:S3):Prop:=AWP P k n c (λe s'=>match e with
 | .normal=>aD k n s' s2
 | _=>False) s
inductive An (P:Program) (Sf:Nat→Type) (T:Type):Type 1 where
  | nil
  | pass (a:An P Sf T)
  | br (g:Nat) (x y:An P Sf T)
  | el (f:Nat) {α:Type} (v:α→AV) (l:List α) (k:α→An P Sf T)
  | elA (f:Nat) {α:Type} (v:α→List AV) (l:List α) (i n:Nat) (hv:∀x,(v x).length=n) (k:α→An P Sf T)
  | st (f:Nat) {α:Type} (v:α→AV) (l:List α) (g:α→α) (k:α→An P Sf T)
  | stI (f:Nat) {α:Type} (v:α→AV) (l:List α) (k:α→An P Sf T)
  | app (f:Nat) {α:Type} (v:α→AV) (l xs:List α) (a:An P Sf T)
  | appF (f:Nat) {α:Type} (v:α→AV) (l xs:List α) (a:An P Sf T)
  | sub (f:Nat) {α:Type} (v:α→AV) (l:List α) (fl:Bool) (a:An P Sf T)
  | rep (f:Nat) {α:Type} (v:α→AV) (x:α) (a:An P Sf T)
  | own (f:Nat) (a:An P Sf T)
  | mn (f:Nat) (q:MN) (a:An P Sf T)
  | req (f:Nat) (p:Prop) (k:p→An P Sf T)
  | callP (c:PC P) (a:An P Sf T)
  | callH (bs:List Nat) (c:HC P) (a:An P Sf T)
  | callA (c:PC P) (h:bT c.args) (a:An P Sf T)
  | cmd (c:Cmd) (a:An P Sf T)
  | cmdL (c:Cmd) (a:An P Sf T)
  | wait (a:An P Sf T)
  | loop (j:Nat) (nf:Sf j→NF) (I:Sf j→Prop) (mu:Sf j→Nat) (s0:Sf j) (bs:List Nat) (body:Sf j→An P Sf T)
  | join (j:Nat) (nf:Sf j→NF) (I:Sf j→Prop) (a:An P Sf T) (body:Sf j→An P Sf T)
  | join2 (j:Nat) (nf:Sf j→NF) (I:Sf j→Prop) (a:An P Sf T) (body:Sf j→An P Sf T)
  | back (j:Nat) (t:Sf j) (bs:List Nat)
  | hand (k0:Nat) (cs:List Cmd) (m1:NF) (bs:List Nat) (s2:S3) (c:AC) (h:∀n,fK P k0 n c m1.st s2) (a:An P Sf T)
  | hand2 (k0:Nat) (s1 s2:S3) (c:AC) (h:∀n,fK P k0 n c s1 s2) (a:An P Sf T)
  | handQ (k0:Nat) (m1:NF) (bs:List Nat) (s2:S3) (c:AC) (p:Prop) (h:p→∀n,fK P k0 n c m1.st s2) (a:An P Sf T)
  | unr (n:Nat) (a:An P Sf T)
  | ret (r:T)
  | retH (r:T) (m:NF) (bs:List Nat)
section
variable {P : Program} {Sf : Nat → Type} {T : Type}
def An.l(f:Nat):An P Sf T→An P Sf T
 | .br g x y=>cond (Nat.beq g f) x (.br g x y)
 | a=>a
def An.r(f:Nat):An P Sf T→An P Sf T
 | .br g x y=>cond (Nat.beq g f) y (.br g x y)
 | a=>a
end
def vN(y:AV)(off size:Nat)(agg:Bool):Bool:=cond y.solid (cond (cond agg true (Nat.beq size 1)) (Nat.ble (off+size) y.cells.length) false) false
def Ns(y:AV)(off size:Nat)(v:AV):Bool:=cond y.solid (cond v.solid (cond (Nat.beq v.cells.length size) (Nat.ble (off+size) y.cells.length) false) false) false
def K0(n:Nat):List (Nat×Nat×AV)→Bool
 | []=>true
 | (o,s,x)::r=>cond x.solid (cond (Nat.beq x.cells.length s) (cond (Nat.ble (o+s) n) (K0 n r) false) false) false
def OV(k n:Nat):List (Nat×AV)→Bool
 | []=>true
 | (i,x)::r=>cond x.solid (cond (Nat.beq x.cells.length k) (cond (Nat.blt i n) (OV k n r) false) false) false
def Js:List (Nat×AV)→Bool
 | []=>true
 | (_,x)::r=>cond x.pureB (Js r) false
def AL(op:BinOp)(x y:AV):Bool:=match x,y with
 | .val (.int k _),.val (.int k' b)=>match op with
  | .quo=>cond (decide (k=k')) (!(b==0)) false
  | .rem=>cond (decide (k=k')) (!(b==0)) false
  | .shl=>decide (0≤b)
  | .shr=>decide (0≤b)
  | _=>decide (k=k')
 | .val (.string a),.val (.string b)=>match op with
  | .add=>decide (a.size+b.size≤maxLen)
  | .eql|.neq|.lss|.leq|.gtr|.geq=>true
  | _=>false
 | _,_=>false
def cg(n:Nat)(l h m:Int):Bool:=cond (decide (0≤l)) (cond (decide (l≤h)) (cond (decide (h≤m)) (decide (m≤(n:Int))) false) false) false
def fZ(hp:Hp)(k:Nat)(x:AV)(lo hi mx:Option Int):Bool:=match x with
 | .sl k' es _=>cond (cond (Nat.beq k' k) true es.isEmpty) (cond (cond mx.isSome hi.isSome true) (cg es.length (lo.getD 0) (hi.getD es.length) (mx.getD es.length)) false) false
 | .vec b=>match hp b with
  | some (.vec k' es)=>cond (Nat.beq k' k) (cond (cond mx.isSome hi.isSome true) (cg es.length (lo.getD 0) (hi.getD es.length) (mx.getD es.length)) false) false
  | _=>false
 | _=>false
def kp(ρ:AO→AV):Option AO→Option (Option Int)
 | none=>some none
 | some x=>match ρ x with
  | .val (.int _ i)=>some (some i)
  | _=>none
def kkB:Option Nat→Option Nat→Bool
 | none,none=>true
 | some a,some b=>Nat.beq a b
 | _,_=>false
def Fm:Option Nat→MK→Bool
 | none,.n _=>true
 | some k,.c l=>Nat.beq l.length k
 | _,_=>false
def okB(op:AOp)(ρ:AO→AV)(hp:Hp):Bool:=match op with
 | .move _=>true
 | .pick c _ _=>match ρ c with
  | .val (.bool _)=>true
  | _=>false
 | .box x=>(ρ x).solid
 | .build z ps=>K0 z.length (ps.map λ(o,s,x)=>(o,s,ρ x))
 | .load agg size x=>match ρ x with
  | .ref b off=>match hp b with
   | some (.box y)=>vN y off size agg
   | _=>false
  | .rptr y off=>vN y off size agg
  | _=>false
 | .store size a x=>match ρ a with
  | .ref b off=>match hp b with
   | some (.box y)=>Ns y off size (ρ x)
   | _=>false
  | _=>false
 | .nilc x=>match ρ x with
  | .ref _ _=>true
  | .eref _ _ _=>true
  | .rptr _ _=>true
  | .func _ _=>true
  | _=>false
 | .bin op x y=>AL op (ρ x) (ρ y)
 | .binB op x y=>match ρ x,ρ y with
  | .val (.bool _),.val (.bool _)=>match op with
   | .eql=>true
   | .neq=>true
   | _=>false
  | _,_=>false
 | .eqs ks _ x y=>match ρ x,ρ y with
  | .agg xs,.agg ys=>(bZ ks xs ys).isSome
  | _,_=>false
 | .un op x=>match op,ρ x with
  | .not,.val (.bool _)=>true
  | .neg,.val (.int _ _)=>true
  | _,_=>false
 | .convI _ x=>match ρ x with
  | .val (.int _ _)=>true
  | _=>false
 | .convS x=>match ρ x with
  | .val (.string _)=>true
  | _=>false
 | .convSB x=>match ρ x with
  | .val (.string _)=>true
  | _=>false
 | .convBS x=>match ρ x with
  | .sl k es _=>cond (Nat.beq k 1) (cG es).isSome false
  | .asub b o n k=>cond (Nat.beq k 1) (match iB hp b with
   | some cs=>match cG ((cs.drop o).take n)with
    | some bs=>cond (Nat.ble (o+n) cs.length) (Nat.ble bs.length 4096) false
    | none=>false
   | none=>false) false
  | _=>false
 | .sliceA n _ x lo hi=>match ρ x with
  | .ref _ _=>cond lo.isNone (cond hi.isNone (Nat.ble n 4096) false) false
  | _=>false
 | .mkf _ _=>true
 | .mks _ bytes _ l c=>match ρ l,ρ c with
  | .val (.int .i64 l),.val (.int .i64 c)=>cond (Nat.ble bytes 134217728) (cond (decide (0≤l)) (cond (decide (l≤c)) (decide (c≤1048576)) false) false) false
  | _,_=>false
 | .sliceS x lo hi=>match ρ x with
  | .val (.string s)=>match nJ 0 (lo.map ρ),nJ s.size (hi.map ρ)with
   | some l,some h=>cond (decide (0≤l)) (cond (decide (l≤h)) (decide (h≤s.size)) false) false
   | _,_=>false
  | _=>false
 | .slice k x lo hi mx=>match lo.map ρ,hi.map ρ,mx.map ρ with
  | none,none,none=>fZ hp k (ρ x) none none none
  | some (.val (.int _ l)),none,none=>fZ hp k (ρ x) (some l) none none
  | none,some (.val (.int _ h)),none=>fZ hp k (ρ x) none (some h) none
  | some (.val (.int _ l)),some (.val (.int _ h)),none=>fZ hp k (ρ x) (some l) (some h) none
  | none,some (.val (.int _ h)),some (.val (.int _ m))=>fZ hp k (ρ x) none (some h) (some m)
  | some (.val (.int _ l)),some (.val (.int _ h)),some (.val (.int _ m))=>fZ hp k (ρ x) (some l) (some h) (some m)
  | _,_,_=>false
 | .faddr _ x=>match ρ x with
  | .ref _ _=>true
  | .eref _ _ _=>true
  | .rptr _ _=>true
  | _=>false
 | .field agg o size x=>cond (ρ x).isAgg (vN (ρ x) o size agg) false
 | .iaddr k x i=>match ρ i with
  | .val (.int _ i)=>match ρ x with
   | .vec b=>match hp b with
    | some (.vec k' es)=>cond (Nat.beq k' k) (cond (decide (0≤i)) (decide (i<es.length)) false) false
    | _=>false
   | .vsub b _ n=>match hp b with
    | some (.vec k' _)=>cond (Nat.beq k' k) (cond (decide (0≤i)) (decide (i<n)) false) false
    | _=>false
   | _=>false
  | _=>false
 | .iaddrA n _ x i=>match ρ i with
  | .val (.int _ i)=>match ρ x with
   | .ref _ _=>cond (decide (0≤i)) (decide (i<n)) false
   | .eref _ _ _=>cond (decide (0≤i)) (decide (i<n)) false
   | .rptr _ _=>cond (decide (0≤i)) (decide (i<n)) false
   | _=>false
  | _=>false
 | .indexS x i=>match ρ x,ρ i with
  | .val (.string s),.val (.int _ i)=>cond (decide (0≤i)) (decide (i<s.size)) false
  | _,_=>false
 | .ext i x=>match ρ x with
  | .tup xs=>Nat.blt i xs.length
  | _=>false
 | .len x=>match ρ x with
  | .sl _ _ _=>true
  | .vec b=>match hp b with
   | some (.vec _ _)=>true
   | _=>false
  | _=>false
 | .lenS x=>match ρ x with
  | .val (.string _)=>true
  | _=>false
 | .cap x=>match ρ x with
  | .sl _ _ full=>full
  | _=>false
 | .min xs=>match xs.map ρ with
  | .val (.int k a)::r=>(iz gW k a r).isSome
  | _=>false
 | .max xs=>match xs.map ρ with
  | .val (.int k a)::r=>(iz iq k a r).isSome
  | _=>false
 | .mkI _ x=>match ρ x with
  | .val (.int _ _)=>true
  | .val (.string _)=>true
  | .val (.bool _)=>true
  | _=>false
 | .asrt _ _ x=>match ρ x with
  | .val (.iface _ _)=>true
  | _=>false
 | .mkm _=>true
 | .mset kk m k x=>match ρ m with
  | .mref b=>match hp b,(ρ k).key with
   | some (.map kk' _ _),some q=>cond (kkB kk' kk) (cond (Fm kk q) (ρ x).solid false) false
   | _,_=>false
  | _=>false
 | .mlen x=>match qZ hp (ρ x)with
  | some (_,ks,_)=>decide (ks.length≤maxLen)
  | none=>false
 | _=>false
end Go.Am
namespace Go.Am
theorem lW{y:AV}{off size:Nat}{agg:Bool}(h:vN y off size agg=true):di y off size agg:=by
 obtain⟨h1,h⟩:=ag.mp h;obtain⟨h2,h3⟩:=ag.mp h;refine⟨h1,U' h3,λe=>?_⟩;subst e;exact M' h2
theorem tp{y:AV}{off size:Nat}{v:AV}(h:Ns y off size v=true):nP y off size v:=by
 obtain⟨h1,h⟩:=ag.mp h;obtain⟨h2,h⟩:=ag.mp h;obtain⟨h3,h4⟩:=ag.mp h;exact⟨h1,h2,M' h3,U' h4⟩
theorem xl{n:Nat}:∀{ps:List (Nat×Nat×AV)},K0 n ps=true→uo n ps
 | [],_=>λp hp=>by simp at hp
 | (o,s,x)::r,h=>by
  obtain⟨h1,h⟩:=ag.mp h;obtain⟨h2,h⟩:=ag.mp h;obtain⟨h3,h4⟩:=ag.mp h;intro p hp
  rcases P'.mp hp with rfl|hp
  ·exact⟨h1,M' h2,U' h3⟩
  ·exact xl h4 p hp
theorem mc{k n:Nat}:∀{ps:List (Nat×AV)},OV k n ps=true→wu k n ps
 | [],_=>λp hp=>by simp at hp
 | (i,x)::r,h=>by
  obtain⟨h1,h⟩:=ag.mp h;obtain⟨h2,h⟩:=ag.mp h;obtain⟨h3,h4⟩:=ag.mp h;intro p hp
  rcases P'.mp hp with rfl|hp
  ·exact⟨h1,M' h2,U' h3⟩
  ·exact mc h4 p hp
theorem pE:∀{ps:List (Nat×AV)},Js ps=true→tX ps
 | [],_=>λp hp=>by simp at hp
 | (i,x)::r,h=>by
  obtain⟨h1,h2⟩:=ag.mp h;intro p hp
  rcases P'.mp hp with rfl|hp
  ·exact AV.pureB_ok h1
  ·exact pE h2 p hp
theorem FT{op:BinOp}{x y:AV}(h:AL op x y=true):(dv op x y).c:=by
 unfold AL at h
 split at h
 ·rename_i k a k' b;cases op with
  | quo=>obtain⟨h1,h2⟩:=ag.mp h;exact⟨H' h1,by simpa using h2⟩
  | rem=>obtain⟨h1,h2⟩:=ag.mp h;exact⟨H' h1,by simpa using h2⟩
  | shl=>exact H' (p:=0≤b) h
  | shr=>exact H' (p:=0≤b) h
  | _=>exact H' (p:=k=k') h
 ·rename_i a b;cases op with
  | add=>exact H' (p:=a.size+b.size≤maxLen) h
  | eql=>trivial
  | neq=>trivial
  | lss=>trivial
  | leq=>trivial
  | gtr=>trivial
  | geq=>trivial
  | _=>cases h
 ·cases h
theorem mC{n:Nat}{l h m:Int}(e:cg n l h m=true):0≤l∧l≤h∧h≤m∧m≤(n:Int):=by
 obtain⟨h1,e⟩:=ag.mp e;obtain⟨h2,e⟩:=ag.mp e;obtain⟨h3,h4⟩:=ag.mp e;exact⟨H' h1,H' h2,H' h3,H' h4⟩
theorem lJ{a b:Bool}(h:cond a b true=true):a=true→b=true:=by cases a<;>simp_all
theorem fS{hp:Hp}{k:Nat}{x:AV}{lo hi mx:Option Int}(h:fZ hp k x lo hi mx=true):(sliceA hp k x lo hi mx).c:=by
 unfold fZ at h
 split at h
 ·rename_i k' es full;obtain⟨h1,h⟩:=ag.mp h;obtain⟨h2,h3⟩:=ag.mp h;have b:=mC h3;refine⟨?_,lJ h2,b.1,b.2.1,b.2.2.1,b.2.2.2⟩;cases hk:Nat.beq k' k with
  | true=>exact .inl (M' hk)
  | false=>rw[hk]at h1;exact .inr (by simpa using h1)
 ·rename_i b
  split at h
  ·rename_i k' es he;obtain⟨h1,h⟩:=ag.mp h;obtain⟨h2,h3⟩:=ag.mp h;have b:=mC h3;simp only[sliceA,he];exact⟨M' h1,lJ h2,b.1,b.2.1,b.2.2.1,b.2.2.2⟩
  ·cases h
 ·cases h
theorem PM{hp:Hp}{f k:Nat}{x:AV}{h m:Int}(e:fZ hp k x none (some h) (some m)=true):(lm hp f k x h m).c:=by
 have hs:=fS e;unfold lm
 split
 ·split
  ·rename_i b k' es he
   split
   ·simp only[sliceA,he,bS',Option.getD_none]at hs;exact⟨hs.1,by have:=hs.2.2;omega,by have:=hs.2.2;omega⟩
   ·exact hs
  ·exact hs
 ·exact hs
theorem vF{hp:Hp}{f k:Nat}{x:AV}{h:Int}(e:fZ hp k x none (some h) none=true):bV hp f k x h=sliceA hp k x none (some h) none:=by
 unfold fZ at e
 split at e
 ·rfl
 ·split at e
  ·rename_i he;simp only[bV,he]
  ·cases e
 ·cases e
theorem nj{a b:Option Nat}(h:kkB a b=true):a=b:=by
 cases a<;>cases b<;>first|rfl|(cases h;done)|exact congrArg some (M' h)
theorem jZ{kk:Option Nat}{q:MK}(h:Fm kk q=true):q.fits kk:=by
 cases kk<;>cases q<;>first|trivial|(cases h;done)|exact M' h
theorem rS{op:AOp}{f:Nat}{ρ:AO→AV}{hp:Hp}(h:okB op ρ hp=true):(evA op f ρ hp).c:=by
  cases op<;>simp only[okB]at h
  case move x=>trivial
  case pick c a b =>
    split at h
    · rename_i e;simp only[evA,e]
    · cases h
  case box x=>exact h
  case build z ps=>exact xl h
  case load agg size x =>
    split at h
    · rename_i b off e
      split at h
      · rename_i y hy;simp only[evA,e,hy];exact lW h
      · cases h
    · rename_i e;simp only[evA,e];exact lW h
    · cases h
  case store size a x =>
    split at h
    · rename_i b off e
      split at h
      · rename_i y hy;simp only[evA,e,hy];exact tp h
      · cases h
    · cases h
  case nilc x=>split at h<;>first|(rename_i e;simp only[evA,e];done)|cases h
  case bin op x y=>exact FT h
  case binB op x y =>
    split at h
    · rename_i e1 e2
      simp only[evA,e1,e2];cases op<;>simp at h<;>trivial
    · cases h
  case eqs ks ne x y =>
    split at h
    · rename_i e1 e2
      simp only[evA,e1,e2];cases he:bZ ks _ _ with
      | none=>rw[he]at h;cases h
      | some b=>trivial
    · cases h
  case un op x =>
    simp only[evA];generalize ρ x=y at h ⊢;cases op<;>cases y with
    | val v=>cases v<;>simp at h<;>trivial
    | _=>simp at h
  case convI k x=>split at h<;>first|(rename_i e;simp only[evA,e];done)|cases h
  case convS x=>split at h<;>first|(rename_i e;simp only[evA,e];done)|cases h
  case convSB x=>split at h<;>first|(rename_i e;simp only[evA,e];done)|cases h
  case convBS x =>
    split at h
    · rename_i k es fu e
      obtain⟨h1,h2⟩:=ag.mp h;cases M' h1;simp only[evA,e];cases hb:cG es with
      | none=>rw[hb]at h2;cases h2
      | some bs=>trivial
    · rename_i b o n k e
      obtain⟨h1,h2⟩:=ag.mp h;cases M' h1
      split at h2
      · rename_i cs e1
        split at h2
        · rename_i bs e2
          obtain⟨h3,h4⟩:=ag.mp h2;simp only[evA,e,e1,e2];exact⟨U' h3,aG' (U' h4) (by decide)⟩
        · cases h2
      · cases h2
    · cases h
  case sliceA n k x lo hi =>
    split at h
    · rename_i b off e
      obtain⟨h1,h2⟩:=ag.mp h;obtain⟨h2,h3⟩:=ag.mp h2;cases lo with
      | some _=>cases h1
      | none =>
      cases hi with
      | some _=>cases h2
      | none =>
      simp only[evA,e,Option.map_none,nJ];have:=U' h3;exact⟨ah' _,by omega,ah' _,by rw[show maxLen=9223372036854775807 from rfl];omega⟩
    · cases h
  case mkf=>trivial
  case mks k bytes z l c =>
    split at h
    · rename_i l' c' e1 e2
      obtain⟨h0,h⟩:=ag.mp h;obtain⟨h1,h⟩:=ag.mp h;obtain⟨h2,h3⟩:=ag.mp h;have h0:=U' h0;have h1:=H' h1;have h2:=H' h2;have h3:=H' h3;simp only[evA,e1,e2]
      refine⟨h1,h2,?_,?_⟩
      · have g:c' * (bytes:Int)≤1048576 * 134217728:=Int.mul_le_mul h3 (by omega) (by omega) (by omega)
        omega
      · show c'≤(maxLen:Int)
        have:(1048576:Int)≤(maxLen:Int):=by decide
        omega
    · cases h
  case sliceS x lo hi =>
    split at h
    · rename_i e1
      split at h
      · rename_i e2 e3
        obtain⟨h1,h⟩:=ag.mp h;obtain⟨h2,h3⟩:=ag.mp h;simp only[evA,e1,e2,e3];exact⟨H' h1,H' h2,H' h3⟩
      · cases h
    · cases h
  case slice k x lo hi mx =>
    split at h
    · rename_i e1 e2 e3;simp only[evA,e1,e2,e3];exact fS h
    · rename_i e1 e2 e3;simp only[evA,e1,e2,e3];exact fS h
    · rename_i e1 e2 e3;simp only[evA,e1,e2,e3];rw[vF h];exact fS h
    · rename_i e1 e2 e3;simp only[evA,e1,e2,e3];exact fS h
    · rename_i e1 e2 e3;simp only[evA,e1,e2,e3];exact PM h
    · rename_i e1 e2 e3;simp only[evA,e1,e2,e3];exact fS h
    · cases h
  case faddr o x=>split at h<;>first|(rename_i e;simp only[evA,e];done)|cases h
  case field agg o size x =>
    obtain⟨h1,h2⟩:=ag.mp h;exact⟨h1,lW h2⟩
  case iaddr k x i =>
    split at h
    · rename_i i' e1
      split at h
      · rename_i b e2
        split at h
        · rename_i k' es e3
          obtain⟨h1,h⟩:=ag.mp h;obtain⟨h2,h3⟩:=ag.mp h;simp only[evA,e1,e2,e3];exact⟨M' h1,H' h2,H' h3⟩
        · cases h
      · rename_i b lo n e2
        split at h
        · rename_i k' es e3
          obtain⟨h1,h⟩:=ag.mp h;obtain⟨h2,h3⟩:=ag.mp h;simp only[evA,e1,e2,e3];exact⟨M' h1,H' h2,H' h3⟩
        · cases h
      · cases h
    · cases h
  case iaddrA n k x i =>
    split at h
    · rename_i i' e1
      split at h<;>first
        | (rename_i e2
           obtain⟨h2,h3⟩:=ag.mp h;simp only[evA,e1,e2];exact⟨H' h2,H' h3⟩)
        | cases h
    · cases h
  case indexS x i =>
    split at h
    · rename_i e1 e2
      obtain⟨h2,h3⟩:=ag.mp h;simp only[evA,e1,e2];exact⟨H' h2,H' h3⟩
    · cases h
  case ext i x =>
    split at h
    · rename_i e;simp only[evA,e];exact U' h
    · cases h
  case len x =>
    split at h
    · rename_i e;simp only[evA,e,jf]
    · rename_i b e
      split at h
      · rename_i e2;simp only[evA,e,jf,e2]
      · cases h
    · cases h
  case lenS x=>split at h<;>first|(rename_i e;simp only[evA,e];done)|cases h
  case cap x =>
    split at h
    · rename_i k es full e;subst h;simp only[evA,e]
    · cases h
  case min xs =>
    simp only[evA]
    split at h
    · rename_i k a r e
      simp only[e,gQ];cases he:iz gW k a r with
      | none=>rw[he]at h;cases h
      | some b=>trivial
    · cases h
  case max xs =>
    simp only[evA]
    split at h
    · rename_i k a r e
      simp only[e,gQ];cases he:iz iq k a r with
      | none=>rw[he]at h;cases h
      | some b=>trivial
    · cases h
  case mkI t x=>split at h<;>first|(rename_i e;simp only[evA,e];done)|cases h
  case asrt t z x=>split at h<;>first|(rename_i e;simp only[evA,e];done)|cases h
  case mkm=>trivial
  case mset kk m k x =>
    split at h
    · rename_i b e1
      split at h
      · rename_i kk' ks vs q e2 e3
        obtain⟨h1,h⟩:=ag.mp h;obtain⟨h2,h3⟩:=ag.mp h;simp only[evA,e1,e2,e3];exact⟨nj h1,jZ h2,h3⟩
      · cases h
    · cases h
  case mlen x =>
    split at h
    · rename_i e;simp only[evA,e];exact H' h
    · cases h
  all_goals cases h
end Go.Am
namespace Go.Am
mutual
def dX(hp:Hp):AV→AV
  | .ref b off=>match hp b with
    | some (.box x)=>.rptr x off
    | _=>.ref b off
  | .vec b=>match hp b with
    | some (.vec k es)=>.sl k es false
    | _=>.vec b
  | .agg cs=>.agg (ji hp cs)
  | .func f cs=>.func f (ji hp cs)
  | .val v=>.val v
  | .sl k es full=>.sl k es full
  | .rptr x o=>.rptr x o
  | .tup cs=>.tup cs
  | .eref b i o=>.eref b i o
  | .vsub b i o=>.vsub b i o
  | .asub b i o k=>.asub b i o k
  | .mref b=>match hp b with
    | some (.map kk ks vs)=>.mp kk ks vs
    | _=>.mref b
  | .mp kk ks vs=>.mp kk ks vs
  | .unk=>.unk
def ji(hp:Hp):List AV→List AV
  | []=>[]
  | x::xs=>dX hp x::ji hp xs
end
mutual
def oR(hp:Hp):AV→List (List AV)
  | .ref b off=>match hp b with
    | some (.box x)=>[[x]]
    | _=>[[.ref b off]]
  | .vec b=>match hp b with
    | some (.vec k es)=>[es]
    | _=>[[.vec b]]
  | .agg cs=>Ep hp cs
  | .func _ cs=>Ep hp cs
  | .val _=>[]
  | .sl _ _ _=>[]
  | .rptr _ _=>[]
  | .unk=>[]
  | .tup _=>[[.vec 0]]
  | .eref _ _ _=>[[.vec 0]]
  | .vsub _ _ _=>[[.vec 0]]
  | .asub _ _ _ _=>[[.vec 0]]
  | .mref b=>match hp b with
    | some (.map _ _ vs)=>[vs]
    | _=>[[.mref b]]
  | .mp _ _ _=>[]
def Ep(hp:Hp):List AV→List (List AV)
  | []=>[]
  | x::xs=>oR hp x++Ep hp xs
end
mutual
def zQ:AV→List Nat
  | .ref b _=>[b]
  | .vec b=>[b]
  | .mref b=>[b]
  | .agg cs=>wW cs
  | .func _ cs=>wW cs
  | _=>[]
def wW:List AV→List Nat
  | []=>[]
  | x::xs=>zQ x++wW xs
end
theorem nT:∀{a b:List (List AV)},c9 (a++b)=true→c9 a=true∧c9 b=true
 | [],b,h=>⟨rfl,h⟩
 | x::a,b,h=>by
  obtain⟨h1,h2⟩:=ag.mp h;obtain⟨h3,h4⟩:=nT (a:=a) h2;exact⟨ag.mpr ⟨h1,h3⟩,h4⟩
mutual
theorem Gp{hp:Hp}{foot:List Nat}:∀{x:AV},c9 (oR hp x)=true→(∀b∈zQ x,b∈foot)→fI foot hp x (dX hp x)
  | .ref b off,h,hf=>by
    rw[oR]at h;rw[dX]
    split at h
    · rename_i x hx
      exact fI.ref (hf b (by simp[zQ])) hx (AV.pureB_ok (ag.mp (ag.mp h).1).1)
    · cases h
  | .vec b,h,hf=>by
    rw[oR]at h;rw[dX]
    split at h
    · rename_i k es hx
      exact fI.vec (hf b (by simp[zQ])) hx (aU (ag.mp h).1)
    · cases h
  | .agg cs,h,hf=>by
    rw[oR]at h;rw[dX];exact fI.agg (lF h λb hb=>hf b (by simpa[zQ]using hb))
  | .func f cs,h,hf=>by
    rw[oR]at h;rw[dX];exact fI.func (lF h λb hb=>hf b (by simpa[zQ]using hb))
  | .val v,_,_=>by rw[dX];exact fI.pure trivial
  | .sl _ _ _,_,_=>by rw[dX];exact fI.pure trivial
  | .rptr _ _,_,_=>by rw[dX];exact fI.pure trivial
  | .unk,_,_=>by rw[dX];exact fI.pure trivial
  | .tup _,h,_=>by rw[oR]at h;cases h
  | .eref _ _ _,h,_=>by rw[oR]at h;cases h
  | .vsub _ _ _,h,_=>by rw[oR]at h;cases h
  | .asub _ _ _ _,h,_=>by rw[oR]at h;cases h
  | .mref b,h,hf=>by
    rw[oR]at h;rw[dX]
    split at h
    · rename_i kk ks vs hx
      exact fI.map (hf b (by simp[zQ])) hx (aU (ag.mp h).1)
    · cases h
  | .mp _ _ _,_,_=>by rw[dX];exact fI.pure trivial
theorem lF{hp:Hp}{foot:List Nat}:∀{xs:List AV},c9 (Ep hp xs)=true→(∀b∈wW xs,b∈foot)→jJ foot hp xs (ji hp xs)
  | [],_,_=>by rw[ji];trivial
  | x::xs,h,hf=>by
    rw[Ep]at h;rw[ji];obtain⟨h1,h2⟩:=nT h;exact⟨Gp h1 λb hb=>hf b (by simp[wW,hb]),lF h2 λb hb=>hf b (by simp[wW,hb])⟩
end
mutual
theorem yI{hp:Hp}:∀{x:AV},x.pureB=true→dX hp x=x
  | .agg cs,h=>by rw[dX,iH (xs:=cs) h]
  | .func f cs,h=>by rw[dX,iH (xs:=cs) h]
  | .val v,_=>by rw[dX]
  | .sl _ _ _,_=>by rw[dX]
  | .rptr _ _,_=>by rw[dX]
  | .unk,_=>by rw[dX]
  | .tup _,h=>by rw[dX]
  | .ref _ _,h=>by cases h
  | .vec _,h=>by cases h
  | .eref _ _ _,h=>by cases h
  | .vsub _ _ _,h=>by cases h
  | .asub _ _ _ _,h=>by cases h
  | .mref _,h=>by cases h
  | .mp _ _ _,_=>by rw[dX]
theorem iH{hp:Hp}:∀{xs:List AV},bM xs=true→ji hp xs=xs
  | [],_=>by rw[ji]
  | x::xs,h=>by
    obtain⟨h1,h2⟩:=ag.mp h;rw[ji,yI h1,iH h2]
end
theorem vV{n:Nat}{x:Blk}(h:cE n x=true)(π:Nat→Nat):js π x=x.ren π:=by
 cases x with
 | box x=>rfl
 | vec k es=>rw[Blk.ren,bc _ (aU h)];rfl
 | row k es l c=>rw[Blk.ren,bc _ (aU h)];rfl
 | map kk ks vs=>rw[Blk.ren,bc _ (aU h)];rfl
 | mst _ _ _ _ _=>cases h
 | itr _ _ _ _=>cases h
theorem vW{n:Nat}{x:Blk}(h:cE n x=true):x.bel n:=by
 cases x with
 | box x=>exact AV.belB_ok h
 | vec k es=>exact bm (aU h)
 | row k es l c=>exact bm (aU h)
 | map kk ks vs=>exact bm (aU h)
 | mst _ _ _ _ _=>cases h
 | itr _ _ _ _=>cases h
def handP(bs:List Nat)(f:Nat)(h':List (Option Blk)):Eff:=fH (h'.zipIdx.map λp=>(bj bs f p.2,p.1.map (js (bj bs f))))
def Dx(bs:List Nat)(f:Nat)(h':List (Option Blk)):List Nat:=(List.range h'.length).map (bj bs f)
def z8:List Nat→Bool
 | []=>true
 | b::r=>cond (r.all λc=>!Nat.beq b c) (z8 r) false
theorem rT:∀{l:List Nat},z8 l=true→l.Nodup
 | [],_=>List.nodup_nil
 | b::r,h=>by
  obtain⟨h1,h2⟩:=ag.mp h;refine bq'.mpr ⟨λhb=>?_,rT h2⟩;have:=aZ'.mp h1 b hb;simp at this
theorem qg{l:List (Option Blk×Nat)}{bs:List Nat}{f:Nat}(h:∀p∈l,p.1.map (Blk.ren (bj bs f))=p.1.map (js (bj bs f))) :
  fH (l.map λp=>(bj bs f p.2,p.1.map (Blk.ren (bj bs f))))=fH (l.map λp=>(bj bs f p.2,p.1.map (js (bj bs f)))):=by
 have:(l.map λp=>(bj bs f p.2,p.1.map (Blk.ren (bj bs f))))=l.map λp=>(bj bs f p.2,p.1.map (js (bj bs f))):=aF' λp hp=>by rw[h p hp]
 rw[this]
theorem Ke{n:Nat}{bs:List Nat}{f:Nat}{h':List (Option Blk)}(h:∀x,some x∈h'→cE n x=true):cC bs f h'=handP bs f h':=by
 refine qg λp hp=>?_;cases e:p.1 with
 | none=>rfl
 | some x =>
  have hx:some x∈h':=by
   rw[←e];exact List.fst_mem_of_mem_zipIdx hp
  show some (x.ren _)=some (js _ x);rw[vV (h x hx)]
theorem KB{l:List (Nat×Option Blk)}{b:Nat}(h:fH l b≠none):b∈l.map (·.1):=by
 induction l with
 | nil=>exact absurd rfl h
 | cons p l ih =>
  obtain⟨c,x⟩:=p
  by_cases e:b=c
  ·subst e;simp
  ·have:fH ((c,x)::l) b=fH l b:=by show(if b=c then _ else _)=_;rw[u' e]
   rw[this]at h;simp only[au',P'];exact .inr (ih h)
theorem Fi{bs:List Nat}{f:Nat}{h':List (Option Blk)}{b:Nat}(h:handP bs f h' b≠none):b∈Dx bs f h':=by
 have:=KB h;rw[aV']at this;obtain⟨p,hp,rfl⟩:=R'.mp this;refine R'.mpr ⟨p.2,aY'.mpr ?_,rfl⟩;have:=List.snd_lt_of_mem_zipIdx hp;simpa using this
theorem bf.handP{P:Program}{n:Nat}{fid:FuncId}{args:List AV}{f:Nat}{hp:Hp}{r:AV}{h:List Blk}{h':List (Option Blk)}(hf:mG P fid)(hs:ba P fid args h r h')(bs:List Nat)
  (g:qO args h r h') (hl:bs.length=h.length) (hnd:bs.Nodup) (hb:bs.map hp=h.map λx=>some (js (bj bs f) x)) :
  bf P n fid (dh (bj bs f) args) f hp bs (r.ren (bj bs f)) (Am.handP bs f h'):=by
 rw[←Ke g.h'];refine bf.hand hf hs bs hl hnd g.args (λi b x e1 e2=>?_) g.le g.le' g.r λx hx=>vW (g.h' x hx);have hx:x∈h:=ak' e2;refine⟨vW (g.hp x hx),?_⟩;rw[←vV (g.hp x hx)];have:(bs.map hp)[i]?=(h.map λx=>some (js (bj bs f) x))[i]?:=by rw[hb]
 rw[S',S',e1,e2]at this;simpa using this
theorem bf.subargs{P:Program}{n:Nat}{fid:FuncId}{args args':List AV}{f:Nat}{hp:Hp}{foot:List Nat}{v:AV}{e:Eff}(h:gF args args')(hc:bf P n fid args' f hp foot v e):bf P n fid args f hp foot v e:=
 ⟨hc.1,λc A μ fr tm' hp' a w cargs H h1 h2 h3=>hc.2 c A μ fr tm' hp' a w cargs H h1 h2 (h.rvl h3)⟩
end Go.Am
namespace Go.Am
theorem au{b:Bool}{R:Prop}(h:cond b R False):b=true∧R:=by
 cases b with
 | true=>exact⟨rfl,h⟩
 | false=>exact h.elim
section
variable {P : Program} {Sf : Nat → Type} {T : Type}
abbrev KO(P:Program)(Sf:Nat→Type)(T:Type):=An P Sf T→S2→List Nat×List Nat→Prop
def L4(fid:FuncId)(args:List AV)(dst:Option Nat)(f:Nat)(s:S2)(a:An P Sf T)(K:KO P Sf T):Prop:=
 match a with
 | .callP c a'=>cond (Nat.beq fid c.f) (pY c.sh (ji s.hp args)=c.args∧cond (bM args) (K a' ⟨aN dst c.r s.tm,s.hp⟩ ([],[]))
   (cond c.r.flatB (cond (c9 (Ep s.hp args)) (K a' ⟨aN dst c.r s.tm,s.hp⟩ (wW args,[])) False) False)) False
 | .callA c _ a'=>cond (Nat.beq fid c.f) (pY c.sh args=c.args∧K a' ⟨aN dst c.r s.tm,s.hp⟩ ([],[])) False
 | .callH bs c a'=>cond (Nat.beq fid c.f) (cond (Nat.beq bs.length c.h.length) (cond (z8 bs) (pY c.sh args=dh (bj bs f) c.args∧(bs.map s.hp=c.h.map λx=>some (js (bj bs f) x)) ∧
   K a' ⟨aN dst (c.r.ren (bj bs f)) s.tm,cu (handP bs f c.h') s.hp⟩ (bs,Dx bs f c.h')) False) False) False
 | _=>False
def Iq(o:aM)(f:Nat)(s:S2)(a:An P Sf T)(K:KO P Sf T):Prop:=
 cond (okB o.op (evO s.tm) s.hp) (K a ⟨aN o.dst (evA o.op f (evO s.tm) s.hp).v s.tm,bP (evA o.op f (evO s.tm) s.hp) s.hp⟩ (rdH o.op s.tm,wrH (evA o.op f (evO s.tm) s.hp))) False
def gz(o:aM)(f:Nat)(s:S2)(a:An P Sf T)(K:KO P Sf T):Prop:=
 match o.op with
 | .call g xs=>match evO s.tm g with
  | .func fid caps=>L4 fid (xs.map (evO s.tm)++caps) o.dst f s a K
  | _=>False
 | .lit k n z ps=>cond (OV k n (ps.map λ(i,x)=>(i,evO s.tm x))) (cond (Js (ps.map λ(i,x)=>(i,evO s.tm x)))
   (K a ⟨aN o.dst (.sl k (ra (List.replicate n z) (ps.map λ(i,x)=>(i,evO s.tm x))) true) s.tm,s.hp⟩ (rdH o.op s.tm,[])) False) False
 | .isNil ptr ne x=>cond ptr (match EJ (evO s.tm x)with
  | some t=>K a ⟨aN o.dst (.bool (t != ne)) s.tm,s.hp⟩ (rdH o.op s.tm,[])
  | none=>False) False
 | _=>Iq o f s a K
def elR(o:aM)(f:Nat)(s:S2){α:Type}(v:α→AV)(l:List α)(k:α→An P Sf T)(K:KO P Sf T):Prop:=
 match o.op with
 | .iaddr kk x i=>match evO s.tm i with
  | .val (.int _ i)=>match evO s.tm x with
   | .sl k' es _=>es=l.map v∧cond (Nat.beq k' kk) (cond (decide (0≤i)) (cond (decide (i<(l.length:Int))) (∀x,l[i.toNat]?=some x→K (k x) ⟨aN o.dst (.rptr (v x) 0) s.tm,s.hp⟩ (rdH o.op s.tm,[])) False) False) False
   | _=>False
  | _=>False
 | .load agg size x=>match evO s.tm x with
  | .eref b i off=>match s.hp b with
   | some (.vec _ es)=>es=l.map v∧cond (decide (i<l.length)) (∀x,l[i]?=some x→cond (vN (v x) off size agg) (K (k x) ⟨aN o.dst (fo (v x) off size agg) s.tm,s.hp⟩ (rdH o.op s.tm,[])) False) False
   | _=>False
  | .ref b off=>match s.hp b with
   | some (.box (.agg cs))=>cs=l.map v∧cond (cond agg false (Nat.beq size 1)) (cond (decide (off<l.length)) (∀x,l[off]?=some x→K (k x) ⟨aN o.dst (v x) s.tm,s.hp⟩ (rdH o.op s.tm,[])) False) False
   | _=>False
  | .rptr (.agg cs) off=>cs=l.map v∧cond (cond agg false (Nat.beq size 1)) (cond (decide (off<l.length)) (∀x,l[off]?=some x→K (k x) ⟨aN o.dst (v x) s.tm,s.hp⟩ (rdH o.op s.tm,[])) False) False
  | _=>False
 | .indexA n kk agg x i=>match evO s.tm i with
  | .val (.int _ i)=>match evO s.tm x with
   | .agg cs=>cs=l.map v∧cond (cond agg false (Nat.beq kk 1)) (cond (decide (0≤i)) (cond (decide (i<n)) (cond (decide (i.toNat<l.length)) (∀x,l[i.toNat]?=some x→K (k x) ⟨aN o.dst (v x) s.tm,s.hp⟩ (rdH o.op s.tm,[])) False) False) False) False
   | _=>False
  | _=>False
 | _=>False
def Tn(o:aM)(f:Nat)(s:S2){α:Type}(v:α→List AV)(l:List α)(i n:Nat)(k:α→An P Sf T)(K:KO P Sf T):Prop:=
 match o.op with
 | .load agg size x=>match evO s.tm x with
  | .ref b off=>match s.hp b with
   | some (.box (.agg cs))=>cs=l.flatMap v∧off=i * n∧cond agg (cond (Nat.beq size n) (cond (decide (i<l.length)) (∀x,l[i]?=some x→K (k x) ⟨aN o.dst (.agg (v x)) s.tm,s.hp⟩ (rdH o.op s.tm,[])) False) False) False
   | _=>False
  | _=>False
 | _=>False
def stR(o:aM)(f:Nat)(s:S2){α:Type}(v:α→AV)(l:List α)(g:α→α)(k:α→An P Sf T)(K:KO P Sf T):Prop:=
 match o.op with
 | .store size a x=>match evO s.tm a with
  | .eref b i off=>match s.hp b with
   | some (.vec kk es)=>es=l.map v∧cond (decide (i<l.length)) (∀y,l[i]?=some y→cond (Ns (v y) off size (evO s.tm x)) (dJ (v y) off (evO s.tm x)=v (g y) ∧
     K (k y) ⟨aN o.dst .unk s.tm,upd (upd s.hp b none) b (some (.vec kk ((l.set i (g y)).map v)))⟩ (rdH o.op s.tm,[b,b])) False) False
   | _=>False
  | .ref b off=>match s.hp b with
   | some (.box (.agg cs))=>cs=l.map v∧cond (Nat.beq size 1) (cond (evO s.tm x).solid (cond (evO s.tm x).isAgg False (cond (decide (off<l.length)) (∀y,l[off]?=some y→evO s.tm x=v (g y) ∧
     K (k y) ⟨aN o.dst .unk s.tm,upd (upd s.hp b none) b (some (.box (.agg ((l.set off (g y)).map v))))⟩ (rdH o.op s.tm,[b,b])) False)) False) False
   | _=>False
  | _=>False
 | _=>False
def RG(o:aM)(f:Nat)(s:S2){α:Type}(v:α→AV)(l:List α)(k:α→An P Sf T)(K:KO P Sf T):Prop:=
 match o.op with
 | .store size a x=>match evO s.tm a with
  | .eref b i off=>match s.hp b with
   | some (.vec kk es)=>es=l.map v∧cond (decide (i<l.length)) (∀y,l[i]?=some y→cond (Ns (v y) off size (evO s.tm x))
     (K (k y) ⟨aN o.dst .unk s.tm,upd (upd s.hp b none) b (some (.vec kk ((l.map v).set i (dJ (v y) off (evO s.tm x)))))⟩ (rdH o.op s.tm,[b,b])) False) False
   | _=>False
  | _=>False
 | _=>False
def Na(hp:Hp)(k:Nat)(x:AV)(K:List AV→Prop):Prop:=match x with
 | .vsub b lo n=>match hp b with
  | some (.vec k' es)=>cond (Nat.beq k' k) (cond (decide (lo+n≤es.length)) (K ((es.drop lo).take n)) False) False
  | _=>False
 | x=>match kI hp k x with
  | some ys=>K ys
  | none=>False
theorem BH{hp:Hp}{k:Nat}{x:AV}{K:List AV→Prop}(h:Na hp k x K):∃ys,kI hp k x=some ys∧K ys:=by
 unfold Na at h
 split at h
 ·rename_i b lo n
  split at h
  ·rename_i k' es e;obtain⟨h1,q⟩:=au h;obtain⟨h2,q'⟩:=au q;refine⟨_,?_,q'⟩;simp only[kI,e];rw[if_pos ⟨M' h1,H' h2⟩]
  ·exact h.elim
 ·split at h
  ·rename_i ys e;exact⟨ys,e,h⟩
  ·exact h.elim
def TM(o:aM)(f:Nat)(s:S2){α:Type}(v:α→AV)(l xs:List α)(a:An P Sf T)(K:KO P Sf T):Prop:=
 match o.op with
 | .append kk bytes sx x=>Na s.hp kk (evO s.tm x) λys=>match evO s.tm sx with
   | .sl _ es full=>es=l.map v∧ys=xs.map v∧cond (cond full (cond (Nat.ble bytes 134217728) es.isEmpty false) false) (cond (decide (l.length+xs.length≤1048576))
     (K a ⟨aN o.dst (.vec f) s.tm,upd s.hp f (some (.vec kk ((l++xs).map v)))⟩ (rdH o.op s.tm,[f])) False) False
   | .vec b=>match s.hp b with
    | some (.vec k' es)=>es=l.map v∧ys=xs.map v∧cond (cond (Nat.beq k' kk) (Nat.ble bytes 134217728) false) (cond (decide (l.length+xs.length≤1048576))
      (K a ⟨aN o.dst (.vec f) s.tm,upd (upd s.hp b none) f (some (.vec kk ((l++xs).map v)))⟩ (rdH o.op s.tm,[b,f])) False) False
    | _=>False
   | _=>False
 | _=>False
def Mc(o:aM)(f:Nat)(s:S2){α:Type}(v:α→AV)(l xs:List α)(a:An P Sf T)(K:KO P Sf T):Prop:=
 match o.op with
 | .append kk bytes sx x=>Na s.hp kk (evO s.tm x) λys=>match evO s.tm sx with
   | .sl k' es full=>es=l.map v∧ys=xs.map v∧cond (cond full (cond (Nat.ble bytes 134217728) (Nat.beq k' kk) false) false) (cond (decide (0<xs.length)) (cond (decide (l.length+xs.length≤1048576))
     (K a ⟨aN o.dst (.vec f) s.tm,upd s.hp f (some (.vec kk ((l++xs).map v)))⟩ (rdH o.op s.tm,[f])) False) False) False
   | _=>False
 | _=>False
def MT(o:aM)(f:Nat)(s:S2){α:Type}(v:α→AV)(l:List α)(fl:Bool)(a:An P Sf T)(K:KO P Sf T):Prop:=
 match o.op with
 | .slice kk x lo hi mx=>match evO s.tm x with
  | .sl k' es full=>es=l.map v∧cond (Nat.beq k' kk) (match kp (evO s.tm) lo,kp (evO s.tm) hi,kp (evO s.tm) mx with
   | some lo,some hi,some mx=>cond (cond mx.isSome hi.isSome true) (cond (cg l.length (lo.getD 0) (hi.getD l.length) (mx.getD l.length))
     (cond fl (cond (mx.isSome || full) (cond (decide (hi.getD l.length=mx.getD l.length))
       (K a ⟨aN o.dst (.sl kk (((l.take (hi.getD l.length).toNat).drop (lo.getD 0).toNat).map v) true) s.tm,s.hp⟩ (rdH o.op s.tm,[])) False) False)
      (K a ⟨aN o.dst (.sl kk (((l.take (hi.getD l.length).toNat).drop (lo.getD 0).toNat).map v) (cond (mx.isSome || full) (decide (hi.getD l.length=mx.getD l.length)) false)) s.tm,s.hp⟩ (rdH o.op s.tm,[]))) False) False
   | _,_,_=>False) False
  | .vec b=>match s.hp b with
   | some (.vec k' es)=>es=l.map v∧cond (Nat.beq k' kk) (cond (decide (0<l.length)) (match kp (evO s.tm) lo,kp (evO s.tm) hi,mx with
    | some lo,some hi,none=>cond (cg l.length (lo.getD 0) (hi.getD l.length) l.length)
      (K a ⟨aN o.dst (.vsub b (lo.getD 0).toNat (hi.getD l.length-lo.getD 0).toNat) s.tm,s.hp⟩ (rdH o.op s.tm,[])) False
    | some none,some (some h),some mx=>match evO s.tm mx with
     | .val (.int _ m)=>cond (decide (h=m)) (cond (cg l.length 0 h h)
       (K a ⟨aN o.dst (.vec f) s.tm,upd (upd s.hp b none) f (some (.vec kk ((l.take h.toNat).map v)))⟩ (rdH o.op s.tm,[b,f])) False) False
     | _=>False
    | _,_,_=>False) False) False
   | _=>False
  | _=>False
 | .load agg size x=>match evO s.tm x with
  | .ref b off=>match s.hp b with
   | some (.box (.agg cs))=>cs=l.map v∧cond agg (cond (Nat.beq off 0) (cond (decide (l.length=size)) (K a ⟨aN o.dst (.agg (l.map v)) s.tm,s.hp⟩ (rdH o.op s.tm,[])) False) False) False
   | _=>False
  | _=>False
 | _=>False
def SbB(es:List AV)(x:AV):Prop:=∃bs,cG es=some bs∧AV.str ⟨bs.toArray⟩=x
def Of(o:aM)(f:Nat)(s:S2){α:Type}(v:α→AV)(x:α)(a:An P Sf T)(K:KO P Sf T):Prop:=
 match o.op with
 | .mks kk bytes z l c=>match evO s.tm l with
  | .val (.int .i64 n)=>z=v x∧cond (okB (.mks kk bytes z l c) (evO s.tm) s.hp) (K a ⟨aN o.dst (.vec f) s.tm,upd s.hp f (some (.vec kk ((List.replicate n.toNat x).map v)))⟩ (rdH o.op s.tm,[f])) False
  | _=>False
 | .convBS y=>match evO s.tm y with
  | .sl kk es _=>SbB es (v x)∧cond (Nat.beq kk 1) (K a ⟨aN o.dst (v x) s.tm,s.hp⟩ (rdH o.op s.tm,[])) False
  | .vec b=>match s.hp b with
   | some (.vec kk es)=>SbB es (v x)∧cond (Nat.beq kk 1) (K a ⟨aN o.dst (v x) s.tm,s.hp⟩ (rdH o.op s.tm,[])) False
   | _=>False
  | _=>False
 | _=>False
def ownR(o:aM)(f:Nat)(s:S2)(a:An P Sf T)(K:KO P Sf T):Prop:=
 match o.op with
 | .lit k n z ps=>cond (OV k n (ps.map λ(i,x)=>(i,evO s.tm x)))
   (K a ⟨aN o.dst (.vec f) s.tm,upd s.hp f (some (.vec k (ra (List.replicate n z) (ps.map λ(i,x)=>(i,evO s.tm x)))))⟩ ([],[f])) False
 | _=>False
def mnR(o:aM)(f:Nat)(s:S2)(q:MN)(a:An P Sf T)(K:KO P Sf T):Prop:=
 match q with
 | .get de kf _ vf l x z=>match o.op with
  | .mget kk zz ok m k=>match qZ s.hp (evO s.tm m),(evO s.tm k).key with
   | some (kk',ks,vs),some q=>ks=l.map (λp=>kf p.1)∧vs=l.map (λp=>vf p.2)∧q=kf x∧zz=vf z∧cond (kkB kk' kk) (cond (Fm kk (kf x))
     (K a ⟨aN o.dst (cond ok (.tup [vf (qX l x z),.bool (zB l x)]) (vf (qX l x z))) s.tm,s.hp⟩ (rdH o.op s.tm,[])) False) False
   | _,_=>False
  | _=>False
 | .put de kf _ vf l x v=>match o.op with
  | .mset kk m k y=>match evO s.tm m with
   | .mref b=>match s.hp b,(evO s.tm k).key with
    | some (.map kk' ks vs),some q=>ks=l.map (λp=>kf p.1)∧vs=l.map (λp=>vf p.2)∧q=kf x∧evO s.tm y=vf v∧cond (kkB kk' kk) (cond (Fm kk (kf x)) (cond (vf v).solid
      (K a ⟨aN o.dst .unk s.tm,upd (upd s.hp b none) b (some (.map kk ((IQ l x v).map λp=>kf p.1) ((IQ l x v).map λp=>vf p.2)))⟩ (rdH o.op s.tm,[b,b])) False) False) False
    | _,_=>False
   | _=>False
  | _=>False
 | .del de kf _ vf l x=>match o.op with
  | .mdel kk m k=>match evO s.tm m with
   | .mref b=>match s.hp b,(evO s.tm k).key with
    | some (.map kk' ks vs),some q=>ks=l.map (λp=>kf p.1)∧vs=l.map (λp=>vf p.2)∧q=kf x∧cond (kkB kk' kk) (cond (Fm kk (kf x))
      (K a ⟨aN o.dst (.tup []) s.tm,upd (upd s.hp b none) b (some (.map kk ((mdl l x).map λp=>kf p.1) ((mdl l x).map λp=>vf p.2)))⟩ (rdH o.op s.tm,[b,b])) False) False
    | _,_=>False
   | _=>False
  | _=>False
 | .getB hs de kf _ vf l x z=>match o.op with
  | .mget kk zz ok m k=>match qZ s.hp (evO s.tm m),(evO s.tm k).key with
   | some (kk',ks,vs),some q=>ks=l.map (λp=>kf p.1)∧vs=l.map (λp=>vf p.2)∧q=kf x∧cond (kkB kk' kk) (cond (Fm kk (kf x)) (cond (zB l x)
     (K (cond hs a (a.l f)) ⟨aN o.dst (cond ok (.tup [vf (qX l x z),.bool true]) (vf (qX l x z))) s.tm,s.hp⟩ (rdH o.op s.tm,[]))
     (cond hs False (K (a.r f) ⟨aN o.dst (cond ok (.tup [zz,.bool false]) zz) s.tm,s.hp⟩ (rdH o.op s.tm,[])))) False) False
   | _,_=>False
  | _=>False
def opR(o:aM)(f:Nat)(s:S2):An P Sf T→KO P Sf T→Prop
 | .el g v l k,K=>cond (Nat.beq g f) (elR o f s v l k K) (gz o f s (.el g v l k) K)
 | .elA g v l i n hv k,K=>cond (Nat.beq g f) (Tn o f s v l i n k K) (gz o f s (.elA g v l i n hv k) K)
 | .st g v l x k,K=>cond (Nat.beq g f) (stR o f s v l x k K) (gz o f s (.st g v l x k) K)
 | .stI g v l k,K=>cond (Nat.beq g f) (RG o f s v l k K) (gz o f s (.stI g v l k) K)
 | .app g v l xs a',K=>cond (Nat.beq g f) (TM o f s v l xs a' K) (gz o f s (.app g v l xs a') K)
 | .appF g v l xs a',K=>cond (Nat.beq g f) (Mc o f s v l xs a' K) (gz o f s (.appF g v l xs a') K)
 | .sub g v l fl a',K=>cond (Nat.beq g f) (MT o f s v l fl a' K) (gz o f s (.sub g v l fl a') K)
 | .rep g v x a',K=>cond (Nat.beq g f) (Of o f s v x a' K) (gz o f s (.rep g v x a') K)
 | .own g a',K=>cond (Nat.beq g f) (ownR o f s a' K) (gz o f s (.own g a') K)
 | .mn g q a',K=>cond (Nat.beq g f) (mnR o f s q a' K) (gz o f s (.mn g q a') K)
 | .req g p k,K=>cond (Nat.beq g f) (∃h:p,opR o f s (k h) K) (gz o f s (.req g p k) K)
 | a,K=>gz o f s a K
def kw(P:Program)(n:Nat)(o:aM)(f:Nat)(s s':S2)(l:List Nat×List Nat):Prop:=
 (∀K:S2→Prop,K s'→exT P n o f s K)∧(∀K:S2→List Nat×List Nat→Prop,K s' l→exD P n o f s K)
def tJ:AOp→Bool
 | .call _ _=>false
 | .lit _ _ _ _=>false
 | .isNil _ _ _=>false
 | .rng _=>false
 | .nxt _=>false
 | .ent _=>false
 | _=>true
theorem pQ{n:Nat}{o:aM}{f:Nat}{s:S2}(hp:tJ o.op=true)(hc:(evA o.op f (evO s.tm) s.hp).c) :
  kw P n o f s ⟨aN o.dst (evA o.op f (evO s.tm) s.hp).v s.tm,bP (evA o.op f (evO s.tm) s.hp) s.hp⟩ (rdH o.op s.tm,wrH (evA o.op f (evO s.tm) s.hp)):=by
 obtain⟨d,op,g⟩:=o;refine⟨λK h=>?_,λK h=>?_⟩<;>cases op<;>first|exact⟨hc,h⟩|cases hp
theorem bB{n:Nat}{o:aM}{f:Nat}{s:S2}(hp:tJ o.op=true){c:Prop}{v:AV}{rm:Option Nat}{ad:Option (Nat×Blk)}(he:evA o.op f (evO s.tm) s.hp={ c:=c,v:=v,rm:=rm,ad:=ad })(hc:c) :
    kw P n o f s ⟨aN o.dst v s.tm,bP { c:=True,rm:=rm,ad:=ad } s.hp⟩ (rdH o.op s.tm,rm.toList++ad.toList.map (·.1)):=by
  have:=pQ (P:=P) (n:=n) (o:=o) (f:=f) (s:=s) hp (by rw[he];exact hc);rw[he]at this;exact this
theorem L3{n:Nat}{g:AO}{xs:List AO}{dst:Option Nat}{gd:Option (Nat×Bool)}{f:Nat}{s:S2}{a:An P Sf T}{K:KO P Sf T}{fid:FuncId}{caps:List AV}(hg:evO s.tm g=.func fid caps)
  (h:L4 fid (xs.map (evO s.tm)++caps) dst f s a K):∃a' s' l,K a' s' l∧kw P n ⟨dst,.call g xs,gd⟩ f s s' l:=by
 unfold L4 at h
 split at h
 ·rename_i c a';obtain⟨b1,q⟩:=au h;clear h;have b1:=M' b1;subst b1;obtain⟨h2,h⟩:=q;cases hp:bM (xs.map (evO s.tm)++caps)with
  | true =>
   rw[hp]at h;rw[iH hp]at h2;have hs:gF (xs.map (evO s.tm)++caps) c.args:=h2 ▸ fv _ _;have hc:bf P n c.f (xs.map (evO s.tm)++caps) f s.hp [] c.r cV:=bf.pure c.fn (c.ok.sub hs Sub.refl) (aU hp);exact⟨_,_,_,h,λK hK=>⟨c.f,caps,[],c.r,cV,hg,.inl hc,hK⟩,λK hK=>⟨c.f,caps,[],c.r,cV,[],hg,.inl hc,λb hb=>absurd rfl hb,hK⟩⟩
  | false =>
   rw[hp]at h;obtain⟨h3,h⟩:=au h;obtain⟨h4,h⟩:=au h;have hs:gF (ji s.hp (xs.map (evO s.tm)++caps)) c.args:=h2 ▸ fv _ _;have hc:bf P n c.f (xs.map (evO s.tm)++caps) f s.hp (wW (xs.map (evO s.tm)++caps)) c.r cV:=bf.lend c.fn (c.ok.sub hs Sub.refl) (lF h4 λb hb=>hb) (AV.flatB_ok h3);exact⟨_,_,_,h,λK hK=>⟨c.f,caps,_,c.r,cV,hg,.inl hc,hK⟩,λK hK=>⟨c.f,caps,_,c.r,cV,[],hg,.inl hc,λb hb=>absurd rfl hb,hK⟩⟩
 ·rename_i c hp a';obtain⟨b1,q⟩:=au h;clear h;have b1:=M' b1;subst b1;obtain⟨h2,h⟩:=q;have hc:bf P n c.f (xs.map (evO s.tm)++caps) f s.hp [] c.r cV:=bf.subargs (h2 ▸ fv _ _) (bf.pure c.fn c.ok hp);exact⟨_,_,_,h,λK hK=>⟨c.f,caps,[],c.r,cV,hg,.inl hc,hK⟩,λK hK=>⟨c.f,caps,[],c.r,cV,[],hg,.inl hc,λb hb=>absurd rfl hb,hK⟩⟩
 ·rename_i bs c a';obtain⟨b1,q⟩:=au h;clear h;have b1:=M' b1;subst b1;obtain⟨h2,q⟩:=au q;obtain⟨h3,h4,h5,h⟩:=au q;have hs:gF (xs.map (evO s.tm)++caps) (dh (bj bs f) c.args):=h4 ▸ fv _ _;have hc:=bf.subargs hs (bf.handP (n:=n) c.fn c.ok bs c.good (M' h2) (rT h3) h5);exact⟨_,_,_,h,λK hK=>⟨c.f,caps,_,_,_,hg,.inl hc,hK⟩,λK hK=>⟨c.f,caps,_,_,_,_,hg,.inl hc,λb hb=>Fi hb,hK⟩⟩
 ·exact h.elim
theorem cY{n:Nat}{o:aM}{f:Nat}{s:S2}{a:An P Sf T}{K:KO P Sf T}(h:gz o f s a K):∃a' s' l,K a' s' l∧kw P n o f s s' l:=by
  have plain:tJ o.op=true→Iq o f s a K→∃a' s' l,K a' s' l∧kw P n o f s s' l:=λhp h=>by
    obtain⟨h1,h⟩:=au h;exact⟨_,_,_,h,pQ hp (rS h1)⟩
  obtain⟨d,op,g⟩:=o;cases op
  case call gg xs =>
    simp only[gz]at h
    split at h
    · rename_i fid caps e;exact L3 e h
    · exact h.elim
  case lit k N z ps =>
    obtain⟨h1,h⟩:=au h;obtain⟨h2,h⟩:=au h;exact⟨_,_,_,h,λK hK=>.inl ⟨⟨mc h1,pE h2⟩,hK⟩,λK hK=>.inl ⟨⟨mc h1,pE h2⟩,hK⟩⟩
  case isNil ptr ne x =>
    simp only[gz]at h;cases ptr with
    | false=>exact h.elim
    | true =>
      cases hv:EJ (evO s.tm x)with
      | none=>simp only[hv,cond_true]at h
      | some t =>
        simp only[hv,cond_true]at h;obtain⟨k1,k2⟩:=CK (hp:=s.hp) hv;have he:evA (.isNil true ne x) f (evO s.tm) s.hp={ c:=True,v:=.bool (t != ne) }:=by simp only[evA,hv]
        refine⟨_,_,_,h,λK hK=>⟨k1,λt' q=>?_⟩,λK hK=>?_⟩
        · rw[k2 t' q];exact hK
        · show(evA (.isNil true ne x) f (evO s.tm) s.hp).c∧K ⟨aN d (evA (.isNil true ne x) f (evO s.tm) s.hp).v s.tm,bP (evA (.isNil true ne x) f (evO s.tm) s.hp) s.hp⟩ (rdH (.isNil true ne x) s.tm,wrH (evA (.isNil true ne x) f (evO s.tm) s.hp))
          rw[he];exact⟨trivial,hK⟩
  case rng x=>exact(id h:False).elim
  case nxt x=>exact(id h:False).elim
  case ent x=>exact(id h:False).elim
  all_goals exact plain rfl h
theorem iP{α:Type}{l:List α}{v:α→AV}{i:Nat}{x:α}(h:l[i]?=some x):(l.map v).getD i .unk=v x:=by
 rw[J',S',h];rfl
theorem pw{cs:List AV}{off:Nat}:fo (.agg cs) off 1 false=cs.getD off .unk:=by
 unfold fo;rw[u' (by simp[AV.isAgg])];rfl
theorem Tm{n:Nat}{o:aM}{f:Nat}{s:S2}{α:Type}{v:α→AV}{l:List α}{k:α→An P Sf T}{K:KO P Sf T}(h:elR o f s v l k K):∃a' s' l',K a' s' l'∧kw P n o f s s' l':=by
 obtain⟨d,op,g⟩:=o;cases op
 case iaddr kk x i =>
  simp only[elR]at h
  split at h
  ·rename_i ki i' e1
   split at h
   ·rename_i k' es full e2;obtain⟨rfl,h⟩:=h;obtain⟨h1,h⟩:=au h;obtain⟨h2,h⟩:=au h;obtain⟨h3,h⟩:=au h;have h2:=H' h2;have h3:=H' h3;have hi:i'.toNat<l.length:=by omega
    have hx:l[i'.toNat]?=some l[i'.toNat]:=E' hi;refine⟨_,_,_,h _ hx,bB rfl (rm:=none) (ad:=none) (c:=k'=kk∧0≤i'∧i'<((l.map v).length:Int)) ?_ ⟨M' h1,h2,by rw[f'];exact h3⟩⟩;simp only[evA,e1,e2,iP hx]
   ·exact h.elim
  ·exact h.elim
 case load agg size x =>
  simp only[elR]at h
  split at h
  ·rename_i b i off e1
   split at h
   ·rename_i kk es e2;obtain⟨rfl,h⟩:=h;obtain⟨h1,h⟩:=au h;have h1:=H' h1;have hx:l[i]?=some l[i]:=E' h1;obtain⟨h2,h⟩:=au (h _ hx);refine⟨_,_,_,h,bB rfl (rm:=none) (ad:=none) (c:=i<(l.map v).length∧di (v l[i]) off size agg) ?_ ⟨by rw[f'];exact h1,lW h2⟩⟩;simp only[evA,e1,e2,iP hx]
   ·exact h.elim
  ·rename_i b off e1
   split at h
   ·rename_i cs e2;obtain⟨rfl,h⟩:=h;obtain⟨h0,h⟩:=au h;obtain⟨h1,h⟩:=au h;have h1:=H' h1;have hx:l[off]?=some l[off]:=E' h1;cases agg with
    | true=>cases h0
    | false =>
     have h0:size=1:=M' h0;subst h0;refine⟨_,_,_,h _ hx,bB rfl (rm:=none) (ad:=none) (c:=di (.agg (l.map v)) off 1 false) ?_ ⟨rfl,by simp only[AV.cells,f'];omega,λ_=>rfl⟩⟩;simp only[evA,e1,e2,pw,iP hx]
   ·exact h.elim
  ·rename_i cs off e1;obtain⟨rfl,h⟩:=h;obtain⟨h0,h⟩:=au h;obtain⟨h1,h⟩:=au h;have h1:=H' h1;have hx:l[off]?=some l[off]:=E' h1;cases agg with
   | true=>cases h0
   | false =>
    have h0:size=1:=M' h0;subst h0;refine⟨_,_,_,h _ hx,bB rfl (rm:=none) (ad:=none) (c:=di (.agg (l.map v)) off 1 false) ?_ ⟨rfl,by simp only[AV.cells,f'];omega,λ_=>rfl⟩⟩;simp only[evA,e1,pw,iP hx]
  ·exact h.elim
 case indexA N kk agg x i =>
  simp only[elR]at h
  split at h
  ·rename_i ki i' e1
   split at h
   ·rename_i cs e2;obtain⟨rfl,h⟩:=h;obtain⟨h0,h⟩:=au h;obtain⟨h1,h⟩:=au h;obtain⟨h2,h⟩:=au h;obtain⟨h3,h⟩:=au h;have h3:=H' h3;have hx:l[i'.toNat]?=some l[i'.toNat]:=E' h3;cases agg with
    | true=>cases h0
    | false =>
     have h0:kk=1:=M' h0;subst h0
     refine⟨_,_,_,h _ hx,bB rfl (rm:=none) (ad:=none) (c:=(AV.agg (l.map v)).isAgg=true∧0≤i'∧i'<N∧di (.agg (l.map v)) (i'.toNat * 1) 1 false) ?_
      ⟨rfl,H' h1,H' h2,rfl,by simp only[AV.cells,f'];omega,λ_=>rfl⟩⟩
     simp only[evA,e1,e2,AV.cells,Nat.mul_one,iP hx];rfl
   ·exact h.elim
  ·exact h.elim
 all_goals exact h.elim
theorem Fl{α:Type}{l:List α}{v:α→List AV}{n:Nat}(hv:∀x,(v x).length=n):(l.flatMap v).length=l.length * n:=by
 induction l with
 | nil=>simp
 | cons a l ih=>rw[ap',Y',hv,ih,Z',Nat.succ_mul,Nat.add_comm]
theorem s7{α:Type}{v:α→List AV}{n:Nat}(hv:∀x,(v x).length=n):∀{l:List α} {i:Nat} {x:α},l[i]?=some x→((l.flatMap v).drop (i * n)).take n=v x
 | [],i,x,h=>by simp at h
 | a::l,0,x,h=>by
  simp only[List.getElem?_cons_zero,aL']at h;subst h;rw[Nat.zero_mul,be',ap',List.take_append_of_le_length (by rw[hv];exact V' _),G' (by rw[hv];exact V' _)]
 | a::l,i+1,x,h=>by
  rw[List.getElem?_cons_succ]at h;rw[ap',Nat.succ_mul,List.drop_append,bn' (by rw[hv];omega),bA',hv,bu'];exact s7 hv h
theorem pv{cs:List AV}{off size:Nat}:fo (.agg cs) off size true=.agg ((cs.drop off).take size):=by
 unfold fo
 split
 ·rename_i h;obtain⟨rfl,h,-⟩:=h;have h:cs.length=size:=h;rw[be',G' (by omega)]
 ·rfl
theorem P0{n:Nat}{o:aM}{f:Nat}{s:S2}{α:Type}{v:α→List AV}{l:List α}{i m:Nat}(hv:∀x,(v x).length=m){k:α→An P Sf T}{K:KO P Sf T}(h:Tn o f s v l i m k K):∃a' s' l',K a' s' l'∧kw P n o f s s' l':=by
 obtain⟨d,op,g⟩:=o;cases op
 case load agg size x =>
  simp only[Tn]at h
  split at h
  ·rename_i b off e1
   split at h
   ·rename_i cs e2;obtain⟨rfl,rfl,h⟩:=h;obtain⟨h0,q⟩:=au h;obtain⟨h1,q'⟩:=au q;obtain⟨h2,q''⟩:=au q';have h1:=M' h1;have h2:=H' h2;clear h q q';subst h0;subst h1;have hx:l[i]?=some l[i]:=E' h2;have hl:i * size+size≤(l.flatMap v).length:=by
     rw[Fl hv,←Nat.succ_mul];exact al' _ h2
    refine⟨_,_,_,q'' _ hx,bB rfl (rm:=none) (ad:=none) (c:=di (.agg (l.flatMap v)) (i * size) size true) ?_ ⟨rfl,hl,λe=>by cases e⟩⟩;simp only[evA,e1,e2,pv,s7 hv hx]
   ·exact h.elim
  ·exact h.elim
 all_goals exact h.elim
theorem Hz{α:Type}{l:List α}{v:α→AV}{i:Nat}{x:α}:(l.map v).set i (v x)=(l.set i x).map v:=by rw[bm']
theorem yP{cs:List AV}{off:Nat}{x:AV}(h:off<cs.length):jl cs off [x]=cs.set off x:=by
 unfold jl;rw[cc',if_pos h];simp
theorem RF{n:Nat}{o:aM}{f:Nat}{s:S2}{α:Type}{v:α→AV}{l:List α}{g:α→α}{k:α→An P Sf T}{K:KO P Sf T}(h:stR o f s v l g k K):∃a' s' l',K a' s' l'∧kw P n o f s s' l':=by
 obtain⟨d,op,gd⟩:=o;cases op
 case store size a x =>
  simp only[stR]at h
  split at h
  ·rename_i b i off e1
   split at h
   ·rename_i kk es e2;obtain⟨rfl,h⟩:=h;obtain⟨h1,h⟩:=au h;have h1:=H' h1;have hx:l[i]?=some l[i]:=E' h1;obtain⟨h2,h3,h⟩:=au (h _ hx);refine⟨_,_,_,h,bB rfl (v:=.unk) (rm:=some b) (ad:=some (b,.vec kk ((l.set i (g l[i])).map v))) (c:=i<(l.map v).length∧nP (v l[i]) off size (evO s.tm x)) ?_ ⟨by rw[f'];exact h1,tp h2⟩⟩;simp only[evA,e1,e2,iP hx,h3,Hz]
   ·exact h.elim
  ·rename_i b off e1
   split at h
   ·rename_i cs e2;obtain⟨rfl,h⟩:=h;obtain⟨h0,h⟩:=au h;obtain⟨h1,h⟩:=au h;cases h2:(evO s.tm x).isAgg with
    | true=>rw[h2]at h;exact h.elim
    | false =>
     rw[h2]at h;obtain⟨h3,h⟩:=au h;have h3:=H' h3;have hx:l[off]?=some l[off]:=E' h3;obtain⟨h4,h⟩:=h _ hx;have h0:size=1:=M' h0;subst h0;have hc:(evO s.tm x).cells=[evO s.tm x]:=by
      revert h2;cases evO s.tm x<;>simp[AV.isAgg,AV.cells]
     refine⟨_,_,_,h,bB rfl (v:=.unk) (rm:=some b) (ad:=some (b,.box (.agg ((l.set off (g l[off])).map v)))) (c:=nP (.agg (l.map v)) off 1 (evO s.tm x)) ?_ ⟨rfl,h1,by rw[hc];rfl,by simp only[AV.cells,f'];omega⟩⟩;simp only[evA,e1,e2];unfold dJ;rw[u' (by rw[h2];simp[AV.isAgg]),hc];simp only[AV.cells];rw[yP (by rw[f'];exact h3),h4,Hz]
   ·exact h.elim
  ·exact h.elim
 all_goals exact h.elim
theorem MY{n:Nat}{o:aM}{f:Nat}{s:S2}{α:Type}{v:α→AV}{l:List α}{k:α→An P Sf T}{K:KO P Sf T}(h:RG o f s v l k K):∃a' s' l',K a' s' l'∧kw P n o f s s' l':=by
 obtain⟨d,op,gd⟩:=o;cases op
 case store size a x =>
  simp only[RG]at h
  split at h
  ·rename_i b i off e1
   split at h
   ·rename_i kk es e2;obtain⟨rfl,h⟩:=h;obtain⟨h1,h⟩:=au h;have h1:=H' h1;have hx:l[i]?=some l[i]:=E' h1;obtain⟨h2,h⟩:=au (h _ hx);refine⟨_,_,_,h,bB rfl (v:=.unk) (rm:=some b) (ad:=some (b,.vec kk ((l.map v).set i (dJ (v l[i]) off (evO s.tm x))))) (c:=i<(l.map v).length∧nP (v l[i]) off size (evO s.tm x)) ?_ ⟨by rw[f'];exact h1,tp h2⟩⟩;simp only[evA,e1,e2,iP hx]
   ·exact h.elim
  ·exact h.elim
 all_goals exact h.elim
theorem room{a b bytes:Nat}(h1:bytes≤134217728)(h2:a+b≤1048576):(a+b) * bytes≤2 ^ 47∧a+b≤maxLen:=by
 have:(a+b) * bytes≤1048576 * 134217728:=Nat.mul_le_mul h2 h1;have h3:(1048576:Nat)≤maxLen:=by decide
 omega
theorem Qi{n:Nat}{o:aM}{f:Nat}{s:S2}{α:Type}{v:α→AV}{l xs:List α}{a:An P Sf T}{K:KO P Sf T}(h:TM o f s v l xs a K):∃a' s' l',K a' s' l'∧kw P n o f s s' l':=by
 obtain⟨d,op,gd⟩:=o;cases op
 case append kk bytes sx x =>
  simp only[TM]at h
  obtain⟨ys,e0,h⟩:=BH h
  ·skip
   split at h
   ·rename_i k' es full e1;obtain⟨rfl,rfl,h⟩:=h;obtain⟨h0,h⟩:=au h;obtain⟨h1,h⟩:=au h;obtain⟨h2,h0⟩:=ag.mp h0;obtain⟨h3,h4⟩:=ag.mp h0;have hl:l=[]:=by cases l<;>simp_all
    subst hl;have h1:=H' h1;have hr:=room (U' h3) h1;simp only[aC',aB']at hr;refine⟨_,_,_,h,bB rfl (v:=.vec f) (rm:=none) (ad:=some (f,.vec kk (([]++xs).map v))) (c:=full=true∧(xs.map v).length * bytes≤2 ^ 47∧(xs.map v).length≤maxLen) ?_ ⟨h2,by rw[f'];exact hr⟩⟩;simp only[evA,e0,e1,dN,cd',if_pos,bA']
   ·rename_i b e1
    split at h
    ·rename_i k' es e2;obtain⟨rfl,rfl,h⟩:=h;obtain⟨h0,h⟩:=au h;obtain⟨h1,h⟩:=au h;obtain⟨h2,h3⟩:=ag.mp h0;have h1:=H' h1;have hr:=room (U' h3) h1
     refine⟨_,_,_,h,bB rfl (v:=.vec f) (rm:=some b) (ad:=some (f,.vec kk ((l++xs).map v))) (c:=k'=kk∧((l.map v).length+(xs.map v).length) * bytes≤2 ^ 47∧(l.map v).length+(xs.map v).length≤maxLen) ?_
      ⟨M' h2,by simp only[f'];exact hr⟩⟩
     simp only[evA,e0,e1,e2,dN,List.map_append]
    ·exact h.elim
   ·exact h.elim
 all_goals exact h.elim
theorem Mb{n:Nat}{o:aM}{f:Nat}{s:S2}{α:Type}{v:α→AV}{l xs:List α}{a:An P Sf T}{K:KO P Sf T}(h:Mc o f s v l xs a K):∃a' s' l',K a' s' l'∧kw P n o f s s' l':=by
 obtain⟨d,op,gd⟩:=o;cases op
 case append kk bytes sx x =>
  simp only[Mc]at h
  obtain⟨ys,e0,h⟩:=BH h
  ·skip
   split at h
   ·rename_i k' es full e1;obtain⟨rfl,rfl,h⟩:=h;obtain⟨h0,h⟩:=au h;obtain⟨h5,h⟩:=au h;obtain⟨h1,h⟩:=au h;obtain⟨h2,h0⟩:=ag.mp h0;obtain⟨h3,h4⟩:=ag.mp h0;have h1:=H' h1;have h5:=H' h5;have hr:=room (U' h3) h1
    by_cases hl:l=[]
    ·subst hl;simp only[aC',aB']at hr;refine⟨_,_,_,h,bB rfl (v:=.vec f) (rm:=none) (ad:=some (f,.vec kk (([]++xs).map v))) (c:=full=true∧(xs.map v).length * bytes≤2 ^ 47∧(xs.map v).length≤maxLen) ?_ ⟨h2,by rw[f'];exact hr⟩⟩;simp only[evA,e0,e1,dN,cd',if_pos,bA']
    ·refine⟨_,_,_,h,bB rfl (v:=.vec f) (rm:=none) (ad:=some (f,.vec kk ((l++xs).map v))) (c:=k'=kk∧full=true∧((l.map v).length+(xs.map v).length) * bytes≤2 ^ 47∧(l.map v).length+(xs.map v).length≤maxLen∧0<(xs.map v).length) ?_
      ⟨M' h4,h2,by simp only[f'];exact hr.1,by simp only[f'];exact hr.2,by rw[f'];exact h5⟩⟩
     have hm:¬l.map v=[]:=by simpa using hl
     simp only[evA,e0,e1,dN,u' hm,List.map_append]
   ·exact h.elim
 all_goals exact h.elim
theorem MS{n:Nat}{o:aM}{f:Nat}{s:S2}{α:Type}{v:α→AV}{l:List α}{fl:Bool}{a:An P Sf T}{K:KO P Sf T}(h:MT o f s v l fl a K):∃a' s' l',K a' s' l'∧kw P n o f s s' l':=by
  obtain⟨d,op,gd⟩:=o;cases op
  case load agg size x =>
    simp only[MT]at h
    split at h
    · rename_i b off e1
      split at h
      · rename_i cs e2
        obtain⟨rfl,h⟩:=h;obtain⟨h0,q⟩:=au h;obtain⟨h1,q'⟩:=au q;obtain⟨h2,q''⟩:=au q';have h1:=M' h1;have h2:=H' h2;clear h q q';subst h0;subst h1;subst h2;refine⟨_,_,_,q'',bB rfl (rm:=none) (ad:=none) (c:=di (.agg (l.map v)) 0 l.length true) ?_ ⟨rfl,by show 0+l.length≤(l.map v).length;simp,λe=>by cases e⟩⟩;simp only[evA,e1,e2,pv];rw[be',G' (by simp)]
      · exact h.elim
    · exact h.elim
  case slice kk x lo hi mx =>
    simp only[MT]at h
    split at h
    · rename_i k' es full e1
      obtain⟨rfl,h⟩:=h;obtain⟨h0,h⟩:=au h;have h0:=M' h0;subst h0
      split at h
      · rename_i lo' hi' mx' e2 e3 e4
        obtain⟨h1,h⟩:=au h;obtain⟨h2,h⟩:=au h;have hb:=mC h2
        have key:∀lo hi mx:Option Int,(mx.isSome=true→hi.isSome=true)→(0≤lo.getD 0∧lo.getD 0≤hi.getD l.length∧hi.getD l.length≤mx.getD l.length∧mx.getD l.length≤(l.length:Int)) →
            sliceA s.hp k' (.sl k' (l.map v) full) lo hi mx={ c:=(sliceA s.hp k' (.sl k' (l.map v) full) lo hi mx).c,v:=.sl k' (((l.take (hi.getD l.length).toNat).drop (lo.getD 0).toNat).map v) (cond (mx.isSome || full) (decide (hi.getD l.length=mx.getD l.length)) false) } ∧
            (sliceA s.hp k' (.sl k' (l.map v) full) lo hi mx).c:=by
          intro lo hi mx g1 g2
          refine⟨?_,?_⟩
          · have e9:∀a b:Bool,(a && b)=cond b a false:=by decide
            simp only[sliceA,f',List.map_drop,cf',e9]
          · simp only[sliceA,f']
            exact⟨.inl trivial,g1,g2⟩
        have opt:∀{y:Option AO} {y':Option Int},kp (evO s.tm) y=some y'→(y.map (evO s.tm)=none∧y'=none)∨∃kk i,y.map (evO s.tm)=some (.val (.int kk i))∧y'=some i:=by
          intro y y' e;cases y with
          | none=>simp[kp]at e;exact .inl ⟨rfl,e.symm⟩
          | some y =>
            simp only[kp]at e
            split at e
            · rename_i kk i e'
              simp at e;exact .inr ⟨kk,i,by simp[e'],e.symm⟩
            · cases e
        have hev:evA (.slice k' x lo hi mx) f (evO s.tm) s.hp=sliceA s.hp k' (.sl k' (l.map v) full) lo' hi' mx'∨(mx'.isSome=true∧lo'=none∧hi'=none)∨(mx'.isSome=true∧hi'=none):=by
          rcases opt e2 with⟨a1,rfl⟩|⟨q1,i1,a1,rfl⟩<;>rcases opt e3 with⟨a2,rfl⟩|⟨q2,i2,a2,rfl⟩<;>rcases opt e4 with⟨a3,rfl⟩|⟨q3,i3,a3,rfl⟩
          · left;simp only[evA,a1,a2,a3,e1,lm]
          · right;left;exact⟨rfl,rfl,rfl⟩
          · left;simp only[evA,a1,a2,a3,e1,bV]
          · left;simp only[evA,a1,a2,a3,e1,lm]
          · left;simp only[evA,a1,a2,a3,e1,lm]
          · right;right;exact⟨rfl,rfl⟩
          · left;simp only[evA,a1,a2,a3,e1,lm]
          · left;simp only[evA,a1,a2,a3,e1,lm]
        obtain⟨k1,k2⟩:=key lo' hi' mx' (lJ h1) hb
        rcases hev with hev|⟨q1,q2,q3⟩|⟨q1,q2⟩
        · cases fl with
          | true =>
            obtain⟨p1,h⟩:=au h;obtain⟨p2,h⟩:=au h;rw[p1,p2]at k1;exact⟨_,_,_,h,bB rfl (rm:=none) (ad:=none) (hev.trans k1) k2⟩
          | false=>exact⟨_,_,_,h,bB rfl (rm:=none) (ad:=none) (hev.trans k1) k2⟩
        · have:=lJ h1 q1;rw[q3]at this;cases this
        · have:=lJ h1 q1;rw[q2]at this;cases this
      · exact h.elim
    · rename_i b e1
      split at h
      · rename_i k' es e0
        obtain⟨rfl,h⟩:=h;obtain⟨h0,h⟩:=au h;have h0:=M' h0;subst h0;obtain⟨h9,h⟩:=au h;have h9:=H' h9;cases e2:kp (evO s.tm) lo with
        | none=>simp only[e2]at h
        | some lo' =>
        cases e3:kp (evO s.tm) hi with
        | none=>simp only[e2,e3]at h
        | some hi' =>
        cases mx with
        | some m =>
          cases lo' with
          | some l0=>simp only[e2,e3]at h
          | none =>
          cases hi' with
          | none=>simp only[e2,e3]at h
          | some hh =>
          simp only[e2,e3]at h
          split at h
          · rename_i kk2 mm e4
            obtain⟨p1,h3⟩:=au h;obtain⟨p2,h4⟩:=au h3;have p1:=H' p1;clear h h3;subst p1;have hb:=mC p2;have a1:lo.map (evO s.tm)=none:=by
              cases lo with
              | none=>rfl
              | some y=>simp only[kp]at e2;split at e2<;>cases e2
            have a2:∃kk3,hi.map (evO s.tm)=some (.val (.int kk3 hh)):=by
              cases hi with
              | none=>simp[kp]at e3
              | some y =>
                simp only[kp]at e3
                split at e3
                · rename_i kk3 i3 e5
                  simp at e3;subst e3;exact⟨kk3,by simp[e5]⟩
                · cases e3
            obtain⟨kk3,a2⟩:=a2;have hev:evA (.slice k' x lo hi (some m)) f (evO s.tm) s.hp={ c:=k'=k'∧0≤hh∧hh≤((l.map v).length:Int),v:=.vec f,rm:=some b,ad:=some (f,.vec k' ((l.take hh.toNat).map v)) }:=by
              simp only[evA,a1,a2,ag',e4,e1,lm,e0];rw[if_pos ⟨trivial,by rw[f'];exact h9⟩,cf']
            exact⟨_,_,_,h4,bB rfl (rm:=some b) (ad:=some (f,.vec k' ((l.take hh.toNat).map v))) hev ⟨rfl,hb.2.1,by rw[f'];exact hb.2.2.2⟩⟩
          · exact h.elim
        | none =>
          simp only[e2,e3]at h;obtain⟨h2,h⟩:=au h;have hb:=mC h2
          have key:∀lo hi:Option Int,(0≤lo.getD 0∧lo.getD 0≤hi.getD l.length∧hi.getD l.length≤l.length∧(l.length:Int)≤(l.length:Int)) →
              sliceA s.hp k' (.vec b) lo hi none={ c:=(sliceA s.hp k' (.vec b) lo hi none).c,v:=.vsub b (lo.getD 0).toNat (hi.getD l.length-lo.getD 0).toNat }∧(sliceA s.hp k' (.vec b) lo hi none).c:=by
            intro lo hi g2
            refine⟨?_,?_⟩
            · simp only[sliceA,e0,f',h9,and_self,if_true]
            · simp only[sliceA,e0,f']
              exact⟨trivial,λh=>by simp at h,g2⟩
          have opt:∀{y:Option AO} {y':Option Int},kp (evO s.tm) y=some y'→(y.map (evO s.tm)=none∧y'=none)∨∃kk i,y.map (evO s.tm)=some (.val (.int kk i))∧y'=some i:=by
            intro y y' e;cases y with
            | none=>simp[kp]at e;exact .inl ⟨rfl,e.symm⟩
            | some y =>
              simp only[kp]at e
              split at e
              · rename_i kk i e'
                simp at e;exact .inr ⟨kk,i,by simp[e'],e.symm⟩
              · cases e
          have hres:∀h:Int,bV s.hp f k' (.vec b) h=sliceA s.hp k' (.vec b) none (some h) none:=λh=>by simp only[bV,e0]
          have hev:evA (.slice k' x lo hi none) f (evO s.tm) s.hp=sliceA s.hp k' (.vec b) lo' hi' none:=by
            rcases opt e2 with⟨a1,rfl⟩|⟨q1,i1,a1,rfl⟩<;>rcases opt e3 with⟨a2,rfl⟩|⟨q2,i2,a2,rfl⟩<;>simp only[evA,a1,a2,e1,Option.map_none,hres]
          obtain⟨k1,k2⟩:=key lo' hi' hb;exact⟨_,_,_,h,bB rfl (rm:=none) (ad:=none) (hev.trans k1) k2⟩
      · exact h.elim
    · exact h.elim
  all_goals exact h.elim
theorem Oe{n:Nat}{o:aM}{f:Nat}{s:S2}{α:Type}{v:α→AV}{x:α}{a:An P Sf T}{K:KO P Sf T}(h:Of o f s v x a K):∃a' s' l',K a' s' l'∧kw P n o f s s' l':=by
 obtain⟨d,op,gd⟩:=o;cases op
 case mks kk bytes z l c =>
  simp only[Of]at h
  split at h
  ·rename_i m e1;obtain⟨rfl,h⟩:=h;obtain⟨h1,h⟩:=au h;have hc:=rS (f:=f) h1;simp only[okB]at h1
   split at h1
   ·rename_i l' c' e2 e3;rw[e1]at e2;cases e2;refine⟨_,_,_,h,bB rfl (v:=.vec f) (rm:=none) (ad:=some (f,.vec kk ((List.replicate m.toNat x).map v))) (c:=(evA (.mks kk bytes (v x) l c) f (evO s.tm) s.hp).c) ?_ hc⟩;simp only[evA,e1,e3,cg']
   ·cases h1
  ·exact h.elim
 case convBS y =>
  simp only[Of]at h
  split at h
  ·rename_i kk es fu e1;obtain⟨⟨bs,e2,e3⟩,h⟩:=h;obtain⟨h1,h⟩:=au h;cases M' h1;rw[←e3]at h;exact⟨_,_,_,h,bB rfl (rm:=none) (ad:=none) (c:=True) (by simp only[evA,e1,e2]) trivial⟩
  ·rename_i b e1
   split at h
   ·rename_i kk es e0;obtain⟨⟨bs,e2,e3⟩,h⟩:=h;obtain⟨h1,h⟩:=au h;cases M' h1;rw[←e3]at h;exact⟨_,_,_,h,bB rfl (rm:=none) (ad:=none) (c:=True) (by simp only[evA,e1,e0,e2]) trivial⟩
   ·exact h.elim
  ·exact h.elim
 all_goals exact h.elim
theorem Ov{n:Nat}{o:aM}{f:Nat}{s:S2}{a:An P Sf T}{K:KO P Sf T}(h:ownR o f s a K):∃a' s' l',K a' s' l'∧kw P n o f s s' l':=by
 obtain⟨d,op,gd⟩:=o;cases op
 case lit k N z ps =>
  obtain⟨h1,h⟩:=au h;exact⟨_,_,_,h,λK hK=>.inr ⟨mc h1,hK⟩,λK hK=>.inr ⟨mc h1,hK⟩⟩
 all_goals exact h.elim
theorem ju{b:Bool}{X Y:Prop}(h:cond b X Y):X∨Y:=by cases b with
  | true=>exact .inl h
  | false=>exact .inr h
section
variable {α β : Type} [DecidableEq α]
theorem rY{γ:Type}[DecidableEq γ]{g:α→γ}(hg:∀x y,g x=g y→x=y)(x:α):∀l:List α,(l.map g).idxOf (g x)=l.idxOf x
 | []=>rfl
 | y::l=>by
  rw[au',List.idxOf_cons,List.idxOf_cons,rY hg x l]
  by_cases e:y=x
  ·subst e;simp
  ·have:g y≠g x:=λh=>e (hg _ _ h);rw[beq_eq_false_iff_ne.mpr this,beq_eq_false_iff_ne.mpr e]
omit [DecidableEq α] in
theorem OR{γ:Type}{g:α→γ}(hg:∀x y,g x=g y→x=y){x:α}{l:List α}:g x∈l.map g↔x∈l:=
 ⟨λh=>by obtain⟨y,hy,e⟩:=R'.mp h;exact hg _ _ e ▸ hy,bD'⟩
variable {kf : α → MK} {vf : β → AV} {l : List (α × β)} {x : α}
omit [DecidableEq α] in
theorem w6:l.map (λp=>kf p.1)=(eS l).map kf:=by rw[eS,aV'];rfl
theorem oG(hi:∀x y,kf x=kf y→x=y):(l.map λp=>kf p.1).idxOf (kf x)=lZ l x:=by rw[w6,rY hi];rfl
omit [DecidableEq α] in
theorem mem_keys(hi:∀x y,kf x=kf y→x=y):kf x∈(l.map λp=>kf p.1)↔x∈eS l:=by rw[w6,OR hi]
theorem jV(h:x∈eS l):lZ l x<l.length:=by
 have:=List.idxOf_lt_length_of_mem h
 rwa [eS,f']at this
theorem CR(h:x ∉ eS l):lZ l x=l.length:=by
 have:=List.idxOf_eq_length h
 rwa [eS,f']at this
theorem IT(h:x∈eS l):(l[lZ l x]'(jV h)).1=x:=by
 have h1:(eS l)[lZ l x]'(List.idxOf_lt_length_of_mem h)=x:=List.getElem_idxOf _;simpa[eS]using h1
theorem wc(hi:∀x y,kf x=kf y→x=y)(z:β)(ok:Bool) :
  ma (l.map λp=>kf p.1) (l.map λp=>vf p.2) (kf x) (vf z) ok=cond ok (.tup [vf (qX l x z),.bool (zB l x)]) (vf (qX l x z)):=by
 unfold ma zB qX
 by_cases h:x∈eS l
 ·have e:l[lZ l x]?=some (l[lZ l x]'(jV h)):=E' (jV h);rw[if_pos ((mem_keys hi).mpr h),oG hi,decide_eq_true h,J',S',e];cases ok<;>rfl
 ·have e:l[lZ l x]?=none:=by rw[CR h];simp
  rw[u' (λq=>h ((mem_keys hi).mp q)),decide_eq_false h,e];cases ok<;>rfl
theorem EO(hi:∀x y,kf x=kf y→x=y){z:β}{zz:AV}{ok:Bool}(hm:zB l x=true) :
  ma (l.map λp=>kf p.1) (l.map λp=>vf p.2) (kf x) zz ok=cond ok (.tup [vf (qX l x z),.bool true]) (vf (qX l x z)):=by
 have h:x∈eS l:=H' hm;unfold ma qX;have e:l[lZ l x]?=some (l[lZ l x]'(jV h)):=E' (jV h);rw[if_pos ((mem_keys hi).mpr h),oG hi,J',S',e];cases ok<;>rfl
theorem EN(hi:∀x y,kf x=kf y→x=y){zz:AV}{ok:Bool}(hm:zB l x=false) :
  ma (l.map λp=>kf p.1) (l.map λp=>vf p.2) (kf x) zz ok=cond ok (.tup [zz,.bool false]) zz:=by
 have h:x ∉ eS l:=ab' hm;unfold ma;rw[u' (λq=>h ((mem_keys hi).mp q))];cases ok<;>rfl
theorem wb(hi:∀x y,kf x=kf y→x=y)(kk:Option Nat)(v:β) :
  pA kk (l.map λp=>kf p.1) (l.map λp=>vf p.2) (kf x) (vf v)=.map kk ((IQ l x v).map λp=>kf p.1) ((IQ l x v).map λp=>vf p.2):=by
 unfold pA IQ
 by_cases h:x∈eS l
 ·rw[if_pos ((mem_keys hi).mpr h),if_pos h,oG hi,bm',bm']
  congr 1
  have:(l.map λp=>kf p.1)[lZ l x]'(by rw[f'];exact jV h)=kf x:=by rw[cp',IT h]
  rw[←this,List.set_getElem_self]
 ·rw[u' (λq=>h ((mem_keys hi).mp q)),u' h,List.map_append,List.map_append];rfl
theorem wj(hi:∀x y,kf x=kf y→x=y)(kk:Option Nat) :
  pC kk (l.map λp=>kf p.1) (l.map λp=>vf p.2) (kf x)=.map kk ((mdl l x).map λp=>kf p.1) ((mdl l x).map λp=>vf p.2):=by
 unfold pC mdl
 by_cases h:x∈eS l
 ·rw[if_pos ((mem_keys hi).mpr h),oG hi,cZ,cZ]
 ·rw[u' (λq=>h ((mem_keys hi).mp q)),CR h,List.eraseIdx_of_length_le (V' _)]
end
theorem S6{n:Nat}{o:aM}{f:Nat}{s:S2}{q:MN}{a:An P Sf T}{K:KO P Sf T}(h:mnR o f s q a K):∃a' s' l',K a' s' l'∧kw P n o f s s' l':=by
 obtain⟨d,op,gd⟩:=o;cases q with
 | get de kf hi vf l x z =>
  cases op<;>simp only[mnR]at h
  case mget kk zz ok m k =>
   split at h
   ·rename_i kk' ks vs q e1 e2;obtain⟨rfl,rfl,rfl,rfl,h⟩:=h;obtain⟨h1,h⟩:=au h;obtain⟨h2,h⟩:=au h;refine⟨_,_,_,h,bB rfl (rm:=none) (ad:=none) (c:=kk'=kk∧(kf x).fits kk) ?_ ⟨nj h1,jZ h2⟩⟩;simp only[evA,e1,e2,wc hi]
   ·exact h.elim
  all_goals exact h.elim
 | put de kf hi vf l x v =>
  cases op<;>simp only[mnR]at h
  case mset kk m k y =>
   split at h
   ·rename_i b e0
    split at h
    ·rename_i kk' ks vs q e1 e2;obtain⟨rfl,rfl,rfl,e3,h⟩:=h;obtain⟨h1,h⟩:=au h;obtain⟨h2,h⟩:=au h;obtain⟨h3,h⟩:=au h;refine⟨_,_,_,h,bB rfl (rm:=some b) (ad:=some (b,_)) (c:=kk'=kk∧(kf x).fits kk∧(vf v).solid=true) ?_ ⟨nj h1,jZ h2,h3⟩⟩;simp only[evA,e0,e1,e2,e3,wb hi]
    ·exact h.elim
   ·exact h.elim
  all_goals exact h.elim
 | del de kf hi vf l x =>
  cases op<;>simp only[mnR]at h
  case mdel kk m k =>
   split at h
   ·rename_i b e0
    split at h
    ·rename_i kk' ks vs q e1 e2;obtain⟨rfl,rfl,rfl,h⟩:=h;obtain⟨h1,h⟩:=au h;obtain⟨h2,h⟩:=au h;refine⟨_,_,_,h,bB rfl (rm:=some b) (ad:=some (b,_)) (c:=kk'=kk∧(kf x).fits kk) ?_ ⟨nj h1,jZ h2⟩⟩;simp only[evA,e0,e1,e2,wj hi]
    ·exact h.elim
   ·exact h.elim
  all_goals exact h.elim
 | getB hs de kf hi vf l x z =>
  cases op<;>simp only[mnR]at h
  case mget kk zz ok m k =>
   split at h
   ·rename_i kk' ks vs q e1 e2;obtain⟨rfl,rfl,rfl,h⟩:=h;obtain⟨h1,h⟩:=au h;obtain⟨h2,h⟩:=au h;cases hm:zB l x with
    | true =>
     rw[hm]at h;refine⟨_,_,_,h,bB rfl (rm:=none) (ad:=none) (c:=kk'=kk∧(kf x).fits kk) ?_ ⟨nj h1,jZ h2⟩⟩;simp only[evA,e1,e2,EO (z:=z) hi hm]
    | false =>
     rw[hm]at h;cases hs with
     | true=>exact h.elim
     | false =>
      refine⟨_,_,_,h,bB rfl (rm:=none) (ad:=none) (c:=kk'=kk∧(kf x).fits kk) ?_ ⟨nj h1,jZ h2⟩⟩;simp only[evA,e1,e2,EN hi hm]
   ·exact h.elim
  all_goals exact h.elim
theorem zy{n:Nat}{o:aM}{f:Nat}{s:S2}{K:KO P Sf T}:∀{a:An P Sf T},opR o f s a K→∃a' s' l,K a' s' l∧kw P n o f s s' l
 | .el g v l k,h=>(ju h).elim Tm cY
 | .elA g v l i n hv k,h=>(ju h).elim (P0 hv) cY
 | .st g v l x k,h=>(ju h).elim RF cY
 | .stI g v l k,h=>(ju h).elim MY cY
 | .app g v l xs a',h=>(ju h).elim Qi cY
 | .appF g v l xs a',h=>(ju h).elim Mb cY
 | .sub g v l fl a',h=>(ju h).elim MS cY
 | .rep g v x a',h=>(ju h).elim Oe cY
 | .own g a',h=>(ju h).elim Ov cY
 | .mn g q a',h=>(ju h).elim S6 cY
 | .req g p k,h=>(ju h).elim (λ⟨_,h⟩=>zy h) cY
 | .nil,h|.pass _,h|.br _ _ _,h|.callP _ _,h|.callH _ _ _,h|.callA _ _ _,h|.cmd _ _,h|.cmdL _ _,h|.wait _,h|.loop _ _ _ _ _ _ _,h|.join _ _ _ _ _,h|.join2 _ _ _ _ _,h|.back _ _ _,h|.hand _ _ _ _ _ _ _ _,h|.hand2 _ _ _ _ _ _,h|.handQ _ _ _ _ _ _ _ _,h|.unr _ _,h|.ret _,h|.retH _ _ _,h=>cY h
end
end Go.Am
namespace Go.Am
section
variable {P : Program} {Sf : Nat → Type} {T : Type}
def nilR(hp:Hp)(ptr:Bool)(x:AV)(K:Bool→Prop):Prop:=
 match ptr,x with
 | true,.ref _ _=>K false
 | true,.eref _ _ _=>K false
 | true,.rptr _ _=>K false
 | true,.val (.pointer none)=>K true
 | false,.sl _ es _=>∀t:Bool,(es≠[]→t=false)→K t
 | false,.vec b=>match hp b with
  | some (.vec _ es)=>∀t:Bool,(es≠[]→t=false)→K t
  | _=>False
 | _,_=>False
def z6(o:aM)(f:Nat)(s:S2)(a:An P Sf T)(K:KO P Sf T):Prop:=
 match o.op with
 | .isNil ptr ne x=>nilR s.hp ptr (evO s.tm x) λt=>K a ⟨aN o.dst (.bool (t != ne)) s.tm,s.hp⟩ ([],[])
 | _=>opR o f s a K
def mS:List aM→Nat→S2→An P Sf T→(An P Sf T→S2→Nat→Prop)→Prop
 | [],f,s,a,K=>K a s f
 | o::os,f,s,a,K=>match o.guard with
  | none=>z6 o f s a λa' s' _=>mS os (f+16) s' a' K
  | some (d,want)=>match s.tm d with
   | .val (.bool b)=>match want with
    | true=>cond b (z6 o f ⟨upd s.tm d (.val (.bool true)),s.hp⟩ (a.l f) λa' s' _=>mS os (f+16) s' a' K) (mS os (f+16) ⟨aN o.dst (.tup []) (upd s.tm d (.val (.bool false))),s.hp⟩ (a.r f) K)
    | false=>cond b (mS os (f+16) ⟨aN o.dst (.tup []) (upd s.tm d (.val (.bool true))),s.hp⟩ (a.l f) K) (z6 o f ⟨upd s.tm d (.val (.bool false)),s.hp⟩ (a.r f) λa' s' _=>mS os (f+16) s' a' K)
   | .tup []=>mS os (f+16) ⟨aN o.dst (.tup []) s.tm,s.hp⟩ a K
   | _=>False
def lP:List aM→Nat→S2→Log→An P Sf T→(An P Sf T→S2→Nat→Log→Prop)→Prop
 | [],f,s,lg,a,K=>K a s f lg
 | o::os,f,s,lg,a,K=>match o.guard with
  | none=>opR o f s a λa' s' l=>lP os (f+16) s' (lg++[l]) a' K
  | some (d,want)=>match s.tm d with
   | .val (.bool b)=>match want with
    | true=>cond b (opR o f ⟨upd s.tm d (.val (.bool true)),s.hp⟩ (a.l f) λa' s' l=>lP os (f+16) s' (lg++[l]) a' K) (lP os (f+16) ⟨aN o.dst (.tup []) (upd s.tm d (.val (.bool false))),s.hp⟩ (lg++[([],[])]) (a.r f) K)
    | false=>cond b (lP os (f+16) ⟨aN o.dst (.tup []) (upd s.tm d (.val (.bool true))),s.hp⟩ (lg++[([],[])]) (a.l f) K) (opR o f ⟨upd s.tm d (.val (.bool false)),s.hp⟩ (a.r f) λa' s' l=>lP os (f+16) s' (lg++[l]) a' K)
   | .tup []=>lP os (f+16) ⟨aN o.dst (.tup []) s.tm,s.hp⟩ (lg++[([],[])]) a K
   | _=>False
theorem eH{α:Type}{f:Nat→α}{t:Nat}{v:α}(h:f t=v):upd f t v=f:=by
 funext x
 by_cases e:x=t
 ·subst e;rw[ai,h]
 ·rw[az _ _ e]
theorem Oz{hp:Hp}{ptr:Bool}{x:AV}{K:Bool→Prop}(h:nilR hp ptr x K):lY ptr x∧∀t,tM hp x t→K t:=by
 unfold nilR at h
 split at h
 ·exact⟨trivial,λt ht=>by have ht:t=false:=ht;rw[ht];exact h⟩
 ·exact⟨trivial,λt ht=>by have ht:t=false:=ht;rw[ht];exact h⟩
 ·exact⟨trivial,λt ht=>by have ht:t=false:=ht;rw[ht];exact h⟩
 ·exact⟨trivial,λt ht=>by have ht:t=true:=ht;rw[ht];exact h⟩
 ·exact⟨trivial,λt ht=>h t ht⟩
 ·split at h
  ·rename_i e;refine⟨trivial,λt ht=>h t ?_⟩;simp only[tM,e]at ht;exact ht
  ·exact h.elim
 ·exact h.elim
theorem tK{n:Nat}{o:aM}{f:Nat}{s:S2}{a:An P Sf T}{K:KO P Sf T}{K':S2→Prop}(h:z6 o f s a K)(hK:∀a' s' l,K a' s' l→K' s'):exT P n o f s K':=by
 unfold z6 at h
 split at h
 ·rename_i ptr ne x e;obtain⟨d,op,g⟩:=o;simp only at e;subst e;obtain⟨h1,h2⟩:=Oz h;exact⟨h1,λt ht=>hK _ _ _ (h2 t ht)⟩
 ·obtain⟨a',s',l,h1,h2⟩:=zy (n:=n) h;exact h2.1 K' (hK _ _ _ h1)
theorem iK{n:Nat}{K':S2→Nat→Prop}{K:An P Sf T→S2→Nat→Prop}(hK:∀a s f,K a s f→K' s f) :
  ∀{os:List aM} {f:Nat} {s:S2} {a:An P Sf T},mS os f s a K→evT P n os f s K'
 | [],f,s,a,h=>hK _ _ _ h
 | o::os,f,s,a,h=>by
  unfold mS at h;unfold evT
  split at h
  ·rename_i e;rw[e];exact tK h λa' s' l h=>iK hK h
  ·rename_i d want e;rw[e];obtain⟨tm,hp⟩:=s
   split at h
   ·rename_i b eb;have eb:tm d=.val (.bool b):=eb
    refine⟨some b,by show gv (tm d)=_;rw[eb];rfl,λht=>?_,λht=>?_⟩
    ·simp only[aL']at ht;subst ht;cases b with
     | true =>
      have h:z6 o f ⟨upd tm d (.val (.bool true)),hp⟩ (a.l f) (λa' s' _=>mS os (f+16) s' a' K):=h;rw[eH eb]at h;exact tK h λa' s' l h=>iK hK h
     | false =>
      have h:z6 o f ⟨upd tm d (.val (.bool false)),hp⟩ (a.r f) (λa' s' _=>mS os (f+16) s' a' K):=h;rw[eH eb]at h;exact tK h λa' s' l h=>iK hK h
    ·cases b with
     | true=>cases want with
      | true=>exact absurd rfl ht
      | false =>
       have h:mS os (f+16) ⟨aN o.dst (.tup []) (upd tm d (.val (.bool true))),hp⟩ (a.l f) K:=h;rw[eH eb]at h;exact iK hK h
     | false=>cases want with
      | false=>exact absurd rfl ht
      | true =>
       have h:mS os (f+16) ⟨aN o.dst (.tup []) (upd tm d (.val (.bool false))),hp⟩ (a.r f) K:=h;rw[eH eb]at h;exact iK hK h
   ·rename_i eb;exact⟨none,by show gv (tm d)=_;rw[show tm d=.tup []from eb];rfl,λht=>by simp at ht,λ_=>iK hK h⟩
   ·exact h.elim
theorem lO{n:Nat}{K':S2→Nat→Log→Prop}{K:An P Sf T→S2→Nat→Log→Prop}(hK:∀a s f lg,K a s f lg→K' s f lg) :
  ∀{os:List aM} {f:Nat} {s:S2} {lg:Log} {a:An P Sf T},lP os f s lg a K→evD P n os f s lg K'
 | [],f,s,lg,a,h=>hK _ _ _ _ h
 | o::os,f,s,lg,a,h=>by
  unfold lP at h;unfold evD;have step:∀{s:S2} {a:An P Sf T},opR o f s a (λa' s' l=>lP os (f+16) s' (lg++[l]) a' K)→exD P n o f s λs' l=>evD P n os (f+16) s' (lg++[l]) K':=λh=>by
   obtain⟨a',s',l,h1,h2⟩:=zy (n:=n) h;exact h2.2 _ (lO hK h1)
  split at h
  ·rename_i e;rw[e];exact step h
  ·rename_i d want e;rw[e];obtain⟨tm,hp⟩:=s
   split at h
   ·rename_i b eb;have eb:tm d=.val (.bool b):=eb
    refine⟨some b,by show gv (tm d)=_;rw[eb];rfl,λht=>?_,λht=>?_⟩
    ·simp only[aL']at ht;subst ht;cases b with
     | true =>
      have h:opR o f ⟨upd tm d (.val (.bool true)),hp⟩ (a.l f) (λa' s' l=>lP os (f+16) s' (lg++[l]) a' K):=h;rw[eH eb]at h;exact step h
     | false =>
      have h:opR o f ⟨upd tm d (.val (.bool false)),hp⟩ (a.r f) (λa' s' l=>lP os (f+16) s' (lg++[l]) a' K):=h;rw[eH eb]at h;exact step h
    ·cases b with
     | true=>cases want with
      | true=>exact absurd rfl ht
      | false =>
       have h:lP os (f+16) ⟨aN o.dst (.tup []) (upd tm d (.val (.bool true))),hp⟩ (lg++[([],[])]) (a.l f) K:=h;rw[eH eb]at h;exact lO hK h
     | false=>cases want with
      | false=>exact absurd rfl ht
      | true =>
       have h:lP os (f+16) ⟨aN o.dst (.tup []) (upd tm d (.val (.bool false))),hp⟩ (lg++[([],[])]) (a.r f) K:=h;rw[eH eb]at h;exact lO hK h
   ·rename_i eb;exact⟨none,by show gv (tm d)=_;rw[show tm d=.tup []from eb];rfl,λht=>by simp at ht,λ_=>lO hK h⟩
   ·exact h.elim
end
def gvV(b b':Nat):Blk→AV
 | .vec k es=>cond (Nat.beq b' b) (.sl k es false) (.vec b')
 | _=>.vec b'
def gvF(b b' o:Nat):Blk→AV
 | .box x=>cond (Nat.beq b' b) (.rptr x o) (.ref b' o)
 | _=>.ref b' o
def gvM(b b':Nat):Blk→AV
 | .map kk ks vs=>cond (Nat.beq b' b) (.mp kk ks vs) (.mref b')
 | _=>.mref b'
mutual
def gvA(b:Nat)(x0:Blk):AV→AV
  | .vec b'=>gvV b b' x0
  | .ref b' o=>gvF b b' o x0
  | .agg cs=>.agg (gvL b x0 cs)
  | .tup cs=>.tup (gvL b x0 cs)
  | .func f cs=>.func f (gvL b x0 cs)
  | .val v=>.val v
  | .sl k es full=>.sl k es full
  | .rptr x o=>.rptr x o
  | .eref b i o=>.eref b i o
  | .vsub b i o=>.vsub b i o
  | .asub b i o k=>.asub b i o k
  | .mref b'=>gvM b b' x0
  | .mp kk ks vs=>.mp kk ks vs
  | .unk=>.unk
def gvL(b:Nat)(x0:Blk):List AV→List AV
  | []=>[]
  | x::xs=>gvA b x0 x::gvL b x0 xs
end
mutual
theorem nq{b:Nat}{x0:Blk}{hp:Hp}(hb:hp b=some x0)(hx:x0.pureB=true):∀(x:AV),bA b hp x (gvA b x0 x)
  | .vec b'=>by
    rw[gvA];cases x0 with
    | vec k es =>
      show bA b hp (.vec b') (cond (Nat.beq b' b) (.sl k es false) (.vec b'));cases e:Nat.beq b' b with
      | true=>rw[M' e];exact bA.vec hb (aU hx)
      | false=>exact bA.refl
    | box _=>exact bA.refl
    | row _ _ _ _=>exact bA.refl
    | map _ _ _=>exact bA.refl
    | mst _ _ _ _ _=>exact bA.refl
    | itr _ _ _ _=>exact bA.refl
  | .mref b'=>by
    rw[gvA];cases x0 with
    | map kk ks vs =>
      show bA b hp (.mref b') (cond (Nat.beq b' b) (.mp kk ks vs) (.mref b'));cases e:Nat.beq b' b with
      | true=>rw[M' e];exact bA.map hb (aU hx)
      | false=>exact bA.refl
    | vec _ _=>exact bA.refl
    | box _=>exact bA.refl
    | row _ _ _ _=>exact bA.refl
    | mst _ _ _ _ _=>exact bA.refl
    | itr _ _ _ _=>exact bA.refl
  | .ref b' o=>by
    rw[gvA];cases x0 with
    | box x =>
      show bA b hp (.ref b' o) (cond (Nat.beq b' b) (.rptr x o) (.ref b' o));cases e:Nat.beq b' b with
      | true=>rw[M' e];exact bA.ref hb (AV.pureB_ok hx)
      | false=>exact bA.refl
    | vec _ _=>exact bA.refl
    | row _ _ _ _=>exact bA.refl
    | map _ _ _=>exact bA.refl
    | mst _ _ _ _ _=>exact bA.refl
    | itr _ _ _ _=>exact bA.refl
  | .agg cs=>by rw[gvA];exact bA.agg (ud hb hx cs)
  | .tup cs=>by rw[gvA];exact bA.tup (ud hb hx cs)
  | .func f cs=>by rw[gvA];exact bA.func (ud hb hx cs)
  | .val v=>by rw[gvA];exact bA.refl
  | .sl k es full=>by rw[gvA];exact bA.refl
  | .rptr x o=>by rw[gvA];exact bA.refl
  | .eref b i o=>by rw[gvA];exact bA.refl
  | .vsub b i o=>by rw[gvA];exact bA.refl
  | .asub b i o k=>by rw[gvA];exact bA.refl
  | .mp kk ks vs=>by rw[gvA];exact bA.refl
  | .unk=>by rw[gvA];exact bA.refl
theorem ud{b:Nat}{x0:Blk}{hp:Hp}(hb:hp b=some x0)(hx:x0.pureB=true):∀(xs:List AV),fB b hp xs (gvL b x0 xs)
  | []=>by rw[gvL];trivial
  | x::xs=>by rw[gvL];exact⟨nq hb hx x,ud hb hx xs⟩
end
theorem sr{b:Nat}{x0:Blk}{x:AV}(h:x.solid=true):(gvA b x0 x).solid=true:=by
 cases x<;>rw[gvA]<;>first|exact h|rfl|skip
 ·cases x0 with
  | box x=>show(cond _ _ _:AV).solid=true;cases Nat.beq _ b<;>rfl
  | vec _ _=>rfl
  | row _ _ _ _=>rfl
  | map _ _ _=>rfl
  | mst _ _ _ _ _=>rfl
  | itr _ _ _ _=>rfl
 ·cases x0 with
  | vec k es=>show(cond _ _ _:AV).solid=true;cases Nat.beq _ b<;>rfl
  | box _=>rfl
  | row _ _ _ _=>rfl
  | map _ _ _=>rfl
  | mst _ _ _ _ _=>rfl
  | itr _ _ _ _=>rfl
 ·cases x0 with
  | map kk ks vs=>show(cond _ _ _:AV).solid=true;cases Nat.beq _ b<;>rfl
  | box _=>rfl
  | vec _ _=>rfl
  | row _ _ _ _=>rfl
  | mst _ _ _ _ _=>rfl
  | itr _ _ _ _=>rfl
def gvB(b:Nat)(x0:Blk):Option Blk→Option Blk
 | some (.box y)=>some (.box (gvA b x0 y))
 | x=>x
theorem aD.give2{k n:Nat}{s s':S3}(b:Nat)(hnx:s'.nx=s.nx)(h1:∀t,s'.tm t=.unk∨bA b s.hp (s.tm t) (s'.tm t))
  (h2:∀b' x,s'.hp b'=some x→b'≠b∧(s.hp b'=some x∨(∃y z,s.hp b'=some (.box y)∧x=.box z∧z.solid=true∧bA b s.hp y z)∨∃kk es es',s.hp b'=some (.vec kk es)∧x=.vec kk es'∧es'.length=es.length∧fB b s.hp es es'∧((∀z∈es,z.solid=true)→∀z∈es',z.solid=true))) (hb:s.hp b≠none):aD k n s s':=by
 rintro P c a w ⟨h0,A,μ,H⟩;have hle:∀k,A k→A k∨∃hd,μ b=some hd∧hd.emp=none∧hd.blk=k:=λ_ h=>.inl h;have hlive:∃x hd,s.hp b=some x∧μ b=some hd∧(hd.emp=none→¬A hd.blk∧hd.blk<w.heap.size∧(c.own hd.blk∨c.w.heap.size≤hd.blk)):=by
  cases hx:s.hp b with
  | none=>exact absurd hx hb
  | some x=>obtain⟨hd,e1,_,e3⟩:=H.blk b x hx;exact⟨x,hd,rfl,e1,e3⟩
 obtain⟨xb,hdb,hxb,hmb,hpb⟩:=hlive;have hsub:∀b' x,s'.hp b'=some x→b'≠b∧∃y,s.hp b'=some y:=by
  intro b' x hx
  obtain⟨e1,e2|⟨y,z,e2,_⟩|⟨kk,es,es',e2,_⟩⟩:=h2 b' x hx
  ·exact⟨e1,_,e2⟩
  ·exact⟨e1,_,e2⟩
  ·exact⟨e1,_,e2⟩
 refine⟨h0,λk=>A k∨∃hd,μ b=some hd∧hd.emp=none∧hd.blk=k,μ,λt=>?_,H.n,H.df,λb' x hx=>?_,λb1 b2 x x' hd hd' hx hx'=>?_,?_,λb' hb'=>?_,H.keep,λb' hb'=>.inl (H.A0 b' hb'),?_,H.mu⟩
 ·rcases h1 t with h|h
  ·rw[h];trivial
  ·exact h P c A μ _ s.tm n a w _ H (H.tm t)
 ·obtain⟨hne,y,hy⟩:=hsub b' x hx;obtain⟨hd,g1,g2,g3⟩:=H.blk b' y hy
  refine⟨hd,g1,?_,λhe=>⟨?_,(g3 he).2⟩⟩
  ·rcases(h2 b' x hx).2 with e|⟨yy,z,e1,e2,e3,e4⟩|⟨kk,es,es',e1,e2,e3,e4,e5⟩
   ·rw[hy]at e;cases e;exact g2.mono (cI.refl A w) hle (bo.refl _) (λ_=>rfl)
   ·rw[hy]at e1;cases e1;subst e2;obtain⟨q1,q2,v,ty,q3,q4⟩:=g2;exact⟨q1,e3,v,ty,e4 P c A μ _ s.tm n a w v H q3,q4⟩
   ·rw[hy]at e1;cases e1;subst e2;obtain⟨q1,q2⟩:=g2;refine⟨q1,?_⟩
    rcases q2 with⟨rfl,q2⟩|⟨r1,r2,r3,r4,C,ty,vs,r5,r6,r7,r8,r9,r10⟩
    ·left;have:es'=[]:=bP'.mp (by simpa using e3);exact⟨this,q2⟩
    ·exact .inr ⟨r1,by omega,r3,r4,C,ty,vs,r5,e4.rvl H r6,e5 r7,r8,r9,r10⟩
  ·rintro(h|⟨hd2,k1,k2,k3⟩)
   ·exact(g3 he).1 h
   ·exact hne (H.inj _ _ _ _ _ _ hy hxb g1 k1 he k2 k3.symm)
 ·obtain⟨_,y,hy⟩:=hsub b1 x hx;obtain⟨_,y',hy'⟩:=hsub b2 x' hx';exact H.inj _ _ _ _ _ _ hy hy'
 ·refine H.lt.mono (cI.refl A w) hle ?_
  rintro k (h|⟨hd,k1,k2,rfl⟩)
  ·exact H.lt k h
  ·rw[hmb]at k1;cases k1;exact(hpb k2).2.1
 ·rw[hnx]at hb';obtain⟨q1,q2⟩:=H.fr b' hb';refine⟨q1,?_⟩;cases hx:s'.hp b' with
  | none=>rfl
  | some x=>obtain⟨_,y,hy⟩:=hsub b' x hx;rw[q2]at hy;cases hy
 ·rintro k (h|⟨hd,k1,k2,rfl⟩)
  ·exact H.A1 k h
  ·rw[hmb]at k1;cases k1;exact .inr (hpb k2).2.2
theorem fB.setAt{b:Nat}{hp:Hp}{y z:AV}:∀{cs:List AV} {i:Nat},bA b hp y z→fB b hp (cs.set i y) (cs.set i z)
 | [],i,h=>trivial
 | c::cs,0,h=>⟨h,fB.refl⟩
 | c::cs,i+1,h=>⟨bA.refl,fB.setAt h⟩
theorem aD.nilvecF{k n:Nat}{tm:Nat→AV}{hp:Hp}{nx:Nat}(t0 i kk k':Nat)(cs:List AV)(ht:tm t0=.agg cs)(h:cs[i]?=some (.sl kk [] true))(hk:k≤nx) :
  aD k n ⟨tm,hp,nx⟩ ⟨upd tm t0 (.agg (cs.set i (.vec nx))),upd hp nx (some (.vec k' [])),nx+1⟩:=by
 rintro P c a w ⟨h0,A,μ,H⟩;have h1:=H.tm t0;rw[show(⟨tm,hp,nx⟩:S3).tm t0=_ from ht]at h1;obtain⟨vs,e1,e2,e3⟩:=h1;have hi:i<cs.length:=(I'.mp h).1;have hl:=e2.length;obtain⟨vi,hvi⟩:∃vi,vs[i]?=some vi:=⟨vs[i]'(by omega),E' (by omega)⟩
 obtain⟨ad,hv⟩:=RV.nilsl (RVL.get2 e2 h hvi);obtain⟨f1,f2⟩:μ nx=none∧hp nx=none:=H.fr nx (V' _)
 let hd:Hd:=⟨some ad,0,k',0,0⟩
 have hle:bo μ (upd μ nx (some hd)):=by
  intro b hd' e
  by_cases g:b=nx
  ·subst g;rw[f1]at e;cases e
  ·rw[az _ _ g];exact e
 have key:=H.add nx f2 (upd μ nx (some hd)) hle (λb hb=>az _ _ hb) hd (ai _ _ _) (.vec k' []) ⟨rfl,.inl ⟨rfl,rfl⟩⟩ (λe=>by cases e) (λ_ _ _ _ _ _ e=>by cases e)
 refine⟨h0,A,upd μ nx (some hd),⟨λt=>?_,key.n,key.df,key.blk,key.inj,key.lt,λb hb=>?_,key.keep,key.A0,key.A1,key.mu⟩⟩
 ·by_cases ht:t=t0
  ·subst ht;show RV w A (upd tm t (.agg (cs.set i (.vec nx))) t) _ _;rw[ai];exact⟨vs,e1,RVL.setAt (RVL.mono (λ_ _=>rfl) (λ_ h=>h) _ hle e2) hvi ⟨hd,ai _ _ _,hv⟩,e3⟩
  ·show RV w A (upd tm t0 _ t) _ _;rw[az _ _ ht];exact key.tm t
 ·have hb:nx+1≤b:=hb;exact key.fr b ⟨show nx≤b by omega,by omega⟩
def ku(k:Nat)(c:Cmd)(s:S3)(K:S3→Prop):Prop:=
 match c with
 | .frz b=>match s.hp b with
  | some x0=>cond x0.pureB (K ⟨λt=>gvA b x0 (s.tm t),λc=>cond (Nat.beq c b) none (gvB b x0 (s.hp c)),s.nx⟩) False
  | none=>False
 | .frzE b es h=>match s.hp b with
  | some (.vec kk es')=>es'=es∧K ⟨λt=>gvA b (.vec kk es) (s.tm t),λc=>cond (Nat.beq c b) none (gvB b (.vec kk es) (s.hp c)),s.nx⟩
  | _=>False
 | .frzM b es h=>match s.hp b with
  | some (.map kk ks es')=>es'=es∧K ⟨λt=>gvA b (.map kk ks es) (s.tm t),λc=>cond (Nat.beq c b) none (gvB b (.map kk ks es) (s.hp c)),s.nx⟩
  | _=>False
 | .frzV b t i v l y x es h=>match s.hp b,s.hp t with
  | some (.vec kk es'),some (.vec k2 cs)=>es'=es∧cs=(l.map v).set i y∧gvA b (.vec kk es) y=v x∧cond (cond (Nat.beq t b) false (v x).solid)
    (K ⟨λt=>gvA b (.vec kk es) (s.tm t),λc=>cond (Nat.beq c b) none (cond (Nat.beq c t) (some (.vec k2 ((l.set i x).map v))) (gvB b (.vec kk es) (s.hp c))),s.nx⟩) False
  | _,_=>False
 | .nilF t i k'=>match s.tm t with
  | .agg cs=>match cs[i]? with
   | some (.sl _ es full)=>cond full (cond es.isEmpty (cond (Nat.ble k s.nx) (K ⟨upd s.tm t (.agg (cs.set i (.vec s.nx))),upd s.hp s.nx (some (.vec k' [])),s.nx+1⟩) False) False) False
   | _=>False
  | _=>False
 | .nilT t k'=>match s.tm t with
  | .sl _ es full=>cond full (cond es.isEmpty (cond (Nat.ble k s.nx) (K ⟨upd s.tm t (.vec s.nx),upd s.hp s.nx (some (.vec k' [])),s.nx+1⟩) False) False) False
  | _=>False
 | .nilB b i k'=>match s.hp b with
  | some (.box (.agg cs))=>match cs[i]? with
   | some (.sl _ es full)=>cond full (cond es.isEmpty (cond (Nat.ble k s.nx) (K ⟨s.tm,upd (upd s.hp b (some (.box (.agg (cs.set i (.vec s.nx)))))) s.nx (some (.vec k' [])),s.nx+1⟩) False) False) False
   | _=>False
  | _=>False
 | .nilC b k'=>match s.hp b with
  | some (.box (.sl _ es full))=>cond full (cond es.isEmpty (cond (Nat.ble k s.nx) (K ⟨s.tm,upd (upd s.hp b (some (.box (.vec s.nx)))) s.nx (some (.vec k' [])),s.nx+1⟩) False) False) False
  | _=>False
 | .wkT t sh=>K ⟨upd s.tm t (bg sh (s.tm t)),s.hp,s.nx⟩
 | .wkB b sh=>match s.hp b with
  | some (.box x)=>cond (bg sh x).solid (K ⟨s.tm,upd s.hp b (some (.box (bg sh x))),s.nx⟩) False
  | some (.vec k' es)=>cond (allB AV.solid (es.map (bg sh))) (K ⟨s.tm,upd s.hp b (some (.vec k' (es.map (bg sh)))),s.nx⟩) False
  | _=>False
 | .wkS b i sh v l y x=>match s.hp b with
  | some (.vec kk es)=>es=(l.map v).set i y∧bg sh y=v x∧cond (v x).solid (K ⟨s.tm,upd s.hp b (some (.vec kk ((l.set i x).map v))),s.nx⟩) False
  | _=>False
 | .wkV b sh v l=>match s.hp b with
  | some (.vec kk es)=>es.map (bg sh)=l.map v∧K ⟨s.tm,upd s.hp b (some (.vec kk (l.map v))),s.nx⟩
  | _=>False
theorem RVL.mapSub{w:World}{A:Nat→Prop}{μ:Mu}{f:AV→AV}(hf:∀x,Sub x (f x)):∀{xs:List AV} {vs:List Value},RVL w A xs μ vs→RVL w A (xs.map f) μ vs
 | [],_,h=>h
 | x::xs,_,⟨v,vs',h1,h2,h3⟩=>⟨v,vs',h1,hf _ _ _ _ _ h2,RVL.mapSub hf h3⟩
theorem aD.subV{k n:Nat}{tm:Nat→AV}{hp:Hp}{nx:Nat}{kk:Nat}{es:List AV}{f:AV→AV}(b0:Nat)(h0:hp b0=some (.vec kk es))(h:∀x,Sub x (f x))(hy:∀x∈es.map f,x.solid=true):aD k n ⟨tm,hp,nx⟩ ⟨tm,upd hp b0 (some (.vec kk (es.map f))),nx⟩:=by
 rintro P c a w ⟨h1,A,μ,H⟩;obtain⟨hd,q1,q2,q6⟩:=H.blk b0 _ h0;have back:∀b z,upd hp b0 (some (.vec kk (es.map f))) b=some z→∃z',hp b=some z':=by
  intro b z hz
  by_cases e:b=b0
  ·subst e;exact⟨_,h0⟩
  ·rw[az _ _ e]at hz;exact⟨z,hz⟩
 refine⟨h1,A,μ,⟨H.tm,H.n,H.df,λb z hz=>?_,λb b' z z' hd1 hd2 hz hz'=>?_,H.lt,λb hb=>?_,H.keep,H.A0,H.A1,H.mu⟩⟩
 ·have hz:upd hp b0 (some (.vec kk (es.map f))) b=some z:=hz
  by_cases e:b=b0
  ·subst e;rw[ai]at hz;cases hz;refine⟨hd,q1,?_,q6⟩;obtain⟨q2,q3⟩:=q2;refine⟨q2,?_⟩
   rcases q3 with⟨rfl,q⟩|⟨a1,a2,a3,a4,C,ty,vs,a5,a6,a7,a8⟩
   ·exact .inl ⟨rfl,q⟩
   ·exact .inr ⟨a1,by rw[f'];exact a2,a3,a4,C,ty,vs,a5,RVL.mapSub h a6,hy,a8⟩
  ·rw[az _ _ e]at hz;exact H.blk b z hz
 ·obtain⟨_,g⟩:=back _ _ hz;obtain⟨_,g'⟩:=back _ _ hz';exact H.inj _ _ _ _ _ _ g g'
 ·have:μ b=none∧hp b=none:=H.fr b hb;refine⟨this.1,?_⟩;show upd hp b0 (some (.vec kk (es.map f))) b=none
  by_cases e:b=b0
  ·subst e;rw[h0]at this;cases this.2
  ·rw[az _ _ e];exact this.2
theorem aD.subL{k n:Nat}{tm:Nat→AV}{hp:Hp}{nx:Nat}{kk:Nat}{es es':List AV}(b0:Nat)(h0:hp b0=some (.vec kk es))(hl:es'.length=es.length)(h:∀(i:Nat) x y,es[i]?=some x→es'[i]?=some y→Sub x y)(hy:∀x∈es,x.solid=true→True)(hs:(∀x∈es,x.solid=true)→∀x∈es',x.solid=true):aD k n ⟨tm,hp,nx⟩ ⟨tm,upd hp b0 (some (.vec kk (es'))),nx⟩:=by
 rintro P c a w ⟨h1,A,μ,H⟩;obtain⟨hd,q1,q2,q6⟩:=H.blk b0 _ h0;have back:∀b z,upd hp b0 (some (.vec kk (es'))) b=some z→∃z',hp b=some z':=by
  intro b z hz
  by_cases e:b=b0
  ·subst e;exact⟨_,h0⟩
  ·rw[az _ _ e]at hz;exact⟨z,hz⟩
 refine⟨h1,A,μ,⟨H.tm,H.n,H.df,λb z hz=>?_,λb b' z z' hd1 hd2 hz hz'=>?_,H.lt,λb hb=>?_,H.keep,H.A0,H.A1,H.mu⟩⟩
 ·have hz:upd hp b0 (some (.vec kk (es'))) b=some z:=hz
  by_cases e:b=b0
  ·subst e;rw[ai]at hz;cases hz;refine⟨hd,q1,?_,q6⟩;obtain⟨q2,q3⟩:=q2;refine⟨q2,?_⟩
   rcases q3 with⟨rfl,q⟩|⟨a1,a2,a3,a4,C,ty,vs,a5,a6,a7,a8⟩
   ·exact .inl ⟨aH' hl,q⟩
   ·exact .inr ⟨a1,by rw[hl];exact a2,a3,a4,C,ty,vs,a5,RVL.of_get (by rw[hl];exact a6.length) (λi y v hy hv=>by
     have hi:i<es.length:=by have:=(I'.mp hy).1;omega
     exact h i _ _ (E' hi) hy _ _ _ _ (a6.get2 (E' hi) hv)),hs a7,a8⟩
  ·rw[az _ _ e]at hz;exact H.blk b z hz
 ·obtain⟨_,g⟩:=back _ _ hz;obtain⟨_,g'⟩:=back _ _ hz';exact H.inj _ _ _ _ _ _ g g'
 ·have:μ b=none∧hp b=none:=H.fr b hb;refine⟨this.1,?_⟩;show upd hp b0 (some (.vec kk (es'))) b=none
  by_cases e:b=b0
  ·subst e;rw[h0]at this;cases this.2
  ·rw[az _ _ e];exact this.2
theorem aD.nilvecC{k n:Nat}{tm:Nat→AV}{hp:Hp}{nx:Nat}(b0 kk k':Nat)(hb:hp b0=some (.box (.sl kk [] true)))(hk:k≤nx) :
  aD k n ⟨tm,hp,nx⟩ ⟨tm,upd (upd hp b0 (some (.box (.vec nx)))) nx (some (.vec k' [])),nx+1⟩:=by
 rintro P c a w ⟨h0,A,μ,H⟩;obtain⟨hd0,q1,⟨q2,q3,v0,ty0,q5,q7⟩,q8⟩:=H.blk b0 _ hb;obtain⟨ad,hv⟩:=RV.nilsl q5;obtain⟨f1,f2⟩:μ nx=none∧hp nx=none:=H.fr nx (V' _)
 let hd:Hd:=⟨some ad,0,k',0,0⟩
 have hne:b0≠nx:=λe=>by subst e;rw[f2]at hb;cases hb
 have hle:bo μ (upd μ nx (some hd)):=by
  intro b hd' e
  by_cases g:b=nx
  ·subst g;rw[f1]at e;cases e
  ·rw[az _ _ g];exact e
 have key:=H.add nx f2 (upd μ nx (some hd)) hle (λb hb=>az _ _ hb) hd (ai _ _ _) (.vec k' []) ⟨rfl,.inl ⟨rfl,rfl⟩⟩ (λe=>by cases e) (λ_ _ _ _ _ _ e=>by cases e);have hswap:upd (upd hp b0 (some (.box (.vec nx)))) nx (some (.vec k' []))=upd (upd hp nx (some (.vec k' []))) b0 (some (.box (.vec nx))):=by
  funext b
  by_cases e1:b=b0
  ·subst e1;rw[ai,az _ _ hne,ai]
  ·rw[az _ _ e1]
   by_cases e2:b=nx
   ·subst e2;rw[ai,ai]
   ·rw[az _ _ e2,az _ _ e1,az _ _ e2]
 rw[hswap];have back:∀b x,upd (upd hp nx (some (.vec k' []))) b0 (some (.box (.vec nx))) b=some x→∃y,upd hp nx (some (.vec k' [])) b=some y:=by
  intro b x hx
  by_cases e:b=b0
  ·subst e;exact⟨.box (.sl kk [] true),by rw[az _ _ hne];exact hb⟩
  ·rw[az _ _ e]at hx;exact⟨x,hx⟩
 refine⟨h0,A,upd μ nx (some hd),⟨key.tm,key.n,key.df,λb x hx=>?_,λb b' x x' hd1 hd2 hx hx'=>?_,key.lt,λb hb'=>?_,key.keep,key.A0,key.A1,key.mu⟩⟩
 ·by_cases e:b=b0
  ·subst e;have hx:some (Blk.box (.vec nx))=some x:=by
    rw[←hx];exact(ai _ _ _).symm
   cases hx;exact⟨hd0,hle _ _ q1,⟨q2,rfl,v0,ty0,⟨hd,ai _ _ _,hv⟩,q7⟩,q8⟩
  ·have hx:upd hp nx (some (.vec k' [])) b=some x:=by
    rw[←hx];exact(az _ _ e).symm
   exact key.blk b x hx
 ·obtain⟨y,hy⟩:=back b x hx;obtain⟨y',hy'⟩:=back b' x' hx';exact key.inj _ _ _ _ _ _ hy hy'
 ·have hb':nx+1≤b:=hb';have:upd μ nx (some hd) b=none∧upd hp nx (some (.vec k' [])) b=none:=key.fr b ⟨show nx≤b by omega,by omega⟩;refine⟨this.1,?_⟩;show upd (upd hp nx (some (.vec k' []))) b0 _ b=none
  by_cases e:b=b0
  ·subst e;have:=this.2;rw[az _ _ hne,hb]at this;cases this
  ·rw[az _ _ e];exact this.2
theorem pR{k n b:Nat}{x0:Blk}{s:S3}(hb:s.hp b=some x0)(hx:x0.pureB=true):aD k n s ⟨λt=>gvA b x0 (s.tm t),λc=>cond (Nat.beq c b) none (gvB b x0 (s.hp c)),s.nx⟩:=by
 rintro P c a w H;obtain⟨h0,A,μ,R⟩:=H;refine aD.give (s:=s) (s':=⟨λt=>gvA b x0 (s.tm t),λc=>cond (Nat.beq c b) none (gvB b x0 (s.hp c)),s.nx⟩) (k:=k) (n:=n) b rfl (λt=>.inr (nq hb hx _)) (λb' x hx'=>?_) (by rw[hb];simp) P c a w ⟨h0,A,μ,R⟩;have hx':cond (Nat.beq b' b) none (gvB b x0 (s.hp b'))=some x:=hx';cases e:Nat.beq b' b with
 | true=>rw[e]at hx';cases hx'
 | false =>
  rw[e]at hx';have hx':gvB b x0 (s.hp b')=some x:=hx';refine⟨λe'=>by subst e';simp at e,?_⟩;cases hs:s.hp b' with
  | none=>rw[hs]at hx';cases hx'
  | some y =>
   rw[hs]at hx';cases y with
   | box y =>
    cases hx';obtain⟨hd,g1,g2,g3⟩:=R.blk b' _ hs;exact .inr ⟨y,_,rfl,rfl,sr g2.2.1,nq hb hx y⟩
   | vec k es=>cases hx';exact .inl rfl
   | row k es l c=>cases hx';exact .inl rfl
   | map kk ks vs=>cases hx';exact .inl rfl
   | mst _ _ _ _ _=>cases hx';exact .inl rfl
   | itr _ _ _ _=>cases hx';exact .inl rfl
theorem Fj{k n b t i k2:Nat}{α:Type}{x0:Blk}{s:S3}{v:α→AV}{l:List α}{y:AV}{x:α}(hb:s.hp b=some x0)(hx:x0.pureB=true)(ht:s.hp t=some (.vec k2 ((l.map v).set i y)))
  (hg:gvA b x0 y=v x) (hne:t≠b) (hso:(v x).solid=true) :
  aD k n s ⟨λt=>gvA b x0 (s.tm t),λc=>cond (Nat.beq c b) none (cond (Nat.beq c t) (some (.vec k2 ((l.set i x).map v))) (gvB b x0 (s.hp c))),s.nx⟩:=by
 rintro P c a w H;obtain⟨h0,A,μ,R⟩:=H;refine aD.give2 (s:=s) (s':=⟨λt=>gvA b x0 (s.tm t),λc=>cond (Nat.beq c b) none (cond (Nat.beq c t) (some (.vec k2 ((l.set i x).map v))) (gvB b x0 (s.hp c))),s.nx⟩) (k:=k) (n:=n) b rfl (λt=>.inr (nq hb hx _)) (λb' z hz=>?_) (by rw[hb];simp) P c a w ⟨h0,A,μ,R⟩;have hz:cond (Nat.beq b' b) none (cond (Nat.beq b' t) (some (.vec k2 ((l.set i x).map v))) (gvB b x0 (s.hp b')))=some z:=hz;cases e:Nat.beq b' b with
 | true=>rw[e]at hz;cases hz
 | false =>
  rw[e]at hz;have hz:cond (Nat.beq b' t) (some (.vec k2 ((l.set i x).map v))) (gvB b x0 (s.hp b'))=some z:=hz;refine⟨λe'=>by subst e';simp at e,?_⟩;cases e2:Nat.beq b' t with
  | true =>
   rw[e2]at hz;cases hz;have e2:=M' e2;subst e2
   refine .inr (.inr ⟨k2,_,_,ht,rfl,by simp,?_,λhs z hz=>?_⟩)
   ·rw[bm',←hg];exact fB.setAt (nq hb hx y)
   ·rw[bm']at hz;obtain⟨j,hj,rfl⟩:=ad' hz;rw[bb']
    split
    ·exact hso
    ·rename_i hij;refine hs _ (ak' (i:=j) ?_);simp at hj;rw[bO',u' hij,E' (by simpa using hj)]
  | false =>
   rw[e2]at hz;have hz:gvB b x0 (s.hp b')=some z:=hz;cases hs:s.hp b' with
   | none=>rw[hs]at hz;cases hz
   | some y =>
    rw[hs]at hz;cases y with
    | box y =>
     cases hz;obtain⟨hd,g1,g2,g3⟩:=R.blk b' _ hs;exact .inr (.inl ⟨y,_,rfl,rfl,sr g2.2.1,nq hb hx y⟩)
    | vec k es=>cases hz;exact .inl rfl
    | row k es l c=>cases hz;exact .inl rfl
    | map kk ks vs=>cases hz;exact .inl rfl
    | mst _ _ _ _ _=>cases hz;exact .inl rfl
    | itr _ _ _ _=>cases hz;exact .inl rfl
theorem oK{k n:Nat}{c:Cmd}{s:S3}{K:S3→Prop}(h:ku k c s K):∃s',aD k n s s'∧K s':=by
 obtain⟨tm,hp,nx⟩:=s;cases c with
 | frz b =>
  simp only[ku]at h
  split at h
  ·rename_i x0 e;obtain⟨h1,h⟩:=au h;exact⟨_,pR e h1,h⟩
  ·exact h.elim
 | frzE b es hes =>
  simp only[ku]at h
  split at h
  ·rename_i kk es' e;obtain⟨rfl,h⟩:=h;exact⟨_,pR e hes,h⟩
  ·exact h.elim
 | frzM b es hes =>
  simp only[ku]at h
  split at h
  ·rename_i kk ks es' e;obtain⟨rfl,h⟩:=h;exact⟨_,pR e hes,h⟩
  ·exact h.elim
 | frzV b t i v l y x es hes =>
  simp only[ku]at h
  split at h
  ·rename_i kk es' k2 cs e1 e2;obtain⟨rfl,rfl,h1,h⟩:=h;obtain⟨h2,h⟩:=au h
   refine⟨_,Fj (x0:=.vec kk es') e1 hes e2 h1 (λe'=>?_) ?_,h⟩
   ·subst e';simp at h2
   ·revert h2;cases Nat.beq t b<;>simp
  ·exact h.elim
 | nilF t i k' =>
  simp only[ku]at h
  split at h
  ·rename_i cs e
   split at h
   ·rename_i kk es full e2;obtain⟨h1,q⟩:=au h;clear h;obtain⟨h2,q'⟩:=au q;obtain⟨h3,g'⟩:=au q';have h2:es=[]:=by cases es<;>simp_all
    subst h1;subst h2;exact⟨_,aD.nilvecF t i kk k' cs e e2 (U' h3),g'⟩
   ·exact h.elim
  ·exact h.elim
 | nilT t k' =>
  simp only[ku]at h
  split at h
  ·rename_i kk es full e;obtain⟨h1,q⟩:=au h;clear h;obtain⟨h2,q'⟩:=au q;obtain⟨h3,g'⟩:=au q';have h2:es=[]:=by cases es<;>simp_all
   subst h1;subst h2;exact⟨_,aD.nilvec t kk k' e (U' h3),g'⟩
  ·exact h.elim
 | nilB b i k' =>
  simp only[ku]at h
  split at h
  ·rename_i cs e
   split at h
   ·rename_i kk es full e2;obtain⟨h1,q⟩:=au h;clear h;obtain⟨h2,q'⟩:=au q;obtain⟨h3,g'⟩:=au q';have h2:es=[]:=by cases es<;>simp_all
    subst h1;subst h2;exact⟨_,aD.nilvecB b i kk k' cs e e2 (U' h3),g'⟩
   ·exact h.elim
  ·exact h.elim
 | nilC b k' =>
  simp only[ku]at h
  split at h
  ·rename_i kk es full e;obtain⟨h1,q⟩:=au h;clear h;obtain⟨h2,q'⟩:=au q;obtain⟨h3,g'⟩:=au q';have h2:es=[]:=by cases es<;>simp_all
   subst h1;subst h2;exact⟨_,aD.nilvecC b kk k' e (U' h3),g'⟩
  ·exact h.elim
 | wkT t sh=>exact⟨_,aD.subT _ (dE _ _),h⟩
 | wkB b sh =>
  simp only[ku]at h
  split at h
  ·rename_i x e;obtain⟨h1,h⟩:=au h;exact⟨_,aD.subB b e (dE _ _) h1,h⟩
  ·rename_i k' es e;obtain⟨h1,h⟩:=au h;exact⟨_,aD.subV b e (dE _) (oM h1),h⟩
  ·exact h.elim
 | wkV b sh v l =>
  simp only[ku]at h
  split at h
  ·rename_i kk es e;obtain⟨h1,h⟩:=h
   refine⟨_,aD.subL (es':=l.map v) b e (by rw[←h1];simp) (λj p q hp hq=>?_) (λ_ _ _=>trivial) (λho z hz=>?_),h⟩
   ·rw[←h1,S',hp]at hq;cases hq;exact dE _ _
   ·rw[←h1]at hz;obtain⟨y,hy,rfl⟩:=R'.mp hz;rw[pZ];exact ho y hy
  ·exact h.elim
 | wkS b i sh v l y x =>
  simp only[ku]at h
  split at h
  ·rename_i kk es e;obtain⟨rfl,h1,h⟩:=h;obtain⟨h2,h⟩:=au h
   refine⟨_,aD.subL (es':=(l.set i x).map v) b e (by simp) (λj p q hp hq=>?_) (λ_ _ _=>trivial) (λho z hz=>?_),h⟩
   ·rw[bm',bO']at hq;rw[bO']at hp
    by_cases g:i=j
    ·subst g;simp only[↓reduceIte]at hp hq
     split at hp
     ·rename_i hlt;rw[if_pos hlt]at hq;cases hp;cases hq;rw[←h1];exact dE _ _
     ·cases hp
    ·rw[u' g]at hp hq;rw[hp]at hq;cases hq;exact Sub.refl
   ·rw[bm']at hz;obtain⟨j,hj,rfl⟩:=bl'.mp hz;rw[bb']
    split
    ·exact h2
    ·rename_i g;have hj':j<(l.map v).length:=by simpa using hj
     have:=ho ((l.map v)[j]) (bl'.mpr ⟨j,by simpa using hj',by rw[bb',u' g]⟩);exact this
  ·exact h.elim
def KY(k:Nat):List Cmd→S3→(S3→Prop)→Prop
 | [],s,K=>K s
 | c::r,s,K=>ku k c s λs=>KY k r s K
theorem xM{k n:Nat}{K:S3→Prop}:∀{cs:List Cmd} {s:S3},KY k cs s K→∃s',aD k n s s'∧K s'
 | [],s,h=>⟨s,aD.refl,h⟩
 | c::r,s,h=>by
  obtain⟨s1,h1,h2⟩:=oK (n:=n) h;obtain⟨s2,h3,h4⟩:=xM (n:=n) h2;exact⟨s2,h1.trans h3,h4⟩
def hsB(m:Nat):List PB→Bool
 | []=>true
 | .box x::r=>cond (x.belB m) (hsB m r) false
 | .vec _ _ _::r=>hsB m r
 | .arr _ _::r=>hsB m r
 | .map _ _ _ _::r=>hsB m r
 | .gone::r=>hsB m r
def tsB(m:Nat):List (Nat×Sh×AV)→Bool
 | []=>true
 | p::r=>cond (p.2.2.belB m) (tsB m r) false
def pT(b:Nat):List Nat→List PB→Bool
 | c::bs,x::hs=>cond x.isGone (pT b bs hs) (cond (Nat.beq c b) false (pT b bs hs))
 | _,_=>true
def EY:List Nat→List PB→Bool
 | b::bs,x::hs=>cond x.isGone (EY bs hs) (cond (pT b bs hs) (EY bs hs) false)
 | _,_=>true
theorem pS{b:Nat}:∀{bs:List Nat} {hs:List PB},pT b bs hs=true→∀(i:Nat) c x,bs[i]?=some c→hs[i]?=some x→x.isGone=false→c≠b
 | [],_,_,i,c,x,h1,_,_=>by simp at h1
 | _::_,[],_,i,c,x,_,h2,_=>by simp at h2
 | c0::bs,x0::hs,h,i,c,x,h1,h2,h3=>by
  rw[pT]at h;cases i with
  | zero =>
   cases h1;cases h2;rw[h3]at h;rintro rfl;simp at h
  | succ i =>
   have h:pT b bs hs=true:=by
    cases e:x0.isGone with
    | true=>rw[e]at h;exact h
    | false =>
     rw[e]at h;cases e2:Nat.beq c0 b with
     | true=>rw[e2]at h;cases h
     | false=>rw[e2]at h;exact h
   exact pS h i c x (by simpa using h1) (by simpa using h2) h3
theorem Do:∀{bs:List Nat} {hs:List PB},EY bs hs=true→∀(i j:Nat) c x y,bs[i]?=some c→bs[j]?=some c→hs[i]?=some x→hs[j]?=some y→x.isGone=false→y.isGone=false→i=j
 | [],_,_,i,j,c,x,y,h1,_,_,_,_,_=>by simp at h1
 | _::_,[],_,i,j,c,x,y,_,_,h2,_,_,_=>by simp at h2
 | c0::bs,x0::hs,h,i,j,c,x,y,h1,h1',h2,h2',h3,h3'=>by
  rw[EY]at h;have hr:EY bs hs=true∧(x0.isGone=false→pT c0 bs hs=true):=by
   cases e:x0.isGone with
   | true=>rw[e]at h;exact⟨h,λh=>by cases h⟩
   | false =>
    rw[e]at h;obtain⟨a,b⟩:=ag.mp h;exact⟨b,λ_=>a⟩
  rcases i with _|i<;>rcases j with _|j
  ·rfl
  ·cases h1;cases h2;exact absurd rfl (pS (hr.2 h3) j _ _ (by simpa using h1') (by simpa using h2') h3')
  ·cases h1';cases h2';exact absurd rfl (pS (hr.2 h3') i _ _ (by simpa using h1) (by simpa using h2) h3)
  ·exact congrArg (·+1) (Do hr.1 i j c x y (by simpa using h1) (by simpa using h1') (by simpa using h2) (by simpa using h2') h3 h3')
def nfB(k:Nat)(m:NF)(bs:List Nat):Bool:=
 cond (Nat.beq bs.length m.hs.length) (cond (EY bs m.hs) (cond ((List.range k).all λb=>Nat.beq (bs.getD b 0) b) (cond (Nat.ble k m.hs.length) (cond (tsB m.hs.length m.ts) (hsB m.hs.length m.hs) false) false) false) false) false
def NF.lhs(m:NF)(s:S3)(bs:List Nat):List AV×List (Option Blk):=(m.ts.map λp=>bg p.2.1 (s.tm p.1),List.zipWith (λb x=>PB.see (s.hp b) x) bs m.hs)
def NF.rhs(m:NF)(bs:List Nat):List AV×List (Option Blk):=(m.ts.map λp=>p.2.2.ren λi=>bs.getD i 0,m.hs.map λx=>x.ren λi=>bs.getD i 0)
def nfP(k:Nat)(s:S3)(m:NF)(bs:List Nat)(R:Prop):Prop:=cond (nfB k m bs) (m.lhs s bs=m.rhs bs∧R) False
def Nf(m:NF)(bs:List Nat)(R:Prop):Prop:=m.rhs bs=m.rhs bs∧R
theorem qM{m:NF}{bs:List Nat}{R:Prop}:Nf m bs R↔R:=⟨λh=>h.2,λh=>⟨rfl,h⟩⟩
theorem nl{m:Nat}:∀{hs:List PB},hsB m hs=true→∀x∈hs,∀B,x.blk=some B→B.bel m∧∀π,x.ren π=some (B.ren π)
 | [],_,x,hx,_,_=>by simp at hx
 | .box y::r,h,x,hx,B,hB=>by
  obtain⟨h1,h2⟩:=ag.mp h
  rcases P'.mp hx with rfl|hx
  ·cases hB;exact⟨AV.belB_ok h1,λπ=>rfl⟩
  ·exact nl h2 x hx B hB
 | .vec k es hes::r,h,x,hx,B,hB=>by
  rcases P'.mp hx with rfl|hx
  ·cases hB;exact⟨bm (aU hes),λπ=>by show some (Blk.vec k es)=some (.vec k (dh π es));rw[bc _ (aU hes)]⟩
  ·exact nl (hs:=r) h x hx B hB
 | .arr es hes::r,h,x,hx,B,hB=>by
  rcases P'.mp hx with rfl|hx
  ·cases hB;exact⟨bm (aU hes),λπ=>by show some (Blk.box (.agg es))=some (.box (.agg (dh π es)));rw[bc _ (aU hes)]⟩
  ·exact nl (hs:=r) h x hx B hB
 | .map kk ks vs hes::r,h,x,hx,B,hB=>by
  rcases P'.mp hx with rfl|hx
  ·cases hB;exact⟨bm (aU hes),λπ=>by show some (Blk.map kk ks vs)=some (.map kk ks (dh π vs));rw[bc _ (aU hes)]⟩
  ·exact nl (hs:=r) h x hx B hB
 | .gone::r,h,x,hx,B,hB=>by
  rcases P'.mp hx with rfl|hx
  ·cases hB
  ·exact nl (hs:=r) h x hx B hB
theorem vG{tm:Nat→AV}{π:Nat→Nat}{m:Nat}:∀{ts:List (Nat×Sh×AV)},(ts.map λp=>bg p.2.1 (tm p.1))=(ts.map λp=>p.2.2.ren π)→tsB m ts=true →
  ∀t,(dZ (ts.map λp=>(p.1,p.2.2)) t).bel m∧Sub (tm t) ((dZ (ts.map λp=>(p.1,p.2.2)) t).ren π)
 | [],_,_,t=>⟨trivial,Sub.unk⟩
 | p::ts,h,hb,t=>by
  simp only[au',List.cons.injEq]at h;obtain⟨h1,h2⟩:=ag.mp hb;obtain⟨i1,i2⟩:=vG h.2 h2 t
  by_cases e:t=p.1
  ·subst e;simp only[au',dZ,↓reduceIte];exact⟨AV.belB_ok h1,h.1 ▸ dE _ _⟩
  ·simp only[au',dZ,u' e];exact⟨i1,i2⟩
theorem p8{k n:Nat}{s:S3}{m:NF}{bs:List Nat}{R:Prop}(h:nfP k s m bs R):aD k n s m.st∧R:=by
 obtain⟨h2,h1,h3⟩:=au h;refine⟨?_,h3⟩;obtain⟨e1,e2⟩:=Prod.mk.inj h1;obtain⟨c1,h2⟩:=ag.mp h2;obtain⟨c2,h2⟩:=ag.mp h2;obtain⟨c3,h2⟩:=ag.mp h2;obtain⟨c4,h2⟩:=ag.mp h2;obtain⟨c5,c6⟩:=ag.mp h2;have c1:=M' c1;have c4:=U' c4;have c2:=Do c2;have live:∀{y:PB} {x},y.blk=some x→y.isGone=false∧∀v,PB.see v y=v:=by
  intro y x e;cases y<;>first|exact⟨rfl,λv=>rfl⟩|cases e
 have hres:=vG e1 c5;refine aD.trans (s2:=⟨λt=>(m.st.tm t).ren λi=>bs.getD i 0,s.hp,s.nx⟩) (aD.sub (λt=>(hres t).2) rfl rfl) ?_;have hlt:∀{b x},m.st.hp b=some x→(∃y,m.hs[b]?=some y∧y.blk=some x)∧b<m.hs.length:=by
  intro b x e;rw[show m.st.hp=bn (m.hs.map PB.blk)from(mj _).symm]at e;have e:=bp.mp e;rw[S',aw']at e;obtain⟨y,e1,e2⟩:=e;exact⟨⟨y,e1,e2⟩,(I'.mp e1).1⟩
 have hbs:∀{b},b<m.hs.length→bs[b]?=some (bs.getD b 0):=by
  intro b hb;rw[J',E' (show b<bs.length by omega)];rfl
 refine aD.ren (λi=>bs.getD i 0) (λt=>.inr ⟨rfl,(hres t).1⟩) (λb x e=>?_) (λb b' e e' he=>?_) (λb hb=>?_) c4
 ·obtain⟨⟨y,g1,g3⟩,g2⟩:=hlt e;obtain⟨q1,q2⟩:=nl c6 y (ak' g1) x g3;refine⟨g2,?_,q1⟩;have:(List.zipWith (λb x=>PB.see (s.hp b) x) bs m.hs)[b]?=(m.hs.map λx=>x.ren λi=>bs.getD i 0)[b]?:=by rw[←e2]
  rw[List.getElem?_zipWith,S',hbs g2,g1]at this;simp only[ag',aL',(live g3).2]at this;show s.hp (bs.getD b 0)=_;rw[this,q2]
 ·have hb:∀{b},m.st.hp b≠none→∃y,m.hs[b]?=some y∧y.isGone=false∧b<m.hs.length:=by
   intro b e;cases hx:m.st.hp b with
   | none=>exact absurd hx e
   | some x =>
    obtain⟨⟨y,g1,g3⟩,g2⟩:=hlt hx;exact⟨y,g1,(live g3).1,g2⟩
  obtain⟨y,a1,a2,a3⟩:=hb e;obtain⟨y',a1',a2',a3'⟩:=hb e';have he:bs.getD b 0=bs.getD b' 0:=he;exact c2 b b' _ y y' (hbs a3) (by rw[hbs a3',he]) a1 a1' a2 a2'
 ·have:=aZ'.mp c3 b (aY'.mpr hb);exact M' this
section
variable {P : Program} {Sf : Nat → Type} {T : Type} (k : Nat)
def pre:An P Sf T→S3→(An P Sf T→S3→Prop)→Prop
 | .cmd c a,s,K=>ku k c s λs'=>pre a s' K
 | .wait a,s,K=>K a s
 | a,s,K=>K a s
def mX:An P Sf T→S3→(An P Sf T→S3→Prop)→Prop
 | .cmd c a,s,K=>ku k c s λs'=>mX a s' K
 | .cmdL c a,s,K=>ku k c s λs'=>mX a s' K
 | a,s,K=>K a s
abbrev KX(P:Program)(Sf:Nat→Type)(T:Type):=X→An P Sf T→S3→Prop
def yh(j:Nat)(nf:Sf j→NF)(R:Sf j→Prop)(a:An P Sf T)(s:S3):Prop:=
 match a with
 | .back j' t bs=>if h:j'=j then nfP k s (nf (h ▸ t)) bs (R (h ▸ t))else False
 | _=>False
def Jt(c:AO)(b:Bool)(tm:Nat→AV):Nat→AV:=match c with
 | .t t=>upd tm t (.val (.bool b))
 | .c _=>tm
def RC(f:An P Sf T→S3→KX P Sf T→Prop):Nat→An P Sf T→S3→KX P Sf T→Prop
 | 0,_,_,_=>False
 | m+1,a,s,K=>f a s λe a' s'=>match e with
  | .normal=>RC f m a' s' K
  | e=>K e a' s'
def wpA:AC→An P Sf T→S3→KX P Sf T→Prop
 | .skip,a,s,K=>K .normal a s
 | .reg ops,a,s,K=>pre k a s λa s=>mS ops s.nx ⟨s.tm,s.hp⟩ a λa' s' f=>K .normal a' ⟨s'.tm,s'.hp,f⟩
 | .dreg ops par,a,s,K=>pre k a s λa s=>lP ops s.nx ⟨s.tm,s.hp⟩ [] a λa' s' f lg=>cond (vO par lg) (K .normal a' ⟨s'.tm,s'.hp,f⟩) False
 | .seq x y,a,s,K=>match a with
  | .pass a=>wpA x a s λe a' s'=>match e with
   | .normal=>wpA y a' s' K
   | e=>K e a' s'
  | .join j nf I a body=>(wpA x a s λe a' s'=>match e with
    | .normal=>mX k a' s' λa' s'=>yh k j nf I a' s'
    | e=>K e a' s')∧∀t,I t→wpA y (body t) (nf t).st K
  | .join2 j nf I a body=>match y with
   | .seq y z=>(wpA x a s λe a' s'=>match e with
     | .normal=>wpA y a' s' λe a' s'=>match e with
      | .normal=>mX k a' s' λa' s'=>yh k j nf I a' s'
      | e=>K e a' s'
     | e=>K e a' s')∧∀t,I t→wpA z (body t) (nf t).st K
   | _=>False
  | .hand k0 cs m1 bs s2 c _ a=>KY k cs s λs=>nfP k s m1 bs (cond (Nat.beq k k0) (x=c∧wpA y a s2 K) False)
  | .hand2 k0 s1 s2 c _ a=>cond (Nat.beq k k0) (s=s1∧x=c∧wpA y a s2 K) False
  | .handQ k0 m1 bs s2 c p _ a=>nfP k s m1 bs (cond (Nat.beq k k0) (x=c∧p∧wpA y a s2 K) False)
  | a=>wpA x a s λe a' s'=>match e with
   | .normal=>wpA y a' s' K
   | e=>K e a' s'
 | .cond c x y,a,s,K=>pre k a s λa s=>match evO s.tm c with
  | .val (.bool b)=>cond b (wpA x (a.l s.nx) ⟨Jt c true s.tm,s.hp,s.nx⟩ K) (wpA y (a.r s.nx) ⟨Jt c false s.tm,s.hp,s.nx⟩ K)
  | _=>False
 | .block id x,a,s,K=>wpA x a s λe a' s'=>match e with
  | .exit i=>cond (Nat.beq i id) (K .normal a' s') (K (.exit i) a' s')
  | e=>K e a' s'
 | .loop x,a,s,K=>mX k a s λa s=>match a with
  | .loop j nf I mu s0 bs body=>nfP k s (nf s0) bs (I s0)∧∀t,I t→wpA x (body t) (nf t).st λe a' s'=>match e with
   | .normal=>mX k a' s' λa' s'=>yh k j nf (λt'=>I t'∧mu t'<mu t) a' s'
   | e=>K e a' s'
  | .unr m a=>RC (λa s K=>wpA x a s K) m a s K
  | _=>False
 | .exit id,a,s,K=>K (.exit id) a s
 | .ret,a,s,K=>K .ret a s
 | .scope x,a,s,K=>wpA x a s K
 | .label,a,s,K=>K .normal a s
 | .bad,_,_,_=>False
end
section
variable {P : Program} {Sf : Nat → Type} {T : Type} {k n : Nat}
theorem tF{K:An P Sf T→S3→Prop}:∀{a:An P Sf T} {s:S3},pre k a s K→∃a' s',aD k n s s'∧K a' s'
 | .cmd c a,s,h=>by
  rw[pre]at h;obtain⟨s',h1,h2⟩:=oK (n:=n) h;obtain⟨a',s2,h3,h4⟩:=tF h2;exact⟨a',s2,h1.trans h3,h4⟩
 | .wait a,s,h=>⟨a,s,aD.refl,by rw[pre]at h;exact h⟩
 | .cmdL _ _,s,h|.nil,s,h|.pass _,s,h|.br _ _ _,s,h|.el _ _ _ _,s,h|.elA _ _ _ _ _ _ _,s,h|.st _ _ _ _ _,s,h|.stI _ _ _ _,s,h|.app _ _ _ _ _,s,h|.appF _ _ _ _ _,s,h|.sub _ _ _ _ _,s,h|.rep _ _ _ _,s,h|.own _ _,s,h|.mn _ _ _,s,h|.req _ _ _,s,h|.callP _ _,s,h|.callH _ _ _,s,h|.callA _ _ _,s,h
 | .loop _ _ _ _ _ _ _,s,h|.join _ _ _ _ _,s,h|.join2 _ _ _ _ _,s,h|.back _ _ _,s,h|.hand _ _ _ _ _ _ _ _,s,h|.hand2 _ _ _ _ _ _,s,h|.handQ _ _ _ _ _ _ _ _,s,h|.unr _ _,s,h|.ret _,s,h|.retH _ _ _,s,h=>⟨_,s,aD.refl,h⟩
theorem gK{K:An P Sf T→S3→Prop}:∀{a:An P Sf T} {s:S3},mX k a s K→∃a' s',aD k n s s'∧K a' s'
 | .cmd c a,s,h=>by
  rw[mX]at h;obtain⟨s',h1,h2⟩:=oK (n:=n) h;obtain⟨a',s2,h3,h4⟩:=gK h2;exact⟨a',s2,h1.trans h3,h4⟩
 | .cmdL c a,s,h=>by
  rw[mX]at h;obtain⟨s',h1,h2⟩:=oK (n:=n) h;obtain⟨a',s2,h3,h4⟩:=gK h2;exact⟨a',s2,h1.trans h3,h4⟩
 | .wait _,s,h|.nil,s,h|.pass _,s,h|.br _ _ _,s,h|.el _ _ _ _,s,h|.elA _ _ _ _ _ _ _,s,h|.st _ _ _ _ _,s,h|.stI _ _ _ _,s,h|.app _ _ _ _ _,s,h|.appF _ _ _ _ _,s,h|.sub _ _ _ _ _,s,h|.rep _ _ _ _,s,h|.own _ _,s,h|.mn _ _ _,s,h|.req _ _ _,s,h|.callP _ _,s,h|.callH _ _ _,s,h|.callA _ _ _,s,h
 | .loop _ _ _ _ _ _ _,s,h|.join _ _ _ _ _,s,h|.join2 _ _ _ _ _,s,h|.back _ _ _,s,h|.hand _ _ _ _ _ _ _ _,s,h|.hand2 _ _ _ _ _ _,s,h|.handQ _ _ _ _ _ _ _ _,s,h|.unr _ _,s,h|.ret _,s,h|.retH _ _ _,s,h=>⟨_,s,aD.refl,h⟩
theorem qH{j:Nat}{nf:Sf j→NF}{R:Sf j→Prop}{a:An P Sf T}{s:S3}(h:yh k j nf R a s):∃t,R t∧aD k n s (nf t).st:=by
 unfold yh at h
 split at h
 ·rename_i j' t bs
  by_cases e:j'=j
  ·subst e;rw[dif_pos rfl]at h;obtain⟨h1,h2⟩:=p8 (n:=n) h;exact⟨_,h2,h1⟩
  ·rw[dif_neg e]at h;exact h.elim
 ·exact h.elim
theorem Dc{c:AO}{b:Bool}{tm:Nat→AV}(h:evO tm c=.val (.bool b)):Jt c b tm=tm:=by
 cases c with
 | t t=>exact eH h
 | c x=>rfl
theorem db:∀{c:AC} {a:An P Sf T} {s:S3} {K:KX P Sf T} {Q:X→S3→Prop},wpA k c a s K→(∀e a' s',K e a' s'→Q e s')→AWP P k n c Q s
 | .skip,a,s,K,Q,h,hq=>AWP.skip (hq _ _ _ h)
 | .reg ops,a,s,K,Q,h,hq=>by
  obtain⟨a',s',h1,h2⟩:=tF (n:=n) h;refine AWP.weak h1 (AWP.reg ?_);exact iK (λa'' s'' f hk=>hq _ _ _ hk) h2
 | .dreg ops par,a,s,K,Q,h,hq=>by
  obtain⟨a',s',h1,h2⟩:=tF (n:=n) h;refine AWP.weak h1 (AWP.dreg ?_);refine lO (λa'' s'' f lg hk=>?_) h2;obtain⟨g1,g2⟩:=au hk;exact⟨g1,hq _ _ _ g2⟩
 | .seq x y,a,s,K,Q,h,hq=>by
  have plain:∀{a:An P Sf T},(wpA k x a s λe a' s'=>match e with
    | .normal=>wpA k y a' s' K
    | e=>K e a' s')→AWP P k n (.seq x y) Q s:=by
   intro a h;refine AWP.seq (db h λe a' s' hk=>?_);cases e with
   | normal=>exact db hk hq
   | exit id=>exact hq _ _ _ hk
   | ret=>exact hq _ _ _ hk
  rw[wpA.eq_def]at h;simp only at h
  split at h
  ·exact plain h
  ·rename_i j nf I a body;obtain⟨h1,h2⟩:=h;refine AWP.seq (db h1 λe a' s' hk=>?_);cases e with
   | normal =>
    obtain⟨a2,s2,g1,g2⟩:=gK (n:=n) hk;obtain⟨t,g3,g4⟩:=qH (n:=n) g2;exact AWP.weak (g1.trans g4) (db (h2 t g3) hq)
   | exit id=>exact hq _ _ _ hk
   | ret=>exact hq _ _ _ hk
  ·rename_i j nf I a body
   split at h
   ·rename_i y z;obtain⟨h1,h2⟩:=h;refine AWP.seq (db h1 λe a' s' hk=>?_);cases e with
    | normal =>
     refine AWP.seq (db hk λe a' s' hk=>?_);cases e with
     | normal =>
      obtain⟨a2,s2,g1,g2⟩:=gK (n:=n) hk;obtain⟨t,g3,g4⟩:=qH (n:=n) g2;exact AWP.weak (g1.trans g4) (db (h2 t g3) hq)
     | exit id=>exact hq _ _ _ hk
     | ret=>exact hq _ _ _ hk
    | exit id=>exact hq _ _ _ hk
    | ret=>exact hq _ _ _ hk
   ·exact h.elim
  ·rename_i k0 cs m1 bs s2 c hc a;obtain⟨s',h0,h⟩:=xM (n:=n) h;obtain⟨h1,q1⟩:=p8 (n:=n) h;obtain⟨h2,q2⟩:=au q1;clear q1 h;obtain⟨rfl,q3⟩:=q2;have h2:=M' h2;subst h2;refine AWP.weak (h0.trans h1) (AWP.seq (AWP.mono (hc n) λe s' he=>?_));cases e with
   | normal=>exact AWP.weak he (db q3 hq)
   | exit id=>exact he.elim
   | ret=>exact he.elim
  ·rename_i k0 s1 s2 c hc a;obtain⟨h2,q2⟩:=au h;clear h;obtain⟨rfl,rfl,q3⟩:=q2;have h2:=M' h2;subst h2;refine AWP.seq (AWP.mono (hc n) λe s' he=>?_);cases e with
   | normal=>exact AWP.weak he (db q3 hq)
   | exit id=>exact he.elim
   | ret=>exact he.elim
  ·rename_i k0 m1 bs s2 c p hc a;obtain⟨h1,q1⟩:=p8 (n:=n) h;obtain⟨h2,q2⟩:=au q1;clear q1 h;obtain⟨rfl,hp,q3⟩:=q2;have h2:=M' h2;subst h2;refine AWP.weak h1 (AWP.seq (AWP.mono (hc hp n) λe s' he=>?_));cases e with
   | normal=>exact AWP.weak he (db q3 hq)
   | exit id=>exact he.elim
   | ret=>exact he.elim
  ·exact plain h
 | .cond c x y,a,s,K,Q,h,hq=>by
  obtain⟨a',s',h1,h2⟩:=tF (n:=n) h;refine AWP.weak h1 ?_
  split at h2
  ·rename_i b e
   refine AWP.cond e (λhb=>?_) (λhb=>?_)
   ·subst hb;have h2:wpA k x (a'.l s'.nx) ⟨Jt c true s'.tm,s'.hp,s'.nx⟩ K:=h2;rw[Dc e]at h2;exact db h2 hq
   ·subst hb;have h2:wpA k y (a'.r s'.nx) ⟨Jt c false s'.tm,s'.hp,s'.nx⟩ K:=h2;rw[Dc e]at h2;exact db h2 hq
  ·exact h2.elim
 | .block id x,a,s,K,Q,h,hq=>by
  refine AWP.block (db h λe a' s' hk=>?_);cases e with
  | normal=>exact hq _ _ _ hk
  | exit i =>
   have hk:cond (Nat.beq i id) (K .normal a' s') (K (.exit i) a' s'):=hk;show if i=id then Q .normal s' else Q (.exit i) s'
   cases e:Nat.beq i id with
   | true=>rw[e]at hk;rw[if_pos (M' e)];exact hq _ _ _ hk
   | false=>rw[e]at hk;rw[u' (λe'=>by subst e';simp at e)];exact hq _ _ _ hk
  | ret=>exact hq _ _ _ hk
 | .loop x,a,s,K,Q,h,hq=>by
  obtain⟨a',s',h1,h2⟩:=gK (n:=n) h;refine AWP.weak h1 ?_
  split at h2
  ·rename_i j nf I mu s0 bs body;obtain⟨h2,h3⟩:=h2;obtain⟨h4,h5⟩:=p8 (n:=n) h2;refine AWP.loopS (σ:=Sf j) (λt=>(nf t).st) I mu h5 h4 λt ht=>db (h3 t ht) λe a' s' hk=>?_;cases e with
   | normal =>
    obtain⟨a2,s2,g1,g2⟩:=gK (n:=n) hk;obtain⟨t',⟨g3,g4⟩,g5⟩:=qH (n:=n) g2;exact⟨t',g3,g4,g1.trans g5⟩
   | exit id=>exact hq _ _ _ hk
   | ret=>exact hq _ _ _ hk
  ·rename_i m a2;refine AWP.loop (λm s=>∃a,RC (λa s K=>wpA k x a s K) m a s K) (m:=m) ⟨_,aD.refl,_,h2⟩ λm s hI=>?_;obtain⟨a3,h3⟩:=hI;cases m with
   | zero=>exact h3.elim
   | succ m =>
    refine db h3 λe a' s' hk=>?_;cases e with
    | normal=>exact⟨m,s',Nat.lt_succ_self m,aD.refl,a',hk⟩
    | exit id=>exact hq _ _ _ hk
    | ret=>exact hq _ _ _ hk
  ·exact h2.elim
 | .exit id,a,s,K,Q,h,hq=>AWP.exit (hq _ _ _ h)
 | .ret,a,s,K,Q,h,hq=>AWP.ret (hq _ _ _ h)
 | .scope x,a,s,K,Q,h,hq=>AWP.scope (db h hq)
 | .label,a,s,K,Q,h,hq=>AWP.label (hq _ _ _ h)
 | .bad,_,_,_,_,h,_=>h.elim
end
end Go.Am
namespace Go.Am
def finS(k n:Nat)(res:List AR)(r:AV)(h':List (Option Blk)):X→S3→Prop
 | .exit _,_=>False
 | _,s=>∃s',aD k n s s'∧(∃xs,kM s' res=some xs∧Sub (o4 xs) r)∧∀b x,bn h' b=some x→s'.hp b=some x
theorem ba.introS{P:Program}{f:FuncId}{fn:Func}{af:AF}{args:List AV}{h:List Blk}{r:AV}{h':List (Option Blk)}(hf:P.funcs[f]?=some fn)(hc:jB P fn=some af)(hn:args.length≤af.n)
    (hw:AWP P h.length af.n af.body (finS h.length af.n af.res r h') (zO af.n args h)):ba P f args h r h':=by
  intro w A μ cargs hH hmu hargs;unfold jB at hc;split at hc
  case h_1=>cases hc
  rename_i body hb;split at hc
  case h_1=>cases hc
  rename_i rs hrs;cases hc;simp only at hw hn;have hl:=hargs.length
  let c:Ctx:=⟨w,ce μ (bn (h.map some)),A,μ⟩
  refine calls_of_wp hf hb ?_;have H0:Rel P h.length c fn.ntmps (zO fn.ntmps args h) { tmps:=cargs.toArray++Array.replicate (fn.ntmps-cargs.toArray.size) undef,defers:=[] } w:=by
    refine⟨hmu,A,μ,λt=>?_,?_,rfl,λb x hx=>?_,hH.inj,hH.lt,λb hb=>⟨hmu b hb,?_⟩,⟨rfl,rfl,rfl,V' _,λ_ _ _=>rfl⟩,λ_ h=>h,λ_ h=>.inl h,bo.refl _⟩
    · show RV w A (args.getD t .unk) μ _
      by_cases ht:t<args.length
      · have e1:args[t]?=some (args.getD t .unk):=by simp[List.getD,E' ht]
        obtain⟨v,e2,e3⟩:=hargs.get e1;have:(cargs.toArray++Array.replicate (fn.ntmps-cargs.toArray.size) undef).getD t undef=v:=by
          have hlt:t<cargs.length:=by omega
          have hv:cargs[t]=v:=by rw[E' hlt]at e2;exact ao' e2
          rw[bB',bX' (by simpa using hlt)];simp[hlt,hv]
        rw[this];exact e3
      · have:args.getD t .unk=.unk:=by simp[List.getD,av' (Nat.le_of_not_lt ht)]
        rw[this];trivial
    · simp;omega
    · obtain⟨hd,e1,e2,e3⟩:=hH.blk b x hx
      exact⟨hd,e1,e2,λhe=>⟨(e3 he).1,(e3 he).2,.inl ⟨b,x,hd,hx,e1,he,rfl⟩⟩⟩
    · show bn (h.map some) b=none
      have hb':h.length≤b:=hb;simp[bn,av',hb']
  refine wp_mono (hw _ rfl c _ w H0) ?_
  have fin:∀(s:S3) (a':Act) (w':World),(∃s',aD h.length fn.ntmps s s'∧(∃xs,kM s' rs=some xs∧Sub (o4 xs) r)∧∀b x,bn h' b=some x→s'.hp b=some x)→Rel P h.length c fn.ntmps s a' w' →
      a'.defers=[]∧∃v,(results fn a'.tmps).run P w'=.ok v w'∧(λe w'=>∃v A' μ',e=Ending.returned v∧RV w' A' r μ' v∧jK P w' A' μ' (bn h')∧bo μ μ'∧Ext (ce μ (bn (h.map some))) w w' ∧
        (∀b,A b→A' b)∧(∀b,A' b→A b∨ce μ (bn (h.map some)) b∨w.heap.size≤b)∧(∀b,ce μ' (bn h') b→ce μ (bn (h.map some)) b∨w.heap.size≤b)) (.returned v) w':=by
    rintro s a' w' ⟨s',hwk,⟨xs,hxs,hpk⟩,hsub⟩ hr;obtain⟨h0,A',μ',H⟩:=hwk P c a' w' hr;obtain⟨v,e1,e2⟩:=nQ H hrs hxs;have e2:=hpk _ _ _ _ e2
    refine⟨H.df,v,e1,v,A',μ',rfl,e2,?_,H.mu,?_,H.A0,H.A1,?_⟩
    · refine⟨λb x hx=>?_,λb b' x x' hd hd' hx hx'=>H.inj b b' x x' hd hd' (hsub b x hx) (hsub b' x' hx'),H.lt⟩
      obtain⟨hd,g1,g2,g3⟩:=H.blk b x (hsub b x hx);exact⟨hd,g1,g2,λhe=>⟨(g3 he).1,(g3 he).2.1⟩⟩
    · exact⟨H.keep.os,H.keep.tape,H.keep.output,H.keep.size,H.keep.block⟩
    · rintro b ⟨b',x,hd,hx,hm,he,rfl⟩
      obtain⟨hd',g1,g2,g3⟩:=H.blk b' x (hsub b' x hx);rw[hm]at g1;cases g1;exact(g3 he).2.2
  intro e a' w' hq;cases e with
  | normal=>obtain⟨s,h1,h2⟩:=hq;exact fin s a' w' h1 h2
  | ret=>obtain⟨s,h1,h2⟩:=hq;exact fin s a' w' h1 h2
  | exit id=>obtain⟨s,h1,h2⟩:=hq;exact h1.elim
  | _=>exact hq.elim
section
variable {P : Program} {Sf : Nat → Type} {T : Type}
def endP(res:List AR)(sh:Sh)(enc:T→AV)(r0:T):KX P Sf T
 | .exit _,_,_=>False
 | _,a,s=>mX 0 a s λa s=>match a with
  | .ret r=>match kM s res with
   | some xs=>bg sh (o4 xs)=enc r∧r=r0
   | none=>False
  | _=>False
def endH(k:Nat)(res:List AR)(sh:Sh)(enc:T→AV)(hB:T→List (Option Blk))(r0:T):KX P Sf T
 | .exit _,_,_=>False
 | _,a,s=>mX k a s λa s=>match a with
  | .retH r m bs=>nfP k s m bs (match kM m.st res with
   | some xs=>bg sh (o4 xs)=enc r∧(m.hs.map PB.blk).take (hB r).length=hB r∧r=r0
   | none=>False)
  | _=>False
def Aw(P:Program)(f:FuncId):Option AF:=(P.funcs[f]?).bind (jB P)
def mxP(P:Program)(f:FuncId)(args:List AV)(sh:Sh)(enc:T→AV)(a:An P Sf T)(r0:T):Prop:=
 match Aw P f with
 | some af=>cond (Nat.ble args.length af.n) (wpA 0 af.body a ⟨jy args 0,λ_=>none,0⟩ (endP af.res sh enc r0)) False
 | none=>False
def mxH(P:Program)(f:FuncId)(args:List AV)(h:List Blk)(sh:Sh)(enc:T→AV)(hB:T→List (Option Blk))(a:An P Sf T)(r0:T):Prop:=
 match Aw P f with
 | some af=>cond (Nat.ble args.length af.n) (wpA h.length af.body a ⟨jy args 0,kB h 0,h.length⟩ (endH h.length af.res sh enc hB r0)) False
 | none=>False
theorem oc{f:FuncId}{af:AF}(h:Aw P f=some af):∃fn,P.funcs[f]?=some fn∧jB P fn=some af:=bx'.mp h
theorem S1{f:FuncId}{args:List AV}{sh:Sh}{enc:T→AV}{a:An P Sf T}{r0:T}(h:mxP P f args sh enc a r0)(hp:(enc r0).pure):eO P f args (enc r0):=by
 unfold mxP at h
 split at h
 ·rename_i af e;obtain⟨fn,e1,e2⟩:=oc e;obtain⟨h1,h⟩:=au h;refine ba.pure (ba.introS e1 e2 (U' h1) (h:=[]) (h':=[]) ?_) hp;rw[tZ];refine db h λe a' s' hk=>?_
  have fin:∀{a:An P Sf T} {s:S3},(mX 0 a s λa s=>match a with
    | .ret r=>match kM s af.res with
     | some xs=>bg sh (o4 xs)=enc r∧r=r0
     | none=>False
    | _=>False)→∃s',aD 0 af.n s s'∧(∃xs,kM s' af.res=some xs∧Sub (o4 xs) (enc r0))∧∀b x,bn [] b=some x→s'.hp b=some x:=by
   intro a s h;obtain⟨a2,s2,g1,g2⟩:=gK (n:=af.n) h
   split at g2
   ·split at g2
    ·rename_i xs ex;obtain⟨g3,rfl⟩:=g2;exact⟨s2,g1,⟨xs,ex,g3 ▸ dE _ _⟩,λb x hx=>by simp[bn]at hx⟩
    ·exact g2.elim
   ·exact g2.elim
  cases e with
  | normal=>exact fin hk
  | exit id=>exact hk.elim
  | ret=>exact fin hk
 ·exact h.elim
theorem IN{f:FuncId}{args:List AV}{hs:List Blk}{sh:Sh}{enc:T→AV}{hB:T→List (Option Blk)}{a:An P Sf T}{r0:T}(h:mxH P f args hs sh enc hB a r0):ba P f args hs (enc r0) (hB r0):=by
 unfold mxH at h
 split at h
 ·rename_i af e;obtain⟨fn,e1,e2⟩:=oc e;obtain⟨h1,h⟩:=au h;refine ba.introS e1 e2 (U' h1) ?_;rw[tZ];refine db h λe a' s' hk=>?_
  have fin:∀{a:An P Sf T} {s:S3},(mX hs.length a s λa s=>match a with
    | .retH r m bs=>nfP hs.length s m bs (match kM m.st af.res with
     | some xs=>bg sh (o4 xs)=enc r∧(m.hs.map PB.blk).take (hB r).length=hB r∧r=r0
     | none=>False)
    | _=>False)→∃s',aD hs.length af.n s s'∧(∃xs,kM s' af.res=some xs∧Sub (o4 xs) (enc r0))∧∀b x,bn (hB r0) b=some x→s'.hp b=some x:=by
   intro a s h;obtain⟨a2,s2,g1,g2⟩:=gK (n:=af.n) h
   split at g2
   ·rename_i r m bs;obtain⟨g3,g2⟩:=p8 (n:=af.n) g2
    split at g2
    ·rename_i xs ex;obtain⟨g4,g5,rfl⟩:=g2;refine⟨m.st,g1.trans g3,⟨xs,ex,g4 ▸ dE _ _⟩,λb x hx=>?_⟩;rw[show m.st.hp=bn (m.hs.map PB.blk)from(mj _).symm];have hx:=bp.mp hx;rw[←g5]at hx;refine bp.mpr ?_;rw[am']at hx
     split at hx
     ·exact hx
     ·cases hx
    ·exact g2.elim
   ·exact g2.elim
  cases e with
  | normal=>exact fin hk
  | exit id=>exact hk.elim
  | ret=>exact fin hk
 ·exact h.elim
end
def ck(b:Bool)(R:Prop):Prop:=cond b R False
def br(b:Bool)(X Y:Prop):Prop:=cond b X Y
def Cl{P:Program}(c:PC P)(R:Prop):Prop:=c.args=c.args∧R
def Ch{P:Program}(c:HC P)(bs:List Nat)(f:Nat)(R:Prop):Prop:=dh (bj bs f) c.args=dh (bj bs f) c.args∧(c.h.map λx=>some (js (bj bs f) x))=(c.h.map λx=>some (js (bj bs f) x))∧R
def Rf{α:Type}(x:α)(R:Prop):Prop:=x=x∧R
def Bk{σ:Type}(n:σ→NF)(bs:List Nat)(I:σ→Prop)(m:σ→Nat)(x t:σ):Prop:=Nf (n x) bs (I x∧m x<m t)
def Be{σ:Type}(n:σ→NF)(bs:List Nat)(I:σ→Prop)(x:σ):Prop:=Nf (n x) bs (I x)
def Bj{σ:Type}(n:σ→NF)(bs:List Nat)(x:σ):Prop:=Nf (n x) bs (x=x)
def Rp{T:Type}(e:T→AV)(r r0:T):Prop:=Rf (e r) (r=r0)
def Qt{T:Type}(m:NF)(bs:List Nat)(e:T→AV)(b:T→List (Option Blk))(r r0:T):Prop:=Nf m bs (Rf (e r) (Rf (b r) (r=r0)))
def B(l:List UInt8):ByteArray:=⟨l.toArray⟩
def MN.say:MN→Prop→Prop
 | .get _ kf _ vf l x z,R=>(l.map λp=>kf p.1)=(l.map λp=>kf p.1)∧(l.map λp=>vf p.2)=(l.map λp=>vf p.2)∧kf x=kf x∧vf z=vf z∧R
 | .put _ kf _ vf l x v,R=>(l.map λp=>kf p.1)=(l.map λp=>kf p.1)∧(l.map λp=>vf p.2)=(l.map λp=>vf p.2)∧kf x=kf x∧vf v=vf v∧R
 | .del _ kf _ vf l x,R=>(l.map λp=>kf p.1)=(l.map λp=>kf p.1)∧(l.map λp=>vf p.2)=(l.map λp=>vf p.2)∧kf x=kf x∧R
 | .getB _ _ kf _ vf l x _,R=>(l.map λp=>kf p.1)=(l.map λp=>kf p.1)∧(l.map λp=>vf p.2)=(l.map λp=>vf p.2)∧kf x=kf x∧R
theorem MN.say_iff{q:MN}{R:Prop}:q.say R↔R:=by cases q<;>simp[MN.say]
theorem T2{b:Bool}{R:Prop}:ck b R↔b=true∧R:=by cases b<;>simp[ck]
theorem TB{b:Bool}{X Y:Prop}:br b X Y↔(b=true→X)∧(b=false→Y):=by cases b<;>simp[br]
theorem Un{P:Program}{c:PC P}{R:Prop}:Cl c R↔R:=⟨λh=>h.2,λh=>⟨rfl,h⟩⟩
theorem Uo{P:Program}{c:HC P}{bs:List Nat}{f:Nat}{R:Prop}:Ch c bs f R↔R:=⟨λh=>h.2.2,λh=>⟨rfl,rfl,h⟩⟩
theorem uJ{α:Type}{x:α}{R:Prop}:Rf x R↔R:=⟨λh=>h.2,λh=>⟨rfl,h⟩⟩
theorem Up{σ:Type}{n:σ→NF}{bs:List Nat}{I:σ→Prop}{m:σ→Nat}{x t:σ}:Bk n bs I m x t↔I x∧m x<m t:=qM
theorem Ur{σ:Type}{n:σ→NF}{bs:List Nat}{I:σ→Prop}{x:σ}:Be n bs I x↔I x:=qM
theorem Uq{σ:Type}{n:σ→NF}{bs:List Nat}{x:σ}:Bj n bs x↔True:=⟨λ_=>trivial,λ_=>qM.mpr rfl⟩
theorem Ua{T:Type}{e:T→AV}{r r0:T}:Rp e r r0↔r=r0:=uJ
theorem Ud{T:Type}{m:NF}{bs:List Nat}{e:T→AV}{b:T→List (Option Blk)}{r r0:T}:Qt m bs e b r r0↔r=r0:=qM.trans (uJ.trans uJ)
def Idt(l:List AV)(R:Prop):Prop:=l=(l.map λy=>y)∧R
def Ui{α:Type}(sh:Sh)(v:α→AV)(l xs:List α)(ys:List AV):Prop:=(((l.map v)++ys).map λy=>y).map (bg sh)=(l++xs).map v
theorem oE(l:List AV):l.map (λy=>y)=l:=cr' (λ_=>rfl) l
theorem Qz{l:List AV}{R:Prop}:Idt l R↔R:=⟨λh=>h.2,λh=>⟨(oE l).symm,h⟩⟩
theorem Kw{α:Type}{sh:Sh}{v:α→AV}{l xs:List α}{ys:List AV}(h:∀x,bg sh (v x)=v x)(h2:ys.map (bg sh)=xs.map v):Ui sh v l xs ys:=by
 unfold Ui;rw[oE,List.map_append,List.map_append,h2,aV'];exact congrArg (·++_) (aF' λy _=>h y)
def Q1{α:Type}(sh:Sh)(v:α→AV)(n:Nat)(z:AV)(x:α):Prop:=((List.replicate n z).map λy=>y).map (bg sh)=(List.replicate n x).map v
theorem D7{α:Type}{sh:Sh}{v:α→AV}{n:Nat}{z:AV}{x:α}(h:bg sh z=v x):Q1 sh v n z x:=by
 unfold Q1;rw[oE,cg',cg',h]
theorem S4{P:Program}{Sf:Nat→Type}{T:Type}{f:FuncId}{args:List AV}{sh:Sh}{enc:T→AV}{a:An P Sf T}{r0:T}{V:Prop}(h:V)(e:mxP P f args sh enc a r0=V)(hp:(enc r0).pure):eO P f args (enc r0):=by
 subst e;exact S1 h hp
theorem IP{P:Program}{Sf:Nat→Type}{T:Type}{f:FuncId}{args:List AV}{hs:List Blk}{sh:Sh}{enc:T→AV}{hB:T→List (Option Blk)}{a:An P Sf T}{r0:T}{V:Prop}(h:V)(e:mxH P f args hs sh enc hB a r0=V):ba P f args hs (enc r0) (hB r0):=by
 subst e;exact IN h
attribute [irreducible] mxP mxH
abbrev W:=IntKind.i64.wrap
theorem ci{n:Int}(h:-9223372036854775808≤n∧n≤9223372036854775807):W n=n:=Ge h
theorem ifb{p q:Prop}[Decidable p]:(decide p=true→q)↔(p→q):=by simp
theorem ifn{p q:Prop}[Decidable p]:(decide p=false→q)↔(¬p→q):=by simp
def fnB (P : Program) (f : FuncId) : Bool := match P.funcs[f]? with
  | some fn => fn.body.isSome && !(fn.name == "runtime.NumGoroutine")
  | none => false
theorem iQ{P:Program}{f:FuncId}(h:fnB P f=true):mG P f:=by
 unfold fnB at h
 split at h
 ·rename_i fn e;simp only[aK',bd']at h;exact⟨fn,e,h.1,h.2⟩
 ·cases h
theorem cm:maxLen=9223372036854775807:=rfl
theorem SH(n:Int):inK .i64 n↔-9223372036854775808≤n∧n≤9223372036854775807:=Iff.rfl
theorem al{α:Type}{l:List α}{i:Nat}{x:α}(h:l[i]?=some x):l.take (i+1)=l.take i++[x]:=by rw[List.take_add_one,h];rfl
theorem av{α:Type}{l:List α}{i:Nat}{x:α}(h:l[i]?=some x):i<l.length:=(I'.mp h).1
theorem ax{α:Type}{l:List α}{i:Nat}{x:α}(h:l[i]?=some x):x∈l:=ak' h
set_option linter.defProp false
def okU:=F' @okL.eq_1 (F' @okL.eq_2 (F' @AV.ok.eq_1 (F' @AV.ok.eq_2 (F' @AV.ok.eq_3 (F' @AV.ok.eq_4 (F' @AV.ok.eq_5 (F' @AV.ok.eq_6 (F' @SH (F' @and_true (F' @true_and cm))))))))))
def Q0{α:Type}(v:α→AV)(l:List α)(x:α)(le:List AV)(y:AV):Prop:=((le++[y]).map λy=>y)=((l++[x]).map v).set l.length y
def QB{α:Type}(l:List α)(x:α):List α:=(l++[x]).set l.length x
theorem Hk{α:Type}(l:List α)(x:α):QB l x=l++[x]:=by
 unfold QB;rw[bK' _ _ (V' _)];simp
theorem Pp{α:Type}{v:α→AV}{l:List α}{x:α}{y:AV}:Q0 v l x (l.map v) y:=by
 unfold Q0;rw[oE,List.map_append,bK' _ _ (by simp)];simp
theorem Kr{α:Type}{v:α→AV}{l:List α}{x:α}{y:AV}:Q0 v l x (l.map v) y↔True:=⟨λ_=>trivial,λ_=>Pp⟩
theorem Kq{α:Type}{v:α→AV}{x:α}{y:AV}:Q0 v [] x [] y↔True:=⟨λ_=>trivial,λ_=>rfl⟩
def B8(l:List Int):ByteArray:=⟨(l.map λx=>UInt8.ofNat x.toNat).toArray⟩
theorem sN:∀l:List Int,cG (l.map λx=>AV.val (.int .u8 x))=some (l.map λx=>UInt8.ofNat x.toNat)
 | []=>rfl
 | x::l=>by
  show(cG (l.map λx=>AV.val (.int .u8 x))).map (UInt8.ofNat x.toNat::·)=_
  rw[sN l];rfl
theorem N8{l:List Int}:SbB (l.map λx=>AV.val (.int .u8 x)) (AV.str (B8 l))↔True:=⟨λ_=>trivial,λ_=>⟨_,sN l,rfl⟩⟩
def vcU:=F' @MN.say_iff <| F' @TB (F' @T2 (F' @Un (F' @Uo (F' @qM (F' @Up (F' @Ur (F' @Uq (F' @Ua (F' @Ud (F' @ifb (F' @ifn (F' @decide_eq_true_eq (F' @decide_eq_false_iff_not (F' @aK' @bW'))))))))))))))
def rfU:=F' @uJ (F' @Qz (F' @Kr (F' @Kq (F' @Hk @N8))))
end Go.Am
