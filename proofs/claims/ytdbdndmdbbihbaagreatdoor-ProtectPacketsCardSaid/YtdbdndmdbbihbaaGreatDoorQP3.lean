/- Texts joined: Rd Mx1 Mx2 Mx3 Mx4 Mx5. -/
import Derived.ChangeArms
import Derived.ChangeSlices
import Derived.ChangeSame
import Derived.ChangeShapes
import Derived.WideShapes
import Derived.RowKit
import Derived.ChangeMaps5
import Derived.KernelRfl
import Derived.Test.YtdbdndmdbbihbaaGreatDoorQP2
set_option linter.unusedVariables false
set_option linter.unusedSimpArgs false
set_option linter.unusedSectionVars false
namespace Go.Am
open Go.ChangeShapes Go.WideShapes Go.RowKit
section
variable {P : Program} {H : Type} {enc : TypeId × Value → H} {w : World} {base : Nat} {held : Bool} {fuel : Nat} {cs : List Value} {x : DataW H × List MemPlace}
inductive du (B:Nat) {H:Type}:DataW H→Prop where
  | lit (l:Lit):du B (.lit l)
  | nil:du B .nil
  | slice (es sp:List (DataW H)):es.length≤B→(∀d∈es,du B d)→du B (.slice es sp)
  | agg (ps:List (DataW H)):(∀d∈ps,du B d)→du B (.agg ps)
  | ptr (d:DataW H):du B (.ptr d)
  | iface (t:_) (d:_):du B (.iface t d)
  | map (e:_):du B (.map e)
  | held (h:_):du B (.held h)
theorem F4{t e:TypeId}{k:Nat}(hk:0<k)(ht:P.underlying t=some (.slice e))(hc:P.cellsOf e=k){α:Type}(f:α→AV){B:Nat}{q:α→Prop}
  (hsol:∀a,(f a).solid=true)
  (he:∀(n:Nat) (cs:List Value) (y:DataW H×List MemPlace),DataW.trod enc P w base (λ_=>true) held n e cs=some y→cs.length=k→∃(a:α) (v:Value),v.cells.toList=cs∧bY v∧RV w (Old w) (f a) cX v∧(du B y.1→q a))
  (h:DataW.trod enc P w base (λ_=>true) held fuel t cs=some x):∃(l:List α),RVL w (Old w) [.sl k (l.map f) false] cX cs∧(du B x.1→l.length≤B∧∀a∈l,q a):=by
 rcases DataW.trod_slice ht h with⟨rfl,_⟩|⟨a,len,cap,elems,rest,n,_,rfl,rfl,hb,hl,hm,hlen,hel,hsp,hns⟩
 ·exact⟨[],⟨_,_,rfl,.inl ⟨rfl,_,rfl⟩,rfl⟩,λ_=>⟨by simp,λa ha=>by simp at ha⟩⟩
 by_cases h0:cap=0
 ·subst h0
  have:len=0:=by omega
  subst this
  exact⟨[],⟨_,_,rfl,.inl ⟨rfl,_,rfl⟩,rfl⟩,λ_=>⟨by simp,λa ha=>by simp at ha⟩⟩
 obtain⟨hrl,hr⟩:=hsp rfl
 -- the first cell
 have hfirst:∃v,w.cell? a=some v:=by
  have h1:∃cs',w.cells? base (a.add (0 * k)) k=some cs':=by
   by_cases hz:0<len
   ·have h1:=hel 0 hz
    rw[hc,List.getElem?_eq_getElem (show 0<elems.length by omega),Option.bind_eq_some_iff]at h1
    obtain⟨cs',h2,_⟩:=h1
    exact⟨cs',h2⟩
   ·have h1:=hr 0 (by omega)
    rw[hc,List.getElem?_eq_getElem (show 0<rest.length by omega),Option.bind_eq_some_iff]at h1
    obtain⟨cs',h2,_⟩:=h1
    exact⟨cs',by rw[show len+0=0 by omega]at h2;exact h2⟩
  obtain⟨cs',h2⟩:=h1
  obtain⟨_,h3,h4⟩:=World.cells?_some h2
  have h5:=h4 0 hk
  rw[List.getElem?_eq_getElem (show 0<cs'.length by omega)]at h5
  refine⟨_,by rw[←h5];congr 1;simp[Addr.add]⟩
 obtain⟨v0,hv0⟩:=hfirst
 obtain⟨e1,e2⟩:=Addr.eta hv0
 have each:∀i,i<len→∃(b:α) (v:Value),(v.cells.size=k∧∀j u,v.cells[j]?=some u→w.cell? ⟨a.block,a.off+(i * k+j),none⟩=some u)∧bY v∧RV w (Old w) (f b) cX v∧∀y,elems[i]?=some y→du B y.1→q b:=by
  intro i hi
  have h1:=hel i hi
  rw[hc,List.getElem?_eq_getElem (show i<elems.length by omega),Option.bind_eq_some_iff]at h1
  obtain⟨cs',h2,h3⟩:=h1
  obtain⟨_,h4,h5⟩:=World.cells?_some h2
  obtain⟨b,v,g1,g2,g3,g4⟩:=he n cs' _ h3 h4
  have hsz:v.cells.size=k:=by rw[←h4,←g1];simp
  refine⟨b,v,⟨hsz,λj u hu=>?_⟩,g2,g3,λy hy=>by rw[List.getElem?_eq_getElem (show i<elems.length by omega)]at hy;cases hy;exact g4⟩
  have hj:j<k:=by have:=(Array.getElem?_eq_some_iff.mp hu).1;omega
  have h6:=h5 j hj
  rw[←g1]at h6
  rw[e1]at h6
  have e3:((Addr.mk a.block a.off none).add (i * k)).add j=⟨a.block,a.off+(i * k+j),none⟩:=by
   simp only[Addr.add]
   by_cases q1:i * k=0
   ·rw[if_pos q1,q1]
    by_cases q2:j=0
    ·rw[if_pos q2,q2];rfl
    ·rw[if_neg q2];simp
   ·rw[if_neg q1]
    by_cases q2:j=0
    ·rw[if_pos q2,q2];rfl
    ·rw[if_neg q2];simp[Nat.add_assoc]
  rw[e3]at h6
  rw[h6];simpa using hu
 have build:∀n,n≤len→∃(l:List α) (vs:List Value),l.length=n∧vs.length=n∧∀i b v,l[i]?=some b→vs[i]?=some v→(v.cells.size=k∧∀j u,v.cells[j]?=some u→w.cell? ⟨a.block,a.off+(i * k+j),none⟩=some u)∧bY v∧RV w (Old w) (f b) cX v∧∀y,elems[i]?=some y→du B y.1→q b:=by
  intro n
  induction n with
  | zero=>intro _;exact⟨[],[],rfl,rfl,λi b v hb=>by simp at hb⟩
  | succ n ih =>
   intro hn
   obtain⟨l,vs,h1,h2,h3⟩:=ih (by omega)
   obtain⟨b,v,h4⟩:=each n (by omega)
   refine⟨l++[b],vs++[v],by simp[h1],by simp[h2],λi b' v' hb' hv'=>?_⟩
   by_cases hi:i<n
   ·rw[List.getElem?_append_left (by omega)]at hb' hv'
    exact h3 i b' v' hb' hv'
   ·have hil:i<(l++[b]).length:=(List.getElem?_eq_some_iff.mp hb').1
    have hie:i=n:=by simp[h1]at hil;omega
    subst hie
    rw[List.getElem?_append_right (by omega),h1]at hb'
    rw[List.getElem?_append_right (by omega),h2]at hv'
    simp at hb' hv'
    subst hb';subst hv'
    exact h4
 obtain⟨l,vs,h1,h2,h3⟩:=build len (Nat.le_refl _)
 have hget:∀i,i<len→∃b v,l[i]?=some b∧vs[i]?=some v:=λi hi=>⟨_,_,List.getElem?_eq_getElem (by omega),List.getElem?_eq_getElem (by omega)⟩
 have hvs:∀v∈vs,v.cells.size=k∧bY v:=λv hv=>by
  obtain⟨i,hi,rfl⟩:=List.getElem_of_mem hv
  obtain⟨g1,g2,_⟩:=h3 i _ _ (List.getElem?_eq_getElem (show i<l.length by omega)) (List.getElem?_eq_getElem hi)
  exact⟨g1.1,g2⟩
 refine⟨l,⟨_,_,rfl,.inr ⟨a.block,a.off,cap,vs,?_,e2,?_,hm,(λh=>by cases h),?_,hvs,?_,?_⟩,rfl⟩,λhs=>?_⟩
 ·rw[←e1];simp[h1]
 ·simp[h1];exact hl
 ·refine RVL.of_get (by simp[h1,h2]) λi y v hy hv=>?_
  rw[List.getElem?_map]at hy
  cases hb:l[i]? with
  | none=>rw[hb]at hy;simp at hy
  | some b =>
   rw[hb]at hy;simp at hy;subst hy
   exact(h3 i b v hb hv).2.2.1
 ·intro p u hu
  have hk':∀v∈vs,v.cells.size=k:=λv hv=>(hvs v hv).1
  have hp:p<vs.length * k:=by rw[←bx hk'];exact(List.getElem?_eq_some_iff.mp hu).1
  have hi:p / k<vs.length:=Nat.div_lt_of_lt_mul (by rw[Nat.mul_comm];exact hp)
  have hj:p % k<k:=Nat.mod_lt _ hk
  have hpe:p=p / k * k+p % k:=by rw[Nat.mul_comm];exact(Nat.div_add_mod p k).symm
  have hv:=List.getElem?_eq_getElem hi
  have hfa:=qv hk' hv hj
  rw[←hpe,hu]at hfa
  have:=(h3 (p / k) _ _ (List.getElem?_eq_getElem (show p / k<l.length by omega)) hv).1.2 (p % k) u (by simpa using hfa.symm)
  rw[hpe];exact this
 ·intro y hy
  obtain⟨b,_,rfl⟩:=List.mem_map.mp hy
  exact hsol b
 ·cases hs with
  | slice _ _ s1 s2 =>
   rw[List.length_map]at s1
   refine⟨by omega,λc hc=>?_⟩
   obtain⟨i,hi,rfl⟩:=List.getElem_of_mem hc
   have hie:i<elems.length:=by omega
   exact(h3 i _ _ (List.getElem?_eq_getElem hi) (List.getElem?_eq_getElem (show i<vs.length by omega))).2.2.2 _ (List.getElem?_eq_getElem hie) (s2 _ (List.mem_map_of_mem (List.getElem_mem hie)))
theorem oF{xs:List AV}{vs:List Value}(h:RVL w (Old w) xs cX vs)(hs:∀x∈xs,x.solid=true∧x.isAgg=false):∀v∈vs,v.oneCell'=true:=λv hv=>by
 obtain⟨i,hi⟩:=List.getElem?_of_mem hv
 have hlt:i<xs.length:=by rw[h.length];exact(List.getElem?_eq_some_iff.mp hi).1
 have hx:=List.getElem?_eq_getElem hlt
 have:=hs _ (List.getElem_mem hlt)
 exact RV.one this.1 this.2 (h.get2 hx hi)
theorem vx{xs ys:List AV}{us vs:List Value}(h:RVL w (Old w) xs cX us)(h':RVL w (Old w) ys cX vs):RVL w (Old w) (xs++ys) cX (us++vs):=by
 refine RVL.of_get (by rw[List.length_append,List.length_append,h.length,h'.length]) λi x v hx hv=>?_
 by_cases hi:i<xs.length
 ·rw[List.getElem?_append_left hi]at hx
  rw[List.getElem?_append_left (by rw[←h.length];exact hi)]at hv
  exact h.get2 hx hv
 ·rw[List.getElem?_append_right (by omega)]at hx
  rw[List.getElem?_append_right (by rw[←h.length];omega),←h.length]at hv
  exact h'.get2 hx hv
end
structure Rd (P:Program) (α:Type) where
  t:TypeId
  n:Nat
  enc:α→List AV
  v:α→AV
  pos:0<n
  hn:P.cellsOf t=n
  sol:∀a,∀x∈enc a,x.solid=true∧x.isAgg=false
  hv:(∀a,v a=.agg (enc a))∨(∀a,enc a=[v a])
  q:Nat→α→Prop
  rd:∀{H:Type} {e:TypeId×Value→H} {w:World} {base:Nat} {held:Bool} {fuel:Nat} {cs:List Value} {x:DataW H×List MemPlace} (B:Nat),
    cs.length=n→DataW.trod e P w base (λ_=>true) held fuel t cs=some x→∃a,RVL w (Old w) (enc a) cX cs∧(du B x.1→q B a)
theorem Rd.vsol{P:Program}{α:Type}(r:Rd P α)(a:α):(r.v a).solid=true:=by
 rcases r.hv with h|h
 ·rw[h];rfl
 ·exact(r.sol a (r.v a) (by rw[h];simp)).1
theorem Rd.elem{P:Program}{α:Type}(r:Rd P α){H:Type}{e:TypeId×Value→H}{w:World}{base:Nat}{held:Bool}{fuel:Nat}{cs:List Value}{x:DataW H×List MemPlace}(B:Nat)
  (h:DataW.trod e P w base (λ_=>true) held fuel r.t cs=some x) (hl:cs.length=r.n):∃(a:α) (u:Value),u.cells.toList=cs∧bY u∧RV w (Old w) (r.v a) cX u∧(du B x.1→r.q B a):=by
 obtain⟨a,ha,hq⟩:=r.rd B hl h
 rcases r.hv with hv|hv
 ·refine⟨a,.agg cs.toArray,by simp[Value.cells],λc hc=>oF ha (r.sol a) c (by simpa[Value.cells]using hc),?_,hq⟩
  rw[hv]
  exact⟨cs,rfl,ha,oF ha (r.sol a)⟩
 ·have ha':=ha
  rw[hv]at ha'
  obtain⟨u,us,rfl,h1,rfl⟩:=ha'
  have h2:=r.sol a (r.v a) (by rw[hv];simp)
  have ho:=RV.one h2.1 h2.2 h1
  have hc:u.cells=#[u]:=by cases u<;>first|rfl|simp[Value.oneCell']at ho
  exact⟨a,u,by rw[hc],λc hc'=>by rw[hc]at hc';simp at hc';rw[hc'];exact ho,h1,hq⟩
def Rd.int{P:Program}(k:IntKind)(t:TypeId)(ht:P.underlying t=some (.int k))(hn:P.cellsOf t=1):Rd P Int:=
 ⟨t,1,λa=>[.val (.int k a)],λa=>.val (.int k a),by omega,hn,λa x hx=>by simp at hx;subst hx;exact⟨rfl,rfl⟩,.inr λ_=>rfl,λ_ _=>True,λ_ hl h=>by
  obtain⟨n,rfl,_,hw⟩:=DataW.trod_int ht h
  exact⟨n,⟨_,_,rfl,⟨rfl,by simpa[Lit.wf,az,inK]using hw⟩,rfl⟩,λ_=>trivial⟩⟩
def Rd.bool{P:Program}(t:TypeId)(ht:P.underlying t=some .bool)(hn:P.cellsOf t=1):Rd P Bool:=
 ⟨t,1,λa=>[.bool a],.bool,by omega,hn,λa x hx=>by simp at hx;subst hx;exact⟨rfl,rfl⟩,.inr λ_=>rfl,λ_ _=>True,λ_ hl h=>by
  obtain⟨n,rfl,_⟩:=DataW.trod_bool ht h
  exact⟨n,⟨_,_,rfl,⟨rfl,trivial⟩,rfl⟩,λ_=>trivial⟩⟩
def Rd.str{P:Program}(t:TypeId)(ht:P.underlying t=some .string)(hn:P.cellsOf t=1):Rd P ByteArray:=
 ⟨t,1,λa=>[.str a],.str,by omega,hn,λa x hx=>by simp at hx;subst hx;exact⟨rfl,rfl⟩,.inr λ_=>rfl,λ_ _=>True,λ_ hl h=>by
  obtain⟨n,rfl,_,hw⟩:=DataW.trod_string ht h
  exact⟨n,⟨_,_,rfl,⟨rfl,hw⟩,rfl⟩,λ_=>trivial⟩⟩
structure RdF (P:Program) (α:Type) where
  ts:List (TypeId×Nat)
  n:Nat
  enc:α→List AV
  hn:n=(ts.map (·.2)).sum
  sol:∀a,∀x∈enc a,x.solid=true∧x.isAgg=false
  q:Nat→α→Prop
  rd:∀{H:Type} {e:TypeId×Value→H} {w:World} {base:Nat} {held:Bool} {fuel:Nat} {cs:List Value} {ys:List (DataW H×List MemPlace)} (B:Nat),
    cs.length=n→ys.length=ts.length →
    (∀(i o:Nat) (p:TypeId×Nat),ts[i]?=some p→o=((ts.take i).map (·.2)).sum→DataW.trod e P w base (λ_=>true) held fuel p.1 ((cs.drop o).take p.2)=ys[i]?)→∃a,RVL w (Old w) (enc a) cX cs∧((∀y∈ys,du B y.1)→q B a)
def RdF.nil{P:Program}:RdF P Unit:=⟨[],0,λ_=>[],rfl,λa x hx=>by simp at hx,λ_ _=>True,λ_ hl _ _=>⟨(),by rw[List.eq_nil_of_length_eq_zero hl];rfl,λ_=>trivial⟩⟩
def RdF.cons{P:Program}{α β:Type}(r:Rd P α)(f:RdF P β):RdF P (α×β):=
 ⟨(r.t,r.n)::f.ts,r.n+f.n,λa=>r.enc a.1++f.enc a.2,by rw[f.hn];simp,λa x hx=>by
   rcases List.mem_append.mp hx with hx|hx
   ·exact r.sol _ x hx
   ·exact f.sol _ x hx,λB a=>r.q B a.1∧f.q B a.2,λ{H e w base held fuel cs ys} B hl hy h=>by
  match ys,hy with
  | y::ys,hy =>
  have h0:=h 0 0 _ rfl rfl
  simp only[List.drop_zero,List.getElem?_cons_zero]at h0
  obtain⟨a,ha,qa⟩:=r.rd B (by simp;omega) h0
  obtain⟨b,hb,qb⟩:=f.rd B (cs:=cs.drop r.n) (ys:=ys) (fuel:=fuel) (e:=e) (w:=w) (base:=base) (held:=held) (by simp;omega) (by simpa using hy) λi o p hp ho=>by
   have:=h (i+1) (r.n+o) p (by simpa using hp) (by simp[ho])
   rw[List.drop_drop]
   simpa using this
  refine⟨(a,b),?_,λhs=>⟨qa (hs y (by simp)),qb λz hz=>hs z (by simp[hz])⟩⟩
  have:=vx ha hb
  rwa [List.take_append_drop]at this⟩
def Cp(P:Program)(t:TypeId)(ts:List (TypeId×Nat))(n:Nat):Bool:=match P.underlying t with
 | some (.struct fs)=>Nat.beq (P.cellsOf t) n && Nat.beq fs.size ts.length && (List.range ts.length).all λi=>match fs[i]?,ts[i]? with
  | some f,some p=>Nat.beq f.type p.1 && Nat.beq (P.cellsOf p.1) p.2 && Nat.beq f.offset ((ts.take i).map (·.2)).sum
  | _,_=>false
 | _=>false
theorem mw{P:Program}{α:Type}{t:TypeId}(f:RdF P α)(hf:Cp P t f.ts f.n=true):P.cellsOf t=f.n∧∀{H:Type} {e:TypeId×Value→H} {w:World} {base:Nat} {held:Bool} {fuel:Nat} {cs:List Value} {x:DataW H×List MemPlace} (B:Nat),
  DataW.trod e P w base (λ_=>true) held fuel t cs=some x→∃a,RVL w (Old w) (f.enc a) cX cs∧(du B x.1→f.q B a):=by
 unfold Cp at hf
 split at hf
 ·rename_i fs hu
  simp only[Bool.and_eq_true]at hf
  obtain⟨⟨h1,h2⟩,h3⟩:=hf
  have h1:=Nat.eq_of_beq_eq_true h1
  have h2:=Nat.eq_of_beq_eq_true h2
  refine⟨h1,λ{H e w base held fuel cs x} B h=>?_⟩
  obtain⟨xs,m,-,hx,hl,hxl,he⟩:=DataW.trod_struct hu h
  have hsm:du B x.1→∀y∈xs,du B y.1:=λhs=>by
   rw[hx]at hs
   cases hs with
   | agg _ s=>exact λy hy=>s _ (List.mem_map_of_mem hy)
  refine(f.rd B (cs:=cs) (ys:=xs) (fuel:=m) (e:=e) (w:=w) (base:=base) (held:=held) (by omega) (by omega) λi o p hp ho=>?_).imp λa h=>⟨h.1,λhs=>h.2 (hsm hs)⟩
  have hi:i<f.ts.length:=(List.getElem?_eq_some_iff.mp hp).1
  have h4:=List.all_eq_true.mp h3 i (List.mem_range.mpr hi)
  rw[hp]at h4
  split at h4
  ·rename_i fd p' e1 e2
   cases e2
   simp only[Bool.and_eq_true]at h4
   obtain⟨⟨h5,h6⟩,h7⟩:=h4
   have h5:=Nat.eq_of_beq_eq_true h5
   have h6:=Nat.eq_of_beq_eq_true h6
   have h7:=Nat.eq_of_beq_eq_true h7
   have:=he i fd e1
   rw[h7,h5,h6,←ho]at this
   exact this
  ·cases h4
 ·cases hf
def Rd.struct{P:Program}{α β:Type}(f:RdF P α)(t:TypeId)(hf:Cp P t f.ts f.n=true)(hp:0<f.n)(mk:α→β)(un:β→α)(h:∀a,un (mk a)=a):Rd P β:=
 ⟨t,f.n,λb=>f.enc (un b),λb=>.agg (f.enc (un b)),hp,(mw f hf).1,λb=>f.sol _,.inl λ_=>rfl,λB b=>f.q B (un b),λB hl h'=>by
  obtain⟨a,ha,hq⟩:=(mw f hf).2 B h'
  exact⟨mk a,by rw[h];exact ha,by rw[h];exact hq⟩⟩
section
variable {P : Program} {H : Type} {enc : TypeId × Value → H} {w : World} {base : Nat} {held : Bool}
theorem Rd.argS{α β:Type}{f:RdF P α}{t:TypeId}{hf:Cp P t f.ts f.n=true}{hp:0<f.n}{mk:α→β}{un:β→α}{hu:∀a,un (mk a)=a}{fs:Array Field}(ht:P.underlying t=some (.struct fs))
  {v:Value} {d:DataW H} {ps:List MemPlace} {r:Reach} {b0:Nat} (hval:Value.okWide P w r b0 t v) (B:Nat) (hd:DataW.Trod enc P w base (λ_=>true) held t v d ps):∃b:β,RV w (Old w) (.agg (f.enc (un b))) cX v∧(du B d→f.q B (un b)):=by
 obtain⟨cs,rfl,_⟩:=okWide_struct ht hval
 obtain⟨fuel,hf'⟩:=hd
 obtain⟨a,ha,hq⟩:=(mw f hf).2 B hf'
 refine⟨mk a,?_,by rw[hu];exact hq⟩
 rw[hu]
 have ha:RVL w (Old w) (f.enc a) cX cs.toList:=by simpa[Value.cells]using ha
 exact⟨cs.toList,by simp,ha,oF ha (f.sol a)⟩
theorem Rd.argL{α:Type}(r:Rd P α){t:TypeId}(ht:P.underlying t=some (.slice r.t)){v:Value}{d:DataW H}{ps:List MemPlace}{q:Reach}{b0:Nat}(hval:Value.okWide P w q b0 t v)
  (B:Nat) (hd:DataW.Trod enc P w base (λ_=>true) held t v d ps):∃l:List α,RV w (Old w) (.sl r.n (l.map r.v) false) cX v∧(du B d→l.length≤B∧∀a∈l,r.q B a):=by
 obtain⟨a,len,cap,rfl⟩:=okWide_slice ht hval
 obtain⟨fuel,hf⟩:=hd
 obtain⟨s,⟨u,us,h1,h2,h3⟩,hq⟩:=F4 r.pos ht r.hn r.v r.vsol (B:=B) (q:=r.q B) (λn cs y hy hl=>r.elem B hy hl) hf
 have:(Value.slice a len cap).cells.toList=[.slice a len cap]:=rfl
 rw[this]at h1
 obtain⟨rfl,_⟩:=List.cons.inj h1
 exact⟨s,h2,hq⟩
end
end Go.Am
namespace Go.Am
mutual
def AV.pureB:AV→Bool
  | .val _=>true
  | .agg cs=>bR cs
  | .tup xs=>bR xs
  | .func _ caps=>bR caps
  | .ref _ _=>false
  | .eref _ _ _=>false
  | .rptr _ _=>true
  | .vec _=>false
  | .vsub _ _ _=>false
  | .asub _ _ _ _=>false
  | .sl _ _ _=>true
  | .mref _=>false
  | .mp _ _ _=>true
  | .unk=>true
def bR:List AV→Bool
  | []=>true
  | x::xs=>cond x.pureB (bR xs) false
end
mutual
def AV.flatB:AV→Bool
  | .val _=>true
  | .agg cs=>qw cs
  | .tup xs=>qw xs
  | _=>false
def qw:List AV→Bool
  | []=>true
  | x::xs=>cond x.flatB (qw xs) false
end
mutual
def AV.belB(k:Nat):AV→Bool
  | .agg cs=>cC k cs
  | .tup xs=>cC k xs
  | .func _ caps=>cC k caps
  | .ref b _=>Nat.blt b k
  | .eref b _ _=>Nat.blt b k
  | .vec b=>Nat.blt b k
  | .vsub b _ _=>Nat.blt b k
  | .asub b _ _ _=>Nat.blt b k
  | .val _=>true
  | .rptr _ _=>true
  | .sl _ _ _=>true
  | .mref b=>Nat.blt b k
  | .mp _ _ _=>true
  | .unk=>true
def cC(k:Nat):List AV→Bool
  | []=>true
  | x::xs=>cond (x.belB k) (cC k xs) false
end
theorem ag{a b:Bool}:cond a b false=true↔a=true∧b=true:=by cases a<;>simp
mutual
theorem AV.pureB_ok:∀{x:AV},x.pureB=true→x.pure
  | .val _,_=>trivial
  | .agg cs,h=>aC (xs:=cs) h
  | .tup xs,h=>aC (xs:=xs) h
  | .func _ caps,h=>aC (xs:=caps) h
  | .ref _ _,h=>by cases h
  | .eref _ _ _,h=>by cases h
  | .rptr _ _,_=>trivial
  | .vec _,h=>by cases h
  | .vsub _ _ _,h=>by cases h
  | .asub _ _ _ _,h=>by cases h
  | .sl _ _ _,_=>trivial
  | .mref _,h=>by cases h
  | .mp _ _ _,_=>trivial
  | .unk,_=>trivial
theorem aC:∀{xs:List AV},bR xs=true→bO xs
  | [],_=>trivial
  | x::xs,h=>by
    have h:=ag.mp h
    exact⟨AV.pureB_ok h.1,aC h.2⟩
end
mutual
theorem AV.flatB_ok:∀{x:AV},x.flatB=true→x.flat
  | .val _,_=>trivial
  | .agg cs,h=>jY (xs:=cs) h
  | .tup xs,h=>jY (xs:=xs) h
  | .func _ _,h=>by cases h
  | .ref _ _,h=>by cases h
  | .eref _ _ _,h=>by cases h
  | .rptr _ _,h=>by cases h
  | .vec _,h=>by cases h
  | .vsub _ _ _,h=>by cases h
  | .asub _ _ _ _,h=>by cases h
  | .sl _ _ _,h=>by cases h
  | .mref _,h=>by cases h
  | .mp _ _ _,h=>by cases h
  | .unk,h=>by cases h
theorem jY:∀{xs:List AV},qw xs=true→mB xs
  | [],_=>trivial
  | x::xs,h=>by
    have h:=ag.mp h
    exact⟨AV.flatB_ok h.1,jY h.2⟩
end
mutual
theorem AV.belB_ok{k:Nat}:∀{x:AV},x.belB k=true→x.bel k
  | .val _,_=>trivial
  | .agg cs,h=>iw (xs:=cs) h
  | .tup xs,h=>iw (xs:=xs) h
  | .func _ caps,h=>iw (xs:=caps) h
  | .ref _ _,h=>Nat.le_of_ble_eq_true h
  | .eref _ _ _,h=>Nat.le_of_ble_eq_true h
  | .rptr _ _,_=>trivial
  | .vec _,h=>Nat.le_of_ble_eq_true h
  | .vsub _ _ _,h=>Nat.le_of_ble_eq_true h
  | .asub _ _ _ _,h=>Nat.le_of_ble_eq_true h
  | .sl _ _ _,_=>trivial
  | .mref _,h=>Nat.le_of_ble_eq_true h
  | .mp _ _ _,_=>trivial
  | .unk,_=>trivial
theorem iw{k:Nat}:∀{xs:List AV},cC k xs=true→iu k xs
  | [],_=>trivial
  | x::xs,h=>by
    have h:=ag.mp h
    exact⟨AV.belB_ok h.1,iw h.2⟩
end
theorem ab{α:Type}{v:α→AV}(h:∀x,(v x).pureB=true):∀l:List α,bR (l.map v)=true
 | []=>rfl
 | x::l=>ag.mpr ⟨h x,ab h l⟩
def dj:List (List AV)→Bool
 | []=>true
 | es::r=>cond (bR es) (dj r) false
inductive Sh where
  | k
  | s (kk:Nat)
  | a (l:List Sh)
  | v (s:Sh)
mutual
def aQ:Sh→AV→AV
  | .k,x=>x
  | .s kk,.sl 0 es full=>cond es.isEmpty (.sl kk es false) (.sl 0 es full)
  | .s _,.sl (k+1) es _=>.sl (k+1) es false
  | .s _,x=>x
  | .a l,.agg cs=>.agg (mC l cs)
  | .a l,.tup cs=>.tup (mC l cs)
  | .a l,.func f cs=>.func f (mC l cs)
  | .a _,x=>x
  | .v s,.sl k es _=>.sl k (es.map (aQ s)) false
  | .v _,x=>x
def mC:List Sh→List AV→List AV
  | [],xs=>xs
  | _::_,[]=>[]
  | s::l,x::xs=>aQ s x::mC l xs
end
theorem mD(s:Sh)(x:AV):(aQ s x).solid=x.solid:=by
 cases s with
 | k=>rw[aQ]
 | s kk =>
  cases x<;>first|(rw[aQ];done)|(rw[aQ]<;>simp;done)|skip
  rename_i k es full
  cases k with
  | zero=>rw[aQ];cases es<;>rfl
  | succ k=>rw[aQ];rfl
 | a l=>cases x<;>first|(rw[aQ];done)|(rw[aQ]<;>simp;done)|(rw[aQ];rfl)
 | v s=>cases x<;>first|(rw[aQ];done)|(rw[aQ]<;>simp;done)|(rw[aQ];rfl)
theorem eF.mapS{f:AV→AV}(h:∀x,Sub x (f x)):∀xs:List AV,eF xs (xs.map f)
 | []=>trivial
 | x::xs=>⟨h x,eF.mapS h xs⟩
theorem Sub.slE{k:Nat}{es es':List AV}{full:Bool}(h:eF es es')(hl:es'.length=es.length)(hs:(∀x∈es,x.solid=true)→∀x∈es',x.solid=true):Sub (.sl k es full) (.sl k es' false):=by
 intro w A μ v hv
 rcases hv with⟨h1,h2⟩|⟨blk,off,cap,vs,e1,e2,e3,e4,e5,e6,e7,e8⟩
 ·subst h1
  exact .inl ⟨List.eq_nil_of_length_eq_zero hl,h2⟩
 ·obtain⟨e8,e9⟩:=e8
  exact .inr ⟨blk,off,cap,vs,by rw[hl];exact e1,e2,by rw[hl];exact e3,e4,(λh=>by cases h),h.rvl e6,e7,e8,hs e9⟩
theorem Sub.func{f:FuncId}{xs ys:List AV}(h:eF xs ys):Sub (.func f xs) (.func f ys):=λw A μ v ⟨vs,h1,h2⟩=>⟨vs,h1,h.rvl h2⟩
mutual
theorem dC:∀(s:Sh) (x:AV),Sub x (aQ s x)
  | .k,x=>by rw[aQ];exact Sub.refl
  | .s kk,.sl 0 es full=>by
    rw[aQ]
    cases es with
    | nil=>exact Sub.sl (.inr rfl) (by simp)
    | cons y es=>exact Sub.refl
  | .s kk,.sl (k+1) es full=>by rw[aQ];exact Sub.sl (.inl rfl) (by simp)
  | .s _,.val _=>by rw[aQ];exact Sub.refl;all_goals simp
  | .s _,.agg _=>by rw[aQ];exact Sub.refl;all_goals simp
  | .s _,.tup _=>by rw[aQ];exact Sub.refl;all_goals simp
  | .s _,.func _ _=>by rw[aQ];exact Sub.refl;all_goals simp
  | .s _,.ref _ _=>by rw[aQ];exact Sub.refl;all_goals simp
  | .s _,.eref _ _ _=>by rw[aQ];exact Sub.refl;all_goals simp
  | .s _,.rptr _ _=>by rw[aQ];exact Sub.refl;all_goals simp
  | .s _,.vec _=>by rw[aQ];exact Sub.refl;all_goals simp
  | .s _,.vsub _ _ _=>by rw[aQ];exact Sub.refl;all_goals simp
  | .s _,.asub _ _ _ _=>by rw[aQ];exact Sub.refl;all_goals simp
  | .s _,.mref _=>by rw[aQ];exact Sub.refl;all_goals simp
  | .s _,.mp _ _ _=>by rw[aQ];exact Sub.refl;all_goals simp
  | .s _,.unk=>by rw[aQ];exact Sub.refl;all_goals simp
  | .a l,.agg cs=>by rw[aQ];exact Sub.agg (eC l cs)
  | .a l,.tup cs=>by rw[aQ];exact Sub.tup (eC l cs)
  | .a l,.func f cs=>by rw[aQ];exact Sub.func (eC l cs)
  | .a _,.val _=>by rw[aQ];exact Sub.refl;all_goals simp
  | .a _,.sl _ _ _=>by rw[aQ];exact Sub.refl;all_goals simp
  | .a _,.ref _ _=>by rw[aQ];exact Sub.refl;all_goals simp
  | .a _,.eref _ _ _=>by rw[aQ];exact Sub.refl;all_goals simp
  | .a _,.rptr _ _=>by rw[aQ];exact Sub.refl;all_goals simp
  | .a _,.vec _=>by rw[aQ];exact Sub.refl;all_goals simp
  | .a _,.vsub _ _ _=>by rw[aQ];exact Sub.refl;all_goals simp
  | .a _,.asub _ _ _ _=>by rw[aQ];exact Sub.refl;all_goals simp
  | .a _,.mref _=>by rw[aQ];exact Sub.refl;all_goals simp
  | .a _,.mp _ _ _=>by rw[aQ];exact Sub.refl;all_goals simp
  | .a _,.unk=>by rw[aQ];exact Sub.refl;all_goals simp
  | .v s,.sl k es full=>by
    rw[aQ]
    exact Sub.slE (eF.mapS (λx=>dC s x) es) (by simp) λh x hx=>by
      obtain⟨y,hy,rfl⟩:=List.mem_map.mp hx
      rw[mD];exact h y hy
  | .v _,.val _=>by rw[aQ];exact Sub.refl;all_goals simp
  | .v _,.agg _=>by rw[aQ];exact Sub.refl;all_goals simp
  | .v _,.tup _=>by rw[aQ];exact Sub.refl;all_goals simp
  | .v _,.func _ _=>by rw[aQ];exact Sub.refl;all_goals simp
  | .v _,.ref _ _=>by rw[aQ];exact Sub.refl;all_goals simp
  | .v _,.eref _ _ _=>by rw[aQ];exact Sub.refl;all_goals simp
  | .v _,.rptr _ _=>by rw[aQ];exact Sub.refl;all_goals simp
  | .v _,.vec _=>by rw[aQ];exact Sub.refl;all_goals simp
  | .v _,.vsub _ _ _=>by rw[aQ];exact Sub.refl;all_goals simp
  | .v _,.asub _ _ _ _=>by rw[aQ];exact Sub.refl;all_goals simp
  | .v _,.mref _=>by rw[aQ];exact Sub.refl;all_goals simp
  | .v _,.mp _ _ _=>by rw[aQ];exact Sub.refl;all_goals simp
  | .v _,.unk=>by rw[aQ];exact Sub.refl;all_goals simp
theorem eC:∀(l:List Sh) (xs:List AV),eF xs (mC l xs)
  | [],xs=>by rw[mC];exact eF.refl
  | _::_,[]=>by rw[mC];trivial
  | s::l,x::xs=>by rw[mC];exact⟨dC s x,eC l xs⟩
end
structure PC (P:Program) where
  f:FuncId
  sh:List Sh
  args:List AV
  r:AV
  ok:ao P f args r
  fn:nj P f
def Blk.pureB:Blk→Bool
 | .box x=>x.pureB
 | .vec _ es=>bR es
 | .row _ es _ _=>bR es
 | .map _ _ vs=>bR vs
 | _=>false
def ia(π:Nat→Nat):Blk→Blk
 | .box x=>.box (x.ren π)
 | x=>x
def ew(n:Nat):Blk→Bool
 | .box x=>x.belB n
 | .vec _ es=>bR es
 | .row _ es _ _=>bR es
 | .map _ _ vs=>bR vs
 | _=>false
structure eT (args:List AV) (h:List Blk) (r:AV) (h':List (Option Blk)):Prop where
  args:iu h.length args
  hp:∀x∈h,ew h.length x=true
  le:h.length≤h'.length
  le':h'.length≤h.length+16
  r:r.bel h'.length
  h':∀x,some x∈h'→ew h'.length x=true
def allB{α:Type}(p:α→Bool):List α→Bool
 | []=>true
 | x::r=>cond (p x) (allB p r) false
theorem lk{α:Type}{p:α→Bool}:∀{l:List α},allB p l=true→∀x∈l,p x=true
 | [],_,x,hx=>by simp at hx
 | y::r,h,x,hx=>by
  obtain⟨h1,h2⟩:=ag.mp h
  rcases List.mem_cons.mp hx with rfl|hx
  ·exact h1
  ·exact lk h2 x hx
def dH(n:Nat):Option Blk→Bool
 | some x=>ew n x
 | none=>true
def hcB(args:List AV)(h:List Blk)(r:AV)(h':List (Option Blk)):Bool:=
 cond (cC h.length args) (cond (allB (ew h.length) h) (cond (Nat.ble h.length h'.length) (cond (Nat.ble h'.length (h.length+16)) (cond (r.belB h'.length) (allB (dH h'.length) h') false) false) false) false) false
theorem eT.of{args:List AV}{h:List Blk}{r:AV}{h':List (Option Blk)}(e:hcB args h r h'=true):eT args h r h':=by
 obtain⟨h1,e⟩:=ag.mp e
 obtain⟨h2,e⟩:=ag.mp e
 obtain⟨h3,e⟩:=ag.mp e
 obtain⟨h4,e⟩:=ag.mp e
 obtain⟨h5,h6⟩:=ag.mp e
 exact⟨iw h1,lk h2,Nat.le_of_ble_eq_true h3,Nat.le_of_ble_eq_true h4,AV.belB_ok h5,λx hx=>lk h6 _ hx⟩
structure HC (P:Program) where
  f:FuncId
  sh:List Sh
  args:List AV
  h:List Blk
  r:AV
  h':List (Option Blk)
  ok:bc P f args h r h'
  fn:nj P f
  good:eT args h r h'
inductive PB where
  | box (x:AV)
  | vec (k:Nat) (es:List AV) (h:bR es=true)
  | arr (es:List AV) (h:bR es=true)
  | map (kk:Option Nat) (ks:List MK) (vs:List AV) (h:bR vs=true)
  | gone
def PB.blk:PB→Option Blk
 | .box x=>some (.box x)
 | .vec k es _=>some (.vec k es)
 | .arr es _=>some (.box (.agg es))
 | .map kk ks vs _=>some (.map kk ks vs)
 | .gone=>none
def PB.ren(π:Nat→Nat):PB→Option Blk
 | .box x=>some (.box (x.ren π))
 | .vec k es _=>some (.vec k es)
 | .arr es _=>some (.box (.agg es))
 | .map kk ks vs _=>some (.map kk ks vs)
 | .gone=>none
def PB.isGone:PB→Bool
 | .gone=>true
 | _=>false
def PB.see(v:Option Blk):PB→Option Blk
 | .gone=>none
 | _=>v
structure NF where
  ts:List (Nat×Sh×AV)
  hs:List PB
def NF.st(m:NF):S3:=⟨cV (m.ts.map λp=>(p.1,p.2.2)),hpL 0 (m.hs.map PB.blk),m.hs.length⟩
inductive Cmd:Type 1 where
  | frz (b:Nat)
  | frzE (b:Nat) (es:List AV) (h:bR es=true)
  | frzM (b:Nat) (es:List AV) (h:bR es=true)
  | nilT (t k:Nat)
  | frzV (b t i:Nat) {α:Type} (v:α→AV) (l:List α) (y:AV) (x:α) (es:List AV) (h:bR es=true)
  | nilF (t i k:Nat)
  | nilB (b i k:Nat)
  | nilC (b k:Nat)
  | wkT (t:Nat) (s:Sh)
  | wkB (b:Nat) (s:Sh)
  | wkS (b i:Nat) (sh:Sh) {α:Type} (v:α→AV) (l:List α) (y:AV) (x:α)
  | wkV (b:Nat) (sh:Sh) {α:Type} (v:α→AV) (l:List α)
section
variable {α β : Type} [DecidableEq α]
def au(l:List (α×β)):List α:=l.map Prod.fst
def fG(l:List (α×β))(x:α):Nat:=(au l).idxOf x
def bn(l:List (α×β))(x:α):Bool:=decide (x∈au l)
def ay(l:List (α×β))(x:α)(z:β):β:=match l[fG l x]? with
 | some p=>p.2
 | none=>z
def bJ(l:List (α×β))(x:α)(v:β):List (α×β):=if x∈au l then l.set (fG l x) (x,v)else l++[(x,v)]
def mdl(l:List (α×β))(x:α):List (α×β):=l.eraseIdx (fG l x)
end
inductive MN:Type 1 where
  | get {α β:Type} (de:DecidableEq α) (kf:α→MK) (hi:∀x y,kf x=kf y→x=y) (vf:β→AV) (l:List (α×β)) (x:α) (z:β)
  | put {α β:Type} (de:DecidableEq α) (kf:α→MK) (hi:∀x y,kf x=kf y→x=y) (vf:β→AV) (l:List (α×β)) (x:α) (v:β)
  | del {α β:Type} (de:DecidableEq α) (kf:α→MK) (hi:∀x y,kf x=kf y→x=y) (vf:β→AV) (l:List (α×β)) (x:α)
  | getB (h:Bool) {α β:Type} (de:DecidableEq α) (kf:α→MK) (hi:∀x y,kf x=kf y→x=y) (vf:β→AV) (l:List (α×β)) (x:α) (z:β)
def dy(P:Program)(k n:Nat)(c:AC)(s s2:S3):Prop:=AWP P k n c (λe s'=>match e with
 | .normal=>av k n s' s2
 | _=>False) s
inductive An (P:Program) (Sf:Nat→Type) (T:Type):Type 1 where
  | nil
  | pass (a:An P Sf T)
  | br (g:Nat) (x y:An P Sf T)
  | el (f:Nat) {α:Type} (v:α→AV) (l:List α) (k:α→An P Sf T)
  | elA (f:Nat) {α:Type} (v:α→List AV) (l:List α) (i n:Nat) (hv:∀x,(v x).length=n) (k:α→An P Sf T)
  | st (f:Nat) {α:Type} (v:α→AV) (l:List α) (g:α→α) (k:α→An P Sf T)
  | stI (f:Nat) {α:Type} (v:α→AV) (l:List α) (k:α→An P Sf T)
  | app (f:Nat) {α:Type} (v:α→AV) (l xs:List α) (a:An P Sf T)
  | appF (f:Nat) {α:Type} (v:α→AV) (l xs:List α) (a:An P Sf T)
  | sub (f:Nat) {α:Type} (v:α→AV) (l:List α) (fl:Bool) (a:An P Sf T)
  | rep (f:Nat) {α:Type} (v:α→AV) (x:α) (a:An P Sf T)
  | own (f:Nat) (a:An P Sf T)
  | mn (f:Nat) (q:MN) (a:An P Sf T)
  | req (f:Nat) (p:Prop) (k:p→An P Sf T)
  | callP (c:PC P) (a:An P Sf T)
  | callH (bs:List Nat) (c:HC P) (a:An P Sf T)
  | callA (c:PC P) (h:bO c.args) (a:An P Sf T)
  | cmd (c:Cmd) (a:An P Sf T)
  | cmdL (c:Cmd) (a:An P Sf T)
  | wait (a:An P Sf T)
  | loop (j:Nat) (nf:Sf j→NF) (I:Sf j→Prop) (mu:Sf j→Nat) (s0:Sf j) (bs:List Nat) (body:Sf j→An P Sf T)
  | join (j:Nat) (nf:Sf j→NF) (I:Sf j→Prop) (a:An P Sf T) (body:Sf j→An P Sf T)
  | join2 (j:Nat) (nf:Sf j→NF) (I:Sf j→Prop) (a:An P Sf T) (body:Sf j→An P Sf T)
  | back (j:Nat) (t:Sf j) (bs:List Nat)
  | hand (k0:Nat) (cs:List Cmd) (m1:NF) (bs:List Nat) (s2:S3) (c:AC) (h:∀n,dy P k0 n c m1.st s2) (a:An P Sf T)
  | hand2 (k0:Nat) (s1 s2:S3) (c:AC) (h:∀n,dy P k0 n c s1 s2) (a:An P Sf T)
  | handQ (k0:Nat) (m1:NF) (bs:List Nat) (s2:S3) (c:AC) (p:Prop) (h:p→∀n,dy P k0 n c m1.st s2) (a:An P Sf T)
  | unr (n:Nat) (a:An P Sf T)
  | ret (r:T)
  | retH (r:T) (m:NF) (bs:List Nat)
section
variable {P : Program} {Sf : Nat → Type} {T : Type}
def An.l(f:Nat):An P Sf T→An P Sf T
 | .br g x y=>cond (Nat.beq g f) x (.br g x y)
 | a=>a
def An.r(f:Nat):An P Sf T→An P Sf T
 | .br g x y=>cond (Nat.beq g f) y (.br g x y)
 | a=>a
end
def sA(y:AV)(off size:Nat)(agg:Bool):Bool:=cond y.solid (cond (cond agg true (Nat.beq size 1)) (Nat.ble (off+size) y.cells.length) false) false
def KU(y:AV)(off size:Nat)(v:AV):Bool:=cond y.solid (cond v.solid (cond (Nat.beq v.cells.length size) (Nat.ble (off+size) y.cells.length) false) false) false
def Ik(n:Nat):List (Nat×Nat×AV)→Bool
 | []=>true
 | (o,s,x)::r=>cond x.solid (cond (Nat.beq x.cells.length s) (cond (Nat.ble (o+s) n) (Ik n r) false) false) false
def M4(k n:Nat):List (Nat×AV)→Bool
 | []=>true
 | (i,x)::r=>cond x.solid (cond (Nat.beq x.cells.length k) (cond (Nat.blt i n) (M4 k n r) false) false) false
def He:List (Nat×AV)→Bool
 | []=>true
 | (_,x)::r=>cond x.pureB (He r) false
def zJ(op:BinOp)(x y:AV):Bool:=match x,y with
 | .val (.int k _),.val (.int k' b)=>match op with
  | .quo=>cond (decide (k=k')) (!(b==0)) false
  | .rem=>cond (decide (k=k')) (!(b==0)) false
  | .shl=>decide (0≤b)
  | .shr=>decide (0≤b)
  | _=>decide (k=k')
 | .val (.string a),.val (.string b)=>match op with
  | .add=>decide (a.size+b.size≤maxLen)
  | .eql|.neq|.lss|.leq|.gtr|.geq=>true
  | _=>false
 | _,_=>false
def dD(n:Nat)(l h m:Int):Bool:=cond (decide (0≤l)) (cond (decide (l≤h)) (cond (decide (h≤m)) (decide (m≤(n:Int))) false) false) false
def fa(hp:Hp)(k:Nat)(x:AV)(lo hi mx:Option Int):Bool:=match x with
 | .sl k' es _=>cond (cond (Nat.beq k' k) true es.isEmpty) (cond (cond mx.isSome hi.isSome true) (dD es.length (lo.getD 0) (hi.getD es.length) (mx.getD es.length)) false) false
 | .vec b=>match hp b with
  | some (.vec k' es)=>cond (Nat.beq k' k) (cond (cond mx.isSome hi.isSome true) (dD es.length (lo.getD 0) (hi.getD es.length) (mx.getD es.length)) false) false
  | _=>false
 | _=>false
def iE(ρ:AO→AV):Option AO→Option (Option Int)
 | none=>some none
 | some x=>match ρ x with
  | .val (.int _ i)=>some (some i)
  | _=>none
def kkB:Option Nat→Option Nat→Bool
 | none,none=>true
 | some a,some b=>Nat.beq a b
 | _,_=>false
def DP:Option Nat→MK→Bool
 | none,.n _=>true
 | some k,.c l=>Nat.beq l.length k
 | _,_=>false
def okB(op:AOp)(ρ:AO→AV)(hp:Hp):Bool:=match op with
 | .move _=>true
 | .pick c _ _=>match ρ c with
  | .val (.bool _)=>true
  | _=>false
 | .box x=>(ρ x).solid
 | .build z ps=>Ik z.length (ps.map λ(o,s,x)=>(o,s,ρ x))
 | .load agg size x=>match ρ x with
  | .ref b off=>match hp b with
   | some (.box y)=>sA y off size agg
   | _=>false
  | .rptr y off=>sA y off size agg
  | _=>false
 | .store size a x=>match ρ a with
  | .ref b off=>match hp b with
   | some (.box y)=>KU y off size (ρ x)
   | _=>false
  | _=>false
 | .nilc x=>match ρ x with
  | .ref _ _=>true
  | .eref _ _ _=>true
  | .rptr _ _=>true
  | .func _ _=>true
  | _=>false
 | .bin op x y=>zJ op (ρ x) (ρ y)
 | .binB op x y=>match ρ x,ρ y with
  | .val (.bool _),.val (.bool _)=>match op with
   | .eql=>true
   | .neq=>true
   | _=>false
  | _,_=>false
 | .eqs ks _ x y=>match ρ x,ρ y with
  | .agg xs,.agg ys=>(bM ks xs ys).isSome
  | _,_=>false
 | .un op x=>match op,ρ x with
  | .not,.val (.bool _)=>true
  | .neg,.val (.int _ _)=>true
  | _,_=>false
 | .convI _ x=>match ρ x with
  | .val (.int _ _)=>true
  | _=>false
 | .convS x=>match ρ x with
  | .val (.string _)=>true
  | _=>false
 | .convSB x=>match ρ x with
  | .val (.string _)=>true
  | _=>false
 | .convBS x=>match ρ x with
  | .sl k es _=>cond (Nat.beq k 1) (cm es).isSome false
  | .asub b o n k=>cond (Nat.beq k 1) (match fY hp b with
   | some cs=>match cm ((cs.drop o).take n)with
    | some bs=>cond (Nat.ble (o+n) cs.length) (Nat.ble bs.length 4096) false
    | none=>false
   | none=>false) false
  | _=>false
 | .sliceA n _ x lo hi=>match ρ x with
  | .ref _ _=>cond lo.isNone (cond hi.isNone (Nat.ble n 4096) false) false
  | _=>false
 | .mkf _ _=>true
 | .mks _ bytes _ l c=>match ρ l,ρ c with
  | .val (.int .i64 l),.val (.int .i64 c)=>cond (Nat.ble bytes 134217728) (cond (decide (0≤l)) (cond (decide (l≤c)) (decide (c≤1048576)) false) false) false
  | _,_=>false
 | .sliceS x lo hi=>match ρ x with
  | .val (.string s)=>match km 0 (lo.map ρ),km s.size (hi.map ρ)with
   | some l,some h=>cond (decide (0≤l)) (cond (decide (l≤h)) (decide (h≤s.size)) false) false
   | _,_=>false
  | _=>false
 | .slice k x lo hi mx=>match lo.map ρ,hi.map ρ,mx.map ρ with
  | none,none,none=>fa hp k (ρ x) none none none
  | some (.val (.int _ l)),none,none=>fa hp k (ρ x) (some l) none none
  | none,some (.val (.int _ h)),none=>fa hp k (ρ x) none (some h) none
  | some (.val (.int _ l)),some (.val (.int _ h)),none=>fa hp k (ρ x) (some l) (some h) none
  | none,some (.val (.int _ h)),some (.val (.int _ m))=>fa hp k (ρ x) none (some h) (some m)
  | some (.val (.int _ l)),some (.val (.int _ h)),some (.val (.int _ m))=>fa hp k (ρ x) (some l) (some h) (some m)
  | _,_,_=>false
 | .faddr _ x=>match ρ x with
  | .ref _ _=>true
  | .eref _ _ _=>true
  | .rptr _ _=>true
  | _=>false
 | .field agg o size x=>cond (ρ x).isAgg (sA (ρ x) o size agg) false
 | .iaddr k x i=>match ρ i with
  | .val (.int _ i)=>match ρ x with
   | .vec b=>match hp b with
    | some (.vec k' es)=>cond (Nat.beq k' k) (cond (decide (0≤i)) (decide (i<es.length)) false) false
    | _=>false
   | .vsub b _ n=>match hp b with
    | some (.vec k' _)=>cond (Nat.beq k' k) (cond (decide (0≤i)) (decide (i<n)) false) false
    | _=>false
   | _=>false
  | _=>false
 | .iaddrA n _ x i=>match ρ i with
  | .val (.int _ i)=>match ρ x with
   | .ref _ _=>cond (decide (0≤i)) (decide (i<n)) false
   | .eref _ _ _=>cond (decide (0≤i)) (decide (i<n)) false
   | .rptr _ _=>cond (decide (0≤i)) (decide (i<n)) false
   | _=>false
  | _=>false
 | .indexS x i=>match ρ x,ρ i with
  | .val (.string s),.val (.int _ i)=>cond (decide (0≤i)) (decide (i<s.size)) false
  | _,_=>false
 | .ext i x=>match ρ x with
  | .tup xs=>Nat.blt i xs.length
  | _=>false
 | .len x=>match ρ x with
  | .sl _ _ _=>true
  | .vec b=>match hp b with
   | some (.vec _ _)=>true
   | _=>false
  | _=>false
 | .lenS x=>match ρ x with
  | .val (.string _)=>true
  | _=>false
 | .cap x=>match ρ x with
  | .sl _ _ full=>full
  | _=>false
 | .min xs=>match xs.map ρ with
  | .val (.int k a)::r=>(gD dm k a r).isSome
  | _=>false
 | .max xs=>match xs.map ρ with
  | .val (.int k a)::r=>(gD eK k a r).isSome
  | _=>false
 | .mkI _ x=>match ρ x with
  | .val (.int _ _)=>true
  | .val (.string _)=>true
  | .val (.bool _)=>true
  | _=>false
 | .asrt _ _ x=>match ρ x with
  | .val (.iface _ _)=>true
  | _=>false
 | .mkm _=>true
 | .mset kk m k x=>match ρ m with
  | .mref b=>match hp b,(ρ k).key with
   | some (.map kk' _ _),some q=>cond (kkB kk' kk) (cond (DP kk q) (ρ x).solid false) false
   | _,_=>false
  | _=>false
 | .mlen x=>match fN hp (ρ x)with
  | some (_,ks,_)=>decide (ks.length≤maxLen)
  | none=>false
 | _=>false
end Go.Am
namespace Go.Am
theorem jn{y:AV}{off size:Nat}{agg:Bool}(h:sA y off size agg=true):cI y off size agg:=by
 obtain⟨h1,h⟩:=ag.mp h
 obtain⟨h2,h3⟩:=ag.mp h
 refine⟨h1,Nat.le_of_ble_eq_true h3,λe=>?_⟩
 subst e;exact Nat.eq_of_beq_eq_true h2
theorem oE{y:AV}{off size:Nat}{v:AV}(h:KU y off size v=true):ku y off size v:=by
 obtain⟨h1,h⟩:=ag.mp h
 obtain⟨h2,h⟩:=ag.mp h
 obtain⟨h3,h4⟩:=ag.mp h
 exact⟨h1,h2,Nat.eq_of_beq_eq_true h3,Nat.le_of_ble_eq_true h4⟩
theorem tM{n:Nat}:∀{ps:List (Nat×Nat×AV)},Ik n ps=true→qx n ps
 | [],_=>λp hp=>by simp at hp
 | (o,s,x)::r,h=>by
  obtain⟨h1,h⟩:=ag.mp h
  obtain⟨h2,h⟩:=ag.mp h
  obtain⟨h3,h4⟩:=ag.mp h
  intro p hp
  rcases List.mem_cons.mp hp with rfl|hp
  ·exact⟨h1,Nat.eq_of_beq_eq_true h2,Nat.le_of_ble_eq_true h3⟩
  ·exact tM h4 p hp
theorem jx{k n:Nat}:∀{ps:List (Nat×AV)},M4 k n ps=true→sZ k n ps
 | [],_=>λp hp=>by simp at hp
 | (i,x)::r,h=>by
  obtain⟨h1,h⟩:=ag.mp h
  obtain⟨h2,h⟩:=ag.mp h
  obtain⟨h3,h4⟩:=ag.mp h
  intro p hp
  rcases List.mem_cons.mp hp with rfl|hp
  ·exact⟨h1,Nat.eq_of_beq_eq_true h2,Nat.le_of_ble_eq_true h3⟩
  ·exact jx h4 p hp
theorem lT:∀{ps:List (Nat×AV)},He ps=true→pZ ps
 | [],_=>λp hp=>by simp at hp
 | (i,x)::r,h=>by
  obtain⟨h1,h2⟩:=ag.mp h
  intro p hp
  rcases List.mem_cons.mp hp with rfl|hp
  ·exact AV.pureB_ok h1
  ·exact lT h2 p hp
theorem Eo{op:BinOp}{x y:AV}(h:zJ op x y=true):(cR op x y).c:=by
 unfold zJ at h
 split at h
 ·rename_i k a k' b
  cases op with
  | quo=>obtain⟨h1,h2⟩:=ag.mp h;exact⟨of_decide_eq_true h1,by simpa using h2⟩
  | rem=>obtain⟨h1,h2⟩:=ag.mp h;exact⟨of_decide_eq_true h1,by simpa using h2⟩
  | shl=>exact of_decide_eq_true (p:=0≤b) h
  | shr=>exact of_decide_eq_true (p:=0≤b) h
  | _=>exact of_decide_eq_true (p:=k=k') h
 ·rename_i a b
  cases op with
  | add=>exact of_decide_eq_true (p:=a.size+b.size≤maxLen) h
  | eql=>trivial
  | neq=>trivial
  | lss=>trivial
  | leq=>trivial
  | gtr=>trivial
  | geq=>trivial
  | _=>cases h
 ·cases h
theorem jC{n:Nat}{l h m:Int}(e:dD n l h m=true):0≤l∧l≤h∧h≤m∧m≤(n:Int):=by
 obtain⟨h1,e⟩:=ag.mp e
 obtain⟨h2,e⟩:=ag.mp e
 obtain⟨h3,h4⟩:=ag.mp e
 exact⟨of_decide_eq_true h1,of_decide_eq_true h2,of_decide_eq_true h3,of_decide_eq_true h4⟩
theorem jh{a b:Bool}(h:cond a b true=true):a=true→b=true:=by cases a<;>simp_all
theorem eW{hp:Hp}{k:Nat}{x:AV}{lo hi mx:Option Int}(h:fa hp k x lo hi mx=true):(sliceA hp k x lo hi mx).c:=by
 unfold fa at h
 split at h
 ·rename_i k' es full
  obtain⟨h1,h⟩:=ag.mp h
  obtain⟨h2,h3⟩:=ag.mp h
  have b:=jC h3
  refine⟨?_,jh h2,b.1,b.2.1,b.2.2.1,b.2.2.2⟩
  cases hk:Nat.beq k' k with
  | true=>exact .inl (Nat.eq_of_beq_eq_true hk)
  | false=>rw[hk]at h1;exact .inr (by simpa using h1)
 ·rename_i b
  split at h
  ·rename_i k' es he
   obtain⟨h1,h⟩:=ag.mp h
   obtain⟨h2,h3⟩:=ag.mp h
   have b:=jC h3
   simp only[sliceA,he]
   exact⟨Nat.eq_of_beq_eq_true h1,jh h2,b.1,b.2.1,b.2.2.1,b.2.2.2⟩
  ·cases h
 ·cases h
theorem OF{hp:Hp}{f k:Nat}{x:AV}{h m:Int}(e:fa hp k x none (some h) (some m)=true):(iT hp f k x h m).c:=by
 have hs:=eW e
 unfold iT
 split
 ·split
  ·rename_i b k' es he
   split
   ·simp only[sliceA,he,Option.getD_some,Option.getD_none]at hs
    exact⟨hs.1,by have:=hs.2.2;omega,by have:=hs.2.2;omega⟩
   ·exact hs
  ·exact hs
 ·exact hs
theorem sm{hp:Hp}{f k:Nat}{x:AV}{h:Int}(e:fa hp k x none (some h) none=true):cf hp f k x h=sliceA hp k x none (some h) none:=by
 unfold fa at e
 split at e
 ·rfl
 ·split at e
  ·rename_i he;simp only[cf,he]
  ·cases e
 ·cases e
theorem jP{a b:Option Nat}(h:kkB a b=true):a=b:=by
 cases a<;>cases b<;>first|rfl|(cases h;done)|exact congrArg some (Nat.eq_of_beq_eq_true h)
theorem iA{kk:Option Nat}{q:MK}(h:DP kk q=true):q.fits kk:=by
 cases kk<;>cases q<;>first|trivial|(cases h;done)|exact Nat.eq_of_beq_eq_true h
theorem nw{op:AOp}{f:Nat}{ρ:AO→AV}{hp:Hp}(h:okB op ρ hp=true):(evA op f ρ hp).c:=by
  cases op<;>simp only[okB]at h
  case move x=>trivial
  case pick c a b =>
    split at h
    · rename_i e;simp only[evA,e]
    · cases h
  case box x=>exact h
  case build z ps=>exact tM h
  case load agg size x =>
    split at h
    · rename_i b off e
      split at h
      · rename_i y hy;simp only[evA,e,hy];exact jn h
      · cases h
    · rename_i e;simp only[evA,e];exact jn h
    · cases h
  case store size a x =>
    split at h
    · rename_i b off e
      split at h
      · rename_i y hy;simp only[evA,e,hy];exact oE h
      · cases h
    · cases h
  case nilc x=>split at h<;>first|(rename_i e;simp only[evA,e];done)|cases h
  case bin op x y=>exact Eo h
  case binB op x y =>
    split at h
    · rename_i e1 e2
      simp only[evA,e1,e2]
      cases op<;>simp at h<;>trivial
    · cases h
  case eqs ks ne x y =>
    split at h
    · rename_i e1 e2
      simp only[evA,e1,e2]
      cases he:bM ks _ _ with
      | none=>rw[he]at h;cases h
      | some b=>trivial
    · cases h
  case un op x =>
    simp only[evA]
    generalize ρ x=y at h ⊢
    cases op<;>cases y with
    | val v=>cases v<;>simp at h<;>trivial
    | _=>simp at h
  case convI k x=>split at h<;>first|(rename_i e;simp only[evA,e];done)|cases h
  case convS x=>split at h<;>first|(rename_i e;simp only[evA,e];done)|cases h
  case convSB x=>split at h<;>first|(rename_i e;simp only[evA,e];done)|cases h
  case convBS x =>
    split at h
    · rename_i k es fu e
      obtain⟨h1,h2⟩:=ag.mp h
      cases Nat.eq_of_beq_eq_true h1
      simp only[evA,e]
      cases hb:cm es with
      | none=>rw[hb]at h2;cases h2
      | some bs=>trivial
    · rename_i b o n k e
      obtain⟨h1,h2⟩:=ag.mp h
      cases Nat.eq_of_beq_eq_true h1
      split at h2
      · rename_i cs e1
        split at h2
        · rename_i bs e2
          obtain⟨h3,h4⟩:=ag.mp h2
          simp only[evA,e,e1,e2]
          exact⟨Nat.le_of_ble_eq_true h3,Nat.le_trans (Nat.le_of_ble_eq_true h4) (by decide)⟩
        · cases h2
      · cases h2
    · cases h
  case sliceA n k x lo hi =>
    split at h
    · rename_i b off e
      obtain⟨h1,h2⟩:=ag.mp h
      obtain⟨h2,h3⟩:=ag.mp h2
      cases lo with
      | some _=>cases h1
      | none =>
      cases hi with
      | some _=>cases h2
      | none =>
      simp only[evA,e,Option.map_none,km]
      have:=Nat.le_of_ble_eq_true h3
      exact⟨Int.le_refl _,by omega,Int.le_refl _,by rw[show maxLen=9223372036854775807 from rfl];omega⟩
    · cases h
  case mkf=>trivial
  case mks k bytes z l c =>
    split at h
    · rename_i l' c' e1 e2
      obtain⟨h0,h⟩:=ag.mp h
      obtain⟨h1,h⟩:=ag.mp h
      obtain⟨h2,h3⟩:=ag.mp h
      have h0:=Nat.le_of_ble_eq_true h0
      have h1:=of_decide_eq_true h1
      have h2:=of_decide_eq_true h2
      have h3:=of_decide_eq_true h3
      simp only[evA,e1,e2]
      refine⟨h1,h2,?_,?_⟩
      · have g:c' * (bytes:Int)≤1048576 * 134217728:=Int.mul_le_mul h3 (by omega) (by omega) (by omega)
        omega
      · show c'≤(maxLen:Int)
        have:(1048576:Int)≤(maxLen:Int):=by decide
        omega
    · cases h
  case sliceS x lo hi =>
    split at h
    · rename_i e1
      split at h
      · rename_i e2 e3
        obtain⟨h1,h⟩:=ag.mp h
        obtain⟨h2,h3⟩:=ag.mp h
        simp only[evA,e1,e2,e3]
        exact⟨of_decide_eq_true h1,of_decide_eq_true h2,of_decide_eq_true h3⟩
      · cases h
    · cases h
  case slice k x lo hi mx =>
    split at h
    · rename_i e1 e2 e3;simp only[evA,e1,e2,e3];exact eW h
    · rename_i e1 e2 e3;simp only[evA,e1,e2,e3];exact eW h
    · rename_i e1 e2 e3;simp only[evA,e1,e2,e3];rw[sm h];exact eW h
    · rename_i e1 e2 e3;simp only[evA,e1,e2,e3];exact eW h
    · rename_i e1 e2 e3;simp only[evA,e1,e2,e3];exact OF h
    · rename_i e1 e2 e3;simp only[evA,e1,e2,e3];exact eW h
    · cases h
  case faddr o x=>split at h<;>first|(rename_i e;simp only[evA,e];done)|cases h
  case field agg o size x =>
    obtain⟨h1,h2⟩:=ag.mp h
    exact⟨h1,jn h2⟩
  case iaddr k x i =>
    split at h
    · rename_i i' e1
      split at h
      · rename_i b e2
        split at h
        · rename_i k' es e3
          obtain⟨h1,h⟩:=ag.mp h
          obtain⟨h2,h3⟩:=ag.mp h
          simp only[evA,e1,e2,e3]
          exact⟨Nat.eq_of_beq_eq_true h1,of_decide_eq_true h2,of_decide_eq_true h3⟩
        · cases h
      · rename_i b lo n e2
        split at h
        · rename_i k' es e3
          obtain⟨h1,h⟩:=ag.mp h
          obtain⟨h2,h3⟩:=ag.mp h
          simp only[evA,e1,e2,e3]
          exact⟨Nat.eq_of_beq_eq_true h1,of_decide_eq_true h2,of_decide_eq_true h3⟩
        · cases h
      · cases h
    · cases h
  case iaddrA n k x i =>
    split at h
    · rename_i i' e1
      split at h<;>first
        | (rename_i e2
           obtain⟨h2,h3⟩:=ag.mp h
           simp only[evA,e1,e2]
           exact⟨of_decide_eq_true h2,of_decide_eq_true h3⟩)
        | cases h
    · cases h
  case indexS x i =>
    split at h
    · rename_i e1 e2
      obtain⟨h2,h3⟩:=ag.mp h
      simp only[evA,e1,e2]
      exact⟨of_decide_eq_true h2,of_decide_eq_true h3⟩
    · cases h
  case ext i x =>
    split at h
    · rename_i e;simp only[evA,e];exact Nat.le_of_ble_eq_true h
    · cases h
  case len x =>
    split at h
    · rename_i e;simp only[evA,e,ij]
    · rename_i b e
      split at h
      · rename_i e2;simp only[evA,e,ij,e2]
      · cases h
    · cases h
  case lenS x=>split at h<;>first|(rename_i e;simp only[evA,e];done)|cases h
  case cap x =>
    split at h
    · rename_i k es full e;subst h;simp only[evA,e]
    · cases h
  case min xs =>
    simp only[evA]
    split at h
    · rename_i k a r e
      simp only[e,fV]
      cases he:gD dm k a r with
      | none=>rw[he]at h;cases h
      | some b=>trivial
    · cases h
  case max xs =>
    simp only[evA]
    split at h
    · rename_i k a r e
      simp only[e,fV]
      cases he:gD eK k a r with
      | none=>rw[he]at h;cases h
      | some b=>trivial
    · cases h
  case mkI t x=>split at h<;>first|(rename_i e;simp only[evA,e];done)|cases h
  case asrt t z x=>split at h<;>first|(rename_i e;simp only[evA,e];done)|cases h
  case mkm=>trivial
  case mset kk m k x =>
    split at h
    · rename_i b e1
      split at h
      · rename_i kk' ks vs q e2 e3
        obtain⟨h1,h⟩:=ag.mp h
        obtain⟨h2,h3⟩:=ag.mp h
        simp only[evA,e1,e2,e3]
        exact⟨jP h1,iA h2,h3⟩
      · cases h
    · cases h
  case mlen x =>
    split at h
    · rename_i e;simp only[evA,e];exact of_decide_eq_true h
    · cases h
  all_goals cases h
end Go.Am
namespace Go.Am
mutual
def d7(hp:Hp):AV→AV
  | .ref b off=>match hp b with
    | some (.box x)=>.rptr x off
    | _=>.ref b off
  | .vec b=>match hp b with
    | some (.vec k es)=>.sl k es false
    | _=>.vec b
  | .agg cs=>.agg (gV hp cs)
  | .func f cs=>.func f (gV hp cs)
  | .val v=>.val v
  | .sl k es full=>.sl k es full
  | .rptr x o=>.rptr x o
  | .tup cs=>.tup cs
  | .eref b i o=>.eref b i o
  | .vsub b i o=>.vsub b i o
  | .asub b i o k=>.asub b i o k
  | .mref b=>match hp b with
    | some (.map kk ks vs)=>.mp kk ks vs
    | _=>.mref b
  | .mp kk ks vs=>.mp kk ks vs
  | .unk=>.unk
def gV(hp:Hp):List AV→List AV
  | []=>[]
  | x::xs=>d7 hp x::gV hp xs
end
mutual
def lp(hp:Hp):AV→List (List AV)
  | .ref b off=>match hp b with
    | some (.box x)=>[[x]]
    | _=>[[.ref b off]]
  | .vec b=>match hp b with
    | some (.vec k es)=>[es]
    | _=>[[.vec b]]
  | .agg cs=>Ds hp cs
  | .func _ cs=>Ds hp cs
  | .val _=>[]
  | .sl _ _ _=>[]
  | .rptr _ _=>[]
  | .unk=>[]
  | .tup _=>[[.vec 0]]
  | .eref _ _ _=>[[.vec 0]]
  | .vsub _ _ _=>[[.vec 0]]
  | .asub _ _ _ _=>[[.vec 0]]
  | .mref b=>match hp b with
    | some (.map _ _ vs)=>[vs]
    | _=>[[.mref b]]
  | .mp _ _ _=>[]
def Ds(hp:Hp):List AV→List (List AV)
  | []=>[]
  | x::xs=>lp hp x++Ds hp xs
end
mutual
def xy:AV→List Nat
  | .ref b _=>[b]
  | .vec b=>[b]
  | .mref b=>[b]
  | .agg cs=>tu cs
  | .func _ cs=>tu cs
  | _=>[]
def tu:List AV→List Nat
  | []=>[]
  | x::xs=>xy x++tu xs
end
theorem kx:∀{a b:List (List AV)},dj (a++b)=true→dj a=true∧dj b=true
 | [],b,h=>⟨rfl,h⟩
 | x::a,b,h=>by
  obtain⟨h1,h2⟩:=ag.mp h
  obtain⟨h3,h4⟩:=kx (a:=a) h2
  exact⟨ag.mpr ⟨h1,h3⟩,h4⟩
mutual
theorem EE{hp:Hp}{foot:List Nat}:∀{x:AV},dj (lp hp x)=true→(∀b∈xy x,b∈foot)→dE foot hp x (d7 hp x)
  | .ref b off,h,hf=>by
    rw[lp]at h
    rw[d7]
    split at h
    · rename_i x hx
      exact dE.ref (hf b (by simp[xy])) hx (AV.pureB_ok (ag.mp (ag.mp h).1).1)
    · cases h
  | .vec b,h,hf=>by
    rw[lp]at h
    rw[d7]
    split at h
    · rename_i k es hx
      exact dE.vec (hf b (by simp[xy])) hx (aC (ag.mp h).1)
    · cases h
  | .agg cs,h,hf=>by
    rw[lp]at h;rw[d7]
    exact dE.agg (je h λb hb=>hf b (by simpa[xy]using hb))
  | .func f cs,h,hf=>by
    rw[lp]at h;rw[d7]
    exact dE.func (je h λb hb=>hf b (by simpa[xy]using hb))
  | .val v,_,_=>by rw[d7];exact dE.pure trivial
  | .sl _ _ _,_,_=>by rw[d7];exact dE.pure trivial
  | .rptr _ _,_,_=>by rw[d7];exact dE.pure trivial
  | .unk,_,_=>by rw[d7];exact dE.pure trivial
  | .tup _,h,_=>by rw[lp]at h;cases h
  | .eref _ _ _,h,_=>by rw[lp]at h;cases h
  | .vsub _ _ _,h,_=>by rw[lp]at h;cases h
  | .asub _ _ _ _,h,_=>by rw[lp]at h;cases h
  | .mref b,h,hf=>by
    rw[lp]at h
    rw[d7]
    split at h
    · rename_i kk ks vs hx
      exact dE.map (hf b (by simp[xy])) hx (aC (ag.mp h).1)
    · cases h
  | .mp _ _ _,_,_=>by rw[d7];exact dE.pure trivial
theorem je{hp:Hp}{foot:List Nat}:∀{xs:List AV},dj (Ds hp xs)=true→(∀b∈tu xs,b∈foot)→jH foot hp xs (gV hp xs)
  | [],_,_=>by rw[gV];trivial
  | x::xs,h,hf=>by
    rw[Ds]at h;rw[gV]
    obtain⟨h1,h2⟩:=kx h
    exact⟨EE h1 λb hb=>hf b (by simp[tu,hb]),je h2 λb hb=>hf b (by simp[tu,hb])⟩
end
mutual
theorem uV{hp:Hp}:∀{x:AV},x.pureB=true→d7 hp x=x
  | .agg cs,h=>by rw[d7,gc (xs:=cs) h]
  | .func f cs,h=>by rw[d7,gc (xs:=cs) h]
  | .val v,_=>by rw[d7]
  | .sl _ _ _,_=>by rw[d7]
  | .rptr _ _,_=>by rw[d7]
  | .unk,_=>by rw[d7]
  | .tup _,h=>by rw[d7]
  | .ref _ _,h=>by cases h
  | .vec _,h=>by cases h
  | .eref _ _ _,h=>by cases h
  | .vsub _ _ _,h=>by cases h
  | .asub _ _ _ _,h=>by cases h
  | .mref _,h=>by cases h
  | .mp _ _ _,_=>by rw[d7]
theorem gc{hp:Hp}:∀{xs:List AV},bR xs=true→gV hp xs=xs
  | [],_=>by rw[gV]
  | x::xs,h=>by
    obtain⟨h1,h2⟩:=ag.mp h
    rw[gV,uV h1,gc h2]
end
theorem sK{n:Nat}{x:Blk}(h:ew n x=true)(π:Nat→Nat):ia π x=x.ren π:=by
 cases x with
 | box x=>rfl
 | vec k es=>rw[Blk.ren,be _ (aC h)];rfl
 | row k es l c=>rw[Blk.ren,be _ (aC h)];rfl
 | map kk ks vs=>rw[Blk.ren,be _ (aC h)];rfl
 | mst _ _ _ _ _=>cases h
 | itr _ _ _ _=>cases h
theorem sL{n:Nat}{x:Blk}(h:ew n x=true):x.bel n:=by
 cases x with
 | box x=>exact AV.belB_ok h
 | vec k es=>exact bg (aC h)
 | row k es l c=>exact bg (aC h)
 | map kk ks vs=>exact bg (aC h)
 | mst _ _ _ _ _=>cases h
 | itr _ _ _ _=>cases h
def handP(bs:List Nat)(f:Nat)(h':List (Option Blk)):Eff:=ft (h'.zipIdx.map λp=>(aR bs f p.2,p.1.map (ia (aR bs f))))
def BY(bs:List Nat)(f:Nat)(h':List (Option Blk)):List Nat:=(List.range h'.length).map (aR bs f)
def wL:List Nat→Bool
 | []=>true
 | b::r=>cond (r.all λc=>!Nat.beq b c) (wL r) false
theorem ny:∀{l:List Nat},wL l=true→l.Nodup
 | [],_=>List.nodup_nil
 | b::r,h=>by
  obtain⟨h1,h2⟩:=ag.mp h
  refine List.nodup_cons.mpr ⟨λhb=>?_,ny h2⟩
  have:=List.all_eq_true.mp h1 b hb
  simp at this
theorem mF{l:List (Option Blk×Nat)}{bs:List Nat}{f:Nat}(h:∀p∈l,p.1.map (Blk.ren (aR bs f))=p.1.map (ia (aR bs f))) :
  ft (l.map λp=>(aR bs f p.2,p.1.map (Blk.ren (aR bs f))))=ft (l.map λp=>(aR bs f p.2,p.1.map (ia (aR bs f)))):=by
 have:(l.map λp=>(aR bs f p.2,p.1.map (Blk.ren (aR bs f))))=l.map λp=>(aR bs f p.2,p.1.map (ia (aR bs f))):=List.map_congr_left λp hp=>by rw[h p hp]
 rw[this]
theorem HP{n:Nat}{bs:List Nat}{f:Nat}{h':List (Option Blk)}(h:∀x,some x∈h'→ew n x=true):ek bs f h'=handP bs f h':=by
 refine mF λp hp=>?_
 cases e:p.1 with
 | none=>rfl
 | some x =>
  have hx:some x∈h':=by
   rw[←e];exact List.fst_mem_of_mem_zipIdx hp
  show some (x.ren _)=some (ia _ x)
  rw[sK (h x hx)]
theorem Iu{l:List (Nat×Option Blk)}{b:Nat}(h:ft l b≠none):b∈l.map (·.1):=by
 induction l with
 | nil=>exact absurd rfl h
 | cons p l ih =>
  obtain⟨c,x⟩:=p
  by_cases e:b=c
  ·subst e;simp
  ·have:ft ((c,x)::l) b=ft l b:=by show(if b=c then _ else _)=_;rw[if_neg e]
   rw[this]at h
   simp only[List.map_cons,List.mem_cons]
   exact .inr (ih h)
theorem DK{bs:List Nat}{f:Nat}{h':List (Option Blk)}{b:Nat}(h:handP bs f h' b≠none):b∈BY bs f h':=by
 have:=Iu h
 rw[List.map_map]at this
 obtain⟨p,hp,rfl⟩:=List.mem_map.mp this
 refine List.mem_map.mpr ⟨p.2,List.mem_range.mpr ?_,rfl⟩
 have:=List.snd_lt_of_mem_zipIdx hp
 simpa using this
theorem bj.handP{P:Program}{n:Nat}{fid:FuncId}{args:List AV}{f:Nat}{hp:Hp}{r:AV}{h:List Blk}{h':List (Option Blk)}(hf:nj P fid)(hs:bc P fid args h r h')(bs:List Nat)
  (g:eT args h r h') (hl:bs.length=h.length) (hnd:bs.Nodup) (hb:bs.map hp=h.map λx=>some (ia (aR bs f) x)) :
  bj P n fid (dQ (aR bs f) args) f hp bs (r.ren (aR bs f)) (Am.handP bs f h'):=by
 rw[←HP g.h']
 refine bj.hand hf hs bs hl hnd g.args (λi b x e1 e2=>?_) g.le g.le' g.r λx hx=>sL (g.h' x hx)
 have hx:x∈h:=List.mem_of_getElem? e2
 refine⟨sL (g.hp x hx),?_⟩
 rw[←sK (g.hp x hx)]
 have:(bs.map hp)[i]?=(h.map λx=>some (ia (aR bs f) x))[i]?:=by rw[hb]
 rw[List.getElem?_map,List.getElem?_map,e1,e2]at this
 simpa using this
theorem bj.subargs{P:Program}{n:Nat}{fid:FuncId}{args args':List AV}{f:Nat}{hp:Hp}{foot:List Nat}{v:AV}{e:Eff}(h:eF args args')(hc:bj P n fid args' f hp foot v e):bj P n fid args f hp foot v e:=
 ⟨hc.1,λc A μ fr tm' hp' a w cargs H h1 h2 h3=>hc.2 c A μ fr tm' hp' a w cargs H h1 h2 (h.rvl h3)⟩
end Go.Am
namespace Go.Am
theorem aq{b:Bool}{R:Prop}(h:cond b R False):b=true∧R:=by
 cases b with
 | true=>exact⟨rfl,h⟩
 | false=>exact h.elim
section
variable {P : Program} {Sf : Nat → Type} {T : Type}
abbrev KO(P:Program)(Sf:Nat→Type)(T:Type):=An P Sf T→S2→List Nat×List Nat→Prop
def Jx(fid:FuncId)(args:List AV)(dst:Option Nat)(f:Nat)(s:S2)(a:An P Sf T)(K:KO P Sf T):Prop:=
 match a with
 | .callP c a'=>cond (Nat.beq fid c.f) (mC c.sh (gV s.hp args)=c.args∧cond (bR args) (K a' ⟨aH dst c.r s.tm,s.hp⟩ ([],[]))
   (cond c.r.flatB (cond (dj (Ds s.hp args)) (K a' ⟨aH dst c.r s.tm,s.hp⟩ (tu args,[])) False) False)) False
 | .callA c _ a'=>cond (Nat.beq fid c.f) (mC c.sh args=c.args∧K a' ⟨aH dst c.r s.tm,s.hp⟩ ([],[])) False
 | .callH bs c a'=>cond (Nat.beq fid c.f) (cond (Nat.beq bs.length c.h.length) (cond (wL bs) (mC c.sh args=dQ (aR bs f) c.args∧(bs.map s.hp=c.h.map λx=>some (ia (aR bs f) x)) ∧
   K a' ⟨aH dst (c.r.ren (aR bs f)) s.tm,bZ (handP bs f c.h') s.hp⟩ (bs,BY bs f c.h')) False) False) False
 | _=>False
def FY(o:aF)(f:Nat)(s:S2)(a:An P Sf T)(K:KO P Sf T):Prop:=
 cond (okB o.op (evO s.tm) s.hp) (K a ⟨aH o.dst (evA o.op f (evO s.tm) s.hp).v s.tm,bp (evA o.op f (evO s.tm) s.hp) s.hp⟩ (rdH o.op s.tm,wrH (evA o.op f (evO s.tm) s.hp))) False
def fo(o:aF)(f:Nat)(s:S2)(a:An P Sf T)(K:KO P Sf T):Prop:=
 match o.op with
 | .call g xs=>match evO s.tm g with
  | .func fid caps=>Jx fid (xs.map (evO s.tm)++caps) o.dst f s a K
  | _=>False
 | .lit k n z ps=>cond (M4 k n (ps.map λ(i,x)=>(i,evO s.tm x))) (cond (He (ps.map λ(i,x)=>(i,evO s.tm x)))
   (K a ⟨aH o.dst (.sl k (nb (List.replicate n z) (ps.map λ(i,x)=>(i,evO s.tm x))) true) s.tm,s.hp⟩ (rdH o.op s.tm,[])) False) False
 | .isNil ptr ne x=>cond ptr (match D5 (evO s.tm x)with
  | some t=>K a ⟨aH o.dst (.bool (t != ne)) s.tm,s.hp⟩ (rdH o.op s.tm,[])
  | none=>False) False
 | _=>FY o f s a K
def elR(o:aF)(f:Nat)(s:S2){α:Type}(v:α→AV)(l:List α)(k:α→An P Sf T)(K:KO P Sf T):Prop:=
 match o.op with
 | .iaddr kk x i=>match evO s.tm i with
  | .val (.int _ i)=>match evO s.tm x with
   | .sl k' es _=>es=l.map v∧cond (Nat.beq k' kk) (cond (decide (0≤i)) (cond (decide (i<(l.length:Int))) (∀x,l[i.toNat]?=some x→K (k x) ⟨aH o.dst (.rptr (v x) 0) s.tm,s.hp⟩ (rdH o.op s.tm,[])) False) False) False
   | _=>False
  | _=>False
 | .load agg size x=>match evO s.tm x with
  | .eref b i off=>match s.hp b with
   | some (.vec _ es)=>es=l.map v∧cond (decide (i<l.length)) (∀x,l[i]?=some x→cond (sA (v x) off size agg) (K (k x) ⟨aH o.dst (fc (v x) off size agg) s.tm,s.hp⟩ (rdH o.op s.tm,[])) False) False
   | _=>False
  | .ref b off=>match s.hp b with
   | some (.box (.agg cs))=>cs=l.map v∧cond (cond agg false (Nat.beq size 1)) (cond (decide (off<l.length)) (∀x,l[off]?=some x→K (k x) ⟨aH o.dst (v x) s.tm,s.hp⟩ (rdH o.op s.tm,[])) False) False
   | _=>False
  | .rptr (.agg cs) off=>cs=l.map v∧cond (cond agg false (Nat.beq size 1)) (cond (decide (off<l.length)) (∀x,l[off]?=some x→K (k x) ⟨aH o.dst (v x) s.tm,s.hp⟩ (rdH o.op s.tm,[])) False) False
  | _=>False
 | .indexA n kk agg x i=>match evO s.tm i with
  | .val (.int _ i)=>match evO s.tm x with
   | .agg cs=>cs=l.map v∧cond (cond agg false (Nat.beq kk 1)) (cond (decide (0≤i)) (cond (decide (i<n)) (cond (decide (i.toNat<l.length)) (∀x,l[i.toNat]?=some x→K (k x) ⟨aH o.dst (v x) s.tm,s.hp⟩ (rdH o.op s.tm,[])) False) False) False) False
   | _=>False
  | _=>False
 | _=>False
def TE(o:aF)(f:Nat)(s:S2){α:Type}(v:α→List AV)(l:List α)(i n:Nat)(k:α→An P Sf T)(K:KO P Sf T):Prop:=
 match o.op with
 | .load agg size x=>match evO s.tm x with
  | .ref b off=>match s.hp b with
   | some (.box (.agg cs))=>cs=l.flatMap v∧off=i * n∧cond agg (cond (Nat.beq size n) (cond (decide (i<l.length)) (∀x,l[i]?=some x→K (k x) ⟨aH o.dst (.agg (v x)) s.tm,s.hp⟩ (rdH o.op s.tm,[])) False) False) False
   | _=>False
  | _=>False
 | _=>False
def stR(o:aF)(f:Nat)(s:S2){α:Type}(v:α→AV)(l:List α)(g:α→α)(k:α→An P Sf T)(K:KO P Sf T):Prop:=
 match o.op with
 | .store size a x=>match evO s.tm a with
  | .eref b i off=>match s.hp b with
   | some (.vec kk es)=>es=l.map v∧cond (decide (i<l.length)) (∀y,l[i]?=some y→cond (KU (v y) off size (evO s.tm x)) (ef (v y) off (evO s.tm x)=v (g y) ∧
     K (k y) ⟨aH o.dst .unk s.tm,upd (upd s.hp b none) b (some (.vec kk ((l.set i (g y)).map v)))⟩ (rdH o.op s.tm,[b,b])) False) False
   | _=>False
  | .ref b off=>match s.hp b with
   | some (.box (.agg cs))=>cs=l.map v∧cond (Nat.beq size 1) (cond (evO s.tm x).solid (cond (evO s.tm x).isAgg False (cond (decide (off<l.length)) (∀y,l[off]?=some y→evO s.tm x=v (g y) ∧
     K (k y) ⟨aH o.dst .unk s.tm,upd (upd s.hp b none) b (some (.box (.agg ((l.set off (g y)).map v))))⟩ (rdH o.op s.tm,[b,b])) False)) False) False
   | _=>False
  | _=>False
 | _=>False
def Q3(o:aF)(f:Nat)(s:S2){α:Type}(v:α→AV)(l:List α)(k:α→An P Sf T)(K:KO P Sf T):Prop:=
 match o.op with
 | .store size a x=>match evO s.tm a with
  | .eref b i off=>match s.hp b with
   | some (.vec kk es)=>es=l.map v∧cond (decide (i<l.length)) (∀y,l[i]?=some y→cond (KU (v y) off size (evO s.tm x))
     (K (k y) ⟨aH o.dst .unk s.tm,upd (upd s.hp b none) b (some (.vec kk ((l.map v).set i (ef (v y) off (evO s.tm x)))))⟩ (rdH o.op s.tm,[b,b])) False) False
   | _=>False
  | _=>False
 | _=>False
def KT(hp:Hp)(k:Nat)(x:AV)(K:List AV→Prop):Prop:=match x with
 | .vsub b lo n=>match hp b with
  | some (.vec k' es)=>cond (Nat.beq k' k) (cond (decide (lo+n≤es.length)) (K ((es.drop lo).take n)) False) False
  | _=>False
 | x=>match gM hp k x with
  | some ys=>K ys
  | none=>False
theorem A3{hp:Hp}{k:Nat}{x:AV}{K:List AV→Prop}(h:KT hp k x K):∃ys,gM hp k x=some ys∧K ys:=by
 unfold KT at h
 split at h
 ·rename_i b lo n
  split at h
  ·rename_i k' es e
   obtain⟨h1,q⟩:=aq h
   obtain⟨h2,q'⟩:=aq q
   refine⟨_,?_,q'⟩
   simp only[gM,e]
   rw[if_pos ⟨Nat.eq_of_beq_eq_true h1,of_decide_eq_true h2⟩]
  ·exact h.elim
 ·split at h
  ·rename_i ys e;exact⟨ys,e,h⟩
  ·exact h.elim
def UZ(o:aF)(f:Nat)(s:S2){α:Type}(v:α→AV)(l xs:List α)(a:An P Sf T)(K:KO P Sf T):Prop:=
 match o.op with
 | .append kk bytes sx x=>KT s.hp kk (evO s.tm x) λys=>match evO s.tm sx with
   | .sl _ es full=>es=l.map v∧ys=xs.map v∧cond (cond full (cond (Nat.ble bytes 134217728) es.isEmpty false) false) (cond (decide (l.length+xs.length≤1048576))
     (K a ⟨aH o.dst (.vec f) s.tm,upd s.hp f (some (.vec kk ((l++xs).map v)))⟩ (rdH o.op s.tm,[f])) False) False
   | .vec b=>match s.hp b with
    | some (.vec k' es)=>es=l.map v∧ys=xs.map v∧cond (cond (Nat.beq k' kk) (Nat.ble bytes 134217728) false) (cond (decide (l.length+xs.length≤1048576))
      (K a ⟨aH o.dst (.vec f) s.tm,upd (upd s.hp b none) f (some (.vec kk ((l++xs).map v)))⟩ (rdH o.op s.tm,[b,f])) False) False
    | _=>False
   | _=>False
 | _=>False
def JX(o:aF)(f:Nat)(s:S2){α:Type}(v:α→AV)(l xs:List α)(a:An P Sf T)(K:KO P Sf T):Prop:=
 match o.op with
 | .append kk bytes sx x=>KT s.hp kk (evO s.tm x) λys=>match evO s.tm sx with
   | .sl k' es full=>es=l.map v∧ys=xs.map v∧cond (cond full (cond (Nat.ble bytes 134217728) (Nat.beq k' kk) false) false) (cond (decide (0<xs.length)) (cond (decide (l.length+xs.length≤1048576))
     (K a ⟨aH o.dst (.vec f) s.tm,upd s.hp f (some (.vec kk ((l++xs).map v)))⟩ (rdH o.op s.tm,[f])) False) False) False
   | _=>False
 | _=>False
def KI(o:aF)(f:Nat)(s:S2){α:Type}(v:α→AV)(l:List α)(fl:Bool)(a:An P Sf T)(K:KO P Sf T):Prop:=
 match o.op with
 | .slice kk x lo hi mx=>match evO s.tm x with
  | .sl k' es full=>es=l.map v∧cond (Nat.beq k' kk) (match iE (evO s.tm) lo,iE (evO s.tm) hi,iE (evO s.tm) mx with
   | some lo,some hi,some mx=>cond (cond mx.isSome hi.isSome true) (cond (dD l.length (lo.getD 0) (hi.getD l.length) (mx.getD l.length))
     (cond fl (cond (mx.isSome || full) (cond (decide (hi.getD l.length=mx.getD l.length))
       (K a ⟨aH o.dst (.sl kk (((l.take (hi.getD l.length).toNat).drop (lo.getD 0).toNat).map v) true) s.tm,s.hp⟩ (rdH o.op s.tm,[])) False) False)
      (K a ⟨aH o.dst (.sl kk (((l.take (hi.getD l.length).toNat).drop (lo.getD 0).toNat).map v) (cond (mx.isSome || full) (decide (hi.getD l.length=mx.getD l.length)) false)) s.tm,s.hp⟩ (rdH o.op s.tm,[]))) False) False
   | _,_,_=>False) False
  | .vec b=>match s.hp b with
   | some (.vec k' es)=>es=l.map v∧cond (Nat.beq k' kk) (cond (decide (0<l.length)) (match iE (evO s.tm) lo,iE (evO s.tm) hi,mx with
    | some lo,some hi,none=>cond (dD l.length (lo.getD 0) (hi.getD l.length) l.length)
      (K a ⟨aH o.dst (.vsub b (lo.getD 0).toNat (hi.getD l.length-lo.getD 0).toNat) s.tm,s.hp⟩ (rdH o.op s.tm,[])) False
    | some none,some (some h),some mx=>match evO s.tm mx with
     | .val (.int _ m)=>cond (decide (h=m)) (cond (dD l.length 0 h h)
       (K a ⟨aH o.dst (.vec f) s.tm,upd (upd s.hp b none) f (some (.vec kk ((l.take h.toNat).map v)))⟩ (rdH o.op s.tm,[b,f])) False) False
     | _=>False
    | _,_,_=>False) False) False
   | _=>False
  | _=>False
 | .load agg size x=>match evO s.tm x with
  | .ref b off=>match s.hp b with
   | some (.box (.agg cs))=>cs=l.map v∧cond agg (cond (Nat.beq off 0) (cond (decide (l.length=size)) (K a ⟨aH o.dst (.agg (l.map v)) s.tm,s.hp⟩ (rdH o.op s.tm,[])) False) False) False
   | _=>False
  | _=>False
 | _=>False
def SbB(es:List AV)(x:AV):Prop:=∃bs,cm es=some bs∧AV.str ⟨bs.toArray⟩=x
def repR(o:aF)(f:Nat)(s:S2){α:Type}(v:α→AV)(x:α)(a:An P Sf T)(K:KO P Sf T):Prop:=
 match o.op with
 | .mks kk bytes z l c=>match evO s.tm l with
  | .val (.int .i64 n)=>z=v x∧cond (okB (.mks kk bytes z l c) (evO s.tm) s.hp) (K a ⟨aH o.dst (.vec f) s.tm,upd s.hp f (some (.vec kk ((List.replicate n.toNat x).map v)))⟩ (rdH o.op s.tm,[f])) False
  | _=>False
 | .convBS y=>match evO s.tm y with
  | .sl kk es _=>SbB es (v x)∧cond (Nat.beq kk 1) (K a ⟨aH o.dst (v x) s.tm,s.hp⟩ (rdH o.op s.tm,[])) False
  | .vec b=>match s.hp b with
   | some (.vec kk es)=>SbB es (v x)∧cond (Nat.beq kk 1) (K a ⟨aH o.dst (v x) s.tm,s.hp⟩ (rdH o.op s.tm,[])) False
   | _=>False
  | _=>False
 | _=>False
def ownR(o:aF)(f:Nat)(s:S2)(a:An P Sf T)(K:KO P Sf T):Prop:=
 match o.op with
 | .lit k n z ps=>cond (M4 k n (ps.map λ(i,x)=>(i,evO s.tm x)))
   (K a ⟨aH o.dst (.vec f) s.tm,upd s.hp f (some (.vec k (nb (List.replicate n z) (ps.map λ(i,x)=>(i,evO s.tm x)))))⟩ ([],[f])) False
 | _=>False
def mnR(o:aF)(f:Nat)(s:S2)(q:MN)(a:An P Sf T)(K:KO P Sf T):Prop:=
 match q with
 | .get de kf _ vf l x z=>match o.op with
  | .mget kk zz ok m k=>match fN s.hp (evO s.tm m),(evO s.tm k).key with
   | some (kk',ks,vs),some q=>ks=l.map (λp=>kf p.1)∧vs=l.map (λp=>vf p.2)∧q=kf x∧zz=vf z∧cond (kkB kk' kk) (cond (DP kk (kf x))
     (K a ⟨aH o.dst (cond ok (.tup [vf (ay l x z),.bool (bn l x)]) (vf (ay l x z))) s.tm,s.hp⟩ (rdH o.op s.tm,[])) False) False
   | _,_=>False
  | _=>False
 | .put de kf _ vf l x v=>match o.op with
  | .mset kk m k y=>match evO s.tm m with
   | .mref b=>match s.hp b,(evO s.tm k).key with
    | some (.map kk' ks vs),some q=>ks=l.map (λp=>kf p.1)∧vs=l.map (λp=>vf p.2)∧q=kf x∧evO s.tm y=vf v∧cond (kkB kk' kk) (cond (DP kk (kf x)) (cond (vf v).solid
      (K a ⟨aH o.dst .unk s.tm,upd (upd s.hp b none) b (some (.map kk ((bJ l x v).map λp=>kf p.1) ((bJ l x v).map λp=>vf p.2)))⟩ (rdH o.op s.tm,[b,b])) False) False) False
    | _,_=>False
   | _=>False
  | _=>False
 | .del de kf _ vf l x=>match o.op with
  | .mdel kk m k=>match evO s.tm m with
   | .mref b=>match s.hp b,(evO s.tm k).key with
    | some (.map kk' ks vs),some q=>ks=l.map (λp=>kf p.1)∧vs=l.map (λp=>vf p.2)∧q=kf x∧cond (kkB kk' kk) (cond (DP kk (kf x))
      (K a ⟨aH o.dst (.tup []) s.tm,upd (upd s.hp b none) b (some (.map kk ((mdl l x).map λp=>kf p.1) ((mdl l x).map λp=>vf p.2)))⟩ (rdH o.op s.tm,[b,b])) False) False
    | _,_=>False
   | _=>False
  | _=>False
 | .getB hs de kf _ vf l x z=>match o.op with
  | .mget kk zz ok m k=>match fN s.hp (evO s.tm m),(evO s.tm k).key with
   | some (kk',ks,vs),some q=>ks=l.map (λp=>kf p.1)∧vs=l.map (λp=>vf p.2)∧q=kf x∧cond (kkB kk' kk) (cond (DP kk (kf x)) (cond (bn l x)
     (K (cond hs a (a.l f)) ⟨aH o.dst (cond ok (.tup [vf (ay l x z),.bool true]) (vf (ay l x z))) s.tm,s.hp⟩ (rdH o.op s.tm,[]))
     (cond hs False (K (a.r f) ⟨aH o.dst (cond ok (.tup [zz,.bool false]) zz) s.tm,s.hp⟩ (rdH o.op s.tm,[])))) False) False
   | _,_=>False
  | _=>False
def opR(o:aF)(f:Nat)(s:S2):An P Sf T→KO P Sf T→Prop
 | .el g v l k,K=>cond (Nat.beq g f) (elR o f s v l k K) (fo o f s (.el g v l k) K)
 | .elA g v l i n hv k,K=>cond (Nat.beq g f) (TE o f s v l i n k K) (fo o f s (.elA g v l i n hv k) K)
 | .st g v l x k,K=>cond (Nat.beq g f) (stR o f s v l x k K) (fo o f s (.st g v l x k) K)
 | .stI g v l k,K=>cond (Nat.beq g f) (Q3 o f s v l k K) (fo o f s (.stI g v l k) K)
 | .app g v l xs a',K=>cond (Nat.beq g f) (UZ o f s v l xs a' K) (fo o f s (.app g v l xs a') K)
 | .appF g v l xs a',K=>cond (Nat.beq g f) (JX o f s v l xs a' K) (fo o f s (.appF g v l xs a') K)
 | .sub g v l fl a',K=>cond (Nat.beq g f) (KI o f s v l fl a' K) (fo o f s (.sub g v l fl a') K)
 | .rep g v x a',K=>cond (Nat.beq g f) (repR o f s v x a' K) (fo o f s (.rep g v x a') K)
 | .own g a',K=>cond (Nat.beq g f) (ownR o f s a' K) (fo o f s (.own g a') K)
 | .mn g q a',K=>cond (Nat.beq g f) (mnR o f s q a' K) (fo o f s (.mn g q a') K)
 | .req g p k,K=>cond (Nat.beq g f) (∃h:p,opR o f s (k h) K) (fo o f s (.req g p k) K)
 | a,K=>fo o f s a K
def iG(P:Program)(n:Nat)(o:aF)(f:Nat)(s s':S2)(l:List Nat×List Nat):Prop:=
 (∀K:S2→Prop,K s'→exT P n o f s K)∧(∀K:S2→List Nat×List Nat→Prop,K s' l→exD P n o f s K)
def oW:AOp→Bool
 | .call _ _=>false
 | .lit _ _ _ _=>false
 | .isNil _ _ _=>false
 | .rng _=>false
 | .nxt _=>false
 | .ent _=>false
 | _=>true
theorem ml{n:Nat}{o:aF}{f:Nat}{s:S2}(hp:oW o.op=true)(hc:(evA o.op f (evO s.tm) s.hp).c) :
  iG P n o f s ⟨aH o.dst (evA o.op f (evO s.tm) s.hp).v s.tm,bp (evA o.op f (evO s.tm) s.hp) s.hp⟩ (rdH o.op s.tm,wrH (evA o.op f (evO s.tm) s.hp)):=by
 obtain⟨d,op,g⟩:=o
 refine⟨λK h=>?_,λK h=>?_⟩<;>cases op<;>first|exact⟨hc,h⟩|cases hp
theorem aV{n:Nat}{o:aF}{f:Nat}{s:S2}(hp:oW o.op=true){c:Prop}{v:AV}{rm:Option Nat}{ad:Option (Nat×Blk)}(he:evA o.op f (evO s.tm) s.hp={ c:=c,v:=v,rm:=rm,ad:=ad })(hc:c) :
    iG P n o f s ⟨aH o.dst v s.tm,bp { c:=True,rm:=rm,ad:=ad } s.hp⟩ (rdH o.op s.tm,rm.toList++ad.toList.map (·.1)):=by
  have:=ml (P:=P) (n:=n) (o:=o) (f:=f) (s:=s) hp (by rw[he];exact hc)
  rw[he]at this
  exact this
theorem Jw{n:Nat}{g:AO}{xs:List AO}{dst:Option Nat}{gd:Option (Nat×Bool)}{f:Nat}{s:S2}{a:An P Sf T}{K:KO P Sf T}{fid:FuncId}{caps:List AV}(hg:evO s.tm g=.func fid caps)
  (h:Jx fid (xs.map (evO s.tm)++caps) dst f s a K):∃a' s' l,K a' s' l∧iG P n ⟨dst,.call g xs,gd⟩ f s s' l:=by
 unfold Jx at h
 split at h
 ·rename_i c a'
  obtain⟨b1,q⟩:=aq h
  clear h
  have b1:=Nat.eq_of_beq_eq_true b1
  subst b1
  obtain⟨h2,h⟩:=q
  cases hp:bR (xs.map (evO s.tm)++caps)with
  | true =>
   rw[hp]at h
   rw[gc hp]at h2
   have hs:eF (xs.map (evO s.tm)++caps) c.args:=h2 ▸ eC _ _
   have hc:bj P n c.f (xs.map (evO s.tm)++caps) f s.hp [] c.r cB:=bj.pure c.fn (c.ok.sub hs Sub.refl) (aC hp)
   exact⟨_,_,_,h,λK hK=>⟨c.f,caps,[],c.r,cB,hg,.inl hc,hK⟩,λK hK=>⟨c.f,caps,[],c.r,cB,[],hg,.inl hc,λb hb=>absurd rfl hb,hK⟩⟩
  | false =>
   rw[hp]at h
   obtain⟨h3,h⟩:=aq h
   obtain⟨h4,h⟩:=aq h
   have hs:eF (gV s.hp (xs.map (evO s.tm)++caps)) c.args:=h2 ▸ eC _ _
   have hc:bj P n c.f (xs.map (evO s.tm)++caps) f s.hp (tu (xs.map (evO s.tm)++caps)) c.r cB:=bj.lend c.fn (c.ok.sub hs Sub.refl) (je h4 λb hb=>hb) (AV.flatB_ok h3)
   exact⟨_,_,_,h,λK hK=>⟨c.f,caps,_,c.r,cB,hg,.inl hc,hK⟩,λK hK=>⟨c.f,caps,_,c.r,cB,[],hg,.inl hc,λb hb=>absurd rfl hb,hK⟩⟩
 ·rename_i c hp a'
  obtain⟨b1,q⟩:=aq h
  clear h
  have b1:=Nat.eq_of_beq_eq_true b1
  subst b1
  obtain⟨h2,h⟩:=q
  have hc:bj P n c.f (xs.map (evO s.tm)++caps) f s.hp [] c.r cB:=bj.subargs (h2 ▸ eC _ _) (bj.pure c.fn c.ok hp)
  exact⟨_,_,_,h,λK hK=>⟨c.f,caps,[],c.r,cB,hg,.inl hc,hK⟩,λK hK=>⟨c.f,caps,[],c.r,cB,[],hg,.inl hc,λb hb=>absurd rfl hb,hK⟩⟩
 ·rename_i bs c a'
  obtain⟨b1,q⟩:=aq h
  clear h
  have b1:=Nat.eq_of_beq_eq_true b1
  subst b1
  obtain⟨h2,q⟩:=aq q
  obtain⟨h3,h4,h5,h⟩:=aq q
  have hs:eF (xs.map (evO s.tm)++caps) (dQ (aR bs f) c.args):=h4 ▸ eC _ _
  have hc:=bj.subargs hs (bj.handP (n:=n) c.fn c.ok bs c.good (Nat.eq_of_beq_eq_true h2) (ny h3) h5)
  exact⟨_,_,_,h,λK hK=>⟨c.f,caps,_,_,_,hg,.inl hc,hK⟩,λK hK=>⟨c.f,caps,_,_,_,_,hg,.inl hc,λb hb=>DK hb,hK⟩⟩
 ·exact h.elim
theorem cD{n:Nat}{o:aF}{f:Nat}{s:S2}{a:An P Sf T}{K:KO P Sf T}(h:fo o f s a K):∃a' s' l,K a' s' l∧iG P n o f s s' l:=by
  have plain:oW o.op=true→FY o f s a K→∃a' s' l,K a' s' l∧iG P n o f s s' l:=λhp h=>by
    obtain⟨h1,h⟩:=aq h
    exact⟨_,_,_,h,ml hp (nw h1)⟩
  obtain⟨d,op,g⟩:=o
  cases op
  case call gg xs =>
    simp only[fo]at h
    split at h
    · rename_i fid caps e;exact Jw e h
    · exact h.elim
  case lit k N z ps =>
    obtain⟨h1,h⟩:=aq h
    obtain⟨h2,h⟩:=aq h
    exact⟨_,_,_,h,λK hK=>.inl ⟨⟨jx h1,lT h2⟩,hK⟩,λK hK=>.inl ⟨⟨jx h1,lT h2⟩,hK⟩⟩
  case isNil ptr ne x =>
    simp only[fo]at h
    cases ptr with
    | false=>exact h.elim
    | true =>
      cases hv:D5 (evO s.tm x)with
      | none=>simp only[hv,cond_true]at h
      | some t =>
        simp only[hv,cond_true]at h
        obtain⟨k1,k2⟩:=Bw (hp:=s.hp) hv
        have he:evA (.isNil true ne x) f (evO s.tm) s.hp={ c:=True,v:=.bool (t != ne) }:=by simp only[evA,hv]
        refine⟨_,_,_,h,λK hK=>⟨k1,λt' q=>?_⟩,λK hK=>?_⟩
        · rw[k2 t' q];exact hK
        · show(evA (.isNil true ne x) f (evO s.tm) s.hp).c∧K ⟨aH d (evA (.isNil true ne x) f (evO s.tm) s.hp).v s.tm,bp (evA (.isNil true ne x) f (evO s.tm) s.hp) s.hp⟩ (rdH (.isNil true ne x) s.tm,wrH (evA (.isNil true ne x) f (evO s.tm) s.hp))
          rw[he]
          exact⟨trivial,hK⟩
  case rng x=>exact(id h:False).elim
  case nxt x=>exact(id h:False).elim
  case ent x=>exact(id h:False).elim
  all_goals exact plain rfl h
theorem getD_of{α:Type}{l:List α}{v:α→AV}{i:Nat}{x:α}(h:l[i]?=some x):(l.map v).getD i .unk=v x:=by
 rw[List.getD_eq_getElem?_getD,List.getElem?_map,h];rfl
theorem lF{cs:List AV}{off:Nat}:fc (.agg cs) off 1 false=cs.getD off .unk:=by
 unfold fc
 rw[if_neg (by simp[AV.isAgg])]
 rfl
theorem TD{n:Nat}{o:aF}{f:Nat}{s:S2}{α:Type}{v:α→AV}{l:List α}{k:α→An P Sf T}{K:KO P Sf T}(h:elR o f s v l k K):∃a' s' l',K a' s' l'∧iG P n o f s s' l':=by
 obtain⟨d,op,g⟩:=o
 cases op
 case iaddr kk x i =>
  simp only[elR]at h
  split at h
  ·rename_i ki i' e1
   split at h
   ·rename_i k' es full e2
    obtain⟨rfl,h⟩:=h
    obtain⟨h1,h⟩:=aq h
    obtain⟨h2,h⟩:=aq h
    obtain⟨h3,h⟩:=aq h
    have h2:=of_decide_eq_true h2
    have h3:=of_decide_eq_true h3
    have hi:i'.toNat<l.length:=by omega
    have hx:l[i'.toNat]?=some l[i'.toNat]:=List.getElem?_eq_getElem hi
    refine⟨_,_,_,h _ hx,aV rfl (rm:=none) (ad:=none) (c:=k'=kk∧0≤i'∧i'<((l.map v).length:Int)) ?_ ⟨Nat.eq_of_beq_eq_true h1,h2,by rw[List.length_map];exact h3⟩⟩
    simp only[evA,e1,e2,getD_of hx]
   ·exact h.elim
  ·exact h.elim
 case load agg size x =>
  simp only[elR]at h
  split at h
  ·rename_i b i off e1
   split at h
   ·rename_i kk es e2
    obtain⟨rfl,h⟩:=h
    obtain⟨h1,h⟩:=aq h
    have h1:=of_decide_eq_true h1
    have hx:l[i]?=some l[i]:=List.getElem?_eq_getElem h1
    obtain⟨h2,h⟩:=aq (h _ hx)
    refine⟨_,_,_,h,aV rfl (rm:=none) (ad:=none) (c:=i<(l.map v).length∧cI (v l[i]) off size agg) ?_ ⟨by rw[List.length_map];exact h1,jn h2⟩⟩
    simp only[evA,e1,e2,getD_of hx]
   ·exact h.elim
  ·rename_i b off e1
   split at h
   ·rename_i cs e2
    obtain⟨rfl,h⟩:=h
    obtain⟨h0,h⟩:=aq h
    obtain⟨h1,h⟩:=aq h
    have h1:=of_decide_eq_true h1
    have hx:l[off]?=some l[off]:=List.getElem?_eq_getElem h1
    cases agg with
    | true=>cases h0
    | false =>
     have h0:size=1:=Nat.eq_of_beq_eq_true h0
     subst h0
     refine⟨_,_,_,h _ hx,aV rfl (rm:=none) (ad:=none) (c:=cI (.agg (l.map v)) off 1 false) ?_ ⟨rfl,by simp only[AV.cells,List.length_map];omega,λ_=>rfl⟩⟩
     simp only[evA,e1,e2,lF,getD_of hx]
   ·exact h.elim
  ·rename_i cs off e1
   obtain⟨rfl,h⟩:=h
   obtain⟨h0,h⟩:=aq h
   obtain⟨h1,h⟩:=aq h
   have h1:=of_decide_eq_true h1
   have hx:l[off]?=some l[off]:=List.getElem?_eq_getElem h1
   cases agg with
   | true=>cases h0
   | false =>
    have h0:size=1:=Nat.eq_of_beq_eq_true h0
    subst h0
    refine⟨_,_,_,h _ hx,aV rfl (rm:=none) (ad:=none) (c:=cI (.agg (l.map v)) off 1 false) ?_ ⟨rfl,by simp only[AV.cells,List.length_map];omega,λ_=>rfl⟩⟩
    simp only[evA,e1,lF,getD_of hx]
  ·exact h.elim
 case indexA N kk agg x i =>
  simp only[elR]at h
  split at h
  ·rename_i ki i' e1
   split at h
   ·rename_i cs e2
    obtain⟨rfl,h⟩:=h
    obtain⟨h0,h⟩:=aq h
    obtain⟨h1,h⟩:=aq h
    obtain⟨h2,h⟩:=aq h
    obtain⟨h3,h⟩:=aq h
    have h3:=of_decide_eq_true h3
    have hx:l[i'.toNat]?=some l[i'.toNat]:=List.getElem?_eq_getElem h3
    cases agg with
    | true=>cases h0
    | false =>
     have h0:kk=1:=Nat.eq_of_beq_eq_true h0
     subst h0
     refine⟨_,_,_,h _ hx,aV rfl (rm:=none) (ad:=none) (c:=(AV.agg (l.map v)).isAgg=true∧0≤i'∧i'<N∧cI (.agg (l.map v)) (i'.toNat * 1) 1 false) ?_
      ⟨rfl,of_decide_eq_true h1,of_decide_eq_true h2,rfl,by simp only[AV.cells,List.length_map];omega,λ_=>rfl⟩⟩
     simp only[evA,e1,e2,AV.cells,Nat.mul_one,getD_of hx]
     rfl
   ·exact h.elim
  ·exact h.elim
 all_goals exact h.elim
theorem DO{α:Type}{l:List α}{v:α→List AV}{n:Nat}(hv:∀x,(v x).length=n):(l.flatMap v).length=l.length * n:=by
 induction l with
 | nil=>simp
 | cons a l ih=>rw[List.flatMap_cons,List.length_append,hv,ih,List.length_cons,Nat.succ_mul,Nat.add_comm]
theorem nL{α:Type}{v:α→List AV}{n:Nat}(hv:∀x,(v x).length=n):∀{l:List α} {i:Nat} {x:α},l[i]?=some x→((l.flatMap v).drop (i * n)).take n=v x
 | [],i,x,h=>by simp at h
 | a::l,0,x,h=>by
  simp only[List.getElem?_cons_zero,Option.some.injEq]at h
  subst h
  rw[Nat.zero_mul,List.drop_zero,List.flatMap_cons,List.take_append_of_le_length (by rw[hv];exact Nat.le_refl _),List.take_of_length_le (by rw[hv];exact Nat.le_refl _)]
 | a::l,i+1,x,h=>by
  rw[List.getElem?_cons_succ]at h
  rw[List.flatMap_cons,Nat.succ_mul,List.drop_append,List.drop_eq_nil_of_le (by rw[hv];omega),List.nil_append,hv,Nat.add_sub_cancel]
  exact nL hv h
theorem lE{cs:List AV}{off size:Nat}:fc (.agg cs) off size true=.agg ((cs.drop off).take size):=by
 unfold fc
 split
 ·rename_i h
  obtain⟨rfl,h,-⟩:=h
  have h:cs.length=size:=h
  rw[List.drop_zero,List.take_of_length_le (by omega)]
 ·rfl
theorem N0{n:Nat}{o:aF}{f:Nat}{s:S2}{α:Type}{v:α→List AV}{l:List α}{i m:Nat}(hv:∀x,(v x).length=m){k:α→An P Sf T}{K:KO P Sf T}(h:TE o f s v l i m k K):∃a' s' l',K a' s' l'∧iG P n o f s s' l':=by
 obtain⟨d,op,g⟩:=o
 cases op
 case load agg size x =>
  simp only[TE]at h
  split at h
  ·rename_i b off e1
   split at h
   ·rename_i cs e2
    obtain⟨rfl,rfl,h⟩:=h
    obtain⟨h0,q⟩:=aq h
    obtain⟨h1,q'⟩:=aq q
    obtain⟨h2,q''⟩:=aq q'
    have h1:=Nat.eq_of_beq_eq_true h1
    have h2:=of_decide_eq_true h2
    clear h q q'
    subst h0;subst h1
    have hx:l[i]?=some l[i]:=List.getElem?_eq_getElem h2
    have hl:i * size+size≤(l.flatMap v).length:=by
     rw[DO hv,←Nat.succ_mul];exact Nat.mul_le_mul_right _ h2
    refine⟨_,_,_,q'' _ hx,aV rfl (rm:=none) (ad:=none) (c:=cI (.agg (l.flatMap v)) (i * size) size true) ?_ ⟨rfl,hl,λe=>by cases e⟩⟩
    simp only[evA,e1,e2,lE,nL hv hx]
   ·exact h.elim
  ·exact h.elim
 all_goals exact h.elim
theorem Fl{α:Type}{l:List α}{v:α→AV}{i:Nat}{x:α}:(l.map v).set i (v x)=(l.set i x).map v:=by rw[List.map_set]
theorem vt{cs:List AV}{off:Nat}{x:AV}(h:off<cs.length):gW cs off [x]=cs.set off x:=by
 unfold gW
 rw[List.set_eq_take_append_cons_drop,if_pos h]
 simp
theorem Q2{n:Nat}{o:aF}{f:Nat}{s:S2}{α:Type}{v:α→AV}{l:List α}{g:α→α}{k:α→An P Sf T}{K:KO P Sf T}(h:stR o f s v l g k K):∃a' s' l',K a' s' l'∧iG P n o f s s' l':=by
 obtain⟨d,op,gd⟩:=o
 cases op
 case store size a x =>
  simp only[stR]at h
  split at h
  ·rename_i b i off e1
   split at h
   ·rename_i kk es e2
    obtain⟨rfl,h⟩:=h
    obtain⟨h1,h⟩:=aq h
    have h1:=of_decide_eq_true h1
    have hx:l[i]?=some l[i]:=List.getElem?_eq_getElem h1
    obtain⟨h2,h3,h⟩:=aq (h _ hx)
    refine⟨_,_,_,h,aV rfl (v:=.unk) (rm:=some b) (ad:=some (b,.vec kk ((l.set i (g l[i])).map v))) (c:=i<(l.map v).length∧ku (v l[i]) off size (evO s.tm x)) ?_ ⟨by rw[List.length_map];exact h1,oE h2⟩⟩
    simp only[evA,e1,e2,getD_of hx,h3,Fl]
   ·exact h.elim
  ·rename_i b off e1
   split at h
   ·rename_i cs e2
    obtain⟨rfl,h⟩:=h
    obtain⟨h0,h⟩:=aq h
    obtain⟨h1,h⟩:=aq h
    cases h2:(evO s.tm x).isAgg with
    | true=>rw[h2]at h;exact h.elim
    | false =>
     rw[h2]at h
     obtain⟨h3,h⟩:=aq h
     have h3:=of_decide_eq_true h3
     have hx:l[off]?=some l[off]:=List.getElem?_eq_getElem h3
     obtain⟨h4,h⟩:=h _ hx
     have h0:size=1:=Nat.eq_of_beq_eq_true h0
     subst h0
     have hc:(evO s.tm x).cells=[evO s.tm x]:=by
      revert h2;cases evO s.tm x<;>simp[AV.isAgg,AV.cells]
     refine⟨_,_,_,h,aV rfl (v:=.unk) (rm:=some b) (ad:=some (b,.box (.agg ((l.set off (g l[off])).map v)))) (c:=ku (.agg (l.map v)) off 1 (evO s.tm x)) ?_ ⟨rfl,h1,by rw[hc];rfl,by simp only[AV.cells,List.length_map];omega⟩⟩
     simp only[evA,e1,e2]
     unfold ef
     rw[if_neg (by rw[h2];simp[AV.isAgg]),hc]
     simp only[AV.cells]
     rw[vt (by rw[List.length_map];exact h3),h4,Fl]
   ·exact h.elim
  ·exact h.elim
 all_goals exact h.elim
theorem KR{n:Nat}{o:aF}{f:Nat}{s:S2}{α:Type}{v:α→AV}{l:List α}{k:α→An P Sf T}{K:KO P Sf T}(h:Q3 o f s v l k K):∃a' s' l',K a' s' l'∧iG P n o f s s' l':=by
 obtain⟨d,op,gd⟩:=o
 cases op
 case store size a x =>
  simp only[Q3]at h
  split at h
  ·rename_i b i off e1
   split at h
   ·rename_i kk es e2
    obtain⟨rfl,h⟩:=h
    obtain⟨h1,h⟩:=aq h
    have h1:=of_decide_eq_true h1
    have hx:l[i]?=some l[i]:=List.getElem?_eq_getElem h1
    obtain⟨h2,h⟩:=aq (h _ hx)
    refine⟨_,_,_,h,aV rfl (v:=.unk) (rm:=some b) (ad:=some (b,.vec kk ((l.map v).set i (ef (v l[i]) off (evO s.tm x))))) (c:=i<(l.map v).length∧ku (v l[i]) off size (evO s.tm x)) ?_ ⟨by rw[List.length_map];exact h1,oE h2⟩⟩
    simp only[evA,e1,e2,getD_of hx]
   ·exact h.elim
  ·exact h.elim
 all_goals exact h.elim
theorem oJ{a b bytes:Nat}(h1:bytes≤134217728)(h2:a+b≤1048576):(a+b) * bytes≤2 ^ 47∧a+b≤maxLen:=by
 have:(a+b) * bytes≤1048576 * 134217728:=Nat.mul_le_mul h2 h1
 have h3:(1048576:Nat)≤maxLen:=by decide
 omega
theorem Pf{n:Nat}{o:aF}{f:Nat}{s:S2}{α:Type}{v:α→AV}{l xs:List α}{a:An P Sf T}{K:KO P Sf T}(h:UZ o f s v l xs a K):∃a' s' l',K a' s' l'∧iG P n o f s s' l':=by
 obtain⟨d,op,gd⟩:=o
 cases op
 case append kk bytes sx x =>
  simp only[UZ]at h
  obtain⟨ys,e0,h⟩:=A3 h
  ·skip
   split at h
   ·rename_i k' es full e1
    obtain⟨rfl,rfl,h⟩:=h
    obtain⟨h0,h⟩:=aq h
    obtain⟨h1,h⟩:=aq h
    obtain⟨h2,h0⟩:=ag.mp h0
    obtain⟨h3,h4⟩:=ag.mp h0
    have hl:l=[]:=by cases l<;>simp_all
    subst hl
    have h1:=of_decide_eq_true h1
    have hr:=oJ (Nat.le_of_ble_eq_true h3) h1
    simp only[List.length_nil,Nat.zero_add]at hr
    refine⟨_,_,_,h,aV rfl (v:=.vec f) (rm:=none) (ad:=some (f,.vec kk (([]++xs).map v))) (c:=full=true∧(xs.map v).length * bytes≤2 ^ 47∧(xs.map v).length≤maxLen) ?_ ⟨h2,by rw[List.length_map];exact hr⟩⟩
    simp only[evA,e0,e1,bN,List.map_nil,if_pos,List.nil_append]
   ·rename_i b e1
    split at h
    ·rename_i k' es e2
     obtain⟨rfl,rfl,h⟩:=h
     obtain⟨h0,h⟩:=aq h
     obtain⟨h1,h⟩:=aq h
     obtain⟨h2,h3⟩:=ag.mp h0
     have h1:=of_decide_eq_true h1
     have hr:=oJ (Nat.le_of_ble_eq_true h3) h1
     refine⟨_,_,_,h,aV rfl (v:=.vec f) (rm:=some b) (ad:=some (f,.vec kk ((l++xs).map v))) (c:=k'=kk∧((l.map v).length+(xs.map v).length) * bytes≤2 ^ 47∧(l.map v).length+(xs.map v).length≤maxLen) ?_
      ⟨Nat.eq_of_beq_eq_true h2,by simp only[List.length_map];exact hr⟩⟩
     simp only[evA,e0,e1,e2,bN,List.map_append]
    ·exact h.elim
   ·exact h.elim
 all_goals exact h.elim
theorem JW{n:Nat}{o:aF}{f:Nat}{s:S2}{α:Type}{v:α→AV}{l xs:List α}{a:An P Sf T}{K:KO P Sf T}(h:JX o f s v l xs a K):∃a' s' l',K a' s' l'∧iG P n o f s s' l':=by
 obtain⟨d,op,gd⟩:=o
 cases op
 case append kk bytes sx x =>
  simp only[JX]at h
  obtain⟨ys,e0,h⟩:=A3 h
  ·skip
   split at h
   ·rename_i k' es full e1
    obtain⟨rfl,rfl,h⟩:=h
    obtain⟨h0,h⟩:=aq h
    obtain⟨h5,h⟩:=aq h
    obtain⟨h1,h⟩:=aq h
    obtain⟨h2,h0⟩:=ag.mp h0
    obtain⟨h3,h4⟩:=ag.mp h0
    have h1:=of_decide_eq_true h1
    have h5:=of_decide_eq_true h5
    have hr:=oJ (Nat.le_of_ble_eq_true h3) h1
    by_cases hl:l=[]
    ·subst hl
     simp only[List.length_nil,Nat.zero_add]at hr
     refine⟨_,_,_,h,aV rfl (v:=.vec f) (rm:=none) (ad:=some (f,.vec kk (([]++xs).map v))) (c:=full=true∧(xs.map v).length * bytes≤2 ^ 47∧(xs.map v).length≤maxLen) ?_ ⟨h2,by rw[List.length_map];exact hr⟩⟩
     simp only[evA,e0,e1,bN,List.map_nil,if_pos,List.nil_append]
    ·refine⟨_,_,_,h,aV rfl (v:=.vec f) (rm:=none) (ad:=some (f,.vec kk ((l++xs).map v))) (c:=k'=kk∧full=true∧((l.map v).length+(xs.map v).length) * bytes≤2 ^ 47∧(l.map v).length+(xs.map v).length≤maxLen∧0<(xs.map v).length) ?_
      ⟨Nat.eq_of_beq_eq_true h4,h2,by simp only[List.length_map];exact hr.1,by simp only[List.length_map];exact hr.2,by rw[List.length_map];exact h5⟩⟩
     have hm:¬l.map v=[]:=by simpa using hl
     simp only[evA,e0,e1,bN,if_neg hm,List.map_append]
   ·exact h.elim
 all_goals exact h.elim
theorem KH{n:Nat}{o:aF}{f:Nat}{s:S2}{α:Type}{v:α→AV}{l:List α}{fl:Bool}{a:An P Sf T}{K:KO P Sf T}(h:KI o f s v l fl a K):∃a' s' l',K a' s' l'∧iG P n o f s s' l':=by
  obtain⟨d,op,gd⟩:=o
  cases op
  case load agg size x =>
    simp only[KI]at h
    split at h
    · rename_i b off e1
      split at h
      · rename_i cs e2
        obtain⟨rfl,h⟩:=h
        obtain⟨h0,q⟩:=aq h
        obtain⟨h1,q'⟩:=aq q
        obtain⟨h2,q''⟩:=aq q'
        have h1:=Nat.eq_of_beq_eq_true h1
        have h2:=of_decide_eq_true h2
        clear h q q'
        subst h0;subst h1;subst h2
        refine⟨_,_,_,q'',aV rfl (rm:=none) (ad:=none) (c:=cI (.agg (l.map v)) 0 l.length true) ?_ ⟨rfl,by show 0+l.length≤(l.map v).length;simp,λe=>by cases e⟩⟩
        simp only[evA,e1,e2,lE]
        rw[List.drop_zero,List.take_of_length_le (by simp)]
      · exact h.elim
    · exact h.elim
  case slice kk x lo hi mx =>
    simp only[KI]at h
    split at h
    · rename_i k' es full e1
      obtain⟨rfl,h⟩:=h
      obtain⟨h0,h⟩:=aq h
      have h0:=Nat.eq_of_beq_eq_true h0
      subst h0
      split at h
      · rename_i lo' hi' mx' e2 e3 e4
        obtain⟨h1,h⟩:=aq h
        obtain⟨h2,h⟩:=aq h
        have hb:=jC h2
        have key:∀lo hi mx:Option Int,(mx.isSome=true→hi.isSome=true)→(0≤lo.getD 0∧lo.getD 0≤hi.getD l.length∧hi.getD l.length≤mx.getD l.length∧mx.getD l.length≤(l.length:Int)) →
            sliceA s.hp k' (.sl k' (l.map v) full) lo hi mx={ c:=(sliceA s.hp k' (.sl k' (l.map v) full) lo hi mx).c,v:=.sl k' (((l.take (hi.getD l.length).toNat).drop (lo.getD 0).toNat).map v) (cond (mx.isSome || full) (decide (hi.getD l.length=mx.getD l.length)) false) } ∧
            (sliceA s.hp k' (.sl k' (l.map v) full) lo hi mx).c:=by
          intro lo hi mx g1 g2
          refine⟨?_,?_⟩
          · have e9:∀a b:Bool,(a && b)=cond b a false:=by decide
            simp only[sliceA,List.length_map,List.map_drop,List.map_take,e9]
          · simp only[sliceA,List.length_map]
            exact⟨.inl trivial,g1,g2⟩
        have opt:∀{y:Option AO} {y':Option Int},iE (evO s.tm) y=some y'→(y.map (evO s.tm)=none∧y'=none)∨∃kk i,y.map (evO s.tm)=some (.val (.int kk i))∧y'=some i:=by
          intro y y' e
          cases y with
          | none=>simp[iE]at e;exact .inl ⟨rfl,e.symm⟩
          | some y =>
            simp only[iE]at e
            split at e
            · rename_i kk i e'
              simp at e
              exact .inr ⟨kk,i,by simp[e'],e.symm⟩
            · cases e
        have hev:evA (.slice k' x lo hi mx) f (evO s.tm) s.hp=sliceA s.hp k' (.sl k' (l.map v) full) lo' hi' mx'∨(mx'.isSome=true∧lo'=none∧hi'=none)∨(mx'.isSome=true∧hi'=none):=by
          rcases opt e2 with⟨a1,rfl⟩|⟨q1,i1,a1,rfl⟩<;>rcases opt e3 with⟨a2,rfl⟩|⟨q2,i2,a2,rfl⟩<;>rcases opt e4 with⟨a3,rfl⟩|⟨q3,i3,a3,rfl⟩
          · left;simp only[evA,a1,a2,a3,e1,iT]
          · right;left;exact⟨rfl,rfl,rfl⟩
          · left;simp only[evA,a1,a2,a3,e1,cf]
          · left;simp only[evA,a1,a2,a3,e1,iT]
          · left;simp only[evA,a1,a2,a3,e1,iT]
          · right;right;exact⟨rfl,rfl⟩
          · left;simp only[evA,a1,a2,a3,e1,iT]
          · left;simp only[evA,a1,a2,a3,e1,iT]
        obtain⟨k1,k2⟩:=key lo' hi' mx' (jh h1) hb
        rcases hev with hev|⟨q1,q2,q3⟩|⟨q1,q2⟩
        · cases fl with
          | true =>
            obtain⟨p1,h⟩:=aq h
            obtain⟨p2,h⟩:=aq h
            rw[p1,p2]at k1
            exact⟨_,_,_,h,aV rfl (rm:=none) (ad:=none) (hev.trans k1) k2⟩
          | false=>exact⟨_,_,_,h,aV rfl (rm:=none) (ad:=none) (hev.trans k1) k2⟩
        · have:=jh h1 q1;rw[q3]at this;cases this
        · have:=jh h1 q1;rw[q2]at this;cases this
      · exact h.elim
    · rename_i b e1
      split at h
      · rename_i k' es e0
        obtain⟨rfl,h⟩:=h
        obtain⟨h0,h⟩:=aq h
        have h0:=Nat.eq_of_beq_eq_true h0
        subst h0
        obtain⟨h9,h⟩:=aq h
        have h9:=of_decide_eq_true h9
        cases e2:iE (evO s.tm) lo with
        | none=>simp only[e2]at h
        | some lo' =>
        cases e3:iE (evO s.tm) hi with
        | none=>simp only[e2,e3]at h
        | some hi' =>
        cases mx with
        | some m =>
          cases lo' with
          | some l0=>simp only[e2,e3]at h
          | none =>
          cases hi' with
          | none=>simp only[e2,e3]at h
          | some hh =>
          simp only[e2,e3]at h
          split at h
          · rename_i kk2 mm e4
            obtain⟨p1,h3⟩:=aq h
            obtain⟨p2,h4⟩:=aq h3
            have p1:=of_decide_eq_true p1
            clear h h3
            subst p1
            have hb:=jC p2
            have a1:lo.map (evO s.tm)=none:=by
              cases lo with
              | none=>rfl
              | some y=>simp only[iE]at e2;split at e2<;>cases e2
            have a2:∃kk3,hi.map (evO s.tm)=some (.val (.int kk3 hh)):=by
              cases hi with
              | none=>simp[iE]at e3
              | some y =>
                simp only[iE]at e3
                split at e3
                · rename_i kk3 i3 e5
                  simp at e3;subst e3
                  exact⟨kk3,by simp[e5]⟩
                · cases e3
            obtain⟨kk3,a2⟩:=a2
            have hev:evA (.slice k' x lo hi (some m)) f (evO s.tm) s.hp={ c:=k'=k'∧0≤hh∧hh≤((l.map v).length:Int),v:=.vec f,rm:=some b,ad:=some (f,.vec k' ((l.take hh.toNat).map v)) }:=by
              simp only[evA,a1,a2,Option.map_some,e4,e1,iT,e0]
              rw[if_pos ⟨trivial,by rw[List.length_map];exact h9⟩,List.map_take]
            exact⟨_,_,_,h4,aV rfl (rm:=some b) (ad:=some (f,.vec k' ((l.take hh.toNat).map v))) hev ⟨rfl,hb.2.1,by rw[List.length_map];exact hb.2.2.2⟩⟩
          · exact h.elim
        | none =>
          simp only[e2,e3]at h
          obtain⟨h2,h⟩:=aq h
          have hb:=jC h2
          have key:∀lo hi:Option Int,(0≤lo.getD 0∧lo.getD 0≤hi.getD l.length∧hi.getD l.length≤l.length∧(l.length:Int)≤(l.length:Int)) →
              sliceA s.hp k' (.vec b) lo hi none={ c:=(sliceA s.hp k' (.vec b) lo hi none).c,v:=.vsub b (lo.getD 0).toNat (hi.getD l.length-lo.getD 0).toNat }∧(sliceA s.hp k' (.vec b) lo hi none).c:=by
            intro lo hi g2
            refine⟨?_,?_⟩
            · simp only[sliceA,e0,List.length_map,h9,and_self,if_true]
            · simp only[sliceA,e0,List.length_map]
              exact⟨trivial,λh=>by simp at h,g2⟩
          have opt:∀{y:Option AO} {y':Option Int},iE (evO s.tm) y=some y'→(y.map (evO s.tm)=none∧y'=none)∨∃kk i,y.map (evO s.tm)=some (.val (.int kk i))∧y'=some i:=by
            intro y y' e
            cases y with
            | none=>simp[iE]at e;exact .inl ⟨rfl,e.symm⟩
            | some y =>
              simp only[iE]at e
              split at e
              · rename_i kk i e'
                simp at e
                exact .inr ⟨kk,i,by simp[e'],e.symm⟩
              · cases e
          have hres:∀h:Int,cf s.hp f k' (.vec b) h=sliceA s.hp k' (.vec b) none (some h) none:=λh=>by simp only[cf,e0]
          have hev:evA (.slice k' x lo hi none) f (evO s.tm) s.hp=sliceA s.hp k' (.vec b) lo' hi' none:=by
            rcases opt e2 with⟨a1,rfl⟩|⟨q1,i1,a1,rfl⟩<;>rcases opt e3 with⟨a2,rfl⟩|⟨q2,i2,a2,rfl⟩<;>simp only[evA,a1,a2,e1,Option.map_none,hres]
          obtain⟨k1,k2⟩:=key lo' hi' hb
          exact⟨_,_,_,h,aV rfl (rm:=none) (ad:=none) (hev.trans k1) k2⟩
      · exact h.elim
    · exact h.elim
  all_goals exact h.elim
theorem Ln{n:Nat}{o:aF}{f:Nat}{s:S2}{α:Type}{v:α→AV}{x:α}{a:An P Sf T}{K:KO P Sf T}(h:repR o f s v x a K):∃a' s' l',K a' s' l'∧iG P n o f s s' l':=by
 obtain⟨d,op,gd⟩:=o
 cases op
 case mks kk bytes z l c =>
  simp only[repR]at h
  split at h
  ·rename_i m e1
   obtain⟨rfl,h⟩:=h
   obtain⟨h1,h⟩:=aq h
   have hc:=nw (f:=f) h1
   simp only[okB]at h1
   split at h1
   ·rename_i l' c' e2 e3
    rw[e1]at e2;cases e2
    refine⟨_,_,_,h,aV rfl (v:=.vec f) (rm:=none) (ad:=some (f,.vec kk ((List.replicate m.toNat x).map v))) (c:=(evA (.mks kk bytes (v x) l c) f (evO s.tm) s.hp).c) ?_ hc⟩
    simp only[evA,e1,e3,List.map_replicate]
   ·cases h1
  ·exact h.elim
 case convBS y =>
  simp only[repR]at h
  split at h
  ·rename_i kk es fu e1
   obtain⟨⟨bs,e2,e3⟩,h⟩:=h
   obtain⟨h1,h⟩:=aq h
   cases Nat.eq_of_beq_eq_true h1
   rw[←e3]at h
   exact⟨_,_,_,h,aV rfl (rm:=none) (ad:=none) (c:=True) (by simp only[evA,e1,e2]) trivial⟩
  ·rename_i b e1
   split at h
   ·rename_i kk es e0
    obtain⟨⟨bs,e2,e3⟩,h⟩:=h
    obtain⟨h1,h⟩:=aq h
    cases Nat.eq_of_beq_eq_true h1
    rw[←e3]at h
    exact⟨_,_,_,h,aV rfl (rm:=none) (ad:=none) (c:=True) (by simp only[evA,e1,e0,e2]) trivial⟩
   ·exact h.elim
  ·exact h.elim
 all_goals exact h.elim
theorem LC{n:Nat}{o:aF}{f:Nat}{s:S2}{a:An P Sf T}{K:KO P Sf T}(h:ownR o f s a K):∃a' s' l',K a' s' l'∧iG P n o f s s' l':=by
 obtain⟨d,op,gd⟩:=o
 cases op
 case lit k N z ps =>
  obtain⟨h1,h⟩:=aq h
  exact⟨_,_,_,h,λK hK=>.inr ⟨jx h1,hK⟩,λK hK=>.inr ⟨jx h1,hK⟩⟩
 all_goals exact h.elim
theorem ic{b:Bool}{X Y:Prop}(h:cond b X Y):X∨Y:=by cases b with
  | true=>exact .inl h
  | false=>exact .inr h
section
variable {α β : Type} [DecidableEq α]
theorem n0{γ:Type}[DecidableEq γ]{g:α→γ}(hg:∀x y,g x=g y→x=y)(x:α):∀l:List α,(l.map g).idxOf (g x)=l.idxOf x
 | []=>rfl
 | y::l=>by
  rw[List.map_cons,List.idxOf_cons,List.idxOf_cons,n0 hg x l]
  by_cases e:y=x
  ·subst e;simp
  ·have:g y≠g x:=λh=>e (hg _ _ h)
   rw[beq_eq_false_iff_ne.mpr this,beq_eq_false_iff_ne.mpr e]
omit [DecidableEq α] in
theorem Mx{γ:Type}{g:α→γ}(hg:∀x y,g x=g y→x=y){x:α}{l:List α}:g x∈l.map g↔x∈l:=
 ⟨λh=>by obtain⟨y,hy,e⟩:=List.mem_map.mp h;exact hg _ _ e ▸ hy,List.mem_map_of_mem⟩
variable {kf : α → MK} {vf : β → AV} {l : List (α × β)} {x : α}
omit [DecidableEq α] in
theorem lU:l.map (λp=>kf p.1)=(au l).map kf:=by rw[au,List.map_map];rfl
theorem kZ(hi:∀x y,kf x=kf y→x=y):(l.map λp=>kf p.1).idxOf (kf x)=fG l x:=by rw[lU,n0 hi];rfl
omit [DecidableEq α] in
theorem eA(hi:∀x y,kf x=kf y→x=y):kf x∈(l.map λp=>kf p.1)↔x∈au l:=by rw[lU,Mx hi]
theorem eR(h:x∈au l):fG l x<l.length:=by
 have:=List.idxOf_lt_length_of_mem h
 rwa [au,List.length_map]at this
theorem kU(h:x ∉ au l):fG l x=l.length:=by
 have:=List.idxOf_eq_length h
 rwa [au,List.length_map]at this
theorem sQ(h:x∈au l):(l[fG l x]'(eR h)).1=x:=by
 have h1:(au l)[fG l x]'(List.idxOf_lt_length_of_mem h)=x:=List.getElem_idxOf _
 simpa[au]using h1
theorem sR(hi:∀x y,kf x=kf y→x=y)(z:β)(ok:Bool) :
  dB (l.map λp=>kf p.1) (l.map λp=>vf p.2) (kf x) (vf z) ok=cond ok (.tup [vf (ay l x z),.bool (bn l x)]) (vf (ay l x z)):=by
 unfold dB bn ay
 by_cases h:x∈au l
 ·have e:l[fG l x]?=some (l[fG l x]'(eR h)):=List.getElem?_eq_getElem (eR h)
  rw[if_pos ((eA hi).mpr h),kZ hi,decide_eq_true h,List.getD_eq_getElem?_getD,List.getElem?_map,e]
  cases ok<;>rfl
 ·have e:l[fG l x]?=none:=by rw[kU h];simp
  rw[if_neg (λq=>h ((eA hi).mp q)),decide_eq_false h,e]
  cases ok<;>rfl
theorem nz(hi:∀x y,kf x=kf y→x=y){z:β}{zz:AV}{ok:Bool}(hm:bn l x=true) :
  dB (l.map λp=>kf p.1) (l.map λp=>vf p.2) (kf x) zz ok=cond ok (.tup [vf (ay l x z),.bool true]) (vf (ay l x z)):=by
 have h:x∈au l:=of_decide_eq_true hm
 unfold dB ay
 have e:l[fG l x]?=some (l[fG l x]'(eR h)):=List.getElem?_eq_getElem (eR h)
 rw[if_pos ((eA hi).mpr h),kZ hi,List.getD_eq_getElem?_getD,List.getElem?_map,e]
 cases ok<;>rfl
theorem D7(hi:∀x y,kf x=kf y→x=y){zz:AV}{ok:Bool}(hm:bn l x=false) :
  dB (l.map λp=>kf p.1) (l.map λp=>vf p.2) (kf x) zz ok=cond ok (.tup [zz,.bool false]) zz:=by
 have h:x ∉ au l:=of_decide_eq_false hm
 unfold dB
 rw[if_neg (λq=>h ((eA hi).mp q))]
 cases ok<;>rfl
theorem sP(hi:∀x y,kf x=kf y→x=y)(kk:Option Nat)(v:β) :
  ez kk (l.map λp=>kf p.1) (l.map λp=>vf p.2) (kf x) (vf v)=.map kk ((bJ l x v).map λp=>kf p.1) ((bJ l x v).map λp=>vf p.2):=by
 unfold ez bJ
 by_cases h:x∈au l
 ·rw[if_pos ((eA hi).mpr h),if_pos h,kZ hi,List.map_set,List.map_set]
  congr 1
  have:(l.map λp=>kf p.1)[fG l x]'(by rw[List.length_map];exact eR h)=kf x:=by rw[List.getElem_map,sQ h]
  rw[←this,List.set_getElem_self]
 ·rw[if_neg (λq=>h ((eA hi).mp q)),if_neg h,List.map_append,List.map_append];rfl
theorem sS(hi:∀x y,kf x=kf y→x=y)(kk:Option Nat) :
  lQ kk (l.map λp=>kf p.1) (l.map λp=>vf p.2) (kf x)=.map kk ((mdl l x).map λp=>kf p.1) ((mdl l x).map λp=>vf p.2):=by
 unfold lQ mdl
 by_cases h:x∈au l
 ·rw[if_pos ((eA hi).mpr h),kZ hi,bE,bE]
 ·rw[if_neg (λq=>h ((eA hi).mp q)),kU h,List.eraseIdx_of_length_le (Nat.le_refl _)]
end
theorem St{n:Nat}{o:aF}{f:Nat}{s:S2}{q:MN}{a:An P Sf T}{K:KO P Sf T}(h:mnR o f s q a K):∃a' s' l',K a' s' l'∧iG P n o f s s' l':=by
 obtain⟨d,op,gd⟩:=o
 cases q with
 | get de kf hi vf l x z =>
  cases op<;>simp only[mnR]at h
  case mget kk zz ok m k =>
   split at h
   ·rename_i kk' ks vs q e1 e2
    obtain⟨rfl,rfl,rfl,rfl,h⟩:=h
    obtain⟨h1,h⟩:=aq h
    obtain⟨h2,h⟩:=aq h
    refine⟨_,_,_,h,aV rfl (rm:=none) (ad:=none) (c:=kk'=kk∧(kf x).fits kk) ?_ ⟨jP h1,iA h2⟩⟩
    simp only[evA,e1,e2,sR hi]
   ·exact h.elim
  all_goals exact h.elim
 | put de kf hi vf l x v =>
  cases op<;>simp only[mnR]at h
  case mset kk m k y =>
   split at h
   ·rename_i b e0
    split at h
    ·rename_i kk' ks vs q e1 e2
     obtain⟨rfl,rfl,rfl,e3,h⟩:=h
     obtain⟨h1,h⟩:=aq h
     obtain⟨h2,h⟩:=aq h
     obtain⟨h3,h⟩:=aq h
     refine⟨_,_,_,h,aV rfl (rm:=some b) (ad:=some (b,_)) (c:=kk'=kk∧(kf x).fits kk∧(vf v).solid=true) ?_ ⟨jP h1,iA h2,h3⟩⟩
     simp only[evA,e0,e1,e2,e3,sP hi]
    ·exact h.elim
   ·exact h.elim
  all_goals exact h.elim
 | del de kf hi vf l x =>
  cases op<;>simp only[mnR]at h
  case mdel kk m k =>
   split at h
   ·rename_i b e0
    split at h
    ·rename_i kk' ks vs q e1 e2
     obtain⟨rfl,rfl,rfl,h⟩:=h
     obtain⟨h1,h⟩:=aq h
     obtain⟨h2,h⟩:=aq h
     refine⟨_,_,_,h,aV rfl (rm:=some b) (ad:=some (b,_)) (c:=kk'=kk∧(kf x).fits kk) ?_ ⟨jP h1,iA h2⟩⟩
     simp only[evA,e0,e1,e2,sS hi]
    ·exact h.elim
   ·exact h.elim
  all_goals exact h.elim
 | getB hs de kf hi vf l x z =>
  cases op<;>simp only[mnR]at h
  case mget kk zz ok m k =>
   split at h
   ·rename_i kk' ks vs q e1 e2
    obtain⟨rfl,rfl,rfl,h⟩:=h
    obtain⟨h1,h⟩:=aq h
    obtain⟨h2,h⟩:=aq h
    cases hm:bn l x with
    | true =>
     rw[hm]at h
     refine⟨_,_,_,h,aV rfl (rm:=none) (ad:=none) (c:=kk'=kk∧(kf x).fits kk) ?_ ⟨jP h1,iA h2⟩⟩
     simp only[evA,e1,e2,nz (z:=z) hi hm]
    | false =>
     rw[hm]at h
     cases hs with
     | true=>exact h.elim
     | false =>
      refine⟨_,_,_,h,aV rfl (rm:=none) (ad:=none) (c:=kk'=kk∧(kf x).fits kk) ?_ ⟨jP h1,iA h2⟩⟩
      simp only[evA,e1,e2,D7 hi hm]
   ·exact h.elim
  all_goals exact h.elim
theorem w7{n:Nat}{o:aF}{f:Nat}{s:S2}{K:KO P Sf T}:∀{a:An P Sf T},opR o f s a K→∃a' s' l,K a' s' l∧iG P n o f s s' l
 | .el g v l k,h=>(ic h).elim TD cD
 | .elA g v l i n hv k,h=>(ic h).elim (N0 hv) cD
 | .st g v l x k,h=>(ic h).elim Q2 cD
 | .stI g v l k,h=>(ic h).elim KR cD
 | .app g v l xs a',h=>(ic h).elim Pf cD
 | .appF g v l xs a',h=>(ic h).elim JW cD
 | .sub g v l fl a',h=>(ic h).elim KH cD
 | .rep g v x a',h=>(ic h).elim Ln cD
 | .own g a',h=>(ic h).elim LC cD
 | .mn g q a',h=>(ic h).elim St cD
 | .req g p k,h=>(ic h).elim (λ⟨_,h⟩=>w7 h) cD
 | .nil,h|.pass _,h|.br _ _ _,h|.callP _ _,h|.callH _ _ _,h|.callA _ _ _,h|.cmd _ _,h|.cmdL _ _,h|.wait _,h|.loop _ _ _ _ _ _ _,h|.join _ _ _ _ _,h|.join2 _ _ _ _ _,h|.back _ _ _,h|.hand _ _ _ _ _ _ _ _,h|.hand2 _ _ _ _ _ _,h|.handQ _ _ _ _ _ _ _ _,h|.unr _ _,h|.ret _,h|.retH _ _ _,h=>cD h
end
end Go.Am
namespace Go.Am
section
variable {P : Program} {Sf : Nat → Type} {T : Type}
def Sc(hp:Hp)(ptr:Bool)(x:AV)(K:Bool→Prop):Prop:=
 match ptr,x with
 | true,.ref _ _=>K false
 | true,.eref _ _ _=>K false
 | true,.rptr _ _=>K false
 | true,.val (.pointer none)=>K true
 | false,.sl _ es _=>∀t:Bool,(es≠[]→t=false)→K t
 | false,.vec b=>match hp b with
  | some (.vec _ es)=>∀t:Bool,(es≠[]→t=false)→K t
  | _=>False
 | _,_=>False
def w8(o:aF)(f:Nat)(s:S2)(a:An P Sf T)(K:KO P Sf T):Prop:=
 match o.op with
 | .isNil ptr ne x=>Sc s.hp ptr (evO s.tm x) λt=>K a ⟨aH o.dst (.bool (t != ne)) s.tm,s.hp⟩ ([],[])
 | _=>opR o f s a K
def jL:List aF→Nat→S2→An P Sf T→(An P Sf T→S2→Nat→Prop)→Prop
 | [],f,s,a,K=>K a s f
 | o::os,f,s,a,K=>match o.guard with
  | none=>w8 o f s a λa' s' _=>jL os (f+16) s' a' K
  | some (d,want)=>match s.tm d with
   | .val (.bool b)=>match want with
    | true=>cond b (w8 o f ⟨upd s.tm d (.val (.bool true)),s.hp⟩ (a.l f) λa' s' _=>jL os (f+16) s' a' K) (jL os (f+16) ⟨aH o.dst (.tup []) (upd s.tm d (.val (.bool false))),s.hp⟩ (a.r f) K)
    | false=>cond b (jL os (f+16) ⟨aH o.dst (.tup []) (upd s.tm d (.val (.bool true))),s.hp⟩ (a.l f) K) (w8 o f ⟨upd s.tm d (.val (.bool false)),s.hp⟩ (a.r f) λa' s' _=>jL os (f+16) s' a' K)
   | .tup []=>jL os (f+16) ⟨aH o.dst (.tup []) s.tm,s.hp⟩ a K
   | _=>False
def jj:List aF→Nat→S2→Log→An P Sf T→(An P Sf T→S2→Nat→Log→Prop)→Prop
 | [],f,s,lg,a,K=>K a s f lg
 | o::os,f,s,lg,a,K=>match o.guard with
  | none=>opR o f s a λa' s' l=>jj os (f+16) s' (lg++[l]) a' K
  | some (d,want)=>match s.tm d with
   | .val (.bool b)=>match want with
    | true=>cond b (opR o f ⟨upd s.tm d (.val (.bool true)),s.hp⟩ (a.l f) λa' s' l=>jj os (f+16) s' (lg++[l]) a' K) (jj os (f+16) ⟨aH o.dst (.tup []) (upd s.tm d (.val (.bool false))),s.hp⟩ (lg++[([],[])]) (a.r f) K)
    | false=>cond b (jj os (f+16) ⟨aH o.dst (.tup []) (upd s.tm d (.val (.bool true))),s.hp⟩ (lg++[([],[])]) (a.l f) K) (opR o f ⟨upd s.tm d (.val (.bool false)),s.hp⟩ (a.r f) λa' s' l=>jj os (f+16) s' (lg++[l]) a' K)
   | .tup []=>jj os (f+16) ⟨aH o.dst (.tup []) s.tm,s.hp⟩ (lg++[([],[])]) a K
   | _=>False
theorem dP{α:Type}{f:Nat→α}{t:Nat}{v:α}(h:f t=v):upd f t v=f:=by
 funext x
 by_cases e:x=t
 ·subst e;rw[ai,h]
 ·rw[al _ _ e]
theorem Mg{hp:Hp}{ptr:Bool}{x:AV}{K:Bool→Prop}(h:Sc hp ptr x K):jt ptr x∧∀t,pE hp x t→K t:=by
 unfold Sc at h
 split at h
 ·exact⟨trivial,λt ht=>by have ht:t=false:=ht;rw[ht];exact h⟩
 ·exact⟨trivial,λt ht=>by have ht:t=false:=ht;rw[ht];exact h⟩
 ·exact⟨trivial,λt ht=>by have ht:t=false:=ht;rw[ht];exact h⟩
 ·exact⟨trivial,λt ht=>by have ht:t=true:=ht;rw[ht];exact h⟩
 ·exact⟨trivial,λt ht=>h t ht⟩
 ·split at h
  ·rename_i e
   refine⟨trivial,λt ht=>h t ?_⟩
   simp only[pE,e]at ht;exact ht
  ·exact h.elim
 ·exact h.elim
theorem py{n:Nat}{o:aF}{f:Nat}{s:S2}{a:An P Sf T}{K:KO P Sf T}{K':S2→Prop}(h:w8 o f s a K)(hK:∀a' s' l,K a' s' l→K' s'):exT P n o f s K':=by
 unfold w8 at h
 split at h
 ·rename_i ptr ne x e
  obtain⟨d,op,g⟩:=o
  simp only at e;subst e
  obtain⟨h1,h2⟩:=Mg h
  exact⟨h1,λt ht=>hK _ _ _ (h2 t ht)⟩
 ·obtain⟨a',s',l,h1,h2⟩:=w7 (n:=n) h
  exact h2.1 K' (hK _ _ _ h1)
theorem gk{n:Nat}{K':S2→Nat→Prop}{K:An P Sf T→S2→Nat→Prop}(hK:∀a s f,K a s f→K' s f) :
  ∀{os:List aF} {f:Nat} {s:S2} {a:An P Sf T},jL os f s a K→evT P n os f s K'
 | [],f,s,a,h=>hK _ _ _ h
 | o::os,f,s,a,h=>by
  unfold jL at h
  unfold evT
  split at h
  ·rename_i e;rw[e]
   exact py h λa' s' l h=>gk hK h
  ·rename_i d want e;rw[e]
   obtain⟨tm,hp⟩:=s
   split at h
   ·rename_i b eb
    have eb:tm d=.val (.bool b):=eb
    refine⟨some b,by show gv (tm d)=_;rw[eb];rfl,λht=>?_,λht=>?_⟩
    ·simp only[Option.some.injEq]at ht;subst ht
     cases b with
     | true =>
      have h:w8 o f ⟨upd tm d (.val (.bool true)),hp⟩ (a.l f) (λa' s' _=>jL os (f+16) s' a' K):=h
      rw[dP eb]at h
      exact py h λa' s' l h=>gk hK h
     | false =>
      have h:w8 o f ⟨upd tm d (.val (.bool false)),hp⟩ (a.r f) (λa' s' _=>jL os (f+16) s' a' K):=h
      rw[dP eb]at h
      exact py h λa' s' l h=>gk hK h
    ·cases b with
     | true=>cases want with
      | true=>exact absurd rfl ht
      | false =>
       have h:jL os (f+16) ⟨aH o.dst (.tup []) (upd tm d (.val (.bool true))),hp⟩ (a.l f) K:=h
       rw[dP eb]at h
       exact gk hK h
     | false=>cases want with
      | false=>exact absurd rfl ht
      | true =>
       have h:jL os (f+16) ⟨aH o.dst (.tup []) (upd tm d (.val (.bool false))),hp⟩ (a.r f) K:=h
       rw[dP eb]at h
       exact gk hK h
   ·rename_i eb
    exact⟨none,by show gv (tm d)=_;rw[show tm d=.tup []from eb];rfl,λht=>by simp at ht,λ_=>gk hK h⟩
   ·exact h.elim
theorem ji{n:Nat}{K':S2→Nat→Log→Prop}{K:An P Sf T→S2→Nat→Log→Prop}(hK:∀a s f lg,K a s f lg→K' s f lg) :
  ∀{os:List aF} {f:Nat} {s:S2} {lg:Log} {a:An P Sf T},jj os f s lg a K→evD P n os f s lg K'
 | [],f,s,lg,a,h=>hK _ _ _ _ h
 | o::os,f,s,lg,a,h=>by
  unfold jj at h
  unfold evD
  have step:∀{s:S2} {a:An P Sf T},opR o f s a (λa' s' l=>jj os (f+16) s' (lg++[l]) a' K)→exD P n o f s λs' l=>evD P n os (f+16) s' (lg++[l]) K':=λh=>by
   obtain⟨a',s',l,h1,h2⟩:=w7 (n:=n) h
   exact h2.2 _ (ji hK h1)
  split at h
  ·rename_i e;rw[e]
   exact step h
  ·rename_i d want e;rw[e]
   obtain⟨tm,hp⟩:=s
   split at h
   ·rename_i b eb
    have eb:tm d=.val (.bool b):=eb
    refine⟨some b,by show gv (tm d)=_;rw[eb];rfl,λht=>?_,λht=>?_⟩
    ·simp only[Option.some.injEq]at ht;subst ht
     cases b with
     | true =>
      have h:opR o f ⟨upd tm d (.val (.bool true)),hp⟩ (a.l f) (λa' s' l=>jj os (f+16) s' (lg++[l]) a' K):=h
      rw[dP eb]at h
      exact step h
     | false =>
      have h:opR o f ⟨upd tm d (.val (.bool false)),hp⟩ (a.r f) (λa' s' l=>jj os (f+16) s' (lg++[l]) a' K):=h
      rw[dP eb]at h
      exact step h
    ·cases b with
     | true=>cases want with
      | true=>exact absurd rfl ht
      | false =>
       have h:jj os (f+16) ⟨aH o.dst (.tup []) (upd tm d (.val (.bool true))),hp⟩ (lg++[([],[])]) (a.l f) K:=h
       rw[dP eb]at h
       exact ji hK h
     | false=>cases want with
      | false=>exact absurd rfl ht
      | true =>
       have h:jj os (f+16) ⟨aH o.dst (.tup []) (upd tm d (.val (.bool false))),hp⟩ (lg++[([],[])]) (a.r f) K:=h
       rw[dP eb]at h
       exact ji hK h
   ·rename_i eb
    exact⟨none,by show gv (tm d)=_;rw[show tm d=.tup []from eb];rfl,λht=>by simp at ht,λ_=>ji hK h⟩
   ·exact h.elim
end
def gvV(b b':Nat):Blk→AV
 | .vec k es=>cond (Nat.beq b' b) (.sl k es false) (.vec b')
 | _=>.vec b'
def gvF(b b' o:Nat):Blk→AV
 | .box x=>cond (Nat.beq b' b) (.rptr x o) (.ref b' o)
 | _=>.ref b' o
def gvM(b b':Nat):Blk→AV
 | .map kk ks vs=>cond (Nat.beq b' b) (.mp kk ks vs) (.mref b')
 | _=>.mref b'
mutual
def gvA(b:Nat)(x0:Blk):AV→AV
  | .vec b'=>gvV b b' x0
  | .ref b' o=>gvF b b' o x0
  | .agg cs=>.agg (gvL b x0 cs)
  | .tup cs=>.tup (gvL b x0 cs)
  | .func f cs=>.func f (gvL b x0 cs)
  | .val v=>.val v
  | .sl k es full=>.sl k es full
  | .rptr x o=>.rptr x o
  | .eref b i o=>.eref b i o
  | .vsub b i o=>.vsub b i o
  | .asub b i o k=>.asub b i o k
  | .mref b'=>gvM b b' x0
  | .mp kk ks vs=>.mp kk ks vs
  | .unk=>.unk
def gvL(b:Nat)(x0:Blk):List AV→List AV
  | []=>[]
  | x::xs=>gvA b x0 x::gvL b x0 xs
end
mutual
theorem jX{b:Nat}{x0:Blk}{hp:Hp}(hb:hp b=some x0)(hx:x0.pureB=true):∀(x:AV),ba b hp x (gvA b x0 x)
  | .vec b'=>by
    rw[gvA]
    cases x0 with
    | vec k es =>
      show ba b hp (.vec b') (cond (Nat.beq b' b) (.sl k es false) (.vec b'))
      cases e:Nat.beq b' b with
      | true=>rw[Nat.eq_of_beq_eq_true e];exact ba.vec hb (aC hx)
      | false=>exact ba.refl
    | box _=>exact ba.refl
    | row _ _ _ _=>exact ba.refl
    | map _ _ _=>exact ba.refl
    | mst _ _ _ _ _=>exact ba.refl
    | itr _ _ _ _=>exact ba.refl
  | .mref b'=>by
    rw[gvA]
    cases x0 with
    | map kk ks vs =>
      show ba b hp (.mref b') (cond (Nat.beq b' b) (.mp kk ks vs) (.mref b'))
      cases e:Nat.beq b' b with
      | true=>rw[Nat.eq_of_beq_eq_true e];exact ba.map hb (aC hx)
      | false=>exact ba.refl
    | vec _ _=>exact ba.refl
    | box _=>exact ba.refl
    | row _ _ _ _=>exact ba.refl
    | mst _ _ _ _ _=>exact ba.refl
    | itr _ _ _ _=>exact ba.refl
  | .ref b' o=>by
    rw[gvA]
    cases x0 with
    | box x =>
      show ba b hp (.ref b' o) (cond (Nat.beq b' b) (.rptr x o) (.ref b' o))
      cases e:Nat.beq b' b with
      | true=>rw[Nat.eq_of_beq_eq_true e];exact ba.ref hb (AV.pureB_ok hx)
      | false=>exact ba.refl
    | vec _ _=>exact ba.refl
    | row _ _ _ _=>exact ba.refl
    | map _ _ _=>exact ba.refl
    | mst _ _ _ _ _=>exact ba.refl
    | itr _ _ _ _=>exact ba.refl
  | .agg cs=>by rw[gvA];exact ba.agg (ql hb hx cs)
  | .tup cs=>by rw[gvA];exact ba.tup (ql hb hx cs)
  | .func f cs=>by rw[gvA];exact ba.func (ql hb hx cs)
  | .val v=>by rw[gvA];exact ba.refl
  | .sl k es full=>by rw[gvA];exact ba.refl
  | .rptr x o=>by rw[gvA];exact ba.refl
  | .eref b i o=>by rw[gvA];exact ba.refl
  | .vsub b i o=>by rw[gvA];exact ba.refl
  | .asub b i o k=>by rw[gvA];exact ba.refl
  | .mp kk ks vs=>by rw[gvA];exact ba.refl
  | .unk=>by rw[gvA];exact ba.refl
theorem ql{b:Nat}{x0:Blk}{hp:Hp}(hb:hp b=some x0)(hx:x0.pureB=true):∀(xs:List AV),cL b hp xs (gvL b x0 xs)
  | []=>by rw[gvL];trivial
  | x::xs=>by rw[gvL];exact⟨jX hb hx x,ql hb hx xs⟩
end
theorem nH{b:Nat}{x0:Blk}{x:AV}(h:x.solid=true):(gvA b x0 x).solid=true:=by
 cases x<;>rw[gvA]<;>first|exact h|rfl|skip
 ·cases x0 with
  | box x=>show(cond _ _ _:AV).solid=true;cases Nat.beq _ b<;>rfl
  | vec _ _=>rfl
  | row _ _ _ _=>rfl
  | map _ _ _=>rfl
  | mst _ _ _ _ _=>rfl
  | itr _ _ _ _=>rfl
 ·cases x0 with
  | vec k es=>show(cond _ _ _:AV).solid=true;cases Nat.beq _ b<;>rfl
  | box _=>rfl
  | row _ _ _ _=>rfl
  | map _ _ _=>rfl
  | mst _ _ _ _ _=>rfl
  | itr _ _ _ _=>rfl
 ·cases x0 with
  | map kk ks vs=>show(cond _ _ _:AV).solid=true;cases Nat.beq _ b<;>rfl
  | box _=>rfl
  | vec _ _=>rfl
  | row _ _ _ _=>rfl
  | mst _ _ _ _ _=>rfl
  | itr _ _ _ _=>rfl
def gvB(b:Nat)(x0:Blk):Option Blk→Option Blk
 | some (.box y)=>some (.box (gvA b x0 y))
 | x=>x
theorem av.give2{k n:Nat}{s s':S3}(b:Nat)(hnx:s'.nx=s.nx)(h1:∀t,s'.tm t=.unk∨ba b s.hp (s.tm t) (s'.tm t))
  (h2:∀b' x,s'.hp b'=some x→b'≠b∧(s.hp b'=some x∨(∃y z,s.hp b'=some (.box y)∧x=.box z∧z.solid=true∧ba b s.hp y z)∨∃kk es es',s.hp b'=some (.vec kk es)∧x=.vec kk es'∧es'.length=es.length∧cL b s.hp es es'∧((∀z∈es,z.solid=true)→∀z∈es',z.solid=true))) (hb:s.hp b≠none):av k n s s':=by
 rintro P c a w ⟨h0,A,μ,H⟩
 have hle:∀k,A k→A k∨∃hd,μ b=some hd∧hd.emp=none∧hd.blk=k:=λ_ h=>.inl h
 have hlive:∃x hd,s.hp b=some x∧μ b=some hd∧(hd.emp=none→¬A hd.blk∧hd.blk<w.heap.size∧(c.own hd.blk∨c.w.heap.size≤hd.blk)):=by
  cases hx:s.hp b with
  | none=>exact absurd hx hb
  | some x=>obtain⟨hd,e1,_,e3⟩:=H.blk b x hx;exact⟨x,hd,rfl,e1,e3⟩
 obtain⟨xb,hdb,hxb,hmb,hpb⟩:=hlive
 have hsub:∀b' x,s'.hp b'=some x→b'≠b∧∃y,s.hp b'=some y:=by
  intro b' x hx
  obtain⟨e1,e2|⟨y,z,e2,_⟩|⟨kk,es,es',e2,_⟩⟩:=h2 b' x hx
  ·exact⟨e1,_,e2⟩
  ·exact⟨e1,_,e2⟩
  ·exact⟨e1,_,e2⟩
 refine⟨h0,λk=>A k∨∃hd,μ b=some hd∧hd.emp=none∧hd.blk=k,μ,λt=>?_,H.n,H.df,λb' x hx=>?_,λb1 b2 x x' hd hd' hx hx'=>?_,?_,λb' hb'=>?_,H.keep,λb' hb'=>.inl (H.A0 b' hb'),?_,H.mu⟩
 ·rcases h1 t with h|h
  ·rw[h];trivial
  ·exact h P c A μ _ s.tm n a w _ H (H.tm t)
 ·obtain⟨hne,y,hy⟩:=hsub b' x hx
  obtain⟨hd,g1,g2,g3⟩:=H.blk b' y hy
  refine⟨hd,g1,?_,λhe=>⟨?_,(g3 he).2⟩⟩
  ·rcases(h2 b' x hx).2 with e|⟨yy,z,e1,e2,e3,e4⟩|⟨kk,es,es',e1,e2,e3,e4,e5⟩
   ·rw[hy]at e;cases e
    exact g2.mono (ct.refl A w) hle (bh.refl _) (λ_=>rfl)
   ·rw[hy]at e1;cases e1
    subst e2
    obtain⟨q1,q2,v,ty,q3,q4⟩:=g2
    exact⟨q1,e3,v,ty,e4 P c A μ _ s.tm n a w v H q3,q4⟩
   ·rw[hy]at e1;cases e1
    subst e2
    obtain⟨q1,q2⟩:=g2
    refine⟨q1,?_⟩
    rcases q2 with⟨rfl,q2⟩|⟨r1,r2,r3,r4,C,ty,vs,r5,r6,r7,r8,r9,r10⟩
    ·left
     have:es'=[]:=List.length_eq_zero_iff.mp (by simpa using e3)
     exact⟨this,q2⟩
    ·exact .inr ⟨r1,by omega,r3,r4,C,ty,vs,r5,e4.rvl H r6,e5 r7,r8,r9,r10⟩
  ·rintro(h|⟨hd2,k1,k2,k3⟩)
   ·exact(g3 he).1 h
   ·exact hne (H.inj _ _ _ _ _ _ hy hxb g1 k1 he k2 k3.symm)
 ·obtain⟨_,y,hy⟩:=hsub b1 x hx
  obtain⟨_,y',hy'⟩:=hsub b2 x' hx'
  exact H.inj _ _ _ _ _ _ hy hy'
 ·refine H.lt.mono (ct.refl A w) hle ?_
  rintro k (h|⟨hd,k1,k2,rfl⟩)
  ·exact H.lt k h
  ·rw[hmb]at k1;cases k1;exact(hpb k2).2.1
 ·rw[hnx]at hb'
  obtain⟨q1,q2⟩:=H.fr b' hb'
  refine⟨q1,?_⟩
  cases hx:s'.hp b' with
  | none=>rfl
  | some x=>obtain⟨_,y,hy⟩:=hsub b' x hx;rw[q2]at hy;cases hy
 ·rintro k (h|⟨hd,k1,k2,rfl⟩)
  ·exact H.A1 k h
  ·rw[hmb]at k1;cases k1;exact .inr (hpb k2).2.2
theorem cL.setAt{b:Nat}{hp:Hp}{y z:AV}:∀{cs:List AV} {i:Nat},ba b hp y z→cL b hp (cs.set i y) (cs.set i z)
 | [],i,h=>trivial
 | c::cs,0,h=>⟨h,cL.refl⟩
 | c::cs,i+1,h=>⟨ba.refl,cL.setAt h⟩
theorem av.nilvecF{k n:Nat}{tm:Nat→AV}{hp:Hp}{nx:Nat}(t0 i kk k':Nat)(cs:List AV)(ht:tm t0=.agg cs)(h:cs[i]?=some (.sl kk [] true))(hk:k≤nx) :
  av k n ⟨tm,hp,nx⟩ ⟨upd tm t0 (.agg (cs.set i (.vec nx))),upd hp nx (some (.vec k' [])),nx+1⟩:=by
 rintro P c a w ⟨h0,A,μ,H⟩
 have h1:=H.tm t0
 rw[show(⟨tm,hp,nx⟩:S3).tm t0=_ from ht]at h1
 obtain⟨vs,e1,e2,e3⟩:=h1
 have hi:i<cs.length:=(List.getElem?_eq_some_iff.mp h).1
 have hl:=e2.length
 obtain⟨vi,hvi⟩:∃vi,vs[i]?=some vi:=⟨vs[i]'(by omega),List.getElem?_eq_getElem (by omega)⟩
 obtain⟨ad,hv⟩:=RV.nilsl (RVL.get2 e2 h hvi)
 obtain⟨f1,f2⟩:μ nx=none∧hp nx=none:=H.fr nx (Nat.le_refl _)
 let hd:Hd:=⟨some ad,0,k',0,0⟩
 have hle:bh μ (upd μ nx (some hd)):=by
  intro b hd' e
  by_cases g:b=nx
  ·subst g;rw[f1]at e;cases e
  ·rw[al _ _ g];exact e
 have key:=H.add nx f2 (upd μ nx (some hd)) hle (λb hb=>al _ _ hb) hd (ai _ _ _) (.vec k' []) ⟨rfl,.inl ⟨rfl,rfl⟩⟩ (λe=>by cases e) (λ_ _ _ _ _ _ e=>by cases e)
 refine⟨h0,A,upd μ nx (some hd),⟨λt=>?_,key.n,key.df,key.blk,key.inj,key.lt,λb hb=>?_,key.keep,key.A0,key.A1,key.mu⟩⟩
 ·by_cases ht:t=t0
  ·subst ht
   show RV w A (upd tm t (.agg (cs.set i (.vec nx))) t) _ _
   rw[ai]
   exact⟨vs,e1,RVL.setAt (RVL.mono (λ_ _=>rfl) (λ_ h=>h) _ hle e2) hvi ⟨hd,ai _ _ _,hv⟩,e3⟩
  ·show RV w A (upd tm t0 _ t) _ _
   rw[al _ _ ht]
   exact key.tm t
 ·have hb:nx+1≤b:=hb
  exact key.fr b ⟨show nx≤b by omega,by omega⟩
def iF(k:Nat)(c:Cmd)(s:S3)(K:S3→Prop):Prop:=
 match c with
 | .frz b=>match s.hp b with
  | some x0=>cond x0.pureB (K ⟨λt=>gvA b x0 (s.tm t),λc=>cond (Nat.beq c b) none (gvB b x0 (s.hp c)),s.nx⟩) False
  | none=>False
 | .frzE b es h=>match s.hp b with
  | some (.vec kk es')=>es'=es∧K ⟨λt=>gvA b (.vec kk es) (s.tm t),λc=>cond (Nat.beq c b) none (gvB b (.vec kk es) (s.hp c)),s.nx⟩
  | _=>False
 | .frzM b es h=>match s.hp b with
  | some (.map kk ks es')=>es'=es∧K ⟨λt=>gvA b (.map kk ks es) (s.tm t),λc=>cond (Nat.beq c b) none (gvB b (.map kk ks es) (s.hp c)),s.nx⟩
  | _=>False
 | .frzV b t i v l y x es h=>match s.hp b,s.hp t with
  | some (.vec kk es'),some (.vec k2 cs)=>es'=es∧cs=(l.map v).set i y∧gvA b (.vec kk es) y=v x∧cond (cond (Nat.beq t b) false (v x).solid)
    (K ⟨λt=>gvA b (.vec kk es) (s.tm t),λc=>cond (Nat.beq c b) none (cond (Nat.beq c t) (some (.vec k2 ((l.set i x).map v))) (gvB b (.vec kk es) (s.hp c))),s.nx⟩) False
  | _,_=>False
 | .nilF t i k'=>match s.tm t with
  | .agg cs=>match cs[i]? with
   | some (.sl _ es full)=>cond full (cond es.isEmpty (cond (Nat.ble k s.nx) (K ⟨upd s.tm t (.agg (cs.set i (.vec s.nx))),upd s.hp s.nx (some (.vec k' [])),s.nx+1⟩) False) False) False
   | _=>False
  | _=>False
 | .nilT t k'=>match s.tm t with
  | .sl _ es full=>cond full (cond es.isEmpty (cond (Nat.ble k s.nx) (K ⟨upd s.tm t (.vec s.nx),upd s.hp s.nx (some (.vec k' [])),s.nx+1⟩) False) False) False
  | _=>False
 | .nilB b i k'=>match s.hp b with
  | some (.box (.agg cs))=>match cs[i]? with
   | some (.sl _ es full)=>cond full (cond es.isEmpty (cond (Nat.ble k s.nx) (K ⟨s.tm,upd (upd s.hp b (some (.box (.agg (cs.set i (.vec s.nx)))))) s.nx (some (.vec k' [])),s.nx+1⟩) False) False) False
   | _=>False
  | _=>False
 | .nilC b k'=>match s.hp b with
  | some (.box (.sl _ es full))=>cond full (cond es.isEmpty (cond (Nat.ble k s.nx) (K ⟨s.tm,upd (upd s.hp b (some (.box (.vec s.nx)))) s.nx (some (.vec k' [])),s.nx+1⟩) False) False) False
  | _=>False
 | .wkT t sh=>K ⟨upd s.tm t (aQ sh (s.tm t)),s.hp,s.nx⟩
 | .wkB b sh=>match s.hp b with
  | some (.box x)=>cond (aQ sh x).solid (K ⟨s.tm,upd s.hp b (some (.box (aQ sh x))),s.nx⟩) False
  | some (.vec k' es)=>cond (allB AV.solid (es.map (aQ sh))) (K ⟨s.tm,upd s.hp b (some (.vec k' (es.map (aQ sh)))),s.nx⟩) False
  | _=>False
 | .wkS b i sh v l y x=>match s.hp b with
  | some (.vec kk es)=>es=(l.map v).set i y∧aQ sh y=v x∧cond (v x).solid (K ⟨s.tm,upd s.hp b (some (.vec kk ((l.set i x).map v))),s.nx⟩) False
  | _=>False
 | .wkV b sh v l=>match s.hp b with
  | some (.vec kk es)=>es.map (aQ sh)=l.map v∧K ⟨s.tm,upd s.hp b (some (.vec kk (l.map v))),s.nx⟩
  | _=>False
theorem RVL.mapSub{w:World}{A:Nat→Prop}{μ:Mu}{f:AV→AV}(hf:∀x,Sub x (f x)):∀{xs:List AV} {vs:List Value},RVL w A xs μ vs→RVL w A (xs.map f) μ vs
 | [],_,h=>h
 | x::xs,_,⟨v,vs',h1,h2,h3⟩=>⟨v,vs',h1,hf _ _ _ _ _ h2,RVL.mapSub hf h3⟩
theorem av.subV{k n:Nat}{tm:Nat→AV}{hp:Hp}{nx:Nat}{kk:Nat}{es:List AV}{f:AV→AV}(b0:Nat)(h0:hp b0=some (.vec kk es))(h:∀x,Sub x (f x))(hy:∀x∈es.map f,x.solid=true):av k n ⟨tm,hp,nx⟩ ⟨tm,upd hp b0 (some (.vec kk (es.map f))),nx⟩:=by
 rintro P c a w ⟨h1,A,μ,H⟩
 obtain⟨hd,q1,q2,q6⟩:=H.blk b0 _ h0
 have back:∀b z,upd hp b0 (some (.vec kk (es.map f))) b=some z→∃z',hp b=some z':=by
  intro b z hz
  by_cases e:b=b0
  ·subst e;exact⟨_,h0⟩
  ·rw[al _ _ e]at hz;exact⟨z,hz⟩
 refine⟨h1,A,μ,⟨H.tm,H.n,H.df,λb z hz=>?_,λb b' z z' hd1 hd2 hz hz'=>?_,H.lt,λb hb=>?_,H.keep,H.A0,H.A1,H.mu⟩⟩
 ·have hz:upd hp b0 (some (.vec kk (es.map f))) b=some z:=hz
  by_cases e:b=b0
  ·subst e;rw[ai]at hz;cases hz
   refine⟨hd,q1,?_,q6⟩
   obtain⟨q2,q3⟩:=q2
   refine⟨q2,?_⟩
   rcases q3 with⟨rfl,q⟩|⟨a1,a2,a3,a4,C,ty,vs,a5,a6,a7,a8⟩
   ·exact .inl ⟨rfl,q⟩
   ·exact .inr ⟨a1,by rw[List.length_map];exact a2,a3,a4,C,ty,vs,a5,RVL.mapSub h a6,hy,a8⟩
  ·rw[al _ _ e]at hz;exact H.blk b z hz
 ·obtain⟨_,g⟩:=back _ _ hz
  obtain⟨_,g'⟩:=back _ _ hz'
  exact H.inj _ _ _ _ _ _ g g'
 ·have:μ b=none∧hp b=none:=H.fr b hb
  refine⟨this.1,?_⟩
  show upd hp b0 (some (.vec kk (es.map f))) b=none
  by_cases e:b=b0
  ·subst e;rw[h0]at this;cases this.2
  ·rw[al _ _ e];exact this.2
theorem av.subL{k n:Nat}{tm:Nat→AV}{hp:Hp}{nx:Nat}{kk:Nat}{es es':List AV}(b0:Nat)(h0:hp b0=some (.vec kk es))(hl:es'.length=es.length)(h:∀(i:Nat) x y,es[i]?=some x→es'[i]?=some y→Sub x y)(hy:∀x∈es,x.solid=true→True)(hs:(∀x∈es,x.solid=true)→∀x∈es',x.solid=true):av k n ⟨tm,hp,nx⟩ ⟨tm,upd hp b0 (some (.vec kk (es'))),nx⟩:=by
 rintro P c a w ⟨h1,A,μ,H⟩
 obtain⟨hd,q1,q2,q6⟩:=H.blk b0 _ h0
 have back:∀b z,upd hp b0 (some (.vec kk (es'))) b=some z→∃z',hp b=some z':=by
  intro b z hz
  by_cases e:b=b0
  ·subst e;exact⟨_,h0⟩
  ·rw[al _ _ e]at hz;exact⟨z,hz⟩
 refine⟨h1,A,μ,⟨H.tm,H.n,H.df,λb z hz=>?_,λb b' z z' hd1 hd2 hz hz'=>?_,H.lt,λb hb=>?_,H.keep,H.A0,H.A1,H.mu⟩⟩
 ·have hz:upd hp b0 (some (.vec kk (es'))) b=some z:=hz
  by_cases e:b=b0
  ·subst e;rw[ai]at hz;cases hz
   refine⟨hd,q1,?_,q6⟩
   obtain⟨q2,q3⟩:=q2
   refine⟨q2,?_⟩
   rcases q3 with⟨rfl,q⟩|⟨a1,a2,a3,a4,C,ty,vs,a5,a6,a7,a8⟩
   ·exact .inl ⟨List.eq_nil_of_length_eq_zero hl,q⟩
   ·exact .inr ⟨a1,by rw[hl];exact a2,a3,a4,C,ty,vs,a5,RVL.of_get (by rw[hl];exact a6.length) (λi y v hy hv=>by
     have hi:i<es.length:=by have:=(List.getElem?_eq_some_iff.mp hy).1;omega
     exact h i _ _ (List.getElem?_eq_getElem hi) hy _ _ _ _ (a6.get2 (List.getElem?_eq_getElem hi) hv)),hs a7,a8⟩
  ·rw[al _ _ e]at hz;exact H.blk b z hz
 ·obtain⟨_,g⟩:=back _ _ hz
  obtain⟨_,g'⟩:=back _ _ hz'
  exact H.inj _ _ _ _ _ _ g g'
 ·have:μ b=none∧hp b=none:=H.fr b hb
  refine⟨this.1,?_⟩
  show upd hp b0 (some (.vec kk (es'))) b=none
  by_cases e:b=b0
  ·subst e;rw[h0]at this;cases this.2
  ·rw[al _ _ e];exact this.2
theorem av.nilvecC{k n:Nat}{tm:Nat→AV}{hp:Hp}{nx:Nat}(b0 kk k':Nat)(hb:hp b0=some (.box (.sl kk [] true)))(hk:k≤nx) :
  av k n ⟨tm,hp,nx⟩ ⟨tm,upd (upd hp b0 (some (.box (.vec nx)))) nx (some (.vec k' [])),nx+1⟩:=by
 rintro P c a w ⟨h0,A,μ,H⟩
 obtain⟨hd0,q1,⟨q2,q3,v0,ty0,q5,q7⟩,q8⟩:=H.blk b0 _ hb
 obtain⟨ad,hv⟩:=RV.nilsl q5
 obtain⟨f1,f2⟩:μ nx=none∧hp nx=none:=H.fr nx (Nat.le_refl _)
 let hd:Hd:=⟨some ad,0,k',0,0⟩
 have hne:b0≠nx:=λe=>by subst e;rw[f2]at hb;cases hb
 have hle:bh μ (upd μ nx (some hd)):=by
  intro b hd' e
  by_cases g:b=nx
  ·subst g;rw[f1]at e;cases e
  ·rw[al _ _ g];exact e
 have key:=H.add nx f2 (upd μ nx (some hd)) hle (λb hb=>al _ _ hb) hd (ai _ _ _) (.vec k' []) ⟨rfl,.inl ⟨rfl,rfl⟩⟩ (λe=>by cases e) (λ_ _ _ _ _ _ e=>by cases e)
 have hswap:upd (upd hp b0 (some (.box (.vec nx)))) nx (some (.vec k' []))=upd (upd hp nx (some (.vec k' []))) b0 (some (.box (.vec nx))):=by
  funext b
  by_cases e1:b=b0
  ·subst e1;rw[ai,al _ _ hne,ai]
  ·rw[al _ _ e1]
   by_cases e2:b=nx
   ·subst e2;rw[ai,ai]
   ·rw[al _ _ e2,al _ _ e1,al _ _ e2]
 rw[hswap]
 have back:∀b x,upd (upd hp nx (some (.vec k' []))) b0 (some (.box (.vec nx))) b=some x→∃y,upd hp nx (some (.vec k' [])) b=some y:=by
  intro b x hx
  by_cases e:b=b0
  ·subst e;exact⟨.box (.sl kk [] true),by rw[al _ _ hne];exact hb⟩
  ·rw[al _ _ e]at hx;exact⟨x,hx⟩
 refine⟨h0,A,upd μ nx (some hd),⟨key.tm,key.n,key.df,λb x hx=>?_,λb b' x x' hd1 hd2 hx hx'=>?_,key.lt,λb hb'=>?_,key.keep,key.A0,key.A1,key.mu⟩⟩
 ·by_cases e:b=b0
  ·subst e
   have hx:some (Blk.box (.vec nx))=some x:=by
    rw[←hx];exact(ai _ _ _).symm
   cases hx
   exact⟨hd0,hle _ _ q1,⟨q2,rfl,v0,ty0,⟨hd,ai _ _ _,hv⟩,q7⟩,q8⟩
  ·have hx:upd hp nx (some (.vec k' [])) b=some x:=by
    rw[←hx];exact(al _ _ e).symm
   exact key.blk b x hx
 ·obtain⟨y,hy⟩:=back b x hx
  obtain⟨y',hy'⟩:=back b' x' hx'
  exact key.inj _ _ _ _ _ _ hy hy'
 ·have hb':nx+1≤b:=hb'
  have:upd μ nx (some hd) b=none∧upd hp nx (some (.vec k' [])) b=none:=key.fr b ⟨show nx≤b by omega,by omega⟩
  refine⟨this.1,?_⟩
  show upd (upd hp nx (some (.vec k' []))) b0 _ b=none
  by_cases e:b=b0
  ·subst e;have:=this.2;rw[al _ _ hne,hb]at this;cases this
  ·rw[al _ _ e];exact this.2
theorem mq{k n b:Nat}{x0:Blk}{s:S3}(hb:s.hp b=some x0)(hx:x0.pureB=true):av k n s ⟨λt=>gvA b x0 (s.tm t),λc=>cond (Nat.beq c b) none (gvB b x0 (s.hp c)),s.nx⟩:=by
 rintro P c a w H
 obtain⟨h0,A,μ,R⟩:=H
 refine av.give (s:=s) (s':=⟨λt=>gvA b x0 (s.tm t),λc=>cond (Nat.beq c b) none (gvB b x0 (s.hp c)),s.nx⟩) (k:=k) (n:=n) b rfl (λt=>.inr (jX hb hx _)) (λb' x hx'=>?_) (by rw[hb];simp) P c a w ⟨h0,A,μ,R⟩
 have hx':cond (Nat.beq b' b) none (gvB b x0 (s.hp b'))=some x:=hx'
 cases e:Nat.beq b' b with
 | true=>rw[e]at hx';cases hx'
 | false =>
  rw[e]at hx'
  have hx':gvB b x0 (s.hp b')=some x:=hx'
  refine⟨λe'=>by subst e';simp at e,?_⟩
  cases hs:s.hp b' with
  | none=>rw[hs]at hx';cases hx'
  | some y =>
   rw[hs]at hx'
   cases y with
   | box y =>
    cases hx'
    obtain⟨hd,g1,g2,g3⟩:=R.blk b' _ hs
    exact .inr ⟨y,_,rfl,rfl,nH g2.2.1,jX hb hx y⟩
   | vec k es=>cases hx';exact .inl rfl
   | row k es l c=>cases hx';exact .inl rfl
   | map kk ks vs=>cases hx';exact .inl rfl
   | mst _ _ _ _ _=>cases hx';exact .inl rfl
   | itr _ _ _ _=>cases hx';exact .inl rfl
theorem DM{k n b t i k2:Nat}{α:Type}{x0:Blk}{s:S3}{v:α→AV}{l:List α}{y:AV}{x:α}(hb:s.hp b=some x0)(hx:x0.pureB=true)(ht:s.hp t=some (.vec k2 ((l.map v).set i y)))
  (hg:gvA b x0 y=v x) (hne:t≠b) (hso:(v x).solid=true) :
  av k n s ⟨λt=>gvA b x0 (s.tm t),λc=>cond (Nat.beq c b) none (cond (Nat.beq c t) (some (.vec k2 ((l.set i x).map v))) (gvB b x0 (s.hp c))),s.nx⟩:=by
 rintro P c a w H
 obtain⟨h0,A,μ,R⟩:=H
 refine av.give2 (s:=s) (s':=⟨λt=>gvA b x0 (s.tm t),λc=>cond (Nat.beq c b) none (cond (Nat.beq c t) (some (.vec k2 ((l.set i x).map v))) (gvB b x0 (s.hp c))),s.nx⟩) (k:=k) (n:=n) b rfl (λt=>.inr (jX hb hx _)) (λb' z hz=>?_) (by rw[hb];simp) P c a w ⟨h0,A,μ,R⟩
 have hz:cond (Nat.beq b' b) none (cond (Nat.beq b' t) (some (.vec k2 ((l.set i x).map v))) (gvB b x0 (s.hp b')))=some z:=hz
 cases e:Nat.beq b' b with
 | true=>rw[e]at hz;cases hz
 | false =>
  rw[e]at hz
  have hz:cond (Nat.beq b' t) (some (.vec k2 ((l.set i x).map v))) (gvB b x0 (s.hp b'))=some z:=hz
  refine⟨λe'=>by subst e';simp at e,?_⟩
  cases e2:Nat.beq b' t with
  | true =>
   rw[e2]at hz;cases hz
   have e2:=Nat.eq_of_beq_eq_true e2
   subst e2
   refine .inr (.inr ⟨k2,_,_,ht,rfl,by simp,?_,λhs z hz=>?_⟩)
   ·rw[List.map_set,←hg];exact cL.setAt (jX hb hx y)
   ·rw[List.map_set]at hz
    obtain⟨j,hj,rfl⟩:=List.getElem_of_mem hz
    rw[List.getElem_set]
    split
    ·exact hso
    ·rename_i hij
     refine hs _ (List.mem_of_getElem? (i:=j) ?_)
     simp at hj
     rw[List.getElem?_set,if_neg hij,List.getElem?_eq_getElem (by simpa using hj)]
  | false =>
   rw[e2]at hz
   have hz:gvB b x0 (s.hp b')=some z:=hz
   cases hs:s.hp b' with
   | none=>rw[hs]at hz;cases hz
   | some y =>
    rw[hs]at hz
    cases y with
    | box y =>
     cases hz
     obtain⟨hd,g1,g2,g3⟩:=R.blk b' _ hs
     exact .inr (.inl ⟨y,_,rfl,rfl,nH g2.2.1,jX hb hx y⟩)
    | vec k es=>cases hz;exact .inl rfl
    | row k es l c=>cases hz;exact .inl rfl
    | map kk ks vs=>cases hz;exact .inl rfl
    | mst _ _ _ _ _=>cases hz;exact .inl rfl
    | itr _ _ _ _=>cases hz;exact .inl rfl
theorem lh{k n:Nat}{c:Cmd}{s:S3}{K:S3→Prop}(h:iF k c s K):∃s',av k n s s'∧K s':=by
 obtain⟨tm,hp,nx⟩:=s
 cases c with
 | frz b =>
  simp only[iF]at h
  split at h
  ·rename_i x0 e
   obtain⟨h1,h⟩:=aq h
   exact⟨_,mq e h1,h⟩
  ·exact h.elim
 | frzE b es hes =>
  simp only[iF]at h
  split at h
  ·rename_i kk es' e
   obtain⟨rfl,h⟩:=h
   exact⟨_,mq e hes,h⟩
  ·exact h.elim
 | frzM b es hes =>
  simp only[iF]at h
  split at h
  ·rename_i kk ks es' e
   obtain⟨rfl,h⟩:=h
   exact⟨_,mq e hes,h⟩
  ·exact h.elim
 | frzV b t i v l y x es hes =>
  simp only[iF]at h
  split at h
  ·rename_i kk es' k2 cs e1 e2
   obtain⟨rfl,rfl,h1,h⟩:=h
   obtain⟨h2,h⟩:=aq h
   refine⟨_,DM (x0:=.vec kk es') e1 hes e2 h1 (λe'=>?_) ?_,h⟩
   ·subst e';simp at h2
   ·revert h2;cases Nat.beq t b<;>simp
  ·exact h.elim
 | nilF t i k' =>
  simp only[iF]at h
  split at h
  ·rename_i cs e
   split at h
   ·rename_i kk es full e2
    obtain⟨h1,q⟩:=aq h
    clear h
    obtain⟨h2,q'⟩:=aq q
    obtain⟨h3,g'⟩:=aq q'
    have h2:es=[]:=by cases es<;>simp_all
    subst h1;subst h2
    exact⟨_,av.nilvecF t i kk k' cs e e2 (Nat.le_of_ble_eq_true h3),g'⟩
   ·exact h.elim
  ·exact h.elim
 | nilT t k' =>
  simp only[iF]at h
  split at h
  ·rename_i kk es full e
   obtain⟨h1,q⟩:=aq h
   clear h
   obtain⟨h2,q'⟩:=aq q
   obtain⟨h3,g'⟩:=aq q'
   have h2:es=[]:=by cases es<;>simp_all
   subst h1;subst h2
   exact⟨_,av.nilvec t kk k' e (Nat.le_of_ble_eq_true h3),g'⟩
  ·exact h.elim
 | nilB b i k' =>
  simp only[iF]at h
  split at h
  ·rename_i cs e
   split at h
   ·rename_i kk es full e2
    obtain⟨h1,q⟩:=aq h
    clear h
    obtain⟨h2,q'⟩:=aq q
    obtain⟨h3,g'⟩:=aq q'
    have h2:es=[]:=by cases es<;>simp_all
    subst h1;subst h2
    exact⟨_,av.nilvecB b i kk k' cs e e2 (Nat.le_of_ble_eq_true h3),g'⟩
   ·exact h.elim
  ·exact h.elim
 | nilC b k' =>
  simp only[iF]at h
  split at h
  ·rename_i kk es full e
   obtain⟨h1,q⟩:=aq h
   clear h
   obtain⟨h2,q'⟩:=aq q
   obtain⟨h3,g'⟩:=aq q'
   have h2:es=[]:=by cases es<;>simp_all
   subst h1;subst h2
   exact⟨_,av.nilvecC b kk k' e (Nat.le_of_ble_eq_true h3),g'⟩
  ·exact h.elim
 | wkT t sh=>exact⟨_,av.subT _ (dC _ _),h⟩
 | wkB b sh =>
  simp only[iF]at h
  split at h
  ·rename_i x e
   obtain⟨h1,h⟩:=aq h
   exact⟨_,av.subB b e (dC _ _) h1,h⟩
  ·rename_i k' es e
   obtain⟨h1,h⟩:=aq h
   exact⟨_,av.subV b e (dC _) (lk h1),h⟩
  ·exact h.elim
 | wkV b sh v l =>
  simp only[iF]at h
  split at h
  ·rename_i kk es e
   obtain⟨h1,h⟩:=h
   refine⟨_,av.subL (es':=l.map v) b e (by rw[←h1];simp) (λj p q hp hq=>?_) (λ_ _ _=>trivial) (λho z hz=>?_),h⟩
   ·rw[←h1,List.getElem?_map,hp]at hq
    cases hq
    exact dC _ _
   ·rw[←h1]at hz
    obtain⟨y,hy,rfl⟩:=List.mem_map.mp hz
    rw[mD]
    exact ho y hy
  ·exact h.elim
 | wkS b i sh v l y x =>
  simp only[iF]at h
  split at h
  ·rename_i kk es e
   obtain⟨rfl,h1,h⟩:=h
   obtain⟨h2,h⟩:=aq h
   refine⟨_,av.subL (es':=(l.set i x).map v) b e (by simp) (λj p q hp hq=>?_) (λ_ _ _=>trivial) (λho z hz=>?_),h⟩
   ·rw[List.map_set,List.getElem?_set]at hq
    rw[List.getElem?_set]at hp
    by_cases g:i=j
    ·subst g
     simp only[↓reduceIte]at hp hq
     split at hp
     ·rename_i hlt
      rw[if_pos hlt]at hq
      cases hp;cases hq
      rw[←h1];exact dC _ _
     ·cases hp
    ·rw[if_neg g]at hp hq
     rw[hp]at hq;cases hq;exact Sub.refl
   ·rw[List.map_set]at hz
    obtain⟨j,hj,rfl⟩:=List.mem_iff_getElem.mp hz
    rw[List.getElem_set]
    split
    ·exact h2
    ·rename_i g
     have hj':j<(l.map v).length:=by simpa using hj
     have:=ho ((l.map v)[j]) (List.mem_iff_getElem.mpr ⟨j,by simpa using hj',by rw[List.getElem_set,if_neg g]⟩)
     exact this
  ·exact h.elim
def Je(k:Nat):List Cmd→S3→(S3→Prop)→Prop
 | [],s,K=>K s
 | c::r,s,K=>iF k c s λs=>Je k r s K
theorem ut{k n:Nat}{K:S3→Prop}:∀{cs:List Cmd} {s:S3},Je k cs s K→∃s',av k n s s'∧K s'
 | [],s,h=>⟨s,av.refl,h⟩
 | c::r,s,h=>by
  obtain⟨s1,h1,h2⟩:=lh (n:=n) h
  obtain⟨s2,h3,h4⟩:=ut (n:=n) h2
  exact⟨s2,h1.trans h3,h4⟩
def hsB(m:Nat):List PB→Bool
 | []=>true
 | .box x::r=>cond (x.belB m) (hsB m r) false
 | .vec _ _ _::r=>hsB m r
 | .arr _ _::r=>hsB m r
 | .map _ _ _ _::r=>hsB m r
 | .gone::r=>hsB m r
def tsB(m:Nat):List (Nat×Sh×AV)→Bool
 | []=>true
 | p::r=>cond (p.2.2.belB m) (tsB m r) false
def mt(b:Nat):List Nat→List PB→Bool
 | c::bs,x::hs=>cond x.isGone (mt b bs hs) (cond (Nat.beq c b) false (mt b bs hs))
 | _,_=>true
def DB:List Nat→List PB→Bool
 | b::bs,x::hs=>cond x.isGone (DB bs hs) (cond (mt b bs hs) (DB bs hs) false)
 | _,_=>true
theorem mr{b:Nat}:∀{bs:List Nat} {hs:List PB},mt b bs hs=true→∀(i:Nat) c x,bs[i]?=some c→hs[i]?=some x→x.isGone=false→c≠b
 | [],_,_,i,c,x,h1,_,_=>by simp at h1
 | _::_,[],_,i,c,x,_,h2,_=>by simp at h2
 | c0::bs,x0::hs,h,i,c,x,h1,h2,h3=>by
  rw[mt]at h
  cases i with
  | zero =>
   cases h1;cases h2
   rw[h3]at h
   rintro rfl
   simp at h
  | succ i =>
   have h:mt b bs hs=true:=by
    cases e:x0.isGone with
    | true=>rw[e]at h;exact h
    | false =>
     rw[e]at h
     cases e2:Nat.beq c0 b with
     | true=>rw[e2]at h;cases h
     | false=>rw[e2]at h;exact h
   exact mr h i c x (by simpa using h1) (by simpa using h2) h3
theorem BM:∀{bs:List Nat} {hs:List PB},DB bs hs=true→∀(i j:Nat) c x y,bs[i]?=some c→bs[j]?=some c→hs[i]?=some x→hs[j]?=some y→x.isGone=false→y.isGone=false→i=j
 | [],_,_,i,j,c,x,y,h1,_,_,_,_,_=>by simp at h1
 | _::_,[],_,i,j,c,x,y,_,_,h2,_,_,_=>by simp at h2
 | c0::bs,x0::hs,h,i,j,c,x,y,h1,h1',h2,h2',h3,h3'=>by
  rw[DB]at h
  have hr:DB bs hs=true∧(x0.isGone=false→mt c0 bs hs=true):=by
   cases e:x0.isGone with
   | true=>rw[e]at h;exact⟨h,λh=>by cases h⟩
   | false =>
    rw[e]at h
    obtain⟨a,b⟩:=ag.mp h
    exact⟨b,λ_=>a⟩
  rcases i with _|i<;>rcases j with _|j
  ·rfl
  ·cases h1;cases h2
   exact absurd rfl (mr (hr.2 h3) j _ _ (by simpa using h1') (by simpa using h2') h3')
  ·cases h1';cases h2'
   exact absurd rfl (mr (hr.2 h3') i _ _ (by simpa using h1) (by simpa using h2) h3)
  ·exact congrArg (·+1) (BM hr.1 i j c x y (by simpa using h1) (by simpa using h1') (by simpa using h2) (by simpa using h2') h3 h3')
def nfB(k:Nat)(m:NF)(bs:List Nat):Bool:=
 cond (Nat.beq bs.length m.hs.length) (cond (DB bs m.hs) (cond ((List.range k).all λb=>Nat.beq (bs.getD b 0) b) (cond (Nat.ble k m.hs.length) (cond (tsB m.hs.length m.ts) (hsB m.hs.length m.hs) false) false) false) false) false
def NF.lhs(m:NF)(s:S3)(bs:List Nat):List AV×List (Option Blk):=(m.ts.map λp=>aQ p.2.1 (s.tm p.1),List.zipWith (λb x=>PB.see (s.hp b) x) bs m.hs)
def NF.rhs(m:NF)(bs:List Nat):List AV×List (Option Blk):=(m.ts.map λp=>p.2.2.ren λi=>bs.getD i 0,m.hs.map λx=>x.ren λi=>bs.getD i 0)
def nfP(k:Nat)(s:S3)(m:NF)(bs:List Nat)(R:Prop):Prop:=cond (nfB k m bs) (m.lhs s bs=m.rhs bs∧R) False
def Nf(m:NF)(bs:List Nat)(R:Prop):Prop:=m.rhs bs=m.rhs bs∧R
theorem mS{m:NF}{bs:List Nat}{R:Prop}:Nf m bs R↔R:=⟨λh=>h.2,λh=>⟨rfl,h⟩⟩
theorem jU{m:Nat}:∀{hs:List PB},hsB m hs=true→∀x∈hs,∀B,x.blk=some B→B.bel m∧∀π,x.ren π=some (B.ren π)
 | [],_,x,hx,_,_=>by simp at hx
 | .box y::r,h,x,hx,B,hB=>by
  obtain⟨h1,h2⟩:=ag.mp h
  rcases List.mem_cons.mp hx with rfl|hx
  ·cases hB;exact⟨AV.belB_ok h1,λπ=>rfl⟩
  ·exact jU h2 x hx B hB
 | .vec k es hes::r,h,x,hx,B,hB=>by
  rcases List.mem_cons.mp hx with rfl|hx
  ·cases hB;exact⟨bg (aC hes),λπ=>by show some (Blk.vec k es)=some (.vec k (dQ π es));rw[be _ (aC hes)]⟩
  ·exact jU (hs:=r) h x hx B hB
 | .arr es hes::r,h,x,hx,B,hB=>by
  rcases List.mem_cons.mp hx with rfl|hx
  ·cases hB;exact⟨bg (aC hes),λπ=>by show some (Blk.box (.agg es))=some (.box (.agg (dQ π es)));rw[be _ (aC hes)]⟩
  ·exact jU (hs:=r) h x hx B hB
 | .map kk ks vs hes::r,h,x,hx,B,hB=>by
  rcases List.mem_cons.mp hx with rfl|hx
  ·cases hB;exact⟨bg (aC hes),λπ=>by show some (Blk.map kk ks vs)=some (.map kk ks (dQ π vs));rw[be _ (aC hes)]⟩
  ·exact jU (hs:=r) h x hx B hB
 | .gone::r,h,x,hx,B,hB=>by
  rcases List.mem_cons.mp hx with rfl|hx
  ·cases hB
  ·exact jU (hs:=r) h x hx B hB
theorem sq{tm:Nat→AV}{π:Nat→Nat}{m:Nat}:∀{ts:List (Nat×Sh×AV)},(ts.map λp=>aQ p.2.1 (tm p.1))=(ts.map λp=>p.2.2.ren π)→tsB m ts=true →
  ∀t,(cV (ts.map λp=>(p.1,p.2.2)) t).bel m∧Sub (tm t) ((cV (ts.map λp=>(p.1,p.2.2)) t).ren π)
 | [],_,_,t=>⟨trivial,Sub.unk⟩
 | p::ts,h,hb,t=>by
  simp only[List.map_cons,List.cons.injEq]at h
  obtain⟨h1,h2⟩:=ag.mp hb
  obtain⟨i1,i2⟩:=sq h.2 h2 t
  by_cases e:t=p.1
  ·subst e
   simp only[List.map_cons,cV,↓reduceIte]
   exact⟨AV.belB_ok h1,h.1 ▸ dC _ _⟩
  ·simp only[List.map_cons,cV,if_neg e]
   exact⟨i1,i2⟩
theorem lN{k n:Nat}{s:S3}{m:NF}{bs:List Nat}{R:Prop}(h:nfP k s m bs R):av k n s m.st∧R:=by
 obtain⟨h2,h1,h3⟩:=aq h
 refine⟨?_,h3⟩
 obtain⟨e1,e2⟩:=Prod.mk.inj h1
 obtain⟨c1,h2⟩:=ag.mp h2
 obtain⟨c2,h2⟩:=ag.mp h2
 obtain⟨c3,h2⟩:=ag.mp h2
 obtain⟨c4,h2⟩:=ag.mp h2
 obtain⟨c5,c6⟩:=ag.mp h2
 have c1:=Nat.eq_of_beq_eq_true c1
 have c4:=Nat.le_of_ble_eq_true c4
 have c2:=BM c2
 have live:∀{y:PB} {x},y.blk=some x→y.isGone=false∧∀v,PB.see v y=v:=by
  intro y x e;cases y<;>first|exact⟨rfl,λv=>rfl⟩|cases e
 have hres:=sq e1 c5
 refine av.trans (s2:=⟨λt=>(m.st.tm t).ren λi=>bs.getD i 0,s.hp,s.nx⟩) (av.sub (λt=>(hres t).2) rfl rfl) ?_
 have hlt:∀{b x},m.st.hp b=some x→(∃y,m.hs[b]?=some y∧y.blk=some x)∧b<m.hs.length:=by
  intro b x e
  rw[show m.st.hp=bF (m.hs.map PB.blk)from(j1 _).symm]at e
  have e:=cr.mp e
  rw[List.getElem?_map,Option.map_eq_some_iff]at e
  obtain⟨y,e1,e2⟩:=e
  exact⟨⟨y,e1,e2⟩,(List.getElem?_eq_some_iff.mp e1).1⟩
 have hbs:∀{b},b<m.hs.length→bs[b]?=some (bs.getD b 0):=by
  intro b hb
  rw[List.getD_eq_getElem?_getD,List.getElem?_eq_getElem (show b<bs.length by omega)];rfl
 refine av.ren (λi=>bs.getD i 0) (λt=>.inr ⟨rfl,(hres t).1⟩) (λb x e=>?_) (λb b' e e' he=>?_) (λb hb=>?_) c4
 ·obtain⟨⟨y,g1,g3⟩,g2⟩:=hlt e
  obtain⟨q1,q2⟩:=jU c6 y (List.mem_of_getElem? g1) x g3
  refine⟨g2,?_,q1⟩
  have:(List.zipWith (λb x=>PB.see (s.hp b) x) bs m.hs)[b]?=(m.hs.map λx=>x.ren λi=>bs.getD i 0)[b]?:=by rw[←e2]
  rw[List.getElem?_zipWith,List.getElem?_map,hbs g2,g1]at this
  simp only[Option.map_some,Option.some.injEq,(live g3).2]at this
  show s.hp (bs.getD b 0)=_
  rw[this,q2]
 ·have hb:∀{b},m.st.hp b≠none→∃y,m.hs[b]?=some y∧y.isGone=false∧b<m.hs.length:=by
   intro b e
   cases hx:m.st.hp b with
   | none=>exact absurd hx e
   | some x =>
    obtain⟨⟨y,g1,g3⟩,g2⟩:=hlt hx
    exact⟨y,g1,(live g3).1,g2⟩
  obtain⟨y,a1,a2,a3⟩:=hb e
  obtain⟨y',a1',a2',a3'⟩:=hb e'
  have he:bs.getD b 0=bs.getD b' 0:=he
  exact c2 b b' _ y y' (hbs a3) (by rw[hbs a3',he]) a1 a1' a2 a2'
 ·have:=List.all_eq_true.mp c3 b (List.mem_range.mpr hb)
  exact Nat.eq_of_beq_eq_true this
section
variable {P : Program} {Sf : Nat → Type} {T : Type} (k : Nat)
def pre:An P Sf T→S3→(An P Sf T→S3→Prop)→Prop
 | .cmd c a,s,K=>iF k c s λs'=>pre a s' K
 | .wait a,s,K=>K a s
 | a,s,K=>K a s
def jN:An P Sf T→S3→(An P Sf T→S3→Prop)→Prop
 | .cmd c a,s,K=>iF k c s λs'=>jN a s' K
 | .cmdL c a,s,K=>iF k c s λs'=>jN a s' K
 | a,s,K=>K a s
abbrev KX(P:Program)(Sf:Nat→Type)(T:Type):=X→An P Sf T→S3→Prop
def uz(j:Nat)(nf:Sf j→NF)(R:Sf j→Prop)(a:An P Sf T)(s:S3):Prop:=
 match a with
 | .back j' t bs=>if h:j'=j then nfP k s (nf (h ▸ t)) bs (R (h ▸ t))else False
 | _=>False
def Hf(c:AO)(b:Bool)(tm:Nat→AV):Nat→AV:=match c with
 | .t t=>upd tm t (.val (.bool b))
 | .c _=>tm
def Qj(f:An P Sf T→S3→KX P Sf T→Prop):Nat→An P Sf T→S3→KX P Sf T→Prop
 | 0,_,_,_=>False
 | m+1,a,s,K=>f a s λe a' s'=>match e with
  | .normal=>Qj f m a' s' K
  | e=>K e a' s'
def wpA:AC→An P Sf T→S3→KX P Sf T→Prop
 | .skip,a,s,K=>K .normal a s
 | .reg ops,a,s,K=>pre k a s λa s=>jL ops s.nx ⟨s.tm,s.hp⟩ a λa' s' f=>K .normal a' ⟨s'.tm,s'.hp,f⟩
 | .dreg ops par,a,s,K=>pre k a s λa s=>jj ops s.nx ⟨s.tm,s.hp⟩ [] a λa' s' f lg=>cond (jo par lg) (K .normal a' ⟨s'.tm,s'.hp,f⟩) False
 | .seq x y,a,s,K=>match a with
  | .pass a=>wpA x a s λe a' s'=>match e with
   | .normal=>wpA y a' s' K
   | e=>K e a' s'
  | .join j nf I a body=>(wpA x a s λe a' s'=>match e with
    | .normal=>jN k a' s' λa' s'=>uz k j nf I a' s'
    | e=>K e a' s')∧∀t,I t→wpA y (body t) (nf t).st K
  | .join2 j nf I a body=>match y with
   | .seq y z=>(wpA x a s λe a' s'=>match e with
     | .normal=>wpA y a' s' λe a' s'=>match e with
      | .normal=>jN k a' s' λa' s'=>uz k j nf I a' s'
      | e=>K e a' s'
     | e=>K e a' s')∧∀t,I t→wpA z (body t) (nf t).st K
   | _=>False
  | .hand k0 cs m1 bs s2 c _ a=>Je k cs s λs=>nfP k s m1 bs (cond (Nat.beq k k0) (x=c∧wpA y a s2 K) False)
  | .hand2 k0 s1 s2 c _ a=>cond (Nat.beq k k0) (s=s1∧x=c∧wpA y a s2 K) False
  | .handQ k0 m1 bs s2 c p _ a=>nfP k s m1 bs (cond (Nat.beq k k0) (x=c∧p∧wpA y a s2 K) False)
  | a=>wpA x a s λe a' s'=>match e with
   | .normal=>wpA y a' s' K
   | e=>K e a' s'
 | .cond c x y,a,s,K=>pre k a s λa s=>match evO s.tm c with
  | .val (.bool b)=>cond b (wpA x (a.l s.nx) ⟨Hf c true s.tm,s.hp,s.nx⟩ K) (wpA y (a.r s.nx) ⟨Hf c false s.tm,s.hp,s.nx⟩ K)
  | _=>False
 | .block id x,a,s,K=>wpA x a s λe a' s'=>match e with
  | .exit i=>cond (Nat.beq i id) (K .normal a' s') (K (.exit i) a' s')
  | e=>K e a' s'
 | .loop x,a,s,K=>jN k a s λa s=>match a with
  | .loop j nf I mu s0 bs body=>nfP k s (nf s0) bs (I s0)∧∀t,I t→wpA x (body t) (nf t).st λe a' s'=>match e with
   | .normal=>jN k a' s' λa' s'=>uz k j nf (λt'=>I t'∧mu t'<mu t) a' s'
   | e=>K e a' s'
  | .unr m a=>Qj (λa s K=>wpA x a s K) m a s K
  | _=>False
 | .exit id,a,s,K=>K (.exit id) a s
 | .ret,a,s,K=>K .ret a s
 | .scope x,a,s,K=>wpA x a s K
 | .label,a,s,K=>K .normal a s
 | .bad,_,_,_=>False
end
section
variable {P : Program} {Sf : Nat → Type} {T : Type} {k n : Nat}
theorem oT{K:An P Sf T→S3→Prop}:∀{a:An P Sf T} {s:S3},pre k a s K→∃a' s',av k n s s'∧K a' s'
 | .cmd c a,s,h=>by
  rw[pre]at h
  obtain⟨s',h1,h2⟩:=lh (n:=n) h
  obtain⟨a',s2,h3,h4⟩:=oT h2
  exact⟨a',s2,h1.trans h3,h4⟩
 | .wait a,s,h=>⟨a,s,av.refl,by rw[pre]at h;exact h⟩
 | .cmdL _ _,s,h|.nil,s,h|.pass _,s,h|.br _ _ _,s,h|.el _ _ _ _,s,h|.elA _ _ _ _ _ _ _,s,h|.st _ _ _ _ _,s,h|.stI _ _ _ _,s,h|.app _ _ _ _ _,s,h|.appF _ _ _ _ _,s,h|.sub _ _ _ _ _,s,h|.rep _ _ _ _,s,h|.own _ _,s,h|.mn _ _ _,s,h|.req _ _ _,s,h|.callP _ _,s,h|.callH _ _ _,s,h|.callA _ _ _,s,h
 | .loop _ _ _ _ _ _ _,s,h|.join _ _ _ _ _,s,h|.join2 _ _ _ _ _,s,h|.back _ _ _,s,h|.hand _ _ _ _ _ _ _ _,s,h|.hand2 _ _ _ _ _ _,s,h|.handQ _ _ _ _ _ _ _ _,s,h|.unr _ _,s,h|.ret _,s,h|.retH _ _ _,s,h=>⟨_,s,av.refl,h⟩
theorem fv{K:An P Sf T→S3→Prop}:∀{a:An P Sf T} {s:S3},jN k a s K→∃a' s',av k n s s'∧K a' s'
 | .cmd c a,s,h=>by
  rw[jN]at h
  obtain⟨s',h1,h2⟩:=lh (n:=n) h
  obtain⟨a',s2,h3,h4⟩:=fv h2
  exact⟨a',s2,h1.trans h3,h4⟩
 | .cmdL c a,s,h=>by
  rw[jN]at h
  obtain⟨s',h1,h2⟩:=lh (n:=n) h
  obtain⟨a',s2,h3,h4⟩:=fv h2
  exact⟨a',s2,h1.trans h3,h4⟩
 | .wait _,s,h|.nil,s,h|.pass _,s,h|.br _ _ _,s,h|.el _ _ _ _,s,h|.elA _ _ _ _ _ _ _,s,h|.st _ _ _ _ _,s,h|.stI _ _ _ _,s,h|.app _ _ _ _ _,s,h|.appF _ _ _ _ _,s,h|.sub _ _ _ _ _,s,h|.rep _ _ _ _,s,h|.own _ _,s,h|.mn _ _ _,s,h|.req _ _ _,s,h|.callP _ _,s,h|.callH _ _ _,s,h|.callA _ _ _,s,h
 | .loop _ _ _ _ _ _ _,s,h|.join _ _ _ _ _,s,h|.join2 _ _ _ _ _,s,h|.back _ _ _,s,h|.hand _ _ _ _ _ _ _ _,s,h|.hand2 _ _ _ _ _ _,s,h|.handQ _ _ _ _ _ _ _ _,s,h|.unr _ _,s,h|.ret _,s,h|.retH _ _ _,s,h=>⟨_,s,av.refl,h⟩
theorem mQ{j:Nat}{nf:Sf j→NF}{R:Sf j→Prop}{a:An P Sf T}{s:S3}(h:uz k j nf R a s):∃t,R t∧av k n s (nf t).st:=by
 unfold uz at h
 split at h
 ·rename_i j' t bs
  by_cases e:j'=j
  ·subst e
   rw[dif_pos rfl]at h
   obtain⟨h1,h2⟩:=lN (n:=n) h
   exact⟨_,h2,h1⟩
  ·rw[dif_neg e]at h;exact h.elim
 ·exact h.elim
theorem BD{c:AO}{b:Bool}{tm:Nat→AV}(h:evO tm c=.val (.bool b)):Hf c b tm=tm:=by
 cases c with
 | t t=>exact dP h
 | c x=>rfl
theorem cH:∀{c:AC} {a:An P Sf T} {s:S3} {K:KX P Sf T} {Q:X→S3→Prop},wpA k c a s K→(∀e a' s',K e a' s'→Q e s')→AWP P k n c Q s
 | .skip,a,s,K,Q,h,hq=>AWP.skip (hq _ _ _ h)
 | .reg ops,a,s,K,Q,h,hq=>by
  obtain⟨a',s',h1,h2⟩:=oT (n:=n) h
  refine AWP.weak h1 (AWP.reg ?_)
  exact gk (λa'' s'' f hk=>hq _ _ _ hk) h2
 | .dreg ops par,a,s,K,Q,h,hq=>by
  obtain⟨a',s',h1,h2⟩:=oT (n:=n) h
  refine AWP.weak h1 (AWP.dreg ?_)
  refine ji (λa'' s'' f lg hk=>?_) h2
  obtain⟨g1,g2⟩:=aq hk
  exact⟨g1,hq _ _ _ g2⟩
 | .seq x y,a,s,K,Q,h,hq=>by
  have plain:∀{a:An P Sf T},(wpA k x a s λe a' s'=>match e with
    | .normal=>wpA k y a' s' K
    | e=>K e a' s')→AWP P k n (.seq x y) Q s:=by
   intro a h
   refine AWP.seq (cH h λe a' s' hk=>?_)
   cases e with
   | normal=>exact cH hk hq
   | exit id=>exact hq _ _ _ hk
   | ret=>exact hq _ _ _ hk
  rw[wpA.eq_def]at h
  simp only at h
  split at h
  ·exact plain h
  ·rename_i j nf I a body
   obtain⟨h1,h2⟩:=h
   refine AWP.seq (cH h1 λe a' s' hk=>?_)
   cases e with
   | normal =>
    obtain⟨a2,s2,g1,g2⟩:=fv (n:=n) hk
    obtain⟨t,g3,g4⟩:=mQ (n:=n) g2
    exact AWP.weak (g1.trans g4) (cH (h2 t g3) hq)
   | exit id=>exact hq _ _ _ hk
   | ret=>exact hq _ _ _ hk
  ·rename_i j nf I a body
   split at h
   ·rename_i y z
    obtain⟨h1,h2⟩:=h
    refine AWP.seq (cH h1 λe a' s' hk=>?_)
    cases e with
    | normal =>
     refine AWP.seq (cH hk λe a' s' hk=>?_)
     cases e with
     | normal =>
      obtain⟨a2,s2,g1,g2⟩:=fv (n:=n) hk
      obtain⟨t,g3,g4⟩:=mQ (n:=n) g2
      exact AWP.weak (g1.trans g4) (cH (h2 t g3) hq)
     | exit id=>exact hq _ _ _ hk
     | ret=>exact hq _ _ _ hk
    | exit id=>exact hq _ _ _ hk
    | ret=>exact hq _ _ _ hk
   ·exact h.elim
  ·rename_i k0 cs m1 bs s2 c hc a
   obtain⟨s',h0,h⟩:=ut (n:=n) h
   obtain⟨h1,q1⟩:=lN (n:=n) h
   obtain⟨h2,q2⟩:=aq q1
   clear q1 h
   obtain⟨rfl,q3⟩:=q2
   have h2:=Nat.eq_of_beq_eq_true h2
   subst h2
   refine AWP.weak (h0.trans h1) (AWP.seq (AWP.mono (hc n) λe s' he=>?_))
   cases e with
   | normal=>exact AWP.weak he (cH q3 hq)
   | exit id=>exact he.elim
   | ret=>exact he.elim
  ·rename_i k0 s1 s2 c hc a
   obtain⟨h2,q2⟩:=aq h
   clear h
   obtain⟨rfl,rfl,q3⟩:=q2
   have h2:=Nat.eq_of_beq_eq_true h2
   subst h2
   refine AWP.seq (AWP.mono (hc n) λe s' he=>?_)
   cases e with
   | normal=>exact AWP.weak he (cH q3 hq)
   | exit id=>exact he.elim
   | ret=>exact he.elim
  ·rename_i k0 m1 bs s2 c p hc a
   obtain⟨h1,q1⟩:=lN (n:=n) h
   obtain⟨h2,q2⟩:=aq q1
   clear q1 h
   obtain⟨rfl,hp,q3⟩:=q2
   have h2:=Nat.eq_of_beq_eq_true h2
   subst h2
   refine AWP.weak h1 (AWP.seq (AWP.mono (hc hp n) λe s' he=>?_))
   cases e with
   | normal=>exact AWP.weak he (cH q3 hq)
   | exit id=>exact he.elim
   | ret=>exact he.elim
  ·exact plain h
 | .cond c x y,a,s,K,Q,h,hq=>by
  obtain⟨a',s',h1,h2⟩:=oT (n:=n) h
  refine AWP.weak h1 ?_
  split at h2
  ·rename_i b e
   refine AWP.cond e (λhb=>?_) (λhb=>?_)
   ·subst hb
    have h2:wpA k x (a'.l s'.nx) ⟨Hf c true s'.tm,s'.hp,s'.nx⟩ K:=h2
    rw[BD e]at h2
    exact cH h2 hq
   ·subst hb
    have h2:wpA k y (a'.r s'.nx) ⟨Hf c false s'.tm,s'.hp,s'.nx⟩ K:=h2
    rw[BD e]at h2
    exact cH h2 hq
  ·exact h2.elim
 | .block id x,a,s,K,Q,h,hq=>by
  refine AWP.block (cH h λe a' s' hk=>?_)
  cases e with
  | normal=>exact hq _ _ _ hk
  | exit i =>
   have hk:cond (Nat.beq i id) (K .normal a' s') (K (.exit i) a' s'):=hk
   show if i=id then Q .normal s' else Q (.exit i) s'
   cases e:Nat.beq i id with
   | true=>rw[e]at hk;rw[if_pos (Nat.eq_of_beq_eq_true e)];exact hq _ _ _ hk
   | false=>rw[e]at hk;rw[if_neg (λe'=>by subst e';simp at e)];exact hq _ _ _ hk
  | ret=>exact hq _ _ _ hk
 | .loop x,a,s,K,Q,h,hq=>by
  obtain⟨a',s',h1,h2⟩:=fv (n:=n) h
  refine AWP.weak h1 ?_
  split at h2
  ·rename_i j nf I mu s0 bs body
   obtain⟨h2,h3⟩:=h2
   obtain⟨h4,h5⟩:=lN (n:=n) h2
   refine AWP.loopS (σ:=Sf j) (λt=>(nf t).st) I mu h5 h4 λt ht=>cH (h3 t ht) λe a' s' hk=>?_
   cases e with
   | normal =>
    obtain⟨a2,s2,g1,g2⟩:=fv (n:=n) hk
    obtain⟨t',⟨g3,g4⟩,g5⟩:=mQ (n:=n) g2
    exact⟨t',g3,g4,g1.trans g5⟩
   | exit id=>exact hq _ _ _ hk
   | ret=>exact hq _ _ _ hk
  ·rename_i m a2
   refine AWP.loop (λm s=>∃a,Qj (λa s K=>wpA k x a s K) m a s K) (m:=m) ⟨_,av.refl,_,h2⟩ λm s hI=>?_
   obtain⟨a3,h3⟩:=hI
   cases m with
   | zero=>exact h3.elim
   | succ m =>
    refine cH h3 λe a' s' hk=>?_
    cases e with
    | normal=>exact⟨m,s',Nat.lt_succ_self m,av.refl,a',hk⟩
    | exit id=>exact hq _ _ _ hk
    | ret=>exact hq _ _ _ hk
  ·exact h2.elim
 | .exit id,a,s,K,Q,h,hq=>AWP.exit (hq _ _ _ h)
 | .ret,a,s,K,Q,h,hq=>AWP.ret (hq _ _ _ h)
 | .scope x,a,s,K,Q,h,hq=>AWP.scope (cH h hq)
 | .label,a,s,K,Q,h,hq=>AWP.label (hq _ _ _ h)
 | .bad,_,_,_,_,h,_=>h.elim
end
end Go.Am
