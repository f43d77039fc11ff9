/- Texts joined: RD3 Mx7. -/
import Derived.Shelf.SlSortCmp.NoneTotal
import Derived.Shelf.SlSortCmp.WholeK
import Derived.Test.YtiobpjoadkfhdaaGreatMM4
set_option linter.unusedVariables false
set_option linter.unusedSimpArgs false
set_option linter.unusedSectionVars false
namespace Go.Proofs.YtiobpjoadkfhdaaGreat
open Go Go.Am
def ix5(t:Tpl)(a:Int):Nat:=(t.rs.map (·.id)).idxOf a
theorem pV{t:Tpl}{a:Int}(h:aJ t a=true):(t.rs.map (·.id))[ix5 t a]?=some a:=by
 have hm:a∈t.rs.map (·.id):=by
  unfold aJ at h;obtain⟨r,hr,e⟩:=aj'.mp h;exact aa'.mpr ⟨r,hr,by simpa using e⟩
 unfold ix5;have hl:=ci' hm;rw[f' hl,List.getElem_idxOf hl]
def pR(t:Tpl)(M:List (List Stp))(l:Lnk):List (List Stp):=apR (apR (apR (apR M (2 * ix5 t l.a) ⟨l.b,l.ca⟩) (2 * ix5 t l.b) ⟨l.a,l.cb⟩) (2 * ix5 t l.b+1) ⟨l.a,l.ca⟩) (2 * ix5 t l.a+1) ⟨l.b,l.cb⟩
def eo(t:Tpl)(ls:List Lnk):List (List Stp):=ls.foldl (pR t) (List.replicate (2 * t.rs.length) [])
theorem Eu(t:Tpl)(M:List (List Stp))(l:Lnk):(pR t M l).length=M.length:=by simp[pR,iq]
theorem io{M:List (List Stp)}{m:Nat}(h:∀r∈M,r.length≤m)(x:Nat)(s:Stp):∀r∈apR M x s,r.length≤m+1:=λr hr=>by
 unfold apR at hr
 rcases ap' hr with h1|rfl
 ·have:=h r h1;omega
 ·rw[List.length_append,H'];cases e:M[x]? with
  | none=>simp
  | some q=>have:=h q (J' e);simp;omega
theorem Et{t:Tpl}{M:List (List Stp)}{m:Nat}(h:∀r∈M,r.length≤m)(l:Lnk):∀r∈pR t M l,r.length≤m+4:=io (io (io (io h _ _) _ _) _ _) _ _
theorem dx(t:Tpl)(ls:List Lnk):(eo t ls).length=2 * t.rs.length:=by
 unfold eo;have:∀(ls:List Lnk) (M:List (List Stp)),(ls.foldl (pR t) M).length=M.length:=λls=>by
  induction ls with
  | nil=>intro M;rfl
  | cons l ls ih=>intro M;rw[aN',ih,Eu]
 rw[this];simp
theorem Es(t:Tpl)(ls:List Lnk):∀r∈eo t ls,r.length≤4 * ls.length:=by
 unfold eo;have:∀(ls:List Lnk) (M:List (List Stp)) (m:Nat),(∀r∈M,r.length≤m)→∀r∈ls.foldl (pR t) M,r.length≤m+4 * ls.length:=λls=>by
  induction ls with
  | nil=>intro M m h;exact h
  | cons l ls ih=>intro M m h r hr;have:=ih _ _ (Et h l) r hr;simp only[Y'];omega
 intro r hr;have:=this ls _ 0 (λr hr=>by rw[(List.mem_replicate.mp hr).2];exact X' _) r hr;omega
theorem A8(t:Tpl){ls:List Lnk}{i:Nat}{l:Lnk}(h:ls[i]?=some l):eo t (ls.take (i+1))=pR t (eo t (ls.take i)) l:=by
 rw[aB h];unfold eo;rw[be'];rfl
def CN:AC:=.seq (.reg [⟨(some 28),.faddr 1 (.t 1),none⟩,⟨(some 29),.load false 1 (.t 28),none⟩,⟨(some 30),.len (.t 29),none⟩,⟨(some 31),.move (.c (.val (.int .i64 0))),none⟩])
 (.block 2 (.loop (.seq (.reg [⟨(some 32),.bin .lss (.t 31) (.t 30),none⟩])
 (.seq (.cond (.t 32) (.skip) (.exit 2))
 (.seq (.block 3 (.seq (.reg [⟨(some 33),.iaddr 5 (.t 29) (.t 31),none⟩,⟨(some 34),.load true 5 (.t 33),none⟩,⟨(some 7),.box (.c (.agg [(.val (.int .i64 0)),(.val (.int .i64 0)),(.val (.int .i64 0)),(.val (.int .i64 0)),(.val (.int .i64 0))])),none⟩,⟨none,.store 5 (.t 7) (.t 34),none⟩])
 (.seq CL (.seq CK (.seq CJ CI)))))
 (.reg [⟨(some 99),.bin .add (.t 31) (.c (.val (.int .i64 1))),none⟩,⟨(some 31),.move (.t 99),none⟩]))))))
def rdI(t:Tpl)(i:Nat)(M:List (List Stp)):S3:=
 ⟨cD [(1,.ref 0 0),(2,.ref 1 0),(3,.ref 2 0),(29,.sl 5 (t.ls.map Lnk.v) false),(30,.int t.ls.length),(31,.int (i:Nat))],GS M (hpL 0 (rdH t (t.rs.map (·.id)) (evN t.rs.length) (odN t.rs.length))),2000⟩
theorem rd_h2(t:Tpl)(hc:aC t=0)(k:Nat):dL Tryz.prog 0 k CN (rdS t (List.replicate (2 * t.rs.length) [])) (rdS t (eo t t.ls)):=by
 unfold dL CN;have hO:=ax hc;have hR:=hO.nr;have hL:=hO.nl;have hml:=aU;unfold rdS;have hG0:∀M b,b<1000→GS M (hpL 0 (rdH t (t.rs.map (·.id)) (evN t.rs.length) (odN t.rs.length))) b=hpL 0 (rdH t (t.rs.map (·.id)) (evN t.rs.length) (odN t.rs.length)) b:=λM b hb=>lY hb;have g0:∀M,GS M (hpL 0 (rdH t (t.rs.map (·.id)) (evN t.rs.length) (odN t.rs.length))) 0=some (.box (.agg [.sl 2 (t.rs.map Rtr.v) false,.sl 5 (t.ls.map Lnk.v) false])):=λM=>hG0 M 0 (by decide);refine AWP.seq' ?_;refine AWP.reg' λK hK=>?_
 try simp only[ag,seval,g0,u']
 refine hK _ _ _ ?_;clear hK K;refine AWP.block ?_
 refine AWP.loopS (λi:Nat=>rdI t i (eo t (t.ls.take i))) (λi=>i≤t.ls.length) (λi=>t.ls.length-i) (i0:=0) (am' _) ?_ ?_
 ·refine ao.nfR c8 _ _ _ (λb=>b) Fr ?_ (oE (by omega) rfl rfl rfl rfl rfl rfl rfl) (by simp[rdH]) (by rw[dx];omega) ?_ (λi j _ _ h=>h) (λi j _ _ h=>by unfold Fr at h;omega) (λi j h1 h2 h=>by simp[rdH]at h1;unfold Fr at h;omega) (λb _=>rfl) (by decide)
  ·simp only[aM',aB',false_implies,implies_true,and_true];exact⟨⟨rfl,show 0<2000 by omega⟩,⟨rfl,show 1<2000 by omega⟩,⟨rfl,show 2<2000 by omega⟩,⟨rfl,trivial⟩,⟨rfl,trivial⟩,rfl,trivial⟩
  ·exact λj r hr=>it hr (by simp;omega)
 ·intro i hi;unfold rdI;refine AWP.seq' ?_;refine AWP.reg' λK hK=>?_
  try simp only[ag,seval]
  refine hK _ _ _ ?_;clear hK K;refine AWP.seq' ?_
  refine AWP.cond (b:=decide ((i:Int)<(t.ls.length:Int))) rfl (λh=>?_) (λh=>?_)
  ·have h:i<t.ls.length:=by have:=G' h;omega
   have hr:t.ls[i]?=some t.ls[i]:=f' h;generalize t.ls[i]=l at hr;refine AWP.skip ?_
   refine AWP.seq' (AWP.block (AWP.seqW (rdT t l i (eo t (t.ls.take i))) ?_ ?_))
   ·have hge:(t.ls.map Lnk.v).getD i .unk=Lnk.v l:=by rw[H',I',hr];rfl
    refine AWP.reg' λK hK=>?_
    try simp only[ag,seval,hge,Int.toNat_natCast,u',Lnk.v]
    refine⟨⟨by omega,by omega⟩,?_⟩;refine hK _ _ _ ?_;clear hK K;have hG1:∀b,b<1000→b≠2048:=λb hb=>by omega
    refine ao.nfR c8 _ _ _ (λb=>if b=5 then 2048 else b) Fr ?_ (rG ⟨rfl,rfl,rfl,rfl,rfl⟩ (by omega) rfl rfl rfl rfl rfl rfl rfl rfl) (by simp[rdL]) (by rw[dx];omega) ?_ ?_ (λi j _ _ h=>by unfold Fr at h;omega) ?_ (λb hb=>by omega) (by decide)
    ·simp only[aM',aB',false_implies,implies_true,and_true];exact⟨⟨rfl,show 0<2000 by omega⟩,⟨rfl,show 1<2000 by omega⟩,⟨rfl,show 2<2000 by omega⟩,⟨rfl,show 5<2000 by omega⟩,⟨rfl,trivial⟩,⟨rfl,trivial⟩,rfl,trivial⟩
    ·intro j r hr;have hj:=am hr;rw[dx]at hj;simp only[aj,iz (show j<1000 by omega) (show 2000≤2048 by omega),if_false];exact it hr (by rw[dx];omega)
    ·intro a b ha hb he;simp only[rdL,Y',al']at ha hb
     (repeat' split at he)<;>omega
    ·intro a b ha hb he;simp only[rdL,Y',al']at ha;rw[dx]at hb;unfold Fr at he
     (repeat' split at he)<;>omega
   ·have hm:=J' hr;obtain⟨ha,hb⟩:=hO.has l hm;have hx:=pV ha;have hy:=pV hb;have hM0:=dx t (t.ls.take i);have r0:=Es t (t.ls.take i);have hln:(t.ls.take i).length≤60:=by rw[ar'];omega
    have r1:=io r0 (2 * ix5 t l.a) ⟨l.b,l.ca⟩;have r2:=io r1 (2 * ix5 t l.b) ⟨l.a,l.cb⟩;have r3:=io r2 (2 * ix5 t l.b+1) ⟨l.a,l.ca⟩;refine AWP.seqW _ (rd_a1 t hc l i _ hM0 (λr h=>by have:=r0 r h;omega) hx k λs hw=>hw) ?_;refine AWP.seqW _ (rd_a2 t hc l i _ (by rw[iq,hM0]) (λr h=>by have:=r1 r h;omega) hy k λs hw=>hw) ?_;refine AWP.seqW _ (rd_a3 t hc l i _ (by rw[iq,iq,hM0]) (λr h=>by have:=r2 r h;omega) hy k λs hw=>hw) ?_;refine rd_a4 t hc l i _ (by rw[iq,iq,iq,hM0]) (λr h=>by have:=r3 r h;omega) hx k λs hw=>?_;refine AWP.weak hw ?_;have e:apR (apR (apR (apR (eo t (t.ls.take i)) (2 * ix5 t l.a) ⟨l.b,l.ca⟩) (2 * ix5 t l.b) ⟨l.a,l.cb⟩) (2 * ix5 t l.b+1) ⟨l.a,l.ca⟩) (2 * ix5 t l.a+1) ⟨l.b,l.cb⟩=eo t (t.ls.take (i+1)):=(A8 t hr).symm;rw[e];unfold rdT;have w:IntKind.i64.wrap ((i:Int)+1)=((i+1:Nat):Int):=jF (by omega) (by omega);refine AWP.reg' λK hK=>?_
    try simp only[ag,seval,w]
    refine hK _ _ _ ?_;clear hK K;refine⟨i+1,by omega,by omega,?_⟩
    refine ao.nfR c8 _ _ _ (λb=>b) Fr ?_ (oE (by omega) rfl rfl rfl rfl rfl rfl rfl) (by simp[rdH]) (by rw[dx];omega) ?_ (λi j _ _ h=>h) (λi j _ _ h=>by unfold Fr at h;omega) (λi j h1 h2 h=>by simp[rdH]at h1;unfold Fr at h;omega) (λb _=>rfl) (by decide)
    ·simp only[aM',aB',false_implies,implies_true,and_true];exact⟨⟨rfl,show 0<2000 by omega⟩,⟨rfl,show 1<2000 by omega⟩,⟨rfl,show 2<2000 by omega⟩,⟨rfl,trivial⟩,⟨rfl,trivial⟩,rfl,trivial⟩
    ·exact λj r hr=>it hr (by rw[dx];omega)
  ·have h:i=t.ls.length:=by have:=S' h;omega
   subst h;refine AWP.exit ?_;refine(show ao 0 k _ _ from ?_);rw[List.take_length];refine ao.nfR c8 _ _ _ (λb=>b) Fr ?_ (oE (by omega) rfl rfl rfl rfl rfl rfl rfl) (by simp[rdH]) (by rw[dx];omega) (λj r hr=>it hr (by rw[dx];omega)) (λi j _ _ h=>h) (λi j _ _ h=>by unfold Fr at h;omega) (λi j h1 h2 h=>by simp[rdH]at h1;unfold Fr at h;omega) (λb _=>rfl) (by decide);simp only[aM',aB',false_implies,implies_true,and_true];exact⟨⟨rfl,show 0<2000 by omega⟩,⟨rfl,show 1<2000 by omega⟩,rfl,show 2<2000 by omega⟩
end Go.Proofs.YtiobpjoadkfhdaaGreat
namespace Go.Am
open Go.Proofs Go.Shelf Go.RowKit Go.Lib Go.Sort
theorem sR{α:Type}[Inhabited α](enc:α→List Value)(k:Nat)(k0:0<k)(hk:∀x,(enc x).length=k):∀l:List α,
  (List.range (l.length * k)).map (λt=>(enc l[t / k]!)[t % k]!)=l.flatMap enc
 | []=>by simp
 | x::l=>by
  have ih:=sR enc k k0 hk l;rw[aq',←ih,Y',Nat.succ_mul,Nat.add_comm,List.range_add,aI',aZ']
  congr 1
  ·refine List.ext_getElem (by simp[hk]) λi h1 h2=>?_;have hi:i<k:=by simpa using h1
   simp[Nat.div_eq_of_lt hi,Nat.mod_eq_of_lt hi,h2]
  ·refine an' λt _=>?_;simp[Function.comp,Nat.add_div_left t k0]
theorem nR{α:Type}[Inhabited α](enc:α→List Value)(k:Nat)(k0:0<k)(hk:∀x,(enc x).length=k)(d:Array α):(flatK enc k d).toList=d.toList.flatMap enc:=by
 rw[←sR enc k k0 hk d.toList];unfold flatK;simp[List.getElem!_eq_getElem?_getD,Array.getElem!_eq_getD,bA']
section
variable {T : Type} (key : T → Int) (k : Nat)
structure SE where
  x:T
  cs:List Value
  ok:cs.length=k∧(∀u∈cs,u.oneCell'=true)∧∃r,cs=.int .i64 (key x)::r
variable {key k}
theorem SE.list{w:World}{A:Nat→Prop}{μ:Mu}{v:T→AV}(hv:∀x,∃cs,v x=.agg (.int (key x)::cs)) :
  ∀{l:List T} {vs:List Value},RVL w A (l.map v) μ vs→(∀u∈vs,u.cells.size=k)→∃ds:List (SE key k),ds.map SE.x=l∧vs=ds.map (λp=>.agg p.cs.toArray)∧∀p∈ds,RV w A (v p.x) μ (.agg p.cs.toArray)
 | [],vs,h,_=>⟨[],rfl,h,by simp⟩
 | x::l,_,⟨u,vs,rfl,h1,h2⟩,hs=>by
  obtain⟨ds,e1,e2,e3⟩:=SE.list hv h2 λu hu=>hs u (bb' _ hu);obtain⟨cs,hc⟩:=hv x;have h1':=h1;rw[hc]at h1;obtain⟨us,rfl,g1,g2⟩:=h1;obtain⟨u0,us',rfl,g3,g4⟩:=g1;obtain⟨rfl,g5⟩:=g3;have hl:(Value.int .i64 (key x)::us').length=k:=by
   have:=hs _ (bF' ..);simpa[Value.cells]using this
  exact⟨⟨x,.int .i64 (key x)::us',hl,g2,us',rfl⟩::ds,by rw[aE',e1],by rw[aE',e2],λp hp=>by
   rcases ah'.mp hp with rfl|hp
   ·exact h1'
   ·exact e3 p hp⟩
theorem SE.rvl{w:World}{A:Nat→Prop}{μ:Mu}{v:T→AV}:∀{ds:List (SE key k)},(∀p∈ds,RV w A (v p.x) μ (.agg p.cs.toArray))→RVL w A ((ds.map SE.x).map v) μ (ds.map λp=>.agg p.cs.toArray)
 | [],_=>rfl
 | p::ds,h=>⟨_,_,rfl,h p (bF' ..),SE.rvl λq hq=>h q (bb' _ hq)⟩
end
theorem IC{T:Type}(key:T→Int):SWO (ltOf λx y:T=>Lib.compareInt (key x) (key y)):=by
 have e:∀x y:T,ltOf (λx y:T=>Lib.compareInt (key x) (key y)) x y=decide (key x<key y):=λx y=>by
  unfold ltOf Lib.compareInt
  by_cases h1:key x<key y
  ·simp[h1]
  ·by_cases h2:key y<key x<;>simp[h1,h2]
 refine⟨λx=>?_,λx y z h1 h2=>?_,λx y z h1 h2=>?_⟩
 ·rw[e];simp
 ·rw[e]at *;simp at *;omega
 ·rw[e]at *;simp at *;omega
theorem Pd{T:Type}(key:T→Int)(x y:T):ltOf (λx y:T=>Lib.compareInt (key x) (key y)) x y=decide (key x<key y):=by
 unfold ltOf Lib.compareInt
 by_cases h1:key x<key y
 ·simp[h1]
 ·by_cases h2:key y<key x<;>simp[h1,h2]
theorem jH{T:Type}{key:T→Int}:∀{a b:List T},a.Perm b→a.Pairwise (λx y=>key x≤key y)→b.Pairwise (λx y=>key x<key y)→a=b
 | [],b,h,_,_=>(List.nil_perm.mp h).symm
 | x::a,[],h,_,_=>absurd h.length_eq (by simp)
 | x::a,y::b,h,h1,h2=>by
  have hxy:x=y:=by
   have m1:=h.mem_iff.mp (bF' (a:=x) (l:=a));have m2:=h.mem_iff.mpr (bF' (a:=y) (l:=b))
   rcases ah'.mp m1 with e|m1
   ·exact e
   rcases ah'.mp m2 with e|m2
   ·exact e.symm
   have g1:=(ce'.mp h1).1 y m2;have g2:=(ce'.mp h2).1 x m1;omega
  subst hxy;rw[jH ((List.perm_cons _).mp h) (ce'.mp h1).2 (ce'.mp h2).2]
theorem AG{α:Type}[Inhabited α]{enc:α→List Value}{k:Nat}{w:World}{blk n:Nat}{d:Array α}{os:Array Obj}{C:Array Value}{ty:TypeId}(h:w.heap[blk]?=some (.cells C ty (0,0))) :
  (sortWorldK enc k w blk 0 n d os).heap[blk]?=some (.cells (putCells id 0 (flatK enc k d) C) ty (0,0))∧(∀b,b<w.heap.size→b≠blk→(sortWorldK enc k w blk 0 n d os).heap[b]?=w.heap[b]?) ∧
  w.heap.size≤(sortWorldK enc k w blk 0 n d os).heap.size:=by
 have hb:blk<w.heap.size:=(aT'.mp h).1;have e:(sortWorldK enc k w blk 0 n d os).heap=w.heap.modify blk (onCells (putCells id 0 (flatK enc k d)))++os:=rfl;rw[e]
 refine⟨?_,λb h1 h2=>?_,by simp⟩
 ·rw[bD' (by simpa using hb),bE',F' rfl,h];rfl
 ·rw[bD' (by simpa using h1),bE',E' (Ne.symm h2)]
theorem CQ{F C:Array Value}(h:F.size≤C.size):(putCells id 0 F C).toList.take F.size=F.toList∧(putCells id 0 F C).size=C.size:=by
 have hs:(putCells id 0 F C).size=C.size:=by simp[putCells]
 refine⟨List.ext_getElem (by simp[hs];omega) λi h1 h2=>?_,hs⟩;have hi:i<F.size:=by simpa using h2
 simp[putCells,hi]
theorem ul{P:Program}{ρ:Ren}(L:SlLaysF0.n6 P ρ){T:Type}(v:T→AV)(key:T→Int)(k:Nat)(k0:0<k)
  (aE:∀w,(isAgg (ρ.t 24)).run P w=.ok true w) (zE:∀w,(Go.sizeOf (ρ.t 24)).run P w=.ok k w) (hv:∀x,∃cs,v x=.agg (.int (key x)::cs))
  (g:Nat) (eg:∀args w,(callFunc g args).run P w=.ok (.enter g args) w)
  (hcmp:∀(a b:Int) (xs ys:List Value) (w:World),xs.length+1=k→ys.length+1=k→(∀u∈xs,u.oneCell'=true)→(∀u∈ys,u.oneCell'=true) →
   Calls P g #[.agg (Value.int .i64 a::xs).toArray,.agg (Value.int .i64 b::ys).toArray] w λe w'=>e=.returned (.int .i64 (Lib.compareInt a b))∧∃q os',w'=grow (w.drewN q) os')
  (l l':List T) (hp:l'.Perm l) (hs:l'.Pairwise λx y=>key x<key y) (hl:l.length≤1000000) :
  aF P (ρ.f 6) [.vec 0,.func g []] [.vec k (l.map v)] (.tup []) [some (.vec k (l'.map v))]:=by
 intro w A μ cargs hH hmu hargs;obtain⟨c0,_,rfl,h0,c1,_,rfl,h1,rfl⟩:=hargs;obtain⟨hd,hm,rfl⟩:=h0;obtain⟨_,rfl,rfl⟩:=h1;obtain⟨hd',hm',hb,hA⟩:=hH.blk 0 _ rfl;rw[hm]at hm';cases hm';obtain⟨hk,hb⟩:=hb
 have none_:∀p cap,hd.val=.slice p 0 cap→l=[]→Calls P (ρ.f 6) [hd.val,Value.func (.func g) #[] ([]:List Value).toArray].toArray w λe w'=>∃v_1 A' μ',e=.returned v_1∧RV w' A' (.tup []) μ' v_1∧kc P w' A' μ' (bc [some (.vec k (l'.map v))])∧bu μ μ'∧Ext (cr μ (bc ([Blk.vec k (l.map v)].map some))) w w' ∧
   (∀b,A b→A' b)∧(∀b,A' b→A b∨cr μ (bc ([Blk.vec k (l.map v)].map some)) b∨w.heap.size≤b) ∧
   (∀b,cr μ' (bc [some (.vec k (l'.map v))]) b→cr μ (bc ([Blk.vec k (l.map v)].map some)) b∨w.heap.size≤b):=by
  intro p cap e0 e1;subst e1;obtain rfl:=List.perm_nil.mp hp;rw[e0];refine(AnyF.slices_SortFunc_none L p cap (.func (.func g) #[] #[]) w).mono ?_;rintro e w' ⟨rfl,rfl⟩;exact⟨_,A,μ,rfl,⟨[],rfl,rfl⟩,hH,bu.refl _,⟨rfl,rfl,rfl,X' _,λ_ _ _=>rfl⟩,λb h=>h,λb h=>.inl h,λb h=>.inl h⟩
 rcases hb with⟨he,ha⟩|⟨he,hlen,hle,hcap,C,ty,vs,hheap,hrvl,hsol,hsz,hC,htake⟩
 ·obtain⟨a,ha⟩:=bI'.mp ha;exact none_ a 0 (by unfold Hd.val;rw[ha]) (by simpa using he)
 obtain⟨ds,e1,rfl,e3⟩:=SE.list hv hrvl hsz;have hval:hd.val=.slice (some ⟨hd.blk,0,none⟩) hd.len hd.cap:=by unfold Hd.val;rw[he]
 have hlen':hd.len=ds.length:=by rw[hlen,←e1];simp
 match hds:ds with
 | []=>exact none_ _ _ (by rw[hval,hlen'];rfl) (by rw[←e1];rfl)
 | p0::ds' =>
  rw[←hds]at e1 e3 htake hlen' hrvl hsz;haveI:Inhabited (SE key k):=⟨p0⟩
  obtain⟨nA,hblk⟩:=hA he;have hk1:∀x:SE key k,x.cs.length=k:=λx=>x.ok.1;have hC':C.toList.take (ds.length * k)=(flatK SE.cs k ds.toArray).toList:=by
   rw[nR _ _ k0 hk1,←hlen',htake,List.flatMap_map];rfl
  have hsz':ds.length * k≤C.size:=by rw[←hlen'];exact aF' (ao' _ hle) hC
  have hHK:HoldsK SE.cs k w hd.blk 0 ds.toArray:=by
   intro j hj;have hj':j<ds.length * k:=by simpa using hj
   refine⟨?_,by simp[World.frozen?,hheap]⟩;have:(C.toList.take (ds.length * k))[j]?=(flatK SE.cs k ds.toArray).toList[j]?:=by rw[hC']
   rw[aw',F' hj']at this;simp only[World.cell?,hheap,az',Option.isSome_none,aS',if_false,id];rw[getElem!_pos _ j hj,←aO' hj];simpa using this
  have key_:=AnyQ.slices_SortFunc L k aE zE SE.cs hk1 (λx=>x.ok.2.1) (λx y=>Lib.compareInt (key x.x) (key y.x)) (IC λp:SE key k=>key p.x) g #[] hd.blk 0 hd.cap ds.toArray w eg
   (λm os dk _ x y=>by
    obtain⟨rx,hx⟩:=x.ok.2.2;obtain⟨ry,hy⟩:=y.ok.2.2;have lx:=x.ok.1;have ly:=y.ok.1
    have ox:=x.ok.2.1;have oy:=y.ok.2.1
    have ex:x.cs=.int .i64 (key x.x)::rx:=hx;have ey:y.cs=.int .i64 (key y.x)::ry:=hy;rw[hx]at lx ox;rw[hy]at ly oy;rw[ex,ey,Array.append_empty];exact hcmp _ _ rx ry _ lx ly (λu hu=>ox u (bb' _ hu)) (λu hu=>oy u (bb' _ hu))) hHK hblk (by
    have:ds.length=l.length:=by rw[←e1];simp
    show ds.length<_;omega)
  rw[hval,hlen'];refine key_.mono ?_;rintro e w' ⟨rfl,d',n,os,⟨ps,-,pp⟩,hsrt,rfl⟩;have pp:d'.toList.Perm ds:=by
   have q1:d'.extract 0 ds.toArray.size=d':=by rw[←ps];simp
   have q2:ds.toArray.extract 0 ds.toArray.size=ds.toArray:=by simp
   rw[q1,q2]at pp;simpa using pp
  have el:d'.toList.map SE.x=l':=by
   refine jH ((pp.map _).trans ?_) ?_ hs
   ·rw[e1];exact hp.symm
   ·rw[bL',at'];intro i j hi hj hij;have hi':i<d'.size:=by simpa using hi
    have hj':j<d'.size:=by simpa using hj
    have:=hsrt i j (am' _) hij (by rw[←ps];exact hj');rw[Pd (λp:SE key k=>key p.x),getElem!_pos _ j hj',getElem!_pos _ i hi']at this;simpa using this
  have len':d'.size=ds.length:=by rw[ps];rfl
  obtain⟨hp1,hp2,hp3⟩:=AG (enc:=SE.cs) (k:=k) (n:=n) (d:=d') (os:=os) hheap;have hF:(flatK SE.cs k d').size≤C.size:=by rw[size_flatK,len'];exact hsz'
  obtain⟨q1,q2⟩:=CQ hF;have same:cK A w (sortWorldK SE.cs k w hd.blk 0 n d' os):=λb hb=>hp2 b (hH.lt b hb) (λe=>nA (e ▸ hb));have own:cr μ (bc ([Blk.vec k (l.map v)].map some)) hd.blk:=⟨0,_,hd,rfl,hm,he,rfl⟩
  refine⟨_,A,μ,rfl,⟨[],rfl,rfl⟩,⟨λb x hx=>?_,λb b' x x' hd1 hd2 hx hx' _ _ _ _ _=>?_,hH.lt.mono same (λ_ h=>h) λb hb=>bm' (hH.lt b hb) hp3⟩,bu.refl _,
   ⟨rfl,rfl,rfl,hp3,λb h1 h2=>hp2 b h1 λe=>h2 (e ▸ own)⟩,λ_ h=>h,λ_ h=>.inl h,?_⟩
  ·have hx0:b=0:=by
    cases b with
    | zero=>rfl
    | succ b=>simp[bc]at hx
   subst hx0;have hx:some (Blk.vec k (l'.map v))=some x:=hx;cases hx
   refine⟨hd,hm,⟨hk,.inr ⟨he,?_,hle,hcap,_,ty,d'.toList.map (λp=>.agg p.cs.toArray),hp1,?_,?_,?_,?_,?_⟩⟩,λ_=>⟨nA,bm' hblk hp3⟩⟩
   ·rw[hlen',←el];simp[len']
   ·rw[←el];exact RVL.mono same (λ_ h=>h) _ (bu.refl _) (SE.rvl λp hp=>e3 p (pp.mem_iff.mp hp))
   ·intro x hx;obtain⟨y,_,rfl⟩:=aa'.mp hx;obtain⟨cs,hc⟩:=hv y;rw[hc];rfl
   ·intro u hu;obtain⟨p,_,rfl⟩:=aa'.mp hu;simpa[Value.cells]using hk1 p
   ·rw[q2];exact hC
   ·have:=nR SE.cs k k0 hk1 d';rw[size_flatK,len',←hlen']at q1;rw[q1,this,List.flatMap_map];rfl
  ·have z:∀{b x},bc [some (Blk.vec k (l'.map v))] b=some x→b=0:=λ{b x} h=>by
    cases b with
    | zero=>rfl
    | succ b=>simp[bc]at h
   rw[z hx,z hx']
  ·rintro b ⟨b',x,hd1,hx,hm1,he1,rfl⟩;have hx0:b'=0:=by
    cases b' with
    | zero=>rfl
    | succ b=>simp[bc]at hx
   subst hx0;rw[hm]at hm1;cases hm1;exact .inl own
end Go.Am
