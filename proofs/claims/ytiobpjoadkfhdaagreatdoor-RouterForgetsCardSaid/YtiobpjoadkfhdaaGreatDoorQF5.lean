/- Texts joined: TP1 TP2 H0 G3 G4 G5 G6 G7 IH G10. -/
import Derived.KernelRfl
import Derived.Test.YtiobpjoadkfhdaaGreatDoorQF4
set_option linter.unusedVariables false
set_option linter.unusedSimpArgs false
set_option linter.unusedSectionVars false
namespace Go.Proofs.YtiobpjoadkfhdaaGreatDoor
open Go Go.Am
mutual
theorem AV.ren_id:∀x:AV,x.ren (λb=>b)=x
  | .agg cs=>by rw[AV.ren,lV cs]
  | .tup xs=>by rw[AV.ren,lV xs]
  | .func f caps=>by rw[AV.ren,lV caps]
  | .ref _ _=>rfl
  | .eref _ _ _=>rfl
  | .vec _=>rfl
  | .vsub _ _ _=>rfl
  | .asub _ _ _ _=>rfl
  | .val _=>rfl
  | .rptr _ _=>rfl
  | .sl _ _ _=>rfl
  | .mref _=>rfl
  | .mp _ _ _=>rfl
  | .unk=>rfl
theorem lV:∀xs:List AV,dm (λb=>b) xs=xs
  | []=>rfl
  | x::xs=>by rw[dm,AV.ren_id x,lV xs]
end
def F0(i:Nat):Nat:=1000+i
theorem Kp:gr (λb=>b) F0=λb=>b:=by
 funext b;show(if 1000≤b∧b<2000 then 1000+(b-1000)else b)=b;split<;>omega
def F1(i f j:Nat):Nat:=if j=i then f else 1000+j
theorem dN(n:Nat)(h:n≤1000):fP 2000 (cA n):=by
 unfold cA;have:∀l:List Nat,(∀i∈l,i<1000)→fP 2000 (l.map λi=>AV.vec (F i)):=by
  intro l
  induction l with
  | nil=>intro _;trivial
  | cons a l ih=>intro h;exact⟨by have:=h a (by simp);show F a<2000;unfold F;omega,ih λi hi=>h i (by simp[hi])⟩
 exact this _ λi hi=>by have:=aZ'.mp hi;omega
theorem yl{k:Nat}:∀{xs ys:List AV},fP k xs→fP k ys→fP k (xs++ys)
 | [],_,_,h=>h
 | _::_,_,h,h'=>⟨h.1,yl h.2 h'⟩
theorem Lw{k n:Nat}{x:AV}(h:x.bel k):fP k (List.replicate n x):=by
 induction n with
 | zero=>trivial
 | succ n ih=>exact⟨h,ih⟩
theorem HM{π:Nat→Nat}(xs ys:List AV):dm π (xs++ys)=dm π xs++dm π ys:=by rw[cX,cX,cX,List.map_append]
theorem EH(n:Nat)(bs fs:Nat→Nat)(h:n≤1000):dm (gr bs fs) (cA n)=(List.range n).map λi=>.vec (fs i):=by
 rw[cX,cA,aV'];refine aE' λi hi=>?_;have:=aZ'.mp hi;show AV.vec (gr bs fs (F i))=_;rw[kd (by omega)]
abbrev nilR:AV:=.sl 1 [] false
def gI(i m:Nat):List AV:=cA i++List.replicate m nilR
theorem rJ(i m:Nat):(gI i m).length=i+m:=by simp[gI,cM]
theorem E3{i m f:Nat}(h:i≤999)(bs:Nat→Nat):dm (gr bs (F1 i f)) (gI (i+1) m)=(gI i (m+1)).set i (.vec f):=by
 rw[gI,HM,EH _ _ _ (by omega),bf _ (rT.mpr λx hx=>by rw[(List.mem_replicate.mp hx).2];trivial),gI,bJ' _ _ (by rw[cM];exact V' _),cM,ce',
  List.replicate_succ,List.set_cons_zero,List.range_succ,List.map_append,au',cc',cA,bo']
 have e:(List.range i).map (λj=>AV.vec (F1 i f j))=(List.range i).map λj=>.vec (F j):=aE' λj hj=>by
  have:=aZ'.mp hj;simp[F1,F,show j≠i by omega]
 rw[e];simp[F1]
theorem rK{i m:Nat}(h:i≤1000):fP 2000 (gI i m):=yl (dN i h) (Lw trivial)
theorem TN{i f m:Nat}(hm:m≤1000)(hf:2000≤f):∀a b,a<m→b<m→F1 i f a=F1 i f b→a=b:=λa b ha hb h=>by
 unfold F1 at h;split at h<;>split at h<;>omega
def tk:AC:=.seq (.reg [⟨(some 41),.move (.t 9),none⟩,⟨(some 42),.len (.t 41),none⟩,⟨(some 43),.move (.c (.val (.int .i64 0))),none⟩])
 (.block 2 (.loop (.seq (.reg [⟨(some 44),.bin .lss (.t 43) (.t 42),none⟩])
 (.seq (.cond (.t 44) (.skip) (.exit 2))
 (.seq (.block 3 (.seq (.reg [⟨(some 45),.move (.t 43),none⟩,⟨(some 10),.move (.t 45),none⟩])
 (.reg [⟨(some 46),.move (.t 9),none⟩,⟨(some 47),.move (.t 10),none⟩,⟨(some 48),.move (.t 5),none⟩,⟨(some 49),.mks 1 1 (.val (.bool false)) (.t 48) (.t 48),none⟩,⟨(some 50),.iaddr 1 (.t 46) (.t 47),none⟩,⟨none,.store 1 (.t 50) (.t 49),none⟩])))
 (.reg [⟨(some 51),.bin .add (.t 43) (.c (.val (.int .i64 1))),none⟩,⟨(some 43),.move (.t 51),none⟩]))))))
def BE(L:List Int)(p:Nat)(rs:List Rtr)(n:Int):NF:=
  ⟨[(0,.k,.ref 0 0),(4,.k,.ref 1 0),(5,.k,.int n),(6,.k,.ref 2 0),(9,.k,.vec 4)],
   [.box (Tap.v ⟨L,p⟩),.box (.agg [.sl 0 [] true,.sl 0 [] true]),.box (.agg [.vec 3,.sl 0 [] true]),.vec 2 (rs.map Rtr.v) (ae (λ_=>rfl) rs),.vec 1 ((List.replicate n.toNat ([]:List Bool)).map (λl=>AV.sl 1 (l.map AV.bool) false)) (ae (λ_=>rfl) _)]⟩
def bN(L:List Int)(p:Nat)(rs:List Rtr)(es:List AV):List (Option Blk):=
 [some (.box (Tap.v ⟨L,p⟩)),some (.box (.agg [.sl 0 [] true,.sl 0 [] true])),some (.box (.agg [.vec 3,.sl 0 [] true])),some (.vec 2 (rs.map Rtr.v)),some (.vec 1 es)]
def ji(L:List Int)(p:Nat)(rs:List Rtr)(n:Int)(M:List (List Bool)):S3:=
 ⟨ed [(0,.ref 0 0),(4,.ref 1 0),(5,.int n),(6,.ref 2 0),(9,.vec 4)],G M (hpL 0 (bN L p rs (cA n.toNat))),2000⟩
theorem fS(rs:List Rtr):bU (rs.map Rtr.v):=aV (ae (λ_=>rfl) rs)
theorem rr{L:List Int}{p:Nat}{rs:List Rtr}{es es':List AV}{hp:Hp}{fs:Nat→Nat}(h0:hp 0=some (.box (Tap.v ⟨L,p⟩)))(h1:hp 1=some (.box (.agg [.sl 0 [] true,.sl 0 [] true])))(h2:hp 2=some (.box (.agg [.vec 3,.sl 0 [] true])))(h3:hp 3=some (.vec 2 (rs.map Rtr.v)))
  (h4:hp 4=some (.vec 1 es')) (he:dm (gr (λb=>b) fs) es=es') (hb:fP 2000 es):∀i x,(bN L p rs es)[i]?=some (some x)→hp i=some (x.ren (gr (λb=>b) fs))∧x.bel 2000:=by
 intro i x h
 rcases i with _|_|_|_|_|i
 ·cases h;exact⟨by rw[h0];rfl,⟨trivial,trivial,trivial⟩⟩
 ·cases h;exact⟨by rw[h1];rfl,⟨trivial,trivial,trivial⟩⟩
 ·cases h;exact⟨by rw[h2];rfl,⟨show 3<2000 by omega,trivial,trivial⟩⟩
 ·cases h;exact⟨by rw[h3,Blk.ren,bf _ (fS rs)],bm (fS rs)⟩
 ·cases h;exact⟨by rw[h4,Blk.ren,he],hb⟩
 ·simp[bN]at h
theorem fM{L:List Int}{p:Nat}{rs:List Rtr}{es:List AV}{hp:Hp}(h0:hp 0=some (.box (Tap.v ⟨L,p⟩)))(h1:hp 1=some (.box (.agg [.sl 0 [] true,.sl 0 [] true])))(h2:hp 2=some (.box (.agg [.vec 3,.sl 0 [] true])))(h3:hp 3=some (.vec 2 (rs.map Rtr.v)))
  (h4:hp 4=some (.vec 1 es)) (hb:fP 2000 es):∀i x,(bN L p rs es)[i]?=some (some x)→hp i=some (x.ren (gr (λb=>b) F0))∧x.bel 2000:=
 rr h0 h1 h2 h3 h4 (by rw[Kp,lV]) hb
theorem G4(rows:List (List Bool))(h:Hp):G rows h 4=h 4:=Mi (by decide)
theorem M3(L:List Int)(p:Nat)(rs:List Rtr)(n:Int)(hn:1≤n∧n≤100)(k:Nat):fK Tryz.prog 1 k tk (BE L p rs n).st (ji L p rs n (sq0 n.toNat)):=by
 obtain⟨N,rfl⟩:∃N:Nat,n=N:=⟨n.toNat,by omega⟩
 simp only[ji,Int.toNat_natCast];unfold fK tk;show AWP _ 1 k _ _ ⟨ed [(0,.ref 0 0),(4,.ref 1 0),(5,.int N),(6,.ref 2 0),(9,.vec 4)],hpL 0 (bN L p rs ((List.replicate N ([]:List Bool)).map (λl=>AV.sl 1 (l.map AV.bool) false))),5⟩;have hnil:(List.replicate N ([]:List Bool)).map (λl=>AV.sl 1 (l.map AV.bool) false)=gI 0 N:=by rw[cg',gI,cA];rfl
 rw[hnil];refine AWP.seq' ?_;refine AWP.reg' λK hK=>?_
 try simp only[aP,seval,bN,je,rJ]
 refine hK _ _ _ ?_;clear hK K;refine AWP.block ?_
 refine AWP.loopS (λi=>⟨ed [(0,.ref 0 0),(4,.ref 1 0),(5,.int N),(6,.ref 2 0),(9,.vec 4),(42,.int N),(43,.int (i:Nat))],G (List.replicate i (List.replicate N false)) (hpL 0 (bN L p rs (gI i (N-i)))),2000⟩)
  (λi=>i≤N) (λi=>N-i) (i0:=0) (aS' _) ?_ ?_
 ·refine aF.nfG _ _ _ (λb=>b) F0 ?_ (fM rfl rfl rfl rfl rfl (rK (by omega))) (by simp[bN]) (by simp) (by simp) (λi j _ _ h=>h) (λi j _ _ h=>by unfold F0 at h;omega) (λi j h1 h2=>by simp at h2) (λb _=>rfl) (by decide);simp only[aY',aq',false_implies,implies_true,and_true];exact⟨⟨rfl,show 0<2000 by omega⟩,⟨rfl,show 1<2000 by omega⟩,⟨rfl,trivial⟩,⟨rfl,show 2<2000 by omega⟩,⟨rfl,show 4<2000 by omega⟩,⟨rfl,trivial⟩,rfl,trivial⟩
 ·intro i hi;refine AWP.seq' ?_;refine AWP.reg' λK hK=>?_
  try simp only[aP,seval,bN]
  refine hK _ _ _ ?_;clear hK K;refine AWP.seq' ?_
  refine AWP.cond (b:=decide ((i:Int)<(N:Int))) rfl (λh=>?_) (λh=>?_)
  ·have h:i<N:=by have:=H' h;omega
   refine AWP.skip ?_;refine AWP.seq' (AWP.block (AWP.seq' ?_));refine AWP.reg' λK hK=>?_
   try simp only[aP,seval]
   refine hK _ _ _ ?_;clear hK K;have hml:=dc;have hg:(gI i (N-i)).getD i .unk=nilR:=by
    rw[gI,J',aU' (by rw[cM];exact V' _),cM,ce',aN',if_pos (by omega)];rfl
   have hs1:nilR.solid=true:=rfl;have hc1:nilR.cells=[nilR]:=rfl;have hv1:dL nilR 0 (.vec 2096)=.vec 2096:=rfl;refine AWP.reg' λK hK=>?_
   try simp only[aP,seval,G4,bN,rJ,Int.toNat_natCast,hg,hs1,hc1,hv1]
   refine⟨⟨by omega,by omega,by omega⟩,⟨by omega,by omega⟩,by omega,?_⟩;refine hK _ _ _ ?_;clear hK K;refine(show AWP _ _ _ _ _ _ from ?_);have w:IntKind.i64.wrap ((i:Int)+1)=((i+1:Nat):Int):=kz (by omega) (by omega);refine AWP.reg' λK hK=>?_
   try simp only[aP,seval,w]
   refine hK _ _ _ ?_;clear hK K;refine⟨i+1,by omega,by omega,?_⟩
   refine aF.nfG _ _ _ (λb=>b) (F1 i 2096) ?_ (rr rfl rfl rfl rfl rfl ?_ (rK (by omega))) (by simp[bN]) (by simp;omega) ?_ (λa b _ _ h=>h) (TN (by simp;omega) (by decide)) (λa b h1 h2 h=>by simp[bN]at h1;unfold F1 at h;split at h<;>omega) (λb _=>rfl) (by decide)
   ·simp only[aY',aq',false_implies,implies_true,and_true];exact⟨⟨rfl,show 0<2000 by omega⟩,⟨rfl,show 1<2000 by omega⟩,⟨rfl,trivial⟩,⟨rfl,show 2<2000 by omega⟩,⟨rfl,show 4<2000 by omega⟩,⟨rfl,trivial⟩,rfl,trivial⟩
   ·rw[E3 (by omega),show N-(i+1)+1=N-i by omega]
   ·intro j r hr
    by_cases e:j=i
    ·subst e;rw[aN',if_pos (by omega)]at hr;cases hr;simp only[F1,↓reduceIte,cg'];rfl
    ·have hj:j<i+1:=by have:=(I'.mp hr).1;simpa using this
     rw[aN',if_pos hj]at hr;cases hr;have:(List.replicate i (List.replicate N false))[j]?=some (List.replicate N false):=by rw[aN',if_pos (by omega)]
     rw[show F1 i 2096 j=F j by simp[F1,e,F]];simp only[bz,rk (show 4<1000 by omega),if_false];rw[u' (by unfold F;omega)];exact G_F this (by simp;omega)
  ·have h:i=N:=by have:=ab' h;omega
   subst h;refine AWP.exit ?_;refine(show aF 1 k _ _ from ?_);have e:sq0 i=List.replicate i (List.replicate i false):=rfl;rw[e]
   refine aF.nfG _ _ _ (λb=>b) F0 ?_ (fM rfl rfl rfl rfl ?_ (dN i (by omega))) (by simp[bN]) (by simp;omega) ?_ (λi j _ _ h=>h) (λi j _ _ h=>by unfold F0 at h;omega) (λi j h1 h2 h=>by simp[bN]at h1;unfold F0 at h;omega) (λb _=>rfl) (by decide)
   ·simp only[aY',aq',false_implies,implies_true,and_true];exact⟨⟨rfl,show 0<2000 by omega⟩,⟨rfl,show 1<2000 by omega⟩,⟨rfl,trivial⟩,⟨rfl,show 2<2000 by omega⟩,⟨rfl,show 4<2000 by omega⟩⟩
   ·show G _ _ 4=_;rw[G4];show some (Blk.vec 1 (gI i (i-i)))=_;rw[ce',gI,ct',az']
   ·intro j r hr;exact G_F hr (by simp;omega)
def tj:AC:=.seq (.reg [⟨(some 11),.move (.c (.val (.int .i64 1))),none⟩])
 (.block 4 (.loop (.seq (.seq (.reg [⟨(some 52),.move (.t 11),none⟩,⟨(some 53),.move (.t 5),none⟩,⟨(some 54),.bin .lss (.t 52) (.t 53),none⟩])
 (.cond (.t 54) (.skip) (.exit 4)))
 (.seq (.block 5 (.seq (.reg [⟨(some 57),.move (.t 0),none⟩,⟨(some 58),.call (.c (.func 19 [])) [(.t 57),(.c (.val (.int .i64 12)))],none⟩,⟨(some 59),.bin .lss (.t 58) (.c (.val (.int .i64 11))),none⟩])
 (.cond (.t 59) (.reg [⟨(some 60),.move (.t 9),none⟩,⟨(some 61),.move (.t 0),none⟩,⟨(some 62),.move (.t 11),none⟩,⟨(some 63),.call (.c (.func 19 [])) [(.t 61),(.t 62)],none⟩,⟨(some 64),.iaddr 1 (.t 60) (.t 63),none⟩,⟨(some 65),.load false 1 (.t 64),none⟩,⟨(some 66),.move (.t 11),none⟩,⟨(some 67),.iaddr 1 (.t 65) (.t 66),none⟩,⟨none,.store 1 (.t 67) (.c (.val (.bool true))),none⟩]) (.skip))))
 (.reg [⟨(some 55),.move (.t 11),none⟩,⟨(some 56),.bin .add (.t 55) (.c (.val (.int .i64 1))),none⟩,⟨(some 11),.move (.t 56),none⟩])))))
theorem dZ(L:List Int)(p:Nat):(Tap.v ⟨L,p⟩).pure:=⟨trivial,trivial,trivial⟩
theorem pD{n i:Nat}(h:i<n):(cA n).getD i .unk=.vec (F i):=by rw[J',nh h];rfl
theorem qK{r:List Bool}{i:Nat}(h:i<r.length):∃b:Bool,(r.map AV.bool).getD i .unk=.bool b:=⟨r[i],by simp[J',h]⟩
theorem wi{M:List (List Bool)}{x y j:Nat}{r q:List Bool}(hx:M[x]?=some r)(h:(mset M x y)[j]?=some q):(j=x∧q=r.set y true)∨(j≠x∧M[j]?=some q):=by
 have hl:=(I'.mp hx).1;have e:M.getD x []=r:=by rw[J',hx];rfl
 rw[mset,bN',e]at h
 by_cases hj:x=j
 ·subst hj;rw[if_pos rfl,if_pos hl]at h;cases h;exact .inl ⟨rfl,rfl⟩
 ·rw[u' hj]at h;exact .inr ⟨λe=>hj e.symm,h⟩
theorem M2(L:List Int)(p:Nat)(rs:List Rtr)(n:Int)(M:List (List Bool))(hn:1≤n∧n≤100)(hM:Sq n.toNat M)(k:Nat) :
  fK Tryz.prog 1 k tj (ji L p rs n M) (ji L (lk1 L (n.toNat-1) 1 p M).2 rs n (lk1 L (n.toNat-1) 1 p M).1):=by
 obtain⟨N,rfl⟩:∃N:Nat,n=N:=⟨n.toNat,by omega⟩
 simp only[ji,Int.toNat_natCast]at hM ⊢;unfold fK tj;generalize hE:lk1 L (N-1) 1 p M=E;refine AWP.seq' ?_;refine AWP.reg' λK hK=>?_
 try simp only[aP,seval]
 refine hK _ _ _ ?_;clear hK K;refine AWP.block ?_
 refine AWP.loopS (σ:=Nat×Nat×List (List Bool)) (λt=>⟨ed [(0,.ref 0 0),(4,.ref 1 0),(5,.int N),(6,.ref 2 0),(9,.vec 4),(11,.int (t.1:Nat))],G t.2.2 (hpL 0 (bN L t.2.1 rs (cA N))),2000⟩)
  (λt=>1≤t.1∧t.1≤N∧Sq N t.2.2∧lk1 L (N-t.1) t.1 t.2.1 t.2.2=E) (λt=>N-t.1) (i0:=(1,p,M)) ⟨by omega,by omega,hM,hE⟩ ?_ ?_
 ·refine aF.nfG _ _ _ (λb=>b) F0 ?_ (fM rfl rfl rfl rfl rfl (dN N (by omega))) (by simp[bN]) (by rw[hM.1];omega) (λj r hr=>G_F hr (by rw[hM.1];omega)) (λi j _ _ h=>h) (λi j _ _ h=>by unfold F0 at h;omega) (λi j h1 h2 h=>by simp[bN]at h1;unfold F0 at h;omega) (λb _=>rfl) (by decide);simp only[aY',aq',false_implies,implies_true,and_true];exact⟨⟨rfl,show 0<2000 by omega⟩,⟨rfl,show 1<2000 by omega⟩,⟨rfl,trivial⟩,⟨rfl,show 2<2000 by omega⟩,⟨rfl,show 4<2000 by omega⟩,rfl,trivial⟩
 rintro⟨i,p,M⟩ ⟨h1,h2,hM,hE⟩;simp only at h1 h2 hM hE ⊢;have hMl:M.length≤1000:=by rw[hM.1];omega
 refine AWP.seq' (AWP.seq' ?_);refine AWP.reg' λK hK=>?_
 try simp only[aP,seval]
 refine hK _ _ _ ?_;clear hK K
 refine AWP.cond (b:=decide ((i:Int)<(N:Int))) rfl (λh=>?_) (λh=>?_)
 ·have h:i<N:=by have:=H' h;omega
  refine AWP.skip ?_;refine AWP.seq' (AWP.block (AWP.seq' ?_));refine AWP.reg' λK hK=>?_
  try simp only[aP,seval]
  refine mB (hs:=(N_h L p 12).ok) (N_h L p 12).fn (args:=[.int 12]) (r:=.int (Mod (aj L p) 12)) (x':=Tap.v ⟨L,ab L p⟩) ⟨trivial,trivial⟩ (dZ _ _) (dZ _ _) trivial rfl (by rfl) (by rfl) ?_
  try simp only[aP,seval]
  refine hK _ _ _ ?_;clear hK K;have w:IntKind.i64.wrap ((i:Int)+1)=((i+1:Nat):Int):=kz (by omega) (by omega);have hE':lk1 L (N-(i+1)+1) i p M=E:=by rw[show N-(i+1)+1=N-i by omega];exact hE
  rw[lk1]at hE'
  refine AWP.cond (b:=decide (Mod (aj L p) 12<11)) rfl (λhc=>?_) (λhc=>?_)
  ·rw[if_pos (H' hc)]at hE';have hX:=bt (x:=aj L (ab L p)) (n:=(i:Int)) (by omega);generalize hq:Mod (aj L (ab L p)) (i:Int)=X at hX hE';obtain⟨Y,rfl⟩:∃Y:Nat,X=Y:=⟨X.toNat,by omega⟩
   rw[Int.toNat_natCast]at hE';obtain⟨r,hr,hrl,-⟩:=hM.get (show Y<N by omega);obtain⟨b0,hb0⟩:=qK (r:=r) (i:=i) (by omega);refine AWP.reg' λK hK=>?_
   try simp only[aP,seval]
   have hc2:bc Tryz.prog (N_h L (ab L p) i).f [.ref 0 0,.int i] [.box (Tap.v ⟨L,ab L p⟩)] (.int Y) [some (.box (Tap.v ⟨L,ab L (ab L p)⟩))]:=by rw[←hq];exact(N_h L (ab L p) i).ok
   refine mB (hs:=hc2) (N_h L (ab L p) i).fn (args:=[.int i]) ⟨trivial,trivial⟩ (dZ _ _) (dZ _ _) trivial rfl (by rfl) (by rfl) ?_;have hgF:G M (hpL 0 (bN L p rs (cA N))) (F Y)=some (.vec 1 (r.map AV.bool)):=G_F hr hMl;have hso:(AV.vec (F Y)).solid=true:=rfl;have hce:(AV.vec (F Y)).cells=[AV.vec (F Y)]:=rfl;have hpa:fo (.vec (F Y)) 0 1 false=.vec (F Y):=rfl;have hF0:(F Y=0)=False:=rk (by decide);have hF3:(F Y=4)=False:=rk (by decide);have hbs:(AV.bool b0).solid=true:=rfl;have hbc:(AV.bool b0).cells=[AV.bool b0]:=rfl;have htc:(AV.bool true).cells=[AV.bool true]:=rfl;have hts:(AV.bool true).solid=true:=rfl;have hsp:dL (.bool b0) 0 (.bool true)=.bool true:=rfl;have hT4:hpL 0 (bN L p rs (cA N)) 4=some (.vec 1 (cA N)):=rfl
   try simp only[aP,seval,G4,hT4,cM,Int.toNat_natCast,pD (show Y<N by omega),hso,hce,hpa,hF0,hF3,hgF,f',hb0,hbs,hbc,htc,hts,hsp,if_false]
   refine⟨⟨by omega,by omega⟩,by omega,⟨by omega,by omega⟩,by omega,?_⟩;refine hK _ _ _ ?_;clear hK K;refine(show AWP _ _ _ _ _ _ from ?_);refine AWP.reg' λK hK=>?_
   try simp only[aP,seval,w]
   refine hK _ _ _ ?_;clear hK K;refine⟨(i+1,ab L (ab L p),mset M Y i),⟨by omega,by omega,hM.set _ _,hE'⟩,by omega,?_⟩;have hM':(mset M Y i).length≤1000:=by rw[(hM.set Y i).1];omega
   refine aF.nfG _ _ _ (λb=>b) F0 ?_ (fM ?_ ?_ ?_ ?_ ?_ (dN N (by omega))) (by simp[bN]) hM' ?_ (λi j _ _ h=>h) (λi j _ _ h=>by unfold F0 at h;omega) (λi j h1 h2 h=>by simp[bN]at h1;unfold F0 at h;omega) (λb _=>rfl) (by decide)
   ·simp only[aY',aq',false_implies,implies_true,and_true];exact⟨⟨rfl,show 0<2000 by omega⟩,⟨rfl,show 1<2000 by omega⟩,⟨rfl,trivial⟩,⟨rfl,show 2<2000 by omega⟩,⟨rfl,show 4<2000 by omega⟩,rfl,trivial⟩
   ·simp only[bz,kJ (show 0<1000 by omega),if_false,if_true]
   ·simp only[bz,kJ (show 1<1000 by omega),if_false];rfl
   ·simp only[bz,kJ (show 2<1000 by omega),if_false];rfl
   ·simp only[bz,kJ (show 3<1000 by omega),if_false];rfl
   ·simp only[bz,kJ (show 4<1000 by omega),if_false];rfl
   ·intro j q hj;rw[show F0 j=F j from rfl]
    rcases wi hr hj with⟨rfl,rfl⟩|⟨hne,hj⟩
    ·simp only[bz,if_true,bm']
    ·have:(F j=F Y)=False:=by unfold F;simp;omega
     simp only[bz,this,rk (show 0<1000 by omega),if_false];exact G_F hj hMl
  ·rw[u' (ab' hc)]at hE';refine AWP.skip ?_;refine(show AWP _ _ _ _ _ _ from ?_);refine AWP.reg' λK hK=>?_
   try simp only[aP,seval,w]
   refine hK _ _ _ ?_;clear hK K;refine⟨(i+1,ab L p,M),⟨by omega,by omega,hM,hE'⟩,by omega,?_⟩
   refine aF.nfG _ _ _ (λb=>b) F0 ?_ (fM rfl rfl rfl rfl rfl (dN N (by omega))) (by simp[bN]) hMl ?_ (λi j _ _ h=>h) (λi j _ _ h=>by unfold F0 at h;omega) (λi j h1 h2 h=>by simp[bN]at h1;unfold F0 at h;omega) (λb _=>rfl) (by decide)
   ·simp only[aY',aq',false_implies,implies_true,and_true];exact⟨⟨rfl,show 0<2000 by omega⟩,⟨rfl,show 1<2000 by omega⟩,⟨rfl,trivial⟩,⟨rfl,show 2<2000 by omega⟩,⟨rfl,show 4<2000 by omega⟩,rfl,trivial⟩
   ·intro j r hr;rw[show F0 j=F j from rfl];simp only[bz,rk (show 0<1000 by omega),if_false];exact G_F hr hMl
 ·have h:i=N:=by have:=ab' h;omega
  subst h;refine AWP.exit ?_;refine(show aF 1 k _ _ from ?_);rw[ce',lk1]at hE;subst hE;refine aF.nfG _ _ _ (λb=>b) F0 ?_ (fM rfl rfl rfl rfl rfl (dN i (by omega))) (by simp[bN]) hMl (λj r hr=>G_F hr hMl) (λi j _ _ h=>h) (λi j _ _ h=>by unfold F0 at h;omega) (λi j h1 h2 h=>by simp[bN]at h1;unfold F0 at h;omega) (λb _=>rfl) (by decide);simp only[aY',aq',false_implies,implies_true,and_true];exact⟨⟨rfl,show 0<2000 by omega⟩,⟨rfl,show 1<2000 by omega⟩,⟨rfl,trivial⟩,⟨rfl,show 2<2000 by omega⟩,⟨rfl,show 4<2000 by omega⟩⟩
def H9(r:List Bool):AV:=.sl 1 (r.map AV.bool) false
theorem GO{L:List Int}{p:Nat}{rs:List Rtr}{M:List (List Bool)}{N:Nat}{k n nx:Nat}{tm:Nat→AV}{x:AV}(hM:Sq N M)(hN:1≤N∧N≤100)(hnx:2000≤nx)
  (t0:tm 0=.ref 0 0) (t4:tm 4=.ref 1 0) (t5:tm 5=x) (hx:x.pure) (t6:tm 6=.ref 2 0) (t9:tm 9=.vec 4) :
  aF k n ⟨tm,G M (hpL 0 (bN L p rs (cA N))),nx⟩
   ⟨ed [(0,.ref 0 0),(4,.ref 1 0),(5,x),(6,.ref 2 0),(9,.sl 1 (M.map H9) false)],hpL 0 [some (.box (Tap.v ⟨L,p⟩)),some (.box (.agg [.sl 0 [] true,.sl 0 [] true])),some (.box (.agg [.vec 3,.sl 0 [] true])),some (.vec 2 (rs.map Rtr.v))],nx⟩:=by
 rintro P c a w ⟨h0,A,μ,H⟩;have H:aA P c A μ (λb=>nx≤b) tm (G M (hpL 0 (bN L p rs (cA N)))) n a w:=H;have hMl:M.length≤1000:=by rw[hM.1];omega
 have same:cJ A w w:=λ_ _=>rfl
 let fam:Nat→Prop:=λb=>b=4∨∃i,i<N∧b=F i
 let A':Nat→Prop:=λq=>A q∨∃b hd,fam b∧μ b=some hd∧hd.emp=none∧hd.blk=q
 have hle:∀b,A b→A' b:=λb hb=>.inl hb;have hlive:∀b,fam b→∃x,G M (hpL 0 (bN L p rs (cA N))) b=some x:=by
  rintro b (rfl|⟨i,hi,rfl⟩)
  ·exact⟨_,G4 _ _⟩
  ·obtain⟨r,hr,_,_⟩:=hM.get hi;exact⟨_,G_F hr hMl⟩
 have hsub:∀b y,hpL 0 [some (.box (Tap.v ⟨L,p⟩)),some (.box (.agg [.sl 0 [] true,.sl 0 [] true])),some (.box (.agg [.vec 3,.sl 0 [] true])),some (.vec 2 (rs.map Rtr.v))] b=some y→b<4∧G M (hpL 0 (bN L p rs (cA N))) b=some y:=by
  intro b y hy
  rcases b with _|_|_|_|b
  ·exact⟨by omega,by rw[Mi (by omega)];exact hy⟩
  ·exact⟨by omega,by rw[Mi (by omega)];exact hy⟩
  ·exact⟨by omega,by rw[Mi (by omega)];exact hy⟩
  ·exact⟨by omega,by rw[Mi (by omega)];exact hy⟩
  ·have:hpL 0 [some (.box (Tap.v ⟨L,p⟩)),some (.box (.agg [.sl 0 [] true,.sl 0 [] true])),some (.box (.agg [.vec 3,.sl 0 [] true])),some (.vec 2 (rs.map Rtr.v))] (b+4)=none:=by rw[uj];simp
   rw[this]at hy;cases hy
 have hnf:∀b,b<4→¬fam b:=by
  rintro b hb (rfl|⟨i,hi,rfl⟩)
  ·omega
  ·unfold F at hb;omega
 have row:∀i r v,M[i]?=some r→RV w A (.vec (F i)) μ v→RV w A' (H9 r) dC v:=by
  intro i r v hr hv;have g:G M (hpL 0 (bN L p rs (cA N))) (F i)=some (.vec 1 (r.map AV.bool)):=G_F hr hMl;have hi:i<N:=by rw[←hM.1];exact(I'.mp hr).1
  have:=bD.vec g (kQ r) P c A μ _ tm n a w v H hv;refine RV.pure trivial (this.mono (λ_ _=>rfl) (λq hq=>?_) _ (bp.refl _))
  rcases hq with hq|⟨hd,e1,e2,e3⟩
  ·exact .inl hq
  ·exact .inr ⟨F i,hd,.inr ⟨i,hi,rfl⟩,e1,e2,e3⟩
 have out:RV w A' (.sl 1 (M.map H9) false) dC (a.tmps.getD 9 undef):=by
  have hv:=H.tm 9;rw[t9]at hv;obtain⟨hd,e1,hv⟩:=hv;obtain⟨hd',f1,f2,f3⟩:=H.vec (show G M (hpL 0 (bN L p rs (cA N))) 4=some (.vec 1 (cA N))from G4 _ _);rw[e1]at f1;cases f1
  rcases f3 with⟨f3,_⟩|⟨g1,g2,g4,g5,C,ty,vs,k1,k2,k3,k4,k5,k6,k7⟩
  ·have:=congrArg List.length f3;rw[cM]at this;simp at this;omega
  ·rw[cM]at g2;have hv':hd.val=.slice (some ⟨hd.blk,0,none⟩) (M.map H9).length hd.cap:=by rw[Hd.val,g1,g2,f',hM.1]
   rw[hv,hv']
   refine .inr ⟨hd.blk,0,hd.cap,vs,rfl,.inr ⟨4,hd,.inl rfl,e1,g1,rfl⟩,by rw[f',hM.1];omega,g5,(λh=>by cases h),?_,λv hv=>⟨k4 v hv,?_⟩,λp u hu=>by rw[aB'];exact k7 p u hu,λy hy=>?_⟩
   ·refine RVL.of_get (by rw[f',hM.1,←k2.length,cM]) λi y v hy hv=>?_;rw[S']at hy;obtain⟨r,hr,rfl⟩:=aw'.mp hy;have hi:i<N:=by rw[←hM.1];exact(I'.mp hr).1
    exact row i r v hr (k2.get2 (nh hi) hv)
   ·obtain⟨i,hi⟩:=aQ'.1 hv;have hlt:i<N:=by
     have:=(I'.1 hi).1
     rwa [←k2.length,cM]at this
    exact(RV.cells rfl (k2.get2 (nh hlt) hi)).2
   ·obtain⟨r,_,rfl⟩:=R'.mp hy;rfl
 refine⟨h0,A',μ,λt=>?_,H.n,H.df,λb y hy=>?_,λb b' y y' hd hd' hy hy'=>?_,?_,λb hb=>?_,H.keep,λb hb=>.inl (H.A0 b hb),?_,H.mu⟩
 ·show RV w A' (ed _ t) μ _;have ht:=H.tm t;simp only[ed]
  split
  ·rename_i e;subst e;rw[show tm 0=_ from t0]at ht;exact ht.mono same hle _ (bp.refl _)
  split
  ·rename_i e;subst e;rw[show tm 4=_ from t4]at ht;exact ht.mono same hle _ (bp.refl _)
  split
  ·rename_i e;subst e;rw[show tm 5=_ from t5]at ht;exact ht.mono same hle _ (bp.refl _)
  split
  ·rename_i e;subst e;rw[show tm 6=_ from t6]at ht;exact ht.mono same hle _ (bp.refl _)
  split
  ·rename_i e;subst e;exact out.up
  ·trivial
 ·obtain⟨g0,g1⟩:=hsub b y hy;obtain⟨hd,e1,e2,e3⟩:=H.blk b y g1;refine⟨hd,e1,e2.mono same hle (bp.refl _) (λ_=>rfl),λhe=>⟨?_,(e3 he).2⟩⟩
  rintro(h|⟨b2,hd2,q1,q2,q3,q4⟩)
  ·exact(e3 he).1 h
  ·obtain⟨x2,hx2⟩:=hlive b2 q1;have:=H.inj b b2 y x2 hd hd2 g1 hx2 e1 q2 he q3 q4.symm;exact hnf b g0 (this ▸ q1)
 ·exact H.inj b b' y y' hd hd' (hsub b y hy).2 (hsub b' y' hy').2
 ·refine H.lt.mono same hle ?_
  rintro q (h|⟨b,hd,q1,q2,q3,rfl⟩)
  ·exact H.lt q h
  ·obtain⟨x,hx⟩:=hlive b q1;obtain⟨hd',e1,e2,e3⟩:=H.blk b x hx;rw[q2]at e1;cases e1;exact(e3 q3).2.1
 ·obtain⟨q1,q2⟩:=H.fr b hb;refine⟨q1,?_⟩;cases hy:hpL 0 [some (.box (Tap.v ⟨L,p⟩)),some (.box (.agg [.sl 0 [] true,.sl 0 [] true])),some (.box (.agg [.vec 3,.sl 0 [] true])),some (.vec 2 (rs.map Rtr.v))] b with
  | none=>exact hy
  | some y=>have:=(hsub b y hy).1;have hb:nx≤b:=hb;omega
 ·rintro q (h|⟨b,hd,q1,q2,q3,rfl⟩)
  ·exact H.A1 q h
  ·obtain⟨x,hx⟩:=hlive b q1;obtain⟨hd',e1,e2,e3⟩:=H.blk b x hx;rw[q2]at e1;cases e1;exact .inr (e3 q3).2.2
def ti:AC:=.seq (.reg [⟨(some 68),.move (.t 0),none⟩,⟨(some 69),.move (.t 5),none⟩,⟨(some 70),.bin .add (.t 69) (.c (.val (.int .i64 2))),none⟩,⟨(some 71),.call (.c (.func 19 [])) [(.t 68),(.t 70)],none⟩,⟨(some 12),.move (.t 71),none⟩])
 (.block 6 (.loop (.seq (.seq (.reg [⟨(some 72),.move (.t 12),none⟩,⟨(some 73),.bin .gtr (.t 72) (.c (.val (.int .i64 0))),none⟩])
 (.cond (.t 73) (.skip) (.exit 6)))
 (.seq (.block 7 (.seq (.reg [⟨(some 76),.move (.t 0),none⟩,⟨(some 77),.move (.t 5),none⟩,⟨(some 78),.call (.c (.func 19 [])) [(.t 76),(.t 77)],none⟩,⟨(some 79),.move (.t 0),none⟩,⟨(some 80),.move (.t 5),none⟩,⟨(some 81),.call (.c (.func 19 [])) [(.t 79),(.t 80)],none⟩,⟨(some 13),.move (.t 78),none⟩,⟨(some 14),.move (.t 81),none⟩])
 (.seq (.reg [⟨(some 82),.move (.t 13),none⟩,⟨(some 83),.move (.t 14),none⟩,⟨(some 84),.bin .neq (.t 82) (.t 83),none⟩])
 (.cond (.t 84) (.reg [⟨(some 85),.move (.t 9),none⟩,⟨(some 86),.move (.t 13),none⟩,⟨(some 87),.move (.t 14),none⟩,⟨(some 88),.min [(.t 86),(.t 87)],none⟩,⟨(some 89),.iaddr 1 (.t 85) (.t 88),none⟩,⟨(some 90),.load false 1 (.t 89),none⟩,⟨(some 91),.move (.t 13),none⟩,⟨(some 92),.move (.t 14),none⟩,⟨(some 93),.max [(.t 91),(.t 92)],none⟩,⟨(some 94),.iaddr 1 (.t 90) (.t 93),none⟩,⟨none,.store 1 (.t 94) (.c (.val (.bool true))),none⟩]) (.skip)))))
 (.reg [⟨(some 74),.move (.t 12),none⟩,⟨(some 75),.bin .sub (.t 74) (.c (.val (.int .i64 1))),none⟩,⟨(some 12),.move (.t 75),none⟩])))))
def GT(L:List Int)(p:Nat)(rs:List Rtr)(n:Int)(M:List (List Bool)):S3:=
 ⟨ed [(0,.ref 0 0),(4,.ref 1 0),(5,.int n),(6,.ref 2 0),(9,.sl 1 (M.map H9) false)],hpL 0 [some (.box (Tap.v ⟨L,p⟩)),some (.box (.agg [.sl 0 [] true,.sl 0 [] true])),some (.box (.agg [.vec 3,.sl 0 [] true])),some (.vec 2 (rs.map Rtr.v))],4⟩
def lkE(L:List Int)(n:Nat)(p:Nat)(M:List (List Bool)):List (List Bool)×Nat:=lk2 L n (Mod (aj L p) (n+2)).toNat (ab L p) M
theorem Ja(a b:Int):il a b=max a b:=by unfold il;split<;>omega
theorem IC(a b:Int):gW a b=min a b:=by unfold gW;split<;>omega
theorem M1(L:List Int)(p:Nat)(rs:List Rtr)(n:Int)(M:List (List Bool))(hn:1≤n∧n≤100)(hM:Sq n.toNat M)(k:Nat) :
  fK Tryz.prog 1 k ti (ji L p rs n M) (GT L (lkE L n.toNat p M).2 rs n (lkE L n.toNat p M).1):=by
 obtain⟨N,rfl⟩:∃N:Nat,n=N:=⟨n.toNat,by omega⟩
 simp only[ji,GT,Int.toNat_natCast]at hM ⊢;unfold fK ti;have hC:=bt (x:=aj L p) (n:=(N:Int)+2) (by omega);have hE:lk2 L N (Mod (aj L p) (N+2)).toNat (ab L p) M=lkE L N p M:=rfl;generalize lkE L N p M=E at hE ⊢;generalize hq:Mod (aj L p) ((N:Int)+2)=X at hC hE;obtain⟨C,rfl⟩:∃C:Nat,X=C:=⟨X.toNat,by omega⟩
 rw[Int.toNat_natCast]at hE;have w2:IntKind.i64.wrap ((N:Int)+2)=(N:Int)+2:=Gb (by omega);refine AWP.seq' ?_;refine AWP.reg' λK hK=>?_
 try simp only[aP,seval,w2]
 have hc0:bc Tryz.prog (N_h L p ((N:Int)+2)).f [.ref 0 0,.int ((N:Int)+2)] [.box (Tap.v ⟨L,p⟩)] (.int C) [some (.box (Tap.v ⟨L,ab L p⟩))]:=by rw[←hq];exact(N_h L p ((N:Int)+2)).ok
 refine mB (hs:=hc0) (N_h L p ((N:Int)+2)).fn (args:=[.int ((N:Int)+2)]) ⟨trivial,trivial⟩ (dZ _ _) (dZ _ _) trivial rfl (by rfl) (by rfl) ?_
 try simp only[aP,seval]
 refine hK _ _ _ ?_;clear hK K;refine AWP.block ?_
 refine AWP.loopS (σ:=Nat×Nat×List (List Bool)) (λt=>⟨ed [(0,.ref 0 0),(4,.ref 1 0),(5,.int N),(6,.ref 2 0),(9,.vec 4),(12,.int (t.1:Nat))],G t.2.2 (hpL 0 (bN L t.2.1 rs (cA N))),2000⟩)
  (λt=>t.1≤N+2∧Sq N t.2.2∧lk2 L N t.1 t.2.1 t.2.2=E) (λt=>t.1) (i0:=(C,ab L p,M)) ⟨by omega,hM,hE⟩ ?_ ?_
 ·have hMl:M.length≤1000:=by rw[hM.1];omega
  refine aF.nfG _ _ _ (λb=>b) F0 ?_ (fM rfl rfl rfl rfl rfl (dN N (by omega))) (by simp[bN]) hMl ?_ (λi j _ _ h=>h) (λi j _ _ h=>by unfold F0 at h;omega) (λi j h1 h2 h=>by simp[bN]at h1;unfold F0 at h;omega) (λb _=>rfl) (by decide)
  ·simp only[aY',aq',false_implies,implies_true,and_true];exact⟨⟨rfl,show 0<2000 by omega⟩,⟨rfl,show 1<2000 by omega⟩,⟨rfl,trivial⟩,⟨rfl,show 2<2000 by omega⟩,⟨rfl,show 4<2000 by omega⟩,rfl,trivial⟩
  ·intro j r hr;rw[show F0 j=F j from rfl];simp only[bz,rk (show 0<1000 by omega),if_false];exact G_F hr hMl
 clear hM hE hq hC;rintro⟨i,p,M⟩ ⟨h2,hM,hE⟩;simp only at h2 hM hE ⊢;have hMl:M.length≤1000:=by rw[hM.1];omega
 refine AWP.seq' (AWP.seq' ?_);refine AWP.reg' λK hK=>?_
 try simp only[aP,seval]
 refine hK _ _ _ ?_;clear hK K
 refine AWP.cond (b:=decide ((0:Int)<(i:Int))) rfl (λh=>?_) (λh=>?_)
 ·have h:0<i:=by have:=H' h;omega
  obtain⟨i,rfl⟩:∃j,i=j+1:=⟨i-1,by omega⟩
  refine AWP.skip ?_;refine AWP.seq' (AWP.block (AWP.seq' ?_));refine AWP.reg' λK hK=>?_
  try simp only[aP,seval]
  have hX:=bt (x:=aj L p) (n:=(N:Int)) (by omega);have hY:=bt (x:=aj L (ab L p)) (n:=(N:Int)) (by omega);rw[lk2]at hE;have hc1:=(N_h L p N).ok;have hc2:=(N_h L (ab L p) N).ok;have hc1:bc Tryz.prog (N_h L p N).f [.ref 0 0,.int N] [.box (Tap.v ⟨L,p⟩)] (.int (Mod (aj L p) N)) [some (.box (Tap.v ⟨L,ab L p⟩))]:=hc1;have hc2:bc Tryz.prog (N_h L (ab L p) N).f [.ref 0 0,.int N] [.box (Tap.v ⟨L,ab L p⟩)] (.int (Mod (aj L (ab L p)) N)) [some (.box (Tap.v ⟨L,ab L (ab L p)⟩))]:=hc2;generalize Mod (aj L p) (N:Int)=X at hX hE hc1;generalize Mod (aj L (ab L p)) (N:Int)=Y at hY hE hc2;refine mB (hs:=hc1) (N_h L p N).fn (args:=[.int N]) ⟨trivial,trivial⟩ (dZ _ _) (dZ _ _) trivial rfl (by rfl) (by rfl) ?_
  try simp only[aP,seval]
  refine mB (hs:=hc2) (N_h L (ab L p) N).fn (args:=[.int N]) ⟨trivial,trivial⟩ (dZ _ _) (dZ _ _) trivial rfl (by rfl) (by rfl) ?_
  try simp only[aP,seval]
  refine hK _ _ _ ?_;clear hK K;refine AWP.seq' ?_;refine AWP.reg' λK hK=>?_
  try simp only[aP,seval]
  refine hK _ _ _ ?_;clear hK K;have w:IntKind.i64.wrap (((i+1:Nat):Int)-1)=(i:Nat):=kz (by omega) (by omega)
  refine AWP.cond (b:=(X != Y)) rfl (λhc=>?_) (λhc=>?_)
  ·have hc:¬X=Y:=by simpa using hc
   rw[u' hc]at hE;obtain⟨U,hU⟩:∃U:Nat,min X Y=U:=⟨(min X Y).toNat,by omega⟩
   obtain⟨V,hV⟩:∃V:Nat,max X Y=V:=⟨(max X Y).toNat,by omega⟩
   rw[hU,hV,Int.toNat_natCast,Int.toNat_natCast]at hE;have hUN:U<N:=by omega
   have hVN:V<N:=by omega
   obtain⟨r,hr,hrl,-⟩:=hM.get hUN;obtain⟨b0,hb0⟩:=qK (r:=r) (i:=V) (by omega);have hT4:hpL 0 (bN L p rs (cA N)) 4=some (.vec 1 (cA N)):=rfl;have hgF:G M (hpL 0 (bN L p rs (cA N))) (F U)=some (.vec 1 (r.map AV.bool)):=G_F hr hMl;have hso:(AV.vec (F U)).solid=true:=rfl;have hce:(AV.vec (F U)).cells=[AV.vec (F U)]:=rfl;have hpa:fo (.vec (F U)) 0 1 false=.vec (F U):=rfl;have hF0:(F U=0)=False:=rk (by decide);have hF3:(F U=4)=False:=rk (by decide);have hbs:(AV.bool b0).solid=true:=rfl;have hbc:(AV.bool b0).cells=[AV.bool b0]:=rfl;have htc:(AV.bool true).cells=[AV.bool true]:=rfl;have hts:(AV.bool true).solid=true:=rfl;have hsp:dL (.bool b0) 0 (.bool true)=.bool true:=rfl;refine AWP.reg' λK hK=>?_
   try simp only[aP,seval,gQ,ix,IC,Ja,hU,hV,G4,hT4,cM,Int.toNat_natCast,pD hUN,hso,hce,hpa,hF0,hF3,hgF,f',hb0,hbs,hbc,htc,hts,hsp,if_false]
   refine⟨⟨by omega,by omega⟩,by omega,⟨by omega,by omega⟩,by omega,?_⟩;refine hK _ _ _ ?_;clear hK K;refine(show AWP _ _ _ _ _ _ from ?_);refine AWP.reg' λK hK=>?_
   try simp only[aP,seval,w]
   refine hK _ _ _ ?_;clear hK K;refine⟨(i,ab L (ab L p),mset M U V),⟨by omega,hM.set _ _,hE⟩,by omega,?_⟩;have hM':(mset M U V).length≤1000:=by rw[(hM.set U V).1];omega
   refine aF.nfG _ _ _ (λb=>b) F0 ?_ (fM ?_ ?_ ?_ ?_ ?_ (dN N (by omega))) (by simp[bN]) hM' ?_ (λi j _ _ h=>h) (λi j _ _ h=>by unfold F0 at h;omega) (λi j h1 h2 h=>by simp[bN]at h1;unfold F0 at h;omega) (λb _=>rfl) (by decide)
   ·simp only[aY',aq',false_implies,implies_true,and_true];exact⟨⟨rfl,show 0<2000 by omega⟩,⟨rfl,show 1<2000 by omega⟩,⟨rfl,trivial⟩,⟨rfl,show 2<2000 by omega⟩,⟨rfl,show 4<2000 by omega⟩,rfl,trivial⟩
   ·simp only[bz,kJ (show 0<1000 by omega),if_false,if_true]
   ·simp only[bz,kJ (show 1<1000 by omega),if_false];rfl
   ·simp only[bz,kJ (show 2<1000 by omega),if_false];rfl
   ·simp only[bz,kJ (show 3<1000 by omega),if_false];rfl
   ·simp only[bz,kJ (show 4<1000 by omega),if_false];rfl
   ·intro j q hj;rw[show F0 j=F j from rfl]
    rcases wi hr hj with⟨rfl,rfl⟩|⟨hne,hj⟩
    ·simp only[bz,if_true,bm']
    ·have:(F j=F U)=False:=by unfold F;simp;omega
     simp only[bz,this,rk (show 0<1000 by omega),if_false];exact G_F hj hMl
  ·have hc:X=Y:=by simpa using hc
   rw[if_pos hc]at hE;refine AWP.skip ?_;refine(show AWP _ _ _ _ _ _ from ?_);refine AWP.reg' λK hK=>?_
   try simp only[aP,seval,w]
   refine hK _ _ _ ?_;clear hK K;refine⟨(i,ab L (ab L p),M),⟨by omega,hM,hE⟩,by omega,?_⟩
   refine aF.nfG _ _ _ (λb=>b) F0 ?_ (fM rfl rfl rfl rfl rfl (dN N (by omega))) (by simp[bN]) hMl ?_ (λi j _ _ h=>h) (λi j _ _ h=>by unfold F0 at h;omega) (λi j h1 h2 h=>by simp[bN]at h1;unfold F0 at h;omega) (λb _=>rfl) (by decide)
   ·simp only[aY',aq',false_implies,implies_true,and_true];exact⟨⟨rfl,show 0<2000 by omega⟩,⟨rfl,show 1<2000 by omega⟩,⟨rfl,trivial⟩,⟨rfl,show 2<2000 by omega⟩,⟨rfl,show 4<2000 by omega⟩,rfl,trivial⟩
   ·intro j r hr;rw[show F0 j=F j from rfl];simp only[bz,rk (show 0<1000 by omega),if_false];exact G_F hr hMl
 ·have h:i=0:=by have:=ab' h;omega
  subst h;refine AWP.exit ?_;refine(show aF 1 k _ _ from ?_);rw[lk2]at hE;subst hE
  refine aF.trans (GO (x:=.int N) hM (by omega) ?_ ?_ ?_ ?_ trivial ?_ ?_) ?_
  ·exact U' rfl
  ·rfl
  ·rfl
  ·rfl
  ·rfl
  ·rfl
  refine aF.nf [0,1,2,3] _ _ ?_ ?_ ⟨rfl,rfl⟩ (by decide) (by decide) (by decide)
  ·repeat' (first|exact trivial|exact F' rfl trivial|refine F' ?_ ?_|rfl|exact U' rfl|(rw[Blk.ren,bf _ (fS rs)];rfl)|exact bm (fS rs))
  ·repeat' (first|exact trivial|exact F' rfl trivial|refine F' ?_ ?_|rfl|exact U' rfl|(rw[Blk.ren,bf _ (fS rs)];rfl)|exact bm (fS rs))
theorem oB{L:List Int}{p:Nat}{most:Int}(h:1≤most∧most≤100):1≤rng L p 1 most∧rng L p 1 most≤100:=by
 have:=jq (L:=L) (p:=p) (lo:=1) (hi:=most) (by omega);omega
def o5(L:List Int):Nat→Int→Nat→List Rtr→List Rtr×Nat
 | 0,id,p,rs=>(rs,p)
 | n+1,id,p,rs=>o5 L n (id+ay [1,1,1,2,5] (aj L p)) (ab L p) (rs++[⟨id+ay [1,1,1,2,5] (aj L p),true⟩])
def lnkP(L:List Int)(flat:Bool)(p:Nat):Nat:=if flat then ab L p else ab L (ab L (ab L (ab L (ab L p))))
def QB(L:List Int)(p:Nat):Int:=ay [1,2,3,rng L p 1 20,1000] (aj L (ab L p))
def lnkCb(L:List Int)(p:Nat)(ca:Int):Int:=ay [ca,ca,rng L p 1 20] (aj L (ab L p))
def lnk0(L:List Int)(flat:Bool)(a b:Int)(p:Nat):Lnk:=
 if flat then⟨a,b,1,1,ay [0,1,2,3,5,10,1000] (aj L p)⟩
 else⟨a,b,QB L (ab L p),lnkCb L (ab L (ab L (ab L p))) (QB L (ab L p)),ay [0,1,2,3,5,10,1000] (aj L p)⟩
def EX(rs:List Rtr)(i:Nat):Int:=(rs.getD i ⟨0,false⟩).id
def ue(L:List Int)(rs:List Rtr)(flat:Bool)(a:Nat):List Bool→Nat→List Lnk→Nat→List Lnk×Nat
 | [],b,ls,p=>(ls,p)
 | t::r,b,ls,p=>if t then ue L rs flat a r (b+1) (ls++[lnk0 L flat (EX rs a) (EX rs b) p]) (lnkP L flat p)else ue L rs flat a r (b+1) ls p
def w8(L:List Int)(rs:List Rtr)(flat:Bool):List (List Bool)→Nat→List Lnk→Nat→List Lnk×Nat
 | [],a,ls,p=>(ls,p)
 | r::M,a,ls,p=>w8 L rs flat M (a+1) (ue L rs flat a r 0 ls p).1 (ue L rs flat a r 0 ls p).2
def eJ(L:List Int)(n p:Nat):List (List Bool)×Nat:=lkE L n (lk1 L (n-1) 1 p (sq0 n)).2 (lk1 L (n-1) 1 p (sq0 n)).1
def cr(L:List Int)(p:Nat)(most:Int):List Rtr×Nat:=o5 L (rng L p 1 most).toNat 0 (ab L p) []
def bL(L:List Int)(p:Nat)(most:Int):Tpl×Nat:=
 let r:=cr L p most;let m:=eJ L (rng L p 1 most).toNat r.2
 let k:=w8 L r.1 (Mod (aj L m.2) 3==0) m.1 0 [] (ab L m.2)
 (⟨r.1,k.1⟩,k.2)
theorem pj{L:List Int}:∀{n:Nat} {id:Int} {p:Nat} {rs:List Rtr},(o5 L n id p rs).1.length=rs.length+n
 | 0,_,_,_=>by simp[o5]
 | n+1,id,p,rs=>by rw[o5,pj];simp;omega
theorem GS(L:List Int)(n p:Nat):Sq n (eJ L n p).1:=zR (uf (yY n))
theorem Qo{L:List Int}{p:Nat}:1≤ay [1,1,1,2,5] (aj L p)∧ay [1,1,1,2,5] (aj L p)≤5:=by
 have:=ig (l:=[1,1,1,2,5]) (by simp) (aj L p);simp at this;omega
abbrev aC(L:List Int)(p:Nat)(most:Int):=(sq0 ((rng L p 1 most)).toNat)
def GR(L:List Int)(p:Nat)(most:Int)(t0:Int×Int×Nat×List Rtr):NF:=⟨[rR 0 0,rR 4 1,rI 5 (rng L p 1 most),rR 6 2,rI 7 t0.1,rI 8 t0.2.1],[.box (.agg [.sl 1 (L.map AV.int) false,.int t0.2.2.1]),.box (.agg [.sl 0 [] true,.sl 0 [] true]),.box (.agg [.vec 3,.sl 0 [] true]),vB 2 Rtr.v t0.2.2.2 (λ_=>rfl)]⟩
def GQ(L:List Int)(p:Nat)(most:Int)(t0:Int×Int×Nat×List Rtr)(t1:Int×Nat×List Lnk):NF:=⟨[rR 0 0,rR 4 1,rR 6 2,(9,.k,.sl 1 (((lkE L ((rng L p 1 most)).toNat ((lk1 L (((rng L p 1 most)).toNat-1) 1 t0.2.2.1 (aC L p most)).2) (lk1 L (((rng L p 1 most)).toNat-1) 1 t0.2.2.1 (aC L p most)).1).1).map (λl:List Bool=>AV.sl 1 (l.map AV.bool) false)) false),rB 15 ((Mod (aj L (lkE L ((rng L p 1 most)).toNat ((lk1 L (((rng L p 1 most)).toNat-1) 1 t0.2.2.1 (aC L p most)).2) (lk1 L (((rng L p 1 most)).toNat-1) 1 t0.2.2.1 (aC L p most)).1).2) 3)==0),rI 99 ((((lkE L ((rng L p 1 most)).toNat ((lk1 L (((rng L p 1 most)).toNat-1) 1 t0.2.2.1 (aC L p most)).2) (lk1 L (((rng L p 1 most)).toNat-1) 1 t0.2.2.1 (aC L p most)).1).1).map (λl:List Bool=>AV.sl 1 (l.map AV.bool) false)).length:Int),rI 100 t1.1],[.box (.agg [.sl 1 (L.map AV.int) false,.int t1.2.1]),.box (.agg [.sl 0 [] true,.sl 0 [] true]),.box (.agg [.vec 3,.vec 4]),vB 2 Rtr.v t0.2.2.2 (λ_=>rfl),vB 5 Lnk.v t1.2.2 (λ_=>rfl)]⟩
def GP(L:List Int)(p:Nat)(most:Int)(t0:Int×Int×Nat×List Rtr)(t1:Int×Nat×List Lnk)(t2:Int×List Lnk×Nat):NF:=⟨[rR 0 0,rR 4 1,rR 6 2,(9,.k,.sl 1 (((lkE L ((rng L p 1 most)).toNat ((lk1 L (((rng L p 1 most)).toNat-1) 1 t0.2.2.1 (aC L p most)).2) (lk1 L (((rng L p 1 most)).toNat-1) 1 t0.2.2.1 (aC L p most)).1).1).map (λl:List Bool=>AV.sl 1 (l.map AV.bool) false)) false),rB 15 ((Mod (aj L (lkE L ((rng L p 1 most)).toNat ((lk1 L (((rng L p 1 most)).toNat-1) 1 t0.2.2.1 (aC L p most)).2) (lk1 L (((rng L p 1 most)).toNat-1) 1 t0.2.2.1 (aC L p most)).1).2) 3)==0),rI 16 t1.1,rI 99 ((((lkE L ((rng L p 1 most)).toNat ((lk1 L (((rng L p 1 most)).toNat-1) 1 t0.2.2.1 (aC L p most)).2) (lk1 L (((rng L p 1 most)).toNat-1) 1 t0.2.2.1 (aC L p most)).1).1).map (λl:List Bool=>AV.sl 1 (l.map AV.bool) false)).length:Int),rI 100 t1.1,rI 104 ((((lkE L ((rng L p 1 most)).toNat ((lk1 L (((rng L p 1 most)).toNat-1) 1 t0.2.2.1 (aC L p most)).2) (lk1 L (((rng L p 1 most)).toNat-1) 1 t0.2.2.1 (aC L p most)).1).1).map (λl:List Bool=>AV.sl 1 (l.map AV.bool) false)).length:Int),rI 105 t2.1],[.box (.agg [.sl 1 (L.map AV.int) false,.int t2.2.2]),.box (.agg [.sl 0 [] true,.sl 0 [] true]),.box (.agg [.vec 3,.vec 4]),vB 2 Rtr.v t0.2.2.2 (λ_=>rfl),vB 5 Lnk.v t2.2.1 (λ_=>rfl)]⟩
@[reducible] def BG:Nat→Type
 | 0=>Int×Int×Nat×List Rtr
 | 1=>Int×Nat×List Lnk
 | 2=>Int×List Lnk×Nat
 | _=>Unit
def tn(r:Tap×Tpl):AV:=Tpl.v r.2
def tp(r:Tap×Tpl):List (Option Blk):=[some (.box (Tap.v r.1))]
def BF(L:List Int)(p:Nat)(most:Int)(hm:1≤most∧most≤100)(I0:(Int×Int×Nat×List Rtr)→Prop)(m0:(Int×Int×Nat×List Rtr)→Nat)(I1:Int×Int×Nat×List Rtr→(Int×Nat×List Lnk)→Prop)(m1:Int×Int×Nat×List Rtr→(Int×Nat×List Lnk)→Nat)(I2:Int×Int×Nat×List Rtr→Int×Nat×List Lnk→(Int×List Lnk×Nat)→Prop)(m2:Int×Int×Nat×List Rtr→Int×Nat×List Lnk→(Int×List Lnk×Nat)→Nat):Ax Tryz.prog BG (Tap×Tpl):=
 (.callH [0] (fj L p 1 most) 49
(.cmdL (.nilB 81 0 2) (.loop 0 (GR L p most) I0 m0 (0,0,ab L p,[]) [0,1,81,129] λ(t0:Int×Int×Nat×List Rtr) b0 =>
(.br 52 (decide (t0.2.1<(rng L p 1 most))) (.req 100 ([1,1,1,2,5]≠[]) λh1 =>
(.callH [0] (fJ L t0.2.2.1 [1,1,1,2,5] h1) 100
(.apX 228 Rtr.v t0.2.2.2 [(⟨W (t0.1+(ay [1,1,1,2,5] (aj L t0.2.2.1))),true⟩:Rtr)] (t0.2.2.2.length+1)
(.bk 0 b0 (W (t0.1+(ay [1,1,1,2,5] (aj L t0.2.2.1))),W (t0.2.1+1),ab L t0.2.2.1,t0.2.2.2++[(⟨W (t0.1+(ay [1,1,1,2,5] (aj L t0.2.2.1))),true⟩:Rtr)]) [0,1,2,228]))))
(.say (λR=>Rf (AV.sl 0 [] true) (ck (cond (decide (0≤(rng L p 1 most))) (cond (decide ((rng L p 1 most)≤(rng L p 1 most))) (decide ((rng L p 1 most)≤1048576)) false) false)
R)) (.rep 68 (λy:AV=>y) (.sl 0 [] true)
(.say (λR=>Qa (.s 1) (λl:List Bool=>AV.sl 1 (l.map AV.bool) false) ((rng L p 1 most).toNat) (.sl 0 [] true) [] ∧
R) (.hand 1 [.wkV 68 (.s 1) (λl:List Bool=>AV.sl 1 (l.map AV.bool) false) (List.replicate ((rng L p 1 most).toNat) [])] (BE L t0.2.2.1 t0.2.2.2 (rng L p 1 most)) [0,1,2,3,68] (ji L t0.2.2.1 t0.2.2.2 (rng L p 1 most) (aC L p most)) tk (M3 L t0.2.2.1 t0.2.2.2 (rng L p 1 most) (oB hm))
(.hand2 1 (ji L t0.2.2.1 t0.2.2.2 (rng L p 1 most) (aC L p most)) (ji L (lk1 L (((rng L p 1 most)).toNat-1) 1 t0.2.2.1 (aC L p most)).2 t0.2.2.2 (rng L p 1 most) (lk1 L (((rng L p 1 most)).toNat-1) 1 t0.2.2.1 (aC L p most)).1) tj (M2 L t0.2.2.1 t0.2.2.2 (rng L p 1 most) (aC L p most) (oB hm) (yY _))
(.hand2 1 (ji L ((lk1 L (((rng L p 1 most)).toNat-1) 1 t0.2.2.1 (aC L p most)).2) t0.2.2.2 (rng L p 1 most) (lk1 L (((rng L p 1 most)).toNat-1) 1 t0.2.2.1 (aC L p most)).1) (GT L (lkE L ((rng L p 1 most)).toNat ((lk1 L (((rng L p 1 most)).toNat-1) 1 t0.2.2.1 (aC L p most)).2) (lk1 L (((rng L p 1 most)).toNat-1) 1 t0.2.2.1 (aC L p most)).1).2 t0.2.2.2 (rng L p 1 most) (lkE L ((rng L p 1 most)).toNat ((lk1 L (((rng L p 1 most)).toNat-1) 1 t0.2.2.1 (aC L p most)).2) (lk1 L (((rng L p 1 most)).toNat-1) 1 t0.2.2.1 (aC L p most)).1).1) ti (M1 L ((lk1 L (((rng L p 1 most)).toNat-1) 1 t0.2.2.1 (aC L p most)).2) t0.2.2.2 (rng L p 1 most) (lk1 L (((rng L p 1 most)).toNat-1) 1 t0.2.2.1 (aC L p most)).1 (oB hm) (uf (yY _)))
(.callH [0] (N_h L (lkE L ((rng L p 1 most)).toNat ((lk1 L (((rng L p 1 most)).toNat-1) 1 t0.2.2.1 (aC L p most)).2) (lk1 L (((rng L p 1 most)).toNat-1) 1 t0.2.2.1 (aC L p most)).1).2 3) 20
(.cmdL (.nilB 2 1 5) (.loop 1 (GQ L p most t0) (I1 t0) (m1 t0) (0,ab L (lkE L ((rng L p 1 most)).toNat ((lk1 L (((rng L p 1 most)).toNat-1) 1 t0.2.2.1 (aC L p most)).2) (lk1 L (((rng L p 1 most)).toNat-1) 1 t0.2.2.1 (aC L p most)).1).2,[]) [0,1,2,3,116] λ(t1:Int×Nat×List Lnk) b1 =>
(.br 21 (decide (t1.1<((((lkE L ((rng L p 1 most)).toNat ((lk1 L (((rng L p 1 most)).toNat-1) 1 t0.2.2.1 (aC L p most)).2) (lk1 L (((rng L p 1 most)).toNat-1) 1 t0.2.2.1 (aC L p most)).1).1).map (λl:List Bool=>AV.sl 1 (l.map AV.bool) false)).length:Int))) (.loop 2 (GP L p most t0 t1) (I2 t0 t1) (m2 t0 t1) (0,t1.2.2,t1.2.1) [0,1,2,3,4] λ(t2:Int×List Lnk×Nat) b2 =>
(.br 21 (decide (t2.1<((((lkE L ((rng L p 1 most)).toNat ((lk1 L (((rng L p 1 most)).toNat-1) 1 t0.2.2.1 (aC L p most)).2) (lk1 L (((rng L p 1 most)).toNat-1) 1 t0.2.2.1 (aC L p most)).1).1).map (λl:List Bool=>AV.sl 1 (l.map AV.bool) false)).length:Int))) (.elI 85 (λl:List Bool=>AV.sl 1 (l.map AV.bool) false) ((lkE L ((rng L p 1 most)).toNat ((lk1 L (((rng L p 1 most)).toNat-1) 1 t0.2.2.1 (aC L p most)).2) (lk1 L (((rng L p 1 most)).toNat-1) 1 t0.2.2.1 (aC L p most)).1).1) t1.1 λx2 =>
(.elI 133 AV.bool x2 t2.1 λx3 =>
(.br 181 (!x3) (.bk 2 b2 (W (t2.1+1),t2.2.1,t2.2.2) [0,1,2,3,4])
(.elJ 261 Rtr.v t0.2.2.2 t1.1 λx4 =>
(.elJ 357 Rtr.v t0.2.2.2 t2.1 λx5 =>
(.req 405 ([0,1,2,3,5,10,1000]≠[]) λh6 =>
(.callH [0] (fJ L t2.2.2 [0,1,2,3,5,10,1000] h6) 405
(.br 501 (!((Mod (aj L (lkE L ((rng L p 1 most)).toNat ((lk1 L (((rng L p 1 most)).toNat-1) 1 t0.2.2.1 (aC L p most)).2) (lk1 L (((rng L p 1 most)).toNat-1) 1 t0.2.2.1 (aC L p most)).1).2) 3)==0)) (.callH [0] (fj L (ab L t2.2.2) 1 20) 533
(.req 565 ([1,2,3,rng L (ab L t2.2.2) 1 20,1000]≠[]) λh7 =>
(.callH [0] (fJ L (ab L (ab L t2.2.2)) [1,2,3,rng L (ab L t2.2.2) 1 20,1000] h7) 565
(.callH [0] (fj L (ab L (ab L (ab L t2.2.2))) 1 20) 709
(.req 741 ([ay [1,2,3,rng L (ab L t2.2.2) 1 20,1000] (aj L (ab L (ab L t2.2.2))),ay [1,2,3,rng L (ab L t2.2.2) 1 20,1000] (aj L (ab L (ab L t2.2.2))),rng L (ab L (ab L (ab L t2.2.2))) 1 20]≠[]) λh8 =>
(.callH [0] (fJ L (ab L (ab L (ab L (ab L t2.2.2)))) [ay [1,2,3,rng L (ab L t2.2.2) 1 20,1000] (aj L (ab L (ab L t2.2.2))),ay [1,2,3,rng L (ab L t2.2.2) 1 20,1000] (aj L (ab L (ab L t2.2.2))),rng L (ab L (ab L (ab L t2.2.2))) 1 20] h8) 741
(.apX 853 Lnk.v t2.2.1 [(⟨x4.id,x5.id,ay [1,2,3,rng L (ab L t2.2.2) 1 20,1000] (aj L (ab L (ab L t2.2.2))),ay [ay [1,2,3,rng L (ab L t2.2.2) 1 20,1000] (aj L (ab L (ab L t2.2.2))),ay [1,2,3,rng L (ab L t2.2.2) 1 20,1000] (aj L (ab L (ab L t2.2.2))),rng L (ab L (ab L (ab L t2.2.2))) 1 20] (aj L (ab L (ab L (ab L (ab L t2.2.2))))),ay [0,1,2,3,5,10,1000] (aj L t2.2.2)⟩:Lnk)] (t2.2.1.length+1)
(.bk 2 b2 (W (t2.1+1),t2.2.1++[(⟨x4.id,x5.id,ay [1,2,3,rng L (ab L t2.2.2) 1 20,1000] (aj L (ab L (ab L t2.2.2))),ay [ay [1,2,3,rng L (ab L t2.2.2) 1 20,1000] (aj L (ab L (ab L t2.2.2))),ay [1,2,3,rng L (ab L t2.2.2) 1 20,1000] (aj L (ab L (ab L t2.2.2))),rng L (ab L (ab L (ab L t2.2.2))) 1 20] (aj L (ab L (ab L (ab L (ab L t2.2.2))))),ay [0,1,2,3,5,10,1000] (aj L t2.2.2)⟩:Lnk)],ab L (ab L (ab L (ab L (ab L t2.2.2))))) [0,1,2,3,853]))))))))
(.apX 565 Lnk.v t2.2.1 [(⟨x4.id,x5.id,1,1,ay [0,1,2,3,5,10,1000] (aj L t2.2.2)⟩:Lnk)] (t2.2.1.length+1)
(.bk 2 b2 (W (t2.1+1),t2.2.1++[(⟨x4.id,x5.id,1,1,ay [0,1,2,3,5,10,1000] (aj L t2.2.2)⟩:Lnk)],ab L t2.2.2) [0,1,2,3,565]))))))))))
(.bk 1 b1 (W (t1.1+1),t2.2.2,t2.2.1) [0,1,2,3,4])))
(.fz 4 Lnk.v t1.2.2 (λ_=>rfl) (.fz 3 Rtr.v t0.2.2.2 (λ_=>rfl) (.retH ((⟨L,t1.2.1⟩:Tap),(⟨t0.2.2.2,t1.2.2⟩:Tpl)) ⟨[rR 4 1],[.box (.agg [.sl 1 (L.map AV.int) false,.int t1.2.1]),.box (Tpl.v (⟨t0.2.2.2,t1.2.2⟩:Tpl))]⟩ [0,1])))))))))))))))))
theorem M4(L:List Int)(p:Nat)(most:Int)(hm:1≤most∧most≤100):∃I0 m0 I1 m1 I2 m2,(BF L p most hm I0 m0 I1 m1 I2 m2).vc tn tp ((⟨L,(bL L p most).2⟩:Tap),(bL L p most).1):=by
 have hr:=oB (L:=L) (p:=p) hm;have hlen:(cr L p most).1.length=(rng L p 1 most).toNat:=by unfold cr;rw[pj];simp
 have hn100:(rng L p 1 most).toNat≤100:=by omega
 refine⟨λt=>∃k:Nat,t.2.1=k∧k≤(rng L p 1 most).toNat∧t.2.2.2.length=k∧0≤t.1∧t.1≤5 * k∧o5 L ((rng L p 1 most).toNat-k) t.1 t.2.2.1 t.2.2.2=cr L p most,λt=>(rng L p 1 most).toNat-t.2.1.toNat,
  λt0 t=>∃k:Nat,t.1=k∧k≤(rng L p 1 most).toNat∧t.2.2.length≤k * 100∧w8 L (cr L p most).1 (Mod (aj L (eJ L (rng L p 1 most).toNat (cr L p most).2).2) 3==0) ((eJ L (rng L p 1 most).toNat (cr L p most).2).1.drop k) k t.2.2 t.2.1
    = w8 L (cr L p most).1 (Mod (aj L (eJ L (rng L p 1 most).toNat (cr L p most).2).2) 3==0) (eJ L (rng L p 1 most).toNat (cr L p most).2).1 0 [] (ab L (eJ L (rng L p 1 most).toNat (cr L p most).2).2),
  λ_ t=>(rng L p 1 most).toNat-t.1.toNat,
  λ_ a t=>∃k:Nat,t.1=k∧k≤(rng L p 1 most).toNat∧t.2.1.length≤a.2.2.length+k∧ue L (cr L p most).1 (Mod (aj L (eJ L (rng L p 1 most).toNat (cr L p most).2).2) 3==0) a.1.toNat (((eJ L (rng L p 1 most).toNat (cr L p most).2).1.getD a.1.toNat []).drop k) k t.2.1 t.2.2
    = ue L (cr L p most).1 (Mod (aj L (eJ L (rng L p 1 most).toNat (cr L p most).2).2) 3==0) a.1.toNat ((eJ L (rng L p 1 most).toNat (cr L p most).2).1.getD a.1.toNat []) 0 a.2.2 a.2.1,
  λ_ _ t=>(rng L p 1 most).toNat-t.1.toNat,?_⟩
 dsimp only[BF,BG,aC,Ax.vp,Ax.vc];simp only[vcU,rfU,f']
 have hE:bL L p most=(⟨(cr L p most).1,(w8 L (cr L p most).1 (Mod (aj L (eJ L (rng L p 1 most).toNat (cr L p most).2).2) 3==0) (eJ L (rng L p 1 most).toNat (cr L p most).2).1 0 [] (ab L (eJ L (rng L p 1 most).toNat (cr L p most).2).2)).1⟩,
  (w8 L (cr L p most).1 (Mod (aj L (eJ L (rng L p 1 most).toNat (cr L p most).2).2) 3==0) (eJ L (rng L p 1 most).toNat (cr L p most).2).1 0 [] (ab L (eJ L (rng L p 1 most).toNat (cr L p most).2).2)).2):=rfl
 rw[hE];have hR0:o5 L (rng L p 1 most).toNat 0 (ab L p) []=cr L p most:=rfl;generalize rng L p 1 most=n at *
 generalize cr L p most=R at *
 obtain⟨N,rfl⟩:∃N:Nat,n=N:=⟨n.toNat,by omega⟩
 simp only[Int.toNat_natCast]at *
 refine⟨⟨0,rfl,by omega,rfl,by omega,by omega,hR0⟩,?_⟩;rintro⟨id,i,q,rs⟩ ⟨k,hi,hk,hl,h0,h5,hr'⟩;simp only at hi hl h0 h5 hr' ⊢;subst hi;have hp5:=Qo (L:=L) (p:=q)
 refine⟨λc=>?_,λc=>?_⟩
 ·have c:k<N:=by omega
  have w1:W (id+ay [1,1,1,2,5] (aj L q))=id+ay [1,1,1,2,5] (aj L q):=cf (by omega);rw[w1,ao (n:=N) (by omega) (by omega)];refine⟨by simp,by omega,⟨k+1,rfl,by omega,by simp[hl],by omega,by omega,?_⟩,by omega⟩;rw[←hr',show N-k=N-(k+1)+1 by omega,o5]
 ·have hkN:k=N:=by omega
  subst hkN;rw[ce',o5]at hr';subst hr';simp only at *
  have hM:=GS L k q;have e2:lkE L k (lk1 L (k-1) 1 q (sq0 k)).2 (lk1 L (k-1) 1 q (sq0 k)).1=eJ L k q:=rfl;rw[e2];generalize eJ L k q=T at *
  obtain⟨M,m⟩:=T;simp only at hM ⊢;refine⟨by simp;omega,D3 rfl,⟨0,rfl,by omega,by simp,rfl⟩,?_⟩;rintro⟨a,pa,ls⟩ ⟨x,ha,hx,hls,hq⟩;simp only at ha hls hq ⊢;subst ha;simp only[Int.toNat_natCast]
  refine⟨λc2=>⟨⟨0,rfl,by omega,by simp,rfl⟩,?_⟩,λc2=>?_⟩
  ·have hxk:x<k:=by rw[hM.1]at c2;omega
   obtain⟨row,g1,g2,g3⟩:=hM.get hxk;rw[g3];rintro⟨b,ls2,p2⟩ ⟨y,hb,hy,hls2,hq2⟩;simp only at hb hls2 hq2 ⊢;subst hb;simp only[Int.toNat_natCast]
   refine⟨λc3=>?_,λc3=>?_⟩
   ·have hyk:y<k:=by rw[hM.1]at c3;omega
    have hy':y<row.length:=by omega
    have hd:row.drop y=row[y]::row.drop (y+1):=ar' hy';refine⟨by omega,by rw[hM.1];omega,λx2 e=>?_⟩;rw[g1]at e;cases e;refine⟨by omega,by omega,λx3 e3=>?_⟩;obtain⟨-,rfl⟩:=I'.mp e3;rw[hd]at hq2;rw[ao (n:=k) (by omega) (by omega)]
    refine⟨λd=>?_,λd=>?_⟩
    ·have d:row[y]=false:=by simpa using d
     rw[d,ue,u' (by simp)]at hq2;exact⟨⟨y+1,rfl,by omega,by omega,hq2⟩,by omega⟩
    ·have d:row[y]=true:=by simpa using d
     rw[d,ue,if_pos rfl]at hq2;refine⟨by simp;omega,by omega,λx4 e4=>⟨by simp;omega,by omega,λx5 e5=>?_⟩⟩;have i4:EX rs x=x4.id:=by rw[EX,J',e4];rfl
     have i5:EX rs y=x5.id:=by rw[EX,J',e5];rfl
     rw[i4,i5]at hq2
     refine⟨by simp,λf=>?_,λf=>?_⟩
     ·have f:(Mod (aj L m) 3==0)=false:=by simpa using f
      rw[f]at hq2 ⊢;refine⟨by simp,by simp,by omega,⟨y+1,rfl,by omega,by simp;omega,?_⟩,by omega⟩;exact hq2
     ·have f:(Mod (aj L m) 3==0)=true:=by simpa using f
      rw[f]at hq2 ⊢;refine⟨by omega,⟨y+1,rfl,by omega,by simp;omega,?_⟩,by omega⟩;exact hq2
   ·have hyk:y=k:=by rw[hM.1]at c3;omega
    subst hyk;rw[aI' (by omega),ue]at hq2;rw[ao (n:=y) (by omega) (by omega)];refine⟨⟨x+1,rfl,by omega,by omega,?_⟩,by omega⟩;have hd:M.drop x=row::M.drop (x+1):=by
     obtain⟨h1,h2⟩:=I'.mp g1;rw[ar' h1,h2]
    rw[hd,w8,←hq2]at hq;exact hq
  ·have hxk:x=k:=by rw[hM.1]at c2;omega
   subst hxk;rw[aI' (by rw[hM.1];omega),w8]at hq;rw[←hq]
def M5(L:List Int)(p:Nat)(most:Int)(hm:1≤most∧most≤100):HC Tryz.prog:=hcO 39 [.k,.k] [.ref 0 0,.int most] [.box (.agg [.sl 1 (L.map AV.int) false,.int p])] (.a [(.s 2),(.s 5)]) tn tp ((⟨L,(bL L p most).2⟩:Tap),(bL L p most).1) (λ_ _=>let ⟨I0,m0,I1,m1,I2,m2,h⟩:=M4 L p most hm;⟨_,h,by kernel_rfl⟩) (by kernel_rfl) (by simp[hcB,bJ,AV.belB,allB,cF,bW,tn,tp,Tap.v,Tpl.v,ae (v:=AV.int) (λ_=>rfl),ae (v:=Lnk.v) (λ_=>rfl),ae (v:=Rtr.v) (λ_=>rfl)])
structure Mem where
  host:Int
  grp:Int
  mode:Int
  srcs:List Int
  til:Int
  deriving DecidableEq
structure aJ where
  now:Int
  list:List Mem
  deriving DecidableEq
structure Edg where
  router:Int
  id:Int
  deriving DecidableEq
structure Pln where
  sub:Int
  len:Int
  es:List Edg
  deriving DecidableEq
def Mem.v(x:Mem):AV:=.agg [.int x.host,.int x.grp,.int x.mode,OE x.srcs,.int x.til]
def aJ.v(x:aJ):AV:=.agg [.int x.now,.sl 5 (x.list.map Mem.v) false]
def Edg.v(x:Edg):AV:=.agg [.int x.router,.int x.id]
def Pln.v(x:Pln):AV:=.agg [.int x.sub,.int x.len,.sl 2 (x.es.map Edg.v) false]
def rb(L:List Int):Nat→Int→List Int→Nat→List Int×Nat
 | 0,_,out,p=>(out,p)
 | n+1,i,out,p=>rb L n (i+1) (dR out (Mod (aj L p) (out.length+1)).toNat i) (ab L p)
def gi(L:List Int)(n:Int)(p:Nat):List Int×Nat:=rb L n.toNat 0 [] p
theorem nm{α:Type}(l:List α)(k:Nat)(x:α)(h:k≤l.length):(dR l k x).length=l.length+1:=by
 unfold dR;simp;omega
theorem pQ{α:Type}(l:List α)(k:Nat)(x:α):(dR l k x).Perm (x::l):=by
 unfold dR;have:=(List.perm_middle (a:=x) (l₁:=l.take k) (l₂:=l.drop k))
 rw[bg']at this;simpa[bo']using this
theorem C8{L:List Int}:∀{n:Nat} {i:Int} {out:List Int} {p:Nat},out.Nodup→(∀x∈out,0≤x∧x<i)→0≤i →
  (rb L n i out p).1.Nodup∧∀x∈(rb L n i out p).1,0≤x∧x<i+n
 | 0,i,out,p,h1,h2,h0=>⟨h1,λx hx=>by have:=h2 x hx;omega⟩
 | n+1,i,out,p,h1,h2,h0=>by
  rw[rb];have hp:=pQ out (Mod (aj L p) (out.length+1)).toNat i
  obtain⟨a,b⟩:=C8 (L:=L) (n:=n) (i:=i+1) (out:=dR out (Mod (aj L p) (out.length+1)).toNat i) (p:=ab L p)
   (hp.nodup_iff.mpr (bq'.mpr ⟨λhi=>by have:=h2 i hi;omega,h1⟩))
   (λx hx=>by
    rcases P'.mp (hp.mem_iff.mp hx)with rfl|hx
    ·omega
    ·have:=h2 x hx;omega) (by omega)
  exact⟨a,λx hx=>by have:=b x hx;omega⟩
theorem p9{L:List Int}{n:Int}{p:Nat}(h:0≤n):(gi L n p).1.Nodup∧∀x∈(gi L n p).1,0≤x∧x<n:=by
 obtain⟨a,b⟩:=C8 (L:=L) (n:=n.toNat) (i:=0) (out:=[]) (p:=p) List.nodup_nil (by simp) (by omega);exact⟨a,λx hx=>by have:=b x hx;omega⟩
def NX(L:List Int)(n:Int)(t0:Int×Nat×List Int):NF:=⟨[rR 0 0,rI 1 n,rV 5 1,rI 6 t0.1],[.box (.agg [.sl 1 (L.map AV.int) false,.int t0.2.1]),vB 1 AV.int t0.2.2 (λ_=>rfl)]⟩
@[reducible] def Ih:Nat→Type
 | 0=>Int×Nat×List Int
 | _=>Unit
def zG(r:Tap×List Int):AV:=.sl 1 (r.2.map AV.int) false
def zH(r:Tap×List Int):List (Option Blk):=[some (.box (Tap.v r.1))]
def Ig(L:List Int)(p:Nat)(n:Int)(I0:(Int×Nat×List Int)→Prop)(m0:(Int×Nat×List Int)→Nat):Ax Tryz.prog Ih (Tap×List Int):=
 (.cmdL (.nilT 5 1) (.loop 0 (NX L n) I0 m0 (0,p,[]) [0,49] λ(t0:Int×Nat×List Int) b0 =>
(.br 50 (decide (t0.1<n)) (.callH [0] (N_h L t0.2.1 (W (((t0.2.2.map AV.int).length:Int)+1))) 114
(.say (Rf (t0.2.2.map AV.int)) (.cmd (.frzE 1 (t0.2.2.map AV.int) (ae (λ_=>rfl) t0.2.2)) (.own 162 (.say (λR=>Rf (α:=List AV) (t0.2.2.map AV.int) (ck (cj t0.2.2.length (Mod (aj L t0.2.1) (W (((t0.2.2.map AV.int).length:Int)+1))) (t0.2.2.length:Int) (t0.2.2.length:Int))
R)) (.sub 210 AV.int t0.2.2 false
(.say (λR=>Rf (α:=List AV) [.int t0.1] (Rf (α:=List AV) (((t0.2.2.take ((t0.2.2.length:Int).toNat)).drop ((Mod (aj L t0.2.1) (W (((t0.2.2.map AV.int).length:Int)+1))).toNat)).map AV.int)
(ck (decide ([t0.1].length+((t0.2.2.take ((t0.2.2.length:Int).toNat)).drop ((Mod (aj L t0.2.1) (W (((t0.2.2.map AV.int).length:Int)+1))).toNat)).length≤1048576))
R))) (.app 226 AV.int [t0.1] ((t0.2.2.take ((t0.2.2.length:Int).toNat)).drop ((Mod (aj L t0.2.1) (W (((t0.2.2.map AV.int).length:Int)+1))).toNat))
(.say (λR=>Rf (α:=List AV) (t0.2.2.map AV.int) (ck (cj t0.2.2.length 0 (Mod (aj L t0.2.1) (W (((t0.2.2.map AV.int).length:Int)+1))) (Mod (aj L t0.2.1) (W (((t0.2.2.map AV.int).length:Int)+1))))
R)) (.sub 306 AV.int t0.2.2 true
(.say (λR=>ck (decide ((Mod (aj L t0.2.1) (W (((t0.2.2.map AV.int).length:Int)+1)))=(Mod (aj L t0.2.1) (W (((t0.2.2.map AV.int).length:Int)+1)))))
((Rf (α:=List AV) (((t0.2.2.take ((Mod (aj L t0.2.1) (W (((t0.2.2.map AV.int).length:Int)+1))).toNat)).drop 0).map AV.int) (Rf (α:=List AV) (([t0.1]++((t0.2.2.take ((t0.2.2.length:Int).toNat)).drop ((Mod (aj L t0.2.1) (W (((t0.2.2.map AV.int).length:Int)+1))).toNat))).map AV.int)
(ck (decide (0<([t0.1]++((t0.2.2.take ((t0.2.2.length:Int).toNat)).drop ((Mod (aj L t0.2.1) (W (((t0.2.2.map AV.int).length:Int)+1))).toNat))).length))
R))))) (.appF 338 AV.int ((t0.2.2.take ((Mod (aj L t0.2.1) (W (((t0.2.2.map AV.int).length:Int)+1))).toNat)).drop 0) ([t0.1]++((t0.2.2.take ((t0.2.2.length:Int).toNat)).drop ((Mod (aj L t0.2.1) (W (((t0.2.2.map AV.int).length:Int)+1))).toNat)))
(.say (ck (decide (((t0.2.2.take ((Mod (aj L t0.2.1) (W (((t0.2.2.map AV.int).length:Int)+1))).toNat)).drop 0).length+([t0.1]++((t0.2.2.take ((t0.2.2.length:Int).toNat)).drop ((Mod (aj L t0.2.1) (W (((t0.2.2.map AV.int).length:Int)+1))).toNat))).length≤1048576))) (.bk 0 b0 (W (t0.1+1),ab L t0.2.1,((t0.2.2.take ((Mod (aj L t0.2.1) (W (((t0.2.2.map AV.int).length:Int)+1))).toNat)).drop 0)++([t0.1]++((t0.2.2.take ((t0.2.2.length:Int).toNat)).drop ((Mod (aj L t0.2.1) (W (((t0.2.2.map AV.int).length:Int)+1))).toNat)))) [0,338]))))))))))))))
(.fz 1 AV.int t0.2.2 (λ_=>rfl) (.retH ((⟨L,t0.2.1⟩:Tap),t0.2.2) ⟨[(4,.k,.sl 1 (t0.2.2.map AV.int) false)],[.box (.agg [.sl 1 (L.map AV.int) false,.int t0.2.1])]⟩ [0])))))
theorem RJ(L:List Int)(p:Nat)(n:Int)(h:n≤1000):∃I m,(Ig L p n I m).vc zG zH ((⟨L,(gi L n p).2⟩:Tap),(gi L n p).1):=by
 have hm:=λ(l:Nat) (q:Nat)=>bt (x:=aj L q) (show 1≤(l:Int)+1 by omega);refine⟨λt=>∃k:Nat,t.1=k∧k≤n.toNat∧t.2.2.length=k∧rb L (n.toNat-k) t.1 t.2.2 t.2.1=gi L n p,λt=>n.toNat-t.1.toNat,?_⟩;dsimp only[Ig,Ih,Ax.vp,Ax.vc];simp only[vcU,rfU,f'];refine⟨⟨0,rfl,by omega,rfl,rfl⟩,?_⟩;rintro⟨i,q,out⟩ ⟨k,hi,hk,hl,hr⟩;simp only at hi hl hr ⊢;subst hi;have w1:W ((out.length:Int)+1)=(out.length:Int)+1:=cf (by omega);have hq:=hm out.length q;rw[w1,sy]
 refine⟨λc=>?_,λc=>?_⟩
 ·have c:k<n.toNat:=by omega
  rw[ao (n:=n.toNat) (by omega) (by omega)];refine⟨by simp[cj];omega,by simp;omega,by simp[cj];omega,trivial,by simp,by simp;omega,⟨k+1,rfl,by omega,by rw[nm _ _ _ (by omega),hl],?_⟩,by omega⟩;rw[show n.toNat-k=(n.toNat-(k+1))+1 by omega,rb]at hr;exact hr
 ·have:k=n.toNat:=by omega
  subst this;rw[ce',rb]at hr;rw[←hr]
def RK(L:List Int)(p:Nat)(n:Int)(h:n≤1000):HC Tryz.prog:=hcO 129 [.k,.k] [.ref 0 0,.int n] [.box (.agg [.sl 1 (L.map AV.int) false,.int p])] (.s 1) zG zH ((⟨L,(gi L n p).2⟩:Tap),(gi L n p).1) (λ_ _=>let ⟨I0,m0,h⟩:=RJ L p n h;⟨_,h,by kernel_rfl⟩) (by kernel_rfl) (by simp[hcB,bJ,AV.belB,allB,cF,bW,zG,zH,Tap.v,ae (v:=AV.int) (λ_=>rfl)])
theorem vY{L:List Int}:∀{n:Nat} {i:Int} {out:List Int} {p:Nat},(rb L n i out p).1.length=out.length+n
 | 0,i,out,p=>rfl
 | n+1,i,out,p=>by
  have:=bt (x:=aj L p) (show 1≤(out.length:Int)+1 by omega);rw[rb,vY,nm _ _ _ (by omega)];omega
theorem vX{L:List Int}{n:Int}{p:Nat}:(gi L n p).1.length=n.toNat:=by rw[gi,vY];simp
theorem Ak{α:Type}{g:α→Bool}{l:List α}{k:Nat}(h:∀j y,j<k→l[j]?=some y→g y=true)(hk:k≤l.length)(h2:k=l.length∨∃y,l[k]?=some y∧g y=false):(l.findIdx λy=>!g y)=k:=by
 have hle:(l.findIdx λy=>!g y)≤l.length:=bF'
 rcases cm' (l.findIdx λy=>!g y) k with q|q|q
 ·have hl:(l.findIdx λy=>!g y)<l.length:=by omega
  have:=bZ' (p:=λy=>!g y) (xs:=l) (w:=hl);rw[h _ _ q (E' hl)]at this;cases this
 ·exact q
 ·rcases h2 with h2|⟨y,hy,hn⟩
  ·omega
  ·have:=bR' q;rw[E' (aw hy)]at hy;rw[ao' hy,hn]at this;simp at this
def jy(y x:Mem):Bool:=decide (y.grp<x.grp) || (y.grp==x.grp && decide (y.host<x.host))
def kS(l:List Mem)(x:Mem):Nat:=l.findIdx λy=>!jy y x
def wq(l:List Mem)(x:Mem)(k:Nat):Bool:=match l[k]? with|some y=>jy y x|none=>false
def wt(l:List Mem)(x:Mem)(k:Nat):Bool:=match l[k]? with|some y=>y.grp==x.grp && y.host==x.host|none=>false
def mY(l:List Mem)(x:Mem):List Mem:=if wt l x (kS l x)=true then l.set (kS l x) x else dR l (kS l x) x
def rf(L:List Int)(now:Int)(p:Nat):Mem×Nat:=
 (⟨rng L p 1 8,rng L (ab L p) 1 4,if(ax L (ab L (ab L p))).1.mode=1∧(ax L (ab L (ab L p))).1.srcs=[]then 2 else(ax L (ab L (ab L p))).1.mode,(ax L (ab L (ab L p))).1.srcs,
  now+ay [0,1,30,1000] (aj L (ax L (ab L (ab L p))).2)⟩,ab L (ax L (ab L (ab L p))).2)
def ik(L:List Int)(now:Int):Nat→List Mem→Nat→List Mem×Nat
 | 0,l,p=>(l,p)
 | n+1,l,p=>ik L now n (mY l (rf L now p).1) (rf L now p).2
def bC(L:List Int)(n:Int)(p:Nat):aJ×Nat:=
 (⟨ay [0,10,500,998000] (aj L p),(ik L (ay [0,10,500,998000] (aj L p)) (Mod (aj L (ab L p)) (n+1)).toNat [] (ab L (ab L p))).1⟩,
  (ik L (ay [0,10,500,998000] (aj L p)) (Mod (aj L (ab L p)) (n+1)).toNat [] (ab L (ab L p))).2)
theorem vP(l:List Mem)(x:Mem):(mY l x).length≤l.length+1:=by
 have:kS l x≤l.length:=bF';unfold mY
 split
 ·simp
 ·rw[nm _ _ _ this];omega
theorem gf{l:List Int}{a b:Int}(h:∀x∈l,a≤x∧x≤b)(h0:l≠[])(r:Int):a≤ay l r∧ay l r≤b:=h _ (ig h0 r)
def IS(L:List Int)(p:Nat)(t0:Int×Nat×List Mem):NF:=⟨[rR 0 0,rR 4 1,rR 5 2,rI 6 t0.1],[.box (.agg [.sl 1 (L.map AV.int) false,.int t0.2.1]),.box (.agg [.int 0,.sl 0 [] true]),.box (.agg [.int (ay [0,10,500,998000] (aj L p)),.vec 3]),vB 5 Mem.v t0.2.2 (λ_=>rfl)]⟩
def IR(L:List Int)(p:Nat)(t0:Int×Nat×List Mem)(t1:Mem):NF:=⟨[rR 0 0,rR 4 1,rR 5 2,rI 6 t0.1,rR 7 4],[.box (.agg [.sl 1 (L.map AV.int) false,.int (((ab L ((ax L (ab L (ab L t0.2.1))).2)):Nat):Int)]),.box (.agg [.int 0,.sl 0 [] true]),.box (.agg [.int (ay [0,10,500,998000] (aj L p)),.vec 3]),vB 5 Mem.v t0.2.2 (λ_=>rfl),.box (Mem.v t1)]⟩
def IQ(L:List Int)(p:Nat)(t0:Int×Nat×List Mem)(t2:Bool):NF:=⟨[rR 0 0,rR 4 1,rR 5 2,rI 6 t0.1,rR 7 4,rB 45 t2],[.box (.agg [.sl 1 (L.map AV.int) false,.int (((ab L ((ax L (ab L (ab L t0.2.1))).2)):Nat):Int)]),.box (.agg [.int 0,.sl 0 [] true]),.box (.agg [.int (ay [0,10,500,998000] (aj L p)),.vec 3]),vB 5 Mem.v t0.2.2 (λ_=>rfl),.box (Mem.v (⟨rng L t0.2.1 1 8,rng L (ab L t0.2.1) 1 4,((ax L (ab L (ab L t0.2.1))).1).mode,((ax L (ab L (ab L t0.2.1))).1).srcs,W ((ay [0,10,500,998000] (aj L p))+(ay [0,1,30,1000] (aj L ((ax L (ab L (ab L t0.2.1))).2))))⟩:Mem))]⟩
def IP(L:List Int)(p:Nat)(t0:Int×Nat×List Mem)(t1:Mem)(t3:Int):NF:=⟨[rR 0 0,rR 4 1,rR 5 2,rI 6 t0.1,rR 7 4,rI 8 t3],[.box (.agg [.sl 1 (L.map AV.int) false,.int (((ab L ((ax L (ab L (ab L t0.2.1))).2)):Nat):Int)]),.box (.agg [.int 0,.sl 0 [] true]),.box (.agg [.int (ay [0,10,500,998000] (aj L p)),.vec 3]),vB 5 Mem.v t0.2.2 (λ_=>rfl),.box (Mem.v t1)]⟩
def IN(L:List Int)(p:Nat)(t0:Int×Nat×List Mem)(t1:Mem)(t3:Int)(t4:Bool):NF:=⟨[rR 0 0,rR 4 1,rR 5 2,rI 6 t0.1,rR 7 4,rI 8 t3,rB 85 t4],[.box (.agg [.sl 1 (L.map AV.int) false,.int (((ab L ((ax L (ab L (ab L t0.2.1))).2)):Nat):Int)]),.box (.agg [.int 0,.sl 0 [] true]),.box (.agg [.int (ay [0,10,500,998000] (aj L p)),.vec 3]),vB 5 Mem.v t0.2.2 (λ_=>rfl),.box (Mem.v t1)]⟩
def IM(L:List Int)(p:Nat)(t0:Int×Nat×List Mem)(t1:Mem)(t3:Int)(t5:Bool):NF:=⟨[rR 0 0,rR 4 1,rR 5 2,rI 6 t0.1,rR 7 4,rI 8 t3,rB 114 t5],[.box (.agg [.sl 1 (L.map AV.int) false,.int (((ab L ((ax L (ab L (ab L t0.2.1))).2)):Nat):Int)]),.box (.agg [.int 0,.sl 0 [] true]),.box (.agg [.int (ay [0,10,500,998000] (aj L p)),.vec 3]),vB 5 Mem.v t0.2.2 (λ_=>rfl),.box (Mem.v t1)]⟩
@[reducible] def CS:Nat→Type
 | 0=>Int×Nat×List Mem
 | 1=>Mem
 | 2=>Bool
 | 3=>Int
 | 4=>Bool
 | 5=>Bool
 | _=>Unit
def ub(r:Tap×aJ):AV:=.agg [.int r.2.now,.vec 1]
def uc(r:Tap×aJ):List (Option Blk):=[some (.box (Tap.v r.1)),some (.vec 5 (r.2.list.map Mem.v))]
def CR(L:List Int)(p:Nat)(n:Int)(I0:(Int×Nat×List Mem)→Prop)(m0:(Int×Nat×List Mem)→Nat)(I1:Int×Nat×List Mem→Mem→Prop)(I2:Int×Nat×List Mem→Bool→Prop)(I3:Int×Nat×List Mem→Mem→Int→Prop)(m3:Int×Nat×List Mem→Mem→Int→Nat)(I4:Int×Nat×List Mem→Mem→Int→Bool→Prop)(I5:Int×Nat×List Mem→Mem→Int→Bool→Bool→Prop):Ax Tryz.prog CS (Tap×aJ):=
 (.req 49 ([0,10,500,998000]≠[]) λh1 =>
(.callH [0] (fJ L p [0,10,500,998000] h1) 49
(.callH [0] (N_h L (ab L p) (W (n+1))) 161
(.cmdL (.nilB 81 1 5) (.loop 0 (IS L p) I0 m0 (Mod (aj L (ab L p)) (W (n+1)),ab L (ab L p),[]) [0,1,81,193] λ(t0:Int×Nat×List Mem) b0 =>
(.br 36 (decide (0<t0.1)) (.callH [0] (fj L t0.2.1 1 8) 52
(.callH [0] (fj L (ab L t0.2.1) 1 4) 84
(.callH [0] (sI L (ab L (ab L t0.2.1))) 116
(.req 196 ([0,1,30,1000]≠[]) λh2 =>
(.callH [0] (fJ L ((ax L (ab L (ab L t0.2.1))).2) [0,1,30,1000] h2) 196
(.join 1 (IR L p t0) (λ(t1:Mem)=>I1 t0 t1) (λb1=>(.join 2 (IQ L p t0) (λ(t2:Bool)=>I2 t0 t2) (λb2=>(.br 356 (((ax L (ab L (ab L t0.2.1))).1).mode==1) (.bk 2 b2 (((((((ax L (ab L (ab L t0.2.1))).1).srcs).map AV.int).length:Int)==0):Bool) [0,1,2,3,244])
(.bk 2 b2 ((false):Bool) [0,1,2,3,244]))) λ(t2:Bool) =>
(.br 5 t2 (.bk 1 b1 (((⟨rng L t0.2.1 1 8,rng L (ab L t0.2.1) 1 4,2,((ax L (ab L (ab L t0.2.1))).1).srcs,W ((ay [0,10,500,998000] (aj L p))+(ay [0,1,30,1000] (aj L ((ax L (ab L (ab L t0.2.1))).2))))⟩:Mem)):Mem) [0,1,2,3,4])
(.bk 1 b1 (((⟨rng L t0.2.1 1 8,rng L (ab L t0.2.1) 1 4,((ax L (ab L (ab L t0.2.1))).1).mode,((ax L (ab L (ab L t0.2.1))).1).srcs,W ((ay [0,10,500,998000] (aj L p))+(ay [0,1,30,1000] (aj L ((ax L (ab L (ab L t0.2.1))).2))))⟩:Mem)):Mem) [0,1,2,3,4])))) λ(t1:Mem) =>
(.loop 3 (IP L p t0 t1) (I3 t0 t1) (m3 t0 t1) ((0):Int) [0,1,2,3,4] λ(t3:Int) b3 =>
(.pass (.join 4 (IN L p t0 t1 t3) (λ(t4:Bool)=>I4 t0 t1 t3 t4) (λb4=>(.br 101 (decide (t3<((t0.2.2.map Mem.v).length:Int))) (.elJ 181 Mem.v t0.2.2 t3 λx3 =>
(.br 261 (decide (x3.grp<t1.grp)) (.bk 4 b4 ((true):Bool) [0,1,2,3,4])
(.elJ 341 Mem.v t0.2.2 t3 λx4 =>
(.br 421 (x4.grp==t1.grp) (.elJ 501 Mem.v t0.2.2 t3 λx5 =>
(.bk 4 b4 ((decide (x5.host<t1.host)):Bool) [0,1,2,3,4]))
(.bk 4 b4 ((false):Bool) [0,1,2,3,4])))))
(.bk 4 b4 ((false):Bool) [0,1,2,3,4]))) λ(t4:Bool) =>
(.br 5 t4 (.bk 3 b3 ((W (t3+1)):Int) [0,1,2,3,4])
(.pass (.join 5 (IM L p t0 t1 t3) (λ(t5:Bool)=>I5 t0 t1 t3 t4 t5) (λb5=>(.br 101 (decide (t3<((t0.2.2.map Mem.v).length:Int))) (.elJ 181 Mem.v t0.2.2 t3 λx6 =>
(.br 277 (x6.grp==t1.grp) (.elJ 357 Mem.v t0.2.2 t3 λx7 =>
(.bk 5 b5 ((x7.host==t1.host):Bool) [0,1,2,3,4]))
(.bk 5 b5 ((false):Bool) [0,1,2,3,4])))
(.bk 5 b5 ((false):Bool) [0,1,2,3,4]))) λ(t5:Bool) =>
(.br 5 t5 (.stJ 85 Mem.v t0.2.2 t3 (λy8=>t1) λy8 =>
(.bk 0 b0 (W (t0.1-1),ab L ((ax L (ab L (ab L t0.2.1))).2),t0.2.2.set t3.toNat t1) [0,1,2,3]))
(.say (Rf (t0.2.2.map Mem.v)) (.cmd (.frzE 3 (t0.2.2.map Mem.v) (ae (λ_=>rfl) t0.2.2)) (.own 21 (.say (λR=>Rf (α:=List AV) (t0.2.2.map Mem.v) (ck (cj t0.2.2.length t3 (t0.2.2.length:Int) (t0.2.2.length:Int))
R)) (.sub 85 Mem.v t0.2.2 false
(.say (λR=>Rf (α:=List AV) [Mem.v t1] (Rf (α:=List AV) (((t0.2.2.take ((t0.2.2.length:Int).toNat)).drop t3.toNat).map Mem.v)
(ck (decide ([t1].length+((t0.2.2.take ((t0.2.2.length:Int).toNat)).drop t3.toNat).length≤1048576))
R))) (.app 101 Mem.v [t1] ((t0.2.2.take ((t0.2.2.length:Int).toNat)).drop t3.toNat)
(.say (λR=>Rf (α:=List AV) (t0.2.2.map Mem.v) (ck (cj t0.2.2.length 0 t3 t3)
R)) (.sub 197 Mem.v t0.2.2 true
(.say (λR=>ck (decide (t3=t3))
((Rf (α:=List AV) (((t0.2.2.take t3.toNat).drop 0).map Mem.v) (Rf (α:=List AV) (([t1]++((t0.2.2.take ((t0.2.2.length:Int).toNat)).drop t3.toNat)).map Mem.v)
(ck (decide (0<([t1]++((t0.2.2.take ((t0.2.2.length:Int).toNat)).drop t3.toNat)).length))
R))))) (.appF 229 Mem.v ((t0.2.2.take t3.toNat).drop 0) ([t1]++((t0.2.2.take ((t0.2.2.length:Int).toNat)).drop t3.toNat))
(.say (ck (decide (((t0.2.2.take t3.toNat).drop 0).length+([t1]++((t0.2.2.take ((t0.2.2.length:Int).toNat)).drop t3.toNat)).length≤1048576))) (.bk 0 b0 (W (t0.1-1),ab L ((ax L (ab L (ab L t0.2.1))).2),((t0.2.2.take t3.toNat).drop 0)++([t1]++((t0.2.2.take ((t0.2.2.length:Int).toNat)).drop t3.toNat))) [0,1,2,229]))))))))))))))))))))))))))
(.retH ((⟨L,t0.2.1⟩:Tap),(⟨ay [0,10,500,998000] (aj L p),t0.2.2⟩:aJ)) ⟨[rR 4 2],[.box (.agg [.sl 1 (L.map AV.int) false,.int t0.2.1]),vB 5 Mem.v t0.2.2 (λ_=>rfl),.box (.agg [.int (ay [0,10,500,998000] (aj L p)),.vec 1])]⟩ [0,3,1])))))))
theorem Ol(L:List Int)(p:Nat)(n:Int)(h:0≤n∧n≤1000):∃I0 m0 I1 I2 I3 m3 I4 I5,(CR L p n I0 m0 I1 I2 I3 m3 I4 I5).vc ub uc ((⟨L,(bC L n p).2⟩:Tap),(bC L n p).1):=by
 have hnow:=gf (l:=[0,10,500,998000]) (a:=0) (b:=998000) (by decide) (by decide) (aj L p)
 refine⟨λt=>∃k:Nat,t.1=k∧k+t.2.2.length≤1000∧ik L (ay [0,10,500,998000] (aj L p)) k t.2.2 t.2.1=((bC L n p).1.list,(bC L n p).2),λt=>t.1.toNat,
  λs x=>x=(rf L (ay [0,10,500,998000] (aj L p)) s.2.1).1,
  λs b=>b=decide ((ax L (ab L (ab L s.2.1))).1.mode=1∧(ax L (ab L (ab L s.2.1))).1.srcs=[]),
  λs x t=>∃k:Nat,t=k∧k≤s.2.2.length∧∀j y,j<k→s.2.2[j]?=some y→jy y x=true,λs x t=>s.2.2.length-t.toNat,
  λs x t b=>∀k:Nat,t=k→b=wq s.2.2 x k,λs x t b c=>∀k:Nat,t=k→c=wt s.2.2 x k,?_⟩
 dsimp only[CR,CS,Ax.vp,Ax.vc];simp only[vcU,rfU,f'];have w0:W (n+1)=n+1:=cf (by omega);have hm:=bt (x:=aj L (ab L p)) (show 1≤n+1 by omega);rw[w0];refine⟨by simp,⟨(Mod (aj L (ab L p)) (n+1)).toNat,by omega,by simp;omega,rfl⟩,?_⟩;rintro⟨c,q,l⟩ ⟨k,rfl,hl,hr⟩;simp only at hl hr ⊢;have hp4:=gf (l:=[0,1,30,1000]) (a:=0) (b:=1000) (by decide) (by decide) (aj L (ax L (ab L (ab L q))).2);have w1:W (ay [0,10,500,998000] (aj L p)+ay [0,1,30,1000] (aj L (ax L (ab L (ab L q))).2))=ay [0,10,500,998000] (aj L p)+ay [0,1,30,1000] (aj L (ax L (ab L (ab L q))).2):=cf (by omega);rw[w1];generalize hf:ax L (ab L (ab L q))=F at *
 generalize hN:ay [0,10,500,998000] (aj L p)=N at *
 have hX:rf L N q=(⟨rng L q 1 8,rng L (ab L q) 1 4,if F.1.mode=1∧F.1.srcs=[]then 2 else F.1.mode,F.1.srcs,N+ay [0,1,30,1000] (aj L F.2)⟩,ab L F.2):=by rw[rf,hf]
 rw[hX];have emp:(((F.1.srcs.length:Int)==0)=true)↔F.1.srcs=[]:=by
  rw[bY',←bO'];omega
 refine⟨λc=>⟨by simp,⟨⟨λc1=>?_,λc1=>?_⟩,?_⟩,?_⟩,λc=>?_⟩
 ·have c1:F.1.mode=1:=eq_of_beq c1;rw[cj',emp,decide_eq_true_eq];simp[c1]
 ·have c1:¬F.1.mode=1:=by simpa using c1
  simp[c1]
 ·rintro _ rfl
  refine⟨λd=>?_,λd=>?_⟩
  ·rw[if_pos (H' d)]
  ·rw[u' (ab' d)]
 ·intro x hx0
  replace hx0:=hx0.symm
  refine⟨⟨0,rfl,by omega,λj y hj=>by omega⟩,?_⟩;rintro _ ⟨i,rfl,hi,hlt⟩;simp only[Int.toNat_natCast];have one:∀{A:Prop},(∀j:Nat,(i:Int)=j→A)↔A:=λ{A}=>⟨λh=>h i rfl,λh _ _=>h⟩
  have cast:∀{f:Nat→Bool} {b:Bool},(∀j:Nat,(i:Int)=j→b=f j)↔b=f i:=λ{f b}=>⟨λh=>h i rfl,λh j hj=>by rw[h,show i=j by omega]⟩
  simp only[cast];have bd:(i:Int)<l.length→(bif decide ((0:Int)≤i)then decide ((i:Int)<l.length)else false)=true:=λh=>by
   rw[decide_eq_true (by omega),decide_eq_true h];rfl
  refine⟨⟨λd=>⟨bd d,by omega,λy hy=>⟨λe=>?_,λe=>⟨bd d,by omega,λy2 hy2=>?_⟩⟩⟩,λd=>?_⟩,?_⟩
  ·simp[wq,hy,jy,e]
  ·rw[hy]at hy2;cases hy2
   refine⟨λe2=>⟨bd d,by omega,λy3 hy3=>?_⟩,λe2=>?_⟩
   ·rw[hy]at hy3;cases hy3;simp[wq,hy,jy,e,e2]
   ·simp[wq,hy,jy,e,e2]
  ·rw[wq,av' (by omega)]
  rintro b rfl
  refine⟨λd=>?_,λd=>?_⟩
  ·have hil:i<l.length:=by
    refine af' λhh=>?_;rw[wq,av' (by omega)]at d;simp at d
   rw[ao (n:=l.length) (by omega) (by omega)];refine⟨⟨i+1,rfl,by omega,λj z hj hz=>?_⟩,by omega⟩
   by_cases e':j=i
   ·subst e';rw[wq,hz]at d;exact d
   ·exact hlt j z (by omega) hz
  have hP:kS l x=i:=Ak hlt hi (by
   by_cases hil:i<l.length
   ·refine .inr ⟨l[i],E' hil,?_⟩;rw[wq,E' hil]at d;exact d
   ·exact .inl (by omega))
  refine⟨⟨λc2=>⟨bd c2,by omega,λy hy=>⟨λe=>⟨bd c2,by omega,λy2 hy2=>?_⟩,λe=>?_⟩⟩,λc2=>?_⟩,?_⟩
  ·rw[hy]at hy2;cases hy2;simp[wt,hy,e]
  ·simp[wt,hy,e]
  ·rw[wt,av' (by omega)]
  rintro b2 rfl;have hk1:0<k:=by omega
  have wk:W ((k:Int)-1)=((k-1:Nat):Int):=dX (by omega) hk1;rw[wk];have step:ik L N k l q=ik L N (k-1) (mY l x) (ab L F.2):=by
   obtain⟨k',rfl⟩:∃k',k=k'+1:=⟨k-1,by omega⟩
   rw[ik,hX,hx0];rfl
  have hpl:=vP l x;rw[step]at hr
  refine⟨λc2=>?_,λc2=>?_⟩
  ·have hil:i<l.length:=by
    refine af' λhh=>?_;rw[wt,av' (by omega)]at c2;simp at c2
   have hput:mY l x=l.set i x:=by rw[mY,hP,if_pos c2]
   rw[hput]at hr hpl;refine⟨bd (by omega),by omega,λy hy=>⟨⟨k-1,rfl,by omega,hr⟩,by omega⟩⟩
  ·have hput:mY l x=dR l i x:=by rw[mY,hP,u' (by rw[c2];simp)]
   rw[hput]at hr hpl;have e1:=sy (l:=l) (k:=i) (x:=x);rw[Int.toNat_natCast]at e1;rw[e1];exact⟨by simp[cj];omega,by simp;omega,by simp[cj];omega,trivial,by simp,by simp;omega,⟨k-1,rfl,by omega,hr⟩,by omega⟩
 ·have:k=0:=by omega
  subst this;rw[ik]at hr;have h1:l=(bC L n p).1.list:=congrArg Prod.fst hr;have h2:q=(bC L n p).2:=congrArg Prod.snd hr;rw[←h2];have h3:(bC L n p).1=⟨(bC L n p).1.now,(bC L n p).1.list⟩:=rfl;have h4:(bC L n p).1.now=N:=hN;rw[h3,←h1,h4]
def Om(L:List Int)(p:Nat)(n:Int)(h:0≤n∧n≤1000):HC Tryz.prog:=hcO 43 [.k,.k] [.ref 0 0,.int n] [.box (.agg [.sl 1 (L.map AV.int) false,.int p])] .k ub uc ((⟨L,(bC L n p).2⟩:Tap),(bC L n p).1) (λ_ _=>let ⟨I0,m0,I1,I2,I3,m3,I4,I5,h⟩:=Ol L p n h;⟨_,h,by kernel_rfl⟩) (by kernel_rfl) (by simp[hcB,bJ,AV.belB,allB,cF,bW,ub,uc,Tap.v,ae (v:=AV.int) (λ_=>rfl),ae (v:=Mem.v) (λ_=>rfl)])
def ra(L:List Int)(rs:List Rtr):List Int→Int→List Edg→Nat→List Edg×Nat
 | [],_,out,p=>(out,p)
 | k::ks,id,out,p=>if Mod (aj L p) 4=0 then ra L rs ks id out (ab L p)
  else ra L rs ks (id+ay [1,1,1,2,7,9] (aj L (ab L p))) (out++[⟨(rs.getD k.toNat ⟨0,false⟩).id,id+ay [1,1,1,2,7,9] (aj L (ab L p))⟩]) (ab L (ab L p))
def kr(L:List Int)(p:Nat)(a:Tpl):List Edg×Nat:=ra L a.rs (gi L a.rs.length (ab L p)).1 0 [] (gi L a.rs.length (ab L p)).2
def lX(L:List Int)(p:Nat)(a:Tpl):Pln×Nat:=
 if 0<(kr L p a).1.length then(⟨Mod (aj L p) 3,ay [8,8,16,32,64] (aj L (kr L p a).2),(kr L p a).1⟩,ab L (kr L p a).2)
 else(⟨Mod (aj L p) 3,0,(kr L p a).1⟩,(kr L p a).2)
def NT(L:List Int)(p:Nat)(a1:Tpl)(t0:Int×Nat×Int×List Edg):NF:=⟨[rR 0 0,rR 3 1,rR 4 2,rR 5 3,rI 6 t0.2.2.1,(16,.k,.sl 1 (((gi L ((a1.rs.map Rtr.v).length:Int) (ab L p)).1).map AV.int) false),rI 17 ((((gi L ((a1.rs.map Rtr.v).length:Int) (ab L p)).1).map AV.int).length:Int),rI 18 t0.1],[.box (.agg [.sl 1 (L.map AV.int) false,.int t0.2.1]),.box (Tpl.v a1),.box (.agg [.int 0,.int 0,.sl 0 [] true]),.box (.agg [.int (Mod (aj L p) 3),.int 0,.vec 4]),vB 2 Edg.v t0.2.2.2 (λ_=>rfl)]⟩
@[reducible] def HY:Nat→Type
 | 0=>Int×Nat×Int×List Edg
 | _=>Unit
def z7(r:Tap×Pln):AV:=Pln.v r.2
def z8(r:Tap×Pln):List (Option Blk):=[some (.box (Tap.v r.1))]
def HX(L:List Int)(p:Nat)(a1:Tpl)(I0:(Int×Nat×Int×List Edg)→Prop)(m0:(Int×Nat×Int×List Edg)→Nat):Ax Tryz.prog HY (Tap×Pln):=
 (.callH [0] (N_h L p 3) 49
(.req 193 (((a1.rs.map Rtr.v).length:Int)≤1000) λh1 =>
(.callH [0] (RK L (ab L p) ((a1.rs.map Rtr.v).length:Int) h1) 193
(.cmdL (.nilB 81 2 2) (.loop 0 (NT L p a1) I0 m0 (0,(gi L ((a1.rs.map Rtr.v).length:Int) (ab L p)).2,0,[]) [0,1,17,81,241] λ(t0:Int×Nat×Int×List Edg) b0 =>
(.br 21 (decide (t0.1<((((gi L ((a1.rs.map Rtr.v).length:Int) (ab L p)).1).map AV.int).length:Int))) (.elI 21 AV.int ((gi L ((a1.rs.map Rtr.v).length:Int) (ab L p)).1) t0.1 λx2 =>
(.callH [0] (N_h L t0.2.1 4) 85
(.br 117 ((Mod (aj L t0.2.1) 4)==0) (.bk 0 b0 (W (t0.1+1),ab L t0.2.1,t0.2.2.1,t0.2.2.2) [0,1,2,3,4])
(.req 165 ([1,1,1,2,7,9]≠[]) λh3 =>
(.callH [0] (fJ L (ab L t0.2.1) [1,1,1,2,7,9] h3) 165
(.elI 293 Rtr.v a1.rs x2 λx4 =>
(.apX 389 Edg.v t0.2.2.2 [(⟨x4.id,W (t0.2.2.1+(ay [1,1,1,2,7,9] (aj L (ab L t0.2.1))))⟩:Edg)] (t0.2.2.2.length+1)
(.bk 0 b0 (W (t0.1+1),ab L (ab L t0.2.1),W (t0.2.2.1+(ay [1,1,1,2,7,9] (aj L (ab L t0.2.1)))),t0.2.2.2++[(⟨x4.id,W (t0.2.2.1+(ay [1,1,1,2,7,9] (aj L (ab L t0.2.1))))⟩:Edg)]) [0,1,2,3,389]))))))))
(.br 85 (decide (0<((t0.2.2.2.map Edg.v).length:Int))) (.req 117 ([8,8,16,32,64]≠[]) λh5 =>
(.callH [0] (fJ L t0.2.1 [8,8,16,32,64] h5) 117
(.fz 4 Edg.v t0.2.2.2 (λ_=>rfl) (.retH ((⟨L,ab L t0.2.1⟩:Tap),(⟨Mod (aj L p) 3,ay [8,8,16,32,64] (aj L t0.2.1),t0.2.2.2⟩:Pln)) ⟨[rR 4 1],[.box (.agg [.sl 1 (L.map AV.int) false,.int (ab L t0.2.1)]),.box (Pln.v (⟨Mod (aj L p) 3,ay [8,8,16,32,64] (aj L t0.2.1),t0.2.2.2⟩:Pln))]⟩ [0,2]))))
(.fz 4 Edg.v t0.2.2.2 (λ_=>rfl) (.retH ((⟨L,t0.2.1⟩:Tap),(⟨Mod (aj L p) 3,0,t0.2.2.2⟩:Pln)) ⟨[rR 4 1],[.box (.agg [.sl 1 (L.map AV.int) false,.int t0.2.1]),.box (Pln.v (⟨Mod (aj L p) 3,0,t0.2.2.2⟩:Pln))]⟩ [0,2])))))))))
theorem RF(L:List Int)(p:Nat)(a:Tpl)(h:a.rs.length≤1000):∃I m,(HX L p a I m).vc z7 z8 ((⟨L,(lX L p a).2⟩:Tap),(lX L p a).1):=by
 refine⟨λt=>∃k:Nat,t.1=k∧k≤a.rs.length∧t.2.2.2.length≤k∧(0≤t.2.2.1∧t.2.2.1≤9 * k)∧ra L a.rs ((gi L a.rs.length (ab L p)).1.drop k) t.2.2.1 t.2.2.2 t.2.1=kr L p a,
  λt=>a.rs.length-t.1.toNat,?_⟩
 dsimp only[HX,HY,Ax.vp,Ax.vc];simp only[vcU,rfU,f'];have ho:(gi L (a.rs.length:Int) (ab L p)).1.length=a.rs.length:=by rw[vX];simp
 have hb:=(p9 (L:=L) (n:=(a.rs.length:Int)) (p:=ab L p) (by omega)).2;refine⟨by omega,⟨0,rfl,by omega,by simp,by omega,rfl⟩,?_⟩;rintro⟨i,q,id,es⟩ ⟨k,hi,hk,hl,hid,hr⟩;simp only at hi hl hid hr ⊢;subst hi;simp only[Int.toNat_natCast]
 refine⟨λc=>⟨by omega,by omega,λx hx=>?_⟩,λc=>?_⟩
 ·have hk':k<a.rs.length:=by omega
  have hd:=ar' (show k<(gi L (a.rs.length:Int) (ab L p)).1.length by omega);have hxe:(gi L (a.rs.length:Int) (ab L p)).1[k]=x:=by rw[E' (by omega)]at hx;exact ao' hx
  rw[hd,hxe,ra]at hr;have hxb:=hb x (aq hx);have hp6:=gf (l:=[1,1,1,2,7,9]) (a:=1) (b:=9) (by decide) (by decide) (aj L (ab L q));rw[ao (n:=a.rs.length) (by omega) (by omega)]
  refine⟨λc1=>⟨⟨k+1,rfl,by omega,by omega,by omega,?_⟩,by omega⟩,λc1=>⟨by simp,by omega,by omega,λy hy=>?_⟩⟩
  ·rw[if_pos (eq_of_beq c1)]at hr;exact hr
  ·rw[u' (by simpa using c1)]at hr;have w1:W (id+ay [1,1,1,2,7,9] (aj L (ab L q)))=id+ay [1,1,1,2,7,9] (aj L (ab L q)):=cf (by omega);rw[w1];refine⟨by omega,⟨k+1,rfl,by omega,by simp;omega,by omega,?_⟩,by omega⟩;rw[J',hy]at hr;exact hr
 ·have:k=a.rs.length:=by omega
  subst this;rw[aI' (by omega),ra]at hr;rw[lX,←hr]
  refine⟨λc2=>⟨by simp,?_⟩,λc2=>?_⟩
  ·rw[if_pos (show 0<es.length by omega)]
  ·rw[u' (show ¬0<es.length by omega)]
def RG(L:List Int)(p:Nat)(a1:Tpl)(h:a1.rs.length≤1000):HC Tryz.prog:=hcO 40 [.k,(.a [(.s 2),(.s 5)])] [.ref 0 0,Tpl.v a1] [.box (.agg [.sl 1 (L.map AV.int) false,.int p])] (.a [.k,.k,(.s 2)]) z7 z8 ((⟨L,(lX L p a1).2⟩:Tap),(lX L p a1).1) (λ_ _=>let ⟨I0,m0,h⟩:=RF L p a1 h;⟨_,h,by kernel_rfl⟩) (by kernel_rfl) (by simp[hcB,bJ,AV.belB,allB,cF,bW,z7,z8,Pln.v,Tap.v,Tpl.v,ae (v:=AV.int) (λ_=>rfl),ae (v:=Edg.v) (λ_=>rfl),ae (v:=Lnk.v) (λ_=>rfl),ae (v:=Rtr.v) (λ_=>rfl)])
def aY(n lo hi:Int):Bool:=decide (lo≤n∧n≤hi)
def oe(v:Bool):Int:=if v then 0 else 1
def ve(r:Bool):AV:=.bool r
def oO(n:Int)(lo:Int)(hi:Int):Ax Tryz.prog noS (Bool):=
 (.br 80 (decide (lo≤n)) (.ret (decide (n≤hi)))
(.ret (false)))
theorem Gh(n lo hi:Int):(oO n lo hi).vp ve (aY n lo hi):=by
 dsimp only[oO,noS,Ax.vp,Ax.vc];simp only[vcU,rfU,f'];refine⟨λh=>by simp[aY,h],λh=>by simp[aY,h]⟩
def cL(n:Int)(lo:Int)(hi:Int):PC Tryz.prog:=pcO 324 [.k,.k,.k] [.int n,.int lo,.int hi] .k ve (aY n lo hi) (λ_=>⟨(oO n lo hi),Gh n lo hi,by kernel_rfl⟩) rfl (by kernel_rfl)
def DH(r:Int):AV:=.int r
def uD(valid:Bool):Ax Tryz.prog noS (Int):=
 (.br 32 valid (.ret (0))
(.ret (1)))
theorem Pk(v:Bool):(uD v).vp DH (oe v):=by
 dsimp only[uD,noS,Ax.vp,Ax.vc];simp only[vcU,rfU,f'];cases v<;>simp[oe]
def DI(valid:Bool):PC Tryz.prog:=pcO 330 [.k] [.bool valid] .k DH (oe valid) (λ_=>⟨(uD valid),Pk valid,by kernel_rfl⟩) rfl (by kernel_rfl)
def keyI(x:Itm):Int:=x.ver
def keyP(x:Per):Int:=x.router
def keyH(x:Hrd):Int:=x.router
def Jo(r:Int):AV:=.int r
def zW(x:Itm):Ax Tryz.prog noS (Int):=
 (.ret (x.ver))
theorem So(x:Itm):(zW x).vp Jo (keyI x):=by
 dsimp only[zW,noS,Ax.vp,Ax.vc];simp only[vcU,rfU,f'];rfl
def Jp(x:Itm):PC Tryz.prog:=pcO 326 [(.a [.k,.k,.k,(.s 1)])] [Itm.v x] .k Jo (keyI x) (λ_=>⟨(zW x),So x,by kernel_rfl⟩) rfl (by kernel_rfl)
def Jm(r:Int):AV:=.int r
def zU(p:Per):Ax Tryz.prog noS (Int):=
 (.ret (p.router))
theorem Sn(x:Per):(zU x).vp Jm (keyP x):=by
 dsimp only[zU,noS,Ax.vp,Ax.vc];simp only[vcU,rfU,f'];rfl
def Jn(p:Per):PC Tryz.prog:=pcO 332 [.k] [Per.v p] .k Jm (keyP p) (λ_=>⟨(zU p),Sn p,by kernel_rfl⟩) rfl (by kernel_rfl)
def Jq(r:Int):AV:=.int r
def zX(h_:Hrd):Ax Tryz.prog noS (Int):=
 (.ret (h_.router))
theorem Sp(x:Hrd):(zX x).vp Jq (keyH x):=by
 dsimp only[zX,noS,Ax.vp,Ax.vc];simp only[vcU,rfU,f'];rfl
def Jr(h_:Hrd):PC Tryz.prog:=pcO 339 [(.a [.k,.k,.k,(.s 4)])] [Hrd.v h_] .k Jq (keyH h_) (λ_=>⟨(zX h_),Sp h_,by kernel_rfl⟩) rfl (by kernel_rfl)
def o8{α:Type}(key:α→Int)(l:List α):Bool:=decide (l.Pairwise λx y=>key x<key y)
theorem mX{α:Type}{key:α→Int}{l:List α}(h:∀j x y,l[j]?=some x→l[j+1]?=some y→key x<key y):l.Pairwise λx y=>key x<key y:=by
 have step:∀d i x y,l[i]?=some x→l[i+1+d]?=some y→key x<key y:=by
  intro d
  induction d with
  | zero=>exact h
  | succ d ih =>
   intro i x y hx hy;have hz:=E' (show i+1+d<l.length by have:=aw hy;omega);have h1:=ih i x _ hx hz;have h2:=h (i+1+d) _ y hz hy;omega
 rw[ac'];intro i j hi hj hij;exact step (j-i-1) i _ _ (E' hi) (by rw[show i+1+(j-i-1)=j by omega];exact E' hj)
theorem ga{α:Type}{R:α→α→Prop}{l:List α}(h:l.Pairwise R){i j:Nat}{x y:α}(hij:i<j)(hx:l[i]?=some x)(hy:l[j]?=some y):R x y:=by
 have hi:=aw hx;have hj:=aw hy;have:=ac'.mp h i j hi hj hij;rw[E' hi]at hx;rw[E' hj]at hy;rw[←ao' hx,←ao' hy];exact this
def L5(l:List Itm):=okL [.sl 4 (l.map Itm.v) false,.func 326 []]
def PF(l:List Itm)(t0:Int):NF:=⟨[(0,.k,.sl 4 (l.map Itm.v) false),(1,.k,.func 326 []),rI 5 t0],[]⟩
@[reducible] def L3:Nat→Type
 | 0=>Int
 | _=>Unit
def L4(r:Bool):AV:=.bool r
def L2(l:List Itm)(I0:Int→Prop)(m0:Int→Nat):Ax Tryz.prog L3 (Bool):=
 (.loop 0 (PF l) I0 m0 ((1):Int) [] λ(t0:Int) b0 =>
(.br 64 (decide (t0<((l.map Itm.v).length:Int))) (.elI 128 Itm.v l (W (t0-1)) λx1 =>
(.callP (Jp x1)
(.elI 224 Itm.v l t0 λx2 =>
(.callP (Jp x2)
(.br 288 (decide (x2.ver≤x1.ver)) (.ret (false))
(.bk 0 b0 ((W (t0+1)):Int) []))))))
(.ret (true))))
theorem Tt(l:List Itm)(ok:L5 l):∃I m,(L2 l I m).vp L4 (o8 Itm.ver l):=by
 simp only[L5,Itm.v,okU,Blk.ok,aU,f']at ok;refine⟨λt=>∃k:Nat,t=k∧1≤k∧k≤l.length+1∧∀j x y,j+1<k→l[j]?=some x→l[j+1]?=some y→Itm.ver x<Itm.ver y,λt=>l.length+1-t.toNat,?_⟩;dsimp only[L2,L3,Ax.vp,Ax.vc];simp only[vcU,rfU,f'];refine⟨⟨1,rfl,by omega,by omega,λj x y hj=>by omega⟩,?_⟩;rintro _ ⟨k,rfl,hk1,hk,h⟩
 refine⟨λh1=>?_,λh1=>?_⟩
 ·rw[dX (by omega) hk1];simp only[Int.toNat_natCast]
  refine⟨by omega,by omega,λx hx=>⟨by omega,by omega,λy hy=>⟨λe=>?_,λe=>?_⟩⟩⟩
  ·refine(decide_eq_false λhp=>?_).symm;have:Itm.ver x<Itm.ver y:=ga hp (show k-1<k by omega) hx hy;omega
  ·rw[ao (n:=l.length) (by omega) (by omega)];refine⟨⟨k+1,rfl,by omega,by omega,λj x' y' hj hx' hy'=>?_⟩,by omega⟩
   by_cases e':j+1=k
   ·subst e';rw[show j+1-1=j by omega,hx']at hx;cases hx;rw[hy']at hy;cases hy;omega
   ·exact h j x' y' (by omega) hx' hy'
 ·exact(decide_eq_true (mX λj x y hx hy=>h j x y (by have:=aw hy;omega) hx hy)).symm
def Tu(l:List Itm):PC Tryz.prog:=pcO 325 [(.s 4),.k] [.sl 4 (l.map Itm.v) false,.func 326 []] .k L4 (o8 Itm.ver l) (λok=>let ⟨I0,m0,h⟩:=Tt l ok;⟨_,h,by kernel_rfl⟩) rfl (by kernel_rfl)
def L1(l:List Per):=okL [.sl 3 (l.map Per.v) false,.func 332 []]
def PE(l:List Per)(t0:Int):NF:=⟨[(0,.k,.sl 3 (l.map Per.v) false),(1,.k,.func 332 []),rI 5 t0],[]⟩
@[reducible] def Lz:Nat→Type
 | 0=>Int
 | _=>Unit
def L0(r:Bool):AV:=.bool r
def Ly(l:List Per)(I0:Int→Prop)(m0:Int→Nat):Ax Tryz.prog Lz (Bool):=
 (.loop 0 (PE l) I0 m0 ((1):Int) [] λ(t0:Int) b0 =>
(.br 64 (decide (t0<((l.map Per.v).length:Int))) (.elI 128 Per.v l (W (t0-1)) λx1 =>
(.callP (Jn x1)
(.elI 224 Per.v l t0 λx2 =>
(.callP (Jn x2)
(.br 288 (decide (x2.router≤x1.router)) (.ret (false))
(.bk 0 b0 ((W (t0+1)):Int) []))))))
(.ret (true))))
theorem Tr(l:List Per)(ok:L1 l):∃I m,(Ly l I m).vp L0 (o8 Per.router l):=by
 simp only[L1,Per.v,okU,Blk.ok,aU,f']at ok;refine⟨λt=>∃k:Nat,t=k∧1≤k∧k≤l.length+1∧∀j x y,j+1<k→l[j]?=some x→l[j+1]?=some y→Per.router x<Per.router y,λt=>l.length+1-t.toNat,?_⟩;dsimp only[Ly,Lz,Ax.vp,Ax.vc];simp only[vcU,rfU,f'];refine⟨⟨1,rfl,by omega,by omega,λj x y hj=>by omega⟩,?_⟩;rintro _ ⟨k,rfl,hk1,hk,h⟩
 refine⟨λh1=>?_,λh1=>?_⟩
 ·rw[dX (by omega) hk1];simp only[Int.toNat_natCast]
  refine⟨by omega,by omega,λx hx=>⟨by omega,by omega,λy hy=>⟨λe=>?_,λe=>?_⟩⟩⟩
  ·refine(decide_eq_false λhp=>?_).symm;have:Per.router x<Per.router y:=ga hp (show k-1<k by omega) hx hy;omega
  ·rw[ao (n:=l.length) (by omega) (by omega)];refine⟨⟨k+1,rfl,by omega,by omega,λj x' y' hj hx' hy'=>?_⟩,by omega⟩
   by_cases e':j+1=k
   ·subst e';rw[show j+1-1=j by omega,hx']at hx;cases hx;rw[hy']at hy;cases hy;omega
   ·exact h j x' y' (by omega) hx' hy'
 ·exact(decide_eq_true (mX λj x y hx hy=>h j x y (by have:=aw hy;omega) hx hy)).symm
def Ts(l:List Per):PC Tryz.prog:=pcO 331 [(.s 3),.k] [.sl 3 (l.map Per.v) false,.func 332 []] .k L0 (o8 Per.router l) (λok=>let ⟨I0,m0,h⟩:=Tr l ok;⟨_,h,by kernel_rfl⟩) rfl (by kernel_rfl)
def L9(l:List Hrd):=okL [.sl 4 (l.map Hrd.v) false,.func 339 []]
def PG(l:List Hrd)(t0:Int):NF:=⟨[(0,.k,.sl 4 (l.map Hrd.v) false),(1,.k,.func 339 []),rI 5 t0],[]⟩
@[reducible] def L7:Nat→Type
 | 0=>Int
 | _=>Unit
def L8(r:Bool):AV:=.bool r
def L6(l:List Hrd)(I0:Int→Prop)(m0:Int→Nat):Ax Tryz.prog L7 (Bool):=
 (.loop 0 (PG l) I0 m0 ((1):Int) [] λ(t0:Int) b0 =>
(.br 64 (decide (t0<((l.map Hrd.v).length:Int))) (.elI 128 Hrd.v l (W (t0-1)) λx1 =>
(.callP (Jr x1)
(.elI 224 Hrd.v l t0 λx2 =>
(.callP (Jr x2)
(.br 288 (decide (x2.router≤x1.router)) (.ret (false))
(.bk 0 b0 ((W (t0+1)):Int) []))))))
(.ret (true))))
theorem Tv(l:List Hrd)(ok:L9 l):∃I m,(L6 l I m).vp L8 (o8 Hrd.router l):=by
 simp only[L9,Hrd.v,okU,Blk.ok,aU,f']at ok;refine⟨λt=>∃k:Nat,t=k∧1≤k∧k≤l.length+1∧∀j x y,j+1<k→l[j]?=some x→l[j+1]?=some y→Hrd.router x<Hrd.router y,λt=>l.length+1-t.toNat,?_⟩;dsimp only[L6,L7,Ax.vp,Ax.vc];simp only[vcU,rfU,f'];refine⟨⟨1,rfl,by omega,by omega,λj x y hj=>by omega⟩,?_⟩;rintro _ ⟨k,rfl,hk1,hk,h⟩
 refine⟨λh1=>?_,λh1=>?_⟩
 ·rw[dX (by omega) hk1];simp only[Int.toNat_natCast]
  refine⟨by omega,by omega,λx hx=>⟨by omega,by omega,λy hy=>⟨λe=>?_,λe=>?_⟩⟩⟩
  ·refine(decide_eq_false λhp=>?_).symm;have:Hrd.router x<Hrd.router y:=ga hp (show k-1<k by omega) hx hy;omega
  ·rw[ao (n:=l.length) (by omega) (by omega)];refine⟨⟨k+1,rfl,by omega,by omega,λj x' y' hj hx' hy'=>?_⟩,by omega⟩
   by_cases e':j+1=k
   ·subst e';rw[show j+1-1=j by omega,hx']at hx;cases hx;rw[hy']at hy;cases hy;omega
   ·exact h j x' y' (by omega) hx' hy'
 ·exact(decide_eq_true (mX λj x y hx hy=>h j x y (by have:=aw hy;omega) hx hy)).symm
def Tw(l:List Hrd):PC Tryz.prog:=pcO 338 [(.s 4),.k] [.sl 4 (l.map Hrd.v) false,.func 339 []] .k L8 (o8 Hrd.router l) (λok=>let ⟨I0,m0,h⟩:=Tv l ok;⟨_,h,by kernel_rfl⟩) rfl (by kernel_rfl)
def fF(l:List Itm):Prop:=l.length≤900000∧∀x∈l,x.srcs.length≤1000000
def cN(l:List Itm)(last:Int):Bool:=decide (aK last l)
def tE(l:List Itm)(s:List Bool):Prop:=s.length=100∧∀g,g<100→s[g]?=some (decide (∃x∈l,x.grp=(g:Nat)))
theorem Hx:tE [] (List.replicate 100 false):=⟨List.length_replicate,λg hg=>by rw[aN',if_pos hg];simp⟩
theorem Hy{l:List Itm}{s:List Bool}(h:tE l s){x:Itm}(hx:1≤x.grp∧x.grp≤99):tE (l++[x]) (s.set x.grp.toNat true):=by
 refine⟨by simp[h.1],λg hg=>?_⟩;rw[bN']
 by_cases e:x.grp.toNat=g
 ·rw[if_pos e,if_pos (by have:=h.1;omega)];refine congrArg some (decide_eq_true ⟨x,by simp,by omega⟩).symm
 ·rw[u' e,h.2 g hg];refine congrArg some ?_;refine decide_eq_decide.mpr ⟨λ⟨y,hy,hg⟩=>⟨y,by simp[hy],hg⟩,λ⟨y,hy,hg⟩=>?_⟩
  rcases L'.mp hy with hy|hy
  ·exact⟨y,hy,hg⟩
  ·rw[O']at hy;subst hy;omega
theorem EE{l:List Itm}{x:Itm}(h:(l.map Itm.grp).Nodup)(hx:¬∃y∈l,y.grp=x.grp):((l++[x]).map Itm.grp).Nodup:=by
 rw[List.map_append,List.nodup_append];refine⟨h,by simp,λa ha b hb e=>?_⟩;obtain⟨y,hy,rfl⟩:=R'.mp ha;simp at hb;subst hb;exact hx ⟨y,hy,e⟩
def wP(l:List Itm)(last:Int):=okL [.sl 4 (l.map Itm.v) false,.int last]
def ET(l:List Itm)(last:Int)(t0:Int×List Bool):NF:=⟨[(0,.k,.sl 4 (l.map Itm.v) false),rI 1 last,rR 5 0,(8,.k,.sl 4 (l.map Itm.v) false),rI 9 ((l.map Itm.v).length:Int),rI 10 t0.1],[.arr (t0.2.map AV.bool) (ae (λ_=>rfl) t0.2)]⟩
@[reducible] def wN:Nat→Type
 | 0=>Int×List Bool
 | _=>Unit
def wO(r:Bool):AV:=.bool r
def wM(l:List Itm)(last:Int)(I0:(Int×List Bool)→Prop)(m0:(Int×List Bool)→Nat):Ax Tryz.prog wN (Bool):=
 (.loop 0 (ET l last) I0 m0 (0,List.replicate 100 false) [16] λ(t0:Int×List Bool) b0 =>
(.br 17 (decide (t0.1<((l.map Itm.v).length:Int))) (.elI 17 Itm.v l t0.1 λx1 =>
(.callP (cL x1.ver 1 last)
(.br 177 (!(aY x1.ver 1 last)) (.ret (false))
(.callP (cL x1.grp 1 99)
(.br 273 (!(aY x1.grp 1 99)) (.ret (false))
(.say (ck (cond (decide (0≤x1.grp)) (decide (x1.grp<100)) false)) (.elX 321 AV.bool t0.2 (0+(x1.grp.toNat * 1)) λx2 =>
(.br 369 x2 (.ret (false))
(.callP (nN (⟨x1.mode,x1.srcs⟩:Flt))
(.br 449 ((am (⟨x1.mode,x1.srcs⟩:Flt).mode (⟨x1.mode,x1.srcs⟩:Flt).srcs) != 0) (.ret (false))
(.say (ck (cond (decide (0≤x1.grp)) (decide (x1.grp<100)) false)) (.stX 497 AV.bool t0.2 (0+(x1.grp.toNat * 1)) (λ_=>true) λy3 =>
(.bk 0 b0 (W (t0.1+1),t0.2.set (0+(x1.grp.toNat * 1)) true) [0])))))))))))))
(.callP (Tu l)
(.ret (o8 Itm.ver l)))))
theorem Jw(l:List Itm)(last:Int)(ok:wP l last):∃I m,(wM l last I m).vp wO (cN l last):=by
 simp only[wP,Itm.v,okU,Blk.ok,aU,f']at ok;refine⟨λt=>∃k:Nat,t.1=k∧k≤l.length∧tE (l.take k) t.2∧(∀x∈l.take k,mo last x)∧((l.take k).map Itm.grp).Nodup,λt=>l.length-t.1.toNat,?_⟩;dsimp only[wM,wN,Ax.vp,Ax.vc];simp only[vcU,rfU,f'];refine⟨⟨0,rfl,by omega,Hx,by simp,by simp⟩,?_⟩;rintro⟨_,s⟩ ⟨k,rfl,hk,hs,hi,hn⟩;simp only[Int.toNat_natCast,aB',Nat.mul_one]at hs ⊢
 refine⟨λh1=>⟨by omega,by omega,λx hx=>?_⟩,λh1=>?_⟩
 ·have hm:=aq hx;have bad:¬mo last x→false=cN l last:=λh=>(decide_eq_false λe=>h (e.1 x hm)).symm
  refine⟨λe=>bad λe'=>?_,λe1=>⟨λe=>bad λe'=>?_,λe2=>?_⟩⟩
  ·simp[aY]at e;have:=e'.1;omega
  ·simp[aY]at e;have:=e'.2.1;omega
  have hv:1≤x.ver∧x.ver≤last:=by simpa[aY]using e1
  have hg:1≤x.grp∧x.grp≤99:=by simpa[aY]using e2
  have hg2:(bif decide (0≤x.grp)then decide (x.grp<100)else false)=true:=by simp;omega
  have hsl:=hs.1;refine⟨hg2,by omega,λb hb=>?_⟩;rw[hs.2 _ (by omega)]at hb;have hb:=ao' hb;have hex:(∃y∈l.take k,y.grp=((x.grp.toNat:Nat):Int))↔∃y∈l.take k,y.grp=x.grp:=by rw[show((x.grp.toNat:Nat):Int)=x.grp by omega]
  refine⟨λe3=>?_,λe3=>⟨λe=>bad λe'=>?_,λe4=>⟨hg2,by omega,λy hy=>?_⟩⟩⟩
  ·rw[e3]at hb;obtain⟨y,hy,hyx⟩:=hex.mp (H' hb);refine(decide_eq_false λe=>?_).symm;obtain⟨j,hj,rfl⟩:=bK'.mp hy;have:=ga (R:=λa b=>a≠b) e.2.1 (i:=j) (j:=k) (by omega) (by rw[S',E' (by omega)];rfl) (by rw[S',hx];rfl);exact this hyx
  ·have:=e'.2.2;simp[this]at e
  ·have hf:am x.mode x.srcs=0:=by simpa using e4
   rw[e3]at hb;have hne:=λh=>ab' hb (hex.mpr h);rw[ao (n:=l.length) (by omega) (by omega)]
   refine⟨⟨k+1,rfl,by omega,?_,?_,?_⟩,by omega⟩
   ·rw[al hx];exact Hy hs hg
   ·rw[al hx];intro z hz
    rcases L'.mp hz with hz|hz
    ·exact hi z hz
    ·rw[O']at hz;subst hz;exact⟨hv,hg,hf⟩
   ·rw[al hx];exact EE hn hne
 ·rw[G' (by omega)]at hi hn;simp only[o8,cN,aK];exact decide_eq_decide.mpr ⟨λh=>⟨hi,hn,h⟩,λh=>h.2.2⟩
def pN(l:List Itm)(last:Int):PC Tryz.prog:=pcO 252 [(.s 4),.k] [.sl 4 (l.map Itm.v) false,.int last] .k wO (cN l last) (λok=>let ⟨I0,m0,h⟩:=Jw l last ok;⟨_,h,by kernel_rfl⟩) rfl (by kernel_rfl)
def cI(s:Spk):Int:=ja (aW s)
def gB(l:Lsn):Int:=ja (bY l)
theorem xy{p:Prop}[Decidable p](h:¬p):(1:Int)=ja p:=by rw[ja,u' h]
theorem sO{p q:Prop}[Decidable p][Decidable q](h:p↔q):oe (decide p)=ja q:=by
 by_cases hp:p
 ·simp[oe,ja,hp,h.mp hp]
 ·have hq:¬q:=λhq=>hp (h.mpr hq);simp[oe,ja,hp,hq]
def Gs(s:Spk):=okL [Spk.v s]
def Mw(s:Spk)(t0:Int):NF:=⟨[rR 1 0,(36,.k,.sl 3 (s.peers.map Per.v) false),rI 37 ((s.peers.map Per.v).length:Int),rI 38 t0],[.box (Spk.v s)]⟩
@[reducible] def Gq:Nat→Type
 | 0=>Int
 | _=>Unit
def Gr(r:Int):AV:=.int r
def Gp(s:Spk)(I0:Int→Prop)(m0:Int→Nat):Ax Tryz.prog Gq (Int):=
 (.callP (cL s.router 1 99)
(.br 112 (!(aY s.router 1 99)) (.ret (1))
(.callP (cL s.epoch 1 1000000)
(.br 208 (!(aY s.epoch 1 1000000)) (.ret (1))
(.callP (cL s.last 0 1000000)
(.br 304 (!(aY s.last 0 1000000)) (.ret (1))
(.callP (pN s.items s.last)
(.br 432 (!(cN s.items s.last)) (.ret (1))
(.br 512 (decide (12<((s.peers.map Per.v).length:Int))) (.ret (1))
(.loop 0 (Mw s) I0 m0 ((0):Int) [0] λ(t0:Int) b0 =>
(.br 17 (decide (t0<((s.peers.map Per.v).length:Int))) (.elI 17 Per.v s.peers t0 λx1 =>
(.callP (cL x1.router 1 99)
(.br 161 (!(aY x1.router 1 99)) (.ret (1))
(.br 273 (x1.router==s.router) (.ret (1))
(.callP (cL x1.epoch 0 1000000)
(.br 369 (!(aY x1.epoch 0 1000000)) (.ret (1))
(.callP (cL x1.acked 0 s.last)
(.br 481 (!(aY x1.acked 0 s.last)) (.ret (1))
(.bk 0 b0 ((W (t0+1)):Int) [0])))))))))
(.callP (Ts s.peers)
(.callP (DI (o8 Per.router s.peers))
(.ret (oe (o8 Per.router s.peers))))))))))))))))
theorem Ri(s:Spk)(ok:Gs s):∃I m,(Gp s I m).vp Gr (cI s):=by
 simp only[Gs,Spk.v,okU,Blk.ok,aU,f']at ok;refine⟨λt=>∃k:Nat,t=k∧k≤s.peers.length∧∀p∈s.peers.take k,lY s.router s.last p,λt=>s.peers.length-t.toNat,?_⟩;dsimp only[Gp,Gq,Ax.vp,Ax.vc];simp only[vcU,rfU,f'];have bad:¬aW s→1=cI s:=xy
 refine⟨λe=>bad λh=>?_,λe1=>⟨λe=>bad λh=>?_,λe2=>⟨λe=>bad λh=>?_,λe3=>⟨λe=>bad λh=>?_,λe4=>⟨λe=>bad λh=>?_,λe5=>?_⟩⟩⟩⟩⟩
 ·have:=h.1;simp[aY]at e;omega
 ·have:=h.2.1;simp[aY]at e;omega
 ·have:=h.2.2.1;simp[aY]at e;omega
 ·have:=h.2.2.2.1;simp[cN,this]at e
 ·have:=h.2.2.2.2.1;omega
 have e1:1≤s.router∧s.router≤99:=by simpa[aY]using e1
 have e2:1≤s.epoch∧s.epoch≤1000000:=by simpa[aY]using e2
 have e3:0≤s.last∧s.last≤1000000:=by simpa[aY]using e3
 have e4:aK s.last s.items:=by simpa[cN]using e4
 refine⟨⟨0,rfl,by omega,by simp⟩,?_⟩;rintro _ ⟨k,rfl,hk,hp⟩;simp only[Int.toNat_natCast]
 refine⟨λh1=>⟨by omega,by omega,λx hx=>?_⟩,λh1=>?_⟩
 ·have bad:¬lY s.router s.last x→1=cI s:=λh=>bad λe=>h (e.2.2.2.2.2.1 x (aq hx))
  refine⟨λe=>bad λh=>?_,λp1=>⟨λe=>bad λh=>?_,λp2=>⟨λe=>bad λh=>?_,λp3=>⟨λe=>bad λh=>?_,λp4=>?_⟩⟩⟩⟩
  ·have:=h.1;simp[aY]at e;omega
  ·have:=h.2.1;simp at e;omega
  ·have:=h.2.2.1;simp[aY]at e;omega
  ·have:=h.2.2.2;simp[aY]at e;omega
  rw[ao (n:=s.peers.length) (by omega) (by omega)];refine⟨⟨k+1,rfl,by omega,?_⟩,by omega⟩;rw[al hx];intro z hz
  rcases L'.mp hz with hz|hz
  ·exact hp z hz
  ·rw[O']at hz;subst hz;exact⟨by simpa[aY]using p1,by simpa using p2,by simpa[aY]using p3,by simpa[aY]using p4⟩
 ·rw[G' (by omega)]at hp;exact sO ⟨λh=>⟨e1,e2,e3,e4,by omega,hp,h⟩,λh=>h.2.2.2.2.2.2⟩
def yT(s:Spk):PC Tryz.prog:=pcO 258 [(.a [.k,.k,.k,(.s 4),(.s 3)])] [Spk.v s] .k Gr (cI s) (λok=>let ⟨I0,m0,h⟩:=Ri s ok;⟨_,h,by kernel_rfl⟩) rfl (by kernel_rfl)
def GI(l:Lsn):=okL [Lsn.v l]
def Mz(l:Lsn)(t0:Int):NF:=⟨[rR 1 0,(22,.k,.sl 4 (l.heard.map Hrd.v) false),rI 23 ((l.heard.map Hrd.v).length:Int),rI 24 t0],[.box (Lsn.v l)]⟩
@[reducible] def GF:Nat→Type
 | 0=>Int
 | _=>Unit
def GG(r:Int):AV:=.int r
def GE(l:Lsn)(I0:Int→Prop)(m0:Int→Nat):Ax Tryz.prog GF (Int):=
 (.callP (cL l.router 1 99)
(.br 112 (!(aY l.router 1 99)) (.ret (1))
(.callP (cL l.epoch 1 1000000)
(.br 208 (!(aY l.epoch 1 1000000)) (.ret (1))
(.br 288 (decide (12<((l.heard.map Hrd.v).length:Int))) (.ret (1))
(.loop 0 (Mz l) I0 m0 ((0):Int) [0] λ(t0:Int) b0 =>
(.br 17 (decide (t0<((l.heard.map Hrd.v).length:Int))) (.elI 17 Hrd.v l.heard t0 λx1 =>
(.callP (cL x1.router 1 99)
(.br 161 (!(aY x1.router 1 99)) (.ret (1))
(.br 273 (x1.router==l.router) (.ret (1))
(.callP (cL x1.epoch 1 1000000)
(.br 369 (!(aY x1.epoch 1 1000000)) (.ret (1))
(.callP (cL x1.ver 0 1000000)
(.br 465 (!(aY x1.ver 0 1000000)) (.ret (1))
(.callP (pN x1.items x1.ver)
(.br 577 (!(cN x1.items x1.ver)) (.ret (1))
(.bk 0 b0 ((W (t0+1)):Int) [0])))))))))))
(.callP (Tw l.heard)
(.callP (DI (o8 Hrd.router l.heard))
(.ret (oe (o8 Hrd.router l.heard))))))))))))
theorem Rk(l:Lsn)(ok:GI l):∃I m,(GE l I m).vp GG (gB l):=by
 simp only[GI,Lsn.v,okU,Blk.ok,aU,f']at ok;refine⟨λt=>∃k:Nat,t=k∧k≤l.heard.length∧∀h∈l.heard.take k,pT l.router h,λt=>l.heard.length-t.toNat,?_⟩;dsimp only[GE,GF,Ax.vp,Ax.vc];simp only[vcU,rfU,f'];have bad:¬bY l→1=gB l:=xy
 refine⟨λe=>bad λh=>?_,λe1=>⟨λe=>bad λh=>?_,λe2=>⟨λe=>bad λh=>?_,λe5=>?_⟩⟩⟩
 ·have:=h.1;simp[aY]at e;omega
 ·have:=h.2.1;simp[aY]at e;omega
 ·have:=h.2.2.1;omega
 have e1:1≤l.router∧l.router≤99:=by simpa[aY]using e1
 have e2:1≤l.epoch∧l.epoch≤1000000:=by simpa[aY]using e2
 refine⟨⟨0,rfl,by omega,by simp⟩,?_⟩;rintro _ ⟨k,rfl,hk,hp⟩;simp only[Int.toNat_natCast]
 refine⟨λh1=>⟨by omega,by omega,λx hx=>?_⟩,λh1=>?_⟩
 ·have bad:¬pT l.router x→1=gB l:=λh=>bad λe=>h (e.2.2.2.1 x (aq hx))
  refine⟨λe=>bad λh=>?_,λp1=>⟨λe=>bad λh=>?_,λp2=>⟨λe=>bad λh=>?_,λp3=>⟨λe=>bad λh=>?_,λp4=>⟨λe=>bad λh=>?_,λp5=>?_⟩⟩⟩⟩⟩
  ·have:=h.1;simp[aY]at e;omega
  ·have:=h.2.1;simp at e;omega
  ·have:=h.2.2.1;simp[aY]at e;omega
  ·have:=h.2.2.2.1;simp[aY]at e;omega
  ·have:=h.2.2.2.2;simp[cN,this]at e
  rw[ao (n:=l.heard.length) (by omega) (by omega)];refine⟨⟨k+1,rfl,by omega,?_⟩,by omega⟩;rw[al hx];intro z hz
  rcases L'.mp hz with hz|hz
  ·exact hp z hz
  ·rw[O']at hz;subst hz;exact⟨by simpa[aY]using p1,by simpa using p2,by simpa[aY]using p3,by simpa[aY]using p4,by simpa[cN]using p5⟩
 ·rw[G' (by omega)]at hp;exact sO ⟨λh=>⟨e1,e2,by omega,hp,h⟩,λh=>h.2.2.2.2⟩
def GH(l:Lsn):PC Tryz.prog:=pcO 270 [(.a [.k,.k,(.s 4)])] [Lsn.v l] .k GG (gB l) (λok=>let ⟨I0,m0,h⟩:=Rk l ok;⟨_,h,by kernel_rfl⟩) rfl (by kernel_rfl)
def qi(r:Flt):AV:=Flt.v r
def li(f:Flt):Ax Tryz.prog noS (Flt):=
 (.req 64 (f.srcs.length≤1000000) λh1 =>
(.callP (mD f.srcs h1)
(.ret (f))))
theorem Al(f:Flt)(h:f.srcs.length≤1000000):(li f).vp qi f:=by
 dsimp only[li,noS,Ax.vp,Ax.vc];simp only[vcU,rfU,f'];exact⟨h,trivial⟩
def iQ(f:Flt)(h:f.srcs.length≤1000000):PC Tryz.prog:=pcO 254 [(.a [.k,(.s 1)])] [Flt.v f] (.a [.k,(.s 1)]) qi f (λ_=>⟨(li f),Al f h,by kernel_rfl⟩) rfl (by kernel_rfl)
def F6(l:List Itm)(without:Int)(t0:Int×List Itm):NF:=⟨[rI 1 without,rV 5 0,(8,.k,.sl 4 (l.map Itm.v) false),rI 9 ((l.map Itm.v).length:Int),rI 10 t0.1],[vB 4 Itm.v t0.2 (λ_=>rfl)]⟩
@[reducible] def xP:Nat→Type
 | 0=>Int×List Itm
 | _=>Unit
def qq(r:List Itm):AV:=.vec 0
def qt(r:List Itm):List (Option Blk):=[some (.vec 4 (r.map Itm.v))]
def xO(l:List Itm)(without:Int)(I0:(Int×List Itm)→Prop)(m0:(Int×List Itm)→Nat):Ax Tryz.prog xP ((List Itm)):=
 (.cmdL (.nilT 5 4) (.loop 0 (F6 l without) I0 m0 (0,[]) [80] λ(t0:Int×List Itm) b0 =>
(.br 17 (decide (t0.1<((l.map Itm.v).length:Int))) (.elI 17 Itm.v l t0.1 λx1 =>
(.br 145 (x1.grp != without) (.req 177 ((⟨x1.mode,x1.srcs⟩:Flt).srcs.length≤1000000) λh2 =>
(.callP (iQ (⟨x1.mode,x1.srcs⟩:Flt) h2)
(.apX 273 Itm.v t0.2 [x1] (t0.2.length+1)
(.bk 0 b0 (W (t0.1+1),t0.2++[x1]) [273]))))
(.bk 0 b0 (W (t0.1+1),t0.2) [0])))
(.retH t0.2 ⟨[rV 4 0],[vB 4 Itm.v t0.2 (λ_=>rfl)]⟩ [0]))))
theorem K9(l:List Itm)(wo:Int)(h:fF l):∃I m,(xO l wo I m).vc qq qt (without wo l):=by
 obtain⟨h1,h2⟩:=h;refine⟨λt=>∃k:Nat,t=((k:Int),without wo (l.take k))∧k≤l.length,λt=>l.length-t.1.toNat,?_⟩;dsimp only[xO,xP,Ax.vp,Ax.vc];simp only[vcU,rfU,f'];refine⟨⟨0,by simp[without],by omega⟩,?_⟩;rintro _ ⟨k,rfl,hk⟩;simp only[Int.toNat_natCast]
 refine⟨λh3=>⟨by omega,by omega,λx hx=>?_⟩,λh3=>?_⟩
 ·have hl:(without wo (l.take k)).length≤900000:=aF' (bh' _ _) (by simp;omega);rw[ao (n:=l.length) (by omega) (by omega)]
  refine⟨λe=>⟨h2 x (aq hx),by omega,⟨k+1,?_,by omega⟩,by omega⟩,λe=>⟨⟨k+1,?_,by omega⟩,by omega⟩⟩
  ·rw[al hx];simp at e;simp[without,e]
  ·rw[al hx];simp at e;simp[without,e]
 ·rw[G' (by omega)]
def xQ(l:List Itm)(without:Int)(h:fF l):HC Tryz.prog:=hcO 260 [(.s 4),.k] [.sl 4 (l.map Itm.v) false,.int without] [] .k qq qt (Go.Proofs.YtiobpjoadkfhdaaGreatDoor.without without l) (λ_ _=>let ⟨I0,m0,h⟩:=K9 l without h;⟨_,h,by kernel_rfl⟩) (by kernel_rfl) (by simp[hcB,bJ,AV.belB,allB,cF,bW,qq,qt,ae (v:=Itm.v) (λ_=>rfl)])
def qy(r:List Per):AV:=.vec 0
def qz(r:List Per):List (Option Blk):=[some (.vec 3 (r.map Per.v))]
def qx(s:List Per):Ax Tryz.prog noS ((List Per)):=
 (.allB (λb1=>((s.map Per.v)≠[]→b1=false)) λb1 =>
(.br 48 (b1 != false) (.cmdL (.nilT 2 3) (.retH [] ⟨[rV 2 0],[.vec 3 [] rfl]⟩ [64]))
(.apX 80 Per.v [] s (0+s.length)
(.retH s ⟨[rV 2 0],[vB 3 Per.v s (λ_=>rfl)]⟩ [80]))))
theorem KU(s:List Per)(h:s.length≤1000000):(qx s).vc qy qz s:=by
 dsimp only[qx,noS,Ax.vp,Ax.vc];simp only[vcU,rfU,f'];intro b hb;refine⟨λh1=>?_,λ_=>by first|omega|exact⟨by omega,trivial⟩|(trace_state;simpa using h)⟩;cases s with
 | nil=>rfl
 | cons x s=>simp at hb;simp[hb]at h1
def xU(s:List Per)(h:s.length≤1000000):HC Tryz.prog:=hcO 261 [(.s 3)] [.sl 3 (s.map Per.v) false] [] .k qy qz s (λ_ _=>⟨(qx s),KU s h,by kernel_rfl⟩) (by kernel_rfl) (by simp[hcB,bJ,AV.belB,allB,cF,bW,qy,qz,ae (v:=Per.v) (λ_=>rfl)])
def nQ(l:List Itm)(g:Int):Flt:=⟨(bO l g).1,(bO l g).2⟩
theorem uw{α:Type}{p:α→Bool}{l:List α}{k:Nat}{x:α}(h:∀y∈l.take k,p y=false)(hx:l[k]?=some x)(hp:p x=true):l.find? p=some x:=by
 rw[ch'];have hk:=aw hx;rw[E' hk]at hx;refine⟨hp,k,hk,ao' hx,λj hj=>?_⟩;rw[h _ (bK'.mpr ⟨j,by omega,rfl⟩)];rfl
def BM(l:List Itm)(group:Int):=okL [.sl 4 (l.map Itm.v) false,.int group]
def GU(l:List Itm)(group:Int)(t0:Int):NF:=⟨[rI 1 group,rR 4 0,(7,.k,.sl 4 (l.map Itm.v) false),rI 8 ((l.map Itm.v).length:Int),rI 9 t0],[.box (.agg [.int 0,.sl 0 [] true])]⟩
@[reducible] def BK:Nat→Type
 | 0=>Int
 | _=>Unit
def BL(r:Flt):AV:=Flt.v r
def BJ(l:List Itm)(group:Int)(I0:Int→Prop)(m0:Int→Nat):Ax Tryz.prog BK (Flt):=
 (.loop 0 (GU l group) I0 m0 ((0):Int) [0] λ(t0:Int) b0 =>
(.br 17 (decide (t0<((l.map Itm.v).length:Int))) (.elI 17 Itm.v l t0 λx1 =>
(.br 145 (x1.grp==group) (.ret ((⟨x1.mode,x1.srcs⟩:Flt)))
(.bk 0 b0 ((W (t0+1)):Int) [0])))
(.ret ((⟨1,[]⟩:Flt)))))
theorem M6(l:List Itm)(g:Int)(ok:BM l g):∃I m,(BJ l g I m).vp BL (nQ l g):=by
 simp only[BM,Itm.v,okU,Blk.ok,aU,f']at ok;refine⟨λt=>∃k:Nat,t=k∧k≤l.length∧∀x∈l.take k,decide (x.grp=g)=false,λt=>l.length-t.toNat,?_⟩;dsimp only[BJ,BK,Ax.vp,Ax.vc];simp only[vcU,rfU,f'];refine⟨⟨0,rfl,by omega,by simp⟩,?_⟩;rintro _ ⟨k,rfl,hk,h⟩;simp only[Int.toNat_natCast];have h:∀x∈l.take k,decide (x.grp=g)=false:=λx hx=>decide_eq_false (h x hx)
 refine⟨λh1=>⟨by omega,by omega,λx hx=>⟨λe=>?_,λe=>?_⟩⟩,λh1=>?_⟩
 ·rw[nQ,bO,uw h hx (by simpa using e)]
 ·rw[ao (n:=l.length) (by omega) (by omega)];refine⟨⟨k+1,rfl,by omega,?_⟩,by omega⟩;rw[al hx];intro z hz
  rcases L'.mp hz with hz|hz
  ·simpa using h z hz
  ·rw[O']at hz;subst hz;simpa using e
 ·rw[G' (by omega)]at h;rw[nQ,bO,aL'.mpr λx hx=>by rw[h x hx];simp]
def M7(l:List Itm)(group:Int):PC Tryz.prog:=pcO 262 [(.s 4),.k] [.sl 4 (l.map Itm.v) false,.int group] (.a [.k,(.s 1)]) BL (nQ l group) (λok=>let ⟨I0,m0,h⟩:=M6 l group ok;⟨_,h,by kernel_rfl⟩) rfl (by kernel_rfl)
def AI(p:Hrd)(r:Int):Int:=cmpI p.router r
def KH(r:Int):AV:=.int r
def AH(h_:Hrd)(r:Int):Ax Tryz.prog noS (Int):=
 (.callP (nG h_.router r)
(.ret (cmpI h_.router r)))
theorem SZ(p:Hrd)(r:Int):(AH p r).vp KH (AI p r):=by
 dsimp only[AH,noS,Ax.vp,Ax.vc];simp only[vcU,rfU,f'];rfl
def KI(h_:Hrd)(r:Int):PC Tryz.prog:=pcO 343 [(.a [.k,.k,.k,(.s 4)]),.k] [Hrd.v h_,.int r] .k KH (AI h_ r) (λ_=>⟨(AH h_ r),SZ h_ r,by kernel_rfl⟩) rfl (by kernel_rfl)
theorem half(i j:Nat)(h:i≤j)(hj:j≤1000000):W ((IntKind.u64.wrap (W ((i:Int)+j))).fdiv 2)=(((i+j) / 2:Nat):Int):=by
 have e1:W ((i:Int)+j)=((i+j:Nat):Int):=cf ⟨by omega,by omega⟩;rw[e1];have e2:IntKind.u64.wrap ((i+j:Nat):Int)=((i+j:Nat):Int):=by simp[IntKind.wrap,IntKind.signed,IntKind.bits];omega
 rw[e2,show Int.fdiv ((i+j:Nat):Int) 2=(((i+j) / 2:Nat):Int) by rw[Int.fdiv_eq_ediv_of_nonneg _ (by omega)];rfl];exact cf ⟨by omega,by omega⟩
theorem J2{α:Type}{key:α→Int}{l:List α}{r:Int}{i:Nat}(hi:i≤l.length)(h1:∀k x,k<i→l[k]?=some x→key x<r)(h2:∀k x,i≤k→l[k]?=some x→r≤key x) :
  l.findIdx (λp=>!decide (key p<r))=i:=by
 by_cases e:i=l.length
 ·subst e;rw[List.findIdx_eq_length];intro x hx;obtain⟨k,hk,rfl⟩:=bl'.mp hx;have:=h1 k _ hk (E' hk);simp[this]
 ·rw[List.findIdx_eq (by omega)]
  refine⟨?_,λj hj=>?_⟩
  ·have:=h2 i _ (V' _) (E' (by omega));simp;omega
  ·have:=h1 j _ hj (E' (by omega));simp[this]
theorem getD_some{α:Type}{l:List α}{i:Nat}{x d:α}(h:l[i]?=some x):l.getD i d=x:=by rw[List.getD,h];rfl
theorem jA(x y:Int):cmpI x y<0↔x<y:=by
 unfold cmpI;split
 ·simp_all
 ·split<;>simp_all
theorem nF(x y:Int):cmpI x y=0↔x=y:=by
 unfold cmpI;split
 ·simp;omega
 ·split
  ·simp;omega
  ·simp;omega
def QO(x:List Hrd)(target:Int):=okL [.sl 4 (x.map Hrd.v) false,.int target,.func 343 []]
def Tn(x:List Hrd)(target:Int)(t0:Int×Int):NF:=⟨[(0,.k,.sl 4 (x.map Hrd.v) false),rI 1 target,(2,.k,.func 343 []),rI 8 ((x.map Hrd.v).length:Int),rI 9 t0.1,rI 10 t0.2],[]⟩
@[reducible] def QM:Nat→Type
 | 0=>Int×Int
 | _=>Unit
def QN(r:Int×Bool):AV:=.tup [.int r.1,.bool r.2]
def QL(x:List Hrd)(target:Int)(I0:(Int×Int)→Prop)(m0:(Int×Int)→Nat):Ax Tryz.prog QM (Int×Bool):=
 (.loop 0 (Tn x target) I0 m0 (0,((x.map Hrd.v).length:Int)) [] λ(t0:Int×Int) b0 =>
(.br 48 (decide (t0.1<t0.2)) (.elI 208 Hrd.v x (W (Int.fdiv (IntKind.u64.wrap (W (t0.1+t0.2))) 2)) λx1 =>
(.callP (KI x1 target)
(.br 288 (decide ((AI x1 target)<0)) (.bk 0 b0 (W ((W (Int.fdiv (IntKind.u64.wrap (W (t0.1+t0.2))) 2))+1),t0.2) [])
(.bk 0 b0 (t0.1,W (Int.fdiv (IntKind.u64.wrap (W (t0.1+t0.2))) 2)) []))))
(.br 128 (decide (t0.1<((x.map Hrd.v).length:Int))) (.elI 176 Hrd.v x t0.1 λx2 =>
(.callP (KI x2 target)
(.ret (t0.1,(AI x2 target)==0))))
(.ret (t0.1,false)))))
theorem bsH_p(l:List Hrd)(r:Int)(h:l.Pairwise λx y=>x.router<y.router)(hl:l.length≤1000000)(ok:QO l r):∃I m,(QL l r I m).vp QN ((bK l r:Int),decide (gD l r)):=by
 simp only[QO,Hrd.v,okU,Blk.ok,aU,f']at ok;refine⟨λt=>∃i j:Nat,t=((i:Int),(j:Int))∧i≤j∧j≤l.length∧(∀k x,k<i→l[k]?=some x→x.router<r)∧(∀k x,j≤k→l[k]?=some x→r≤x.router),λt=>(t.2-t.1).toNat,?_⟩;dsimp only[QL,QM,Ax.vp,Ax.vc];simp only[vcU,rfU,f'];refine⟨⟨0,l.length,rfl,by omega,by omega,λk x hk=>by omega,λk x hk hx=>by have:=aw hx;omega⟩,?_⟩;rintro _ ⟨i,j,rfl,hij,hj,h1,h2⟩
 refine⟨λh3=>?_,λh3=>?_⟩
 ·have h3:i<j:=by simpa using h3
  simp only[half i j hij (by omega),Int.toNat_natCast]
  refine⟨by omega,by omega,λx hx=>⟨λe=>?_,λe=>?_⟩⟩
  ·rw[AI,jA]at e;rw[ao (n:=l.length) (by omega) (by omega)];refine⟨⟨_,_,rfl,by omega,hj,λk y hk hy=>?_,h2⟩,by omega⟩
   by_cases e':k=(i+j) / 2
   ·subst e';rw[hx]at hy;cases hy;exact e
   ·have:=ga h (show k<(i+j) / 2 by omega) hy hx;omega
  ·rw[AI,jA]at e;refine⟨⟨_,_,rfl,by omega,by omega,h1,λk y hk hy=>?_⟩,by omega⟩
   by_cases e':k=(i+j) / 2
   ·subst e';rw[hx]at hy;cases hy;omega
   ·have:=ga h (show(i+j) / 2<k by omega) hx hy;omega
 ·have h3:i=j:=by simp at h3;omega
  subst h3;have hp:bK l r=i:=J2 (key:=Hrd.router) hj h1 h2;simp only[Int.toNat_natCast]
  refine⟨λh4=>⟨by omega,by omega,λx hx=>?_⟩,λh4=>?_⟩
  ·have e:gD l r↔x.router=r:=by rw[gD,hp,getD_some hx];exact⟨λh=>h.2,λh=>⟨aw hx,h⟩⟩
   rw[hp];refine congrArg _ ?_;rw[AI,cj',aM',e,bY',nF]
  ·rw[hp,decide_eq_false];rw[gD,hp];intro h;omega
def bsH_c(x:List Hrd)(target:Int)(h:x.Pairwise λx y=>x.router<y.router)(hl:x.length≤1000000):PC Tryz.prog:=pcO 342 [(.s 4),.k,.k] [.sl 4 (x.map Hrd.v) false,.int target,.func 343 []] .k QN ((bK x target:Int),decide (gD x target)) (λok=>let ⟨I0,m0,h⟩:=bsH_p x target h hl ok;⟨_,h,by kernel_rfl⟩) rfl (by kernel_rfl)
def Dp(r:Int×Bool):AV:=.tup [.int r.1,.bool r.2]
def ul(l:Lsn)(router:Int):Ax Tryz.prog noS (Int×Bool):=
 (.req 96 (l.heard.Pairwise λx y=>x.router<y.router) λh1 =>
(.req 96 (l.heard.length≤1000000) λh2 =>
(.callP (bsH_c l.heard router h1 h2)
(.ret ((bK l.heard router:Int),decide (gD l.heard router))))))
theorem OL(l:Lsn)(r:Int)(h:l.heard.Pairwise λx y=>x.router<y.router)(hl:l.heard.length≤1000000):(ul l r).vp Dp ((bK l.heard r:Int),decide (gD l.heard r)):=by
 dsimp only[ul,noS,Ax.vp,Ax.vc];simp only[vcU,rfU,f'];exact⟨h,hl,trivial⟩
def OM(l:Lsn)(router:Int)(h:l.heard.Pairwise λx y=>x.router<y.router)(hl:l.heard.length≤1000000):PC Tryz.prog:=pcO 274 [(.a [.k,.k,(.s 4)]),.k] [Lsn.v l,.int router] .k Dp ((bK l.heard router:Int),decide (gD l.heard router)) (λ_=>⟨(ul l router),OL l router h hl,by kernel_rfl⟩) rfl (by kernel_rfl)
def noF(f:Flt):Bool:=f.mode==1 && (f.srcs.length:Int)==0
def QA(r:Bool):AV:=.bool r
def Ip(f:Flt):Ax Tryz.prog noS (Bool):=
 (.br 96 (f.mode==1) (.ret (((f.srcs.map AV.int).length:Int)==0))
(.ret (false)))
theorem noF_p(f:Flt):(Ip f).vp QA (noF f):=by
 dsimp only[Ip,noS,Ax.vp,Ax.vc];simp only[vcU,rfU,f'];by_cases h:f.mode=1<;>simp[noF,h]
def Iq(f:Flt):PC Tryz.prog:=pcO 334 [(.a [.k,(.s 1)])] [Flt.v f] .k QA (noF f) (λ_=>⟨(Ip f),noF_p f,by kernel_rfl⟩) rfl (by kernel_rfl)
def FD(l:List Wnt)(ah:Bool)(t0:Int):NF:=⟨[(0,.k,.sl 3 (l.map Wnt.v) false),rB 1 ah,(16,.k,.sl 3 (l.map Wnt.v) false),rI 17 ((l.map Wnt.v).length:Int),rI 18 t0],[]⟩
def FB(l:List Wnt)(ah:Bool)(t1:Int):NF:=⟨[(0,.k,.sl 3 (l.map Wnt.v) false),rB 1 ah,(31,.k,.sl 3 (l.map Wnt.v) false),rI 32 ((l.map Wnt.v).length:Int),rI 33 t1],[]⟩
def FA(l:List Wnt)(ah:Bool)(t2:Int):NF:=⟨[(0,.k,.sl 3 (l.map Wnt.v) false),rB 1 ah,(44,.k,.sl 3 (l.map Wnt.v) false),rI 45 ((l.map Wnt.v).length:Int),rI 46 t2],[]⟩
def F9(l:List Wnt)(t3:Int):NF:=⟨[(0,.k,.sl 3 (l.map Wnt.v) false),rI 12 t3],[]⟩
@[reducible] def yb:Nat→Type
 | 0=>Int
 | 1=>Int
 | 2=>Int
 | 3=>Int
 | _=>Unit
def yc(r:Int):AV:=.int r
def ya(l:List Wnt)(ah:Bool)(I0:Int→Prop)(m0:Int→Nat)(I1:Int→Int→Prop)(m1:Int→Int→Nat)(I2:Int→Int→Int→Prop)(m2:Int→Int→Int→Nat)(I3:Int→Int→Int→Int→Prop)(m3:Int→Int→Int→Int→Nat):Ax Tryz.prog yb (Int):=
 (.br 64 (decide (32<((l.map Wnt.v).length:Int))) (.ret (3))
(.loop 0 (FD l ah) I0 m0 ((0):Int) [] λ(t0:Int) b0 =>
(.br 16 (decide (t0<((l.map Wnt.v).length:Int))) (.elI 16 Wnt.v l t0 λx1 =>
(.br 144 (decide (x1.grp<1)) (.ret (2))
(.br 208 (decide (99<x1.grp)) (.ret (2))
(.bk 0 b0 ((W (t0+1)):Int) []))))
(.loop 1 (FB l ah) (I1 t0) (m1 t0) ((0):Int) [] λ(t1:Int) b1 =>
(.br 16 (decide (t1<((l.map Wnt.v).length:Int))) (.elI 16 Wnt.v l t1 λx2 =>
(.callP (nN (⟨x2.mode,x2.srcs⟩:Flt))
(.br 176 ((am (⟨x2.mode,x2.srcs⟩:Flt).mode (⟨x2.mode,x2.srcs⟩:Flt).srcs) != 0) (.ret (am (⟨x2.mode,x2.srcs⟩:Flt).mode (⟨x2.mode,x2.srcs⟩:Flt).srcs))
(.bk 1 b1 ((W (t1+1)):Int) []))))
(.loop 2 (FA l ah) (I2 t0 t1) (m2 t0 t1) ((0):Int) [] λ(t2:Int) b2 =>
(.br 16 (decide (t2<((l.map Wnt.v).length:Int))) (.elI 16 Wnt.v l t2 λx3 =>
(.br 128 (!ah) (.callP (Iq (⟨x3.mode,x3.srcs⟩:Flt))
(.br 192 (noF (⟨x3.mode,x3.srcs⟩:Flt)) (.ret (1))
(.bk 2 b2 ((W (t2+1)):Int) [])))
(.bk 2 b2 ((W (t2+1)):Int) [])))
(.loop 3 (F9 l) (I3 t0 t1 t2) (m3 t0 t1 t2) ((1):Int) [] λ(t3:Int) b3 =>
(.br 64 (decide (t3<((l.map Wnt.v).length:Int))) (.elI 112 Wnt.v l (W (t3-1)) λx4 =>
(.elI 192 Wnt.v l t3 λx5 =>
(.br 256 (decide (x5.grp≤x4.grp)) (.ret (25))
(.bk 3 b3 ((W (t3+1)):Int) []))))
(.ret (0)))))))))))
theorem Ii{α:Type}{l:List α}{f:α→Int}{k:Nat}{x:α}(h:∀y∈l.take k,f y=0)(hx:l[k]?=some x)(hn:f x≠0):orI (l.map f)=f x:=by
 rw[orI,uw (k:=k) (x:=f x)]
 ·rfl
 ·intro y hy;rw[←cf']at hy;obtain⟨z,hz,rfl⟩:=R'.mp hy;simp[h z hz]
 ·rw[S',hx];rfl
 ·simpa using hn
theorem C9{α:Type}{l:List α}{f:α→Int}(h:∀y∈l,f y=0):orI (l.map f)=0:=by
 rw[orI,aL'.mpr];· rfl
 intro x hx;obtain⟨z,hz,rfl⟩:=R'.mp hx;simp[h z hz]
theorem iA{α:Type}{P:α→Prop}{l:List α}{k:Nat}{x:α}(h:∀y∈l.take k,P y)(hx:l[k]?=some x)(hp:P x):∀y∈l.take (k+1),P y:=by
 rw[al hx];intro z hz
 rcases L'.mp hz with hz|hz
 ·exact h z hz
 ·rw[O']at hz;subst hz;exact hp
theorem Lh(l:List Wnt)(chg:Bool):∃I0 m0 I1 m1 I2 m2 I3 m3,(ya l chg I0 m0 I1 m1 I2 m2 I3 m3).vp yc (aI chg l):=by
 let R:Prop:=∀w∈l,1≤w.grp∧w.grp≤99
 let F:Prop:=∀w∈l,am w.mode w.srcs=0
 let N:Prop:=chg=false→∀w∈l,¬cS w
 refine⟨λt=>∃k:Nat,t=k∧k≤l.length∧∀w∈l.take k,1≤w.grp∧w.grp≤99,λt=>l.length-t.toNat,
  λ_ t=>R∧∃k:Nat,t=k∧k≤l.length∧∀w∈l.take k,am w.mode w.srcs=0,λ_ t=>l.length-t.toNat,
  λ_ _ t=>R∧F∧∃k:Nat,t=k∧k≤l.length∧∀w∈l.take k,chg=false→¬cS w,λ_ _ t=>l.length-t.toNat,
  λ_ _ _ t=>R∧F∧N∧∃k:Nat,t=k∧1≤k∧k≤l.length+1∧∀j x y,j+1<k→l[j]?=some x→l[j+1]?=some y→x.grp<y.grp,λ_ _ _ t=>l.length+1-t.toNat,?_⟩
 dsimp only[ya,yb,Ax.vp,Ax.vc];simp only[vcU,rfU,f'];have hno:∀x:Wnt,noF ⟨x.mode,x.srcs⟩=true↔cS x:=λx=>by simp[noF,cS]
 refine⟨λe=>by rw[aI,if_pos (by omega)],λe0=>⟨⟨0,rfl,by omega,by simp⟩,?_⟩⟩;have e0:¬32<l.length:=by omega
 rintro _ ⟨k,rfl,hk,h⟩;simp only[Int.toNat_natCast]
 refine⟨λh1=>⟨by omega,by omega,λx hx=>?_⟩,λh1=>?_⟩
 ·have bad:¬(1≤x.grp∧x.grp≤99)→2=aI chg l:=λh=>by
   rw[aI,u' e0,if_pos λh'=>h (h' x (aq hx))]
  refine⟨λe=>bad (by omega),λe1=>⟨λe=>bad (by omega),λe2=>?_⟩⟩;rw[ao (n:=l.length) (by omega) (by omega)];exact⟨⟨k+1,rfl,by omega,iA h hx ⟨by omega,by omega⟩⟩,by omega⟩
 rw[G' (by omega)]at h;have hR:R:=h;have w1:aI chg l=if fW l≠0 then fW l else if chg=false∧∃w∈l,cS w then 1 else if ¬(l.Pairwise λx y=>x.grp<y.grp)then 25 else 0:=by
  rw[aI,u' e0,u' (λh=>h hR)]
 clear h h1 hk k;refine⟨⟨hR,0,rfl,by omega,by simp⟩,?_⟩;rintro _ ⟨-,k,rfl,hk,h⟩;simp only[Int.toNat_natCast]
 refine⟨λh1=>⟨by omega,by omega,λx hx=>⟨λe=>?_,λe=>?_⟩⟩,λh1=>?_⟩
 ·have e:am x.mode x.srcs≠0:=by simpa using e
  have:fW l=am x.mode x.srcs:=Ii (f:=λx:Wnt=>am x.mode x.srcs) h hx e;rw[w1,this,if_pos e]
 ·rw[ao (n:=l.length) (by omega) (by omega)];exact⟨⟨hR,k+1,rfl,by omega,iA h hx (by simpa using e)⟩,by omega⟩
 rw[G' (by omega)]at h;have hF:F:=h;have w2:aI chg l=if chg=false∧∃w∈l,cS w then 1 else if ¬(l.Pairwise λx y=>x.grp<y.grp)then 25 else 0:=by
  rw[w1,u' (λhh=>hh (C9 hF))]
 clear h h1 hk k;refine⟨⟨hR,hF,0,rfl,by omega,by simp⟩,?_⟩;rintro _ ⟨-,-,k,rfl,hk,h⟩;simp only[Int.toNat_natCast]
 refine⟨λh1=>⟨by omega,by omega,λx hx=>?_⟩,λh1=>?_⟩
 ·have step:(chg=false→¬cS x)→(R∧F∧∃k':Nat,W ((k:Int)+1)=k'∧k'≤l.length∧∀w∈l.take k',chg=false→¬cS w)∧l.length-(W ((k:Int)+1)).toNat<l.length-k:=by
   intro hs;rw[ao (n:=l.length) (by omega) (by omega)];exact⟨⟨hR,hF,k+1,rfl,by omega,iA h hx hs⟩,by omega⟩
  refine⟨λe=>⟨λe2=>?_,λe2=>step λ_ hn=>?_⟩,λe=>step λhc=>?_⟩
  ·rw[w2,if_pos ⟨by simpa using e,x,aq hx,(hno x).mp e2⟩]
  ·rw[(hno x).mpr hn]at e2;cases e2
  ·simp[hc]at e
 rw[G' (by omega)]at h;have hN:N:=λhc w hw=>h w hw hc;have w3:aI chg l=if ¬(l.Pairwise λx y=>x.grp<y.grp)then 25 else 0:=by
  rw[w2,u' (λ⟨hc,w,hw,hn⟩=>hN hc w hw hn)]
 clear h h1 hk k;refine⟨⟨hR,hF,hN,1,rfl,by omega,by omega,λj x y hj=>by omega⟩,?_⟩;rintro _ ⟨-,-,-,k,rfl,hk1,hk,h⟩
 refine⟨λh1=>?_,λh1=>?_⟩
 ·rw[dX (by omega) hk1];simp only[Int.toNat_natCast]
  refine⟨by omega,by omega,λx hx=>⟨by omega,by omega,λy hy=>⟨λe=>?_,λe=>?_⟩⟩⟩
  ·rw[w3,if_pos];intro hp;have:x.grp<y.grp:=ga hp (show k-1<k by omega) hx hy;omega
  ·rw[ao (n:=l.length) (by omega) (by omega)];refine⟨⟨hR,hF,hN,k+1,rfl,by omega,by omega,λj x' y' hj hx' hy'=>?_⟩,by omega⟩
   by_cases e':j+1=k
   ·subst e';rw[show j+1-1=j by omega,hx']at hx;cases hx;rw[hy']at hy;cases hy;omega
   ·exact h j x' y' (by omega) hx' hy'
 ·rw[w3,u'];exact λhh=>hh (mX λj x y hx hy=>h j x y (by have:=aw hy;omega) hx hy)
def yd(l:List Wnt)(ah:Bool):PC Tryz.prog:=pcO 323 [(.s 3),.k] [.sl 3 (l.map Wnt.v) false,.bool ah] .k yc (aI ah l) (λ_=>let ⟨I0,m0,I1,m1,I2,m2,I3,m3,h⟩:=Lh l ah;⟨_,h,by kernel_rfl⟩) rfl (by kernel_rfl)
def Gn(r:Int):AV:=.int r
def yS(l:List Wnt):Ax Tryz.prog noS (Int):=
 (.callP (yd l false)
(.ret (aI false l)))
theorem Rh(l:List Wnt):(yS l).vp Gn (aI false l):=by
 dsimp only[yS,noS,Ax.vp,Ax.vc];simp only[vcU,rfU,f']
def oT(l:List Wnt):PC Tryz.prog:=pcO 247 [(.s 3)] [.sl 3 (l.map Wnt.v) false] .k Gn (aI false l) (λ_=>⟨(yS l),Rh l,by kernel_rfl⟩) rfl (by kernel_rfl)
def sN(r:Wnt):AV:=Wnt.v r
def nE(w:Wnt):Ax Tryz.prog noS (Wnt):=
 (.req 80 (w.srcs.length≤1000000) λh1 =>
(.callP (mD w.srcs h1)
(.ret (w))))
theorem F7(w:Wnt)(h:w.srcs.length≤1000000):(nE w).vp sN w:=by
 dsimp only[nE,noS,Ax.vp,Ax.vc];simp only[vcU,rfU,f'];exact⟨h,trivial⟩
def i7(w:Wnt)(h:w.srcs.length≤1000000):PC Tryz.prog:=pcO 250 [(.a [.k,.k,(.s 1)])] [Wnt.v w] (.a [.k,.k,(.s 1)]) sN w (λ_=>⟨(nE w),F7 w h,by kernel_rfl⟩) rfl (by kernel_rfl)
structure Bnd where
  lo:Int
  hi:Int
def Bnd.v(b:Bnd):AV:=.agg [.int b.lo,.int b.hi]
structure Frm where
  l0:Int
  h0:Int
  l1:Int
  h1:Int
  l2:Int
  h2:Int
  l3:Int
  h3:Int
  l4:Int
  h4:Int
def Frm.v(b:Frm):AV:=.agg [.int b.l0,.int b.h0,.int b.l1,.int b.h1,.int b.l2,.int b.h2,.int b.l3,.int b.h3,.int b.l4,.int b.h4]
def mz(b:Bnd)(n:Int):Bool:=decide (b.lo≤n) && decide (n≤b.hi)
def JP(r:Bool):AV:=.bool r
def Ae(b:Bnd)(n:Int):Ax Tryz.prog noS (Bool):=
 (.br 112 (decide (b.lo≤n)) (.ret (decide (n≤b.hi)))
(.ret (false)))
theorem Sz(b:Bnd)(n:Int):(Ae b n).vp JP (mz b n):=by
 dsimp only[Ae,noS,Ax.vp,Ax.vc];simp only[vcU,rfU,f'];by_cases h:b.lo≤n<;>simp[mz,h]
def Af(b:Bnd)(n:Int):PC Tryz.prog:=pcO 341 [.k,.k] [Bnd.v b,.int n] .k JP (mz b n) (λ_=>⟨(Ae b n),Sz b n,by kernel_rfl⟩) rfl (by kernel_rfl)
def aH(s:Sig):Frm×Bool:=
 if s.kind=1 then(⟨1,1000000,0,1000000,0,0,0,0,0,0⟩,true)
 else if s.kind=2 then(⟨1,1000000,1,1000000,0,W (s.ver-1),0,0,1,99⟩,true)
 else if s.kind=3 then(⟨0,1000000,0,1000000,0,0,1,1000000,0,0⟩,true)
 else(⟨0,0,0,0,0,0,0,0,0,0⟩,false)
def Dx(r:Frm×Bool):AV:=.tup [Frm.v r.1,.bool r.2]
def uo(s:Sig):Ax Tryz.prog noS (Frm×Bool):=
 (.br 112 (s.kind==1) (.ret ((⟨1,1000000,0,1000000,0,0,0,0,0,0⟩:Frm),true))
(.br 144 (s.kind==2) (.ret ((⟨1,1000000,1,1000000,0,W (s.ver-1),0,0,1,99⟩:Frm),true))
(.br 176 (s.kind==3) (.ret ((⟨0,1000000,0,1000000,0,0,1,1000000,0,0⟩:Frm),true))
(.ret ((⟨0,0,0,0,0,0,0,0,0,0⟩:Frm),false)))))
theorem OU(s:Sig):(uo s).vp Dx (aH s):=by
 dsimp only[uo,noS,Ax.vp,Ax.vc];simp only[vcU,rfU,f'];refine⟨λe=>?_,λe=>⟨λe2=>?_,λe2=>⟨λe3=>?_,λe3=>?_⟩⟩⟩
 all_goals simp at *
 all_goals simp[aH, *]
def OV(s:Sig):PC Tryz.prog:=pcO 340 [(.a [.k,.k,.k,.k,.k,.k,.k,.k,.k,(.s 1)])] [Sig.v s] .k Dx (aH s) (λ_=>⟨(uo s),OU s,by kernel_rfl⟩) rfl (by kernel_rfl)
theorem j2{b:Bnd}{n:Int}:mz b n=true↔b.lo≤n∧n≤b.hi:=by simp[mz]
def Il(s:Sig):List Int:=[s.epoch,s.ver,s.prev,s.pep,s.grp]
def P3(f:Frm):List Bnd:=[⟨f.l0,f.h0⟩,⟨f.l1,f.h1⟩,⟨f.l2,f.h2⟩,⟨f.l3,f.h3⟩,⟨f.l4,f.h4⟩]
theorem five{p:Int→Bnd→Prop}{s:Sig}{f:Frm}:(∀(j:Nat) x b,(Il s)[j]?=some x→(P3 f)[j]?=some b→p x b)↔p s.epoch ⟨f.l0,f.h0⟩∧p s.ver ⟨f.l1,f.h1⟩∧p s.prev ⟨f.l2,f.h2⟩∧p s.pep ⟨f.l3,f.h3⟩∧p s.grp ⟨f.l4,f.h4⟩:=by
 refine⟨λh=>⟨h 0 _ _ rfl rfl,h 1 _ _ rfl rfl,h 2 _ _ rfl rfl,h 3 _ _ rfl rfl,h 4 _ _ rfl rfl⟩,λ⟨h0,h1,h2,h3,h4⟩ j x b hx hb=>?_⟩;rcases j with _|_|_|_|_|j<;>simp[Il,P3]at hx hb<;>subst hx hb<;>assumption
theorem wg{s:Sig}(hv:-9223372036854775808≤s.ver∧s.ver≤9223372036854775807)(hk:(aH s).2=true) :
  bA s↔∀(j:Nat) x b,(Il s)[j]?=some x→(P3 (aH s).1)[j]?=some b→mz b x=true:=by
 rw[five (p:=λx b=>mz b x=true)];simp only[j2]
 by_cases e1:s.kind=1
 ·simp[aH,bA,e1];omega
 ·by_cases e2:s.kind=2
  ·simp only[aH,bA,u' e1,if_pos e2]
   constructor
   ·rintro⟨h0,h1,h2,h3,h4⟩;rw[cf (by omega)];omega
   ·rintro⟨h0,h1,h2,h3,h4⟩;rw[cf (by omega)]at h2;omega
  ·by_cases e3:s.kind=3
   ·simp[aH,bA,e3];omega
   ·simp[aH,e1,e2,e3]at hk
theorem sB{s:Sig}:(aH s).2=true↔s.kind=1∨s.kind=2∨s.kind=3:=by
 by_cases e1:s.kind=1
 ·simp[aH,e1]
 ·by_cases e2:s.kind=2
  ·simp[aH,e2]
  ·by_cases e3:s.kind=3<;>simp[aH,e1,e2,e3]
def Hq(s:Sig):=okL [Sig.v s]
def MV(s:Sig)(t0:Int):NF:=⟨[rR 1 0,rR 3 1,(45,.k,.agg [.int s.epoch,.int s.ver,.int s.prev,.int s.pep,.int s.grp]),rI 46 t0],[.box (Sig.v s),.box (Frm.v ((aH s).1))]⟩
@[reducible] def Hn:Nat→Type
 | 0=>Int
 | _=>Unit
def Ho(r:Int):AV:=.int r
def Hm(s:Sig)(I0:Int→Prop)(m0:Int→Nat):Ax Tryz.prog Hn (Int):=
 (.callP (OV s)
(.br 192 (!((aH s).2)) (.ret (1))
(.callP (Af (⟨1,99⟩:Bnd) s.src)
(.br 336 (!(mz (⟨1,99⟩:Bnd) s.src)) (.ret (2))
(.callP (Af (⟨1,99⟩:Bnd) s.dst)
(.br 448 (!(mz (⟨1,99⟩:Bnd) s.dst)) (.ret (2))
(.br 544 (s.src==s.dst) (.ret (2))
(.loop 0 (MV s) I0 m0 ((0):Int) [0,112] λ(t0:Int) b0 =>
(.br 18 (decide (t0<5)) (.el 34 AV.int ([s.epoch,s.ver,s.prev,s.pep,s.grp]:List Int) (λR=>Rf (([s.epoch,s.ver,s.prev,s.pep,s.grp]:List Int).map AV.int) (ck (decide (0≤t0)) (ck (decide (t0<5)) (ck (decide (t0.toNat<([s.epoch,s.ver,s.prev,s.pep,s.grp]:List Int).length))
(∀x1,([s.epoch,s.ver,s.prev,s.pep,s.grp]:List Int)[t0.toNat]?=some x1 →
(R x1)))))) λx1 =>
(.say (ck (cond (decide (0≤t0)) (decide (t0<5)) false)) (.elA 114 (λx:Bnd=>[.int x.lo,.int x.hi]) [(⟨((aH s).1).l0,((aH s).1).h0⟩:Bnd),(⟨((aH s).1).l1,((aH s).1).h1⟩:Bnd),(⟨((aH s).1).l2,((aH s).1).h2⟩:Bnd),(⟨((aH s).1).l3,((aH s).1).h3⟩:Bnd),(⟨((aH s).1).l4,((aH s).1).h4⟩:Bnd)] (t0.toNat) 2 (λ_=>rfl) (λR=>Rf (α:=List AV) ([.int (((aH s).1).l0),.int (((aH s).1).h0),.int (((aH s).1).l1),.int (((aH s).1).h1),.int (((aH s).1).l2),.int (((aH s).1).h2),.int (((aH s).1).l3),.int (((aH s).1).h3),.int (((aH s).1).l4),.int (((aH s).1).h4)]) (((0+(t0.toNat * 2))=t0.toNat * 2)∧(ck (decide (t0.toNat<[(⟨((aH s).1).l0,((aH s).1).h0⟩:Bnd),(⟨((aH s).1).l1,((aH s).1).h1⟩:Bnd),(⟨((aH s).1).l2,((aH s).1).h2⟩:Bnd),(⟨((aH s).1).l3,((aH s).1).h3⟩:Bnd),(⟨((aH s).1).l4,((aH s).1).h4⟩:Bnd)].length))
(∀x2,[(⟨((aH s).1).l0,((aH s).1).h0⟩:Bnd),(⟨((aH s).1).l1,((aH s).1).h1⟩:Bnd),(⟨((aH s).1).l2,((aH s).1).h2⟩:Bnd),(⟨((aH s).1).l3,((aH s).1).h3⟩:Bnd),(⟨((aH s).1).l4,((aH s).1).h4⟩:Bnd)][t0.toNat]?=some x2 →
(R x2))))) λx2 =>
(.callP (Af x2 x1)
(.br 178 (!(mz x2 x1)) (.ret (2))
(.bk 0 b0 ((W (t0+1)):Int) [0,1]))))))
(.br 66 (s.kind==2) (.callP (nN (⟨s.mode,s.srcs⟩:Flt))
(.ret (am (⟨s.mode,s.srcs⟩:Flt).mode (⟨s.mode,s.srcs⟩:Flt).srcs)))
(.br 146 (s.mode != 0) (.ret (1))
(.br 242 (decide (0<((s.srcs.map AV.int).length:Int))) (.ret (1))
(.ret (0))))))))))))))
theorem R0(s:Sig)(ok:Hq s):∃I m,(Hm s I m).vp Ho (aG s):=by
 simp only[Hq,Sig.v,okU,Blk.ok,aU,f']at ok;refine⟨λt=>∃k:Nat,t=k∧k≤5∧∀(j:Nat) x b,j<k→(Il s)[j]?=some x→(P3 (aH s).1)[j]?=some b→mz b x=true,λt=>5-t.toNat,?_⟩;dsimp only[Hm,Hn,Ax.vp,Ax.vc];simp only[vcU,rfU,f'];have hv:-9223372036854775808≤s.ver∧s.ver≤9223372036854775807:=ok.2.2.2.2.1
 refine⟨λe=>?_,λe0=>?_⟩
 ·rw[aG,if_pos (λh=>by rw[sB.mpr h]at e;cases e)]
 have e0:(aH s).2=true:=by simpa using e0
 have hk:=sB.mp e0;have bad:¬(fg s∧bA s)→2=aG s:=λh=>by rw[aG,u' (λh=>h hk),if_pos h]
 refine⟨λe=>bad λh=>?_,λe1=>⟨λe=>bad λh=>?_,λe2=>⟨λe=>bad λh=>?_,λe3=>?_⟩⟩⟩
 ·have:=h.1.1;rw[j2.mpr this]at e;cases e
 ·have:=h.1.2.1;rw[j2.mpr this]at e;cases e
 ·have:=h.1.2.2;simp at e;exact this e
 have e1:=j2.mp (bT' .. ▸ e1:mz ⟨1,99⟩ s.src=true);have e2:=j2.mp (bT' .. ▸ e2:mz ⟨1,99⟩ s.dst=true);have hE:fg s:=⟨e1,e2,by simpa using e3⟩
 refine⟨⟨0,rfl,by omega,λj x b hj=>by omega⟩,?_⟩;rintro _ ⟨k,rfl,hk5,h⟩;simp only[Int.toNat_natCast]
 refine⟨λh1=>⟨by omega,by omega,by simp;omega,λx hx=>⟨by simp;omega,by omega,by simp;omega,λb hb=>⟨λe=>bad λhs=>?_,λe=>?_⟩⟩⟩,λh1=>?_⟩
 ·have:=(wg hv e0).mp hs.2 k x b hx hb;rw[this]at e;cases e
 ·have e:mz b x=true:=by simpa using e
  rw[ao (n:=5) (by omega) (by omega)];refine⟨⟨k+1,rfl,by omega,λj y c hj hy hc=>?_⟩,by omega⟩
  by_cases e':j=k
  ·subst e';have hy:=hy.symm.trans hx;have hc:=hc.symm.trans hb;cases hy;cases hc;exact e
  ·exact h j y c (by omega) hy hc
 have hN:bA s:=(wg hv e0).mpr λj x b hx hb=>h j x b (by have:=aw hx;simp[Il]at this;omega) hx hb;have fin:aG s=if s.kind=2 then am s.mode s.srcs else if s.mode≠0∨s.srcs≠[]then 1 else 0:=by
  rw[aG,u' (λh=>h hk),u' (λh=>h ⟨hE,hN⟩)]
 rw[fin];refine⟨λe=>by rw[if_pos (by simpa using e)],λe=>?_⟩;have e:¬s.kind=2:=by simpa using e
 rw[u' e]
 refine⟨λe=>by rw[if_pos (.inl (by simpa using e))],λe1=>⟨λe=>?_,λe=>?_⟩⟩
 ·rw[if_pos (.inr λh=>by rw[h]at e;simp at e)]
 ·rw[u']
  rintro(h|h)
  ·exact h (by simpa using e1)
  ·exact h (aG' (by omega))
def R1(s:Sig):PC Tryz.prog:=pcO 271 [(.a [.k,.k,.k,.k,.k,.k,.k,.k,.k,(.s 1)])] [Sig.v s] .k Ho (aG s) (λok=>let ⟨I0,m0,h⟩:=R0 s ok;⟨_,h,by kernel_rfl⟩) rfl (by kernel_rfl)
theorem Fq{p:Prop}[Decidable p](h:p):ja p=0:=if_pos h
theorem nT{es:List AV}(h:bM es=true):c9 [es]=true:=by rw[c9,h];rfl
theorem fY{m:Int}{l:List Int}(h:am m l=0):l.length≤99:=by
 unfold am at h
 split at h
 ·cases h
 split at h
 ·cases h
 rename_i hr
 split at h
 ·cases h
 rename_i ha;have hr:=X'.mp hr;have ha:=X'.mp ha;have hp:l.Pairwise λx y=>id x<id y:=mX (key:=id) λj x y hx hy=>jH.mp ha j x y hx hy;exact ng 99 l (hp.imp λh=>Int.ne_of_lt h) λx hx=>by have:=hr x hx;omega
theorem sb{n:Int}{l:List Itm}(h:aK n l):fF l:=⟨by have:=gk h;omega,λx hx=>by have:=fY (h.1 x hx).2.2;omega⟩
theorem ma(a b:Int):orI [a,b]=if a≠0 then a else b:=by
 by_cases h:a=0
 ·by_cases h2:b=0<;>simp[orI,h,h2]
 ·simp[orI,h]
theorem td{n:Int}{l:List Itm}(h:aK n l):Go.Proofs.YtiobpjoadkfhdaaGreatDoor.without 0 l=l:=by
 rw[Go.Proofs.YtiobpjoadkfhdaaGreatDoor.without,bD'];intro x hx;have:=(h.1 x hx).2.1;simp;omega
def rP(s:Spk)(wants:List Wnt):=okL [Spk.v s,.sl 3 (wants.map Wnt.v) false]
def zw(s:Spk)(wants:List Wnt)(t0:Int×List Itm):NF:=⟨[rR 2 0,rR 4 1,rR 7 2,(34,.k,.sl 3 (wants.map Wnt.v) false),rI 35 ((wants.map Wnt.v).length:Int),rI 36 t0.1],[.box (Spk.v s),.box (.agg [.int 0,.int 0,.int 0,.sl 0 [] true,.sl 0 [] true]),.box (.agg [.int s.router,.int (W (s.epoch+1)),.int ((wants.map Wnt.v).length:Int),.vec 3,.sl 0 [] true]),vB 4 Itm.v t0.2 (λ_=>rfl)]⟩
def zu(s:Spk)(wants:List Wnt)(t0:Int×List Itm)(t1:Int×List Per):NF:=⟨[rR 4 0,rR 7 1,(56,.k,.sl 3 (s.peers.map Per.v) false),rI 57 ((s.peers.map Per.v).length:Int),rI 58 t1.1],[.box (.agg [.int 0,.int 0,.int 0,.sl 0 [] true,.sl 0 [] true]),.box (.agg [.int s.router,.int (W (s.epoch+1)),.int ((wants.map Wnt.v).length:Int),.vec 2,.vec 3]),vB 4 Itm.v t0.2 (λ_=>rfl),vB 3 Per.v t1.2 (λ_=>rfl)]⟩
@[reducible] def rN:Nat→Type
 | 0=>Int×List Itm
 | 1=>Int×List Per
 | _=>Unit
def rO(r:Spk×Int):AV:=.tup [Spk.v r.1,.int r.2]
def rM(s:Spk)(wants:List Wnt)(I0:(Int×List Itm)→Prop)(m0:(Int×List Itm)→Nat)(I1:Int×List Itm→(Int×List Per)→Prop)(m1:Int×List Itm→(Int×List Per)→Nat):Ax Tryz.prog rN (Spk×Int):=
 (.callP (yT s)
(.callP (oT wants)
(.callP (vZ [cI s,aI false wants])
(.br 192 ((orI [cI s,aI false wants]) != 0) (.ret ((⟨0,0,0,[],[]⟩:Spk),orI [cI s,aI false wants]))
(.br 240 (s.epoch==1000000) (.ret ((⟨0,0,0,[],[]⟩:Spk),3))
(.cmdL (.nilB 368 3 4) (.loop 0 (zw s wants) I0 m0 (0,[]) [0,16,368,448] λ(t0:Int×List Itm) b0 =>
(.br 20 (decide (t0.1<((wants.map Wnt.v).length:Int))) (.elI 36 Wnt.v wants t0.1 λx1 =>
(.req 244 ((⟨x1.mode,x1.srcs⟩:Flt).srcs.length≤1000000) λh2 =>
(.callP (iQ (⟨x1.mode,x1.srcs⟩:Flt) h2)
(.apX 292 Itm.v t0.2 [(⟨W (t0.1+1),x1.grp,x1.mode,x1.srcs⟩:Itm)] (t0.2.length+1)
(.bk 0 b0 (W (t0.1+1),t0.2++[(⟨W (t0.1+1),x1.grp,x1.mode,x1.srcs⟩:Itm)]) [0,1,2,292])))))
(.cmdL (.nilB 2 4 3) (.loop 1 (zu s wants t0) (I1 t0) (m1 t0) (0,[]) [1,2,3,84] λ(t1:Int×List Per) b1 =>
(.br 20 (decide (t1.1<((s.peers.map Per.v).length:Int))) (.elI 20 Per.v s.peers t1.1 λx3 =>
(.apX 180 Per.v t1.2 [(⟨x3.router,0,0⟩:Per)] (t1.2.length+1)
(.bk 1 b1 (W (t1.1+1),t1.2++[(⟨x3.router,0,0⟩:Per)]) [0,1,2,180])))
(.fz 3 Per.v t1.2 (λ_=>rfl) (.fz 2 Itm.v t0.2 (λ_=>rfl) (.ret ((⟨s.router,W (s.epoch+1),((wants.map Wnt.v).length:Int),t0.2,t1.2⟩:Spk),0)))))))))))))))
theorem E4(s:Spk)(w:List Wnt)(ok:rP s w):∃I0 m0 I1 m1,(rM s w I0 m0 I1 m1).vp rO (restart s w):=by
 simp only[rP,Spk.v,Wnt.v,okU,Blk.ok,aU,f']at ok
 refine⟨λt=>∃k:Nat,t=((k:Int),(w.take k).mapIdx eH)∧k≤w.length,λt=>w.length-t.1.toNat,
  λt0 t=>t0.2=w.mapIdx eH∧∃k:Nat,t=((k:Int),(s.peers.take k).map λp=>⟨p.router,0,0⟩)∧k≤s.peers.length,λ_ t=>s.peers.length-t.1.toNat,?_⟩
 dsimp only[rM,rN,Ax.vp,Ax.vc];simp only[vcU,rfU,f'];rw[ma];by_cases hs:aW s
 case neg=>simp[restart,cI,ja,hs,eG]
 rw[show cI s=0 from Fq hs,u' (by simp)];by_cases hw:aI false w=0
 case neg=>simp[restart,hs,hw,eG]
 have hw':=bx.mp hw
 refine⟨λe=>by simp[hw]at e,λ_=>⟨λe=>?_,λe=>?_⟩⟩
 ·have e:s.epoch=1000000:=by simpa using e
  rw[restart,u' (not_not_intro hs),u' (not_not_intro hw),if_pos e];rfl
 have e:¬s.epoch=1000000:=by simpa using e
 have hse:=hs.2.1;have fin:restart s w=(⟨s.router,s.epoch+1,w.length,w.mapIdx eH,s.peers.map λp=>⟨p.router,0,0⟩⟩,0):=by
  rw[restart,u' (not_not_intro hs),u' (not_not_intro hw),u' e]
 refine⟨⟨0,by simp,by omega⟩,?_⟩;rintro _ ⟨k,rfl,hk⟩;simp only[Int.toNat_natCast]
 refine⟨λh1=>⟨by omega,by omega,λx hx=>⟨by have:=fY (hw'.2.2.1 x (aq hx));show x.srcs.length≤_;omega,?_⟩⟩,λh1=>?_⟩
 ·have hkl:k<w.length:=by omega
  rw[ao (n:=w.length) (by omega) (by omega)];refine⟨by simp;omega,⟨k+1,?_,by omega⟩,by omega⟩;rw[al hx,List.mapIdx_append];simp[eH,aO' hk]
 ·rw[G' (by omega)];refine⟨⟨rfl,0,by simp,by omega⟩,?_⟩;rintro _ ⟨-,k2,rfl,hk2⟩;simp only[Int.toNat_natCast];have hpl:=hs.2.2.2.2.1
  refine⟨λh3=>⟨by omega,by omega,λx hx=>?_⟩,λh3=>?_⟩
  ·rw[ao (n:=s.peers.length) (by omega) (by omega)];refine⟨by simp;omega,⟨trivial,k2+1,?_,by omega⟩,by omega⟩;rw[al hx];simp
  ·rw[G' (by omega),fin,cf (by omega)]
def E5(s:Spk)(wants:List Wnt):PC Tryz.prog:=pcO 167 [(.a [.k,.k,.k,(.s 4),(.s 3)]),(.s 3)] [Spk.v s,.sl 3 (wants.map Wnt.v) false] (.a [(.a [.k,.k,.k,(.s 4),(.s 3)]),.k]) rO (Go.Proofs.YtiobpjoadkfhdaaGreatDoor.restart s wants) (λok=>let ⟨I0,m0,I1,m1,h⟩:=E4 s wants ok;⟨_,h,by kernel_rfl⟩) rfl (by kernel_rfl)
theorem dw.mapSub{w:World}{A:Nat→Prop}{μ:Mu}{hd:Hd}{k:Nat}{es:List AV}{f:AV→AV}(h:∀x,Sub x (f x))(hy:∀x∈es.map f,x.solid=true)(q:dw w A μ hd (.vec k es)):dw w A μ hd (.vec k (es.map f)):=by
 obtain⟨q2,q3⟩:=q;refine⟨q2,?_⟩
 rcases q3 with⟨rfl,q⟩|⟨a1,a2,a3,a4,C,ty,vs,a5,a6,a7,a8⟩
 ·exact .inl ⟨rfl,q⟩
 ·exact .inr ⟨a1,by rw[f'];exact a2,a3,a4,C,ty,vs,a5,RVL.mapSub h a6,hy,a8⟩
def FH(l:List Wnt)(ah:Bool)(t0:Int):NF:=⟨[(0,.k,.sl 3 (l.map Wnt.v) false),rB 1 ah,(16,.k,.sl 3 (l.map Wnt.v) false),rI 17 ((l.map Wnt.v).length:Int),rI 18 t0],[]⟩
def FG(l:List Wnt)(ah:Bool)(t1:Int):NF:=⟨[(0,.k,.sl 3 (l.map Wnt.v) false),rB 1 ah,(31,.k,.sl 3 (l.map Wnt.v) false),rI 32 ((l.map Wnt.v).length:Int),rI 33 t1],[]⟩
def FF(l:List Wnt)(ah:Bool)(t2:Int):NF:=⟨[(0,.k,.sl 3 (l.map Wnt.v) false),rB 1 ah,(44,.k,.sl 3 (l.map Wnt.v) false),rI 45 ((l.map Wnt.v).length:Int),rI 46 t2],[]⟩
def FE(l:List Wnt)(t3:Int):NF:=⟨[(0,.k,.sl 3 (l.map Wnt.v) false),rI 12 t3],[]⟩
@[reducible] def yf:Nat→Type
 | 0=>Int
 | 1=>Int
 | 2=>Int
 | 3=>Int
 | _=>Unit
def yg(r:Int):AV:=.int r
def ye(l:List Wnt)(ah:Bool)(I0:Int→Prop)(m0:Int→Nat)(I1:Int→Int→Prop)(m1:Int→Int→Nat)(I2:Int→Int→Int→Prop)(m2:Int→Int→Int→Nat)(I3:Int→Int→Int→Int→Prop)(m3:Int→Int→Int→Int→Nat):Ax Tryz.prog yf (Int):=
 (.br 64 (decide (32<((l.map Wnt.v).length:Int))) (.ret (3))
(.loop 0 (FH l ah) I0 m0 ((0):Int) [] λ(t0:Int) b0 =>
(.br 16 (decide (t0<((l.map Wnt.v).length:Int))) (.elI 16 Wnt.v l t0 λx1 =>
(.br 144 (decide (x1.grp<1)) (.ret (2))
(.br 208 (decide (99<x1.grp)) (.ret (2))
(.bk 0 b0 ((W (t0+1)):Int) []))))
(.loop 1 (FG l ah) (I1 t0) (m1 t0) ((0):Int) [] λ(t1:Int) b1 =>
(.br 16 (decide (t1<((l.map Wnt.v).length:Int))) (.elI 16 Wnt.v l t1 λx2 =>
(.callP (lC (⟨x2.mode,x2.srcs⟩:Flt))
(.br 176 ((am (⟨x2.mode,x2.srcs⟩:Flt).mode (⟨x2.mode,x2.srcs⟩:Flt).srcs) != 0) (.ret (am (⟨x2.mode,x2.srcs⟩:Flt).mode (⟨x2.mode,x2.srcs⟩:Flt).srcs))
(.bk 1 b1 ((W (t1+1)):Int) []))))
(.loop 2 (FF l ah) (I2 t0 t1) (m2 t0 t1) ((0):Int) [] λ(t2:Int) b2 =>
(.br 16 (decide (t2<((l.map Wnt.v).length:Int))) (.elI 16 Wnt.v l t2 λx3 =>
(.br 128 (!ah) (.callP (fe )
(.callP (iY (⟨x3.mode,x3.srcs⟩:Flt) (⟨1,[]⟩:Flt))
(.br 208 (cE (⟨x3.mode,x3.srcs⟩:Flt) (⟨1,[]⟩:Flt)) (.ret (1))
(.bk 2 b2 ((W (t2+1)):Int) []))))
(.bk 2 b2 ((W (t2+1)):Int) [])))
(.loop 3 (FE l) (I3 t0 t1 t2) (m3 t0 t1 t2) ((1):Int) [] λ(t3:Int) b3 =>
(.br 64 (decide (t3<((l.map Wnt.v).length:Int))) (.elI 112 Wnt.v l (W (t3-1)) λx4 =>
(.elI 192 Wnt.v l t3 λx5 =>
(.br 256 (decide (x5.grp≤x4.grp)) (.ret (25))
(.bk 3 b3 ((W (t3+1)):Int) []))))
(.ret (0)))))))))))
theorem Li(l:List Wnt)(chg:Bool):∃I0 m0 I1 m1 I2 m2 I3 m3,(ye l chg I0 m0 I1 m1 I2 m2 I3 m3).vp yg (aI chg l):=by
 let R:Prop:=∀w∈l,1≤w.grp∧w.grp≤99
 let F:Prop:=∀w∈l,am w.mode w.srcs=0
 let N:Prop:=chg=false→∀w∈l,¬cS w
 refine⟨λt=>∃k:Nat,t=k∧k≤l.length∧∀w∈l.take k,1≤w.grp∧w.grp≤99,λt=>l.length-t.toNat,
  λ_ t=>R∧∃k:Nat,t=k∧k≤l.length∧∀w∈l.take k,am w.mode w.srcs=0,λ_ t=>l.length-t.toNat,
  λ_ _ t=>R∧F∧∃k:Nat,t=k∧k≤l.length∧∀w∈l.take k,chg=false→¬cS w,λ_ _ t=>l.length-t.toNat,
  λ_ _ _ t=>R∧F∧N∧∃k:Nat,t=k∧1≤k∧k≤l.length+1∧∀j x y,j+1<k→l[j]?=some x→l[j+1]?=some y→x.grp<y.grp,λ_ _ _ t=>l.length+1-t.toNat,?_⟩
 dsimp only[ye,yf,Ax.vp,Ax.vc];simp only[vcU,rfU,f'];have hno:∀x:Wnt,cE ⟨x.mode,x.srcs⟩ ⟨1,[]⟩=true↔cS x:=λx=>by simp[cE,cS]
 refine⟨λe=>by rw[aI,if_pos (by omega)],λe0=>⟨⟨0,rfl,by omega,by simp⟩,?_⟩⟩;have e0:¬32<l.length:=by omega
 rintro _ ⟨k,rfl,hk,h⟩;simp only[Int.toNat_natCast]
 refine⟨λh1=>⟨by omega,by omega,λx hx=>?_⟩,λh1=>?_⟩
 ·have bad:¬(1≤x.grp∧x.grp≤99)→2=aI chg l:=λh=>by
   rw[aI,u' e0,if_pos λh'=>h (h' x (aq hx))]
  refine⟨λe=>bad (by omega),λe1=>⟨λe=>bad (by omega),λe2=>?_⟩⟩;rw[ao (n:=l.length) (by omega) (by omega)];exact⟨⟨k+1,rfl,by omega,iA h hx ⟨by omega,by omega⟩⟩,by omega⟩
 rw[G' (by omega)]at h;have hR:R:=h;have w1:aI chg l=if fW l≠0 then fW l else if chg=false∧∃w∈l,cS w then 1 else if ¬(l.Pairwise λx y=>x.grp<y.grp)then 25 else 0:=by
  rw[aI,u' e0,u' (λh=>h hR)]
 clear h h1 hk k;refine⟨⟨hR,0,rfl,by omega,by simp⟩,?_⟩;rintro _ ⟨-,k,rfl,hk,h⟩;simp only[Int.toNat_natCast]
 refine⟨λh1=>⟨by omega,by omega,λx hx=>⟨λe=>?_,λe=>?_⟩⟩,λh1=>?_⟩
 ·have e:am x.mode x.srcs≠0:=by simpa using e
  have:fW l=am x.mode x.srcs:=Ii (f:=λx:Wnt=>am x.mode x.srcs) h hx e;rw[w1,this,if_pos e]
 ·rw[ao (n:=l.length) (by omega) (by omega)];exact⟨⟨hR,k+1,rfl,by omega,iA h hx (by simpa using e)⟩,by omega⟩
 rw[G' (by omega)]at h;have hF:F:=h;have w2:aI chg l=if chg=false∧∃w∈l,cS w then 1 else if ¬(l.Pairwise λx y=>x.grp<y.grp)then 25 else 0:=by
  rw[w1,u' (λhh=>hh (C9 hF))]
 clear h h1 hk k;refine⟨⟨hR,hF,0,rfl,by omega,by simp⟩,?_⟩;rintro _ ⟨-,-,k,rfl,hk,h⟩;simp only[Int.toNat_natCast]
 refine⟨λh1=>⟨by omega,by omega,λx hx=>?_⟩,λh1=>?_⟩
 ·have step:(chg=false→¬cS x)→(R∧F∧∃k':Nat,W ((k:Int)+1)=k'∧k'≤l.length∧∀w∈l.take k',chg=false→¬cS w)∧l.length-(W ((k:Int)+1)).toNat<l.length-k:=by
   intro hs;rw[ao (n:=l.length) (by omega) (by omega)];exact⟨⟨hR,hF,k+1,rfl,by omega,iA h hx hs⟩,by omega⟩
  refine⟨λe=>⟨λe2=>?_,λe2=>step λ_ hn=>?_⟩,λe=>step λhc=>?_⟩
  ·rw[w2,if_pos ⟨by simpa using e,x,aq hx,(hno x).mp e2⟩]
  ·rw[(hno x).mpr hn]at e2;cases e2
  ·simp[hc]at e
 rw[G' (by omega)]at h;have hN:N:=λhc w hw=>h w hw hc;have w3:aI chg l=if ¬(l.Pairwise λx y=>x.grp<y.grp)then 25 else 0:=by
  rw[w2,u' (λ⟨hc,w,hw,hn⟩=>hN hc w hw hn)]
 clear h h1 hk k;refine⟨⟨hR,hF,hN,1,rfl,by omega,by omega,λj x y hj=>by omega⟩,?_⟩;rintro _ ⟨-,-,-,k,rfl,hk1,hk,h⟩
 refine⟨λh1=>?_,λh1=>?_⟩
 ·rw[dX (by omega) hk1];simp only[Int.toNat_natCast]
  refine⟨by omega,by omega,λx hx=>⟨by omega,by omega,λy hy=>⟨λe=>?_,λe=>?_⟩⟩⟩
  ·rw[w3,if_pos];intro hp;have:x.grp<y.grp:=ga hp (show k-1<k by omega) hx hy;omega
  ·rw[ao (n:=l.length) (by omega) (by omega)];refine⟨⟨hR,hF,hN,k+1,rfl,by omega,by omega,λj x' y' hj hx' hy'=>?_⟩,by omega⟩
   by_cases e':j+1=k
   ·subst e';rw[show j+1-1=j by omega,hx']at hx;cases hx;rw[hy']at hy;cases hy;omega
   ·exact h j x' y' (by omega) hx' hy'
 ·rw[w3,u'];exact λhh=>hh (mX λj x y hx hy=>h j x y (by have:=aw hy;omega) hx hy)
def yh(l:List Wnt)(ah:Bool):PC Tryz.prog:=pcO 237 [(.s 3),.k] [.sl 3 (l.map Wnt.v) false,.bool ah] .k yg (aI ah l) (λ_=>let ⟨I0,m0,I1,m1,I2,m2,I3,m3,h⟩:=Li l ah;⟨_,h,by kernel_rfl⟩) rfl (by kernel_rfl)
def Gt(r:Int):AV:=.int r
def yU(l:List Wnt):Ax Tryz.prog noS (Int):=
 (.callP (yh l false)
(.ret (aI false l)))
theorem Rj(l:List Wnt):(yU l).vp Gt (aI false l):=by
 dsimp only[yU,noS,Ax.vp,Ax.vc];simp only[vcU,rfU,f']
def oU(l:List Wnt):PC Tryz.prog:=pcO 135 [(.s 3)] [.sl 3 (l.map Wnt.v) false] .k Gt (aI false l) (λ_=>⟨(yU l),Rj l,by kernel_rfl⟩) rfl (by kernel_rfl)
def D8(l:List Wnt)(group:Int):=okL [.sl 3 (l.map Wnt.v) false,.int group]
def Kk(l:List Wnt)(group:Int)(t0:Int):NF:=⟨[rI 1 group,rR 4 0,(7,.k,.sl 3 (l.map Wnt.v) false),rI 8 ((l.map Wnt.v).length:Int),rI 9 t0],[.box (.agg [.int 0,.sl 0 [] true])]⟩
@[reducible] def D6:Nat→Type
 | 0=>Int
 | _=>Unit
def D7(r:Flt):AV:=Flt.v r
def D5(l:List Wnt)(group:Int)(I0:Int→Prop)(m0:Int→Nat):Ax Tryz.prog D6 (Flt):=
 (.loop 0 (Kk l group) I0 m0 ((0):Int) [0] λ(t0:Int) b0 =>
(.br 17 (decide (t0<((l.map Wnt.v).length:Int))) (.elI 17 Wnt.v l t0 λx1 =>
(.br 145 (x1.grp==group) (.ret ((⟨x1.mode,x1.srcs⟩:Flt)))
(.bk 0 b0 ((W (t0+1)):Int) [0])))
(.callP (fe )
(.ret ((⟨1,[]⟩:Flt))))))
theorem OZ(l:List Wnt)(g:Int)(ok:D8 l g):∃I m,(D5 l g I m).vp D7 (aQ l g):=by
 simp only[D8,Wnt.v,okU,Blk.ok,aU,f']at ok;refine⟨λt=>∃k:Nat,t=k∧k≤l.length∧∀x∈l.take k,decide (x.grp=g)=false,λt=>l.length-t.toNat,?_⟩;dsimp only[D5,D6,Ax.vp,Ax.vc];simp only[vcU,rfU,f'];refine⟨⟨0,rfl,by omega,by simp⟩,?_⟩;rintro _ ⟨k,rfl,hk,h⟩;simp only[Int.toNat_natCast];have h:∀x∈l.take k,decide (x.grp=g)=false:=λx hx=>decide_eq_false (h x hx)
 refine⟨λh1=>⟨by omega,by omega,λx hx=>⟨λe=>?_,λe=>?_⟩⟩,λh1=>?_⟩
 ·rw[aQ,uw h hx (by simpa using e)]
 ·rw[ao (n:=l.length) (by omega) (by omega)];refine⟨⟨k+1,rfl,by omega,?_⟩,by omega⟩;rw[al hx];intro z hz
  rcases L'.mp hz with hz|hz
  ·simpa using h z hz
  ·rw[O']at hz;subst hz;simpa using e
 ·rw[G' (by omega)]at h;rw[aQ,aL'.mpr λx hx=>by rw[h x hx];simp]
def oI(l:List Wnt)(group:Int):PC Tryz.prog:=pcO 238 [(.s 3),.k] [.sl 3 (l.map Wnt.v) false,.int group] (.a [.k,(.s 1)]) D7 (aQ l group) (λok=>let ⟨I0,m0,h⟩:=OZ l group ok;⟨_,h,by kernel_rfl⟩) rfl (by kernel_rfl)
def Lb(old:List Wnt)(new:List Wnt)(t0:Int×List Wnt):NF:=⟨[(0,.k,.sl 3 (old.map Wnt.v) false),(1,.k,.sl 3 (new.map Wnt.v) false),rV 8 0,rI 9 t0.1],[vB 3 Wnt.v t0.2 (λ_=>rfl)]⟩
@[reducible] def DL:Nat→Type
 | 0=>Int×List Wnt
 | _=>Unit
def DM(r:List Wnt×Int):AV:=.tup [.sl 3 (r.1.map Wnt.v) false,.int r.2]
def DK(old:List Wnt)(new:List Wnt)(I0:(Int×List Wnt)→Prop)(m0:(Int×List Wnt)→Nat):Ax Tryz.prog DL (List Wnt×Int):=
 (.callP (oU old)
(.br 112 ((aI false old) != 0) (.ret ([],aI false old))
(.callP (oU new)
(.br 192 ((aI false new) != 0) (.ret ([],aI false new))
(.cmdL (.nilT 8 3) (.loop 0 (Lb old new) I0 m0 (1,[]) [224] λ(t0:Int×List Wnt) b0 =>
(.br 33 (decide (t0.1≤99)) (.callP (oI new t0.1)
(.callP (oI old t0.1)
(.callP (iY (aQ new t0.1) (aQ old t0.1))
(.br 209 (!(cE (aQ new t0.1) (aQ old t0.1))) (.apX 289 Wnt.v t0.2 [(⟨t0.1,(aQ new t0.1).mode,(aQ new t0.1).srcs⟩:Wnt)] (t0.2.length+1)
(.bk 0 b0 (W (t0.1+1),t0.2++[(⟨t0.1,(aQ new t0.1).mode,(aQ new t0.1).srcs⟩:Wnt)]) [289]))
(.bk 0 b0 (W (t0.1+1),t0.2) [0])))))
(.br 81 (decide (32<((t0.2.map Wnt.v).length:Int))) (.ret ([],3))
(.fz 0 Wnt.v t0.2 (λ_=>rfl) (.ret (t0.2,0)))))))))))
theorem Pq(a b:List Wnt):∃I m,(DK a b I m).vp DM (ah a b):=by
 refine⟨λt=>∃k:Nat,t=(((k+1:Nat):Int),bZ a b k)∧k≤99,λt=>100-t.1.toNat,?_⟩;dsimp only[DK,DL,Ax.vp,Ax.vc];simp only[vcU,rfU,f'];by_cases h1:aI false a=0
 case neg=>simp[ah,h1]
 by_cases h2:aI false b=0
 case neg=>simp[ah,h1,h2]
 have e:ah a b=if 32<(bZ a b 99).length then([],3)else(bZ a b 99,0):=by
  rw[ah,u' (not_not_intro h1),u' (not_not_intro h2)]
 refine⟨λc=>by simp[h1]at c,λ_=>⟨λc=>by simp[h2]at c,λ_=>⟨⟨0,rfl,by omega⟩,?_⟩⟩⟩;rintro _ ⟨k,rfl,hk⟩;have hl:=lk a b k
 refine⟨λc=>?_,λc=>?_⟩
 ·have c:k<99:=by simp only at c;omega
  simp only[ao (k:=k+1) (n:=100) (by omega) (by omega)]
  refine⟨λd=>⟨by omega,⟨k+1,?_,by omega⟩,by omega⟩,λd=>⟨⟨k+1,?_,by omega⟩,by omega⟩⟩
  ·rw[bZ,oj,u' (by simpa[cE]using d)];rfl
  ·rw[bZ,oj,if_pos (by simpa[cE]using d),az']
 ·have c:k=99:=by simp only at c;omega
  subst c;rw[e];simp only;refine⟨λd=>by rw[if_pos (by omega)],λd=>by rw[u' (by omega)]⟩
def Pr(old:List Wnt)(new:List Wnt):PC Tryz.prog:=pcO 136 [(.s 3),(.s 3)] [.sl 3 (old.map Wnt.v) false,.sl 3 (new.map Wnt.v) false] (.a [(.s 3),.k]) DM (ah old new) (λ_=>let ⟨I0,m0,h⟩:=Pq old new;⟨_,h,by kernel_rfl⟩) rfl (by kernel_rfl)
end Go.Proofs.YtiobpjoadkfhdaaGreatDoor
