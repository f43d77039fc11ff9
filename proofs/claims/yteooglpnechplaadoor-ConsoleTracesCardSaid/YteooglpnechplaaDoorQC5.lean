/- Texts joined: P3 P6 TZ P4 St C0 C1 C2 V1 C3 TP1 TP2 D2 D3. -/
import Derived.Shelf.Spec.TrailingZeros
import Derived.Shelf.Strings.Builder1
import Derived.Shelf.Strings.Builder2
import Derived.Shelf.Strings.OnBuilder
import Derived.Shelf.LaysM
import Derived.Shelf.Strconv.Itoa3
import Derived.Test.YteooglpnechplaaDoorProg
import Derived.Lib.ItoaLen
import Derived.Below
import Derived.Test.YteooglpnechplaaDoorQC4
set_option linter.unusedVariables false
set_option linter.unusedSimpArgs false
namespace Go.Proofs.YteooglpnechplaaDoor
open Go Go.Am
structure Crs where
  frm:Int
  to:Int
  bits:Int
  deriving DecidableEq
structure Los where
  router:Int
  bits:Int
  deriving DecidableEq
structure Dlr where
  router:Int
  mode:Int
  sub:Int
  set:Int
  len:Int
  ttl:Int
  ent:Int
  ing:Int
  proto:Int
  bits:Int
  pay:ByteArray
  deriving DecidableEq
structure Trc where
  dl:List Dlr
  cr:List Crs
  lo:List Los
  deriving DecidableEq
structure Cpy where
  to:Int
  route:List Int
  mode:Int
  sub:Int
  set:Int
  len:Int
  ttl:Int
  ent:Int
  ing:Int
  proto:Int
  bits:Int
  pay:ByteArray
  deriving DecidableEq
structure Out where
  local_:Int
  lost:Int
  copies:List Cpy
  deriving DecidableEq
structure AtP where
  router:Int
  mode:Int
  sub:Int
  set:Int
  len:Int
  ttl:Int
  ent:Int
  ing:Int
  proto:Int
  bits:Int
  pay:ByteArray
  deriving DecidableEq
def Crs.v(x:Crs):AV:=.agg [.int x.frm,.int x.to,.val (.int .u64 x.bits)]
def Los.v(x:Los):AV:=.agg [.int x.router,.val (.int .u64 x.bits)]
def Dlr.v(x:Dlr):AV:=.agg [.int x.router,.int x.mode,.int x.sub,.int x.set,.int x.len,.int x.ttl,.int x.ent,.int x.ing,.int x.proto,.val (.int .u64 x.bits),.str x.pay]
def AtP.v(x:AtP):AV:=.agg [.int x.router,.int x.mode,.int x.sub,.int x.set,.int x.len,.int x.ttl,.int x.ent,.int x.ing,.int x.proto,.val (.int .u64 x.bits),.str x.pay]
def Cpy.v(x:Cpy):AV:=.agg [.int x.to,.sl 1 (x.route.map AV.int) false,.int x.mode,.int x.sub,.int x.set,.int x.len,.int x.ttl,.int x.ent,.int x.ing,.int x.proto,.val (.int .u64 x.bits),.str x.pay]
def Trc.v(x:Trc):AV:=.agg [.sl 11 (x.dl.map Dlr.v) false,.sl 3 (x.cr.map Crs.v) false,.sl 2 (x.lo.map Los.v) false]
def Out.v(x:Out):AV:=.agg [.val (.int .u64 x.local_),.val (.int .u64 x.lost),.sl 12 (x.copies.map Cpy.v) false]
def sui31(e:Eng)(p:Pkt):Int:=if p.mode≠2 then 7 else if p.len≠e.len then 8 else 0
def sui31_a(e:Eng)(p:Pkt):Prop:=okL [.agg [.int e.len,.sl 4 (e.list.map Adj.v) false],.agg [.int p.mode,.int p.sub,.int p.set,.int p.len,.int p.ttl,.int p.ent,.int p.ing,.int p.proto,.val (.int .u64 p.bits),.str p.pay]]
def sui31_e(r:Int):AV:=.int r
def sui31_x(e:Eng)(p:Pkt):Ax Tryd.prog noS (Int):=
 (.br 96 (p.mode != 2) (.ret (7))
(.br 176 (p.len != e.len) (.ret (8))
(.ret (0))))
def sui31_vc(e:Eng)(p:Pkt)(r0:Int):Prop:=(sui31_x e p).vp sui31_e r0
theorem sui31_p(e:Eng)(p:Pkt)(ok:sui31_a e p):sui31_vc e p (sui31 e p):=by
 dsimp only[sui31_vc,sui31_x,noS,Ax.vp,Ax.vc];simp only[vcU,rfU,List.length_map]
 refine⟨λc=>?_,λc=>⟨λd=>?_,λd=>?_⟩⟩
 ·rw[sui31,if_pos (by simpa using c)]
 ·rw[sui31,if_neg (by simpa using c),if_pos (by simpa using d)]
 ·rw[sui31,if_neg (by simpa using c),if_neg (by simpa using d)]
def sui31_c(e:Eng)(p:Pkt):PC Tryd.prog:=⟨55,[(.a [.k,(.s 4)]),.k],[.agg [.int e.len,.sl 4 (e.list.map Adj.v) false],.agg [.int p.mode,.int p.sub,.int p.set,.int p.len,.int p.ttl,.int p.ent,.int p.ing,.int p.proto,.val (.int .u64 p.bits),.str p.pay]],sui31_e (sui31 e p),PSpec.of_ok λok=>mxP_of (sh:=.k) (enc:=sui31_e) (a:=(sui31_x e p).an) (sui31_p e p ok) (by kernel_rfl) (AV.pureB_ok rfl),fnB_ok (by kernel_rfl)⟩
def restB(e:Eng)(r:Int)(p:Pkt):Int:=bAndn .u64 p.bits (own30 e r)
def cpyA(e:Eng)(r:Int)(p:Pkt)(a:Adj)(ro:List Int):Cpy:=⟨a.to,ro,p.mode,p.sub,p.set,p.len,W (p.ttl-1),p.ent,p.ing,p.proto,restB e r p,p.pay⟩
def fwdA(e:Eng)(r:Int)(p:Pkt)(o:Out)(a:Adj):Out:=
 if a.router≠r∨bAnd .u64 p.bits (shlA a.bit)=0 then o
 else if a.kind=3 then⟨bOr .u64 o.local_ (shlA a.bit),o.lost,o.copies⟩
 else if p.ttl=0 then⟨o.local_,bOr .u64 o.lost (shlA a.bit),o.copies⟩
 else if restB e r p≠0 then(if a.kind=2 then⟨o.local_,o.lost,o.copies++[cpyA e r p a [a.to]]⟩else⟨o.local_,o.lost,o.copies++[cpyA e r p a []]⟩)else o
def fwd31(e:Eng)(r:Int)(p:Pkt):Out×Int:=
 if vEng e≠0∨pktB p=false then(⟨0,0,[]⟩,1)else if sui31 e p≠0 then(⟨0,0,[]⟩,sui31 e p)else(e.list.foldl (fwdA e r p) ⟨0,0,[]⟩,0)
theorem fwdA_len{e:Eng}{r:Int}{p:Pkt}{o:Out}{a:Adj}:(fwdA e r p o a).copies.length≤o.copies.length+1:=by
 unfold fwdA
 repeat' split
 all_goals simp
theorem fold_fwd_len{e:Eng}{r:Int}{p:Pkt}:∀{l:List Adj} {o:Out},(l.foldl (fwdA e r p) o).copies.length≤o.copies.length+l.length
 | [],o=>by simp
 | a::l,o=>by
  have h1:=fold_fwd_len (e:=e) (r:=r) (p:=p) (l:=l) (o:=fwdA e r p o a)
  have h2:=fwdA_len (e:=e) (r:=r) (p:=p) (o:=o) (a:=a)
  rw[List.foldl_cons,List.length_cons];omega
theorem fwd31_len(e:Eng)(r:Int)(p:Pkt):(fwd31 e r p).1.copies.length≤e.list.length:=by
 unfold fwd31
 split
 ·simp
 split
 ·simp
 ·have:=fold_fwd_len (e:=e) (r:=r) (p:=p) (l:=e.list) (o:=⟨0,0,[]⟩)
  simpa using this
def fwd31_a(e:Eng)(router:Int)(p:Pkt):Prop:=okL [.agg [.int e.len,.sl 4 (e.list.map Adj.v) false],.int router,.agg [.int p.mode,.int p.sub,.int p.set,.int p.len,.int p.ttl,.int p.ent,.int p.ing,.int p.proto,.val (.int .u64 p.bits),.str p.pay]]
def fwd31_n0(e:Eng)(router:Int)(p:Pkt)(t0:Bool):NF:=⟨[(1,.k,.int router),(3,.k,.ref 0 0),(5,.k,.ref 1 0),(6,.k,.ref 2 0),(22,.k,.bool t0)],[.box (.agg [.int e.len,.sl 4 (e.list.map Adj.v) false]),.box (.agg [.int p.mode,.int p.sub,.int p.set,.int p.len,.int p.ttl,.int p.ent,.int p.ing,.int p.proto,.val (.int .u64 p.bits),.str p.pay]),.box (.agg [.val (.int .u64 0),.val (.int .u64 0),.sl 0 [] true])]⟩
def fwd31_n1(e:Eng)(router:Int)(p:Pkt)(t1:Int×Int×Int×(List Cpy)):NF:=⟨[(1,.k,.int router),(5,.k,.ref 0 0),(6,.k,.ref 1 0),(9,.k,.ref 2 0),(10,.k,.val (.int .u64 (bAndn .u64 p.bits (own30 e router)))),(38,.k,.sl 4 (e.list.map Adj.v) false),(39,.k,.int ((e.list.map Adj.v).length:Int)),(40,.k,.int t1.1)],[.box (.agg [.int p.mode,.int p.sub,.int p.set,.int p.len,.int p.ttl,.int p.ent,.int p.ing,.int p.proto,.val (.int .u64 p.bits),.str p.pay]),.box (.agg [.val (.int .u64 0),.val (.int .u64 0),.sl 0 [] true]),.box (.agg [.val (.int .u64 t1.2.1),.val (.int .u64 t1.2.2.1),.vec 3]),.vec 12 (t1.2.2.2.map Cpy.v) (pureBL_map (λ_=>rfl) t1.2.2.2)]⟩
def fwd31_n2(e:Eng)(router:Int)(p:Pkt)(t1:Int×Int×Int×(List Cpy))(x1:Adj)(t2:Bool):NF:=⟨[(1,.k,.int router),(5,.k,.ref 0 0),(6,.k,.ref 1 0),(9,.k,.ref 2 0),(10,.k,.val (.int .u64 (bAndn .u64 p.bits (own30 e router)))),(12,.k,.ref 4 0),(13,.k,.val (.int .u64 (shlI .u64 1 (IntKind.u64.wrap x1.bit)))),(38,.k,.sl 4 (e.list.map Adj.v) false),(39,.k,.int ((e.list.map Adj.v).length:Int)),(40,.k,.int t1.1),(58,.k,.bool t2)],[.box (.agg [.int p.mode,.int p.sub,.int p.set,.int p.len,.int p.ttl,.int p.ent,.int p.ing,.int p.proto,.val (.int .u64 p.bits),.str p.pay]),.box (.agg [.val (.int .u64 0),.val (.int .u64 0),.sl 0 [] true]),.box (.agg [.val (.int .u64 t1.2.1),.val (.int .u64 t1.2.2.1),.vec 3]),.vec 12 (t1.2.2.2.map Cpy.v) (pureBL_map (λ_=>rfl) t1.2.2.2),.box (.agg [.int x1.bit,.int x1.router,.int x1.kind,.int x1.to])]⟩
@[reducible] def fwd31_s:Nat→Type
 | 0=>Bool
 | 1=>Int×Int×Int×(List Cpy)
 | 2=>Bool
 | _=>Unit
def fwd31_e(r:Out×Int):AV:=.tup [Out.v r.1,.int r.2]
def fwd31_x(e:Eng)(router:Int)(p:Pkt)(I0:Bool→Prop)(I1:Bool→(Int×Int×Int×(List Cpy))→Prop)(m1:Bool→(Int×Int×Int×(List Cpy))→Nat)(I2:Bool→Int×Int×Int×(List Cpy)→Adj→Bool→Prop):Ax Tryd.prog fwd31_s (Out×Int):=
 (.pass (.pass (.join 0 (fwd31_n0 e router p) (λ(t0:Bool)=>I0 t0) (λb0=>(.callP (vEng_c e)
(.br 128 ((vEng e) != 0) (.bk 0 b0 ((true):Bool) [0,16,32])
(.callP (vpkR_c p)
(.bk 0 b0 ((!(pktB p)):Bool) [0,16,32]))))) λ(t0:Bool) =>
(.br 3 t0 (.ret ((⟨0,0,[]⟩:Out),1))
(.callP (sui31_c e p)
(.br 99 ((sui31 e p) != 0) (.ret ((⟨0,0,[]⟩:Out),sui31 e p))
(.callP (own30_c e router)
(.cmdL (.nilB 99 2 12) (.loop 1 (fwd31_n1 e router p) (I1 t0) (m1 t0) (0,0,0,[]) [1,2,99,291] λ(t1:Int×Int×Int×(List Cpy)) b1 =>
(.br 20 (decide (t1.1<((e.list.map Adj.v).length:Int))) (.el 20 Adj.v e.list (λR=>Rf (e.list.map Adj.v) (ck (decide (0≤t1.1)) (ck (decide (t1.1<(e.list.length:Int)))
(∀x1,e.list[t1.1.toNat]?=some x1 →
(R x1))))) λx1 =>
(.pass (.say (ck (decide (0≤(IntKind.u64.wrap x1.bit)))) (.pass (.join 2 (fwd31_n2 e router p t1 x1) (λ(t2:Bool)=>I2 t0 t1 x1 t2) (λb2=>(.br 244 (x1.router != router) (.bk 2 b2 ((true):Bool) [0,1,2,3,52])
(.bk 2 b2 (((bAnd .u64 p.bits (shlI .u64 1 (IntKind.u64.wrap x1.bit)))==0):Bool) [0,1,2,3,52]))) λ(t2:Bool) =>
(.br 5 t2 (.bk 1 b1 (W (t1.1+1),t1.2.1,t1.2.2.1,t1.2.2.2) [0,1,2,3])
(.br 69 (x1.kind==3) (.bk 1 b1 (W (t1.1+1),bOr .u64 t1.2.1 (shlI .u64 1 (IntKind.u64.wrap x1.bit)),t1.2.2.1,t1.2.2.2) [0,1,2,3])
(.br 133 (p.ttl==0) (.bk 1 b1 (W (t1.1+1),t1.2.1,bOr .u64 t1.2.2.1 (shlI .u64 1 (IntKind.u64.wrap x1.bit)),t1.2.2.2) [0,1,2,3])
(.br 181 ((bAndn .u64 p.bits (own30 e router)) != 0) (.br 565 (x1.kind==2) (.say (λR=>Idt (t1.2.2.2.map Cpy.v) (Rf (α:=List AV) [.agg [.int x1.to,.sl 1 [.int x1.to] true,.int p.mode,.int p.sub,.int p.set,.int p.len,.int (W (p.ttl-1)),.int p.ent,.int p.ing,.int p.proto,.val (.int .u64 (bAndn .u64 p.bits (own30 e router))),.str p.pay]]
(ck (decide ((t1.2.2.2.map Cpy.v).length+1≤1048576))
R))) (.app 725 (λy:AV=>y) (t1.2.2.2.map Cpy.v) [.agg [.int x1.to,.sl 1 [.int x1.to] true,.int p.mode,.int p.sub,.int p.set,.int p.len,.int (W (p.ttl-1)),.int p.ent,.int p.ing,.int p.proto,.val (.int .u64 (bAndn .u64 p.bits (own30 e router))),.str p.pay]]
(.say (λR=>FitE (.a [.k,(.s 1),.k,.k,.k,.k,.k,.k,.k,.k,.k,.k]) Cpy.v t1.2.2.2 [(⟨x1.to,[x1.to],p.mode,p.sub,p.set,p.len,W (p.ttl-1),p.ent,p.ing,p.proto,bAndn .u64 p.bits (own30 e router),p.pay⟩:Cpy)] [.agg [.int x1.to,.sl 1 [.int x1.to] true,.int p.mode,.int p.sub,.int p.set,.int p.len,.int (W (p.ttl-1)),.int p.ent,.int p.ing,.int p.proto,.val (.int .u64 (bAndn .u64 p.bits (own30 e router))),.str p.pay]] ∧
R) (.cmd (.wkV 725 (.a [.k,(.s 1),.k,.k,.k,.k,.k,.k,.k,.k,.k,.k]) Cpy.v (t1.2.2.2++[(⟨x1.to,[x1.to],p.mode,p.sub,p.set,p.len,W (p.ttl-1),p.ent,p.ing,p.proto,bAndn .u64 p.bits (own30 e router),p.pay⟩:Cpy)])) (.bk 1 b1 (W (t1.1+1),t1.2.1,t1.2.2.1,t1.2.2.2++[(⟨x1.to,[x1.to],p.mode,p.sub,p.set,p.len,W (p.ttl-1),p.ent,p.ing,p.proto,bAndn .u64 p.bits (own30 e router),p.pay⟩:Cpy)]) [0,1,2,725])))))
(.say (λR=>Idt (t1.2.2.2.map Cpy.v) (Rf (α:=List AV) [.agg [.int x1.to,.sl 0 [] true,.int p.mode,.int p.sub,.int p.set,.int p.len,.int (W (p.ttl-1)),.int p.ent,.int p.ing,.int p.proto,.val (.int .u64 (bAndn .u64 p.bits (own30 e router))),.str p.pay]]
(ck (decide ((t1.2.2.2.map Cpy.v).length+1≤1048576))
R))) (.app 629 (λy:AV=>y) (t1.2.2.2.map Cpy.v) [.agg [.int x1.to,.sl 0 [] true,.int p.mode,.int p.sub,.int p.set,.int p.len,.int (W (p.ttl-1)),.int p.ent,.int p.ing,.int p.proto,.val (.int .u64 (bAndn .u64 p.bits (own30 e router))),.str p.pay]]
(.say (λR=>FitE (.a [.k,(.s 1),.k,.k,.k,.k,.k,.k,.k,.k,.k,.k]) Cpy.v t1.2.2.2 [(⟨x1.to,[],p.mode,p.sub,p.set,p.len,W (p.ttl-1),p.ent,p.ing,p.proto,bAndn .u64 p.bits (own30 e router),p.pay⟩:Cpy)] [.agg [.int x1.to,.sl 0 [] true,.int p.mode,.int p.sub,.int p.set,.int p.len,.int (W (p.ttl-1)),.int p.ent,.int p.ing,.int p.proto,.val (.int .u64 (bAndn .u64 p.bits (own30 e router))),.str p.pay]] ∧
R) (.cmd (.wkV 629 (.a [.k,(.s 1),.k,.k,.k,.k,.k,.k,.k,.k,.k,.k]) Cpy.v (t1.2.2.2++[(⟨x1.to,[],p.mode,p.sub,p.set,p.len,W (p.ttl-1),p.ent,p.ing,p.proto,bAndn .u64 p.bits (own30 e router),p.pay⟩:Cpy)])) (.bk 1 b1 (W (t1.1+1),t1.2.1,t1.2.2.1,t1.2.2.2++[(⟨x1.to,[],p.mode,p.sub,p.set,p.len,W (p.ttl-1),p.ent,p.ing,p.proto,bAndn .u64 p.bits (own30 e router),p.pay⟩:Cpy)]) [0,1,2,629]))))))
(.bk 1 b1 (W (t1.1+1),t1.2.1,t1.2.2.1,t1.2.2.2) [0,1,2,3]))))))))))
(.say (Rf (t1.2.2.2.map Cpy.v)) (.cmdL (.frzE 3 (t1.2.2.2.map Cpy.v) (pureBL_map (λ_=>rfl) t1.2.2.2)) (.ret ((⟨t1.2.1,t1.2.2.1,t1.2.2.2⟩:Out),0))))))))))))))
def fwd31_vc(e:Eng)(router:Int)(p:Pkt)(I0:Bool→Prop)(I1:Bool→(Int×Int×Int×(List Cpy))→Prop)(m1:Bool→(Int×Int×Int×(List Cpy))→Nat)(I2:Bool→Int×Int×Int×(List Cpy)→Adj→Bool→Prop)(r0:Out×Int):Prop:=(fwd31_x e router p I0 I1 m1 I2).vp fwd31_e r0
theorem fwd31_p(e:Eng)(r:Int)(p:Pkt)(h:e.list.length≤1000)(ok:fwd31_a e r p):∃I0 I1 m1 I2,fwd31_vc e r p I0 I1 m1 I2 (fwd31 e r p):=by
 refine⟨λb=>b=decide (vEng e≠0∨pktB p=false),λ_ t=>ForG e.list (fwdA e r p) ⟨0,0,[]⟩ t.1 ⟨t.2.1,t.2.2.1,t.2.2.2⟩,λ_ t=>e.list.length-t.1.toNat,λ_ _ a b=>b=decide (a.router≠r∨bAnd .u64 p.bits (shlA a.bit)=0),?_⟩
 dsimp only[fwd31_vc,fwd31_x,fwd31_s,Ax.vp,Ax.vc];simp only[vcU,rfU,List.length_map]
 refine⟨⟨λc=>?_,λc=>?_⟩,?_⟩
 ·have c:vEng e≠0:=by simpa using c
  simp[c]
 ·have c:vEng e=0:=by simpa using c
  cases pktB p<;>simp[c]
 rintro _ rfl
 refine⟨λc=>by rw[fwd31,if_pos (of_decide_eq_true c)],λc=>⟨λd=>?_,λd=>⟨ForG.zero,?_⟩⟩⟩
 ·rw[fwd31,if_neg (of_decide_eq_false c),if_pos (by simpa using d)]
 rintro⟨i,lo,ls,cp⟩ g
 simp only at g ⊢
 have hlen:=g.len (f:=λo=>o.copies.length) (a:=0) (b:=1) (by simp) λs x _=>fwdA_len
 simp only at hlen
 have h0:=g.idx
 refine⟨λq=>⟨h0,q,λa ha=>⟨wrap_nn _,⟨λq1=>?_,λq1=>?_⟩,?_⟩⟩,λq=>?_⟩
 ·have q1:a.router≠r:=by simpa using q1
  simp[q1]
 ·have q1:a.router=r:=by simpa using q1
  rw[Bool.eq_iff_iff];simp[q1,shlA]
 ·rintro _ rfl
  refine⟨λq1=>g.step (by omega) ha (by rw[fwdA,if_pos (of_decide_eq_true q1)]),λq1=>?_⟩
  have q1:=of_decide_eq_false q1
  refine⟨λq2=>g.step (by omega) ha (by rw[fwdA,if_neg q1,if_pos (eq_of_beq q2)];rfl),λq2=>?_⟩
  have q2:¬a.kind=3:=by simpa using q2
  refine⟨λq3=>g.step (by omega) ha (by rw[fwdA,if_neg q1,if_neg q2,if_pos (eq_of_beq q3)];rfl),λq3=>?_⟩
  have q3:¬p.ttl=0:=by simpa using q3
  refine⟨λq4=>?_,λq4=>?_⟩
  ·have q4:restB e r p≠0:=by unfold restB;simpa using q4
   refine⟨λq5=>⟨by omega,fitE_one (λ_=>rfl) rfl,g.step (by omega) ha (by rw[fwdA,if_neg q1,if_neg q2,if_neg q3,if_pos q4,if_pos (eq_of_beq q5)];rfl)⟩,λq5=>⟨by omega,fitE_one (λ_=>rfl) rfl,g.step (by omega) ha (by rw[fwdA,if_neg q1,if_neg q2,if_neg q3,if_pos q4,if_neg (by simpa using q5)];rfl)⟩⟩
  ·have q4:¬restB e r p≠0:=by unfold restB;simpa using q4
   exact g.step (by omega) ha (by rw[fwdA,if_neg q1,if_neg q2,if_neg q3,if_neg q4])
 ·rw[fwd31,if_neg (of_decide_eq_false c),if_neg (by simpa using d),←g.done q]
def fwd31_c(e:Eng)(router:Int)(p:Pkt)(h:e.list.length≤1000):PC Tryd.prog:=⟨56,[(.a [.k,(.s 4)]),.k,.k],[.agg [.int e.len,.sl 4 (e.list.map Adj.v) false],.int router,.agg [.int p.mode,.int p.sub,.int p.set,.int p.len,.int p.ttl,.int p.ent,.int p.ing,.int p.proto,.val (.int .u64 p.bits),.str p.pay]],fwd31_e (fwd31 e router p),PSpec.of_ok λok=>(fwd31_p e router p h ok).elim λI0 h=>h.elim λI1 h=>h.elim λm1 h=>h.elim λI2 h=>mxP_of (sh:=(.a [(.a [.k,.k,(.s 12)]),.k])) (enc:=fwd31_e) (a:=(fwd31_x e router p I0 I1 m1 I2).an) h (by kernel_rfl) (AV.pureB_ok rfl),fnB_ok (by kernel_rfl)⟩
def dlvK(r b:Int)(p:Pkt)(k:Nat):List Dlr:=if(bAnd .u64 (shrI .u64 b (IntKind.u64.wrap (k:Int))) 1==1)=true then [⟨r,p.mode,p.sub,p.set,p.len,p.ttl,p.ent,p.ing,p.proto,shlI .u64 1 (IntKind.u64.wrap (k:Int)),p.pay⟩]else []
def dlv31(r b:Int)(p:Pkt):List Dlr:=(List.range 64).flatMap (dlvK r b p)
theorem rangeX_len{β:Type}{f:Nat→List β}(h:∀k,(f k).length≤1):∀n,((List.range n).flatMap f).length≤n
 | 0=>by simp
 | n+1=>by
  have:=rangeX_len h n
  have:=h n
  rw[List.range_succ,List.flatMap_append,List.length_append,List.flatMap_cons,List.flatMap_nil,List.append_nil];omega
theorem dlvK_len(r b:Int)(p:Pkt)(k:Nat):(dlvK r b p k).length≤1:=by unfold dlvK;split<;>simp
theorem dlv31_len(r b:Int)(p:Pkt):(dlv31 r b p).length≤64:=rangeX_len (dlvK_len r b p) 64
def dlv31_a(router:Int)(bits:Int)(p:Pkt):Prop:=okL [.int router,.val (.int .u64 bits),.agg [.int p.mode,.int p.sub,.int p.set,.int p.len,.int p.ttl,.int p.ent,.int p.ing,.int p.proto,.val (.int .u64 p.bits),.str p.pay]]
def dlv31_n0(router:Int)(bits:Int)(p:Pkt)(t0:Int×(List Dlr)):NF:=⟨[(0,.k,.int router),(1,.k,.val (.int .u64 bits)),(5,.k,.ref 0 0),(7,.k,.vec 1),(8,.k,.int t0.1)],[.box (.agg [.int p.mode,.int p.sub,.int p.set,.int p.len,.int p.ttl,.int p.ent,.int p.ing,.int p.proto,.val (.int .u64 p.bits),.str p.pay]),.vec 11 (t0.2.map Dlr.v) (pureBL_map (λ_=>rfl) t0.2)]⟩
@[reducible] def dlv31_s:Nat→Type
 | 0=>Int×(List Dlr)
 | _=>Unit
def dlv31_e(r:(List Dlr)):AV:=.sl 11 (r.map Dlr.v) false
def dlv31_x(router:Int)(bits:Int)(p:Pkt)(I0:(Int×(List Dlr))→Prop)(m0:(Int×(List Dlr))→Nat):Ax Tryd.prog dlv31_s ((List Dlr)):=
 (.cmdL (.nilT 7 11) (.loop 0 (dlv31_n0 router bits p) I0 m0 (0,[]) [0,64] λ(t0:Int×(List Dlr)) b0 =>
(.br 34 (decide (t0.1<64)) (.say (ck (decide (0≤(IntKind.u64.wrap t0.1)))) (.br 130 ((bAnd .u64 (shrI .u64 bits (IntKind.u64.wrap t0.1)) 1)==1) (.say (λR=>ck (decide (0≤(IntKind.u64.wrap t0.1)))
((Rf (α:=List AV) (t0.2.map Dlr.v) (Rf (α:=List AV) [.agg [.int router,.int p.mode,.int p.sub,.int p.set,.int p.len,.int p.ttl,.int p.ent,.int p.ing,.int p.proto,.val (.int .u64 (shlI .u64 1 (IntKind.u64.wrap t0.1))),.str p.pay]]
(ck (decide (t0.2.length+1≤1048576))
R))))) (.app 338 Dlr.v t0.2 [(⟨router,p.mode,p.sub,p.set,p.len,p.ttl,p.ent,p.ing,p.proto,shlI .u64 1 (IntKind.u64.wrap t0.1),p.pay⟩:Dlr)]
(.bk 0 b0 (W (t0.1+1),t0.2++[(⟨router,p.mode,p.sub,p.set,p.len,p.ttl,p.ent,p.ing,p.proto,shlI .u64 1 (IntKind.u64.wrap t0.1),p.pay⟩:Dlr)]) [0,338])))
(.bk 0 b0 (W (t0.1+1),t0.2) [0,1])))
(.say (Rf (t0.2.map Dlr.v)) (.cmdL (.frzE 1 (t0.2.map Dlr.v) (pureBL_map (λ_=>rfl) t0.2)) (.ret (t0.2)))))))
def dlv31_vc(router:Int)(bits:Int)(p:Pkt)(I0:(Int×(List Dlr))→Prop)(m0:(Int×(List Dlr))→Nat)(r0:(List Dlr)):Prop:=(dlv31_x router bits p I0 m0).vp dlv31_e r0
theorem dlv31_p(r b:Int)(p:Pkt)(ok:dlv31_a r b p):∃I m,dlv31_vc r b p I m (dlv31 r b p):=by
 refine⟨λt=>∃k:Nat,t.1=k∧k≤64∧t.2=(List.range k).flatMap (dlvK r b p),λt=>64-t.1.toNat,?_⟩
 dsimp only[dlv31_vc,dlv31_x,dlv31_s,Ax.vp,Ax.vc];simp only[vcU,rfU,List.length_map]
 refine⟨⟨0,rfl,by omega,rfl⟩,?_⟩
 rintro⟨_,_⟩ ⟨k,rfl,hk,rfl⟩
 simp only
 have hl:=rangeX_len (dlvK_len r b p) k
 have e1:(List.range (k+1)).flatMap (dlvK r b p)=(List.range k).flatMap (dlvK r b p)++dlvK r b p k:=by rw[List.range_succ,List.flatMap_append];simp
 refine⟨λc=>⟨wrap_nn _,λd=>⟨wrap_nn _,by omega,?_⟩,λd=>?_⟩,λc=>?_⟩
 ·rw[W_succ (n:=64) (by omega) (by omega)]
  exact⟨⟨k+1,rfl,by omega,by rw[e1,dlvK,if_pos d]⟩,by omega⟩
 ·rw[W_succ (n:=64) (by omega) (by omega)]
  exact⟨⟨k+1,rfl,by omega,by rw[e1,dlvK,if_neg (by rw[d];simp),List.append_nil]⟩,by omega⟩
 ·have:k=64:=by omega
  subst this;rfl
def dlv31_c(router:Int)(bits:Int)(p:Pkt):PC Tryd.prog:=⟨57,[.k,.k,.k],[.int router,.val (.int .u64 bits),.agg [.int p.mode,.int p.sub,.int p.set,.int p.len,.int p.ttl,.int p.ent,.int p.ing,.int p.proto,.val (.int .u64 p.bits),.str p.pay]],dlv31_e (dlv31 router bits p),PSpec.of_ok λok=>(dlv31_p router bits p ok).elim λI0 h=>h.elim λm0 h=>mxP_of (sh:=(.s 11)) (enc:=dlv31_e) (a:=(dlv31_x router bits p I0 m0).an) h (by kernel_rfl) (AV.pureB_ok rfl),fnB_ok (by kernel_rfl)⟩
def way31(t:Tpl)(r:Int)(c:Cpy):List Int:=if 0<c.route.length then rou6 t r c.to else if(cos5 t r c.to).2=true then [c.to]else []
def way31_a(t:Tpl)(router:Int)(c:Cpy):Prop:=okL [.agg [.sl 2 (t.rs.map Rtr.v) false,.sl 5 (t.ls.map Lnk.v) false],.int router,.agg [.int c.to,.sl 1 (c.route.map AV.int) false,.int c.mode,.int c.sub,.int c.set,.int c.len,.int c.ttl,.int c.ent,.int c.ing,.int c.proto,.val (.int .u64 c.bits),.str c.pay]]
def way31_e(r:(List Int)):AV:=.sl 1 (r.map AV.int) false
def way31_x(t:Tpl)(router:Int)(c:Cpy):Ax Tryd.prog noS ((List Int)):=
 (.br 128 (decide (0<((c.route.map AV.int).length:Int))) (.callP (rou6_c t router c.to)
(.ret (rou6 t router c.to)))
(.callP (cos5_c t router c.to)
(.br 304 ((cos5 t router c.to).2) (.ret ([c.to]))
(.ret ([])))))
def way31_vc(t:Tpl)(router:Int)(c:Cpy)(r0:(List Int)):Prop:=(way31_x t router c).vp way31_e r0
theorem way31_p(t:Tpl)(r:Int)(c:Cpy)(ok:way31_a t r c):way31_vc t r c (way31 t r c):=by
 dsimp only[way31_vc,way31_x,noS,Ax.vp,Ax.vc];simp only[vcU,rfU,List.length_map]
 refine⟨λq=>?_,λq=>⟨λd=>?_,λd=>?_⟩⟩
 ·rw[way31,if_pos (by omega)]
 ·rw[way31,if_neg (by omega),if_pos d]
 ·rw[way31,if_neg (by omega),if_neg (by rw[d];simp)]
def way31_c(t:Tpl)(router:Int)(c:Cpy):PC Tryd.prog:=⟨58,[(.a [(.s 2),(.s 5)]),.k,(.a [.k,(.s 1),.k,.k,.k,.k,.k,.k,.k,.k,.k,.k])],[.agg [.sl 2 (t.rs.map Rtr.v) false,.sl 5 (t.ls.map Lnk.v) false],.int router,.agg [.int c.to,.sl 1 (c.route.map AV.int) false,.int c.mode,.int c.sub,.int c.set,.int c.len,.int c.ttl,.int c.ent,.int c.ing,.int c.proto,.val (.int .u64 c.bits),.str c.pay]],way31_e (way31 t router c),PSpec.of_ok λok=>mxP_of (sh:=(.s 1)) (enc:=way31_e) (a:=(way31_x t router c).an) (way31_p t router c ok) (by kernel_rfl) (AV.pureB_ok rfl),fnB_ok (by kernel_rfl)⟩
theorem way31_len(t:Tpl)(r:Int)(c:Cpy):(way31 t r c).length≤25:=by
 unfold way31
 repeat' split
 ·exact rou6_len _ _ _
 all_goals simp
def bit31(e:Eng)(r:Int)(c:Cpy):Int:=shlA (fnd30 e r (if 0<c.route.length then 2 else 1) c.to).1
def bit31_a(e:Eng)(router:Int)(c:Cpy):Prop:=okL [.agg [.int e.len,.sl 4 (e.list.map Adj.v) false],.int router,.agg [.int c.to,.sl 1 (c.route.map AV.int) false,.int c.mode,.int c.sub,.int c.set,.int c.len,.int c.ttl,.int c.ent,.int c.ing,.int c.proto,.val (.int .u64 c.bits),.str c.pay]]
def bit31_n0(e:Eng)(router:Int)(c:Cpy)(t0:Int):NF:=⟨[(1,.k,.int router),(3,.k,.ref 0 0),(5,.k,.ref 1 0),(7,.k,.int t0)],[.box (.agg [.int e.len,.sl 4 (e.list.map Adj.v) false]),.box (.agg [.int c.to,.sl 1 (c.route.map AV.int) false,.int c.mode,.int c.sub,.int c.set,.int c.len,.int c.ttl,.int c.ent,.int c.ing,.int c.proto,.val (.int .u64 c.bits),.str c.pay])]⟩
@[reducible] def bit31_s:Nat→Type
 | 0=>Int
 | _=>Unit
def bit31_e(r:Int):AV:=.val (.int .u64 r)
def bit31_x(e:Eng)(router:Int)(c:Cpy)(I0:Int→Prop):Ax Tryd.prog bit31_s (Int):=
 (.pass (.pass (.join 0 (bit31_n0 e router c) (λ(t0:Int)=>I0 t0) (λb0=>(.br 144 (decide (0<((c.route.map AV.int).length:Int))) (.bk 0 b0 ((2):Int) [0,16])
(.bk 0 b0 ((1):Int) [0,16]))) λ(t0:Int) =>
(.callP (fnd30_c e router t0 c.to)
(.say (ck (decide (0≤(IntKind.u64.wrap ((fnd30 e router t0 c.to).1))))) (.ret (shlI .u64 1 (IntKind.u64.wrap ((fnd30 e router t0 c.to).1)))))))))
def bit31_vc(e:Eng)(router:Int)(c:Cpy)(I0:Int→Prop)(r0:Int):Prop:=(bit31_x e router c I0).vp bit31_e r0
theorem bit31_p(e:Eng)(r:Int)(c:Cpy)(ok:bit31_a e r c):∃I,bit31_vc e r c I (bit31 e r c):=by
 refine⟨λk=>k=if 0<c.route.length then 2 else 1,?_⟩
 dsimp only[bit31_vc,bit31_x,bit31_s,Ax.vp,Ax.vc];simp only[vcU,rfU,List.length_map]
 refine⟨⟨λq=>by rw[if_pos (by omega)],λq=>by rw[if_neg (by omega)]⟩,?_⟩
 rintro _ rfl
 exact⟨wrap_nn _,rfl⟩
def bit31_c(e:Eng)(router:Int)(c:Cpy):PC Tryd.prog:=⟨59,[(.a [.k,(.s 4)]),.k,(.a [.k,(.s 1),.k,.k,.k,.k,.k,.k,.k,.k,.k,.k])],[.agg [.int e.len,.sl 4 (e.list.map Adj.v) false],.int router,.agg [.int c.to,.sl 1 (c.route.map AV.int) false,.int c.mode,.int c.sub,.int c.set,.int c.len,.int c.ttl,.int c.ent,.int c.ing,.int c.proto,.val (.int .u64 c.bits),.str c.pay]],bit31_e (bit31 e router c),PSpec.of_ok λok=>(bit31_p e router c ok).elim λI0 h=>mxP_of (sh:=.k) (enc:=bit31_e) (a:=(bit31_x e router c I0).an) h (by kernel_rfl) (AV.pureB_ok rfl),fnB_ok (by kernel_rfl)⟩
def AtP.pk(x:AtP):Pkt:=⟨x.mode,x.sub,x.set,x.len,x.ttl,x.ent,x.ing,x.proto,x.bits,x.pay⟩
def crsL(b:Int):Int→List Int→List Crs
 | _,[]=>[]
 | f,x::l=>⟨f,x,b⟩::crsL b x l
abbrev CpS:=List Los×List AtP×List Crs
def cpS(e:Eng)(t:Tpl)(r:Int):List Cpy→CpS→Option CpS
 | [],s=>some s
 | c::cs,s=>if(way31 t r c).length=0 then cpS e t r cs (s.1++[⟨r,bit31 e r c⟩],s.2.1,s.2.2)
  else if 2000<(s.2.2++crsL c.bits r (way31 t r c)).length then none
  else cpS e t r cs (s.1,s.2.1++[⟨c.to,c.mode,c.sub,c.set,c.len,c.ttl,c.ent,c.ing,c.proto,c.bits,c.pay⟩],s.2.2++crsL c.bits r (way31 t r c))
def lostL(lo:List Los)(r l:Int):List Los:=if l≠0 then lo++[⟨r,l⟩]else lo
def runL(e:Eng)(t:Tpl):Nat→Nat→CpS→List Dlr→Trc×Int
 | 0,_,_,_=>(⟨[],[],[]⟩,0)
 | n+1,i,s,dl=>match s.2.1[i]? with
  | none=>(⟨dl,s.2.2,s.1⟩,0)
  | some x=>match cpS e t x.router (fwd31 e x.router x.pk).1.copies (lostL s.1 x.router (fwd31 e x.router x.pk).1.lost,s.2.1,s.2.2)with
   | none=>(⟨[],[],[]⟩,11)
   | some s'=>runL e t n (i+1) s' (dl++dlv31 x.router (fwd31 e x.router x.pk).1.local_ x.pk)
def atP(r:Int)(p:Pkt):AtP:=⟨r,p.mode,p.sub,p.set,p.len,p.ttl,p.ent,p.ing,p.proto,p.bits,p.pay⟩
def run31(e:Eng)(t:Tpl)(p:Pkt)(r:Int):Trc×Int:=
 if vEng e≠0∨chk5 t≠0∨pktB p=false then(⟨[],[],[]⟩,1)else if hs5 t r=false then(⟨[],[],[]⟩,4)
 else if sui31 e p≠0 then(⟨[],[],[]⟩,sui31 e p)else runL e t 2002 0 ([],[atP r p],[]) []
theorem lostL_len{lo:List Los}{r l:Int}:(lostL lo r l).length≤lo.length+1:=by unfold lostL;split<;>simp
def run31_a(e:Eng)(t:Tpl)(p:Pkt)(router:Int):Prop:=okL [.agg [.int e.len,.sl 4 (e.list.map Adj.v) false],.agg [.sl 2 (t.rs.map Rtr.v) false,.sl 5 (t.ls.map Lnk.v) false],.agg [.int p.mode,.int p.sub,.int p.set,.int p.len,.int p.ttl,.int p.ent,.int p.ing,.int p.proto,.val (.int .u64 p.bits),.str p.pay],.int router]
def run31_n0(e:Eng)(t:Tpl)(p:Pkt)(router:Int)(t0:Bool):NF:=⟨[(3,.k,.int router),(4,.k,.ref 0 0),(5,.k,.ref 1 0),(6,.k,.ref 2 0),(8,.k,.ref 3 0),(35,.k,.bool t0)],[.box (.agg [.int e.len,.sl 4 (e.list.map Adj.v) false]),.box (.agg [.sl 2 (t.rs.map Rtr.v) false,.sl 5 (t.ls.map Lnk.v) false]),.box (.agg [.int p.mode,.int p.sub,.int p.set,.int p.len,.int p.ttl,.int p.ent,.int p.ing,.int p.proto,.val (.int .u64 p.bits),.str p.pay]),.box (.agg [.sl 0 [] true,.sl 0 [] true,.sl 0 [] true])]⟩
def run31_n1(e:Eng)(t:Tpl)(t1:Int×(List AtP)×(List Los)×(List Crs)×(List Dlr)):NF:=⟨[(4,.k,.ref 0 0),(5,.k,.ref 1 0),(8,.k,.ref 2 0),(11,.k,.ref 3 0),(12,.k,.vec 7),(13,.k,.int t1.1)],[.box (.agg [.int e.len,.sl 4 (e.list.map Adj.v) false]),.box (.agg [.sl 2 (t.rs.map Rtr.v) false,.sl 5 (t.ls.map Lnk.v) false]),.box (.agg [.sl 0 [] true,.sl 0 [] true,.sl 0 [] true]),.box (.agg [.vec 4,.vec 5,.vec 6]),.vec 11 (t1.2.2.2.2.map Dlr.v) (pureBL_map (λ_=>rfl) t1.2.2.2.2),.vec 3 (t1.2.2.2.1.map Crs.v) (pureBL_map (λ_=>rfl) t1.2.2.2.1),.vec 2 (t1.2.2.1.map Los.v) (pureBL_map (λ_=>rfl) t1.2.2.1),.vec 11 (t1.2.1.map AtP.v) (pureBL_map (λ_=>rfl) t1.2.1)]⟩
def run31_n2(e:Eng)(t:Tpl)(t1:Int×(List AtP)×(List Los)×(List Crs)×(List Dlr))(x1:AtP)(t2:(List Los)):NF:=⟨[(4,.k,.ref 0 0),(5,.k,.ref 1 0),(8,.k,.ref 2 0),(11,.k,.ref 3 0),(12,.k,.vec 7),(13,.k,.int t1.1),(14,.k,.ref 8 0),(15,.k,.ref 9 0)],[.box (.agg [.int e.len,.sl 4 (e.list.map Adj.v) false]),.box (.agg [.sl 2 (t.rs.map Rtr.v) false,.sl 5 (t.ls.map Lnk.v) false]),.box (.agg [.sl 0 [] true,.sl 0 [] true,.sl 0 [] true]),.box (.agg [.vec 4,.vec 5,.vec 6]),.vec 11 ((t1.2.2.2.2++(dlv31 x1.router (((fwd31 e x1.router (⟨x1.mode,x1.sub,x1.set,x1.len,x1.ttl,x1.ent,x1.ing,x1.proto,x1.bits,x1.pay⟩:Pkt)).1).local_) (⟨x1.mode,x1.sub,x1.set,x1.len,x1.ttl,x1.ent,x1.ing,x1.proto,x1.bits,x1.pay⟩:Pkt))).map Dlr.v) (pureBL_map (λ_=>rfl) (t1.2.2.2.2++(dlv31 x1.router (((fwd31 e x1.router (⟨x1.mode,x1.sub,x1.set,x1.len,x1.ttl,x1.ent,x1.ing,x1.proto,x1.bits,x1.pay⟩:Pkt)).1).local_) (⟨x1.mode,x1.sub,x1.set,x1.len,x1.ttl,x1.ent,x1.ing,x1.proto,x1.bits,x1.pay⟩:Pkt)))),.vec 3 (t1.2.2.2.1.map Crs.v) (pureBL_map (λ_=>rfl) t1.2.2.2.1),.vec 2 (t2.map Los.v) (pureBL_map (λ_=>rfl) t2),.vec 11 (t1.2.1.map AtP.v) (pureBL_map (λ_=>rfl) t1.2.1),.box (.agg [.int x1.router,.int x1.mode,.int x1.sub,.int x1.set,.int x1.len,.int x1.ttl,.int x1.ent,.int x1.ing,.int x1.proto,.val (.int .u64 x1.bits),.str x1.pay]),.box (.agg [.val (.int .u64 (((fwd31 e x1.router (⟨x1.mode,x1.sub,x1.set,x1.len,x1.ttl,x1.ent,x1.ing,x1.proto,x1.bits,x1.pay⟩:Pkt)).1).local_)),.val (.int .u64 (((fwd31 e x1.router (⟨x1.mode,x1.sub,x1.set,x1.len,x1.ttl,x1.ent,x1.ing,x1.proto,x1.bits,x1.pay⟩:Pkt)).1).lost)),.sl 12 ((((fwd31 e x1.router (⟨x1.mode,x1.sub,x1.set,x1.len,x1.ttl,x1.ent,x1.ing,x1.proto,x1.bits,x1.pay⟩:Pkt)).1).copies).map Cpy.v) false])]⟩
def run31_n3(e:Eng)(t:Tpl)(t1:Int×(List AtP)×(List Los)×(List Crs)×(List Dlr))(x1:AtP)(t3:Int×(List Los)×(List AtP)×(List Crs)):NF:=⟨[(4,.k,.ref 0 0),(5,.k,.ref 1 0),(8,.k,.ref 2 0),(11,.k,.ref 3 0),(12,.k,.vec 7),(13,.k,.int t1.1),(14,.k,.ref 8 0),(97,.k,.sl 12 ((((fwd31 e x1.router (⟨x1.mode,x1.sub,x1.set,x1.len,x1.ttl,x1.ent,x1.ing,x1.proto,x1.bits,x1.pay⟩:Pkt)).1).copies).map Cpy.v) false),(98,.k,.int (((((fwd31 e x1.router (⟨x1.mode,x1.sub,x1.set,x1.len,x1.ttl,x1.ent,x1.ing,x1.proto,x1.bits,x1.pay⟩:Pkt)).1).copies).map Cpy.v).length:Int)),(99,.k,.int t3.1)],[.box (.agg [.int e.len,.sl 4 (e.list.map Adj.v) false]),.box (.agg [.sl 2 (t.rs.map Rtr.v) false,.sl 5 (t.ls.map Lnk.v) false]),.box (.agg [.sl 0 [] true,.sl 0 [] true,.sl 0 [] true]),.box (.agg [.vec 4,.vec 5,.vec 6]),.vec 11 ((t1.2.2.2.2++(dlv31 x1.router (((fwd31 e x1.router (⟨x1.mode,x1.sub,x1.set,x1.len,x1.ttl,x1.ent,x1.ing,x1.proto,x1.bits,x1.pay⟩:Pkt)).1).local_) (⟨x1.mode,x1.sub,x1.set,x1.len,x1.ttl,x1.ent,x1.ing,x1.proto,x1.bits,x1.pay⟩:Pkt))).map Dlr.v) (pureBL_map (λ_=>rfl) (t1.2.2.2.2++(dlv31 x1.router (((fwd31 e x1.router (⟨x1.mode,x1.sub,x1.set,x1.len,x1.ttl,x1.ent,x1.ing,x1.proto,x1.bits,x1.pay⟩:Pkt)).1).local_) (⟨x1.mode,x1.sub,x1.set,x1.len,x1.ttl,x1.ent,x1.ing,x1.proto,x1.bits,x1.pay⟩:Pkt)))),.vec 3 (t3.2.2.2.map Crs.v) (pureBL_map (λ_=>rfl) t3.2.2.2),.vec 2 (t3.2.1.map Los.v) (pureBL_map (λ_=>rfl) t3.2.1),.vec 11 (t3.2.2.1.map AtP.v) (pureBL_map (λ_=>rfl) t3.2.2.1),.box (.agg [.int x1.router,.int x1.mode,.int x1.sub,.int x1.set,.int x1.len,.int x1.ttl,.int x1.ent,.int x1.ing,.int x1.proto,.val (.int .u64 x1.bits),.str x1.pay])]⟩
def run31_n4(e:Eng)(t:Tpl)(t1:Int×(List AtP)×(List Los)×(List Crs)×(List Dlr))(x1:AtP)(t3:Int×(List Los)×(List AtP)×(List Crs))(x3:Cpy)(t4:Int×Int×(List Crs)):NF:=⟨[(4,.k,.ref 0 0),(5,.k,.ref 1 0),(8,.k,.ref 2 0),(11,.k,.ref 3 0),(12,.k,.vec 7),(13,.k,.int t1.1),(14,.k,.ref 8 0),(18,.k,.ref 9 0),(20,.k,.int t4.1),(97,.k,.sl 12 ((((fwd31 e x1.router (⟨x1.mode,x1.sub,x1.set,x1.len,x1.ttl,x1.ent,x1.ing,x1.proto,x1.bits,x1.pay⟩:Pkt)).1).copies).map Cpy.v) false),(98,.k,.int (((((fwd31 e x1.router (⟨x1.mode,x1.sub,x1.set,x1.len,x1.ttl,x1.ent,x1.ing,x1.proto,x1.bits,x1.pay⟩:Pkt)).1).copies).map Cpy.v).length:Int)),(99,.k,.int t3.1),(126,.k,.sl 1 ((way31 t x1.router x3).map AV.int) false),(127,.k,.int (((way31 t x1.router x3).map AV.int).length:Int)),(128,.k,.int t4.2.1)],[.box (.agg [.int e.len,.sl 4 (e.list.map Adj.v) false]),.box (.agg [.sl 2 (t.rs.map Rtr.v) false,.sl 5 (t.ls.map Lnk.v) false]),.box (.agg [.sl 0 [] true,.sl 0 [] true,.sl 0 [] true]),.box (.agg [.vec 4,.vec 5,.vec 6]),.vec 11 ((t1.2.2.2.2++(dlv31 x1.router (((fwd31 e x1.router (⟨x1.mode,x1.sub,x1.set,x1.len,x1.ttl,x1.ent,x1.ing,x1.proto,x1.bits,x1.pay⟩:Pkt)).1).local_) (⟨x1.mode,x1.sub,x1.set,x1.len,x1.ttl,x1.ent,x1.ing,x1.proto,x1.bits,x1.pay⟩:Pkt))).map Dlr.v) (pureBL_map (λ_=>rfl) (t1.2.2.2.2++(dlv31 x1.router (((fwd31 e x1.router (⟨x1.mode,x1.sub,x1.set,x1.len,x1.ttl,x1.ent,x1.ing,x1.proto,x1.bits,x1.pay⟩:Pkt)).1).local_) (⟨x1.mode,x1.sub,x1.set,x1.len,x1.ttl,x1.ent,x1.ing,x1.proto,x1.bits,x1.pay⟩:Pkt)))),.vec 3 (t4.2.2.map Crs.v) (pureBL_map (λ_=>rfl) t4.2.2),.vec 2 (t3.2.1.map Los.v) (pureBL_map (λ_=>rfl) t3.2.1),.vec 11 (t3.2.2.1.map AtP.v) (pureBL_map (λ_=>rfl) t3.2.2.1),.box (.agg [.int x1.router,.int x1.mode,.int x1.sub,.int x1.set,.int x1.len,.int x1.ttl,.int x1.ent,.int x1.ing,.int x1.proto,.val (.int .u64 x1.bits),.str x1.pay]),.box (.agg [.int x3.to,.sl 1 (x3.route.map AV.int) false,.int x3.mode,.int x3.sub,.int x3.set,.int x3.len,.int x3.ttl,.int x3.ent,.int x3.ing,.int x3.proto,.val (.int .u64 x3.bits),.str x3.pay])]⟩
@[reducible] def run31_s:Nat→Type
 | 0=>Bool
 | 1=>Int×(List AtP)×(List Los)×(List Crs)×(List Dlr)
 | 2=>(List Los)
 | 3=>Int×(List Los)×(List AtP)×(List Crs)
 | 4=>Int×Int×(List Crs)
 | _=>Unit
def run31_e(r:Trc×Int):AV:=.tup [Trc.v r.1,.int r.2]
def run31_x(e:Eng)(t:Tpl)(p:Pkt)(router:Int)(I0:Bool→Prop)(I1:Bool→(Int×(List AtP)×(List Los)×(List Crs)×(List Dlr))→Prop)(m1:Bool→(Int×(List AtP)×(List Los)×(List Crs)×(List Dlr))→Nat)(I2:Bool→Int×(List AtP)×(List Los)×(List Crs)×(List Dlr)→AtP→(List Los)→Prop)(I3:Bool→Int×(List AtP)×(List Los)×(List Crs)×(List Dlr)→AtP→(List Los)→(Int×(List Los)×(List AtP)×(List Crs))→Prop)(m3:Bool→Int×(List AtP)×(List Los)×(List Crs)×(List Dlr)→AtP→(List Los)→(Int×(List Los)×(List AtP)×(List Crs))→Nat)(I4:Bool→Int×(List AtP)×(List Los)×(List Crs)×(List Dlr)→AtP→(List Los)→Int×(List Los)×(List AtP)×(List Crs)→Cpy→(Int×Int×(List Crs))→Prop)(m4:Bool→Int×(List AtP)×(List Los)×(List Crs)×(List Dlr)→AtP→(List Los)→Int×(List Los)×(List AtP)×(List Crs)→Cpy→(Int×Int×(List Crs))→Nat):Ax Tryd.prog run31_s (Trc×Int):=
 (.pass (.pass (.join 0 (run31_n0 e t p router) (λ(t0:Bool)=>I0 t0) (λb0=>(.callP (vEng_c e)
(.br 144 ((vEng e) != 0) (.bk 0 b0 ((true):Bool) [0,16,32,48])
(.callP (chk5_c t)
(.br 224 ((chk5 t) != 0) (.bk 0 b0 ((true):Bool) [0,16,32,48])
(.callP (vpkR_c p)
(.bk 0 b0 ((!(pktB p)):Bool) [0,16,32,48]))))))) λ(t0:Bool) =>
(.br 4 t0 (.ret ((⟨[],[],[]⟩:Trc),1))
(.callP (hs5_c t router)
(.br 68 (!(hs5 t router)) (.ret ((⟨[],[],[]⟩:Trc),4))
(.callP (sui31_c e p)
(.br 164 ((sui31 e p) != 0) (.ret ((⟨[],[],[]⟩:Trc),sui31 e p))
(.own 228 (.cmdL (.nilB 164 0 11) (.cmdL (.nilB 164 1 3) (.cmdL (.nilB 164 2 2) (.loop 1 (run31_n1 e t) (I1 t0) (m1 t0) (0,[(⟨router,p.mode,p.sub,p.set,p.len,p.ttl,p.ent,p.ing,p.proto,p.bits,p.pay⟩:AtP)],[],[],[]) [0,1,3,164,276,277,278,228] λ(t1:Int×(List AtP)×(List Los)×(List Crs)×(List Dlr)) b1 =>
(.br 72 (decide (t1.1<((t1.2.1.map AtP.v).length:Int))) (.say (ck (cond (decide (0≤t1.1)) (decide (t1.1<((t1.2.1.map AtP.v).length:Int))) false)) (.el 120 AtP.v t1.2.1 (λR=>Rf (t1.2.1.map AtP.v) (ck (decide (t1.1.toNat<t1.2.1.length))
(∀x1,t1.2.1[t1.1.toNat]?=some x1 →
(R x1)))) λx1 =>
(.req 248 (e.list.length≤1000) λh2 =>
(.callP (fwd31_c e x1.router (⟨x1.mode,x1.sub,x1.set,x1.len,x1.ttl,x1.ent,x1.ing,x1.proto,x1.bits,x1.pay⟩:Pkt) h2)
(.callP (dlv31_c x1.router (((fwd31 e x1.router (⟨x1.mode,x1.sub,x1.set,x1.len,x1.ttl,x1.ent,x1.ing,x1.proto,x1.bits,x1.pay⟩:Pkt)).1).local_) (⟨x1.mode,x1.sub,x1.set,x1.len,x1.ttl,x1.ent,x1.ing,x1.proto,x1.bits,x1.pay⟩:Pkt))
(.say (λR=>Rf (α:=List AV) (t1.2.2.2.2.map Dlr.v) (Rf (α:=List AV) ((dlv31 x1.router (((fwd31 e x1.router (⟨x1.mode,x1.sub,x1.set,x1.len,x1.ttl,x1.ent,x1.ing,x1.proto,x1.bits,x1.pay⟩:Pkt)).1).local_) (⟨x1.mode,x1.sub,x1.set,x1.len,x1.ttl,x1.ent,x1.ing,x1.proto,x1.bits,x1.pay⟩:Pkt)).map Dlr.v)
(ck (decide (t1.2.2.2.2.length+(dlv31 x1.router (((fwd31 e x1.router (⟨x1.mode,x1.sub,x1.set,x1.len,x1.ttl,x1.ent,x1.ing,x1.proto,x1.bits,x1.pay⟩:Pkt)).1).local_) (⟨x1.mode,x1.sub,x1.set,x1.len,x1.ttl,x1.ent,x1.ing,x1.proto,x1.bits,x1.pay⟩:Pkt)).length≤1048576))
R))) (.app 504 Dlr.v t1.2.2.2.2 (dlv31 x1.router (((fwd31 e x1.router (⟨x1.mode,x1.sub,x1.set,x1.len,x1.ttl,x1.ent,x1.ing,x1.proto,x1.bits,x1.pay⟩:Pkt)).1).local_) (⟨x1.mode,x1.sub,x1.set,x1.len,x1.ttl,x1.ent,x1.ing,x1.proto,x1.bits,x1.pay⟩:Pkt))
(.join 2 (run31_n2 e t t1 x1) (λ(t2:(List Los))=>I2 t0 t1 x1 t2) (λb2=>(.br 600 (((fwd31 e x1.router (⟨x1.mode,x1.sub,x1.set,x1.len,x1.ttl,x1.ent,x1.ing,x1.proto,x1.bits,x1.pay⟩:Pkt)).1).lost != 0) (.own 712 (.say (λR=>Rf (α:=List AV) (t1.2.2.1.map Los.v) (Rf (α:=List AV) [.agg [.int x1.router,.val (.int .u64 (((fwd31 e x1.router (⟨x1.mode,x1.sub,x1.set,x1.len,x1.ttl,x1.ent,x1.ing,x1.proto,x1.bits,x1.pay⟩:Pkt)).1).lost))]]
(ck (decide (t1.2.2.1.length+1≤1048576))
R))) (.app 728 Los.v t1.2.2.1 [(⟨x1.router,((fwd31 e x1.router (⟨x1.mode,x1.sub,x1.set,x1.len,x1.ttl,x1.ent,x1.ing,x1.proto,x1.bits,x1.pay⟩:Pkt)).1).lost⟩:Los)]
(.bk 2 b2 ((t1.2.2.1++[(⟨x1.router,((fwd31 e x1.router (⟨x1.mode,x1.sub,x1.set,x1.len,x1.ttl,x1.ent,x1.ing,x1.proto,x1.bits,x1.pay⟩:Pkt)).1).lost⟩:Los)]):(List Los)) [0,1,2,3,504,5,728,7,136,312]))))
(.bk 2 b2 ((t1.2.2.1):(List Los)) [0,1,2,3,504,5,6,7,136,312]))) λ(t2:(List Los)) =>
(.loop 3 (run31_n3 e t t1 x1) (I3 t0 t1 x1 t2) (m3 t0 t1 x1 t2) (0,t2,t1.2.1,t1.2.2.2.1) [0,1,2,3,4,5,6,7,8] λ(t3:Int×(List Los)×(List AtP)×(List Crs)) b3 =>
(.br 25 (decide (t3.1<(((((fwd31 e x1.router (⟨x1.mode,x1.sub,x1.set,x1.len,x1.ttl,x1.ent,x1.ing,x1.proto,x1.bits,x1.pay⟩:Pkt)).1).copies).map Cpy.v).length:Int))) (.el 25 Cpy.v (((fwd31 e x1.router (⟨x1.mode,x1.sub,x1.set,x1.len,x1.ttl,x1.ent,x1.ing,x1.proto,x1.bits,x1.pay⟩:Pkt)).1).copies) (λR=>Rf ((((fwd31 e x1.router (⟨x1.mode,x1.sub,x1.set,x1.len,x1.ttl,x1.ent,x1.ing,x1.proto,x1.bits,x1.pay⟩:Pkt)).1).copies).map Cpy.v) (ck (decide (0≤t3.1)) (ck (decide (t3.1<((((fwd31 e x1.router (⟨x1.mode,x1.sub,x1.set,x1.len,x1.ttl,x1.ent,x1.ing,x1.proto,x1.bits,x1.pay⟩:Pkt)).1).copies).length:Int)))
(∀x3,(((fwd31 e x1.router (⟨x1.mode,x1.sub,x1.set,x1.len,x1.ttl,x1.ent,x1.ing,x1.proto,x1.bits,x1.pay⟩:Pkt)).1).copies)[t3.1.toNat]?=some x3 →
(R x3))))) λx3 =>
(.callP (way31_c t x1.router x3)
(.br 233 ((((way31 t x1.router x3).map AV.int).length:Int)==0) (.callP (bit31_c e x1.router x3)
(.own 393 (.say (λR=>Rf (α:=List AV) (t3.2.1.map Los.v) (Rf (α:=List AV) [.agg [.int x1.router,.val (.int .u64 (bit31 e x1.router x3))]]
(ck (decide (t3.2.1.length+1≤1048576))
R))) (.app 409 Los.v t3.2.1 [(⟨x1.router,bit31 e x1.router x3⟩:Los)]
(.bk 3 b3 (W (t3.1+1),t3.2.1++[(⟨x1.router,bit31 e x1.router x3⟩:Los)],t3.2.2.1,t3.2.2.2) [0,1,2,3,4,5,409,7,8])))))
(.loop 4 (run31_n4 e t t1 x1 t3 x3) (I4 t0 t1 x1 t2 t3 x3) (m4 t0 t1 x1 t2 t3 x3) (x1.router,0,t3.2.2.2) [0,1,2,3,4,5,6,7,8,57] λ(t4:Int×Int×(List Crs)) b4 =>
(.br 26 (decide (t4.2.1<(((way31 t x1.router x3).map AV.int).length:Int))) (.el 26 AV.int (way31 t x1.router x3) (λR=>Rf ((way31 t x1.router x3).map AV.int) (ck (decide (0≤t4.2.1)) (ck (decide (t4.2.1<((way31 t x1.router x3).length:Int)))
(∀x4,(way31 t x1.router x3)[t4.2.1.toNat]?=some x4 →
(R x4))))) λx4 =>
(.own 218 (.say (λR=>Rf (α:=List AV) (t4.2.2.map Crs.v) (Rf (α:=List AV) [.agg [.int t4.1,.int x4,.val (.int .u64 x3.bits)]]
(ck (decide (t4.2.2.length+1≤1048576))
R))) (.app 234 Crs.v t4.2.2 [(⟨t4.1,x4,x3.bits⟩:Crs)]
(.bk 4 b4 (x4,W (t4.2.1+1),t4.2.2++[(⟨t4.1,x4,x3.bits⟩:Crs)]) [0,1,2,3,4,234,6,7,8,9])))))
(.br 90 (decide (2000<((t4.2.2.map Crs.v).length:Int))) (.ret ((⟨[],[],[]⟩:Trc),11))
(.own 202 (.say (λR=>Rf (α:=List AV) (t3.2.2.1.map AtP.v) (Rf (α:=List AV) [.agg [.int x3.to,.int x3.mode,.int x3.sub,.int x3.set,.int x3.len,.int x3.ttl,.int x3.ent,.int x3.ing,.int x3.proto,.val (.int .u64 x3.bits),.str x3.pay]]
(ck (decide (t3.2.2.1.length+1≤1048576))
R))) (.app 218 AtP.v t3.2.2.1 [(⟨x3.to,x3.mode,x3.sub,x3.set,x3.len,x3.ttl,x3.ent,x3.ing,x3.proto,x3.bits,x3.pay⟩:AtP)]
(.bk 3 b3 (W (t3.1+1),t3.2.1,t3.2.2.1++[(⟨x3.to,x3.mode,x3.sub,x3.set,x3.len,x3.ttl,x3.ent,x3.ing,x3.proto,x3.bits,x3.pay⟩:AtP)],t4.2.2) [0,1,2,3,4,5,6,218,8]))))))))))
(.bk 1 b1 (W (t1.1+1),t3.2.2.1,t3.2.1,t3.2.2.2,t1.2.2.2.2++(dlv31 x1.router (((fwd31 e x1.router (⟨x1.mode,x1.sub,x1.set,x1.len,x1.ttl,x1.ent,x1.ing,x1.proto,x1.bits,x1.pay⟩:Pkt)).1).local_) (⟨x1.mode,x1.sub,x1.set,x1.len,x1.ttl,x1.ent,x1.ing,x1.proto,x1.bits,x1.pay⟩:Pkt))) [0,1,2,3,4,5,6,7])))))))))))
(.say (Rf (t1.2.2.1.map Los.v)) (.cmdL (.frzE 6 (t1.2.2.1.map Los.v) (pureBL_map (λ_=>rfl) t1.2.2.1)) (.say (Rf (t1.2.2.2.1.map Crs.v)) (.cmdL (.frzE 5 (t1.2.2.2.1.map Crs.v) (pureBL_map (λ_=>rfl) t1.2.2.2.1)) (.say (Rf (t1.2.2.2.2.map Dlr.v)) (.cmdL (.frzE 4 (t1.2.2.2.2.map Dlr.v) (pureBL_map (λ_=>rfl) t1.2.2.2.2)) (.ret ((⟨t1.2.2.2.2,t1.2.2.2.1,t1.2.2.1⟩:Trc),0))))))))))))))))))))))
def run31_vc(e:Eng)(t:Tpl)(p:Pkt)(router:Int)(I0:Bool→Prop)(I1:Bool→(Int×(List AtP)×(List Los)×(List Crs)×(List Dlr))→Prop)(m1:Bool→(Int×(List AtP)×(List Los)×(List Crs)×(List Dlr))→Nat)(I2:Bool→Int×(List AtP)×(List Los)×(List Crs)×(List Dlr)→AtP→(List Los)→Prop)(I3:Bool→Int×(List AtP)×(List Los)×(List Crs)×(List Dlr)→AtP→(List Los)→(Int×(List Los)×(List AtP)×(List Crs))→Prop)(m3:Bool→Int×(List AtP)×(List Los)×(List Crs)×(List Dlr)→AtP→(List Los)→(Int×(List Los)×(List AtP)×(List Crs))→Nat)(I4:Bool→Int×(List AtP)×(List Los)×(List Crs)×(List Dlr)→AtP→(List Los)→Int×(List Los)×(List AtP)×(List Crs)→Cpy→(Int×Int×(List Crs))→Prop)(m4:Bool→Int×(List AtP)×(List Los)×(List Crs)×(List Dlr)→AtP→(List Los)→Int×(List Los)×(List AtP)×(List Crs)→Cpy→(Int×Int×(List Crs))→Nat)(r0:Trc×Int):Prop:=(run31_x e t p router I0 I1 m1 I2 I3 m3 I4 m4).vp run31_e r0
theorem run31_p(e:Eng)(t:Tpl)(p:Pkt)(r:Int)(h:e.list.length≤64)(ok:run31_a e t p r):∃I0 I1 m1 I2 I3 m3 I4 m4,run31_vc e t p r I0 I1 m1 I2 I3 m3 I4 m4 (run31 e t p r):=by
 refine⟨λb=>b=decide (vEng e≠0∨chk5 t≠0∨pktB p=false),
  λ_ s=>∃k:Nat,s.1=k∧k≤s.2.1.length∧s.2.1.length≤s.2.2.2.1.length+1∧s.2.2.2.1.length≤2000∧s.2.2.2.2.length≤64 * k∧s.2.2.1.length≤65 * k∧runL e t (2002-k) k (s.2.2.1,s.2.1,s.2.2.2.1) s.2.2.2.2=run31 e t p r,
  λ_ s=>2002-s.1.toNat,λ_ s x lo=>lo=lostL s.2.2.1 x.router (fwd31 e x.router x.pk).1.lost,
  λ_ s x lo u=>∃j:Nat,u.1=j∧j≤(fwd31 e x.router x.pk).1.copies.length∧s.2.1.length≤u.2.2.1.length∧u.2.2.1.length≤u.2.2.2.length+1∧u.2.2.2.length≤2000∧u.2.1.length≤lo.length+j ∧
   cpS e t x.router ((fwd31 e x.router x.pk).1.copies.drop j) u.2=cpS e t x.router (fwd31 e x.router x.pk).1.copies (lo,s.2.1,s.2.2.2.1),
  λ_ s x lo u=>(fwd31 e x.router x.pk).1.copies.length-u.1.toNat,
  λ_ s x lo u c v=>∃m:Nat,v.2.1=m∧m≤(way31 t x.router c).length∧v.2.2.length=u.2.2.2.length+m∧v.2.2++crsL c.bits v.1 ((way31 t x.router c).drop m)=u.2.2.2++crsL c.bits x.router (way31 t x.router c),
  λ_ s x lo u c v=>(way31 t x.router c).length-v.2.1.toNat,?_⟩
 dsimp only[run31_vc,run31_x,run31_s,Ax.vp,Ax.vc];simp only[vcU,rfU,List.length_map]
 refine⟨⟨λc=>?_,λc=>⟨λd=>?_,λd=>?_⟩⟩,?_⟩
 ·have c:vEng e≠0:=by simpa using c
  exact(decide_eq_true (.inl c)).symm
 ·have d:chk5 t≠0:=by simpa using d
  exact(decide_eq_true (.inr (.inl d))).symm
 ·have c:vEng e=0:=by simpa using c
  have d:chk5 t=0:=by simpa using d
  cases pktB p<;>simp[c,d]
 rintro _ rfl
 refine⟨λc=>by rw[run31,if_pos (of_decide_eq_true c)],λc=>⟨λd=>?_,λd=>⟨λg=>?_,λg=>?_⟩⟩⟩
 ·rw[run31,if_neg (of_decide_eq_false c),if_pos (by simpa using d)]
 ·rw[run31,if_neg (of_decide_eq_false c),if_neg (by simpa using d),if_pos (by simpa using g)]
 refine⟨⟨0,rfl,by simp,by simp,by simp,by simp,by simp,by rw[run31,if_neg (of_decide_eq_false c),if_neg (by simpa using d),if_neg (by simpa using g)];rfl⟩,?_⟩
 rintro⟨_,q,lo,cr,dl⟩ ⟨k,rfl,hk,hq,hcr,hdl,hlo,hr⟩
 simp only at hk hq hcr hdl hlo hr ⊢
 obtain⟨n,hn⟩:∃n,2002-k=n+1:=⟨2001-k,by omega⟩
 rw[hn,runL]at hr
 simp only[Int.toNat_natCast]at hr ⊢
 refine⟨λc1=>⟨range2 (by omega) c1,by omega,λx hx=>?_⟩,λc1=>?_⟩
 ·rw[hx]at hr
  simp only at hr
  have ep:(⟨x.mode,x.sub,x.set,x.len,x.ttl,x.ent,x.ing,x.proto,x.bits,x.pay⟩:Pkt)=x.pk:=rfl
  rw[ep]
  have hcl:=fwd31_len e x.router x.pk
  generalize (fwd31 e x.router x.pk).1=F at hr hcl ⊢
  have hdv:=dlv31_len x.router F.local_ x.pk
  refine⟨by omega,by omega,⟨λc2=>⟨by omega,?_⟩,λc2=>?_⟩,?_⟩
  ·rw[lostL,if_pos (by simpa using c2)]
  ·rw[lostL,if_neg (by simpa using c2)]
  rintro lo1 hlo1
  have hll:=lostL_len (lo:=lo) (r:=x.router) (l:=F.lost)
  rw[←hlo1]at hll hr
  refine⟨⟨0,rfl,by omega,by omega,by omega,by omega,by omega,rfl⟩,?_⟩
  rintro⟨_,lo2,q2,cr2⟩ ⟨j,rfl,hj,hq2,hq3,hcr2,hlo2,hcp⟩
  simp only at hq2 hq3 hcr2 hlo2 hcp ⊢
  simp only[Int.toNat_natCast]
  refine⟨λc3=>⟨by omega,c3,λcy hcy=>?_⟩,λc3=>?_⟩
  ·have hd:F.copies.drop j=cy::F.copies.drop (j+1):=by
    have hl:=lt_of_get hcy
    rw[List.drop_eq_getElem_cons hl]
    rw[List.getElem?_eq_getElem hl]at hcy
    rw[Option.some.inj hcy]
   rw[hd,cpS]at hcp
   have hw:=way31_len t x.router cy
   rw[W_succ (n:=F.copies.length) (by omega) (by omega)]
   refine⟨λc4=>⟨by omega,⟨j+1,rfl,by omega,hq2,hq3,hcr2,by simp;omega,?_⟩,by omega⟩,λc4=>⟨⟨0,rfl,by omega,rfl,rfl⟩,?_⟩⟩
   ·rw[if_pos (by have:=eq_of_beq c4;omega)]at hcp;exact hcp
   have c4:¬(way31 t x.router cy).length=0:=λz=>by rw[z]at c4;simp at c4
   rw[if_neg c4]at hcp
   rintro⟨fr,_,cr3⟩ ⟨m,rfl,hm,hc3,hcc⟩
   simp only at hc3 hcc ⊢
   simp only[Int.toNat_natCast]
   refine⟨λc5=>⟨by omega,c5,λto hto=>⟨by omega,?_⟩⟩,λc5=>?_⟩
   ·have hd2:(way31 t x.router cy).drop m=to::(way31 t x.router cy).drop (m+1):=by
     have hl:=lt_of_get hto
     rw[List.drop_eq_getElem_cons hl]
     rw[List.getElem?_eq_getElem hl]at hto
     rw[Option.some.inj hto]
    rw[hd2,crsL]at hcc
    rw[W_succ (n:=(way31 t x.router cy).length) (by omega) (by omega)]
    exact⟨⟨m+1,rfl,by omega,by simp;omega,by rw[←hcc];simp⟩,by omega⟩
   ·have:m=(way31 t x.router cy).length:=by omega
    subst this
    rw[List.drop_length,crsL,List.append_nil]at hcc
    rw[←hcc]at hcp
    refine⟨λc6=>?_,λc6=>⟨by omega,⟨j+1,rfl,by omega,by simp;omega,by simp;omega,by omega,by omega,?_⟩,by omega⟩⟩
    ·rw[if_pos (by omega)]at hcp
     rw[←hcp]at hr;exact hr
    ·rw[if_neg (by omega)]at hcp;exact hcp
  ·have:j=F.copies.length:=by omega
   subst this
   rw[List.drop_length,cpS]at hcp
   rw[←hcp]at hr
   simp only at hr
   rw[W_succ (n:=2002) (by omega) (by omega)]
   refine⟨⟨k+1,rfl,by omega,hq3,hcr2,by simp;omega,by omega,?_⟩,by omega⟩
   rw[show 2002-(k+1)=n by omega];exact hr
 ·rw[List.getElem?_eq_none (by omega)]at hr
  exact hr
def run31_c(e:Eng)(t:Tpl)(p:Pkt)(router:Int)(h:e.list.length≤64):PC Tryd.prog:=⟨22,[(.a [.k,(.s 4)]),(.a [(.s 2),(.s 5)]),.k,.k],[.agg [.int e.len,.sl 4 (e.list.map Adj.v) false],.agg [.sl 2 (t.rs.map Rtr.v) false,.sl 5 (t.ls.map Lnk.v) false],.agg [.int p.mode,.int p.sub,.int p.set,.int p.len,.int p.ttl,.int p.ent,.int p.ing,.int p.proto,.val (.int .u64 p.bits),.str p.pay],.int router],run31_e (run31 e t p router),PSpec.of_ok λok=>(run31_p e t p router h ok).elim λI0 h=>h.elim λI1 h=>h.elim λm1 h=>h.elim λI2 h=>h.elim λI3 h=>h.elim λm3 h=>h.elim λI4 h=>h.elim λm4 h=>mxP_of (sh:=(.a [(.a [(.s 11),(.s 3),(.s 2)]),.k])) (enc:=run31_e) (a:=(run31_x e t p router I0 I1 m1 I2 I3 m3 I4 m4).an) h (by kernel_rfl) (AV.pureB_ok rfl),fnB_ok (by kernel_rfl)⟩
theorem cpS_len{e:Eng}{t:Tpl}{r:Int}:∀{cs:List Cpy} {s s':CpS},s.2.2.length≤2000→cpS e t r cs s=some s'→s'.2.2.length≤2000∧s'.1.length≤s.1.length+cs.length
 | [],s,s',h,q=>by
  rw[cpS]at q
  cases q
  exact⟨h,by simp⟩
 | c::cs,s,s',h,q=>by
  rw[cpS]at q
  split at q
  ·have:=cpS_len (s:=(s.1++[⟨r,bit31 e r c⟩],s.2.1,s.2.2)) h q
   simp only[List.length_append,List.length_cons,List.length_nil]at this ⊢
   exact⟨this.1,by omega⟩
  ·split at q
   ·cases q
   ·rename_i c2
    have:=cpS_len (s:=(s.1,s.2.1++[⟨c.to,c.mode,c.sub,c.set,c.len,c.ttl,c.ent,c.ing,c.proto,c.bits,c.pay⟩],s.2.2++crsL c.bits r (way31 t r c))) (by simp only;omega) q
    simp only[List.length_cons]at this ⊢
    exact⟨this.1,by omega⟩
theorem runL_len{e:Eng}{t:Tpl}(he:e.list.length≤64):∀{n i:Nat} {s:CpS} {dl:List Dlr},s.2.2.length≤2000 →
  (runL e t n i s dl).1.cr.length≤2000∧(runL e t n i s dl).1.dl.length≤dl.length+64 * n∧(runL e t n i s dl).1.lo.length≤s.1.length+65 * n
 | 0,i,s,dl,h=>by simp[runL]
 | n+1,i,s,dl,h=>by
  rw[runL]
  split
  ·simp only;omega
  rename_i x _
  split
  ·simp
  rename_i s' hs
  have h1:=cpS_len (s:=(lostL s.1 x.router (fwd31 e x.router x.pk).1.lost,s.2.1,s.2.2)) h hs
  have h2:=lostL_len (lo:=s.1) (r:=x.router) (l:=(fwd31 e x.router x.pk).1.lost)
  have h3:=fwd31_len e x.router x.pk
  have h4:=dlv31_len x.router (fwd31 e x.router x.pk).1.local_ x.pk
  obtain⟨a,b,c⟩:=runL_len he (n:=n) (i:=i+1) (s:=s') (dl:=dl++dlv31 x.router (fwd31 e x.router x.pk).1.local_ x.pk) h1.1
  rw[List.length_append]at b
  have h5:=h1.2
  simp only at h5
  exact⟨a,by omega,by omega⟩
theorem run31_len{e:Eng}{t:Tpl}{p:Pkt}{r:Int}(he:e.list.length≤64):(run31 e t p r).1.cr.length≤200000∧(run31 e t p r).1.dl.length≤200000∧(run31 e t p r).1.lo.length≤200000:=by
 unfold run31
 split
 ·simp
 split
 ·simp
 split
 ·simp
 ·obtain⟨a,b,c⟩:=runL_len (t:=t) he (n:=2002) (i:=0) (s:=([],[atP r p],[])) (dl:=[]) (by simp)
  simp only[List.length_nil]at b c
  exact⟨by omega,by omega,by omega⟩
end Go.Proofs.YteooglpnechplaaDoor
namespace Go.Proofs.YteooglpnechplaaDoor
open Go Go.Am Go.RowKit
def tzR:Shelf.Ren:=⟨λ_=>92,λt=>if t=3 then 3 else if t=4 then 4 else if t=5 then 5 else if t=22 then 65 else if t=25 then 70 else if t=54 then 186 else 0,λ_=>0⟩
theorem tz_lays:Lays7.n29 Tryd.prog tzR where
 mixed:=by kernel_rfl
 f29:=by kernel_rfl
 t0:=by kernel_rfl
 a0:=λw=>by kernel_rfl
 z0:=λw=>by kernel_rfl
 v0:=λw=>by kernel_rfl
 i0:=by kernel_rfl
 t3:=by kernel_rfl
 a3:=λw=>by kernel_rfl
 z3:=λw=>by kernel_rfl
 v3:=λw=>by kernel_rfl
 i3:=by kernel_rfl
 t4:=by kernel_rfl
 a4:=λw=>by kernel_rfl
 z4:=λw=>by kernel_rfl
 v4:=λw=>by kernel_rfl
 i4:=by kernel_rfl
 t5:=by kernel_rfl
 a5:=λw=>by kernel_rfl
 z5:=λw=>by kernel_rfl
 v5:=λw=>by kernel_rfl
 i5:=by kernel_rfl
 t22:=by kernel_rfl
 a22:=λw=>by kernel_rfl
 z22:=λw=>by kernel_rfl
 v22:=λw=>by kernel_rfl
 i22:=by kernel_rfl
 t25:=by kernel_rfl
 a25:=λw=>by kernel_rfl
 z25:=λw=>by kernel_rfl
 v25:=λw=>by kernel_rfl
 i25:=by kernel_rfl
 t54:=by kernel_rfl
 a54:=λw=>by kernel_rfl
 z54:=λw=>by kernel_rfl
 g1:=by kernel_rfl
def tz64(b:Int):Int:=(Lib.ctz 64 b.toNat:Nat)
theorem tz64_rng(b:Int)(h:0≤b∧b<18446744073709551616):0≤tz64 b∧tz64 b≤64:=by
 refine⟨by unfold tz64;omega,?_⟩
 unfold tz64 Lib.ctz
 split
 ·omega
 ·have:=(Lib.ctzFrom_spec 64 b.toNat (by omega) (by omega)).choose_spec.2
  omega
theorem pspec_int{P:Program}{f:FuncId}{args:List AV}{n:Int}(hn:-9223372036854775808≤n∧n≤9223372036854775807)(h:∀(w:World) (A:Nat→Prop) (cargs:List Value),LtOk P A w→RVL w A args noMu cargs→Calls P f cargs.toArray w λe w'=>e=.returned (.int .i64 n)∧w'=w):PSpec P f args (.int n):=by
 intro w A cargs hl ha
 refine(h w A cargs hl ha).mono ?_
 rintro e w' ⟨rfl,rfl⟩
 refine⟨_,A,rfl,⟨rfl,?_⟩,⟨rfl,rfl,rfl,Nat.le_refl _,λk hk _=>rfl⟩,λ_ h=>h,λ_ h=>.inl h,hl.f⟩
 simpa only[plainV,inK64]using hn
theorem tz_spec (b : Int) : PSpec Tryd.prog 92 [.val (.int .u64 b)] (.int (tz64 b)) := by
  refine PSpec.of_ok fun ok => ?_
  have hb : 0 ≤ b ∧ b < 18446744073709551616 := by
    simp only [okL, AV.ok, plainV, and_true] at ok
    replace ok : IntKind.u64.min ≤ b ∧ b ≤ IntKind.u64.max := ok
    simp [IntKind.min, IntKind.max, IntKind.bits, IntKind.signed] at ok
    omega
  have hr := tz64_rng b hb
  refine pspec_int (by omega) fun w A cargs hl ha => ?_
  obtain ⟨v, vs, rfl, ⟨rfl, _⟩, rfl⟩ := ha
  have hg : Program.globalNamed Tryd.prog "math/bits.deBruijn64tab" = some 0 := by kernel_rfl
  have ht := (hl.t _ _ _ _ rfl hg).2
  have key := Any7.bits_TrailingZeros64 tz_lays b.toNat (by omega) w fun _ j hj => by
    have hc := ht.cell hg j (by rw [List.length_map]; exact hj)
    have e : ((Lib.deBruijn64tab.map Int.ofNat).getD j 0) = ((Lib.deBruijn64tab.getD j 0 : Nat) : Int) := by
      rw [List.getD_eq_getElem?_getD, List.getD_eq_getElem?_getD, List.getElem?_map, List.getElem?_eq_getElem hj]; rfl
    rw [e] at hc
    exact hc
  rw [Int.toNat_of_nonneg hb.1] at key
  exact key
def tz_c(b:Int):PC Tryd.prog:=⟨92,[.k],[.val (.int .u64 b)],.int (tz64 b),tz_spec b,fnB_ok (by kernel_rfl)⟩
end Go.Proofs.YteooglpnechplaaDoor
namespace Go.Proofs.YteooglpnechplaaDoor
open Go Go.Am
def fstB(b:Int):Int:=if b=0 then -1 else tz64 b
def fstB_a(b:Int):Prop:=okL [.val (.int .u64 b)]
def fstB_e(r:Int):AV:=.int r
def fstB_x(b:Int):Ax Tryd.prog noS (Int):=
 (.br 48 (b==0) (.ret (-1))
(.callP (tz_c b)
(.ret (tz64 b))))
def fstB_vc(b:Int)(r0:Int):Prop:=(fstB_x b).vp fstB_e r0
theorem fstB_p(b:Int)(ok:fstB_a b):fstB_vc b (fstB b):=by
 dsimp only[fstB_vc,fstB_x,noS,Ax.vp,Ax.vc];simp only[vcU,rfU,List.length_map]
 refine⟨λc=>?_,λc=>?_⟩
 ·rw[fstB,if_pos (eq_of_beq c)]
 ·rw[fstB,if_neg (by simpa using c)]
def fstB_c(b:Int):PC Tryd.prog:=⟨82,[.k],[.val (.int .u64 b)],fstB_e (fstB b),PSpec.of_ok λok=>mxP_of (sh:=.k) (enc:=fstB_e) (a:=(fstB_x b).an) (fstB_p b ok) (by kernel_rfl) (AV.pureB_ok rfl),fnB_ok (by kernel_rfl)⟩
def bitL(b:Int):List Int:=((List.range 64).filter b.toNat.testBit).map λ(k:Nat)=>(k:Int)
theorem filter_low{p q:Nat→Bool}:∀{n k:Nat},k<n→(∀j,j<k→p j=false∧q j=false)→p k=true→q k=false→(∀j,k<j→p j=q j)→(List.range n).filter p=k::(List.range n).filter q
 | n+1,k,hk,h1,h2,h3,h4=>by
  rw[List.range_succ,List.filter_append,List.filter_append]
  by_cases e:k=n
  ·subst e
   have a:(List.range k).filter p=[]:=List.filter_eq_nil_iff.mpr λj hj=>by simp[(h1 j (List.mem_range.mp hj)).1]
   have b:(List.range k).filter q=[]:=List.filter_eq_nil_iff.mpr λj hj=>by simp[(h1 j (List.mem_range.mp hj)).2]
   rw[a,b];simp[h2,h3]
  ·rw[filter_low (n:=n) (k:=k) (by omega) h1 h2 h3 h4]
   have:p n=q n:=h4 n (by omega)
   rw[List.filter_cons,List.filter_cons,this];rfl
theorem low_bits{x:Nat}(h0:x≠0)(hx:x<18446744073709551616):(List.range 64).filter x.testBit=Lib.ctz 64 x::(List.range 64).filter (x &&& (x-1)).testBit:=by
 obtain⟨m,hm,hk⟩:=Lib.ctzFrom_spec 64 x (by omega) hx
 have e:Lib.ctz 64 x=Lib.ctzFrom 64 x:=by rw[Lib.ctz,if_neg h0]
 rw[e]
 generalize Lib.ctzFrom 64 x=k at hm hk
 have hp:=Nat.two_pow_pos k
 have b1:∀j,x.testBit j=if j<k then(0:Nat).testBit j else(2 * m+1).testBit (j-k):=λj=>by
  have q:=Nat.testBit_two_pow_mul_add (2 * m+1) hp j
  rw[Nat.add_zero]at q
  rw[hm,q]
 have b2:∀j,(x-1).testBit j=if j<k then(2 ^ k-1).testBit j else(2 * m).testBit (j-k):=λj=>by
  have:x-1=2 ^ k * (2 * m)+(2 ^ k-1):=by rw[hm,Nat.mul_add,Nat.mul_one];omega
  rw[this,Nat.testBit_two_pow_mul_add _ (by omega)]
 have b3:∀j,(x &&& (x-1)).testBit j=if j<k then false else(2 * m).testBit (j-k):=λj=>by
  rw[Nat.testBit_and,b1,b2]
  by_cases c:j<k
  ·simp[c]
  ·simp only[c,if_false]
   cases d:j-k with
   | zero=>simp[Nat.testBit_zero]
   | succ s =>
    rw[Nat.testBit_succ,Nat.testBit_succ,show(2 * m+1) / 2=m by omega,show 2 * m / 2=m by omega,Bool.and_self]
 refine filter_low hk (λj hj=>⟨by rw[b1,if_pos hj];simp,by rw[b3,if_pos hj]⟩) ?_ ?_ λj hj=>?_
 ·rw[b1,if_neg (by omega),Nat.sub_self,Nat.testBit_zero];simp
 ·rw[b3,if_neg (by omega),Nat.sub_self,Nat.testBit_zero];simp
 ·rw[b1,b3,if_neg (by omega),if_neg (by omega)]
  obtain⟨s,hs⟩:∃s,j-k=s+1:=⟨j-k-1,by omega⟩
  rw[hs,Nat.testBit_succ,Nat.testBit_succ,show(2 * m+1) / 2=m by omega,show 2 * m / 2=m by omega]
abbrev lstB:=bitL
def lstB_a(b:Int):Prop:=okL [.val (.int .u64 b)]
def lstB_n0(t0:Int×(List Int)):NF:=⟨[(0,.k,.val (.int .u64 t0.1)),(3,.k,.vec 0)],[.vec 1 (t0.2.map AV.int) (pureBL_map (λ_=>rfl) t0.2)]⟩
@[reducible] def lstB_s:Nat→Type
 | 0=>Int×(List Int)
 | _=>Unit
def lstB_e(r:(List Int)):AV:=.sl 1 (r.map AV.int) false
def lstB_x(b:Int)(I0:(Int×(List Int))→Prop)(m0:(Int×(List Int))→Nat):Ax Tryd.prog lstB_s ((List Int)):=
 (.cmdL (.nilT 3 1) (.loop 0 (lstB_n0) I0 m0 (b,[]) [32] λ(t0:Int×(List Int)) b0 =>
(.br 33 (t0.1 != 0) (.callP (fstB_c t0.1)
(.say (λR=>Rf (α:=List AV) (t0.2.map AV.int) (Rf (α:=List AV) [.int (fstB t0.1)]
(ck (decide (t0.2.length+1≤1048576))
R))) (.app 97 AV.int t0.2 [fstB t0.1]
(.bk 0 b0 (bAnd .u64 t0.1 (IntKind.u64.wrap (t0.1-1)),t0.2++[fstB t0.1]) [97]))))
(.say (Rf (t0.2.map AV.int)) (.cmdL (.frzE 0 (t0.2.map AV.int) (pureBL_map (λ_=>rfl) t0.2)) (.ret (t0.2)))))))
def lstB_vc(b:Int)(I0:(Int×(List Int))→Prop)(m0:(Int×(List Int))→Nat)(r0:(List Int)):Prop:=(lstB_x b I0 m0).vp lstB_e r0
theorem u64_dec{x:Nat}(h0:x≠0)(hx:x<18446744073709551616):IntKind.u64.wrap ((x:Int)-1)=((x-1:Nat):Int):=by
 rw[show(x:Int)-1=((x-1:Nat):Int) by omega]
 exact wrap_u64 (by omega)
theorem lstB_p(b:Int)(ok:lstB_a b):∃I m,lstB_vc b I m (lstB b):=by
 have hb:0≤b∧b<18446744073709551616:=by
  simp only[lstB_a,okL,AV.ok,plainV,and_true]at ok
  replace ok:IntKind.u64.min≤b∧b≤IntKind.u64.max:=ok
  simp[IntKind.min,IntKind.max,IntKind.bits,IntKind.signed]at ok
  omega
 refine⟨λt=>∃x:Nat,t.1=x∧x<18446744073709551616∧bitL b=t.2++bitL x,λt=>(bitL t.1).length,?_⟩
 dsimp only[lstB_vc,lstB_x,lstB_s,Ax.vp,Ax.vc];simp only[vcU,rfU,List.length_map]
 refine⟨⟨b.toNat,by omega,by omega,by rw[Int.toNat_of_nonneg hb.1];rfl⟩,?_⟩
 rintro⟨_,out⟩ ⟨x,rfl,hx,h⟩
 simp only at h ⊢
 have hlen:(bitL b).length≤64:=by
  have:=List.length_filter_le b.toNat.testBit (List.range 64)
  rw[List.length_range]at this
  unfold bitL;rw[List.length_map];exact this
 refine⟨λc=>?_,λc=>?_⟩
 ·have c:x≠0:=by simpa using c
  have hl:=low_bits c hx
  have e1:bitL (x:Int)=fstB (x:Int)::bitL ((x &&& (x-1):Nat):Int):=by
   unfold bitL
   rw[Int.toNat_natCast,Int.toNat_natCast,hl,fstB,if_neg (by omega)];rfl
  have h2:=congrArg List.length h
  rw[e1,List.length_append,List.length_cons]at h2
  rw[u64_dec c hx,bAnd_nat hx (by omega)]
  refine⟨by omega,⟨x &&& (x-1),rfl,Nat.lt_of_le_of_lt Nat.and_le_left hx,?_⟩,?_⟩
  ·rw[h,e1];simp
  ·rw[e1,List.length_cons];omega
 ·have c:x=0:=by simpa using c
  subst c
  have e0:bitL ((0:Nat):Int)=[]:=by unfold bitL;simp
  rw[e0,List.append_nil]at h
  exact h.symm
def lstB_c(b:Int):PC Tryd.prog:=⟨61,[.k],[.val (.int .u64 b)],lstB_e (bitL b),PSpec.of_ok λok=>(lstB_p b ok).elim λI0 h=>h.elim λm0 h=>mxP_of (sh:=(.s 1)) (enc:=lstB_e) (a:=(lstB_x b I0 m0).an) h (by kernel_rfl) (AV.pureB_ok rfl),fnB_ok (by kernel_rfl)⟩
end Go.Proofs.YteooglpnechplaaDoor
namespace Go.Proofs
open Go.Shelf
def Tryd.lays156_ren:Go.Shelf.Ren:=⟨fun|156=>46|165=>68|166=>69|169=>70|240=>84|241=>85|276=>97|277=>98|n=>n,fun|31=>51|9=>9|3=>3|4=>4|0=>0|20=>20|72=>155|76=>159|70=>152|37=>153|75=>158|127=>174|164=>181|5=>5|80=>161|n=>n,fun|n=>n⟩
theorem Tryd.lays156:Go.Proofs.Lays.n156 Tryd.prog Tryd.lays156_ren:={
 mixed:=by kernel_rfl
 f156:=Tryd.func46.trans (congrArg some (by kernel_rfl))
 f165:=Tryd.func68.trans (congrArg some (by kernel_rfl))
 f166:=Tryd.func69.trans (congrArg some (by kernel_rfl))
 f169:=Tryd.func70.trans (congrArg some (by kernel_rfl))
 f240:=Tryd.func84.trans (congrArg some (by kernel_rfl))
 f241:=Tryd.func85.trans (congrArg some (by kernel_rfl))
 f276:=Tryd.func97.trans (congrArg some (by kernel_rfl))
 f277:=Tryd.func98.trans (congrArg some (by kernel_rfl))
 t0:=Tryd.underlying0
 a0:=Tryd.isAgg0
 z0:=Tryd.sizeOf0
 v0:=Tryd.zeroValue0
 t3:=Tryd.underlying3
 a3:=Tryd.isAgg3
 z3:=Tryd.sizeOf3
 v3:=Tryd.zeroValue3
 t4:=Tryd.underlying4
 a4:=Tryd.isAgg4
 z4:=Tryd.sizeOf4
 v4:=Tryd.zeroValue4
 t9:=Tryd.underlying9
 a9:=Tryd.isAgg9
 z9:=Tryd.sizeOf9
 v9:=Tryd.zeroValue9
 t20:=Tryd.underlying20
 a20:=Tryd.isAgg20
 z20:=Tryd.sizeOf20
 v20:=Tryd.zeroValue20
 t31:=Tryd.underlying51
 a31:=Tryd.isAgg51
 z31:=Tryd.sizeOf51
 v31:=Tryd.zeroValue51
 t37:=Tryd.underlying153
 a37:=Tryd.isAgg153
 z37:=Tryd.sizeOf153
 v37:=Tryd.zeroValue153
 t70:=Tryd.underlying152
 a70:=Tryd.isAgg152
 z70:=Tryd.sizeOf152
 v70:=Tryd.zeroValue152
 t72:=Tryd.underlying155
 a72:=Tryd.isAgg155
 z72:=Tryd.sizeOf155
 v72:=Tryd.zeroValue155
 t75:=Tryd.underlying158
 a75:=Tryd.isAgg158
 z75:=Tryd.sizeOf158
 v75:=Tryd.zeroValue158
 t76:=Tryd.underlying159
 a76:=Tryd.isAgg159
 z76:=Tryd.sizeOf159
 v76:=Tryd.zeroValue159
 t127:=Tryd.underlying174
 a127:=Tryd.isAgg174
 z127:=Tryd.sizeOf174
 v127:=Tryd.zeroValue174
 t164:=Tryd.underlying181
 a164:=Tryd.isAgg181
 z164:=Tryd.sizeOf181
 v164:=Tryd.zeroValue181 }
theorem Tryd.Builder_Extra_156:Builder.Extra Tryd.prog Tryd.lays156_ren:={
 sizeBuilder:=by kernel_rfl
 liesBuilder:=by kernel_rfl
 t5:=Tryd.underlying5
 a5:=Tryd.isAgg5
 z5:=Tryd.sizeOf5
 v5:=Tryd.zeroValue5
 infoByte:=by kernel_rfl
 cellsByte:=by kernel_rfl
 sizeByte:=by kernel_rfl
 neB5:=by decide }
open Go.RowKit in
theorem Tryd.strings_Join_none(a:Option Addr)(c:Nat)(sep:ByteArray)(w:World) :
  Calls Tryd.prog 46 #[.slice a 0 c,.string sep] w λe w'=>e=.returned (.string ⟨#[]⟩)∧w'=w:=Any.strings_Join_none Tryd.lays156 Tryd.Builder_Extra_156 a c sep w
open Go.RowKit in
theorem Tryd.strings_Join(bk o c:Nat)(xs:List ByteArray)(sep:ByteArray)(w:World)(hcells:∀(j:Nat) x,xs[j]?=some x→w.cell? ⟨bk,o+j,none⟩=some (.string x))(hbk:bk<w.heap.size)(hN:xs.length≤140737488355328)(hcap:xs.length≤c)(hlen:(Lib.join (xs.map (·.data.toList)) sep.data.toList).length≤140737488355328) :
  Calls Tryd.prog 46 #[.slice (some ⟨bk,o,none⟩) xs.length c,.string sep] w λe w'=>e=.returned (.string ⟨(Lib.join (xs.map (·.data.toList)) sep.data.toList).toArray⟩)∧Below w.heap.size w w':=Any.strings_Join Tryd.lays156 Tryd.Builder_Extra_156 bk o c xs sep w hcells hbk hN hcap hlen
def Tryd.laysM171_ren:Go.Shelf.Ren:=⟨fun|171=>45|243=>67|246=>83|283=>93|284=>94|285=>95|286=>96|129=>103|317=>102|318=>104|319=>105|320=>106|337=>107|338=>92|n=>n,fun|3=>3|9=>9|2=>2|4=>4|171=>177|0=>0|53=>65|37=>153|5=>5|173=>179|212=>188|51=>189|20=>20|213=>190|46=>70|232=>193|233=>186|n=>n,fun|17=>1|18=>3|19=>0|n=>n⟩
theorem Tryd.laysM171:Go.Proofs.LaysM.n171 Tryd.prog Tryd.laysM171_ren:={
 mixed:=by kernel_rfl
 f129:=Tryd.func103.trans (congrArg some (by kernel_rfl))
 f171:=Tryd.func45.trans (congrArg some (by kernel_rfl))
 f243:=Tryd.func67.trans (congrArg some (by kernel_rfl))
 f246:=Tryd.func83.trans (congrArg some (by kernel_rfl))
 f283:=Tryd.func93.trans (congrArg some (by kernel_rfl))
 f284:=Tryd.func94.trans (congrArg some (by kernel_rfl))
 f285:=Tryd.func95.trans (congrArg some (by kernel_rfl))
 f286:=Tryd.func96.trans (congrArg some (by kernel_rfl))
 f317:=Tryd.func102.trans (congrArg some (by kernel_rfl))
 f318:=Tryd.func104.trans (congrArg some (by kernel_rfl))
 f319:=Tryd.func105.trans (congrArg some (by kernel_rfl))
 f320:=Tryd.func106.trans (congrArg some (by kernel_rfl))
 f337:=Tryd.func107.trans (congrArg some (by kernel_rfl))
 f338:=Tryd.func92.trans (congrArg some (by kernel_rfl))
 t0:=Tryd.underlying0
 a0:=Tryd.isAgg0
 z0:=Tryd.sizeOf0
 v0:=Tryd.zeroValue0
 t2:=Tryd.underlying2
 a2:=Tryd.isAgg2
 z2:=Tryd.sizeOf2
 v2:=Tryd.zeroValue2
 t3:=Tryd.underlying3
 a3:=Tryd.isAgg3
 z3:=Tryd.sizeOf3
 v3:=Tryd.zeroValue3
 t4:=Tryd.underlying4
 a4:=Tryd.isAgg4
 z4:=Tryd.sizeOf4
 v4:=Tryd.zeroValue4
 t5:=Tryd.underlying5
 a5:=Tryd.isAgg5
 z5:=Tryd.sizeOf5
 v5:=Tryd.zeroValue5
 t9:=Tryd.underlying9
 a9:=Tryd.isAgg9
 z9:=Tryd.sizeOf9
 v9:=Tryd.zeroValue9
 t20:=Tryd.underlying20
 a20:=Tryd.isAgg20
 z20:=Tryd.sizeOf20
 v20:=Tryd.zeroValue20
 t37:=Tryd.underlying153
 a37:=Tryd.isAgg153
 z37:=Tryd.sizeOf153
 v37:=Tryd.zeroValue153
 t46:=Tryd.underlying70
 a46:=Tryd.isAgg70
 z46:=Tryd.sizeOf70
 v46:=Tryd.zeroValue70
 t51:=Tryd.underlying189
 a51:=Tryd.isAgg189
 z51:=Tryd.sizeOf189
 v51:=Tryd.zeroValue189
 t53:=Tryd.underlying65
 a53:=Tryd.isAgg65
 z53:=Tryd.sizeOf65
 v53:=Tryd.zeroValue65
 t171:=Tryd.underlying177
 a171:=Tryd.isAgg177
 z171:=Tryd.sizeOf177
 v171:=Tryd.zeroValue177
 t173:=Tryd.underlying179
 a173:=Tryd.isAgg179
 z173:=Tryd.sizeOf179
 v173:=Tryd.zeroValue179
 t212:=Tryd.underlying188
 a212:=Tryd.isAgg188
 z212:=Tryd.sizeOf188
 v212:=Tryd.zeroValue188
 t213:=Tryd.underlying190
 a213:=Tryd.isAgg190
 z213:=Tryd.sizeOf190
 t232:=Tryd.underlying193
 a232:=Tryd.isAgg193
 z232:=Tryd.sizeOf193
 v232:=Tryd.zeroValue193
 t233:=Tryd.underlying186
 a233:=Tryd.isAgg186
 z233:=Tryd.sizeOf186
 v233:=Tryd.zeroValue186
 g17:=by kernel_rfl
 g18:=by kernel_rfl
 g19:=by kernel_rfl
 i0:=by kernel_rfl
 i2:=by kernel_rfl
 i3:=by kernel_rfl
 i4:=by kernel_rfl
 i5:=by kernel_rfl
 i9:=by kernel_rfl
 i20:=by kernel_rfl
 i37:=by kernel_rfl
 i46:=by kernel_rfl
 i51:=by kernel_rfl
 i53:=by kernel_rfl
 i171:=by kernel_rfl
 i173:=by kernel_rfl
 i212:=by kernel_rfl
 i232:=by kernel_rfl
 i233:=by kernel_rfl
 m17:=by kernel_rfl
 m18:=by kernel_rfl
 m19:=by kernel_rfl }
open Go.RowKit Go.Sort Go.Lib in
theorem Tryd.strconv_Itoa (n : Int) (h0 : -9223372036854775808 ≤ n) (h1 : n ≤ 9223372036854775807) (w : World) (htab : Lib.TabIs Tryd.prog w "internal/strconv.uint64pow10" .u64 Lib.pow10Tab) :
    Calls Tryd.prog 45 #[.int .i64 n] w fun e w' => e = .returned (.string ⟨(Lib.itoa n).toArray⟩) ∧ ∃ k os, w' = grow (w.drewN k) os := Any.strconv_Itoa Tryd.laysM171 n h0 h1 w htab
end Go.Proofs
namespace Go.Proofs.YteooglpnechplaaDoor
open Go Go.Am Go.RowKit
theorem B_size(l:List UInt8):(B l).size=l.length:=by simp[B,ByteArray.size]
theorem B_app(a b:List UInt8):B a++B b=B (a++b):=by
 apply ByteArray.ext;simp[B]
theorem B_of(s:ByteArray):B s.data.toList=s:=by cases s;simp[B]
def itoa(n:Int):ByteArray:=B (Lib.itoa n)
def joinB(l:List ByteArray)(sep:ByteArray):ByteArray:=B (Lib.join (l.map (·.data.toList)) sep.data.toList)
theorem ext_below{w w':World}(h:Below w.heap.size w w'):Ext (λ_=>False) w w':=⟨h.os,h.tape,h.output,h.size,λk hk _=>h.block k hk⟩
theorem pspec_str{f:FuncId}{args:List AV}{s:ByteArray}(hs:s.size≤maxLen) (h:∀(w:World) (A:Nat→Prop) (cargs:List Value),LtOk Tryd.prog A w→RVL w A args noMu cargs →
  Calls Tryd.prog f cargs.toArray w λe w'=>e=.returned (.string s)∧Below w.heap.size w w'):PSpec Tryd.prog f args (.str s):=by
 intro w A cargs hl ha
 refine(h w A cargs hl ha).mono ?_
 rintro e w' ⟨rfl,hb⟩
 exact⟨_,A,rfl,⟨rfl,hs⟩,ext_below hb,λ_ h=>h,λ_ h=>.inl h,λb hb'=>Nat.lt_of_lt_of_le (hl.f b hb') hb.size⟩
theorem below_grow(w:World)(k:Nat)(os:Array Obj):Below w.heap.size w (Go.Sort.grow (w.drewN k) os):=by
 refine⟨rfl,rfl,rfl,?_,λq hq=>?_⟩
 ·show w.heap.size≤(w.heap++os).size
  simp
 ·show(w.heap++os)[q]?=w.heap[q]?
  exact Array.getElem?_append_left hq
theorem itoa_len{n:Int}(h:-9223372036854775808≤n∧n≤9223372036854775807):(itoa n).size≤21:=by
 rw[itoa,B_size];exact Lib.itoa_length_le n h.1 h.2
theorem itoa_spec (n : Int) : PSpec Tryd.prog 45 [.int n] (.str (itoa n)) := by
  refine PSpec.of_ok fun ok => ?_
  simp only [okL, AV.ok, plainV, inK64, and_true] at ok
  refine pspec_str (by have := itoa_len ok; rw [maxLen_eq]; omega) fun w A cargs hl ha => ?_
  obtain ⟨v, vs, rfl, ⟨rfl, _⟩, rfl⟩ := ha
  have hg : Program.globalNamed Tryd.prog "internal/strconv.uint64pow10" = some 1 := by kernel_rfl
  refine (Tryd.strconv_Itoa n ok.1 ok.2 w (hl.t _ _ _ _ rfl hg).2).mono ?_
  rintro e w' ⟨rfl, k, os, rfl⟩
  exact ⟨rfl, below_grow w k os⟩
def itoa_c(n:Int):PC Tryd.prog:=⟨45,[.k],[.int n],.str (itoa n),itoa_spec n,fnB_ok (by kernel_rfl)⟩
theorem join_spec(l:List ByteArray)(sep:ByteArray)(h1:l.length≤1048576)(h2:(joinB l sep).size≤1000000000):PSpec Tryd.prog 46 [.sl 1 (l.map AV.str) false,.str sep] (.str (joinB l sep)):=by
 refine pspec_str (by rw[maxLen_eq];omega) λw A cargs hl ha=>?_
 obtain⟨v,vs,rfl,hv,v2,vs2,rfl,⟨rfl,_⟩,rfl⟩:=ha
 rcases hv with⟨e,a,rfl⟩|⟨blk,off,cap,vs,rfl,e2,e3,e4,e5,e6,e7,e8,e9⟩
 ·have:l=[]:=by simpa using e
  subst this
  refine(Tryd.strings_Join_none a 0 sep w).mono ?_
  rintro e w' ⟨rfl,rfl⟩
  exact⟨rfl,Below.refl _ _⟩
 ·rw[List.length_map]at *
  rw[joinB,B_size]at h2
  refine(Tryd.strings_Join blk off cap l sep w (λj x hj=>?_) (hl.f blk e2) (by omega) e3 (by omega)).mono ?_
  ·have hx:(l.map AV.str)[j]?=some (.str x):=by rw[List.getElem?_map,hj];rfl
   obtain⟨v,g1,rfl,_⟩:=e6.get hx
   refine e8 j _ ?_
   have hone:∀(us:List Value),(∀u∈us,u.cells.size=1∧cellsOk u)→us.flatMap (·.cells.toList)=us.map λu=>(u.cells.toList.getD 0 undef):=by
    intro us
    induction us with
    | nil=>intro _;rfl
    | cons u us ih =>
     intro h
     have hu:=(h u (by simp)).1
     obtain⟨y,hy⟩:∃y,u.cells.toList=[y]:=List.length_eq_one_iff.mp (by simpa using hu)
     rw[List.flatMap_cons,ih (λu hu=>h u (by simp[hu])),List.map_cons,hy];rfl
   rw[hone vs e7,List.getElem?_map,g1];rfl
  ·rintro e w' ⟨rfl,hb⟩
   exact⟨rfl,hb⟩
def join_c(l:List ByteArray)(sep:ByteArray)(h1:l.length≤1048576)(h2:(joinB l sep).size≤1000000000):PC Tryd.prog:=⟨46,[.s 1,.k],[.sl 1 (l.map AV.str) false,.str sep],.str (joinB l sep),join_spec l sep h1 h2,fnB_ok (by kernel_rfl)⟩
inductive Anyv where
  | n (i:Int)
  | s (b:ByteArray)
def Anyv.v:Anyv→AV
 | .n i=>.val (.iface 3 (.int .i64 i))
 | .s b=>.val (.iface 9 (.string b))
def Anyv.txt:Anyv→ByteArray
 | .n i=>itoa i
 | .s b=>b
def words(l:List Anyv):ByteArray:=joinB (l.map Anyv.txt) (B [32])
def cf48:AF:=
 ⟨33,1,[.tmp 2],
 .seq (.reg [⟨(some 2),.move (.c (.val (.string ⟨#[]⟩))),none⟩])
 (.seq (.reg [⟨(some 3),.move (.c (.sl 0 [] true)),none⟩])
 (.seq (.seq (.reg [⟨(some 8),.move (.t 0),none⟩,⟨(some 9),.len (.t 8),none⟩,⟨(some 10),.move (.c (.val (.int .i64 0))),none⟩])
 (.block 0 (.loop (.seq (.reg [⟨(some 11),.bin .lss (.t 10) (.t 9),none⟩])
 (.seq (.cond (.t 11) (.skip) (.exit 0))
 (.seq (.block 1 (.seq (.reg [⟨(some 12),.iaddr 1 (.t 8) (.t 10),none⟩,⟨(some 13),.load false 1 (.t 12),none⟩,⟨(some 5),.move (.t 13),none⟩])
 (.seq (.reg [⟨(some 14),.move (.t 5),none⟩])
 (.block 2 (.seq (.reg [⟨(some 15),.asrt 3 ((.val (.int .i64 0))) (.t 14),none⟩,⟨(some 16),.ext 1 (.t 15),none⟩,⟨(some 17),.ext 0 (.t 15),none⟩])
 (.cond (.t 16) (.seq (.reg [⟨(some 6),.move (.t 17),none⟩])
 (.reg [⟨(some 18),.move (.t 3),none⟩,⟨(some 19),.move (.t 6),none⟩,⟨(some 20),.call (.c (.func 45 [])) [(.t 19)],none⟩,⟨(some 21),.lit 1 1 (.val (.string ⟨#[]⟩)) [(0,(.t 20))],none⟩,⟨(some 22),.append 1 16 (.t 18) (.t 21),none⟩,⟨(some 3),.move (.t 22),none⟩])) (.seq (.reg [⟨(some 23),.asrt 9 ((.val (.string ⟨#[]⟩))) (.t 14),none⟩,⟨(some 24),.ext 1 (.t 23),none⟩,⟨(some 25),.ext 0 (.t 23),none⟩])
 (.cond (.t 24) (.seq (.reg [⟨(some 7),.move (.t 25),none⟩])
 (.reg [⟨(some 26),.move (.t 3),none⟩,⟨(some 27),.move (.t 7),none⟩,⟨(some 28),.lit 1 1 (.val (.string ⟨#[]⟩)) [(0,(.t 27))],none⟩,⟨(some 29),.append 1 16 (.t 26) (.t 28),none⟩,⟨(some 3),.move (.t 29),none⟩])) (.skip)))))))))
 (.reg [⟨(some 30),.bin .add (.t 10) (.c (.val (.int .i64 1))),none⟩,⟨(some 10),.move (.t 30),none⟩])))))))
 (.seq (.reg [⟨(some 31),.move (.t 3),none⟩,⟨(some 32),.call (.c (.func 46 [])) [(.t 31),(.c (.val (.string ⟨#[32]⟩)))],none⟩,⟨(some 2),.move (.t 32),none⟩])
 (.ret))))⟩
theorem cf48_ok:cFunc Tryd.prog Tryd.f48=some cf48:=by kernel_rfl
theorem itoa_fn:FnOk Tryd.prog 45:=fnB_ok (by kernel_rfl)
theorem join_fn:FnOk Tryd.prog 46:=fnB_ok (by kernel_rfl)
theorem pureL_txt(l:List Anyv):pureL (l.map λx=>AV.str x.txt):=pureL_iff.mpr λx hx=>by obtain⟨y,_,rfl⟩:=List.mem_map.mp hx;trivial
theorem words_spec(l:List Anyv)(h1:l.length≤1000)(h2:(words l).size≤1000000000):PSpec Tryd.prog 48 [.sl 1 (l.map Anyv.v) false] (.str (words l)):=by
 refine PSpec.walk Tryd.func48 cf48_ok (by simp[cf48]) trivial ?_
 unfold cf48
 simp only[initT]
 have hml:=maxLen_eq
 refine AWP.seq' ?_
 refine AWP.reg' λK hK=>?_
 try simp only[stepS,stepD,stepM,eq_self,implies_true,forall_eq_or_imp,forall_eq,Nat.reduceEqDiff,↓reduceIte,Nat.reduceAdd,Nat.reduceLeDiff,Nat.reduceSub,Nat.reduceMul,Nat.reduceLT,Int.reduceBEq,Int.reduceBNe,Int.reduceToNat,Int.reduceLT,Int.reduceLE,Int.reduceAdd,Int.reduceSub,Int.reduceMul,reduceCtorEq]
 refine hK _ _ _ ?_
 clear hK K
 refine AWP.seq' ?_
 refine AWP.reg' λK hK=>?_
 try simp only[stepS,stepD,stepM,eq_self,implies_true,forall_eq_or_imp,forall_eq,Nat.reduceEqDiff,↓reduceIte,Nat.reduceAdd,Nat.reduceLeDiff,Nat.reduceSub,Nat.reduceMul,Nat.reduceLT,Int.reduceBEq,Int.reduceBNe,Int.reduceToNat,Int.reduceLT,Int.reduceLE,Int.reduceAdd,Int.reduceSub,Int.reduceMul,reduceCtorEq]
 refine hK _ _ _ ?_
 clear hK K
 refine AWP.seq' (AWP.seq' ?_)
 refine AWP.reg' λK hK=>?_
 try simp only[stepS,stepD,stepM,eq_self,implies_true,forall_eq_or_imp,forall_eq,Nat.reduceEqDiff,↓reduceIte,Nat.reduceAdd,Nat.reduceLeDiff,Nat.reduceSub,Nat.reduceMul,Nat.reduceLT,Int.reduceBEq,Int.reduceBNe,Int.reduceToNat,Int.reduceLT,Int.reduceLE,Int.reduceAdd,Int.reduceSub,Int.reduceMul,reduceCtorEq,lenA]
 refine hK _ _ _ ?_
 clear hK K
 refine AWP.block ?_
 refine AWP.weak (Weak.nilvec 3 0 1 rfl (Nat.zero_le _)) ?_
 refine AWP.loopS (λi=>⟨resT [(3,.vec 0),(8,.sl 1 (l.map Anyv.v) false),(9,.int l.length),(10,.int (i:Nat))],hpL 0 [some (.vec 1 ((l.take i).map λx=>.str x.txt))],1⟩)
  (λi=>i≤l.length) (λi=>l.length-i) (i0:=0) (Nat.zero_le _) ?_ ?_
 ·refine Weak.nf [80] _ _ ?_ ?_ ⟨rfl,rfl⟩ (by decide) (by decide) (by decide)
  ·repeat' (first|exact trivial|exact And.intro rfl trivial|refine And.intro ?_ ?_|rfl|exact Nat.le_of_ble_eq_true rfl|(rw[List.length_map];rfl))
  ·repeat' (first|exact trivial|exact And.intro rfl trivial|refine And.intro ?_ ?_|rfl|exact Nat.le_of_ble_eq_true rfl|(rw[List.length_map];rfl))
 intro i hi
 refine AWP.seq' ?_
 refine AWP.reg' λK hK=>?_
 try simp only[stepS,stepD,stepM,eq_self,implies_true,forall_eq_or_imp,forall_eq,Nat.reduceEqDiff,↓reduceIte,Nat.reduceAdd,Nat.reduceLeDiff,Nat.reduceSub,Nat.reduceMul,Nat.reduceLT,Int.reduceBEq,Int.reduceBNe,Int.reduceToNat,Int.reduceLT,Int.reduceLE,Int.reduceAdd,Int.reduceSub,Int.reduceMul,reduceCtorEq]
 refine hK _ _ _ ?_
 clear hK K
 refine AWP.seq' ?_
 refine AWP.cond (b:=decide ((i:Int)<(l.length:Int))) rfl (λh=>?_) (λh=>?_)
 ·have h:i<l.length:=by have:=of_decide_eq_true h;omega
  obtain⟨x,hx⟩:∃x,l[i]?=some x:=⟨_,List.getElem?_eq_getElem h⟩
  have hg:(l.map Anyv.v).getD i .unk=x.v:=by rw[List.getD_eq_getElem?_getD,List.getElem?_map,hx];rfl
  have ht:l.take (i+1)=l.take i++[x]:=take_succ hx
  have w:IntKind.i64.wrap ((i:Int)+1)=((i+1:Nat):Int):=wrapN (by omega) (by omega)
  have hlen:(l.take i).length=i:=by rw[List.length_take];omega
  refine AWP.skip ?_
  refine AWP.seq' (AWP.block (AWP.seq' ?_))
  cases x with
  | n j =>
   have hv:(Anyv.n j).v=.val (.iface 3 (.int .i64 j)):=rfl
   rw[hv]at hg
   refine AWP.reg' λK hK=>?_
   try simp only[stepS,stepD,stepM,eq_self,implies_true,forall_eq_or_imp,forall_eq,Nat.reduceEqDiff,↓reduceIte,Nat.reduceAdd,Nat.reduceLeDiff,Nat.reduceSub,Nat.reduceMul,Nat.reduceLT,Int.reduceBEq,Int.reduceBNe,Int.reduceToNat,Int.reduceLT,Int.reduceLE,Int.reduceAdd,Int.reduceSub,Int.reduceMul,reduceCtorEq,hg,Int.toNat_natCast,List.length_map]
   repeat (refine And.intro (by omega) ?_)
   refine hK _ _ _ ?_
   clear hK K
   refine AWP.seq' ?_
   refine AWP.reg' λK hK=>?_
   try simp only[stepS,stepD,stepM,eq_self,implies_true,forall_eq_or_imp,forall_eq,Nat.reduceEqDiff,↓reduceIte,Nat.reduceAdd,Nat.reduceLeDiff,Nat.reduceSub,Nat.reduceMul,Nat.reduceLT,Int.reduceBEq,Int.reduceBNe,Int.reduceToNat,Int.reduceLT,Int.reduceLE,Int.reduceAdd,Int.reduceSub,Int.reduceMul,reduceCtorEq]
   refine hK _ _ _ ?_
   clear hK K
   refine AWP.block (AWP.seq' ?_)
   refine AWP.reg' λK hK=>?_
   try simp only[stepS,stepD,stepM,eq_self,implies_true,forall_eq_or_imp,forall_eq,Nat.reduceEqDiff,↓reduceIte,Nat.reduceAdd,Nat.reduceLeDiff,Nat.reduceSub,Nat.reduceMul,Nat.reduceLT,Int.reduceBEq,Int.reduceBNe,Int.reduceToNat,Int.reduceLT,Int.reduceLE,Int.reduceAdd,Int.reduceSub,Int.reduceMul,reduceCtorEq,evA]
   refine hK _ _ _ ?_
   clear hK K
   refine AWP.cond (b:=true) rfl (λ_=>?_) (λh=>by cases h)
   refine AWP.seq' ?_
   refine AWP.reg' λK hK=>?_
   try simp only[stepS,stepD,stepM,eq_self,implies_true,forall_eq_or_imp,forall_eq,Nat.reduceEqDiff,↓reduceIte,Nat.reduceAdd,Nat.reduceLeDiff,Nat.reduceSub,Nat.reduceMul,Nat.reduceLT,Int.reduceBEq,Int.reduceBNe,Int.reduceToNat,Int.reduceLT,Int.reduceLE,Int.reduceAdd,Int.reduceSub,Int.reduceMul,reduceCtorEq]
   refine hK _ _ _ ?_
   clear hK K
   refine AWP.reg' λK hK=>?_
   try simp only[stepS,stepD,stepM,eq_self,implies_true,forall_eq_or_imp,forall_eq,Nat.reduceEqDiff,↓reduceIte,Nat.reduceAdd,Nat.reduceLeDiff,Nat.reduceSub,Nat.reduceMul,Nat.reduceLT,Int.reduceBEq,Int.reduceBNe,Int.reduceToNat,Int.reduceLT,Int.reduceLE,Int.reduceAdd,Int.reduceSub,Int.reduceMul,reduceCtorEq]
   refine evT_pure (itoa_spec j) itoa_fn rfl (by rfl) ⟨trivial,trivial⟩ ?_
   try simp only[stepS,stepD,stepM,eq_self,implies_true,forall_eq_or_imp,forall_eq,Nat.reduceEqDiff,↓reduceIte,Nat.reduceAdd,Nat.reduceLeDiff,Nat.reduceSub,Nat.reduceMul,Nat.reduceLT,Int.reduceBEq,Int.reduceBNe,Int.reduceToNat,Int.reduceLT,Int.reduceLE,Int.reduceAdd,Int.reduceSub,Int.reduceMul,reduceCtorEq]
   refine evT_lit ?_
   try simp only[stepS,stepD,stepM,eq_self,implies_true,forall_eq_or_imp,forall_eq,Nat.reduceEqDiff,↓reduceIte,Nat.reduceAdd,Nat.reduceLeDiff,Nat.reduceSub,Nat.reduceMul,Nat.reduceLT,Int.reduceBEq,Int.reduceBNe,Int.reduceToNat,Int.reduceLT,Int.reduceLE,Int.reduceAdd,Int.reduceSub,Int.reduceMul,reduceCtorEq,evA,litA,litOk,litPure,appendA,srcA,hlen,List.length_map]
   repeat (refine And.intro (by omega) ?_)
   refine hK _ _ _ ?_
   clear hK K
   refine(show AWP _ _ _ _ _ _ from ?_)
   refine AWP.reg' λK hK=>?_
   try simp only[stepS,stepD,stepM,eq_self,implies_true,forall_eq_or_imp,forall_eq,Nat.reduceEqDiff,↓reduceIte,Nat.reduceAdd,Nat.reduceLeDiff,Nat.reduceSub,Nat.reduceMul,Nat.reduceLT,Int.reduceBEq,Int.reduceBNe,Int.reduceToNat,Int.reduceLT,Int.reduceLE,Int.reduceAdd,Int.reduceSub,Int.reduceMul,reduceCtorEq,w]
   refine hK _ _ _ ?_
   clear hK K
   refine⟨i+1,by omega,by omega,?_⟩
   rw[ht,List.map_append]
   refine Weak.nf [209] _ _ ?_ ?_ ⟨rfl,rfl⟩ (by decide) (by decide) (by decide)
   ·repeat' (first|exact trivial|exact And.intro rfl trivial|refine And.intro ?_ ?_|rfl|exact Nat.le_of_ble_eq_true rfl|(rw[Blk.ren,renL_pure _ (pureL_iff.mpr λx hx=>by rcases List.mem_append.mp hx with hx|hx<;>(obtain⟨y,_,rfl⟩:=List.mem_map.mp hx;trivial))];rfl)|exact belL_pure (pureL_iff.mpr λx hx=>by rcases List.mem_append.mp hx with hx|hx<;>(obtain⟨y,_,rfl⟩:=List.mem_map.mp hx;trivial)))
   ·repeat' (first|exact trivial|exact And.intro rfl trivial|refine And.intro ?_ ?_|rfl|exact Nat.le_of_ble_eq_true rfl|(rw[Blk.ren,renL_pure _ (pureL_iff.mpr λx hx=>by rcases List.mem_append.mp hx with hx|hx<;>(obtain⟨y,_,rfl⟩:=List.mem_map.mp hx;trivial))];rfl)|exact belL_pure (pureL_iff.mpr λx hx=>by rcases List.mem_append.mp hx with hx|hx<;>(obtain⟨y,_,rfl⟩:=List.mem_map.mp hx;trivial)))
  | s b =>
   have hv:(Anyv.s b).v=.val (.iface 9 (.string b)):=rfl
   rw[hv]at hg
   refine AWP.reg' λK hK=>?_
   try simp only[stepS,stepD,stepM,eq_self,implies_true,forall_eq_or_imp,forall_eq,Nat.reduceEqDiff,↓reduceIte,Nat.reduceAdd,Nat.reduceLeDiff,Nat.reduceSub,Nat.reduceMul,Nat.reduceLT,Int.reduceBEq,Int.reduceBNe,Int.reduceToNat,Int.reduceLT,Int.reduceLE,Int.reduceAdd,Int.reduceSub,Int.reduceMul,reduceCtorEq,hg,Int.toNat_natCast,List.length_map]
   repeat (refine And.intro (by omega) ?_)
   refine hK _ _ _ ?_
   clear hK K
   refine AWP.seq' ?_
   refine AWP.reg' λK hK=>?_
   try simp only[stepS,stepD,stepM,eq_self,implies_true,forall_eq_or_imp,forall_eq,Nat.reduceEqDiff,↓reduceIte,Nat.reduceAdd,Nat.reduceLeDiff,Nat.reduceSub,Nat.reduceMul,Nat.reduceLT,Int.reduceBEq,Int.reduceBNe,Int.reduceToNat,Int.reduceLT,Int.reduceLE,Int.reduceAdd,Int.reduceSub,Int.reduceMul,reduceCtorEq]
   refine hK _ _ _ ?_
   clear hK K
   refine AWP.block (AWP.seq' ?_)
   refine AWP.reg' λK hK=>?_
   try simp only[stepS,stepD,stepM,eq_self,implies_true,forall_eq_or_imp,forall_eq,Nat.reduceEqDiff,↓reduceIte,Nat.reduceAdd,Nat.reduceLeDiff,Nat.reduceSub,Nat.reduceMul,Nat.reduceLT,Int.reduceBEq,Int.reduceBNe,Int.reduceToNat,Int.reduceLT,Int.reduceLE,Int.reduceAdd,Int.reduceSub,Int.reduceMul,reduceCtorEq,evA]
   refine hK _ _ _ ?_
   clear hK K
   refine AWP.cond (b:=false) rfl (λh=>by cases h) (λ_=>?_)
   refine AWP.seq' ?_
   refine AWP.reg' λK hK=>?_
   try simp only[stepS,stepD,stepM,eq_self,implies_true,forall_eq_or_imp,forall_eq,Nat.reduceEqDiff,↓reduceIte,Nat.reduceAdd,Nat.reduceLeDiff,Nat.reduceSub,Nat.reduceMul,Nat.reduceLT,Int.reduceBEq,Int.reduceBNe,Int.reduceToNat,Int.reduceLT,Int.reduceLE,Int.reduceAdd,Int.reduceSub,Int.reduceMul,reduceCtorEq,evA]
   refine hK _ _ _ ?_
   clear hK K
   refine AWP.cond (b:=true) rfl (λ_=>?_) (λh=>by cases h)
   refine AWP.seq' ?_
   refine AWP.reg' λK hK=>?_
   try simp only[stepS,stepD,stepM,eq_self,implies_true,forall_eq_or_imp,forall_eq,Nat.reduceEqDiff,↓reduceIte,Nat.reduceAdd,Nat.reduceLeDiff,Nat.reduceSub,Nat.reduceMul,Nat.reduceLT,Int.reduceBEq,Int.reduceBNe,Int.reduceToNat,Int.reduceLT,Int.reduceLE,Int.reduceAdd,Int.reduceSub,Int.reduceMul,reduceCtorEq]
   refine hK _ _ _ ?_
   clear hK K
   refine AWP.reg' λK hK=>?_
   try simp only[stepS,stepD,stepM,eq_self,implies_true,forall_eq_or_imp,forall_eq,Nat.reduceEqDiff,↓reduceIte,Nat.reduceAdd,Nat.reduceLeDiff,Nat.reduceSub,Nat.reduceMul,Nat.reduceLT,Int.reduceBEq,Int.reduceBNe,Int.reduceToNat,Int.reduceLT,Int.reduceLE,Int.reduceAdd,Int.reduceSub,Int.reduceMul,reduceCtorEq]
   refine evT_lit ?_
   try simp only[stepS,stepD,stepM,eq_self,implies_true,forall_eq_or_imp,forall_eq,Nat.reduceEqDiff,↓reduceIte,Nat.reduceAdd,Nat.reduceLeDiff,Nat.reduceSub,Nat.reduceMul,Nat.reduceLT,Int.reduceBEq,Int.reduceBNe,Int.reduceToNat,Int.reduceLT,Int.reduceLE,Int.reduceAdd,Int.reduceSub,Int.reduceMul,reduceCtorEq,evA,litA,litOk,litPure,appendA,srcA,hlen,List.length_map]
   repeat (refine And.intro (by omega) ?_)
   refine hK _ _ _ ?_
   clear hK K
   refine(show AWP _ _ _ _ _ _ from ?_)
   refine AWP.reg' λK hK=>?_
   try simp only[stepS,stepD,stepM,eq_self,implies_true,forall_eq_or_imp,forall_eq,Nat.reduceEqDiff,↓reduceIte,Nat.reduceAdd,Nat.reduceLeDiff,Nat.reduceSub,Nat.reduceMul,Nat.reduceLT,Int.reduceBEq,Int.reduceBNe,Int.reduceToNat,Int.reduceLT,Int.reduceLE,Int.reduceAdd,Int.reduceSub,Int.reduceMul,reduceCtorEq,w]
   refine hK _ _ _ ?_
   clear hK K
   refine⟨i+1,by omega,by omega,?_⟩
   rw[ht,List.map_append]
   refine Weak.nf [241] _ _ ?_ ?_ ⟨rfl,rfl⟩ (by decide) (by decide) (by decide)
   ·repeat' (first|exact trivial|exact And.intro rfl trivial|refine And.intro ?_ ?_|rfl|exact Nat.le_of_ble_eq_true rfl|(rw[Blk.ren,renL_pure _ (pureL_iff.mpr λx hx=>by rcases List.mem_append.mp hx with hx|hx<;>(obtain⟨y,_,rfl⟩:=List.mem_map.mp hx;trivial))];rfl)|exact belL_pure (pureL_iff.mpr λx hx=>by rcases List.mem_append.mp hx with hx|hx<;>(obtain⟨y,_,rfl⟩:=List.mem_map.mp hx;trivial)))
   ·repeat' (first|exact trivial|exact And.intro rfl trivial|refine And.intro ?_ ?_|rfl|exact Nat.le_of_ble_eq_true rfl|(rw[Blk.ren,renL_pure _ (pureL_iff.mpr λx hx=>by rcases List.mem_append.mp hx with hx|hx<;>(obtain⟨y,_,rfl⟩:=List.mem_map.mp hx;trivial))];rfl)|exact belL_pure (pureL_iff.mpr λx hx=>by rcases List.mem_append.mp hx with hx|hx<;>(obtain⟨y,_,rfl⟩:=List.mem_map.mp hx;trivial)))
 ·have h:i=l.length:=by have:=of_decide_eq_false h;omega
  subst h
  refine AWP.exit ?_
  refine(show AWP _ _ _ _ _ _ from ?_)
  rw[List.take_length]
  refine AWP.weak (Weak.giveT 3 0 (by rfl) (by rfl) (pureL_txt l)) ?_
  have e:(l.map λx=>AV.str x.txt)=(l.map Anyv.txt).map AV.str:=by rw[List.map_map];rfl
  rw[e]
  refine AWP.seq' ?_
  refine AWP.reg' λK hK=>?_
  try simp only[stepS,stepD,stepM,eq_self,implies_true,forall_eq_or_imp,forall_eq,Nat.reduceEqDiff,↓reduceIte,Nat.reduceAdd,Nat.reduceLeDiff,Nat.reduceSub,Nat.reduceMul,Nat.reduceLT,Int.reduceBEq,Int.reduceBNe,Int.reduceToNat,Int.reduceLT,Int.reduceLE,Int.reduceAdd,Int.reduceSub,Int.reduceMul,reduceCtorEq]
  refine evT_pure (join_spec (l.map Anyv.txt) (B [32]) (by rw[List.length_map];omega) h2) join_fn rfl (by rfl) ⟨trivial,trivial,trivial⟩ ?_
  try simp only[stepS,stepD,stepM,eq_self,implies_true,forall_eq_or_imp,forall_eq,Nat.reduceEqDiff,↓reduceIte,Nat.reduceAdd,Nat.reduceLeDiff,Nat.reduceSub,Nat.reduceMul,Nat.reduceLT,Int.reduceBEq,Int.reduceBNe,Int.reduceToNat,Int.reduceLT,Int.reduceLE,Int.reduceAdd,Int.reduceSub,Int.reduceMul,reduceCtorEq]
  refine hK _ _ _ ?_
  clear hK K
  exact AWP.ret (finP_ret rfl (by rfl) trivial)
def words_c(l:List Anyv)(h1:l.length≤1000)(h2:(words l).size≤1000000000):PC Tryd.prog:=⟨48,[.s 1],[.sl 1 (l.map Anyv.v) false],.str (words l),words_spec l h1 h2,fnB_ok (by kernel_rfl)⟩
structure A2S where
  s0:ByteArray
  s1:ByteArray
def A2S.v(x:A2S):AV:=.agg [.str x.s0,.str x.s1]
theorem joinTail_len{m k:Nat}{sep:List UInt8}(hs:sep.length≤k):∀{l:List (List UInt8)},(∀x∈l,x.length≤m)→(Lib.joinTail sep l).length≤l.length * (m+k)
 | [],_=>by simp[Lib.joinTail]
 | x::l,h=>by
  have h1:=h x (by simp)
  have h2:=joinTail_len hs (l:=l) λy hy=>h y (by simp[hy])
  have e:Lib.joinTail sep (x::l)=(sep++x)++Lib.joinTail sep l:=by simp[Lib.joinTail]
  rw[e,List.length_append,List.length_append,List.length_cons,Nat.succ_mul]
  omega
theorem ba_len(s:ByteArray):s.data.toList.length=s.size:=by rw[Array.length_toList];rfl
theorem joinB_size{l:List ByteArray}{sep:ByteArray}{m k:Nat}(hm:∀x∈l,x.size≤m)(hs:sep.size≤k):(joinB l sep).size≤l.length * (m+k):=by
 rw[joinB,B_size]
 cases l with
 | nil=>simp[Lib.join_nil]
 | cons x r =>
  rw[List.map_cons,Lib.join_cons,List.length_append]
  have h1:=hm x (by simp)
  have h2:=joinTail_len (m:=m) (k:=k) (sep:=sep.data.toList) (by rw[ba_len];exact hs) (l:=r.map (·.data.toList)) (λy hy=>by
   obtain⟨z,hz,rfl⟩:=List.mem_map.mp hy
   rw[ba_len];exact hm z (by simp[hz]))
  have h3:=ba_len x
  rw[List.length_map]at h2
  rw[List.length_cons,Nat.succ_mul]
  omega
def hopT(a b:Int):ByteArray:=itoa a++B [45]++itoa b
def hopT_a(from_:Int)(to_:Int):Prop:=okL [.int from_,.int to_]
def hopT_e(r:ByteArray):AV:=.str r
def hopT_x(from_:Int)(to_:Int):Ax Tryd.prog noS (ByteArray):=
 (.callP (itoa_c from_)
(.say (ck (decide ((itoa from_).size+(B [45]).size≤maxLen))) (.callP (itoa_c to_)
(.say (ck (decide (((itoa from_)++(B [45])).size+(itoa to_).size≤maxLen))) (.ret (((itoa from_)++(B [45]))++(itoa to_)))))))
def hopT_vc(from_:Int)(to_:Int)(r0:ByteArray):Prop:=(hopT_x from_ to_).vp hopT_e r0
theorem hopT_p(f t:Int)(ok:hopT_a f t):hopT_vc f t (hopT f t):=by
 simp only[hopT_a,okU,Blk.ok,plainV,List.length_map]at ok
 dsimp only[hopT_vc,hopT_x,noS,Ax.vp,Ax.vc];simp only[vcU,rfU,List.length_map]
 have h1:=itoa_len ok.1
 have h2:=itoa_len ok.2
 have h3:(B [45]).size=1:=rfl
 rw[ByteArray.size_append,h3,maxLen_eq]
 exact⟨by omega,by omega,rfl⟩
def hopT_c(from_:Int)(to_:Int):PC Tryd.prog:=⟨47,[.k,.k],[.int from_,.int to_],hopT_e (hopT from_ to_),PSpec.of_ok λok=>mxP_of (sh:=.k) (enc:=hopT_e) (a:=(hopT_x from_ to_).an) (hopT_p from_ to_ ok) (by kernel_rfl) (AV.pureB_ok rfl),fnB_ok (by kernel_rfl)⟩
theorem hopT_size{a b:Int}(h1:-9223372036854775808≤a∧a≤9223372036854775807)(h2:-9223372036854775808≤b∧b≤9223372036854775807):(hopT a b).size≤43:=by
 have h1:=itoa_len h1
 have h2:=itoa_len h2
 have h3:(B [45]).size=1:=rfl
 rw[hopT,ByteArray.size_append,ByteArray.size_append];omega
def listT(l:List Int):ByteArray:=if l=[]then B [46]else joinB (l.map itoa) (B [44])
def listT_a(l:(List Int)):Prop:=okL [.sl 1 (l.map AV.int) false]
def listT_n0(l:(List Int))(t0:Int×(List ByteArray)):NF:=⟨[(3,.k,.vec 0),(9,.k,.sl 1 (l.map AV.int) false),(10,.k,.int ((l.map AV.int).length:Int)),(11,.k,.int t0.1)],[.vec 1 (t0.2.map AV.str) (pureBL_map (λ_=>rfl) t0.2)]⟩
@[reducible] def listT_s:Nat→Type
 | 0=>Int×(List ByteArray)
 | _=>Unit
def listT_e(r:ByteArray):AV:=.str r
def listT_x(l:(List Int))(I0:(Int×(List ByteArray))→Prop)(m0:(Int×(List ByteArray))→Nat):Ax Tryd.prog listT_s (ByteArray):=
 (.br 64 (((l.map AV.int).length:Int)==0) (.ret (B [46]))
(.cmdL (.nilT 3 1) (.loop 0 (listT_n0 l) I0 m0 (0,[]) [128] λ(t0:Int×(List ByteArray)) b0 =>
(.br 17 (decide (t0.1<((l.map AV.int).length:Int))) (.el 17 AV.int l (λR=>Rf (l.map AV.int) (ck (decide (0≤t0.1)) (ck (decide (t0.1<(l.length:Int)))
(∀x1,l[t0.1.toNat]?=some x1 →
(R x1))))) λx1 =>
(.callP (itoa_c x1)
(.say (λR=>Rf (α:=List AV) (t0.2.map AV.str) (Rf (α:=List AV) [.str (itoa x1)]
(ck (decide (t0.2.length+1≤1048576))
R))) (.app 129 AV.str t0.2 [itoa x1]
(.bk 0 b0 (W (t0.1+1),t0.2++[itoa x1]) [129])))))
(.req 33 (t0.2.length≤1048576) λh2 =>
(.req 33 ((joinB t0.2 (B [44])).size≤1000000000) λh3 =>
(.callP (join_c t0.2 (B [44]) h2 h3)
(.say (ck (pureBLs [(t0.2.map AV.str)])) (.ret (joinB t0.2 (B [44])))))))))))
def listT_vc(l:(List Int))(I0:(Int×(List ByteArray))→Prop)(m0:(Int×(List ByteArray))→Nat)(r0:ByteArray):Prop:=(listT_x l I0 m0).vp listT_e r0
theorem listT_p(l:List Int)(h:l.length≤1048576)(ok:listT_a l):∃I m,listT_vc l I m (listT l):=by
 refine⟨λt=>∃k:Nat,t.1=k∧k≤l.length∧t.2=(l.take k).map itoa,λt=>l.length-t.1.toNat,?_⟩
 simp only[listT_a,okU,Blk.ok,plainV,List.length_map]at ok
 dsimp only[listT_vc,listT_x,listT_s,Ax.vp,Ax.vc];simp only[vcU,rfU,List.length_map]
 have hin:∀x∈l,-9223372036854775808≤x∧x≤9223372036854775807:=λx hx=>by
  have:=okL_iff.mp ok.2 _ (List.mem_map_of_mem hx)
  simpa only[okU,plainV]using this
 refine⟨λc=>?_,λc=>⟨⟨0,rfl,by omega,rfl⟩,?_⟩⟩
 ·have:l=[]:=List.eq_nil_of_length_eq_zero (by have:=eq_of_beq c;omega)
  rw[listT,if_pos this]
 ·have hne:¬l=[]:=λe=>by subst e;simp at c
  rintro⟨i,r⟩ ⟨k,hi,hk,hr⟩
  simp only at hi hr ⊢
  subst hi;subst hr
  simp only[Int.toNat_natCast]
  refine⟨λc1=>⟨by omega,by omega,λx hx=>⟨by simp;omega,⟨k+1,W_succ (n:=l.length) (by omega) (by omega),by omega,by rw[take_succ hx,List.map_append];rfl⟩,by rw[W_succ (n:=l.length) (by omega) (by omega)];omega⟩⟩,λc1=>?_⟩
  have hkl:k=l.length:=by omega
  subst hkl
  rw[List.take_length]
  have hs:=joinB_size (l:=l.map itoa) (sep:=B [44]) (m:=21) (k:=1) (λx hx=>by
   obtain⟨y,hy,rfl⟩:=List.mem_map.mp hx
   exact itoa_len (hin y hy)) (Nat.le_refl _)
  rw[List.length_map]at hs
  exact⟨by simp;omega,by omega,cond_true_iff.mpr ⟨pureBL_map (λ_=>rfl) _,rfl⟩,by rw[listT,if_neg hne]⟩
def listT_c(l:(List Int))(h:l.length≤1048576):PC Tryd.prog:=⟨43,[(.s 1)],[.sl 1 (l.map AV.int) false],listT_e (listT l),PSpec.of_ok λok=>(listT_p l h ok).elim λI0 h=>h.elim λm0 h=>mxP_of (sh:=.k) (enc:=listT_e) (a:=(listT_x l I0 m0).an) h (by kernel_rfl) (AV.pureB_ok rfl),fnB_ok (by kernel_rfl)⟩
theorem listT_size{l:List Int}(h:∀x∈l,-9223372036854775808≤x∧x≤9223372036854775807):(listT l).size≤1+l.length * 22:=by
 unfold listT
 split
 ·have:(B [46]).size=1:=rfl
  omega
 ·have hs:=joinB_size (l:=l.map itoa) (sep:=B [44]) (m:=21) (k:=1) (λx hx=>by
   obtain⟨y,hy,rfl⟩:=List.mem_map.mp hx
   exact itoa_len (h y hy)) (Nat.le_refl _)
  rw[List.length_map]at hs
  omega
def fltT(f:Flt):ByteArray:=
 if f.mode=1 then(if f.srcs=[]then B [110,111,116,104,105,110,103]else B [111,110,108,121,32]++listT f.srcs)
 else if f.mode=2 then(if f.srcs=[]then B [97,108,108]else B [97,108,108,32,98,117,116,32]++listT f.srcs)
 else B [63]
def fltT_a(f:Flt):Prop:=okL [.agg [.int f.mode,.sl 1 (f.srcs.map AV.int) false]]
def fltT_e(r:ByteArray):AV:=.str r
def fltT_x(f:Flt):Ax Tryd.prog noS (ByteArray):=
 (.mn 160 (mnGetI A2S.v ([(1,(⟨B [110,111,116,104,105,110,103],B [111,110,108,121,32]⟩:A2S)),(2,(⟨B [97,108,108],B [97,108,108,32,98,117,116,32]⟩:A2S))]:List (Int×A2S)) f.mode (⟨B [],B []⟩:A2S)) (.br 320 (!(mhas ([(1,(⟨B [110,111,116,104,105,110,103],B [111,110,108,121,32]⟩:A2S)),(2,(⟨B [97,108,108],B [97,108,108,32,98,117,116,32]⟩:A2S))]:List (Int×A2S)) f.mode)) (.ret (B [63]))
(.br 400 (((f.srcs.map AV.int).length:Int)==0) (.ret ((mval ([(1,(⟨B [110,111,116,104,105,110,103],B [111,110,108,121,32]⟩:A2S)),(2,(⟨B [97,108,108],B [97,108,108,32,98,117,116,32]⟩:A2S))]:List (Int×A2S)) f.mode (⟨B [],B []⟩:A2S)).s0))
(.req 464 (f.srcs.length≤1048576) λh1 =>
(.callP (listT_c f.srcs h1)
(.say (ck (decide (((mval ([(1,(⟨B [110,111,116,104,105,110,103],B [111,110,108,121,32]⟩:A2S)),(2,(⟨B [97,108,108],B [97,108,108,32,98,117,116,32]⟩:A2S))]:List (Int×A2S)) f.mode (⟨B [],B []⟩:A2S)).s1).size+(listT f.srcs).size≤maxLen))) (.ret (((mval ([(1,(⟨B [110,111,116,104,105,110,103],B [111,110,108,121,32]⟩:A2S)),(2,(⟨B [97,108,108],B [97,108,108,32,98,117,116,32]⟩:A2S))]:List (Int×A2S)) f.mode (⟨B [],B []⟩:A2S)).s1)++(listT f.srcs)))))))))
def fltT_vc(f:Flt)(r0:ByteArray):Prop:=(fltT_x f).vp fltT_e r0
theorem fltT_p(f:Flt)(h:f.srcs.length≤1048576)(ok:fltT_a f):fltT_vc f (fltT f):=by
 simp only[fltT_a,okU,Blk.ok,plainV,List.length_map]at ok
 dsimp only[fltT_vc,fltT_x,noS,Ax.vp,Ax.vc];simp only[vcU,rfU,List.length_map]
 have hin:∀x∈f.srcs,-9223372036854775808≤x∧x≤9223372036854775807:=λx hx=>by
  have:=okL_iff.mp ok.2.2 _ (List.mem_map_of_mem hx)
  simpa only[okU,plainV]using this
 have hs:=listT_size hin
 have hml:=maxLen_eq
 have c1:(B [111,110,108,121,32]).size=5:=rfl
 have c2:(B [97,108,108,32,98,117,116,32]).size=8:=rfl
 by_cases m1:f.mode=1
 ·refine⟨λh=>by simp[mhas,mkeys,m1]at h,λ_=>⟨λe=>?_,λe=>⟨h,?_,?_⟩⟩⟩
  ·have e:f.srcs=[]:=List.eq_nil_of_length_eq_zero (by have:=eq_of_beq e;omega)
   simp[mval,midx,mkeys,m1,fltT,e,List.idxOf_cons]
  ·simp[mval,midx,mkeys,m1,List.idxOf_cons];omega
  ·have e:¬f.srcs=[]:=λq=>by simp[q]at e
   simp[mval,midx,mkeys,m1,fltT,e,List.idxOf_cons]
 by_cases m2:f.mode=2
 ·refine⟨λh=>by simp[mhas,mkeys,m2]at h,λ_=>⟨λe=>?_,λe=>⟨h,?_,?_⟩⟩⟩
  ·have e:f.srcs=[]:=List.eq_nil_of_length_eq_zero (by have:=eq_of_beq e;omega)
   simp[mval,midx,mkeys,m2,fltT,e,List.idxOf_cons]
  ·simp[mval,midx,mkeys,m2,List.idxOf_cons];omega
  ·have e:¬f.srcs=[]:=λq=>by simp[q]at e
   simp[mval,midx,mkeys,m2,fltT,e,List.idxOf_cons]
 ·refine⟨λ_=>by rw[fltT,if_neg m1,if_neg m2],λh=>by simp[mhas,mkeys,m1,m2]at h⟩
def fltT_c(f:Flt)(h:f.srcs.length≤1048576):PC Tryd.prog:=⟨12,[(.a [.k,(.s 1)])],[.agg [.int f.mode,.sl 1 (f.srcs.map AV.int) false]],fltT_e (fltT f),PSpec.of_ok λok=>mxP_of (sh:=.k) (enc:=fltT_e) (a:=(fltT_x f).an) (fltT_p f h ok) (by kernel_rfl) (AV.pureB_ok rfl),fnB_ok (by kernel_rfl)⟩
end Go.Proofs.YteooglpnechplaaDoor
namespace Go.Proofs.YteooglpnechplaaDoor
open Go Go.Am
structure Itm where
  ver:Int
  grp:Int
  mode:Int
  srcs:List Int
  deriving DecidableEq
structure Per where
  router:Int
  epoch:Int
  acked:Int
  deriving DecidableEq
structure Spk where
  router:Int
  epoch:Int
  last:Int
  items:List Itm
  peers:List Per
  deriving DecidableEq
structure Hrd where
  router:Int
  epoch:Int
  ver:Int
  items:List Itm
  deriving DecidableEq
def itmOk(last:Int)(x:Itm):Prop:=(1≤x.ver∧x.ver≤last)∧(1≤x.grp∧x.grp≤99)∧fltErr x.mode x.srcs=0
instance (last:Int) (x:Itm):Decidable (itmOk last x):=by unfold itmOk;infer_instance
def itmsOk(last:Int)(l:List Itm):Prop:=(∀x∈l,itmOk last x)∧(l.map Itm.grp).Nodup∧l.Pairwise λx y=>x.ver<y.ver
instance (last:Int) (l:List Itm):Decidable (itmsOk last l):=by unfold itmsOk;infer_instance
def perOk(r last:Int)(p:Per):Prop:=(1≤p.router∧p.router≤99)∧p.router≠r∧(0≤p.epoch∧p.epoch≤1000000)∧(0≤p.acked∧p.acked≤last)
instance (r last:Int) (p:Per):Decidable (perOk r last p):=by unfold perOk;infer_instance
def spkOk(s:Spk):Prop:=(1≤s.router∧s.router≤99)∧(1≤s.epoch∧s.epoch≤1000000)∧(0≤s.last∧s.last≤1000000)∧itmsOk s.last s.items∧s.peers.length≤12 ∧
 (∀p∈s.peers,perOk s.router s.last p)∧s.peers.Pairwise λx y=>x.router<y.router
instance (s:Spk):Decidable (spkOk s):=by unfold spkOk;infer_instance
def without(g:Int)(l:List Itm):List Itm:=l.filter λx=>decide (x.grp≠g)
def told(l:List Itm)(g:Int):Int×List Int:=match l.find? λx=>decide (x.grp=g)with
 | some x=>(x.mode,x.srcs)
 | none=>(1,[])
def spk0:Spk:=⟨0,0,0,[],[]⟩
abbrev SR:=Spk×Int
def new(r k:Int)(p:List Int):SR:=
 let s:Spk:=⟨r,k,0,[],p.map λx=>⟨x,0,0⟩⟩
 if spkOk s then(s,0)else(spk0,1)
def posH(l:List Hrd)(r:Int):Nat:=l.findIdx λp=>!decide (p.router<r)
def hrd0:Hrd:=⟨0,0,0,[]⟩
def hitH(l:List Hrd)(r:Int):Prop:=posH l r<l.length∧(l.getD (posH l r) hrd0).router=r
instance (l:List Hrd) (r:Int):Decidable (hitH l r):=by unfold hitH;infer_instance
def base(l:List Hrd)(r:Int):List Hrd:=if hitH l r then l else insAt l (posH l r) ⟨r,0,0,[]⟩
end Go.Proofs.YteooglpnechplaaDoor
namespace Go.Proofs.YteooglpnechplaaDoor
open Go Go.Am Go.RowKit
structure Hop where
  a:Int
  b:Int
  deriving DecidableEq
structure Tre where
  root:Int
  ls:List Hop
  deriving DecidableEq
def Hop.v(x:Hop):AV:=.agg [.int x.a,.int x.b]
abbrev in64(x:Int):Prop:=-9223372036854775808≤x∧x≤9223372036854775807
def treT(t:Tre):ByteArray:=t.ls.foldl (λo h=>o++(B [32]++hopT h.a h.b)) (itoa t.root)
theorem foldl_take{α β:Type}(f:β→α→β)(b:β){l:List α}{k:Nat}{x:α}(hx:l[k]?=some x):(l.take (k+1)).foldl f b=f ((l.take k).foldl f b) x:=by rw[take_succ hx,List.foldl_append];rfl
def treT_a(t:Tre):Prop:=okL [.agg [.int t.root,.sl 2 (t.ls.map Hop.v) false]]
def treT_n0(t:Tre)(t0:ByteArray×Int):NF:=⟨[(3,.k,.str t0.1),(10,.k,.sl 2 (t.ls.map Hop.v) false),(11,.k,.int ((t.ls.map Hop.v).length:Int)),(12,.k,.int t0.2)],[]⟩
@[reducible] def treT_s:Nat→Type
 | 0=>ByteArray×Int
 | _=>Unit
def treT_e(r:ByteArray):AV:=.str r
def treT_x(t:Tre)(I0:(ByteArray×Int)→Prop)(m0:(ByteArray×Int)→Nat):Ax Tryd.prog treT_s (ByteArray):=
 (.callP (itoa_c t.root)
(.loop 0 (treT_n0 t) I0 m0 (itoa t.root,0) [] λ(t0:ByteArray×Int) b0 =>
(.br 16 (decide (t0.2<((t.ls.map Hop.v).length:Int))) (.el 16 Hop.v t.ls (λR=>Rf (t.ls.map Hop.v) (ck (decide (0≤t0.2)) (ck (decide (t0.2<(t.ls.length:Int)))
(∀x1,t.ls[t0.2.toNat]?=some x1 →
(R x1))))) λx1 =>
(.callP (hopT_c x1.a x1.b)
(.say (λR=>ck (decide ((B [32]).size+(hopT x1.a x1.b).size≤maxLen))
((ck (decide (t0.1.size+((B [32])++(hopT x1.a x1.b)).size≤maxLen))
R))) (.bk 0 b0 (t0.1++((B [32])++(hopT x1.a x1.b)),W (t0.2+1)) []))))
(.ret (t0.1)))))
def treT_vc(t:Tre)(I0:(ByteArray×Int)→Prop)(m0:(ByteArray×Int)→Nat)(r0:ByteArray):Prop:=(treT_x t I0 m0).vp treT_e r0
theorem treT_p(t:Tre)(h:t.ls.length≤1000)(ok:treT_a t):∃I m,treT_vc t I m (treT t):=by
 refine⟨λq=>∃k:Nat,q.2=k∧k≤t.ls.length∧q.1=(t.ls.take k).foldl (λo h=>o++(B [32]++hopT h.a h.b)) (itoa t.root)∧q.1.size≤21+k * 44,λq=>t.ls.length-q.2.toNat,?_⟩
 simp only[treT_a,okU,Blk.ok,plainV,List.length_map]at ok
 dsimp only[treT_vc,treT_x,treT_s,Ax.vp,Ax.vc];simp only[vcU,rfU,List.length_map]
 have hml:=maxLen_eq
 have hin:∀x∈t.ls,in64 x.a∧in64 x.b:=λx hx=>by
  have:=okL_iff.mp ok.2.2 _ (List.mem_map_of_mem hx)
  simp only[Hop.v,okU,plainV]at this
  exact this
 refine⟨⟨0,rfl,by omega,rfl,itoa_len ok.1⟩,?_⟩
 rintro⟨o,i⟩ ⟨k,hi,hk,ho,hs⟩
 simp only at hi ho hs ⊢
 subst hi
 simp only[Int.toNat_natCast]
 refine⟨λc1=>⟨by omega,by omega,λx hx=>?_⟩,λc1=>?_⟩
 ·have hh:=hopT_size (hin x (mem_of_get hx)).1 (hin x (mem_of_get hx)).2
  have h3:(B [32]).size=1:=rfl
  have h5:(B [32]++hopT x.a x.b).size=1+(hopT x.a x.b).size:=by rw[ByteArray.size_append,h3]
  refine⟨by omega,by omega,⟨k+1,W_succ (n:=t.ls.length) (by omega) (by omega),by omega,by rw[foldl_take _ _ hx,←ho],?_⟩,by rw[W_succ (n:=t.ls.length) (by omega) (by omega)];omega⟩
  rw[ByteArray.size_append];omega
 ·rw[ho,treT,List.take_of_length_le (by omega)]
def treT_c(t:Tre)(h:t.ls.length≤1000):PC Tryd.prog:=⟨16,[(.a [.k,(.s 2)])],[.agg [.int t.root,.sl 2 (t.ls.map Hop.v) false]],treT_e (treT t),PSpec.of_ok λok=>(treT_p t h ok).elim λI0 h=>h.elim λm0 h=>mxP_of (sh:=.k) (enc:=treT_e) (a:=(treT_x t I0 m0).an) h (by kernel_rfl) (AV.pureB_ok rfl),fnB_ok (by kernel_rfl)⟩
end Go.Proofs.YteooglpnechplaaDoor
namespace Go.Proofs.YteooglpnechplaaDoor
open Go Go.Am
mutual
theorem AV.ren_id:∀x:AV,x.ren (λb=>b)=x
  | .agg cs=>by rw[AV.ren,renL_id cs]
  | .tup xs=>by rw[AV.ren,renL_id xs]
  | .func f caps=>by rw[AV.ren,renL_id caps]
  | .ref _ _=>rfl
  | .eref _ _ _=>rfl
  | .vec _=>rfl
  | .vsub _ _ _=>rfl
  | .asub _ _ _ _=>rfl
  | .val _=>rfl
  | .rptr _ _=>rfl
  | .sl _ _ _=>rfl
  | .mref _=>rfl
  | .mp _ _ _=>rfl
  | .unk=>rfl
theorem renL_id:∀xs:List AV,renL (λb=>b) xs=xs
  | []=>rfl
  | x::xs=>by rw[renL,AV.ren_id x,renL_id xs]
end
def F0(i:Nat):Nat:=1000+i
theorem famPi_id:famPi (λb=>b) F0=λb=>b:=by
 funext b;show(if 1000≤b∧b<2000 then 1000+(b-1000)else b)=b;split<;>omega
def F1(i f j:Nat):Nat:=if j=i then f else 1000+j
theorem names_bel(n:Nat)(h:n≤1000):belL 2000 (names n):=by
 unfold names
 have:∀l:List Nat,(∀i∈l,i<1000)→belL 2000 (l.map λi=>AV.vec (F i)):=by
  intro l
  induction l with
  | nil=>intro _;trivial
  | cons a l ih=>intro h;exact⟨by have:=h a (by simp);show F a<2000;unfold F;omega,ih λi hi=>h i (by simp[hi])⟩
 exact this _ λi hi=>by have:=List.mem_range.mp hi;omega
theorem belL_app{k:Nat}:∀{xs ys:List AV},belL k xs→belL k ys→belL k (xs++ys)
 | [],_,_,h=>h
 | _::_,_,h,h'=>⟨h.1,belL_app h.2 h'⟩
theorem belL_rep{k n:Nat}{x:AV}(h:x.bel k):belL k (List.replicate n x):=by
 induction n with
 | zero=>trivial
 | succ n ih=>exact⟨h,ih⟩
theorem renL_app{π:Nat→Nat}(xs ys:List AV):renL π (xs++ys)=renL π xs++renL π ys:=by rw[renL_map,renL_map,renL_map,List.map_append]
theorem names_ren(n:Nat)(bs fs:Nat→Nat)(h:n≤1000):renL (famPi bs fs) (names n)=(List.range n).map λi=>.vec (fs i):=by
 rw[renL_map,names,List.map_map]
 refine List.map_congr_left λi hi=>?_
 have:=List.mem_range.mp hi
 show AV.vec (famPi bs fs (F i))=_
 rw[famPi_F (by omega)]
abbrev nilR:AV:=.sl 1 [] false
def rowsN(i m:Nat):List AV:=names i++List.replicate m nilR
theorem rowsN_len(i m:Nat):(rowsN i m).length=i+m:=by simp[rowsN,names_len]
theorem rowsN_new{i m f:Nat}(h:i≤999)(bs:Nat→Nat):renL (famPi bs (F1 i f)) (rowsN (i+1) m)=(rowsN i (m+1)).set i (.vec f):=by
 rw[rowsN,renL_app,names_ren _ _ _ (by omega),renL_pure _ (pureL_iff.mpr λx hx=>by rw[(List.mem_replicate.mp hx).2];trivial),rowsN,List.set_append_right _ _ (by rw[names_len];exact Nat.le_refl _),names_len,Nat.sub_self,
  List.replicate_succ,List.set_cons_zero,List.range_succ,List.map_append,List.map_cons,List.map_nil,names,List.append_assoc]
 have e:(List.range i).map (λj=>AV.vec (F1 i f j))=(List.range i).map λj=>.vec (F j):=List.map_congr_left λj hj=>by
  have:=List.mem_range.mp hj
  simp[F1,F,show j≠i by omega]
 rw[e];simp[F1]
theorem rowsN_bel{i m:Nat}(h:i≤1000):belL 2000 (rowsN i m):=belL_app (names_bel i h) (belL_rep trivial)
theorem F1_inj{i f m:Nat}(hm:m≤1000)(hf:2000≤f):∀a b,a<m→b<m→F1 i f a=F1 i f b→a=b:=λa b ha hb h=>by
 unfold F1 at h;split at h<;>split at h<;>omega
def topo_c2:AC:=.seq (.reg [⟨(some 41),.move (.t 9),none⟩,⟨(some 42),.len (.t 41),none⟩,⟨(some 43),.move (.c (.val (.int .i64 0))),none⟩])
 (.block 2 (.loop (.seq (.reg [⟨(some 44),.bin .lss (.t 43) (.t 42),none⟩])
 (.seq (.cond (.t 44) (.skip) (.exit 2))
 (.seq (.block 3 (.seq (.reg [⟨(some 45),.move (.t 43),none⟩,⟨(some 10),.move (.t 45),none⟩])
 (.reg [⟨(some 46),.move (.t 9),none⟩,⟨(some 47),.move (.t 10),none⟩,⟨(some 48),.move (.t 5),none⟩,⟨(some 49),.mks 1 1 (.val (.bool false)) (.t 48) (.t 48),none⟩,⟨(some 50),.iaddr 1 (.t 46) (.t 47),none⟩,⟨none,.store 1 (.t 50) (.t 49),none⟩])))
 (.reg [⟨(some 51),.bin .add (.t 43) (.c (.val (.int .i64 1))),none⟩,⟨(some 43),.move (.t 51),none⟩]))))))
def topo_m1(L:List Int)(p:Nat)(rs:List Rtr)(n:Int):NF:=
  ⟨[(0,.k,.ref 0 0),(4,.k,.ref 1 0),(5,.k,.int n),(6,.k,.ref 2 0),(9,.k,.vec 4)],
   [.box (Tap.v ⟨L,p⟩),.box (.agg [.sl 0 [] true,.sl 0 [] true]),.box (.agg [.vec 3,.sl 0 [] true]),.vec 2 (rs.map Rtr.v) (pureBL_map (λ_=>rfl) rs),.vec 1 ((List.replicate n.toNat ([]:List Bool)).map (λl=>AV.sl 1 (l.map AV.bool) false)) (pureBL_map (λ_=>rfl) _)]⟩
def topoH(L:List Int)(p:Nat)(rs:List Rtr)(es:List AV):List (Option Blk):=
 [some (.box (Tap.v ⟨L,p⟩)),some (.box (.agg [.sl 0 [] true,.sl 0 [] true])),some (.box (.agg [.vec 3,.sl 0 [] true])),some (.vec 2 (rs.map Rtr.v)),some (.vec 1 es)]
def topoS(L:List Int)(p:Nat)(rs:List Rtr)(n:Int)(M:List (List Bool)):S3:=
 ⟨resT [(0,.ref 0 0),(4,.ref 1 0),(5,.int n),(6,.ref 2 0),(9,.vec 4)],G M (hpL 0 (topoH L p rs (names n.toNat))),2000⟩
theorem pureL_rtr(rs:List Rtr):pureL (rs.map Rtr.v):=pureBL_ok (pureBL_map (λ_=>rfl) rs)
theorem topoH_ren{L:List Int}{p:Nat}{rs:List Rtr}{es es':List AV}{hp:Hp}{fs:Nat→Nat}(h0:hp 0=some (.box (Tap.v ⟨L,p⟩)))(h1:hp 1=some (.box (.agg [.sl 0 [] true,.sl 0 [] true])))(h2:hp 2=some (.box (.agg [.vec 3,.sl 0 [] true])))(h3:hp 3=some (.vec 2 (rs.map Rtr.v)))
  (h4:hp 4=some (.vec 1 es')) (he:renL (famPi (λb=>b) fs) es=es') (hb:belL 2000 es):∀i x,(topoH L p rs es)[i]?=some (some x)→hp i=some (x.ren (famPi (λb=>b) fs))∧x.bel 2000:=by
 intro i x h
 rcases i with _|_|_|_|_|i
 ·cases h;exact⟨by rw[h0];rfl,⟨trivial,trivial,trivial⟩⟩
 ·cases h;exact⟨by rw[h1];rfl,⟨trivial,trivial,trivial⟩⟩
 ·cases h;exact⟨by rw[h2];rfl,⟨show 3<2000 by omega,trivial,trivial⟩⟩
 ·cases h;exact⟨by rw[h3,Blk.ren,renL_pure _ (pureL_rtr rs)],belL_pure (pureL_rtr rs)⟩
 ·cases h;exact⟨by rw[h4,Blk.ren,he],hb⟩
 ·simp[topoH]at h
theorem topoH_F{L:List Int}{p:Nat}{rs:List Rtr}{es:List AV}{hp:Hp}(h0:hp 0=some (.box (Tap.v ⟨L,p⟩)))(h1:hp 1=some (.box (.agg [.sl 0 [] true,.sl 0 [] true])))(h2:hp 2=some (.box (.agg [.vec 3,.sl 0 [] true])))(h3:hp 3=some (.vec 2 (rs.map Rtr.v)))
  (h4:hp 4=some (.vec 1 es)) (hb:belL 2000 es):∀i x,(topoH L p rs es)[i]?=some (some x)→hp i=some (x.ren (famPi (λb=>b) F0))∧x.bel 2000:=
 topoH_ren h0 h1 h2 h3 h4 (by rw[famPi_id,renL_id]) hb
theorem G4(rows:List (List Bool))(h:Hp):G rows h 4=h 4:=G_lo (by decide)
theorem topo_h2(L:List Int)(p:Nat)(rs:List Rtr)(n:Int)(hn:1≤n∧n≤100)(k:Nat):HandOk Tryd.prog 1 k topo_c2 (topo_m1 L p rs n).st (topoS L p rs n (sq0 n.toNat)):=by
 obtain⟨N,rfl⟩:∃N:Nat,n=N:=⟨n.toNat,by omega⟩
 simp only[topoS,Int.toNat_natCast]
 unfold HandOk topo_c2
 show AWP _ 1 k _ _ ⟨resT [(0,.ref 0 0),(4,.ref 1 0),(5,.int N),(6,.ref 2 0),(9,.vec 4)],hpL 0 (topoH L p rs ((List.replicate N ([]:List Bool)).map (λl=>AV.sl 1 (l.map AV.bool) false))),5⟩
 have hnil:(List.replicate N ([]:List Bool)).map (λl=>AV.sl 1 (l.map AV.bool) false)=rowsN 0 N:=by rw[List.map_replicate,rowsN,names];rfl
 rw[hnil]
 refine AWP.seq' ?_
 refine AWP.reg' λK hK=>?_
 try simp only[stepS,stepD,stepM,eq_self,implies_true,forall_eq_or_imp,forall_eq,Nat.reduceEqDiff,↓reduceIte,Nat.reduceAdd,Nat.reduceLeDiff,Nat.reduceSub,Nat.reduceMul,Nat.reduceLT,Int.reduceBEq,Int.reduceBNe,Int.reduceToNat,Int.reduceLT,Int.reduceLE,Int.reduceAdd,Int.reduceSub,Int.reduceMul,reduceCtorEq,topoH,lenA,rowsN_len]
 refine hK _ _ _ ?_
 clear hK K
 refine AWP.block ?_
 refine AWP.loopS (λi=>⟨resT [(0,.ref 0 0),(4,.ref 1 0),(5,.int N),(6,.ref 2 0),(9,.vec 4),(42,.int N),(43,.int (i:Nat))],G (List.replicate i (List.replicate N false)) (hpL 0 (topoH L p rs (rowsN i (N-i)))),2000⟩)
  (λi=>i≤N) (λi=>N-i) (i0:=0) (Nat.zero_le _) ?_ ?_
 ·refine Weak.nfG _ _ _ (λb=>b) F0 ?_ (topoH_F rfl rfl rfl rfl rfl (rowsN_bel (by omega))) (by simp[topoH]) (by simp) (by simp) (λi j _ _ h=>h) (λi j _ _ h=>by unfold F0 at h;omega) (λi j h1 h2=>by simp at h2) (λb _=>rfl) (by decide)
  simp only[List.forall_mem_cons,List.not_mem_nil,false_implies,implies_true,and_true]
  exact⟨⟨rfl,show 0<2000 by omega⟩,⟨rfl,show 1<2000 by omega⟩,⟨rfl,trivial⟩,⟨rfl,show 2<2000 by omega⟩,⟨rfl,show 4<2000 by omega⟩,⟨rfl,trivial⟩,rfl,trivial⟩
 ·intro i hi
  refine AWP.seq' ?_
  refine AWP.reg' λK hK=>?_
  try simp only[stepS,stepD,stepM,eq_self,implies_true,forall_eq_or_imp,forall_eq,Nat.reduceEqDiff,↓reduceIte,Nat.reduceAdd,Nat.reduceLeDiff,Nat.reduceSub,Nat.reduceMul,Nat.reduceLT,Int.reduceBEq,Int.reduceBNe,Int.reduceToNat,Int.reduceLT,Int.reduceLE,Int.reduceAdd,Int.reduceSub,Int.reduceMul,reduceCtorEq,topoH]
  refine hK _ _ _ ?_
  clear hK K
  refine AWP.seq' ?_
  refine AWP.cond (b:=decide ((i:Int)<(N:Int))) rfl (λh=>?_) (λh=>?_)
  ·have h:i<N:=by have:=of_decide_eq_true h;omega
   refine AWP.skip ?_
   refine AWP.seq' (AWP.block (AWP.seq' ?_))
   refine AWP.reg' λK hK=>?_
   try simp only[stepS,stepD,stepM,eq_self,implies_true,forall_eq_or_imp,forall_eq,Nat.reduceEqDiff,↓reduceIte,Nat.reduceAdd,Nat.reduceLeDiff,Nat.reduceSub,Nat.reduceMul,Nat.reduceLT,Int.reduceBEq,Int.reduceBNe,Int.reduceToNat,Int.reduceLT,Int.reduceLE,Int.reduceAdd,Int.reduceSub,Int.reduceMul,reduceCtorEq]
   refine hK _ _ _ ?_
   clear hK K
   have hml:=maxLen_eq
   have hg:(rowsN i (N-i)).getD i .unk=nilR:=by
    rw[rowsN,List.getD_eq_getElem?_getD,List.getElem?_append_right (by rw[names_len];exact Nat.le_refl _),names_len,Nat.sub_self,List.getElem?_replicate,if_pos (by omega)];rfl
   have hs1:nilR.solid=true:=rfl
   have hc1:nilR.cells=[nilR]:=rfl
   have hv1:setPart nilR 0 (.vec 2096)=.vec 2096:=rfl
   refine AWP.reg' λK hK=>?_
   try simp only[stepS,stepD,stepM,eq_self,implies_true,forall_eq_or_imp,forall_eq,Nat.reduceEqDiff,↓reduceIte,Nat.reduceAdd,Nat.reduceLeDiff,Nat.reduceSub,Nat.reduceMul,Nat.reduceLT,Int.reduceBEq,Int.reduceBNe,Int.reduceToNat,Int.reduceLT,Int.reduceLE,Int.reduceAdd,Int.reduceSub,Int.reduceMul,reduceCtorEq,G4,topoH,rowsN_len,Int.toNat_natCast,hg,hs1,hc1,hv1]
   refine⟨⟨by omega,by omega,by omega⟩,⟨by omega,by omega⟩,by omega,?_⟩
   refine hK _ _ _ ?_
   clear hK K
   refine(show AWP _ _ _ _ _ _ from ?_)
   have w:IntKind.i64.wrap ((i:Int)+1)=((i+1:Nat):Int):=wrapN (by omega) (by omega)
   refine AWP.reg' λK hK=>?_
   try simp only[stepS,stepD,stepM,eq_self,implies_true,forall_eq_or_imp,forall_eq,Nat.reduceEqDiff,↓reduceIte,Nat.reduceAdd,Nat.reduceLeDiff,Nat.reduceSub,Nat.reduceMul,Nat.reduceLT,Int.reduceBEq,Int.reduceBNe,Int.reduceToNat,Int.reduceLT,Int.reduceLE,Int.reduceAdd,Int.reduceSub,Int.reduceMul,reduceCtorEq,w]
   refine hK _ _ _ ?_
   clear hK K
   refine⟨i+1,by omega,by omega,?_⟩
   refine Weak.nfG _ _ _ (λb=>b) (F1 i 2096) ?_ (topoH_ren rfl rfl rfl rfl rfl ?_ (rowsN_bel (by omega))) (by simp[topoH]) (by simp;omega) ?_ (λa b _ _ h=>h) (F1_inj (by simp;omega) (by decide)) (λa b h1 h2 h=>by simp[topoH]at h1;unfold F1 at h;split at h<;>omega) (λb _=>rfl) (by decide)
   ·simp only[List.forall_mem_cons,List.not_mem_nil,false_implies,implies_true,and_true]
    exact⟨⟨rfl,show 0<2000 by omega⟩,⟨rfl,show 1<2000 by omega⟩,⟨rfl,trivial⟩,⟨rfl,show 2<2000 by omega⟩,⟨rfl,show 4<2000 by omega⟩,⟨rfl,trivial⟩,rfl,trivial⟩
   ·rw[rowsN_new (by omega),show N-(i+1)+1=N-i by omega]
   ·intro j r hr
    by_cases e:j=i
    ·subst e
     rw[List.getElem?_replicate,if_pos (by omega)]at hr
     cases hr
     simp only[F1,↓reduceIte,List.map_replicate]
     rfl
    ·have hj:j<i+1:=by have:=(List.getElem?_eq_some_iff.mp hr).1;simpa using this
     rw[List.getElem?_replicate,if_pos hj]at hr
     cases hr
     have:(List.replicate i (List.replicate N false))[j]?=some (List.replicate N false):=by rw[List.getElem?_replicate,if_pos (by omega)]
     rw[show F1 i 2096 j=F j by simp[F1,e,F]]
     simp only[upd_ap,F_lo (show 4<1000 by omega),if_false]
     rw[if_neg (by unfold F;omega)]
     exact G_F this (by simp;omega)
  ·have h:i=N:=by have:=of_decide_eq_false h;omega
   subst h
   refine AWP.exit ?_
   refine(show Weak 1 k _ _ from ?_)
   have e:sq0 i=List.replicate i (List.replicate i false):=rfl
   rw[e]
   refine Weak.nfG _ _ _ (λb=>b) F0 ?_ (topoH_F rfl rfl rfl rfl ?_ (names_bel i (by omega))) (by simp[topoH]) (by simp;omega) ?_ (λi j _ _ h=>h) (λi j _ _ h=>by unfold F0 at h;omega) (λi j h1 h2 h=>by simp[topoH]at h1;unfold F0 at h;omega) (λb _=>rfl) (by decide)
   ·simp only[List.forall_mem_cons,List.not_mem_nil,false_implies,implies_true,and_true]
    exact⟨⟨rfl,show 0<2000 by omega⟩,⟨rfl,show 1<2000 by omega⟩,⟨rfl,trivial⟩,⟨rfl,show 2<2000 by omega⟩,⟨rfl,show 4<2000 by omega⟩⟩
   ·show G _ _ 4=_
    rw[G4]
    show some (Blk.vec 1 (rowsN i (i-i)))=_
    rw[Nat.sub_self,rowsN,List.replicate_zero,List.append_nil]
   ·intro j r hr
    exact G_F hr (by simp;omega)
def topo_c3:AC:=.seq (.reg [⟨(some 11),.move (.c (.val (.int .i64 1))),none⟩])
 (.block 4 (.loop (.seq (.seq (.reg [⟨(some 52),.move (.t 11),none⟩,⟨(some 53),.move (.t 5),none⟩,⟨(some 54),.bin .lss (.t 52) (.t 53),none⟩])
 (.cond (.t 54) (.skip) (.exit 4)))
 (.seq (.block 5 (.seq (.reg [⟨(some 57),.move (.t 0),none⟩,⟨(some 58),.call (.c (.func 10 [])) [(.t 57),(.c (.val (.int .i64 12)))],none⟩,⟨(some 59),.bin .lss (.t 58) (.c (.val (.int .i64 11))),none⟩])
 (.cond (.t 59) (.reg [⟨(some 60),.move (.t 9),none⟩,⟨(some 61),.move (.t 0),none⟩,⟨(some 62),.move (.t 11),none⟩,⟨(some 63),.call (.c (.func 10 [])) [(.t 61),(.t 62)],none⟩,⟨(some 64),.iaddr 1 (.t 60) (.t 63),none⟩,⟨(some 65),.load false 1 (.t 64),none⟩,⟨(some 66),.move (.t 11),none⟩,⟨(some 67),.iaddr 1 (.t 65) (.t 66),none⟩,⟨none,.store 1 (.t 67) (.c (.val (.bool true))),none⟩]) (.skip))))
 (.reg [⟨(some 55),.move (.t 11),none⟩,⟨(some 56),.bin .add (.t 55) (.c (.val (.int .i64 1))),none⟩,⟨(some 11),.move (.t 56),none⟩])))))
theorem tap_pure(L:List Int)(p:Nat):(Tap.v ⟨L,p⟩).pure:=⟨trivial,trivial,trivial⟩
theorem names_getD{n i:Nat}(h:i<n):(names n).getD i .unk=.vec (F i):=by rw[List.getD_eq_getElem?_getD,names_get h];rfl
theorem bools_getD{r:List Bool}{i:Nat}(h:i<r.length):∃b:Bool,(r.map AV.bool).getD i .unk=.bool b:=⟨r[i],by simp[List.getD_eq_getElem?_getD,h]⟩
theorem mset_get{M:List (List Bool)}{x y j:Nat}{r q:List Bool}(hx:M[x]?=some r)(h:(mset M x y)[j]?=some q):(j=x∧q=r.set y true)∨(j≠x∧M[j]?=some q):=by
 have hl:=(List.getElem?_eq_some_iff.mp hx).1
 have e:M.getD x []=r:=by rw[List.getD_eq_getElem?_getD,hx];rfl
 rw[mset,List.getElem?_set,e]at h
 by_cases hj:x=j
 ·subst hj;rw[if_pos rfl,if_pos hl]at h;cases h;exact .inl ⟨rfl,rfl⟩
 ·rw[if_neg hj]at h;exact .inr ⟨λe=>hj e.symm,h⟩
theorem topo_h3(L:List Int)(p:Nat)(rs:List Rtr)(n:Int)(M:List (List Bool))(hn:1≤n∧n≤100)(hM:Sq n.toNat M)(k:Nat) :
  HandOk Tryd.prog 1 k topo_c3 (topoS L p rs n M) (topoS L (lk1 L (n.toNat-1) 1 p M).2 rs n (lk1 L (n.toNat-1) 1 p M).1):=by
 obtain⟨N,rfl⟩:∃N:Nat,n=N:=⟨n.toNat,by omega⟩
 simp only[topoS,Int.toNat_natCast]at hM ⊢
 unfold HandOk topo_c3
 generalize hE:lk1 L (N-1) 1 p M=E
 refine AWP.seq' ?_
 refine AWP.reg' λK hK=>?_
 try simp only[stepS,stepD,stepM,eq_self,implies_true,forall_eq_or_imp,forall_eq,Nat.reduceEqDiff,↓reduceIte,Nat.reduceAdd,Nat.reduceLeDiff,Nat.reduceSub,Nat.reduceMul,Nat.reduceLT,Int.reduceBEq,Int.reduceBNe,Int.reduceToNat,Int.reduceLT,Int.reduceLE,Int.reduceAdd,Int.reduceSub,Int.reduceMul,reduceCtorEq]
 refine hK _ _ _ ?_
 clear hK K
 refine AWP.block ?_
 refine AWP.loopS (σ:=Nat×Nat×List (List Bool)) (λt=>⟨resT [(0,.ref 0 0),(4,.ref 1 0),(5,.int N),(6,.ref 2 0),(9,.vec 4),(11,.int (t.1:Nat))],G t.2.2 (hpL 0 (topoH L t.2.1 rs (names N))),2000⟩)
  (λt=>1≤t.1∧t.1≤N∧Sq N t.2.2∧lk1 L (N-t.1) t.1 t.2.1 t.2.2=E) (λt=>N-t.1) (i0:=(1,p,M)) ⟨by omega,by omega,hM,hE⟩ ?_ ?_
 ·refine Weak.nfG _ _ _ (λb=>b) F0 ?_ (topoH_F rfl rfl rfl rfl rfl (names_bel N (by omega))) (by simp[topoH]) (by rw[hM.1];omega) (λj r hr=>G_F hr (by rw[hM.1];omega)) (λi j _ _ h=>h) (λi j _ _ h=>by unfold F0 at h;omega) (λi j h1 h2 h=>by simp[topoH]at h1;unfold F0 at h;omega) (λb _=>rfl) (by decide)
  simp only[List.forall_mem_cons,List.not_mem_nil,false_implies,implies_true,and_true]
  exact⟨⟨rfl,show 0<2000 by omega⟩,⟨rfl,show 1<2000 by omega⟩,⟨rfl,trivial⟩,⟨rfl,show 2<2000 by omega⟩,⟨rfl,show 4<2000 by omega⟩,rfl,trivial⟩
 rintro⟨i,p,M⟩ ⟨h1,h2,hM,hE⟩
 simp only at h1 h2 hM hE ⊢
 have hMl:M.length≤1000:=by rw[hM.1];omega
 refine AWP.seq' (AWP.seq' ?_)
 refine AWP.reg' λK hK=>?_
 try simp only[stepS,stepD,stepM,eq_self,implies_true,forall_eq_or_imp,forall_eq,Nat.reduceEqDiff,↓reduceIte,Nat.reduceAdd,Nat.reduceLeDiff,Nat.reduceSub,Nat.reduceMul,Nat.reduceLT,Int.reduceBEq,Int.reduceBNe,Int.reduceToNat,Int.reduceLT,Int.reduceLE,Int.reduceAdd,Int.reduceSub,Int.reduceMul,reduceCtorEq]
 refine hK _ _ _ ?_
 clear hK K
 refine AWP.cond (b:=decide ((i:Int)<(N:Int))) rfl (λh=>?_) (λh=>?_)
 ·have h:i<N:=by have:=of_decide_eq_true h;omega
  refine AWP.skip ?_
  refine AWP.seq' (AWP.block (AWP.seq' ?_))
  refine AWP.reg' λK hK=>?_
  try simp only[stepS,stepD,stepM,eq_self,implies_true,forall_eq_or_imp,forall_eq,Nat.reduceEqDiff,↓reduceIte,Nat.reduceAdd,Nat.reduceLeDiff,Nat.reduceSub,Nat.reduceMul,Nat.reduceLT,Int.reduceBEq,Int.reduceBNe,Int.reduceToNat,Int.reduceLT,Int.reduceLE,Int.reduceAdd,Int.reduceSub,Int.reduceMul,reduceCtorEq]
  refine evT_own (hs:=(N_h L p 12).ok) (N_h L p 12).fn (args:=[.int 12]) (r:=.int (Mod (rawV L p) 12)) (x':=Tap.v ⟨L,rawP L p⟩) ⟨trivial,trivial⟩ (tap_pure _ _) (tap_pure _ _) trivial rfl (by rfl) (by rfl) ?_
  try simp only[stepS,stepD,stepM,eq_self,implies_true,forall_eq_or_imp,forall_eq,Nat.reduceEqDiff,↓reduceIte,Nat.reduceAdd,Nat.reduceLeDiff,Nat.reduceSub,Nat.reduceMul,Nat.reduceLT,Int.reduceBEq,Int.reduceBNe,Int.reduceToNat,Int.reduceLT,Int.reduceLE,Int.reduceAdd,Int.reduceSub,Int.reduceMul,reduceCtorEq]
  refine hK _ _ _ ?_
  clear hK K
  have w:IntKind.i64.wrap ((i:Int)+1)=((i+1:Nat):Int):=wrapN (by omega) (by omega)
  have hE':lk1 L (N-(i+1)+1) i p M=E:=by rw[show N-(i+1)+1=N-i by omega];exact hE
  rw[lk1]at hE'
  refine AWP.cond (b:=decide (Mod (rawV L p) 12<11)) rfl (λhc=>?_) (λhc=>?_)
  ·rw[if_pos (of_decide_eq_true hc)]at hE'
   have hX:=Mod_range (x:=rawV L (rawP L p)) (n:=(i:Int)) (by omega)
   generalize hq:Mod (rawV L (rawP L p)) (i:Int)=X at hX hE'
   obtain⟨Y,rfl⟩:∃Y:Nat,X=Y:=⟨X.toNat,by omega⟩
   rw[Int.toNat_natCast]at hE'
   obtain⟨r,hr,hrl,-⟩:=hM.get (show Y<N by omega)
   obtain⟨b0,hb0⟩:=bools_getD (r:=r) (i:=i) (by omega)
   refine AWP.reg' λK hK=>?_
   try simp only[stepS,stepD,stepM,eq_self,implies_true,forall_eq_or_imp,forall_eq,Nat.reduceEqDiff,↓reduceIte,Nat.reduceAdd,Nat.reduceLeDiff,Nat.reduceSub,Nat.reduceMul,Nat.reduceLT,Int.reduceBEq,Int.reduceBNe,Int.reduceToNat,Int.reduceLT,Int.reduceLE,Int.reduceAdd,Int.reduceSub,Int.reduceMul,reduceCtorEq]
   have hc2:HSpec Tryd.prog (N_h L (rawP L p) i).f [.ref 0 0,.int i] [.box (Tap.v ⟨L,rawP L p⟩)] (.int Y) [some (.box (Tap.v ⟨L,rawP L (rawP L p)⟩))]:=by rw[←hq];exact(N_h L (rawP L p) i).ok
   refine evT_own (hs:=hc2) (N_h L (rawP L p) i).fn (args:=[.int i]) ⟨trivial,trivial⟩ (tap_pure _ _) (tap_pure _ _) trivial rfl (by rfl) (by rfl) ?_
   have hgF:G M (hpL 0 (topoH L p rs (names N))) (F Y)=some (.vec 1 (r.map AV.bool)):=G_F hr hMl
   have hso:(AV.vec (F Y)).solid=true:=rfl
   have hce:(AV.vec (F Y)).cells=[AV.vec (F Y)]:=rfl
   have hpa:partA (.vec (F Y)) 0 1 false=.vec (F Y):=rfl
   have hF0:(F Y=0)=False:=F_lo (by decide)
   have hF3:(F Y=4)=False:=F_lo (by decide)
   have hbs:(AV.bool b0).solid=true:=rfl
   have hbc:(AV.bool b0).cells=[AV.bool b0]:=rfl
   have htc:(AV.bool true).cells=[AV.bool true]:=rfl
   have hts:(AV.bool true).solid=true:=rfl
   have hsp:setPart (.bool b0) 0 (.bool true)=.bool true:=rfl
   have hT4:hpL 0 (topoH L p rs (names N)) 4=some (.vec 1 (names N)):=rfl
   try simp only[stepS,stepD,stepM,eq_self,implies_true,forall_eq_or_imp,forall_eq,Nat.reduceEqDiff,↓reduceIte,Nat.reduceAdd,Nat.reduceLeDiff,Nat.reduceSub,Nat.reduceMul,Nat.reduceLT,Int.reduceBEq,Int.reduceBNe,Int.reduceToNat,Int.reduceLT,Int.reduceLE,Int.reduceAdd,Int.reduceSub,Int.reduceMul,reduceCtorEq,G4,hT4,names_len,Int.toNat_natCast,names_getD (show Y<N by omega),hso,hce,hpa,hF0,hF3,hgF,List.length_map,hb0,hbs,hbc,htc,hts,hsp,if_false]
   refine⟨⟨by omega,by omega⟩,by omega,⟨by omega,by omega⟩,by omega,?_⟩
   refine hK _ _ _ ?_
   clear hK K
   refine(show AWP _ _ _ _ _ _ from ?_)
   refine AWP.reg' λK hK=>?_
   try simp only[stepS,stepD,stepM,eq_self,implies_true,forall_eq_or_imp,forall_eq,Nat.reduceEqDiff,↓reduceIte,Nat.reduceAdd,Nat.reduceLeDiff,Nat.reduceSub,Nat.reduceMul,Nat.reduceLT,Int.reduceBEq,Int.reduceBNe,Int.reduceToNat,Int.reduceLT,Int.reduceLE,Int.reduceAdd,Int.reduceSub,Int.reduceMul,reduceCtorEq,w]
   refine hK _ _ _ ?_
   clear hK K
   refine⟨(i+1,rawP L (rawP L p),mset M Y i),⟨by omega,by omega,hM.set _ _,hE'⟩,by omega,?_⟩
   have hM':(mset M Y i).length≤1000:=by rw[(hM.set Y i).1];omega
   refine Weak.nfG _ _ _ (λb=>b) F0 ?_ (topoH_F ?_ ?_ ?_ ?_ ?_ (names_bel N (by omega))) (by simp[topoH]) hM' ?_ (λi j _ _ h=>h) (λi j _ _ h=>by unfold F0 at h;omega) (λi j h1 h2 h=>by simp[topoH]at h1;unfold F0 at h;omega) (λb _=>rfl) (by decide)
   ·simp only[List.forall_mem_cons,List.not_mem_nil,false_implies,implies_true,and_true]
    exact⟨⟨rfl,show 0<2000 by omega⟩,⟨rfl,show 1<2000 by omega⟩,⟨rfl,trivial⟩,⟨rfl,show 2<2000 by omega⟩,⟨rfl,show 4<2000 by omega⟩,rfl,trivial⟩
   ·simp only[upd_ap,F_lo' (show 0<1000 by omega),if_false,if_true]
   ·simp only[upd_ap,F_lo' (show 1<1000 by omega),if_false];rfl
   ·simp only[upd_ap,F_lo' (show 2<1000 by omega),if_false];rfl
   ·simp only[upd_ap,F_lo' (show 3<1000 by omega),if_false];rfl
   ·simp only[upd_ap,F_lo' (show 4<1000 by omega),if_false];rfl
   ·intro j q hj
    rw[show F0 j=F j from rfl]
    rcases mset_get hr hj with⟨rfl,rfl⟩|⟨hne,hj⟩
    ·simp only[upd_ap,if_true,List.map_set]
    ·have:(F j=F Y)=False:=by unfold F;simp;omega
     simp only[upd_ap,this,F_lo (show 0<1000 by omega),if_false]
     exact G_F hj hMl
  ·rw[if_neg (of_decide_eq_false hc)]at hE'
   refine AWP.skip ?_
   refine(show AWP _ _ _ _ _ _ from ?_)
   refine AWP.reg' λK hK=>?_
   try simp only[stepS,stepD,stepM,eq_self,implies_true,forall_eq_or_imp,forall_eq,Nat.reduceEqDiff,↓reduceIte,Nat.reduceAdd,Nat.reduceLeDiff,Nat.reduceSub,Nat.reduceMul,Nat.reduceLT,Int.reduceBEq,Int.reduceBNe,Int.reduceToNat,Int.reduceLT,Int.reduceLE,Int.reduceAdd,Int.reduceSub,Int.reduceMul,reduceCtorEq,w]
   refine hK _ _ _ ?_
   clear hK K
   refine⟨(i+1,rawP L p,M),⟨by omega,by omega,hM,hE'⟩,by omega,?_⟩
   refine Weak.nfG _ _ _ (λb=>b) F0 ?_ (topoH_F rfl rfl rfl rfl rfl (names_bel N (by omega))) (by simp[topoH]) hMl ?_ (λi j _ _ h=>h) (λi j _ _ h=>by unfold F0 at h;omega) (λi j h1 h2 h=>by simp[topoH]at h1;unfold F0 at h;omega) (λb _=>rfl) (by decide)
   ·simp only[List.forall_mem_cons,List.not_mem_nil,false_implies,implies_true,and_true]
    exact⟨⟨rfl,show 0<2000 by omega⟩,⟨rfl,show 1<2000 by omega⟩,⟨rfl,trivial⟩,⟨rfl,show 2<2000 by omega⟩,⟨rfl,show 4<2000 by omega⟩,rfl,trivial⟩
   ·intro j r hr
    rw[show F0 j=F j from rfl]
    simp only[upd_ap,F_lo (show 0<1000 by omega),if_false]
    exact G_F hr hMl
 ·have h:i=N:=by have:=of_decide_eq_false h;omega
  subst h
  refine AWP.exit ?_
  refine(show Weak 1 k _ _ from ?_)
  rw[Nat.sub_self,lk1]at hE
  subst hE
  refine Weak.nfG _ _ _ (λb=>b) F0 ?_ (topoH_F rfl rfl rfl rfl rfl (names_bel i (by omega))) (by simp[topoH]) hMl (λj r hr=>G_F hr hMl) (λi j _ _ h=>h) (λi j _ _ h=>by unfold F0 at h;omega) (λi j h1 h2 h=>by simp[topoH]at h1;unfold F0 at h;omega) (λb _=>rfl) (by decide)
  simp only[List.forall_mem_cons,List.not_mem_nil,false_implies,implies_true,and_true]
  exact⟨⟨rfl,show 0<2000 by omega⟩,⟨rfl,show 1<2000 by omega⟩,⟨rfl,trivial⟩,⟨rfl,show 2<2000 by omega⟩,⟨rfl,show 4<2000 by omega⟩⟩
def rowV(r:List Bool):AV:=.sl 1 (r.map AV.bool) false
theorem topo_frz{L:List Int}{p:Nat}{rs:List Rtr}{M:List (List Bool)}{N:Nat}{k n nx:Nat}{tm:Nat→AV}{x:AV}(hM:Sq N M)(hN:1≤N∧N≤100)(hnx:2000≤nx)
  (t0:tm 0=.ref 0 0) (t4:tm 4=.ref 1 0) (t5:tm 5=x) (hx:x.pure) (t6:tm 6=.ref 2 0) (t9:tm 9=.vec 4) :
  Weak k n ⟨tm,G M (hpL 0 (topoH L p rs (names N))),nx⟩
   ⟨resT [(0,.ref 0 0),(4,.ref 1 0),(5,x),(6,.ref 2 0),(9,.sl 1 (M.map rowV) false)],hpL 0 [some (.box (Tap.v ⟨L,p⟩)),some (.box (.agg [.sl 0 [] true,.sl 0 [] true])),some (.box (.agg [.vec 3,.sl 0 [] true])),some (.vec 2 (rs.map Rtr.v))],nx⟩:=by
 rintro P c a w ⟨h0,A,μ,H⟩
 have H:RelE P c A μ (λb=>nx≤b) tm (G M (hpL 0 (topoH L p rs (names N)))) n a w:=H
 have hMl:M.length≤1000:=by rw[hM.1];omega
 have same:Same A w w:=λ_ _=>rfl
 let fam:Nat→Prop:=λb=>b=4∨∃i,i<N∧b=F i
 let A':Nat→Prop:=λq=>A q∨∃b hd,fam b∧μ b=some hd∧hd.emp=none∧hd.blk=q
 have hle:∀b,A b→A' b:=λb hb=>.inl hb
 have hlive:∀b,fam b→∃x,G M (hpL 0 (topoH L p rs (names N))) b=some x:=by
  rintro b (rfl|⟨i,hi,rfl⟩)
  ·exact⟨_,G4 _ _⟩
  ·obtain⟨r,hr,_,_⟩:=hM.get hi
   exact⟨_,G_F hr hMl⟩
 have hsub:∀b y,hpL 0 [some (.box (Tap.v ⟨L,p⟩)),some (.box (.agg [.sl 0 [] true,.sl 0 [] true])),some (.box (.agg [.vec 3,.sl 0 [] true])),some (.vec 2 (rs.map Rtr.v))] b=some y→b<4∧G M (hpL 0 (topoH L p rs (names N))) b=some y:=by
  intro b y hy
  rcases b with _|_|_|_|b
  ·exact⟨by omega,by rw[G_lo (by omega)];exact hy⟩
  ·exact⟨by omega,by rw[G_lo (by omega)];exact hy⟩
  ·exact⟨by omega,by rw[G_lo (by omega)];exact hy⟩
  ·exact⟨by omega,by rw[G_lo (by omega)];exact hy⟩
  ·have:hpL 0 [some (.box (Tap.v ⟨L,p⟩)),some (.box (.agg [.sl 0 [] true,.sl 0 [] true])),some (.box (.agg [.vec 3,.sl 0 [] true])),some (.vec 2 (rs.map Rtr.v))] (b+4)=none:=by rw[hpL_eq];simp
   rw[this]at hy;cases hy
 have hnf:∀b,b<4→¬fam b:=by
  rintro b hb (rfl|⟨i,hi,rfl⟩)
  ·omega
  ·unfold F at hb;omega
 have row:∀i r v,M[i]?=some r→RV w A (.vec (F i)) μ v→RV w A' (rowV r) noMu v:=by
  intro i r v hr hv
  have g:G M (hpL 0 (topoH L p rs (names N))) (F i)=some (.vec 1 (r.map AV.bool)):=G_F hr hMl
  have hi:i<N:=by rw[←hM.1];exact(List.getElem?_eq_some_iff.mp hr).1
  have:=Give.vec g (pureL_bool r) P c A μ _ tm n a w v H hv
  refine RV.pure trivial (this.mono (λ_ _=>rfl) (λq hq=>?_) _ (MuLe.refl _))
  rcases hq with hq|⟨hd,e1,e2,e3⟩
  ·exact .inl hq
  ·exact .inr ⟨F i,hd,.inr ⟨i,hi,rfl⟩,e1,e2,e3⟩
 have out:RV w A' (.sl 1 (M.map rowV) false) noMu (a.tmps.getD 9 undef):=by
  have hv:=H.tm 9
  rw[t9]at hv
  obtain⟨hd,e1,hv⟩:=hv
  obtain⟨hd',f1,f2,f3⟩:=H.vec (show G M (hpL 0 (topoH L p rs (names N))) 4=some (.vec 1 (names N))from G4 _ _)
  rw[e1]at f1;cases f1
  rcases f3 with⟨f3,_⟩|⟨g1,g2,g4,g5,C,ty,vs,k1,k2,k3,k4,k5,k6,k7⟩
  ·have:=congrArg List.length f3
   rw[names_len]at this;simp at this;omega
  ·rw[names_len]at g2
   have hv':hd.val=.slice (some ⟨hd.blk,0,none⟩) (M.map rowV).length hd.cap:=by rw[Hd.val,g1,g2,List.length_map,hM.1]
   rw[hv,hv']
   refine .inr ⟨hd.blk,0,hd.cap,vs,rfl,.inr ⟨4,hd,.inl rfl,e1,g1,rfl⟩,by rw[List.length_map,hM.1];omega,g5,(λh=>by cases h),?_,λv hv=>⟨k4 v hv,?_⟩,λp u hu=>by rw[Nat.zero_add];exact k7 p u hu,λy hy=>?_⟩
   ·refine RVL.of_get (by rw[List.length_map,hM.1,←k2.length,names_len]) λi y v hy hv=>?_
    rw[List.getElem?_map]at hy
    obtain⟨r,hr,rfl⟩:=Option.map_eq_some_iff.mp hy
    have hi:i<N:=by rw[←hM.1];exact(List.getElem?_eq_some_iff.mp hr).1
    exact row i r v hr (k2.get2 (names_get hi) hv)
   ·obtain⟨i,hi⟩:=List.mem_iff_getElem?.1 hv
    have hlt:i<N:=by
     have:=(List.getElem?_eq_some_iff.1 hi).1
     rwa [←k2.length,names_len]at this
    exact(RV.cells rfl (k2.get2 (names_get hlt) hi)).2
   ·obtain⟨r,_,rfl⟩:=List.mem_map.mp hy;rfl
 refine⟨h0,A',μ,λt=>?_,H.n,H.df,λb y hy=>?_,λb b' y y' hd hd' hy hy'=>?_,?_,λb hb=>?_,H.keep,λb hb=>.inl (H.A0 b hb),?_,H.mu⟩
 ·show RV w A' (resT _ t) μ _
  have ht:=H.tm t
  simp only[resT]
  split
  ·rename_i e;subst e;rw[show tm 0=_ from t0]at ht;exact ht.mono same hle _ (MuLe.refl _)
  split
  ·rename_i e;subst e;rw[show tm 4=_ from t4]at ht;exact ht.mono same hle _ (MuLe.refl _)
  split
  ·rename_i e;subst e;rw[show tm 5=_ from t5]at ht;exact ht.mono same hle _ (MuLe.refl _)
  split
  ·rename_i e;subst e;rw[show tm 6=_ from t6]at ht;exact ht.mono same hle _ (MuLe.refl _)
  split
  ·rename_i e;subst e;exact out.up
  ·trivial
 ·obtain⟨g0,g1⟩:=hsub b y hy
  obtain⟨hd,e1,e2,e3⟩:=H.blk b y g1
  refine⟨hd,e1,e2.mono same hle (MuLe.refl _) (λ_=>rfl),λhe=>⟨?_,(e3 he).2⟩⟩
  rintro(h|⟨b2,hd2,q1,q2,q3,q4⟩)
  ·exact(e3 he).1 h
  ·obtain⟨x2,hx2⟩:=hlive b2 q1
   have:=H.inj b b2 y x2 hd hd2 g1 hx2 e1 q2 he q3 q4.symm
   exact hnf b g0 (this ▸ q1)
 ·exact H.inj b b' y y' hd hd' (hsub b y hy).2 (hsub b' y' hy').2
 ·refine H.lt.mono same hle ?_
  rintro q (h|⟨b,hd,q1,q2,q3,rfl⟩)
  ·exact H.lt q h
  ·obtain⟨x,hx⟩:=hlive b q1
   obtain⟨hd',e1,e2,e3⟩:=H.blk b x hx
   rw[q2]at e1;cases e1
   exact(e3 q3).2.1
 ·obtain⟨q1,q2⟩:=H.fr b hb
  refine⟨q1,?_⟩
  cases hy:hpL 0 [some (.box (Tap.v ⟨L,p⟩)),some (.box (.agg [.sl 0 [] true,.sl 0 [] true])),some (.box (.agg [.vec 3,.sl 0 [] true])),some (.vec 2 (rs.map Rtr.v))] b with
  | none=>exact hy
  | some y=>have:=(hsub b y hy).1;have hb:nx≤b:=hb;omega
 ·rintro q (h|⟨b,hd,q1,q2,q3,rfl⟩)
  ·exact H.A1 q h
  ·obtain⟨x,hx⟩:=hlive b q1
   obtain⟨hd',e1,e2,e3⟩:=H.blk b x hx
   rw[q2]at e1;cases e1
   exact .inr (e3 q3).2.2
def topo_c4:AC:=.seq (.reg [⟨(some 68),.move (.t 0),none⟩,⟨(some 69),.move (.t 5),none⟩,⟨(some 70),.bin .add (.t 69) (.c (.val (.int .i64 2))),none⟩,⟨(some 71),.call (.c (.func 10 [])) [(.t 68),(.t 70)],none⟩,⟨(some 12),.move (.t 71),none⟩])
 (.block 6 (.loop (.seq (.seq (.reg [⟨(some 72),.move (.t 12),none⟩,⟨(some 73),.bin .gtr (.t 72) (.c (.val (.int .i64 0))),none⟩])
 (.cond (.t 73) (.skip) (.exit 6)))
 (.seq (.block 7 (.seq (.reg [⟨(some 76),.move (.t 0),none⟩,⟨(some 77),.move (.t 5),none⟩,⟨(some 78),.call (.c (.func 10 [])) [(.t 76),(.t 77)],none⟩,⟨(some 79),.move (.t 0),none⟩,⟨(some 80),.move (.t 5),none⟩,⟨(some 81),.call (.c (.func 10 [])) [(.t 79),(.t 80)],none⟩,⟨(some 13),.move (.t 78),none⟩,⟨(some 14),.move (.t 81),none⟩])
 (.seq (.reg [⟨(some 82),.move (.t 13),none⟩,⟨(some 83),.move (.t 14),none⟩,⟨(some 84),.bin .neq (.t 82) (.t 83),none⟩])
 (.cond (.t 84) (.reg [⟨(some 85),.move (.t 9),none⟩,⟨(some 86),.move (.t 13),none⟩,⟨(some 87),.move (.t 14),none⟩,⟨(some 88),.min [(.t 86),(.t 87)],none⟩,⟨(some 89),.iaddr 1 (.t 85) (.t 88),none⟩,⟨(some 90),.load false 1 (.t 89),none⟩,⟨(some 91),.move (.t 13),none⟩,⟨(some 92),.move (.t 14),none⟩,⟨(some 93),.max [(.t 91),(.t 92)],none⟩,⟨(some 94),.iaddr 1 (.t 90) (.t 93),none⟩,⟨none,.store 1 (.t 94) (.c (.val (.bool true))),none⟩]) (.skip)))))
 (.reg [⟨(some 74),.move (.t 12),none⟩,⟨(some 75),.bin .sub (.t 74) (.c (.val (.int .i64 1))),none⟩,⟨(some 12),.move (.t 75),none⟩])))))
def topoE(L:List Int)(p:Nat)(rs:List Rtr)(n:Int)(M:List (List Bool)):S3:=
 ⟨resT [(0,.ref 0 0),(4,.ref 1 0),(5,.int n),(6,.ref 2 0),(9,.sl 1 (M.map rowV) false)],hpL 0 [some (.box (Tap.v ⟨L,p⟩)),some (.box (.agg [.sl 0 [] true,.sl 0 [] true])),some (.box (.agg [.vec 3,.sl 0 [] true])),some (.vec 2 (rs.map Rtr.v))],4⟩
def lkE(L:List Int)(n:Nat)(p:Nat)(M:List (List Bool)):List (List Bool)×Nat:=lk2 L n (Mod (rawV L p) (n+2)).toNat (rawP L p) M
theorem maxI_max(a b:Int):maxI a b=max a b:=by unfold maxI;split<;>omega
theorem minI_min(a b:Int):minI a b=min a b:=by unfold minI;split<;>omega
theorem topo_h4(L:List Int)(p:Nat)(rs:List Rtr)(n:Int)(M:List (List Bool))(hn:1≤n∧n≤100)(hM:Sq n.toNat M)(k:Nat) :
  HandOk Tryd.prog 1 k topo_c4 (topoS L p rs n M) (topoE L (lkE L n.toNat p M).2 rs n (lkE L n.toNat p M).1):=by
 obtain⟨N,rfl⟩:∃N:Nat,n=N:=⟨n.toNat,by omega⟩
 simp only[topoS,topoE,Int.toNat_natCast]at hM ⊢
 unfold HandOk topo_c4
 have hC:=Mod_range (x:=rawV L p) (n:=(N:Int)+2) (by omega)
 have hE:lk2 L N (Mod (rawV L p) (N+2)).toNat (rawP L p) M=lkE L N p M:=rfl
 generalize lkE L N p M=E at hE ⊢
 generalize hq:Mod (rawV L p) ((N:Int)+2)=X at hC hE
 obtain⟨C,rfl⟩:∃C:Nat,X=C:=⟨X.toNat,by omega⟩
 rw[Int.toNat_natCast]at hE
 have w2:IntKind.i64.wrap ((N:Int)+2)=(N:Int)+2:=wrap64 (by omega)
 refine AWP.seq' ?_
 refine AWP.reg' λK hK=>?_
 try simp only[stepS,stepD,stepM,eq_self,implies_true,forall_eq_or_imp,forall_eq,Nat.reduceEqDiff,↓reduceIte,Nat.reduceAdd,Nat.reduceLeDiff,Nat.reduceSub,Nat.reduceMul,Nat.reduceLT,Int.reduceBEq,Int.reduceBNe,Int.reduceToNat,Int.reduceLT,Int.reduceLE,Int.reduceAdd,Int.reduceSub,Int.reduceMul,reduceCtorEq,w2]
 have hc0:HSpec Tryd.prog (N_h L p ((N:Int)+2)).f [.ref 0 0,.int ((N:Int)+2)] [.box (Tap.v ⟨L,p⟩)] (.int C) [some (.box (Tap.v ⟨L,rawP L p⟩))]:=by rw[←hq];exact(N_h L p ((N:Int)+2)).ok
 refine evT_own (hs:=hc0) (N_h L p ((N:Int)+2)).fn (args:=[.int ((N:Int)+2)]) ⟨trivial,trivial⟩ (tap_pure _ _) (tap_pure _ _) trivial rfl (by rfl) (by rfl) ?_
 try simp only[stepS,stepD,stepM,eq_self,implies_true,forall_eq_or_imp,forall_eq,Nat.reduceEqDiff,↓reduceIte,Nat.reduceAdd,Nat.reduceLeDiff,Nat.reduceSub,Nat.reduceMul,Nat.reduceLT,Int.reduceBEq,Int.reduceBNe,Int.reduceToNat,Int.reduceLT,Int.reduceLE,Int.reduceAdd,Int.reduceSub,Int.reduceMul,reduceCtorEq]
 refine hK _ _ _ ?_
 clear hK K
 refine AWP.block ?_
 refine AWP.loopS (σ:=Nat×Nat×List (List Bool)) (λt=>⟨resT [(0,.ref 0 0),(4,.ref 1 0),(5,.int N),(6,.ref 2 0),(9,.vec 4),(12,.int (t.1:Nat))],G t.2.2 (hpL 0 (topoH L t.2.1 rs (names N))),2000⟩)
  (λt=>t.1≤N+2∧Sq N t.2.2∧lk2 L N t.1 t.2.1 t.2.2=E) (λt=>t.1) (i0:=(C,rawP L p,M)) ⟨by omega,hM,hE⟩ ?_ ?_
 ·have hMl:M.length≤1000:=by rw[hM.1];omega
  refine Weak.nfG _ _ _ (λb=>b) F0 ?_ (topoH_F rfl rfl rfl rfl rfl (names_bel N (by omega))) (by simp[topoH]) hMl ?_ (λi j _ _ h=>h) (λi j _ _ h=>by unfold F0 at h;omega) (λi j h1 h2 h=>by simp[topoH]at h1;unfold F0 at h;omega) (λb _=>rfl) (by decide)
  ·simp only[List.forall_mem_cons,List.not_mem_nil,false_implies,implies_true,and_true]
   exact⟨⟨rfl,show 0<2000 by omega⟩,⟨rfl,show 1<2000 by omega⟩,⟨rfl,trivial⟩,⟨rfl,show 2<2000 by omega⟩,⟨rfl,show 4<2000 by omega⟩,rfl,trivial⟩
  ·intro j r hr
   rw[show F0 j=F j from rfl]
   simp only[upd_ap,F_lo (show 0<1000 by omega),if_false]
   exact G_F hr hMl
 clear hM hE hq hC
 rintro⟨i,p,M⟩ ⟨h2,hM,hE⟩
 simp only at h2 hM hE ⊢
 have hMl:M.length≤1000:=by rw[hM.1];omega
 refine AWP.seq' (AWP.seq' ?_)
 refine AWP.reg' λK hK=>?_
 try simp only[stepS,stepD,stepM,eq_self,implies_true,forall_eq_or_imp,forall_eq,Nat.reduceEqDiff,↓reduceIte,Nat.reduceAdd,Nat.reduceLeDiff,Nat.reduceSub,Nat.reduceMul,Nat.reduceLT,Int.reduceBEq,Int.reduceBNe,Int.reduceToNat,Int.reduceLT,Int.reduceLE,Int.reduceAdd,Int.reduceSub,Int.reduceMul,reduceCtorEq]
 refine hK _ _ _ ?_
 clear hK K
 refine AWP.cond (b:=decide ((0:Int)<(i:Int))) rfl (λh=>?_) (λh=>?_)
 ·have h:0<i:=by have:=of_decide_eq_true h;omega
  obtain⟨i,rfl⟩:∃j,i=j+1:=⟨i-1,by omega⟩
  refine AWP.skip ?_
  refine AWP.seq' (AWP.block (AWP.seq' ?_))
  refine AWP.reg' λK hK=>?_
  try simp only[stepS,stepD,stepM,eq_self,implies_true,forall_eq_or_imp,forall_eq,Nat.reduceEqDiff,↓reduceIte,Nat.reduceAdd,Nat.reduceLeDiff,Nat.reduceSub,Nat.reduceMul,Nat.reduceLT,Int.reduceBEq,Int.reduceBNe,Int.reduceToNat,Int.reduceLT,Int.reduceLE,Int.reduceAdd,Int.reduceSub,Int.reduceMul,reduceCtorEq]
  have hX:=Mod_range (x:=rawV L p) (n:=(N:Int)) (by omega)
  have hY:=Mod_range (x:=rawV L (rawP L p)) (n:=(N:Int)) (by omega)
  rw[lk2]at hE
  have hc1:=(N_h L p N).ok
  have hc2:=(N_h L (rawP L p) N).ok
  have hc1:HSpec Tryd.prog (N_h L p N).f [.ref 0 0,.int N] [.box (Tap.v ⟨L,p⟩)] (.int (Mod (rawV L p) N)) [some (.box (Tap.v ⟨L,rawP L p⟩))]:=hc1
  have hc2:HSpec Tryd.prog (N_h L (rawP L p) N).f [.ref 0 0,.int N] [.box (Tap.v ⟨L,rawP L p⟩)] (.int (Mod (rawV L (rawP L p)) N)) [some (.box (Tap.v ⟨L,rawP L (rawP L p)⟩))]:=hc2
  generalize Mod (rawV L p) (N:Int)=X at hX hE hc1
  generalize Mod (rawV L (rawP L p)) (N:Int)=Y at hY hE hc2
  refine evT_own (hs:=hc1) (N_h L p N).fn (args:=[.int N]) ⟨trivial,trivial⟩ (tap_pure _ _) (tap_pure _ _) trivial rfl (by rfl) (by rfl) ?_
  try simp only[stepS,stepD,stepM,eq_self,implies_true,forall_eq_or_imp,forall_eq,Nat.reduceEqDiff,↓reduceIte,Nat.reduceAdd,Nat.reduceLeDiff,Nat.reduceSub,Nat.reduceMul,Nat.reduceLT,Int.reduceBEq,Int.reduceBNe,Int.reduceToNat,Int.reduceLT,Int.reduceLE,Int.reduceAdd,Int.reduceSub,Int.reduceMul,reduceCtorEq]
  refine evT_own (hs:=hc2) (N_h L (rawP L p) N).fn (args:=[.int N]) ⟨trivial,trivial⟩ (tap_pure _ _) (tap_pure _ _) trivial rfl (by rfl) (by rfl) ?_
  try simp only[stepS,stepD,stepM,eq_self,implies_true,forall_eq_or_imp,forall_eq,Nat.reduceEqDiff,↓reduceIte,Nat.reduceAdd,Nat.reduceLeDiff,Nat.reduceSub,Nat.reduceMul,Nat.reduceLT,Int.reduceBEq,Int.reduceBNe,Int.reduceToNat,Int.reduceLT,Int.reduceLE,Int.reduceAdd,Int.reduceSub,Int.reduceMul,reduceCtorEq]
  refine hK _ _ _ ?_
  clear hK K
  refine AWP.seq' ?_
  refine AWP.reg' λK hK=>?_
  try simp only[stepS,stepD,stepM,eq_self,implies_true,forall_eq_or_imp,forall_eq,Nat.reduceEqDiff,↓reduceIte,Nat.reduceAdd,Nat.reduceLeDiff,Nat.reduceSub,Nat.reduceMul,Nat.reduceLT,Int.reduceBEq,Int.reduceBNe,Int.reduceToNat,Int.reduceLT,Int.reduceLE,Int.reduceAdd,Int.reduceSub,Int.reduceMul,reduceCtorEq]
  refine hK _ _ _ ?_
  clear hK K
  have w:IntKind.i64.wrap (((i+1:Nat):Int)-1)=(i:Nat):=wrapN (by omega) (by omega)
  refine AWP.cond (b:=(X != Y)) rfl (λhc=>?_) (λhc=>?_)
  ·have hc:¬X=Y:=by simpa using hc
   rw[if_neg hc]at hE
   obtain⟨U,hU⟩:∃U:Nat,min X Y=U:=⟨(min X Y).toNat,by omega⟩
   obtain⟨V,hV⟩:∃V:Nat,max X Y=V:=⟨(max X Y).toNat,by omega⟩
   rw[hU,hV,Int.toNat_natCast,Int.toNat_natCast]at hE
   have hUN:U<N:=by omega
   have hVN:V<N:=by omega
   obtain⟨r,hr,hrl,-⟩:=hM.get hUN
   obtain⟨b0,hb0⟩:=bools_getD (r:=r) (i:=V) (by omega)
   have hT4:hpL 0 (topoH L p rs (names N)) 4=some (.vec 1 (names N)):=rfl
   have hgF:G M (hpL 0 (topoH L p rs (names N))) (F U)=some (.vec 1 (r.map AV.bool)):=G_F hr hMl
   have hso:(AV.vec (F U)).solid=true:=rfl
   have hce:(AV.vec (F U)).cells=[AV.vec (F U)]:=rfl
   have hpa:partA (.vec (F U)) 0 1 false=.vec (F U):=rfl
   have hF0:(F U=0)=False:=F_lo (by decide)
   have hF3:(F U=4)=False:=F_lo (by decide)
   have hbs:(AV.bool b0).solid=true:=rfl
   have hbc:(AV.bool b0).cells=[AV.bool b0]:=rfl
   have htc:(AV.bool true).cells=[AV.bool true]:=rfl
   have hts:(AV.bool true).solid=true:=rfl
   have hsp:setPart (.bool b0) 0 (.bool true)=.bool true:=rfl
   refine AWP.reg' λK hK=>?_
   try simp only[stepS,stepD,stepM,eq_self,implies_true,forall_eq_or_imp,forall_eq,Nat.reduceEqDiff,↓reduceIte,Nat.reduceAdd,Nat.reduceLeDiff,Nat.reduceSub,Nat.reduceMul,Nat.reduceLT,Int.reduceBEq,Int.reduceBNe,Int.reduceToNat,Int.reduceLT,Int.reduceLE,Int.reduceAdd,Int.reduceSub,Int.reduceMul,reduceCtorEq,foldA,foldI,minI_min,maxI_max,hU,hV,G4,hT4,names_len,Int.toNat_natCast,names_getD hUN,hso,hce,hpa,hF0,hF3,hgF,List.length_map,hb0,hbs,hbc,htc,hts,hsp,if_false]
   refine⟨⟨by omega,by omega⟩,by omega,⟨by omega,by omega⟩,by omega,?_⟩
   refine hK _ _ _ ?_
   clear hK K
   refine(show AWP _ _ _ _ _ _ from ?_)
   refine AWP.reg' λK hK=>?_
   try simp only[stepS,stepD,stepM,eq_self,implies_true,forall_eq_or_imp,forall_eq,Nat.reduceEqDiff,↓reduceIte,Nat.reduceAdd,Nat.reduceLeDiff,Nat.reduceSub,Nat.reduceMul,Nat.reduceLT,Int.reduceBEq,Int.reduceBNe,Int.reduceToNat,Int.reduceLT,Int.reduceLE,Int.reduceAdd,Int.reduceSub,Int.reduceMul,reduceCtorEq,w]
   refine hK _ _ _ ?_
   clear hK K
   refine⟨(i,rawP L (rawP L p),mset M U V),⟨by omega,hM.set _ _,hE⟩,by omega,?_⟩
   have hM':(mset M U V).length≤1000:=by rw[(hM.set U V).1];omega
   refine Weak.nfG _ _ _ (λb=>b) F0 ?_ (topoH_F ?_ ?_ ?_ ?_ ?_ (names_bel N (by omega))) (by simp[topoH]) hM' ?_ (λi j _ _ h=>h) (λi j _ _ h=>by unfold F0 at h;omega) (λi j h1 h2 h=>by simp[topoH]at h1;unfold F0 at h;omega) (λb _=>rfl) (by decide)
   ·simp only[List.forall_mem_cons,List.not_mem_nil,false_implies,implies_true,and_true]
    exact⟨⟨rfl,show 0<2000 by omega⟩,⟨rfl,show 1<2000 by omega⟩,⟨rfl,trivial⟩,⟨rfl,show 2<2000 by omega⟩,⟨rfl,show 4<2000 by omega⟩,rfl,trivial⟩
   ·simp only[upd_ap,F_lo' (show 0<1000 by omega),if_false,if_true]
   ·simp only[upd_ap,F_lo' (show 1<1000 by omega),if_false];rfl
   ·simp only[upd_ap,F_lo' (show 2<1000 by omega),if_false];rfl
   ·simp only[upd_ap,F_lo' (show 3<1000 by omega),if_false];rfl
   ·simp only[upd_ap,F_lo' (show 4<1000 by omega),if_false];rfl
   ·intro j q hj
    rw[show F0 j=F j from rfl]
    rcases mset_get hr hj with⟨rfl,rfl⟩|⟨hne,hj⟩
    ·simp only[upd_ap,if_true,List.map_set]
    ·have:(F j=F U)=False:=by unfold F;simp;omega
     simp only[upd_ap,this,F_lo (show 0<1000 by omega),if_false]
     exact G_F hj hMl
  ·have hc:X=Y:=by simpa using hc
   rw[if_pos hc]at hE
   refine AWP.skip ?_
   refine(show AWP _ _ _ _ _ _ from ?_)
   refine AWP.reg' λK hK=>?_
   try simp only[stepS,stepD,stepM,eq_self,implies_true,forall_eq_or_imp,forall_eq,Nat.reduceEqDiff,↓reduceIte,Nat.reduceAdd,Nat.reduceLeDiff,Nat.reduceSub,Nat.reduceMul,Nat.reduceLT,Int.reduceBEq,Int.reduceBNe,Int.reduceToNat,Int.reduceLT,Int.reduceLE,Int.reduceAdd,Int.reduceSub,Int.reduceMul,reduceCtorEq,w]
   refine hK _ _ _ ?_
   clear hK K
   refine⟨(i,rawP L (rawP L p),M),⟨by omega,hM,hE⟩,by omega,?_⟩
   refine Weak.nfG _ _ _ (λb=>b) F0 ?_ (topoH_F rfl rfl rfl rfl rfl (names_bel N (by omega))) (by simp[topoH]) hMl ?_ (λi j _ _ h=>h) (λi j _ _ h=>by unfold F0 at h;omega) (λi j h1 h2 h=>by simp[topoH]at h1;unfold F0 at h;omega) (λb _=>rfl) (by decide)
   ·simp only[List.forall_mem_cons,List.not_mem_nil,false_implies,implies_true,and_true]
    exact⟨⟨rfl,show 0<2000 by omega⟩,⟨rfl,show 1<2000 by omega⟩,⟨rfl,trivial⟩,⟨rfl,show 2<2000 by omega⟩,⟨rfl,show 4<2000 by omega⟩,rfl,trivial⟩
   ·intro j r hr
    rw[show F0 j=F j from rfl]
    simp only[upd_ap,F_lo (show 0<1000 by omega),if_false]
    exact G_F hr hMl
 ·have h:i=0:=by have:=of_decide_eq_false h;omega
  subst h
  refine AWP.exit ?_
  refine(show Weak 1 k _ _ from ?_)
  rw[lk2]at hE
  subst hE
  refine Weak.trans (topo_frz (x:=.int N) hM (by omega) ?_ ?_ ?_ ?_ trivial ?_ ?_) ?_
  ·exact Nat.le_of_ble_eq_true rfl
  ·rfl
  ·rfl
  ·rfl
  ·rfl
  ·rfl
  refine Weak.nf [0,1,2,3] _ _ ?_ ?_ ⟨rfl,rfl⟩ (by decide) (by decide) (by decide)
  ·repeat' (first|exact trivial|exact And.intro rfl trivial|refine And.intro ?_ ?_|rfl|exact Nat.le_of_ble_eq_true rfl|(rw[Blk.ren,renL_pure _ (pureL_rtr rs)];rfl)|exact belL_pure (pureL_rtr rs))
  ·repeat' (first|exact trivial|exact And.intro rfl trivial|refine And.intro ?_ ?_|rfl|exact Nat.le_of_ble_eq_true rfl|(rw[Blk.ren,renL_pure _ (pureL_rtr rs)];rfl)|exact belL_pure (pureL_rtr rs))
theorem rng_top{L:List Int}{p:Nat}{most:Int}(h:1≤most∧most≤100):1≤rng L p 1 most∧rng L p 1 most≤100:=by
 have:=rng_in (L:=L) (p:=p) (lo:=1) (hi:=most) (by omega)
 omega
def rtsL(L:List Int):Nat→Int→Nat→List Rtr→List Rtr×Nat
 | 0,id,p,rs=>(rs,p)
 | n+1,id,p,rs=>rtsL L n (id+pickI [1,1,1,2,5] (rawV L p)) (rawP L p) (rs++[⟨id+pickI [1,1,1,2,5] (rawV L p),true⟩])
def lnkP(L:List Int)(flat:Bool)(p:Nat):Nat:=if flat then rawP L p else rawP L (rawP L (rawP L (rawP L (rawP L p))))
def lnkCa(L:List Int)(p:Nat):Int:=pickI [1,2,3,rng L p 1 20,1000] (rawV L (rawP L p))
def lnkCb(L:List Int)(p:Nat)(ca:Int):Int:=pickI [ca,ca,rng L p 1 20] (rawV L (rawP L p))
def lnk0(L:List Int)(flat:Bool)(a b:Int)(p:Nat):Lnk:=
 if flat then⟨a,b,1,1,pickI [0,1,2,3,5,10,1000] (rawV L p)⟩
 else⟨a,b,lnkCa L (rawP L p),lnkCb L (rawP L (rawP L (rawP L p))) (lnkCa L (rawP L p)),pickI [0,1,2,3,5,10,1000] (rawV L p)⟩
def idAt(rs:List Rtr)(i:Nat):Int:=(rs.getD i ⟨0,false⟩).id
def lnk1(L:List Int)(rs:List Rtr)(flat:Bool)(a:Nat):List Bool→Nat→List Lnk→Nat→List Lnk×Nat
 | [],b,ls,p=>(ls,p)
 | t::r,b,ls,p=>if t then lnk1 L rs flat a r (b+1) (ls++[lnk0 L flat (idAt rs a) (idAt rs b) p]) (lnkP L flat p)else lnk1 L rs flat a r (b+1) ls p
def lnk2(L:List Int)(rs:List Rtr)(flat:Bool):List (List Bool)→Nat→List Lnk→Nat→List Lnk×Nat
 | [],a,ls,p=>(ls,p)
 | r::M,a,ls,p=>lnk2 L rs flat M (a+1) (lnk1 L rs flat a r 0 ls p).1 (lnk1 L rs flat a r 0 ls p).2
def topoM(L:List Int)(n p:Nat):List (List Bool)×Nat:=lkE L n (lk1 L (n-1) 1 p (sq0 n)).2 (lk1 L (n-1) 1 p (sq0 n)).1
def topoR(L:List Int)(p:Nat)(most:Int):List Rtr×Nat:=rtsL L (rng L p 1 most).toNat 0 (rawP L p) []
def topoT(L:List Int)(p:Nat)(most:Int):Tpl×Nat:=
 let r:=topoR L p most;let m:=topoM L (rng L p 1 most).toNat r.2
 let k:=lnk2 L r.1 (Mod (rawV L m.2) 3==0) m.1 0 [] (rawP L m.2)
 (⟨r.1,k.1⟩,k.2)
theorem rtsL_len{L:List Int}:∀{n:Nat} {id:Int} {p:Nat} {rs:List Rtr},(rtsL L n id p rs).1.length=rs.length+n
 | 0,_,_,_=>by simp[rtsL]
 | n+1,id,p,rs=>by rw[rtsL,rtsL_len];simp;omega
theorem topoM_sq(L:List Int)(n p:Nat):Sq n (topoM L n p).1:=lk2_sq (lk1_sq (sq0_sq n))
theorem pick5{L:List Int}{p:Nat}:1≤pickI [1,1,1,2,5] (rawV L p)∧pickI [1,1,1,2,5] (rawV L p)≤5:=by
 have:=pickI_mem (l:=[1,1,1,2,5]) (by simp) (rawV L p)
 simp at this;omega
def topoT_a(L:(List Int))(p:Nat)(most:Int)(hm:1≤most∧most≤100):Prop:=okL [.ref 0 0,.int most]∧(.box (.agg [.sl 1 (L.map AV.int) false,.int ((p:Nat):Int)]):Blk).ok
abbrev topoT_v0(L:(List Int))(p:Nat)(most:Int):=(sq0 ((rng L p 1 most)).toNat)
def topoT_n0(L:(List Int))(p:Nat)(most:Int)(t0:Int×Int×Nat×(List Rtr)):NF:=⟨[(0,.k,.ref 0 0),(4,.k,.ref 1 0),(5,.k,.int (rng L p 1 most)),(6,.k,.ref 2 0),(7,.k,.int t0.1),(8,.k,.int t0.2.1)],[.box (.agg [.sl 1 (L.map AV.int) false,.int ((t0.2.2.1:Nat):Int)]),.box (.agg [.sl 0 [] true,.sl 0 [] true]),.box (.agg [.vec 3,.sl 0 [] true]),.vec 2 (t0.2.2.2.map Rtr.v) (pureBL_map (λ_=>rfl) t0.2.2.2)]⟩
def topoT_n1(L:(List Int))(p:Nat)(most:Int)(t0:Int×Int×Nat×(List Rtr))(t1:Int×Nat×(List Lnk)):NF:=⟨[(0,.k,.ref 0 0),(4,.k,.ref 1 0),(6,.k,.ref 2 0),(9,.k,.sl 1 (((lkE L ((rng L p 1 most)).toNat ((lk1 L (((rng L p 1 most)).toNat-1) 1 t0.2.2.1 (topoT_v0 L p most)).2) (lk1 L (((rng L p 1 most)).toNat-1) 1 t0.2.2.1 (topoT_v0 L p most)).1).1).map (λl=>AV.sl 1 (l.map AV.bool) false)) false),(15,.k,.bool ((Mod (rawV L (lkE L ((rng L p 1 most)).toNat ((lk1 L (((rng L p 1 most)).toNat-1) 1 t0.2.2.1 (topoT_v0 L p most)).2) (lk1 L (((rng L p 1 most)).toNat-1) 1 t0.2.2.1 (topoT_v0 L p most)).1).2) 3)==0)),(99,.k,.int ((((lkE L ((rng L p 1 most)).toNat ((lk1 L (((rng L p 1 most)).toNat-1) 1 t0.2.2.1 (topoT_v0 L p most)).2) (lk1 L (((rng L p 1 most)).toNat-1) 1 t0.2.2.1 (topoT_v0 L p most)).1).1).map (λl=>AV.sl 1 (l.map AV.bool) false)).length:Int)),(100,.k,.int t1.1)],[.box (.agg [.sl 1 (L.map AV.int) false,.int ((t1.2.1:Nat):Int)]),.box (.agg [.sl 0 [] true,.sl 0 [] true]),.box (.agg [.vec 3,.vec 4]),.vec 2 (t0.2.2.2.map Rtr.v) (pureBL_map (λ_=>rfl) t0.2.2.2),.vec 5 (t1.2.2.map Lnk.v) (pureBL_map (λ_=>rfl) t1.2.2)]⟩
def topoT_n2(L:(List Int))(p:Nat)(most:Int)(t0:Int×Int×Nat×(List Rtr))(t1:Int×Nat×(List Lnk))(t2:Int×(List Lnk)×Nat):NF:=⟨[(0,.k,.ref 0 0),(4,.k,.ref 1 0),(6,.k,.ref 2 0),(9,.k,.sl 1 (((lkE L ((rng L p 1 most)).toNat ((lk1 L (((rng L p 1 most)).toNat-1) 1 t0.2.2.1 (topoT_v0 L p most)).2) (lk1 L (((rng L p 1 most)).toNat-1) 1 t0.2.2.1 (topoT_v0 L p most)).1).1).map (λl=>AV.sl 1 (l.map AV.bool) false)) false),(15,.k,.bool ((Mod (rawV L (lkE L ((rng L p 1 most)).toNat ((lk1 L (((rng L p 1 most)).toNat-1) 1 t0.2.2.1 (topoT_v0 L p most)).2) (lk1 L (((rng L p 1 most)).toNat-1) 1 t0.2.2.1 (topoT_v0 L p most)).1).2) 3)==0)),(16,.k,.int t1.1),(99,.k,.int ((((lkE L ((rng L p 1 most)).toNat ((lk1 L (((rng L p 1 most)).toNat-1) 1 t0.2.2.1 (topoT_v0 L p most)).2) (lk1 L (((rng L p 1 most)).toNat-1) 1 t0.2.2.1 (topoT_v0 L p most)).1).1).map (λl=>AV.sl 1 (l.map AV.bool) false)).length:Int)),(100,.k,.int t1.1),(104,.k,.int ((((lkE L ((rng L p 1 most)).toNat ((lk1 L (((rng L p 1 most)).toNat-1) 1 t0.2.2.1 (topoT_v0 L p most)).2) (lk1 L (((rng L p 1 most)).toNat-1) 1 t0.2.2.1 (topoT_v0 L p most)).1).1).map (λl=>AV.sl 1 (l.map AV.bool) false)).length:Int)),(105,.k,.int t2.1)],[.box (.agg [.sl 1 (L.map AV.int) false,.int ((t2.2.2:Nat):Int)]),.box (.agg [.sl 0 [] true,.sl 0 [] true]),.box (.agg [.vec 3,.vec 4]),.vec 2 (t0.2.2.2.map Rtr.v) (pureBL_map (λ_=>rfl) t0.2.2.2),.vec 5 (t2.2.1.map Lnk.v) (pureBL_map (λ_=>rfl) t2.2.1)]⟩
@[reducible] def topoT_s:Nat→Type
 | 0=>Int×Int×Nat×(List Rtr)
 | 1=>Int×Nat×(List Lnk)
 | 2=>Int×(List Lnk)×Nat
 | _=>Unit
def topoT_e(r:Tap×Tpl):AV:=.agg [.sl 2 (r.2.rs.map Rtr.v) false,.sl 5 (r.2.ls.map Lnk.v) false]
def topoT_b(r:Tap×Tpl):List (Option Blk):=[some (.box (.agg [.sl 1 (r.1.L.map AV.int) false,.int ((r.1.p:Nat):Int)]))]
def topoT_x(L:(List Int))(p:Nat)(most:Int)(hm:1≤most∧most≤100)(I0:(Int×Int×Nat×(List Rtr))→Prop)(m0:(Int×Int×Nat×(List Rtr))→Nat)(I1:Int×Int×Nat×(List Rtr)→(Int×Nat×(List Lnk))→Prop)(m1:Int×Int×Nat×(List Rtr)→(Int×Nat×(List Lnk))→Nat)(I2:Int×Int×Nat×(List Rtr)→Int×Nat×(List Lnk)→(Int×(List Lnk)×Nat)→Prop)(m2:Int×Int×Nat×(List Rtr)→Int×Nat×(List Lnk)→(Int×(List Lnk)×Nat)→Nat):Ax Tryd.prog topoT_s (Tap×Tpl):=
 (.callH [0] (Range_h L p 1 most) 49
(.cmdL (.nilB 81 0 2) (.loop 0 (topoT_n0 L p most) I0 m0 (0,0,rawP L p,[]) [0,1,81,129] λ(t0:Int×Int×Nat×(List Rtr)) b0 =>
(.br 52 (decide (t0.2.1<(rng L p 1 most))) (.req 100 ([1,1,1,2,5]≠[]) λh1 =>
(.callH [0] (Pick_h L t0.2.2.1 [1,1,1,2,5] h1) 100
(.say (λR=>Rf (α:=List AV) (t0.2.2.2.map Rtr.v) (Rf (α:=List AV) [.agg [.int (W (t0.1+(pickI [1,1,1,2,5] (rawV L t0.2.2.1)))),.bool true]]
(ck (decide (t0.2.2.2.length+1≤1048576))
R))) (.app 228 Rtr.v t0.2.2.2 [(⟨W (t0.1+(pickI [1,1,1,2,5] (rawV L t0.2.2.1))),true⟩:Rtr)]
(.bk 0 b0 (W (t0.1+(pickI [1,1,1,2,5] (rawV L t0.2.2.1))),W (t0.2.1+1),rawP L t0.2.2.1,t0.2.2.2++[(⟨W (t0.1+(pickI [1,1,1,2,5] (rawV L t0.2.2.1))),true⟩:Rtr)]) [0,1,2,228])))))
(.say (λR=>Rf (AV.sl 0 [] true) (ck (cond (decide (0≤(rng L p 1 most))) (cond (decide ((rng L p 1 most)≤(rng L p 1 most))) (decide ((rng L p 1 most)≤1048576)) false) false)
R)) (.rep 68 (λy:AV=>y) (.sl 0 [] true)
(.say (λR=>FitR (.s 1) (λl=>AV.sl 1 (l.map AV.bool) false) ((rng L p 1 most).toNat) (.sl 0 [] true) [] ∧
R) (.hand 1 [.wkV 68 (.s 1) (λl=>AV.sl 1 (l.map AV.bool) false) (List.replicate ((rng L p 1 most).toNat) [])] (topo_m1 L t0.2.2.1 t0.2.2.2 (rng L p 1 most)) [0,1,2,3,68] (topoS L t0.2.2.1 t0.2.2.2 (rng L p 1 most) (topoT_v0 L p most)) topo_c2 (topo_h2 L t0.2.2.1 t0.2.2.2 (rng L p 1 most) (rng_top hm))
(.hand2 1 (topoS L t0.2.2.1 t0.2.2.2 (rng L p 1 most) (topoT_v0 L p most)) (topoS L (lk1 L (((rng L p 1 most)).toNat-1) 1 t0.2.2.1 (topoT_v0 L p most)).2 t0.2.2.2 (rng L p 1 most) (lk1 L (((rng L p 1 most)).toNat-1) 1 t0.2.2.1 (topoT_v0 L p most)).1) topo_c3 (topo_h3 L t0.2.2.1 t0.2.2.2 (rng L p 1 most) (topoT_v0 L p most) (rng_top hm) (sq0_sq _))
(.hand2 1 (topoS L ((lk1 L (((rng L p 1 most)).toNat-1) 1 t0.2.2.1 (topoT_v0 L p most)).2) t0.2.2.2 (rng L p 1 most) (lk1 L (((rng L p 1 most)).toNat-1) 1 t0.2.2.1 (topoT_v0 L p most)).1) (topoE L (lkE L ((rng L p 1 most)).toNat ((lk1 L (((rng L p 1 most)).toNat-1) 1 t0.2.2.1 (topoT_v0 L p most)).2) (lk1 L (((rng L p 1 most)).toNat-1) 1 t0.2.2.1 (topoT_v0 L p most)).1).2 t0.2.2.2 (rng L p 1 most) (lkE L ((rng L p 1 most)).toNat ((lk1 L (((rng L p 1 most)).toNat-1) 1 t0.2.2.1 (topoT_v0 L p most)).2) (lk1 L (((rng L p 1 most)).toNat-1) 1 t0.2.2.1 (topoT_v0 L p most)).1).1) topo_c4 (topo_h4 L ((lk1 L (((rng L p 1 most)).toNat-1) 1 t0.2.2.1 (topoT_v0 L p most)).2) t0.2.2.2 (rng L p 1 most) (lk1 L (((rng L p 1 most)).toNat-1) 1 t0.2.2.1 (topoT_v0 L p most)).1 (rng_top hm) (lk1_sq (sq0_sq _)))
(.callH [0] (N_h L (lkE L ((rng L p 1 most)).toNat ((lk1 L (((rng L p 1 most)).toNat-1) 1 t0.2.2.1 (topoT_v0 L p most)).2) (lk1 L (((rng L p 1 most)).toNat-1) 1 t0.2.2.1 (topoT_v0 L p most)).1).2 3) 20
(.cmdL (.nilB 2 1 5) (.loop 1 (topoT_n1 L p most t0) (I1 t0) (m1 t0) (0,rawP L (lkE L ((rng L p 1 most)).toNat ((lk1 L (((rng L p 1 most)).toNat-1) 1 t0.2.2.1 (topoT_v0 L p most)).2) (lk1 L (((rng L p 1 most)).toNat-1) 1 t0.2.2.1 (topoT_v0 L p most)).1).2,[]) [0,1,2,3,116] λ(t1:Int×Nat×(List Lnk)) b1 =>
(.br 21 (decide (t1.1<((((lkE L ((rng L p 1 most)).toNat ((lk1 L (((rng L p 1 most)).toNat-1) 1 t0.2.2.1 (topoT_v0 L p most)).2) (lk1 L (((rng L p 1 most)).toNat-1) 1 t0.2.2.1 (topoT_v0 L p most)).1).1).map (λl=>AV.sl 1 (l.map AV.bool) false)).length:Int))) (.loop 2 (topoT_n2 L p most t0 t1) (I2 t0 t1) (m2 t0 t1) (0,t1.2.2,t1.2.1) [0,1,2,3,4] λ(t2:Int×(List Lnk)×Nat) b2 =>
(.br 21 (decide (t2.1<((((lkE L ((rng L p 1 most)).toNat ((lk1 L (((rng L p 1 most)).toNat-1) 1 t0.2.2.1 (topoT_v0 L p most)).2) (lk1 L (((rng L p 1 most)).toNat-1) 1 t0.2.2.1 (topoT_v0 L p most)).1).1).map (λl=>AV.sl 1 (l.map AV.bool) false)).length:Int))) (.el 85 (λl=>AV.sl 1 (l.map AV.bool) false) ((lkE L ((rng L p 1 most)).toNat ((lk1 L (((rng L p 1 most)).toNat-1) 1 t0.2.2.1 (topoT_v0 L p most)).2) (lk1 L (((rng L p 1 most)).toNat-1) 1 t0.2.2.1 (topoT_v0 L p most)).1).1) (λR=>Rf (((lkE L ((rng L p 1 most)).toNat ((lk1 L (((rng L p 1 most)).toNat-1) 1 t0.2.2.1 (topoT_v0 L p most)).2) (lk1 L (((rng L p 1 most)).toNat-1) 1 t0.2.2.1 (topoT_v0 L p most)).1).1).map (λl=>AV.sl 1 (l.map AV.bool) false)) (ck (decide (0≤t1.1)) (ck (decide (t1.1<(((lkE L ((rng L p 1 most)).toNat ((lk1 L (((rng L p 1 most)).toNat-1) 1 t0.2.2.1 (topoT_v0 L p most)).2) (lk1 L (((rng L p 1 most)).toNat-1) 1 t0.2.2.1 (topoT_v0 L p most)).1).1).length:Int)))
(∀x2,((lkE L ((rng L p 1 most)).toNat ((lk1 L (((rng L p 1 most)).toNat-1) 1 t0.2.2.1 (topoT_v0 L p most)).2) (lk1 L (((rng L p 1 most)).toNat-1) 1 t0.2.2.1 (topoT_v0 L p most)).1).1)[t1.1.toNat]?=some x2 →
(R x2))))) λx2 =>
(.el 133 AV.bool x2 (λR=>Rf (x2.map AV.bool) (ck (decide (0≤t2.1)) (ck (decide (t2.1<(x2.length:Int)))
(∀x3,x2[t2.1.toNat]?=some x3 →
(R x3))))) λx3 =>
(.br 181 (!x3) (.bk 2 b2 (W (t2.1+1),t2.2.1,t2.2.2) [0,1,2,3,4])
(.say (ck (cond (decide (0≤t1.1)) (decide (t1.1<((t0.2.2.2.map Rtr.v).length:Int))) false)) (.el 261 Rtr.v t0.2.2.2 (λR=>Rf (t0.2.2.2.map Rtr.v) (ck (decide (t1.1.toNat<t0.2.2.2.length))
(∀x4,t0.2.2.2[t1.1.toNat]?=some x4 →
(R x4)))) λx4 =>
(.say (ck (cond (decide (0≤t2.1)) (decide (t2.1<((t0.2.2.2.map Rtr.v).length:Int))) false)) (.el 357 Rtr.v t0.2.2.2 (λR=>Rf (t0.2.2.2.map Rtr.v) (ck (decide (t2.1.toNat<t0.2.2.2.length))
(∀x5,t0.2.2.2[t2.1.toNat]?=some x5 →
(R x5)))) λx5 =>
(.req 405 ([0,1,2,3,5,10,1000]≠[]) λh6 =>
(.callH [0] (Pick_h L t2.2.2 [0,1,2,3,5,10,1000] h6) 405
(.br 501 (!((Mod (rawV L (lkE L ((rng L p 1 most)).toNat ((lk1 L (((rng L p 1 most)).toNat-1) 1 t0.2.2.1 (topoT_v0 L p most)).2) (lk1 L (((rng L p 1 most)).toNat-1) 1 t0.2.2.1 (topoT_v0 L p most)).1).2) 3)==0)) (.callH [0] (Range_h L (rawP L t2.2.2) 1 20) 533
(.req 565 ([1,2,3,rng L (rawP L t2.2.2) 1 20,1000]≠[]) λh7 =>
(.callH [0] (Pick_h L (rawP L (rawP L t2.2.2)) [1,2,3,rng L (rawP L t2.2.2) 1 20,1000] h7) 565
(.callH [0] (Range_h L (rawP L (rawP L (rawP L t2.2.2))) 1 20) 709
(.req 741 ([pickI [1,2,3,rng L (rawP L t2.2.2) 1 20,1000] (rawV L (rawP L (rawP L t2.2.2))),pickI [1,2,3,rng L (rawP L t2.2.2) 1 20,1000] (rawV L (rawP L (rawP L t2.2.2))),rng L (rawP L (rawP L (rawP L t2.2.2))) 1 20]≠[]) λh8 =>
(.callH [0] (Pick_h L (rawP L (rawP L (rawP L (rawP L t2.2.2)))) [pickI [1,2,3,rng L (rawP L t2.2.2) 1 20,1000] (rawV L (rawP L (rawP L t2.2.2))),pickI [1,2,3,rng L (rawP L t2.2.2) 1 20,1000] (rawV L (rawP L (rawP L t2.2.2))),rng L (rawP L (rawP L (rawP L t2.2.2))) 1 20] h8) 741
(.say (λR=>Rf (α:=List AV) (t2.2.1.map Lnk.v) (Rf (α:=List AV) [.agg [.int x4.id,.int x5.id,.int (pickI [1,2,3,rng L (rawP L t2.2.2) 1 20,1000] (rawV L (rawP L (rawP L t2.2.2)))),.int (pickI [pickI [1,2,3,rng L (rawP L t2.2.2) 1 20,1000] (rawV L (rawP L (rawP L t2.2.2))),pickI [1,2,3,rng L (rawP L t2.2.2) 1 20,1000] (rawV L (rawP L (rawP L t2.2.2))),rng L (rawP L (rawP L (rawP L t2.2.2))) 1 20] (rawV L (rawP L (rawP L (rawP L (rawP L t2.2.2)))))),.int (pickI [0,1,2,3,5,10,1000] (rawV L t2.2.2))]]
(ck (decide (t2.2.1.length+1≤1048576))
R))) (.app 853 Lnk.v t2.2.1 [(⟨x4.id,x5.id,pickI [1,2,3,rng L (rawP L t2.2.2) 1 20,1000] (rawV L (rawP L (rawP L t2.2.2))),pickI [pickI [1,2,3,rng L (rawP L t2.2.2) 1 20,1000] (rawV L (rawP L (rawP L t2.2.2))),pickI [1,2,3,rng L (rawP L t2.2.2) 1 20,1000] (rawV L (rawP L (rawP L t2.2.2))),rng L (rawP L (rawP L (rawP L t2.2.2))) 1 20] (rawV L (rawP L (rawP L (rawP L (rawP L t2.2.2))))),pickI [0,1,2,3,5,10,1000] (rawV L t2.2.2)⟩:Lnk)]
(.bk 2 b2 (W (t2.1+1),t2.2.1++[(⟨x4.id,x5.id,pickI [1,2,3,rng L (rawP L t2.2.2) 1 20,1000] (rawV L (rawP L (rawP L t2.2.2))),pickI [pickI [1,2,3,rng L (rawP L t2.2.2) 1 20,1000] (rawV L (rawP L (rawP L t2.2.2))),pickI [1,2,3,rng L (rawP L t2.2.2) 1 20,1000] (rawV L (rawP L (rawP L t2.2.2))),rng L (rawP L (rawP L (rawP L t2.2.2))) 1 20] (rawV L (rawP L (rawP L (rawP L (rawP L t2.2.2))))),pickI [0,1,2,3,5,10,1000] (rawV L t2.2.2)⟩:Lnk)],rawP L (rawP L (rawP L (rawP L (rawP L t2.2.2))))) [0,1,2,3,853])))))))))
(.say (λR=>Rf (α:=List AV) (t2.2.1.map Lnk.v) (Rf (α:=List AV) [.agg [.int x4.id,.int x5.id,.int 1,.int 1,.int (pickI [0,1,2,3,5,10,1000] (rawV L t2.2.2))]]
(ck (decide (t2.2.1.length+1≤1048576))
R))) (.app 565 Lnk.v t2.2.1 [(⟨x4.id,x5.id,1,1,pickI [0,1,2,3,5,10,1000] (rawV L t2.2.2)⟩:Lnk)]
(.bk 2 b2 (W (t2.1+1),t2.2.1++[(⟨x4.id,x5.id,1,1,pickI [0,1,2,3,5,10,1000] (rawV L t2.2.2)⟩:Lnk)],rawP L t2.2.2) [0,1,2,3,565])))))))))))))
(.bk 1 b1 (W (t1.1+1),t2.2.2,t2.2.1) [0,1,2,3,4])))
(.say (Rf (t1.2.2.map Lnk.v)) (.cmdL (.frzE 4 (t1.2.2.map Lnk.v) (pureBL_map (λ_=>rfl) t1.2.2)) (.say (Rf (t0.2.2.2.map Rtr.v)) (.cmdL (.frzE 3 (t0.2.2.2.map Rtr.v) (pureBL_map (λ_=>rfl) t0.2.2.2)) (.retH ((⟨L,t1.2.1⟩:Tap),(⟨t0.2.2.2,t1.2.2⟩:Tpl)) ⟨[(4,.k,.ref 1 0)],[.box (.agg [.sl 1 (L.map AV.int) false,.int ((t1.2.1:Nat):Int)]),.box (.agg [.sl 2 (t0.2.2.2.map Rtr.v) false,.sl 5 (t1.2.2.map Lnk.v) false])]⟩ [0,1])))))))))))))))))))
def topoT_vc(L:(List Int))(p:Nat)(most:Int)(hm:1≤most∧most≤100)(I0:(Int×Int×Nat×(List Rtr))→Prop)(m0:(Int×Int×Nat×(List Rtr))→Nat)(I1:Int×Int×Nat×(List Rtr)→(Int×Nat×(List Lnk))→Prop)(m1:Int×Int×Nat×(List Rtr)→(Int×Nat×(List Lnk))→Nat)(I2:Int×Int×Nat×(List Rtr)→Int×Nat×(List Lnk)→(Int×(List Lnk)×Nat)→Prop)(m2:Int×Int×Nat×(List Rtr)→Int×Nat×(List Lnk)→(Int×(List Lnk)×Nat)→Nat)(r0:Tap×Tpl):Prop:=(topoT_x L p most hm I0 m0 I1 m1 I2 m2).vc topoT_e topoT_b r0
theorem topoT_p(L:List Int)(p:Nat)(most:Int)(hm:1≤most∧most≤100)(ok:topoT_a L p most hm):∃I0 m0 I1 m1 I2 m2,topoT_vc L p most hm I0 m0 I1 m1 I2 m2 ((⟨L,(topoT L p most).2⟩:Tap),(topoT L p most).1):=by
 have hr:=rng_top (L:=L) (p:=p) hm
 have hlen:(topoR L p most).1.length=(rng L p 1 most).toNat:=by unfold topoR;rw[rtsL_len];simp
 have hn100:(rng L p 1 most).toNat≤100:=by omega
 refine⟨λt=>∃k:Nat,t.2.1=k∧k≤(rng L p 1 most).toNat∧t.2.2.2.length=k∧0≤t.1∧t.1≤5 * k∧rtsL L ((rng L p 1 most).toNat-k) t.1 t.2.2.1 t.2.2.2=topoR L p most,λt=>(rng L p 1 most).toNat-t.2.1.toNat,
  λt0 t=>∃k:Nat,t.1=k∧k≤(rng L p 1 most).toNat∧t.2.2.length≤k * 100∧lnk2 L (topoR L p most).1 (Mod (rawV L (topoM L (rng L p 1 most).toNat (topoR L p most).2).2) 3==0) ((topoM L (rng L p 1 most).toNat (topoR L p most).2).1.drop k) k t.2.2 t.2.1
    = lnk2 L (topoR L p most).1 (Mod (rawV L (topoM L (rng L p 1 most).toNat (topoR L p most).2).2) 3==0) (topoM L (rng L p 1 most).toNat (topoR L p most).2).1 0 [] (rawP L (topoM L (rng L p 1 most).toNat (topoR L p most).2).2),
  λ_ t=>(rng L p 1 most).toNat-t.1.toNat,
  λ_ a t=>∃k:Nat,t.1=k∧k≤(rng L p 1 most).toNat∧t.2.1.length≤a.2.2.length+k∧lnk1 L (topoR L p most).1 (Mod (rawV L (topoM L (rng L p 1 most).toNat (topoR L p most).2).2) 3==0) a.1.toNat (((topoM L (rng L p 1 most).toNat (topoR L p most).2).1.getD a.1.toNat []).drop k) k t.2.1 t.2.2
    = lnk1 L (topoR L p most).1 (Mod (rawV L (topoM L (rng L p 1 most).toNat (topoR L p most).2).2) 3==0) a.1.toNat ((topoM L (rng L p 1 most).toNat (topoR L p most).2).1.getD a.1.toNat []) 0 a.2.2 a.2.1,
  λ_ _ t=>(rng L p 1 most).toNat-t.1.toNat,?_⟩
 dsimp only[topoT_vc,topoT_x,topoT_s,topoT_v0,Ax.vp,Ax.vc];simp only[vcU,rfU,List.length_map]
 have hE:topoT L p most=(⟨(topoR L p most).1,(lnk2 L (topoR L p most).1 (Mod (rawV L (topoM L (rng L p 1 most).toNat (topoR L p most).2).2) 3==0) (topoM L (rng L p 1 most).toNat (topoR L p most).2).1 0 [] (rawP L (topoM L (rng L p 1 most).toNat (topoR L p most).2).2)).1⟩,
  (lnk2 L (topoR L p most).1 (Mod (rawV L (topoM L (rng L p 1 most).toNat (topoR L p most).2).2) 3==0) (topoM L (rng L p 1 most).toNat (topoR L p most).2).1 0 [] (rawP L (topoM L (rng L p 1 most).toNat (topoR L p most).2).2)).2):=rfl
 rw[hE]
 have hR0:rtsL L (rng L p 1 most).toNat 0 (rawP L p) []=topoR L p most:=rfl
 generalize rng L p 1 most=n at *
 generalize topoR L p most=R at *
 obtain⟨N,rfl⟩:∃N:Nat,n=N:=⟨n.toNat,by omega⟩
 simp only[Int.toNat_natCast]at *
 refine⟨⟨0,rfl,by omega,rfl,by omega,by omega,hR0⟩,?_⟩
 rintro⟨id,i,q,rs⟩ ⟨k,hi,hk,hl,h0,h5,hr'⟩
 simp only at hi hl h0 h5 hr' ⊢
 subst hi
 have hp5:=pick5 (L:=L) (p:=q)
 refine⟨λc=>?_,λc=>?_⟩
 ·have c:k<N:=by omega
  have w1:W (id+pickI [1,1,1,2,5] (rawV L q))=id+pickI [1,1,1,2,5] (rawV L q):=W_eq (by omega)
  rw[w1,W_succ (n:=N) (by omega) (by omega)]
  refine⟨by simp,by omega,⟨k+1,rfl,by omega,by simp[hl],by omega,by omega,?_⟩,by omega⟩
  rw[←hr',show N-k=N-(k+1)+1 by omega,rtsL]
 ·have hkN:k=N:=by omega
  subst hkN
  rw[Nat.sub_self,rtsL]at hr'
  subst hr'
  simp only at *
  have hM:=topoM_sq L k q
  have e2:lkE L k (lk1 L (k-1) 1 q (sq0 k)).2 (lk1 L (k-1) 1 q (sq0 k)).1=topoM L k q:=rfl
  rw[e2]
  generalize topoM L k q=T at *
  obtain⟨M,m⟩:=T
  simp only at hM ⊢
  refine⟨by simp;omega,fitR_ok rfl,⟨0,rfl,by omega,by simp,rfl⟩,?_⟩
  rintro⟨a,pa,ls⟩ ⟨x,ha,hx,hls,hq⟩
  simp only at ha hls hq ⊢
  subst ha
  simp only[Int.toNat_natCast]
  refine⟨λc2=>⟨⟨0,rfl,by omega,by simp,rfl⟩,?_⟩,λc2=>?_⟩
  ·have hxk:x<k:=by rw[hM.1]at c2;omega
   obtain⟨row,g1,g2,g3⟩:=hM.get hxk
   rw[g3]
   rintro⟨b,ls2,p2⟩ ⟨y,hb,hy,hls2,hq2⟩
   simp only at hb hls2 hq2 ⊢
   subst hb
   simp only[Int.toNat_natCast]
   refine⟨λc3=>?_,λc3=>?_⟩
   ·have hyk:y<k:=by rw[hM.1]at c3;omega
    have hy':y<row.length:=by omega
    have hd:row.drop y=row[y]::row.drop (y+1):=List.drop_eq_getElem_cons hy'
    refine⟨by omega,by rw[hM.1];omega,λx2 e=>?_⟩
    rw[g1]at e;cases e
    refine⟨by omega,by omega,λx3 e3=>?_⟩
    obtain⟨-,rfl⟩:=List.getElem?_eq_some_iff.mp e3
    rw[hd]at hq2
    rw[W_succ (n:=k) (by omega) (by omega)]
    refine⟨λd=>?_,λd=>?_⟩
    ·have d:row[y]=false:=by simpa using d
     rw[d,lnk1,if_neg (by simp)]at hq2
     exact⟨⟨y+1,rfl,by omega,by omega,hq2⟩,by omega⟩
    ·have d:row[y]=true:=by simpa using d
     rw[d,lnk1,if_pos rfl]at hq2
     refine⟨by simp;omega,by omega,λx4 e4=>⟨by simp;omega,by omega,λx5 e5=>?_⟩⟩
     have i4:idAt rs x=x4.id:=by rw[idAt,List.getD_eq_getElem?_getD,e4];rfl
     have i5:idAt rs y=x5.id:=by rw[idAt,List.getD_eq_getElem?_getD,e5];rfl
     rw[i4,i5]at hq2
     refine⟨by simp,λf=>?_,λf=>?_⟩
     ·have f:(Mod (rawV L m) 3==0)=false:=by simpa using f
      rw[f]at hq2 ⊢
      refine⟨by simp,by simp,by omega,⟨y+1,rfl,by omega,by simp;omega,?_⟩,by omega⟩
      exact hq2
     ·have f:(Mod (rawV L m) 3==0)=true:=by simpa using f
      rw[f]at hq2 ⊢
      refine⟨by omega,⟨y+1,rfl,by omega,by simp;omega,?_⟩,by omega⟩
      exact hq2
   ·have hyk:y=k:=by rw[hM.1]at c3;omega
    subst hyk
    rw[List.drop_of_length_le (by omega),lnk1]at hq2
    rw[W_succ (n:=y) (by omega) (by omega)]
    refine⟨⟨x+1,rfl,by omega,by omega,?_⟩,by omega⟩
    have hd:M.drop x=row::M.drop (x+1):=by
     obtain⟨h1,h2⟩:=List.getElem?_eq_some_iff.mp g1
     rw[List.drop_eq_getElem_cons h1,h2]
    rw[hd,lnk2,←hq2]at hq
    exact hq
  ·have hxk:x=k:=by rw[hM.1]at c2;omega
   subst hxk
   rw[List.drop_of_length_le (by rw[hM.1];omega),lnk2]at hq
   rw[←hq]
def topoT_h(L:(List Int))(p:Nat)(most:Int)(hm:1≤most∧most≤100):HC Tryd.prog:=⟨9,[.k,.k],[.ref 0 0,.int most],[.box (.agg [.sl 1 (L.map AV.int) false,.int ((p:Nat):Int)])],topoT_e ((⟨L,(topoT L p most).2⟩:Tap),(topoT L p most).1),topoT_b ((⟨L,(topoT L p most).2⟩:Tap),(topoT L p most).1),HSpec.of_okh λok ok2=>have ok:topoT_a L p most hm:=⟨ok,ok2 _ (by simp)⟩;(topoT_p L p most hm ok).elim λI0 h=>h.elim λm0 h=>h.elim λI1 h=>h.elim λm1 h=>h.elim λI2 h=>h.elim λm2 h=>mxH_of (sh:=(.a [(.s 2),(.s 5)])) (enc:=topoT_e) (hB:=topoT_b) (a:=(topoT_x L p most hm I0 m0 I1 m1 I2 m2).an) h (by kernel_rfl),fnB_ok (by kernel_rfl),HcOk.of (by simp[hcB,belBL,AV.belB,allB,okBk,okBkO,topoT_e,topoT_b,pureBL_map (v:=AV.int) (λ_=>rfl)])⟩
theorem pureBLs_int(l:List Int):pureBLs [l.map AV.int]=true:=by rw[pureBLs,pureBL_map (λ_=>rfl) _];rfl
theorem lnk1_len{L:List Int}{rs:List Rtr}{flat:Bool}{a:Nat}:∀{r:List Bool} {b:Nat} {ls:List Lnk} {p:Nat},(lnk1 L rs flat a r b ls p).1.length≤ls.length+r.length
 | [],_,_,_=>by simp[lnk1]
 | t::r,b,ls,p=>by
  rw[lnk1]
  split
  ·refine Nat.le_trans lnk1_len ?_
   simp;omega
  ·refine Nat.le_trans lnk1_len ?_
   simp only[List.length_cons];omega
theorem lnk2_len{L:List Int}{rs:List Rtr}{flat:Bool}{n:Nat}:∀{M:List (List Bool)} {a:Nat} {ls:List Lnk} {p:Nat},(∀r∈M,r.length=n)→(lnk2 L rs flat M a ls p).1.length≤ls.length+M.length * n
 | [],_,_,_,_=>by simp[lnk2]
 | r::M,a,ls,p,h=>by
  rw[lnk2]
  refine Nat.le_trans (lnk2_len (n:=n) λr hr=>h r (by simp[hr])) ?_
  have:=lnk1_len (L:=L) (rs:=rs) (flat:=flat) (a:=a) (r:=r) (b:=0) (ls:=ls) (p:=p)
  have:=h r (by simp)
  rw[List.length_cons,Nat.succ_mul];omega
theorem topoT_rs{L:List Int}{p:Nat}{most:Int}(hm:1≤most∧most≤100):1≤(topoT L p most).1.rs.length∧(topoT L p most).1.rs.length≤most:=by
 have e:(topoT L p most).1.rs=(topoR L p most).1:=rfl
 rw[e,topoR,rtsL_len]
 have:=rng_in (L:=L) (p:=p) (lo:=1) (hi:=most) (by omega)
 simp only[List.length_nil,Nat.zero_add];omega
theorem topoT_ls{L:List Int}{p:Nat}{most:Int}(hm:1≤most∧most≤100):((topoT L p most).1.ls.length:Int)≤most * most:=by
 have hr:=rng_in (L:=L) (p:=p) (lo:=1) (hi:=most) (by omega)
 have hM:=topoM_sq L (rng L p 1 most).toNat (topoR L p most).2
 have:=lnk2_len (L:=L) (rs:=(topoR L p most).1) (flat:=Mod (rawV L (topoM L (rng L p 1 most).toNat (topoR L p most).2).2) 3==0) (a:=0) (ls:=[]) (p:=rawP L (topoM L (rng L p 1 most).toNat (topoR L p most).2).2) (λr hr=>hM.2 r hr)
 rw[hM.1]at this
 show(((lnk2 _ _ _ _ _ _ _).1.length:Nat):Int)≤_
 generalize (lnk2 _ _ _ _ _ _ _).1.length=x at *
 simp only[List.length_nil,Nat.zero_add]at this
 obtain⟨n,hn⟩:∃n:Nat,rng L p 1 most=n:=⟨(rng L p 1 most).toNat,by omega⟩
 rw[hn]at hr this
 simp only[Int.toNat_natCast]at this
 have h2:(n:Int) * n≤most * most:=Int.mul_le_mul hr.2 hr.2 (by omega) (by omega)
 have h3:((n * n:Nat):Int)=(n:Int) * n:=by simp
 omega
theorem joinTail_cons(sep x:List UInt8)(l:List (List UInt8)):Lib.joinTail sep (x::l)=sep++(x++Lib.joinTail sep l):=by simp[Lib.joinTail]
def listL(l:List Int):List UInt8:=if l=[]then [46]else Lib.join (l.map Lib.itoa) [44]
theorem joinB_eq(l:List (List UInt8))(sep:List UInt8):joinB (l.map B) (B sep)=B (Lib.join l sep):=by
 rw[joinB,List.map_map]
 show B (Lib.join (l.map λx=>x) sep)=_
 rw[List.map_id']
theorem listT_eq(l:List Int):listT l=B (listL l):=by
 unfold listT listL
 split
 ·rfl
 ·rw[←joinB_eq,List.map_map];rfl
end Go.Proofs.YteooglpnechplaaDoor
