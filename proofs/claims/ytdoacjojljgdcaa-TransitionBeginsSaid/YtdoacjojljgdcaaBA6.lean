/- Texts joined: TA2 TA3 TE FA TU BH1 BH2 BH3 BH4 RK1 RK2 RK3 RK4 RK5 RK6. -/
import Derived.Test.YtdoacjojljgdcaaBA5
set_option linter.unusedVariables false
set_option linter.unusedSimpArgs false
set_option linter.unusedSectionVars false
namespace Go.Proofs.Ytdoacjojljgdcaa
open Go Go.Am
def upH(t t':Tpl)(h:Hop):Bool:=(bo t h.a h.b).2 && (!(bo t' h.a h.b).2 || decide ((bo t h.a h.b).1<(bo t' h.a h.b).1))
def dnH(t t':Tpl)(h:Hop):Bool:=(bo t' h.a h.b).2 && (!(bo t h.a h.b).2 || decide ((bo t' h.a h.b).1<(bo t h.a h.b).1))
def chH(t t':Tpl)(h:Hop):Bool:=((bo t h.a h.b).2 != (bo t' h.a h.b).2) || ((bo t' h.a h.b).1 != (bo t h.a h.b).1)
def eC(c:Chg):List Hop:=[⟨c.a,c.b⟩,⟨c.b,c.a⟩]
def aD(t:Tpl)(c:Chg):Int×Tpl×List Hop×Int:=
 if ¬(bJ t c).2=0 then(0,⟨[],[]⟩,[],(bJ t c).2)
 else if(eC c).any (upH t (bJ t c).1)=true∧(eC c).any (dnH t (bJ t c).1)=true then(0,⟨[],[]⟩,[],8)
 else if(eC c).any (dnH t (bJ t c).1)=true then(2,(bJ t c).1,(eC c).filter (chH t (bJ t c).1),0)
 else(1,t,(eC c).filter (chH t (bJ t c).1),0)
def xe(t:Tpl)(c:Chg):=okL [Tpl.v t,Chg.v c]
def AQ(t:Tpl)(c:Chg)(t0:Bool×Bool×Int×List Hop):NF:=⟨[rR 2 0,rR 5 1,rV 6 2,rR 8 3,rB 9 t0.1,rB 10 t0.2.1,(37,.k,.sl 2 [.agg [.int c.a,.int c.b],.agg [.int c.b,.int c.a]] true),rI 38 2,rI 39 t0.2.2.1],[.box (Tpl.v t),.box (.agg [.sl 0 [] true,.sl 0 [] true]),vB 2 Hop.v t0.2.2.2 (λ_=>rfl),.box (Tpl.v ((bJ t c).1))]⟩
def AP(t:Tpl)(c:Chg)(t0:Bool×Bool×Int×List Hop)(x1:Hop)(t1:Bool):NF:=⟨[rR 2 0,rR 5 1,rV 6 2,rR 8 3,rB 9 t1,rB 10 t0.2.1,rR 12 4,rI 13 ((bo t x1.a x1.b).1),rB 14 ((bo t x1.a x1.b).2),rI 15 ((bo ((bJ t c).1) x1.a x1.b).1),rB 16 ((bo ((bJ t c).1) x1.a x1.b).2),(37,.k,.sl 2 [.agg [.int c.a,.int c.b],.agg [.int c.b,.int c.a]] true),rI 38 2,rI 39 t0.2.2.1],[.box (Tpl.v t),.box (.agg [.sl 0 [] true,.sl 0 [] true]),vB 2 Hop.v t0.2.2.2 (λ_=>rfl),.box (Tpl.v ((bJ t c).1)),.box (Hop.v x1)]⟩
def AN(t:Tpl)(c:Chg)(t0:Bool×Bool×Int×List Hop)(x1:Hop)(t1:Bool)(t2:Bool):NF:=⟨[rR 2 0,rR 5 1,rV 6 2,rR 8 3,rB 9 t1,rB 10 t2,rR 12 4,rI 13 ((bo t x1.a x1.b).1),rB 14 ((bo t x1.a x1.b).2),rI 15 ((bo ((bJ t c).1) x1.a x1.b).1),rB 16 ((bo ((bJ t c).1) x1.a x1.b).2),(37,.k,.sl 2 [.agg [.int c.a,.int c.b],.agg [.int c.b,.int c.a]] true),rI 38 2,rI 39 t0.2.2.1],[.box (Tpl.v t),.box (.agg [.sl 0 [] true,.sl 0 [] true]),vB 2 Hop.v t0.2.2.2 (λ_=>rfl),.box (Tpl.v ((bJ t c).1)),.box (Hop.v x1)]⟩
def AM(t:Tpl)(c:Chg)(t0:Bool×Bool×Int×List Hop)(x1:Hop)(t1:Bool)(t2:Bool)(t3:Bool):NF:=⟨[rR 2 0,rR 5 1,rV 6 2,rR 8 3,rB 9 t1,rB 10 t2,rR 12 4,(37,.k,.sl 2 [.agg [.int c.a,.int c.b],.agg [.int c.b,.int c.a]] true),rI 38 2,rI 39 t0.2.2.1,rB 94 t3],[.box (Tpl.v t),.box (.agg [.sl 0 [] true,.sl 0 [] true]),vB 2 Hop.v t0.2.2.2 (λ_=>rfl),.box (Tpl.v ((bJ t c).1)),.box (Hop.v x1)]⟩
def AL(t:Tpl)(c:Chg)(t0:Bool×Bool×Int×List Hop)(t4:Bool):NF:=⟨[rR 2 0,rR 5 1,rV 6 2,rR 8 3,rB 10 t0.2.1,rB 100 t4],[.box (Tpl.v t),.box (.agg [.sl 0 [] true,.sl 0 [] true]),vB 2 Hop.v t0.2.2.2 (λ_=>rfl),.box (Tpl.v ((bJ t c).1))]⟩
@[reducible] def xc:Nat→Type
 | 0=>Bool×Bool×Int×List Hop
 | 1=>Bool
 | 2=>Bool
 | 3=>Bool
 | 4=>Bool
 | _=>Unit
def xd(r:Int×Tpl×List Hop×Int):AV:=.tup [.int r.1,Tpl.v r.2.1,.sl 2 (r.2.2.1.map Hop.v) false,.int r.2.2.2]
def wZ(t:Tpl)(c:Chg)(I0:(Bool×Bool×Int×List Hop)→Prop)(m0:(Bool×Bool×Int×List Hop)→Nat)(I1:Bool×Bool×Int×List Hop→Hop→Bool→Prop)(I2:Bool×Bool×Int×List Hop→Hop→Bool→Bool→Prop)(I3:Bool×Bool×Int×List Hop→Hop→Bool→Bool→Bool→Prop)(I4:Bool×Bool×Int×List Hop→Bool→Prop):Ax Try.prog xc (Int×Tpl×List Hop×Int):=
 (.callP (Fi t c)
(.br 272 (((bJ t c).2) != 0) (.ret (0,(⟨[],[]⟩:Tpl),[],(bJ t c).2))
(.cmdL (.nilT 6 2) (.loop 0 (AQ t c) I0 m0 (false,false,0,[]) [0,48,512,192] λ(t0:Bool×Bool×Int×List Hop) b0 =>
(.br 20 (decide (t0.2.2.1<2)) (.el 20 Hop.v [(⟨c.a,c.b⟩:Hop),(⟨c.b,c.a⟩:Hop)] (λR=>Rf (α:=List AV) [.agg [.int c.a,.int c.b],.agg [.int c.b,.int c.a]] (ck (decide (0≤t0.2.2.1)) (ck (decide (t0.2.2.1<([(⟨c.a,c.b⟩:Hop),(⟨c.b,c.a⟩:Hop)].length:Int)))
(∀x1,[(⟨c.a,c.b⟩:Hop),(⟨c.b,c.a⟩:Hop)][t0.2.2.1.toNat]?=some x1 →
(R x1))))) λx1 =>
(.callP (mf t x1.a x1.b)
(.callP (mf ((bJ t c).1) x1.a x1.b)
(.join 1 (AP t c t0 x1) (λ(t1:Bool)=>I1 t0 x1 t1) (λb1=>(.br 468 t0.1 (.bk 1 b1 ((true):Bool) [0,1,2,3,52])
(.br 500 ((bo t x1.a x1.b).2) (.br 548 (!((bo ((bJ t c).1) x1.a x1.b).2)) (.bk 1 b1 ((true):Bool) [0,1,2,3,52])
(.bk 1 b1 ((decide (((bo t x1.a x1.b).1)<((bo ((bJ t c).1) x1.a x1.b).1))):Bool) [0,1,2,3,52]))
(.bk 1 b1 ((false):Bool) [0,1,2,3,52])))) λ(t1:Bool) =>
(.join 2 (AN t c t0 x1 t1) (λ(t2:Bool)=>I2 t0 x1 t1 t2) (λb2=>(.br 37 t0.2.1 (.bk 2 b2 ((true):Bool) [0,1,2,3,4])
(.br 69 ((bo ((bJ t c).1) x1.a x1.b).2) (.br 117 (!((bo t x1.a x1.b).2)) (.bk 2 b2 ((true):Bool) [0,1,2,3,4])
(.bk 2 b2 ((decide (((bo ((bJ t c).1) x1.a x1.b).1)<((bo t x1.a x1.b).1))):Bool) [0,1,2,3,4]))
(.bk 2 b2 ((false):Bool) [0,1,2,3,4])))) λ(t2:Bool) =>
(.join 3 (AM t c t0 x1 t1 t2) (λ(t3:Bool)=>I3 t0 x1 t1 t2 t3) (λb3=>(.br 69 (!(((bo t x1.a x1.b).2)==((bo ((bJ t c).1) x1.a x1.b).2))) (.bk 3 b3 ((true):Bool) [0,1,2,3,4])
(.bk 3 b3 ((((bo ((bJ t c).1) x1.a x1.b).1) != ((bo t x1.a x1.b).1)):Bool) [0,1,2,3,4]))) λ(t3:Bool) =>
(.br 5 t3 (.apX 53 Hop.v t0.2.2.2 [x1] (t0.2.2.2.length+1)
(.bk 0 b0 (t1,t2,W (t0.2.2.1+1),t0.2.2.2++[x1]) [0,1,53,3]))
(.bk 0 b0 (t1,t2,W (t0.2.2.1+1),t0.2.2.2) [0,1,2,3]))))))))
(.pass (.join 4 (AL t c t0) (λ(t4:Bool)=>I4 t0 t4) (λb4=>(.br 52 t0.1 (.bk 4 b4 ((t0.2.1):Bool) [0,1,2,3])
(.bk 4 b4 ((false):Bool) [0,1,2,3]))) λ(t4:Bool) =>
(.br 4 t4 (.ret (0,(⟨[],[]⟩:Tpl),[],8))
(.br 36 t0.2.1 (.fz 2 Hop.v t0.2.2.2 (λ_=>rfl) (.ret (2,(bJ t c).1,t0.2.2.2,0)))
(.fz 2 Hop.v t0.2.2.2 (λ_=>rfl) (.ret (1,t,t0.2.2.2,0))))))))))))
def RedI(t t':Tpl)(l:List Hop)(s:Bool×Bool×Int×List Hop):Prop:=∃k:Nat,s.2.2.1=k∧k≤l.length∧s.1=(l.take k).any (upH t t')∧s.2.1=(l.take k).any (dnH t t')∧s.2.2.2=(l.take k).filter (chH t t')
theorem D6(t:Tpl)(c:Chg)(ok:xe t c):∃I0 m0 I1 I2 I3 I4,(wZ t c I0 m0 I1 I2 I3 I4).vp xd (aD t c):=by
 refine⟨RedI t (bJ t c).1 (eC c),λs=>2-s.2.2.1.toNat,λs h u=>u=(s.1 || upH t (bJ t c).1 h),λs h u d=>u=(s.1 || upH t (bJ t c).1 h)∧d=(s.2.1 || dnH t (bJ t c).1 h),
  λs h u d x=>(u=(s.1 || upH t (bJ t c).1 h)∧d=(s.2.1 || dnH t (bJ t c).1 h))∧x=chH t (bJ t c).1 h,λs b=>b=(s.1 && s.2.1),?_⟩
 simp only[xe,Chg.v,Tpl.v,okU,Blk.ok,bc,B']at ok;dsimp only[wZ,xc,Ax.vp,Ax.vc];simp only[vcU,rfU,B'];have hl:(eC c).length=2:=rfl;refine⟨λd=>by unfold aD;rw[F' (by simpa using d)],λd=>⟨⟨0,rfl,by omega,rfl,rfl,rfl⟩,?_⟩⟩;have d:(bJ t c).2=0:=by simpa using d
 rintro⟨u0,d0,_,ds⟩ ⟨k,rfl,hk,e1,e2,e3⟩;simp only at e1 e2 e3 ⊢;rw[Int.toNat_natCast]
 refine⟨λq=>⟨by omega,by simp only[ab',ak'];omega,λx hx=>⟨⟨λg=>?_,λg=>⟨λg1=>⟨λg2=>?_,λg2=>?_⟩,λg1=>?_⟩⟩,?_⟩⟩,λq=>?_⟩
 ·rw[g];rfl
 ·unfold upH;rw[g1,g2];simp
 ·unfold upH;rw[g,g1,g2];rfl
 ·unfold upH;rw[g,g1];rfl
 ·rintro _ rfl
  refine⟨⟨λg=>⟨rfl,by rw[g];rfl⟩,λg=>⟨λg1=>⟨λg2=>⟨rfl,?_⟩,λg2=>⟨rfl,?_⟩⟩,λg1=>⟨rfl,?_⟩⟩⟩,?_⟩
  ·unfold dnH;rw[g1,g2];simp
  ·unfold dnH;rw[g,g1,g2];rfl
  ·unfold dnH;rw[g,g1];rfl
  rintro _ ⟨_,rfl⟩
  refine⟨⟨λg=>⟨⟨rfl,rfl⟩,?_⟩,λg=>⟨⟨rfl,rfl⟩,?_⟩⟩,?_⟩
  ·unfold chH bne;rw[g];rfl
  ·unfold chH;have g':((bo t x.a x.b).2 != (bo (bJ t c).1 x.a x.b).2)=false:=g
   rw[g'];rfl
  rintro _ ⟨_,rfl⟩;have w:W ((k:Int)+1)=((k+1:Nat):Int):=d7 (n:=2) (by omega) (by omega);have hx':(eC c)[k]?=some x:=hx;have f1:∀p:Hop→Bool,((eC c).take (k+1)).any p=(((eC c).take k).any p || p x):=λp=>by rw[bp hx'];simp
  have hdl:ds.length≤2:=by rw[e3];exact aW' (ca' _ _) (by rw[ar'];omega)
  rw[w]
  refine⟨λg=>⟨by omega,⟨k+1,rfl,by omega,by simp only;rw[f1,e1],by simp only;rw[f1,e2],?_⟩,by omega⟩,λg=>⟨⟨k+1,rfl,by omega,by simp only;rw[f1,e1],by simp only;rw[f1,e2],?_⟩,by omega⟩⟩
  ·simp only;rw[bp hx',bZ',e3];simp[g]
  ·simp only;rw[bp hx',bZ',e3];simp[g]
 ·have hk2:(eC c).take k=eC c:=ah' (by omega);rw[hk2]at e1 e2 e3;refine⟨⟨λg=>by rw[g];rfl,λg=>by rw[g];rfl⟩,?_⟩;rintro _ rfl;unfold aD;rw[E' (by simp[d])]
  refine⟨λg=>?_,λg=>⟨λg1=>?_,λg1=>?_⟩⟩
  ·rw[e1,e2]at g;rw[F' (by simpa using g)]
  ·rw[g1,e1]at g;rw[e2]at g1;rw[E' (λh=>by rw[h.1]at g;cases g),F' g1,e3]
  ·rw[e2]at g1;rw[E' (by simp[g1]),E' (by simp[g1]),e3]
def n0(t:Tpl)(c:Chg):PC Try.prog:=pcO 18 [(.a [(.s 2),(.s 5)]),.k] [Tpl.v t,Chg.v c] (.a [.k,(.a [(.s 2),(.s 5)]),(.s 2),.k]) xd (aD t c) (λok=>let ⟨I0,m0,I1,I2,I3,I4,h⟩:=D6 t c ok;⟨_,h,by kernel_rfl⟩) rfl (by kernel_rfl)
def xV(r:Int×Int):AV:=.tup [.int r.1,.int r.2]
def rO(t:Tpl)(c:Chg):Ax Try.prog noS (Int×Int):=
 (.callP (n0 t c)
(.ret ((aD t c).1,(aD t c).2.2.2)))
theorem DY(t:Tpl)(c:Chg):(rO t c).vp xV ((aD t c).1,(aD t c).2.2.2):=by
 dsimp only[rO,noS,Ax.vp,Ax.vc];simp only[vcU,rfU,B']
def DZ(t:Tpl)(c:Chg):PC Try.prog:=pcO 22 [(.a [(.s 2),(.s 5)]),.k] [Tpl.v t,Chg.v c] .k xV ((aD t c).1,(aD t c).2.2.2) (λ_=>⟨(rO t c),DY t c,by kernel_rfl⟩) rfl (by kernel_rfl)
structure Dst where
  r:Int
  c:Int
  deriving DecidableEq
def Dst.v(x:Dst):AV:=.agg [.int x.r,.int x.c]
def m6(h:Hop):MK:=.c [h.a,h.b]
theorem pq(x y:Hop)(h:m6 x=m6 y):x=y:=by
 cases x;cases y;unfold m6 at h;simp at h;simp[h]
def lC{β:Type}(vf:β→AV)(l:List (Hop×β))(x:Hop)(z:β):MN:=.get inferInstance m6 pq vf l x z
def xL{β:Type}(vf:β→AV)(l:List (Hop×β))(x:Hop)(v:β):MN:=.put inferInstance m6 pq vf l x v
def kI(t:Tpl)(f:Int)(r:Rtr):List Dst:=if(aP t f r.id).2=true then [⟨r.id,(aP t f r.id).1⟩]else []
def eY(t:Tpl)(f:Int):List Dst:=if aF t=0 then t.rs.flatMap (kI t f)else []
def yK(t:Tpl)(from_:Int):=okL [Tpl.v t,.int from_]
def BA(t:Tpl)(from_:Int)(t0:Int×List Dst):NF:=⟨[(5,.k,.mp none ((cn ((kH t).out) from_).map λp:Int×Int=>MK.n p.1) ((cn ((kH t).out) from_).map λp:Int×Int=>AV.int p.2)),rV 6 0,(20,.k,.sl 2 (t.rs.map Rtr.v) false),rI 21 ((t.rs.map Rtr.v).length:Int),rI 22 t0.1],[vB 2 Dst.v t0.2 (λ_=>rfl)]⟩
@[reducible] def yI:Nat→Type
 | 0=>Int×List Dst
 | _=>Unit
def yJ(r:List Dst):AV:=.sl 2 (r.map Dst.v) false
def yH(t:Tpl)(from_:Int)(I0:(Int×List Dst)→Prop)(m0:(Int×List Dst)→Nat):Ax Try.prog yI ((List Dst)):=
 (.callP (Af t)
(.br 80 (!(gI t)) (.ret ([]))
(.req 96 (aF t=0) λh1 =>
(.callP (Ej t h1)
(.req 144 (tM ((kH t).out)) λh2 =>
(.callP (E6 ((kH t).out) from_ h2)
(.cmdL (.nilT 6 2) (.loop 0 (BA t from_) I0 m0 (0,[]) [256] λ(t0:Int×List Dst) b0 =>
(.br 17 (decide (t0.1<((t.rs.map Rtr.v).length:Int))) (.elI 17 Rtr.v t.rs t0.1 λx3 =>
(.mn 129 (nM AV.int (cn ((kH t).out) from_) x3.id 0) (.br 241 (aR (cn ((kH t).out) from_) x3.id) (.apX 337 Dst.v t0.2 [(⟨x3.id,av (cn ((kH t).out) from_) x3.id 0⟩:Dst)] (t0.2.length+1)
(.bk 0 b0 (W (t0.1+1),t0.2++[(⟨x3.id,av (cn ((kH t).out) from_) x3.id 0⟩:Dst)]) [337]))
(.bk 0 b0 (W (t0.1+1),t0.2) [0]))))
(.fz 0 Dst.v t0.2 (λ_=>rfl) (.ret (t0.2))))))))))))
theorem E1(t:Tpl)(f:Int)(ok:yK t f):∃I0 m0,(yH t f I0 m0).vp yJ (eY t f):=by
 refine⟨λs=>ka t.rs (kI t f) s.1 s.2,λs=>t.rs.length-s.1.toNat,?_⟩;simp only[yK,Tpl.v,okU,Blk.ok,bc,B']at ok;dsimp only[yH,yI,Ax.vp,Ax.vc];simp only[vcU,rfU,B'];by_cases hc:aF t=0
 case neg =>
  have hv:gI t=false:=by unfold gI;simpa using hc
  rw[hv];exact⟨λ_=>by unfold eY;rw[E' hc],λe=>by simp at e⟩
 have hv:gI t=true:=by unfold gI;rw[hc];rfl
 have hn:=(cX hc).1;rw[hv,show(kH t).out=cK t from rfl]
 refine⟨λe=>by simp at e,λ_=>⟨hc,Ba hc,ka.zero,λs h=>⟨λc=>⟨h.idx,c,λx hx=>⟨λe=>?_,λe=>?_⟩⟩,λc=>?_⟩⟩⟩
 ·have hl:=h.len (b:=1) (λr _=>by unfold kI;split<;>simp);have q:kI t f x=[⟨x.id,av (cn (cK t) f) x.id 0⟩]:=by unfold kI;rw[uz hc,F' e];rfl
  exact⟨by omega,h.step (by omega) hx (by rw[q])⟩
 ·have q:kI t f x=[]:=by unfold kI;rw[uz hc,E' (by rw[e];simp)]
  exact h.step (by omega) hx (by rw[q,bd'])
 ·rw[h.done c];unfold eY;rw[F' hc]
def E2(t:Tpl)(from_:Int):PC Try.prog:=pcO 44 [(.a [(.s 2),(.s 5)]),.k] [Tpl.v t,.int from_] (.s 2) yJ (eY t from_) (λok=>let ⟨I0,m0,h⟩:=E1 t from_ ok;⟨_,h,by kernel_rfl⟩) rfl (by kernel_rfl)
theorem yG(t:Tpl)(f:Int):(eY t f).length≤24:=by
  unfold eY
  split
  · rename_i hc
    have hn:=(cX hc).1;have:∀l:List Rtr,(l.flatMap (kI t f)).length≤l.length:=λl=>by
      induction l with
      | nil=>simp
      | cons r l ih => rw [az', List.length_append, ab']; have : (kI t f r).length ≤ 1 := by unfold kI; split <;> simp
                       omega
    have:=this t.rs;omega
  · simp
def sr(t:Tpl)(M:List (Hop×Int))(r:Rtr):List (Hop×Int):=(eY t r.id).foldl (λm d=>bg m ⟨r.id,d.r⟩ d.c) M
def cz(t:Tpl):List (Hop×Int):=t.rs.foldl (sr t) []
def zZ(t:Tpl):=okL [Tpl.v t]
def C9(t:Tpl)(t0:Int×(List (Hop×Int))):NF:=⟨[rR 1 0,(3,.k,.mref 1),(10,.k,.sl 2 (t.rs.map Rtr.v) false),rI 11 ((t.rs.map Rtr.v).length:Int),rI 12 t0.1],[.box (Tpl.v t),.map (some 2) (t0.2.map λp=>m6 p.1) (t0.2.map λp=>AV.int p.2) (am (λ_=>rfl) _)]⟩
def C8(t:Tpl)(t0:Int×(List (Hop×Int)))(x1:Rtr)(t1:Int×(List (Hop×Int))):NF:=⟨[rR 1 0,(3,.k,.mref 1),rR 5 2,(10,.k,.sl 2 (t.rs.map Rtr.v) false),rI 11 ((t.rs.map Rtr.v).length:Int),rI 12 t0.1,(19,.k,.sl 2 ((eY t x1.id).map Dst.v) false),rI 20 (((eY t x1.id).map Dst.v).length:Int),rI 21 t1.1],[.box (Tpl.v t),.map (some 2) (t1.2.map λp=>m6 p.1) (t1.2.map λp=>AV.int p.2) (am (λ_=>rfl) _),.box (Rtr.v x1)]⟩
@[reducible] def zX:Nat→Type
 | 0=>Int×(List (Hop×Int))
 | 1=>Int×(List (Hop×Int))
 | _=>Unit
def zY(r:(List (Hop×Int))):AV:=.mp (some 2) (r.map λp:Hop×Int=>m6 p.1) (r.map λp:Hop×Int=>AV.int p.2)
def zW(t:Tpl)(I0:(Int×(List (Hop×Int)))→Prop)(m0:(Int×(List (Hop×Int)))→Nat)(I1:Int×(List (Hop×Int))→Rtr→(Int×(List (Hop×Int)))→Prop)(m1:Int×(List (Hop×Int))→Rtr→(Int×(List (Hop×Int)))→Nat):Ax Try.prog zX ((List (Hop×Int))):=
 (.loop 0 (C9 t) I0 m0 (0,([]:List (Hop×Int))) [0,32] λ(t0:Int×(List (Hop×Int))) b0 =>
(.br 18 (decide (t0.1<((t.rs.map Rtr.v).length:Int))) (.elI 18 Rtr.v t.rs t0.1 λx1 =>
(.callP (E2 t x1.id)
(.loop 1 (C8 t t0 x1) (I1 t0 x1) (m1 t0 x1) (0,t0.2) [0,1,50] λ(t1:Int×(List (Hop×Int))) b1 =>
(.br 19 (decide (t1.1<(((eY t x1.id).map Dst.v).length:Int))) (.elI 19 Dst.v (eY t x1.id) t1.1 λx2 =>
(.mn 211 (xL AV.int t1.2 (⟨x1.id,x2.r⟩:Hop) x2.c) (.bk 1 b1 (W (t1.1+1),bg t1.2 (⟨x1.id,x2.r⟩:Hop) x2.c) [0,1,2])))
(.bk 0 b0 (W (t0.1+1),t1.2) [0,1])))))
(.say (Rf (t0.2.map λp=>AV.int p.2)) (.cmdL (.frzM 1 (t0.2.map λp=>AV.int p.2) (am (λ_=>rfl) _)) (.ret (t0.2))))))
theorem Fk(t:Tpl)(ok:zZ t):∃I0 m0 I1 m1,(zW t I0 m0 I1 m1).vp zY (cz t):=by
 refine⟨λs=>∃k:Nat,s.1=k∧k≤t.rs.length∧s.2=(t.rs.take k).foldl (sr t) [],λs=>t.rs.length-s.1.toNat,
  λs r q=>∃k:Nat,q.1=k∧k≤(eY t r.id).length∧q.2=((eY t r.id).take k).foldl (λm d=>bg m ⟨r.id,d.r⟩ d.c) s.2,λs r q=>(eY t r.id).length-q.1.toNat,?_⟩
 simp only[zZ,Tpl.v,okU,Blk.ok,bc,B']at ok;dsimp only[zW,zX,Ax.vp,Ax.vc];simp only[vcU,rfU,B'];refine⟨⟨0,rfl,by omega,rfl⟩,?_⟩;rintro⟨_,M⟩ ⟨k,rfl,hk,hM⟩;simp only at hM ⊢;refine⟨λc=>⟨by omega,c,λr hr=>⟨⟨0,rfl,by omega,rfl⟩,?_⟩⟩,λc=>by rw[hM,ah' (by omega)];rfl⟩;rintro⟨_,N⟩ ⟨j,rfl,hj,hN⟩;simp only at hN ⊢;have hdl:=yG t r.id
 refine⟨λd=>⟨by omega,d,λy hy=>⟨⟨j+1,d7 (n:=(eY t r.id).length) (by omega) (by omega),by omega,?_⟩,?_⟩⟩,λd=>⟨⟨k+1,d7 (n:=t.rs.length) (by omega) (by omega),by omega,?_⟩,?_⟩⟩
 ·rw[Int.toNat_natCast]at hy;rw[bp hy,bt',←hN];rfl
 ·rw[d7 (n:=(eY t r.id).length) (by omega) (by omega)];omega
 ·rw[Int.toNat_natCast]at hr;rw[bp hr,bt',←hM];show N=sr t M r;rw[hN,ah' (by omega)];rfl
 ·rw[d7 (n:=t.rs.length) (by omega) (by omega)];omega
def sR(t:Tpl):PC Try.prog:=pcO 30 [(.a [(.s 2),(.s 5)])] [Tpl.v t] .k zY (cz t) (λok=>let ⟨I0,m0,I1,m1,h⟩:=Fk t ok;⟨_,h,by kernel_rfl⟩) rfl (by kernel_rfl)
structure sU (t:Tpl) (M:List (Hop×Int)):Prop where
  nd:(aq M).Nodup
  ok:∀p∈M,aP t p.1.a p.1.b=(p.2,true)
theorem B9{t:Tpl}{f:Int}{d:Dst}(h:d∈eY t f):aP t f d.r=(d.c,true):=by
 unfold eY at h
 split at h
 ·obtain⟨r,_,h⟩:=bA'.mp h;unfold kI at h
  split at h
  ·rename_i e;rw[P']at h;subst h;exact Prod.ext rfl e
  ·cases h
 ·cases h
theorem Ez{t:Tpl}(hc:aF t=0){f g:Int}(h:(aP t f g).2=true)(hg:aJ t g=true):⟨g,(aP t f g).1⟩∈eY t f:=by
 unfold eY;rw[F' hc];obtain⟨r,hr,e⟩:=aF'.mp hg;have e:r.id=g:=eq_of_beq e;refine bA'.mpr ⟨r,hr,?_⟩;unfold kI;rw[e,F' h];exact P'.mpr rfl
theorem sU.put{t:Tpl}{M:List (Hop×Int)}(h:sU t M){x y c:Int}(e:aP t x y=(c,true)):sU t (bg M ⟨x,y⟩ c)∧(⟨x,y⟩,c)∈bg M ⟨x,y⟩ c∧∀p∈M,p∈bg M ⟨x,y⟩ c:=by
 refine⟨⟨eR h.nd,λp hp=>?_⟩,(bQ h.nd).mpr (.inl rfl),λp hp=>?_⟩
 ·rcases(bQ h.nd).mp hp with rfl|⟨hp,_⟩
  ·exact e
  ·exact h.ok p hp
 ·rw[bQ h.nd]
  by_cases q:p.1=⟨x,y⟩
  ·left;have:=h.ok p hp;rw[q,e]at this;exact Prod.ext q (Prod.mk.inj this).1.symm
  ·exact .inr ⟨hp,q⟩
theorem um{t:Tpl}(x:Int):∀(l:List Dst) (M:List (Hop×Int)),(∀d∈l,aP t x d.r=(d.c,true))→sU t M →
  sU t (l.foldl (λm d=>bg m ⟨x,d.r⟩ d.c) M)∧(∀p∈M,p∈l.foldl (λm d=>bg m ⟨x,d.r⟩ d.c) M)∧∀d∈l,(⟨x,d.r⟩,d.c)∈l.foldl (λm d=>bg m ⟨x,d.r⟩ d.c) M
 | [],M,_,h=>⟨h,λp hp=>hp,λd hd=>by simp at hd⟩
 | d::l,M,hl,h=>by
  obtain⟨g1,g2,g3⟩:=h.put (hl d (by simp));obtain⟨k1,k2,k3⟩:=um x l _ (λd hd=>hl d (by simp[hd])) g1;refine⟨k1,λp hp=>k2 p (g3 p hp),λd' hd'=>?_⟩
  rcases aa'.mp hd' with rfl|hd'
  ·exact k2 _ g2
  ·exact k3 d' hd'
theorem ot{t:Tpl}:∀(l:List Rtr) (M:List (Hop×Int)),sU t M→sU t (l.foldl (sr t) M)∧(∀p∈M,p∈l.foldl (sr t) M)∧∀r∈l,∀d∈eY t r.id,(⟨r.id,d.r⟩,d.c)∈l.foldl (sr t) M
 | [],M,h=>⟨h,λp hp=>hp,λr hr=>by simp at hr⟩
 | r::l,M,h=>by
  obtain⟨g1,g2,g3⟩:=um r.id (eY t r.id) M (λd hd=>B9 hd) h;obtain⟨k1,k2,k3⟩:=ot l (sr t M r) g1;refine⟨k1,λp hp=>k2 p (g2 p hp),λr' hr' d hd=>?_⟩
  rcases aa'.mp hr' with rfl|hr'
  ·exact k2 _ (g3 d hd)
  ·exact k3 r' hr' d hd
theorem gY{t:Tpl}{x y:Int}(h:(aP t x y).2=true):aF t=0∧aJ t x=true∧aJ t y=true:=by
 unfold aP at h
 split at h
 ·cases h
 ·rename_i e;have h1:hs5 t x=true:=by simp at e;exact e.1
  have h2:hs5 t y=true:=by simp at e;exact e.2
  exact⟨(dx.mp h1).1,(dx.mp h1).2,(dx.mp h2).2⟩
theorem u9{t:Tpl}{x y:Int}(h:(aP t x y).2=false):(aP t x y).1=0:=by
 unfold aP at *
 split
 ·rfl
 ·rename_i e;rw[E' e]at h
  split
  ·rfl
  ·rename_i g;rw[E' g]at h;cases h
theorem oq(t:Tpl)(x y:Int):aR (cz t) ⟨x,y⟩=(aP t x y).2:=by
 obtain⟨g1,_,g3⟩:=ot (t:=t) t.rs [] ⟨bc',λp hp=>by simp at hp⟩;rw[aR',bK]
 constructor
 ·rintro⟨v,hv⟩;have:=g1.ok _ hv;rw[show aP t x y=_ from this]
 ·intro h;obtain⟨hc,hx,hy⟩:=gY h;obtain⟨r,hr,e⟩:=aF'.mp hx;have e:r.id=x:=eq_of_beq e;have:=g3 r hr _ (Ez hc (by rw[e];exact h) hy);rw[e]at this;exact⟨_,this⟩
theorem BC(t:Tpl)(x y:Int):av (cz t) ⟨x,y⟩ 0=(aP t x y).1:=by
 obtain⟨g1,_,g3⟩:=ot (t:=t) t.rs [] ⟨bc',λp hp=>by simp at hp⟩;cases e:(aP t x y).2 with
 | false=>rw[cA (by rw[oq,e]),u9 e]
 | true =>
  have h:=bD (z:=0) (show aR (cz t) ⟨x,y⟩=true by rw[oq,e]);have:=g1.ok _ h;rw[show aP t x y=_ from this]
def iy(m:List (Hop×Int))(x d:Int)(h:Hop)(c:Int):Bool:=aR m ⟨x,h.a⟩ && (aR m ⟨h.b,d⟩ && (W (W (av m ⟨x,h.a⟩ 0+c)+av m ⟨h.b,d⟩ 0)==av m ⟨x,d⟩ 0))
def wB(r:Bool):AV:=.bool r
def qG(m:(List (Hop×Int)))(x:Int)(d:Int)(h_:Hop)(cost:Int):Ax Try.prog noS (Bool):=
 (.mn 112 (lC AV.int m (⟨x,h_.a⟩:Hop) 0) (.mn 288 (lC AV.int m (⟨h_.b,d⟩:Hop) 0) (.br 416 (aR m (⟨x,h_.a⟩:Hop)) (.br 464 (aR m (⟨h_.b,d⟩:Hop)) (.mn 608 (lC AV.int m (⟨x,d⟩:Hop) 0) (.ret ((W ((W ((av m (⟨x,h_.a⟩:Hop) 0)+cost))+(av m (⟨h_.b,d⟩:Hop) 0)))==(av m (⟨x,d⟩:Hop) 0))))
(.ret (false)))
(.ret (false)))))
theorem Ds(m:List (Hop×Int))(x d:Int)(h:Hop)(c:Int):(qG m x d h c).vp wB (iy m x d h c):=by
 dsimp only[qG,noS,Ax.vp,Ax.vc];simp only[vcU,rfU,B'];unfold iy;refine⟨λa=>⟨λb=>by rw[a,b];rfl,λb=>by rw[a,b];rfl⟩,λa=>by rw[a];rfl⟩
def cf(m:(List (Hop×Int)))(x:Int)(d:Int)(h_:Hop)(cost:Int):PC Try.prog:=pcO 31 [.k,.k,.k,.k,.k] [.mp (some 2) (m.map λp:Hop×Int=>m6 p.1) (m.map λp:Hop×Int=>AV.int p.2),.int x,.int d,Hop.v h_,.int cost] .k wB (iy m x d h_ cost) (λ_=>⟨(qG m x d h_ cost),Ds m x d h_ cost,by kernel_rfl⟩) rfl (by kernel_rfl)
theorem uU{P:Program}{n:Nat}{o:Oper}{f:Nat}{tm:Nat→AV}{hp:Hp}{g:AO}{xs:List AO}(ho:cOp P o.op o.type=.call g xs)(hd:∀d,o.dst=some d→d<n)
  {fid:FuncId} {caps:List AV} (hg:evO tm g=.func fid caps) {foot:List Nat} {Qv:AV→Eff→Prop} (h:ig P n fid (xs.map (evO tm)++caps) f hp foot Qv)
  {c:Ctx} {A:Nat→Prop} {μ:Mu} {fr:Nat→Prop} {a:Act} {w:World} {K:Act→World→Prop} {Q:Exit→Act→World→Prop} (H:ax P c A μ fr tm hp n a w) (h3:∀j,j<16→fr (f+j))
  (hK:∀v e,Qv v e→∀a' w' A' μ',ax P c A' μ' (λb=>fr b∧¬(f≤b∧b<f+16)) (aB o.dst v tm) (bG e hp) n a' w'→K a' w'):o.wp P a w K Q:=by
 obtain⟨⟨fn,f1,f2,f3⟩,hcall⟩:=h;have hop:=mh ho;obtain⟨g',args,ts,ho',rfl,rfl⟩:=hop;have hgr:=H.ev g';rw[hg]at hgr;obtain⟨cvs,e1,e2⟩:=hgr;have hxs:(args.toList.map (cO P)).map (evO tm)=args.toList.map λx=>evO tm (cO P x):=by rw[aX'];rfl
 rw[hxs]at hcall;have hargs:=(H.evs args.toList).append e2;have:=hcall c A μ fr tm hp a w _ H (λ_ _=>rfl) h3 hargs;unfold Oper.wp;rw[ma ho' e1 f1 f2 f3,Oper.upon_enter];have ea:args.map a.eval++cvs.toArray=(args.toList.map a.eval++cvs).toArray:=by apply aJ';simp
 rw[ea];refine this.mono ?_;rintro e' w' ⟨v,e,hq,cv,A',μ',rfl,r1,r2⟩;exact hK v e hq _ _ _ _ (r1.put o.dst hd r2)
theorem AWP.regE{P:Program}{k n:Nat}{Q:X→S3→Prop}{s:S3}{os1 os2:List az}{d:Option Nat}{g:AO}{xs:List AO}
  (h:evT P n os1 s.nx ⟨s.tm,s.hp⟩ (λs1 f1=>∃fid caps foot Qv,evO s1.tm g=.func fid caps∧ig P n fid (xs.map (evO s1.tm)++caps) f1 s1.hp foot Qv ∧
   ∀v e,Qv v e→evT P n os2 (f1+16) ⟨aB d v s1.tm,bG e s1.hp⟩ (λs' f=>Q .normal ⟨s'.tm,s'.hp,f⟩))):AWP P k n (.reg (os1++⟨d,.call g xs,none⟩::os2)) Q s:=by
 intro code hc c a w H;cases code<;>simp only[dv]at hc<;>try cases hc
 rename_i id ops' draw
 rcases cD hc with h'|⟨hd,h'⟩|⟨_,_,_,h'⟩
 ·cases h'
 ·subst hd;have h':os1++⟨d,.call g xs,none⟩::os2=ops'.toList.map (ee P n ops'):=AC.reg.inj h';obtain⟨h0,A,μ,hr⟩:=H;obtain⟨l1,l2,e1,rfl,e3⟩:=List.map_eq_append_iff.mp h'.symm;cases l2 with
  | nil=>cases e3
  | cons o l2 =>
   rw[aB']at e3;obtain⟨e4,rfl⟩:=List.cons.inj e3;refine wp_region_list ?_;rw[e1];refine iJ (c:=c) _ (o::l2) (λs1 f1 a1 w1 A1 μ1 hK hr1=>?_) l1 s.nx ⟨s.tm,s.hp⟩ a w A μ h hr;obtain⟨fid,caps,foot,Qv,k1,k2,k3⟩:=hK
   rcases ia P n ops' o with hb|⟨gd,hg,hd,hb⟩
   ·rw[hb]at e4;cases e4
   rw[hb]at e4;obtain⟨rfl,e5,rfl⟩:o.dst=d∧cOp P o.op o.type=.call g xs∧gd=none:=by
    have e6:=az.mk.inj e4;exact⟨e6.1,e6.2.1,e6.2.2⟩
   have hgd:o.guard=none:=by
    cases q:o.guard with
    | none=>rfl
    | some jw=>rw[q]at hg;obtain⟨j,wt⟩:=jw;simp only[eB]at hg;split at hg<;>cases hg
   unfold wpList;rw[F' (by simp[Region.wanted,hgd])];refine .inl (uU e5 hd k1 k2 hr1 (λj _=>by omega) λv e hq a' w' A' μ' hr'=>?_);exact mV (c:=c) _ (λs' f a w A μ hK hr=>⟨⟨s'.tm,s'.hp,f⟩,hK,h0,A,μ,hr⟩) l2 (f1+16) _ a' w' A' μ' (k3 v e hq) (hr'.free λb hb=>⟨by omega,λh=>by omega⟩)
 ·cases h'
abbrev Rws:=List (Int×List Int)
def kyL(L:Rws):List MK:=L.map λp=>MK.n p.1
structure Fam (hp:Hp) (nx bm:Nat) (ns:List Nat) (L:Rws):Prop where
  hm:hp bm=some (.map none (kyL L) (ns.map AV.vec))
  ln:ns.length=L.length
  nd:ns.Nodup
  kd:(aq L).Nodup
  lt:∀b∈ns,b<nx
  bl:bm<nx
  row:∀(i:Nat) b p,ns[i]?=some b→L[i]?=some p→hp b=some (.vec 1 (p.2.map AV.int))
theorem Fam.vec{hp:Hp}{nx bm:Nat}{ns:List Nat}{L:Rws}(h:Fam hp nx bm ns L){b:Nat}(hb:b∈ns):∃es,hp b=some (.vec 1 es):=by
 obtain⟨i,hi⟩:=Y'.mp hb;have hl:=ao hi;have hl':i<L.length:=by rw[←h.ln];exact hl
 exact⟨_,h.row i b _ hi (u' hl')⟩
theorem Fam.ne{hp:Hp}{nx bm:Nat}{ns:List Nat}{L:Rws}(h:Fam hp nx bm ns L){b:Nat}(hb:∀es,hp b≠some (.vec 1 es)):b ∉ ns:=λc=>by
 obtain⟨es,e⟩:=h.vec c;exact hb es e
theorem Fam.bm_no{hp:Hp}{nx bm:Nat}{ns:List Nat}{L:Rws}(h:Fam hp nx bm ns L):bm ∉ ns:=h.ne λes e=>by rw[h.hm]at e;cases e
theorem Fam.keep{hp hp':Hp}{nx nx' bm:Nat}{ns:List Nat}{L:Rws}(h:Fam hp nx bm ns L)(e:∀b,b<nx→(b=bm∨b∈ns)→hp' b=hp b)(hn:nx≤nx'):Fam hp' nx' bm ns L:=
 ⟨(e bm h.bl (.inl rfl)).trans h.hm,h.ln,h.nd,h.kd,λb hb=>aL' (h.lt b hb) hn,aL' h.bl hn,λi b p hi hp=>(e b (h.lt b (J' hi)) (.inr (J' hi))).trans (h.row i b p hi hp)⟩
theorem nQ{L:Rws}{k:Int}:MK.n k∈kyL L↔k∈aq L:=by
 unfold kyL aq
 constructor
 ·intro h;obtain⟨p,hp,e⟩:=T'.mp h;exact T'.mpr ⟨p,hp,MK.n.inj e⟩
 ·intro h;obtain⟨p,hp,rfl⟩:=T'.mp h;exact T'.mpr ⟨p,hp,rfl⟩
theorem Bu{L:Rws}(hn:(aq L).Nodup){k:Int}{i:Nat}{p:Int×List Int}(hp:L[i]?=some p)(e:p.1=k):(kyL L).idxOf (MK.n k)=i∧dH L k=i:=by
 have h1:(aq L)[i]?=some k:=by unfold aq;rw[G',hp,←e];rfl
 have h2:(kyL L)[i]?=some (MK.n k):=by unfold kyL;rw[G',hp,←e];rfl
 refine⟨lN ?_ h2,?_⟩
 ·have:kyL L=(aq L).map MK.n:=by unfold kyL aq;rw[aX'];rfl
  rw[this];exact List.Pairwise.map MK.n (λa b h e=>h (MK.n.inj e)) hn
 ·obtain⟨hl,rfl⟩:=L'.mp h1;exact hn.idxOf_getElem i hl
theorem Fam.no{hp:Hp}{nx bm:Nat}{ns:List Nat}{L:Rws}(h:Fam hp nx bm ns L){k:Int}(hk:aR L k=false)(z v:AV)(kk:Option Nat) :
  cB (kyL L) (ns.map AV.vec) (MK.n k) z false=z∧dr kk (kyL L) (ns.map AV.vec) (MK.n k) v=.map kk (kyL L++[MK.n k]) (ns.map AV.vec++[v]):=by
 have hn:MK.n k ∉ kyL L:=λc=>by rw[nQ]at c;unfold aR at hk;simp[c]at hk
 unfold cB dr;rw[E' hn,E' hn];exact⟨rfl,rfl⟩
theorem Fam.yes{hp:Hp}{nx bm:Nat}{ns:List Nat}{L:Rws}(h:Fam hp nx bm ns L){k:Int}(hk:aR L k=true):∃(i b:Nat),ns[i]?=some b∧L[i]?=some (k,av L k [])∧dH L k=i∧hp b=some (.vec 1 ((av L k []).map AV.int)) ∧
  (∀z,cB (kyL L) (ns.map AV.vec) (MK.n k) z false=.vec b)∧∀kk v,dr kk (kyL L) (ns.map AV.vec) (MK.n k) v=.map kk (kyL L) ((ns.map AV.vec).set i v):=by
 have hm:k∈aq L:=by unfold aR at hk;simpa using hk
 obtain⟨v,hv⟩:=jl hm;have hval:av L k []=v:=by unfold av;rw[hv]
 have hi:=ao hv;have hb:ns[dH L k]?=some (ns[dH L k]'(by rw[h.ln];exact hi)):=u' _;generalize ns[dH L k]'(by rw[h.ln];exact hi)=b at hb;obtain⟨e1,_⟩:=Bu h.kd hv rfl
 refine⟨dH L k,b,hb,by rw[hval];exact hv,rfl,by rw[hval];exact h.row _ b _ hb hv,λz=>?_,λkk v=>?_⟩
 ·unfold cB;rw[F' (nQ.mpr hm),e1,I',G',hb];rfl
 ·unfold dr;rw[F' (nQ.mpr hm),e1]
theorem nL{L:Rws}{k:Int}(hk:aR L k=false)(v:List Int):bg L k v=L++[(k,v)]:=by
 have hn:k ∉ aq L:=λc=>by unfold aR at hk;simp[c]at hk
 unfold bg;rw[E' hn]
theorem lB{L:Rws}{k:Int}(hk:aR L k=true)(v:List Int):bg L k v=L.set (dH L k) (k,v):=by
 have hm:k∈aq L:=by unfold aR at hk;simpa using hk
 unfold bg;rw[F' hm]
theorem Fam.put_no{hp hp':Hp}{nx nx' bm f:Nat}{ns:List Nat}{L:Rws}(h:Fam hp nx bm ns L){k y:Int}(hk:aR L k=false)(hf:nx≤f)(hf':f<nx')
  (e1:hp' bm=some (.map none (kyL L++[MK.n k]) (ns.map AV.vec++[.vec f]))) (e2:hp' f=some (.vec 1 [.int y])) (e3:∀b,b<nx→b≠bm→hp' b=hp b):Fam hp' nx' bm (ns++[f]) (bg L k (av L k []++[y])):=by
 have hv:av L k []=[]:=cA hk;rw[hv,nL hk]
 refine⟨by rw[e1];simp[kyL],by simp[h.ln],?_,?_,λb hb=>?_,by have:=h.bl;omega,λi b p hi hp=>?_⟩
 ·refine aT'.mpr ⟨h.nd,by simp,λa ha b hb=>?_⟩;rw[P'.mp hb];have:=h.lt a ha;omega
 ·rw[show aq (L++[(k,[]++[y])])=aq L++[k] by simp[aq]];refine aT'.mpr ⟨h.kd,by simp,λa ha b hb=>?_⟩;rw[P'.mp hb];rintro rfl;unfold aR at hk;simp[ha]at hk
 ·rcases ac'.mp hb with hb|hb
  ·have:=h.lt b hb;omega
  ·rw[P'.mp hb];exact hf'
 ·by_cases c:i<ns.length
  ·rw[bE' c]at hi;rw[bE' (by rw[←h.ln];exact c)]at hp;have hbm:=J' hi;rw[e3 b (h.lt b hbm) (λq=>h.bm_no (q ▸ hbm))];exact h.row i b p hi hp
  ·have hl:=ao hi;rw[List.length_append,List.length_singleton]at hl;obtain rfl:i=ns.length:=by omega
   rw[aN' (S' _),bq']at hi;rw[aN' (by rw[h.ln];exact S' _),h.ln,bq']at hp;cases hi;cases hp;exact e2
theorem Fam.put_yes{hp hp':Hp}{nx nx' bm f i b0:Nat}{ns:List Nat}{L:Rws}(h:Fam hp nx bm ns L){k y:Int}(hk:aR L k=true)(hi:ns[i]?=some b0)(hL:L[i]?=some (k,av L k []))(hx:dH L k=i)(hf:nx≤f)(hf':f<nx')
  (e1:hp' bm=some (.map none (kyL L) ((ns.map AV.vec).set i (.vec f)))) (e2:hp' f=some (.vec 1 ((av L k []).map AV.int++[.int y]))) (e3:∀b,b<nx→b≠bm→b≠b0→hp' b=hp b):Fam hp' nx' bm (ns.set i f) (bg L k (av L k []++[y])):=by
 rw[lB hk,hx];have hil:=ao hi;have hky:kyL (L.set i (k,av L k []++[y]))=kyL L:=by
  unfold kyL;rw[bp'];refine ax' λj=>?_;rw[ae']
  split
  ·rename_i e;subst e;rw[B',F' (ao hL),G',hL];rfl
  ·rfl
 have hmk:aq (L.set i (k,av L k []++[y]))=aq L:=by
  unfold aq;rw[bp'];refine ax' λj=>?_;rw[ae']
  split
  ·rename_i e;subst e;rw[B',F' (ao hL),G',hL];rfl
  ·rfl
 refine⟨by rw[e1,hky,bp'],by simp[h.ln],?_,by rw[hmk];exact h.kd,λb hb=>?_,by have:=h.bl;omega,λj b p hj hp=>?_⟩
 ·have hset:ns.set i f=ns.take i++f::ns.drop (i+1):=by rw[by',F' hil]
  rw[hset];have hnd:=h.nd;rw[←bm' i ns,bQ' hil]at hnd;obtain⟨q1,q2,q3⟩:=aT'.mp hnd
  refine aT'.mpr ⟨q1,bX'.mpr ⟨λc=>?_,(bX'.mp q2).2⟩,λa ha b hb=>?_⟩
  ·have:=h.lt f (ay' c);omega
  ·rcases aa'.mp hb with rfl|hb
   ·have:=h.lt a (Z' ha);omega
   ·exact q3 a ha b (bi' _ hb)
 ·rcases aj' hb with hb|rfl
  ·have:=h.lt b hb;omega
  ·exact hf'
 ·rw[ae']at hj hp
  by_cases c:i=j
  ·subst c;rw[F' rfl,F' hil]at hj;rw[F' rfl,F' (ao hL)]at hp;cases hj;cases hp;rw[e2];simp
  ·rw[E' c]at hj hp;have hbm:=J' hj;have hne:b≠b0:=λq=>by subst q;exact c ((bH' hil h.nd).mp (hi.trans hj.symm))
   rw[e3 b (h.lt b hbm) (λq=>h.bm_no (q ▸ hbm)) hne];exact h.row j b p hj hp
theorem Fam.give{k n:Nat}{tm:Nat→AV}{hp:Hp}{nx bm:Nat}{ns:List Nat}{L:Rws}(h:Fam hp nx bm ns L) :
  ∃hp',ap k n ⟨tm,hp,nx⟩ ⟨tm,hp',nx⟩∧hp' bm=some (.map none (kyL L) (L.map λp=>AV.sl 1 (p.2.map AV.int) false))∧∀b,b≠bm→b ∉ ns→hp' b=hp b:=by
 let f:Nat→Nat:=λi=>(ns[i]?).getD (nx+i)
 have hf1:∀i,i<ns.length→ns[i]?=some (f i):=λi hi=>by simp only[f];rw[u' hi];rfl
 have hf2:∀i,¬i<ns.length→f i=nx+i:=λi hi=>by simp only[f];rw[X' (by omega)];rfl
 obtain⟨hp',vs',w,a1,a2,a3,a4,a5⟩:=ap.giveRows (k:=k) (n:=n) (tm:=tm) (nx:=nx) (kk:=1) bm f (λi=>((L[i]?).elim [] (·.2)).map AV.int) (λi=>aw (am (λ_=>rfl) _)) (λi j e=>by
   by_cases ci:i<ns.length<;>by_cases cj:j<ns.length
   ·have h1:=hf1 i ci;have h2:=hf1 j cj
    rw[←e]at h2;exact(bH' ci h.nd).mp (h1.trans h2.symm)
   ·have h1:=h.lt _ (J' (hf1 i ci));have h2:=hf2 j cj;omega
   ·have h1:=h.lt _ (J' (hf1 j cj));have h2:=hf2 i ci;omega
   ·have h1:=hf2 i ci;have h2:=hf2 j cj;omega)
  (λi e=>by
   by_cases ci:i<ns.length
   ·exact h.bm_no (e ▸ J' (hf1 i ci))
   ·have h1:=hf2 i ci;have:=h.bl;omega) h.hm ns.length (λi hi=>⟨by rw[G',hf1 i hi];rfl,by
    have hl':i<L.length:=by rw[←h.ln];exact hi
    have hL:=u' hl';rw[h.row i _ _ (hf1 i hi) hL,hL];rfl⟩)
 refine⟨hp',w,?_,λb hb hn=>a5 b hb λi hi e=>hn (e ▸ J' (hf1 i hi))⟩;rw[a1]
 congr 2
 refine ax' λi=>?_
 by_cases hi:i<ns.length
 ·have hl':i<L.length:=by rw[←h.ln];exact hi
  have hL:=u' hl';rw[a3 i hi,G',hL];rfl
 ·rw[X' (by rw[a2];simpa using hi),X' (by rw[B',←h.ln];omega)]
def EU:AF:=
 ⟨32,1,[.tmp 2],
 .seq (.reg [⟨(some 2),.move (.c (.val (.map none))),none⟩])
 (.seq (.reg [⟨(some 8),.mkm none,none⟩,⟨(some 3),.move (.t 8),none⟩])
 (.seq (.seq (.reg [⟨(some 9),.move (.t 0),none⟩,⟨(some 10),.rng (.t 9),none⟩])
 (.block 0 (.loop (.seq (.reg [⟨(some 11),.nxt (.t 10),none⟩,⟨(some 12),.ext 0 (.t 11),none⟩])
 (.seq (.cond (.t 12) (.skip) (.exit 0))
 (.block 1 (.seq (.reg [⟨(some 13),.ent (.t 10),none⟩,⟨(some 14),.ext 0 (.t 13),none⟩,⟨(some 15),.ext 1 (.t 13),none⟩,⟨(some 4),.move (.t 14),none⟩,⟨(some 5),.move (.t 15),none⟩])
 (.seq (.reg [⟨(some 16),.move (.t 5),none⟩,⟨(some 17),.len (.t 16),none⟩,⟨(some 18),.move (.c (.val (.int .i64 0))),none⟩])
 (.block 2 (.loop (.seq (.reg [⟨(some 19),.bin .lss (.t 18) (.t 17),none⟩])
 (.seq (.cond (.t 19) (.skip) (.exit 2))
 (.seq (.block 3 (.seq (.reg [⟨(some 20),.iaddr 1 (.t 16) (.t 18),none⟩,⟨(some 21),.load false 1 (.t 20),none⟩,⟨(some 7),.move (.t 21),none⟩])
 (.reg [⟨(some 22),.move (.t 3),none⟩,⟨(some 23),.move (.t 7),none⟩,⟨(some 24),.move (.t 3),none⟩,⟨(some 25),.move (.t 7),none⟩,⟨(some 26),.mget none ((.sl 0 [] true)) false (.t 24) (.t 25),none⟩,⟨(some 27),.move (.t 4),none⟩,⟨(some 28),.lit 1 1 (.val (.int .i64 0)) [(0,(.t 27))],none⟩,⟨(some 29),.append 1 8 (.t 26) (.t 28),none⟩,⟨none,.mset none (.t 22) (.t 23) (.t 29),none⟩])))
 (.reg [⟨(some 30),.bin .add (.t 18) (.c (.val (.int .i64 1))),none⟩,⟨(some 18),.move (.t 30),none⟩]))))))))))))))
 (.seq (.reg [⟨(some 31),.move (.t 3),none⟩,⟨(some 2),.move (.t 31),none⟩])
 (.ret))))⟩
theorem Cb:dL Try.prog Try.f20=some EU:=by kernel_rfl
def pu(M:Rws)(k y:Int):Rws:=bg M k (av M k []++[y])
def ix(x:Int)(M:Rws)(l:List Int):Rws:=l.foldl (λM y=>pu M y x) M
def fv(L:Rws)(is:List Nat):Rws:=is.foldl (λM i=>ix (L.getD i (0,[])).1 M (L.getD i (0,[])).2) []
def gB(L:Rws):Blk:=.map none (kyL L) (L.map λp=>AV.sl 1 (p.2.map AV.int) false)
theorem dt(L:Rws):aH (L.map λp=>AV.sl 1 (p.2.map AV.int) false):=aw (am (λp=>by show AV.pureB (AV.sl 1 (p.2.map AV.int) false)=true;rw[AV.pureB];first|done|exact am (λ_=>rfl) _) _)
structure qp (L:Rws):Prop where
  len:L.length≤100
  ky:∀p∈L,Am.inK .i64 p.1
  row:∀p∈L,p.2.length≤100
  el:∀p∈L,∀y∈p.2,Am.inK .i64 y
theorem nxF{b nx:Nat}(h:b<nx):(∀k,(b=nx+k)=False)∧(∀k,(nx+k=b)=False)∧(b=nx)=False∧(nx=b)=False:=
 ⟨λk=>by simp;omega,λk=>by simp;omega,by simp;omega,by simp;omega⟩
theorem rb{M:Rws}{m:Nat}(h:∀p∈M,p.2.length≤m)(k y:Int):∀p∈pu M k y,p.2.length≤m+1:=λp hp=>by
 unfold pu at hp;have hv:(av M k []).length≤m:=by
  cases e:aR M k with
  | false=>rw[cA e];simp
  | true=>exact h _ (bD e)
 cases e:aR M k with
 | false =>
  rw[nL e]at hp
  rcases ac'.mp hp with hp|hp
  ·have:=h p hp;omega
  ·rw[P'.mp hp];simp;omega
 | true =>
  rw[lB e]at hp
  rcases aj' hp with hp|rfl
  ·have:=h p hp;omega
  ·simp;omega
theorem oi{kk:Option Nat}{f:Nat}{ρ:AO→AV}{hp:Hp}:evA (.mkm kk) f ρ hp={ c:=True,v:=.mref f,ad:=some (f,.map kk [] []) }:=rfl
structure TuI (L:Rws) (st:List Nat) (ck:Nat) (s:S3) (M:Rws) (is:List Nat):Prop where
  nx:81≤s.nx
  t3:s.tm 3=.mref 17
  t10:s.tm 10=.ref 65 0
  h0:s.hp 0=some (.mst none (kyL L) (L.map λp=>AV.sl 1 (p.2.map AV.int) false) st ck)
  hi:s.hp 65=some (.itr 0 st ck (is.map λi=>st.getD i 0))
  fam:∃ns,Fam s.hp s.nx 17 ns M
theorem w6(L:Rws)(hL:qp L):dR Try.prog 20 [.mref 0] [gB L] (λr h'=>∃is:List Nat,is.Nodup∧(∀i∈is,i<L.length)∧(∀i,i<L.length→i∈is)∧r=.mref 1∧h'=[none,some (gB (fv L is))]):=by
 refine dR.walk Try.func20 Cb (by simp[EU]) ?_;unfold EU;simp only[dI,ec,ab',ak'];refine AWP.open 0 (ah _ _ _) λst ck hs1 hs2 hn hv=>?_;have hs2:st.length=L.length:=by rw[hs2];simp[kyL]
 have hkO:∀q∈kyL L,kOk q:=λq hq=>by
  obtain⟨p,hp,rfl⟩:=T'.mp hq;exact hL.ky p hp
 refine AWP.seq' ?_;refine AWP.reg' λK hK=>?_
 try simp only[aj,seval]
 refine hK _ _ _ ?_;clear hK K;refine AWP.seq' ?_;refine AWP.reg' λK hK=>?_
 try simp only[aj,seval,oi]
 refine hK _ _ _ ?_;clear hK K;refine AWP.seq' (AWP.seq' ?_);refine AWP.reg' λK hK=>?_
 try simp only[aj,seval]
 refine oa rfl (by simp only[ae];rfl) ?_
 try simp only[aj,seval]
 refine hK _ _ _ ?_;clear hK K;refine AWP.block ?_
 refine AWP.loopS (λt:S3×List Nat=>t.1) (λt=>(t.2.Nodup∧(∀i∈t.2,i<L.length)∧∀p∈fv L t.2,p.2.length≤100 * t.2.length)∧TuI L st ck t.1 (fv L t.2) t.2) (λt=>L.length-t.2.length) (i0:=(_,[])) ?_ ap.refl ?_
 ·refine⟨⟨bc',λi hi=>by simp at hi,λp hp=>by simp[fv]at hp⟩,?_⟩;exact⟨S' _,rfl,rfl,rfl,rfl,[],⟨rfl,rfl,bc',bc',by simp,by show 17<81;omega,by simp⟩⟩
 ·rintro⟨⟨tm,hp,nx⟩,is⟩ ⟨⟨i1,i2,i3⟩,hI⟩;obtain⟨n1,g3,g10,g0,gi,ns,hF⟩:=hI;simp only at n1 g3 g10 g0 gi hF i1 i2 i3 ⊢;refine AWP.seq' ?_;refine AWP.reg' λK hK=>?_
  try simp only[aj,seval]
  refine ob g10 gi g0 hkO (λhs=>?_) (λi q v s0 e1 e2 e3 e4=>?_)
  ·try simp only[aj,seval]
   refine hK _ _ _ ?_;clear hK K;refine AWP.seq' (AWP.cond (b:=false) rfl (λh=>by cases h) (λ_=>AWP.exit ?_));refine(show AWP _ _ _ _ _ _ from ?_);refine AWP.seq' ?_;refine AWP.reg' λK hK=>?_
   try simp only[aj,seval,g3]
   refine hK _ _ _ ?_;clear hK K;refine(show AWP _ _ _ _ _ _ from ?_);obtain⟨hp',w,h1,h2⟩:=(hF.keep (nx':=nx+16+16+16+16) (λ_ _ _=>rfl) (by omega)).give (k:=1) (n:=32) (tm:=upd (upd (upd (upd tm 11 (AV.tup [AV.bool false])) 12 (AV.bool false)) 31 (AV.mref 17)) 2 (AV.mref 17))
   refine AWP.ret ⟨_,_,⟨is,i1,i2,λi hi=>?_,rfl,rfl⟩,fK w (fg [0,17] [(2,.mref 1)] rfl rfl ?_ ?_ rfl (by decide) ?_ (by simp))⟩
   ·have hi':i<st.length:=by omega
    have h3:=hs _ (J' (u' hi'));obtain⟨j,hj,e⟩:=T'.mp h3;have hj':j<st.length:=by have:=i2 j hj;omega
    rw[I',u' hj']at e;have e':st[j]?=st[i]?:=by rw[u' hj',u' hi'];exact congrArg some e
    rw[←(bH' hj' hs1).mp e'];exact hj
   ·simp only[P',forall_eq];exact⟨rfl,show(1:Nat)<2 by omega⟩
   ·refine⟨⟨?_,?_⟩,trivial⟩
    ·show hp' 17=_;rw[h1,gB,Blk.ren,aK _ (dt _)]
    ·exact aG (dt _)
   ·intro b hb
    match b,hb with
    | 0,_=>rfl
  ·have hil:i<L.length:=by have:=ao e3;omega
   have hp':L[i]?=some L[i]:=u' hil;generalize L[i]=p at hp';obtain⟨x,l⟩:=p;have e1':(kyL L)[i]?=some (MK.n x):=by rw[kyL,G',hp'];rfl
   have e2':(L.map λp=>AV.sl 1 (p.2.map AV.int) false)[i]?=some (.sl 1 (l.map AV.int) false):=by rw[G',hp'];rfl
   rw[e1']at e1;cases e1;rw[e2']at e2;cases e2;have hpm:=J' hp';have hll:=hL.row _ hpm;have hxk:=hL.ky _ hpm;have hel:=hL.el _ hpm;simp only at hll hxk hel;have hml:=aT
   try simp only[aj,seval]
   refine hK _ _ _ ?_;clear hK K;refine AWP.seq' (AWP.cond (b:=true) rfl (λ_=>?_) (λh=>by cases h));refine AWP.skip ?_;refine AWP.block (AWP.seq' ?_);refine AWP.reg' λK hK=>?_
   try simp only[aj,seval]
   refine od (m:=0) g10 (ah _ _ _) ((ai _ _ (by decide)).trans ((ai _ _ (by decide)).trans g0)) e3 e1' e2' hxk ?_
   try simp only[aj,seval,kAV]
   refine hK _ _ _ ?_;clear hK K;refine AWP.seq' ?_;refine AWP.reg' λK hK=>?_
   try simp only[aj,seval,B']
   repeat (refine f' (by omega) ?_)
   refine hK _ _ _ ?_;clear hK K;refine AWP.block ?_;have hst:st.getD i 0=s0:=by rw[I',e3];rfl
   have hni:i ∉ is:=λc=>e4 (T'.mpr ⟨i,c,hst⟩);have hF1:∀b,b<nx→(b=17∨b∈ns)→b≠65:=λb _ hb e=>by
    subst e
    rcases hb with h|h
    ·omega
    ·obtain⟨es,q⟩:=hF.vec h;rw[gi]at q;cases q
   refine AWP.loopS (λt:S3×Nat=>t.1) (λt=>(t.2≤l.length∧∀p∈ix x (fv L is) (l.take t.2),p.2.length≤100 * is.length+t.2)∧TuI L st ck t.1 (ix x (fv L is) (l.take t.2)) (is++[i]) ∧
    t.1.tm 4=.int x∧t.1.tm 16=.sl 1 (l.map AV.int) false∧t.1.tm 17=.int l.length∧t.1.tm 18=.int (t.2:Nat)) (λt=>l.length-t.2) (i0:=(_,0)) ?_ ap.refl ?_
   ·refine⟨⟨aq' _,λp hp=>i3 p hp⟩,⟨by dsimp only;omega,?_,?_,?_,?_,ns,hF.keep (λb hb hn=>?_) (by dsimp only;omega)⟩,rfl,rfl,rfl,rfl⟩
    ·simp only[ae];exact g3
    ·simp only[ae];exact g10
    ·simp only[ae];exact g0
    ·simp only[ae,aQ',aB',bT',hst];rfl
    ·have:=hF1 b hb hn;simp only[ae,E' this]
   ·rintro⟨⟨tm1,hp1,nx1⟩,j⟩ ⟨⟨j1,j2⟩,⟨n1',g3',g10',g0',gi',ns',hF'⟩,t4,t16,t17,t18⟩;simp only at n1' g3' g10' g0' gi' hF' t4 t16 t17 t18 j1 j2 ⊢;refine AWP.seq' ?_;refine AWP.reg' λK hK=>?_
    try simp only[aj,seval,t17,t18]
    refine hK _ _ _ ?_;clear hK K;refine AWP.seq' ?_
    refine AWP.cond (b:=decide ((j:Int)<(l.length:Int))) rfl (λh=>?_) (λh=>?_)
    ·have h:j<l.length:=by have:=H' h;omega
     refine AWP.skip ?_;refine AWP.seq' (AWP.block (AWP.seq' ?_));have hy:l[j]?=some l[j]:=u' h;generalize l[j]=y at hy;have hge:(l.map AV.int).getD j .unk=.int y:=by rw[I',G',hy];rfl
     refine AWP.reg' λK hK=>?_
     try simp only[aj,seval,t16,t18,hge,Int.toNat_natCast,B']
     refine⟨⟨by omega,by omega⟩,?_⟩;refine hK _ _ _ ?_;clear hK K;refine(show AWP _ _ _ _ _ _ from ?_);obtain⟨f17a,f17b,f17c,f17d⟩:=nxF (show 17<nx1 by omega);generalize hM:ix x (fv L is) (l.take j)=M at hF' j2;have hM1:ix x (fv L is) (l.take (j+1))=pu M y x:=by rw[bp hy,←hM];unfold ix;rw[bt'];rfl
     have hw:IntKind.i64.wrap ((j:Int)+1)=((j+1:Nat):Int):=fa (by omega) (by omega);obtain⟨f0,_⟩:=nxF (show 0<nx1 by omega);obtain⟨f65,_⟩:=nxF (show 65<nx1 by omega);have h0':∀k,(0=nx1+k)=False:=f0;have h65':∀k,(65=nx1+k)=False:=f65;have f17d':∀k,(nx1+k=17)=False:=f17b;cases e:aR M y with
     | false =>
      have q1:=λz v kk=>(hF'.no e z v kk).1;have q2:=λz v kk=>(hF'.no e z v kk).2;refine AWP.reg' λK hK=>?_
      try simp only[aj,seval,g3',t4,hF'.hm,bf,b7,dg,AV.key,MK.fits,q1 _ .unk none,and_self,true_and]
      refine oc ?_
      try simp only[aj,seval,g3',t4,hF'.hm,bf,b7,dg,AV.key,MK.fits,and_self,true_and,aV,dy,f17a,f17b,f17c,f17d,ao']
      refine⟨by decide,?_⟩;refine hK _ _ _ ?_;clear hK K;refine(show AWP _ _ _ _ _ _ from ?_);refine AWP.reg' λK hK=>?_
      try simp only[aj,seval,t18,hw]
      refine hK _ _ _ ?_;clear hK K
      refine⟨(_,j+1),⟨⟨by dsimp only;omega,?_⟩,⟨by dsimp only;omega,?_,?_,?_,?_,ns'++[nx1+176],?_⟩,?_,?_,?_,rfl⟩,by dsimp only;omega,ap.refl⟩
      ·rw[hM1];exact λp hp=>by have:=rb j2 y x p hp;dsimp only;omega
      ·simp only[ae];exact g3'
      ·simp only[ae];exact g10'
      ·simp only[ae,h0'];exact g0'
      ·simp only[ae,h65'];exact gi'
      ·rw[hM1];exact hF'.put_no e (f:=nx1+176) (by omega) (by dsimp only;omega) (by simp only[ae,↓reduceIte];exact congrArg some (q2 (.sl 0 [] true) _ none)) (by simp only[ae,f17d',↓reduceIte]) (λb hb hne=>by simp only[ae,E' hne];rw[E' (by omega)])
      ·simp only[ae];exact t4
      ·simp only[ae];exact t16
      ·simp only[ae];exact t17
     | true =>
      obtain⟨i0,b0,y1,y2,y3,y4,y5,y6⟩:=hF'.yes e;have hb0:=hF'.lt b0 (J' y1);obtain⟨b0a,b0b,_,_⟩:=nxF hb0;have hb17:(17=b0)=False:=by simp;rintro rfl;exact hF'.bm_no (J' y1)
      have hb0':(0=b0)=False:=by simp;rintro rfl;rw[g0']at y4;cases y4
      have hb65:(65=b0)=False:=by simp;rintro rfl;rw[gi']at y4;cases y4
      have hrl:=j2 _ (J' y2);simp only at hrl;have hisl:is.length≤100:=by
       have:=List.Nodup.length_le_of_subset i1 (show is ⊆ List.range L.length from λa ha=>an'.mpr (i2 a ha));rw[aU']at this;have:=hL.len;omega
      refine AWP.reg' λK hK=>?_
      try simp only[aj,seval,g3',t4,hF'.hm,bf,b7,dg,AV.key,MK.fits,y5,and_self,true_and]
      refine oc ?_
      try simp only[aj,seval,g3',t4,hF'.hm,bf,b7,dg,AV.key,MK.fits,and_self,true_and,aV,dy,y4,f17a,f17b,f17c,f17d,hb17,ao',B']
      refine⟨⟨by omega,by omega⟩,?_⟩;refine hK _ _ _ ?_;clear hK K;refine(show AWP _ _ _ _ _ _ from ?_);refine AWP.reg' λK hK=>?_
      try simp only[aj,seval,t18,hw]
      refine hK _ _ _ ?_;clear hK K
      refine⟨(_,j+1),⟨⟨by dsimp only;omega,?_⟩,⟨by dsimp only;omega,?_,?_,?_,?_,ns'.set i0 (nx1+176),?_⟩,?_,?_,?_,rfl⟩,by dsimp only;omega,ap.refl⟩
      ·rw[hM1];exact λp hp=>by have:=rb j2 y x p hp;dsimp only;omega
      ·simp only[ae];exact g3'
      ·simp only[ae];exact g10'
      ·simp only[ae,h0',hb0'];exact g0'
      ·simp only[ae,h65',hb65];exact gi'
      ·rw[hM1];exact hF'.put_yes e y1 y2 y3 (f:=nx1+176) (by omega) (by dsimp only;omega) (by simp only[ae,↓reduceIte];exact congrArg some (y6 none _)) (by simp only[ae,f17d',↓reduceIte]) (λb hb hne hnb=>by simp only[ae,E' hne,E' hnb];rw[E' (by omega)])
      ·simp only[ae];exact t4
      ·simp only[ae];exact t16
      ·simp only[ae];exact t17
    ·have h:j=l.length:=by have:=ag' h;omega
     refine AWP.exit ?_;refine(show ∃jj:S3×List Nat,_ from ?_);have hT:fv L (is++[i])=ix x (fv L is) (l.take j):=by
      rw[ah' (by omega)];unfold fv;rw[bt',ba',List.foldl_nil,I',hp'];rfl
     have hN:(is++[i]).Nodup:=aT'.mpr ⟨i1,by simp,λa ha b hb=>by rw[P'.mp hb];rintro rfl;exact hni ha⟩;have hS:∀a∈is++[i],a<L.length:=λa ha=>by
      rcases ac'.mp ha with ha|ha
      ·exact i2 a ha
      ·rw[P'.mp ha];exact hil
     have hLn:=List.Nodup.length_le_of_subset hN (show is++[i] ⊆ List.range L.length from λa ha=>an'.mpr (hS a ha));rw[aU',List.length_append,List.length_singleton]at hLn
     refine⟨(_,is++[i]),⟨⟨hN,hS,?_⟩,⟨?_,?_,?_,?_,?_,ns',?_⟩⟩,?_,ap.refl⟩
     ·dsimp only;rw[hT,List.length_append,List.length_singleton];exact λp hp=>by have:=j2 p hp;omega
     ·dsimp only;omega
     ·simp only[ae];exact g3'
     ·simp only[ae];exact g10'
     ·exact g0'
     ·exact gi'
     ·dsimp only;rw[hT];exact hF'.keep (λ_ _ _=>rfl) (by omega)
     ·dsimp only;rw[List.length_append,List.length_singleton];omega
def Df:AC:=.reg [⟨(some 72),.faddr 0 (.t 16),none⟩,⟨(some 73),.load false 1 (.t 72),none⟩,⟨(some 74),.faddr 0 (.t 8),none⟩,⟨(some 75),.load false 1 (.t 74),none⟩,⟨(some 76),.bin .neq (.t 73) (.t 75),none⟩,⟨(some 77),.move (.t 76),none⟩,⟨(some 78),.move (.t 6),(some (77,true))⟩,⟨(some 79),.faddr 0 (.t 16),(some (77,true))⟩,⟨(some 80),.load false 1 (.t 79),(some (77,true))⟩,⟨(some 81),.faddr 0 (.t 12),(some (77,true))⟩,⟨(some 82),.load false 1 (.t 81),(some (77,true))⟩,⟨(some 83),.faddr 0 (.t 16),(some (77,true))⟩,⟨(some 84),.load false 1 (.t 83),(some (77,true))⟩,⟨(some 85),.faddr 1 (.t 16),(some (77,true))⟩,⟨(some 86),.load false 1 (.t 85),(some (77,true))⟩,⟨(some 87),.build [(.val (.int .i64 0)),(.val (.int .i64 0))] [(0,1,(.t 84)),(1,1,(.t 86))],(some (77,true))⟩,⟨(some 88),.faddr 2 (.t 16),(some (77,true))⟩,⟨(some 89),.load false 1 (.t 88),(some (77,true))⟩,⟨(some 90),.call (.c (.func 31 [])) [(.t 78),(.t 80),(.t 82),(.t 87),(.t 89)],(some (77,true))⟩,⟨(some 91),.pick (.t 77) (.t 90) (.c (.val (.bool false))),none⟩,⟨(some 17),.move (.t 91),none⟩]
def zF:AC:=.reg [⟨(some 92),.move (.t 17),none⟩,⟨(some 93),.move (.t 92),none⟩,⟨(some 94),.move (.t 6),(some (93,true))⟩,⟨(some 95),.faddr 0 (.t 16),(some (93,true))⟩,⟨(some 96),.load false 1 (.t 95),(some (93,true))⟩,⟨(some 97),.faddr 0 (.t 12),(some (93,true))⟩,⟨(some 98),.load false 1 (.t 97),(some (93,true))⟩,⟨(some 99),.load true 2 (.t 8),(some (93,true))⟩,⟨(some 100),.move (.t 9),(some (93,true))⟩,⟨(some 101),.call (.c (.func 31 [])) [(.t 94),(.t 96),(.t 98),(.t 99),(.t 100)],(some (93,true))⟩,⟨(some 102),.pick (.t 93) (.t 101) (.c (.val (.bool false))),none⟩,⟨(some 103),.move (.t 102),none⟩,⟨(some 104),.move (.t 6),(some (103,true))⟩,⟨(some 105),.faddr 1 (.t 16),(some (103,true))⟩,⟨(some 106),.load false 1 (.t 105),(some (103,true))⟩,⟨(some 107),.faddr 0 (.t 12),(some (103,true))⟩,⟨(some 108),.load false 1 (.t 107),(some (103,true))⟩,⟨(some 109),.load true 2 (.t 8),(some (103,true))⟩,⟨(some 110),.move (.t 9),(some (103,true))⟩,⟨(some 111),.call (.c (.func 31 [])) [(.t 104),(.t 106),(.t 108),(.t 109),(.t 110)],(some (103,true))⟩,⟨(some 112),.pick (.t 103) (.t 111) (.c (.val (.bool false))),none⟩,⟨(some 113),.move (.t 112),none⟩,⟨(some 114),.move (.t 5),(some (113,true))⟩,⟨(some 115),.faddr 0 (.t 16),(some (113,true))⟩,⟨(some 116),.load false 1 (.t 115),(some (113,true))⟩,⟨(some 117),.mget none ((.sl 0 [] true)) false (.t 114) (.t 116),(some (113,true))⟩,⟨(some 118),.faddr 1 (.t 16),(some (113,true))⟩,⟨(some 119),.load false 1 (.t 118),(some (113,true))⟩,⟨(some 120),.call (.c (.func 25 [])) [(.t 117),(.t 119)],(some (113,true))⟩,⟨(some 121),.un .not (.t 120),(some (113,true))⟩,⟨(some 122),.pick (.t 113) (.t 121) (.c (.val (.bool false))),none⟩]
def uH:AC:=.dreg [⟨(some 123),.move (.t 5),none⟩,⟨(some 124),.faddr 0 (.t 16),none⟩,⟨(some 125),.load false 1 (.t 124),none⟩,⟨(some 126),.move (.t 5),none⟩,⟨(some 127),.faddr 0 (.t 16),none⟩,⟨(some 128),.load false 1 (.t 127),none⟩,⟨(some 129),.mget none ((.sl 0 [] true)) false (.t 126) (.t 128),none⟩,⟨(some 130),.faddr 1 (.t 16),none⟩,⟨(some 131),.load false 1 (.t 130),none⟩,⟨(some 132),.lit 1 1 (.val (.int .i64 0)) [(0,(.t 131))],none⟩,⟨(some 133),.append 1 8 (.t 129) (.t 132),none⟩,⟨none,.mset none (.t 123) (.t 125) (.t 133),none⟩] [(2,5),(2,6),(2,8),(5,8),(6,8),(2,9),(5,9),(6,9),(2,10)]
def zD:AC:=.seq Df (.seq zF (.cond (.t 122) uH .skip))
abbrev E4(t:Tpl):AV:=.mp (some 2) ((cz t).map λp=>m6 p.1) ((cz t).map λp=>AV.int p.2)
structure BeB (t:Tpl) (ds:List Hop) (s:S3) (M:Rws):Prop where
  nx:112≤s.nx
  t1:s.tm 1=.sl 2 (ds.map Hop.v) false
  t2:s.tm 2=.ref 0 0
  h0:s.hp 0=some (.box (Tpl.v t))
  t5:s.tm 5=.mref 32
  t6:s.tm 6=E4 t
  fam:∃ns,Fam s.hp s.nx 32 ns M
structure Kp (R:Nat→Prop) (s s':S3):Prop where
  nx:s.nx≤s'.nx
  tm:∀r,R r→s'.tm r=s.tm r
  hp:∀b x,b<s.nx→s.hp b=some (.box x)→s'.hp b=some (.box x)
def beQ(t:Tpl)(h:Hop)(c d x y w:Int)(M:Rws):Bool:=(x != h.a) && (iy (cz t) x d ⟨x,y⟩ w && (iy (cz t) x d h c && (iy (cz t) y d h c && !(decide (y∈av M x [])))))
def beI(t:Tpl)(h:Hop)(c d:Int)(M:Rws)(s:Int×Int×Int):Rws:=if beQ t h c d s.1 s.2.1 s.2.2 M=true then pu M s.1 s.2.1 else M
def beR(r:Nat):Prop:=r<17∨17<r∧r<72
theorem zC(t:Tpl)(ds:List Hop)(h:Hop)(c d x y w:Int)(fl:AV)(s:S3)(M:Rws)(bh bd bs:Nat)(hB:BeB t ds s M)(g8:s.tm 8=.ref bh 0)(g9:s.tm 9=.int c)(g12:s.tm 12=.ref bd 0)(g16:s.tm 16=.ref bs 0)
  (hh:s.hp bh=some (.box (.agg [.int h.a,.int h.b]))) (hd:s.hp bd=some (.box (.agg [.int d,fl]))) (hs:s.hp bs=some (.box (.agg [.int x,.int y,.int w]))) (hbs:bs<s.nx) (hl:(av M x []).length≤1000000) (k:Nat) (Q:X→S3→Prop)
  (hQ:∀s',Kp beR s s'→BeB t ds s' (beI t h c d M (x,y,w))→Q .normal s'):AWP Try.prog 0 k zD Q s:=by
 obtain⟨tm,hp,nx⟩:=s;obtain⟨n1,t1,t2,h0,t5,t6,ns,hF⟩:=hB;simp only at n1 t1 t2 h0 t5 t6 hF g8 g9 g12 g16 hh hd hs hbs;unfold zD Df zF uH;have hR:∀{r:Nat} {tm':Nat→AV},(∀r,beR r→tm' r=tm r)→beR r→tm' r=tm r:=λh1 h2=>h1 _ h2;refine AWP.seq' ?_
 suffices HB:∀tm' nx',nx≤nx'→(∀r,beR r→tm' r=tm r)→tm' 17=.bool ((x != h.a) && iy (cz t) x d ⟨x,y⟩ w)→AWP Try.prog 0 k (.seq zF (.cond (.t 122) uH .skip)) Q ⟨tm',hp,nx'⟩ by
  cases e1:(x != h.a)with
  | false =>
   rw[e1]at HB;refine AWP.reg' λK hK=>?_
   try simp only[aj,seval,g16,g8,hs,hh,e1]
   refine hK _ _ _ ?_;clear hK K;exact HB _ _ (by omega) (λr hr=>by unfold beR at hr;simp only[ae];repeat rw[E' (by omega)]) rfl
  | true =>
   rw[e1]at HB;refine AWP.reg' λK hK=>?_
   try simp only[aj,seval,g16,g8,hs,hh,e1,g12,hd,t6]
   refine cC ((cf (cz t) x d ⟨x,y⟩ w).ok) (cf (cz t) x d ⟨x,y⟩ w).fn rfl (by rfl) (by repeat' (first|exact trivial|assumption|refine f' ?_ ?_)) ?_
   try simp only[aj,seval]
   refine hK _ _ _ ?_;clear hK K;exact HB _ _ (by omega) (λr hr=>by unfold beR at hr;simp only[ae];repeat rw[E' (by omega)]) rfl
 clear hR;intro tm1 nx1 hnx1 hR1 h17;have g6':tm1 6=E4 t:=(hR1 6 (.inl (by omega))).trans t6;have g8':tm1 8=.ref bh 0:=(hR1 8 (.inl (by omega))).trans g8;have g9':tm1 9=.int c:=(hR1 9 (.inl (by omega))).trans g9;have g12':tm1 12=.ref bd 0:=(hR1 12 (.inl (by omega))).trans g12;have g16':tm1 16=.ref bs 0:=(hR1 16 (.inl (by omega))).trans g16;have g5':tm1 5=.mref 32:=(hR1 5 (.inl (by omega))).trans t5;refine AWP.seq' ?_
 suffices HC:∀tm' nx',nx≤nx'→(∀r,beR r→tm' r=tm r)→tm' 122=.bool (beQ t h c d x y w M)→AWP Try.prog 0 k (.cond (.t 122) uH .skip) Q ⟨tm',hp,nx'⟩ by
  have fin:∀{tm':Nat→AV},(∀r,beR r→tm' r=tm1 r)→∀r,beR r→tm' r=tm r:=λh r hr=>(h r hr).trans (hR1 r hr);unfold beQ at HC;cases e1:((x != h.a) && iy (cz t) x d ⟨x,y⟩ w)with
  | false =>
   rw[e1]at h17;rw[←Bool.and_assoc,e1,Bool.false_and]at HC;refine AWP.reg' λK hK=>?_
   try simp only[aj,seval,h17]
   refine hK _ _ _ ?_;clear hK K;exact HC _ _ (by omega) (fin λr hr=>by unfold beR at hr;simp only[ae];repeat rw[E' (by omega)]) rfl
  | true =>
   rw[e1]at h17;rw[←Bool.and_assoc,e1,Bool.true_and]at HC;cases e2:iy (cz t) x d h c with
   | false =>
    have p2:bv Try.prog (cf (cz t) x d h c).f (cf (cz t) x d h c).args (.bool false):=by rw[←e2];exact(cf (cz t) x d h c).ok
    rw[e2,Bool.false_and]at HC;refine AWP.reg' λK hK=>?_
    try simp only[aj,seval,h17,g6',g16',hs,g12',hd,g8',hh,g9']
    refine cC (p2) (cf (cz t) x d h c).fn rfl (by rfl) (by repeat' (first|exact trivial|assumption|refine f' ?_ ?_)) ?_
    try simp only[aj,seval]
    refine hK _ _ _ ?_;clear hK K;exact HC _ _ (by omega) (fin λr hr=>by unfold beR at hr;simp only[ae];repeat rw[E' (by omega)]) rfl
   | true =>
    have p2:bv Try.prog (cf (cz t) x d h c).f (cf (cz t) x d h c).args (.bool true):=by rw[←e2];exact(cf (cz t) x d h c).ok
    rw[e2,Bool.true_and]at HC;cases e3:iy (cz t) y d h c with
    | false =>
     have p3:bv Try.prog (cf (cz t) y d h c).f (cf (cz t) y d h c).args (.bool false):=by rw[←e3];exact(cf (cz t) y d h c).ok
     rw[e3,Bool.false_and]at HC;refine AWP.reg' λK hK=>?_
     try simp only[aj,seval,h17,g6',g16',hs,g12',hd,g8',hh,g9']
     refine cC (p2) (cf (cz t) x d h c).fn rfl (by rfl) (by repeat' (first|exact trivial|assumption|refine f' ?_ ?_)) ?_
     try simp only[aj,seval,g6',g16',hs,g12',hd,g8',hh,g9']
     refine cC (p3) (cf (cz t) y d h c).fn rfl (by rfl) (by repeat' (first|exact trivial|assumption|refine f' ?_ ?_)) ?_
     try simp only[aj,seval]
     refine hK _ _ _ ?_;clear hK K;exact HC _ _ (by omega) (fin λr hr=>by unfold beR at hr;simp only[ae];repeat rw[E' (by omega)]) rfl
    | true =>
     have p3:bv Try.prog (cf (cz t) y d h c).f (cf (cz t) y d h c).args (.bool true):=by rw[←e3];exact(cf (cz t) y d h c).ok
     rw[e3,Bool.true_and]at HC;cases e4:aR M x with
     | false =>
      have q1:=λz v kk=>(hF.no e4 z v kk).1;rw[cA e4]at HC;refine AWP.reg' λK hK=>?_
      try simp only[aj,seval,h17,g6',g16',hs,g12',hd,g8',hh,g9']
      refine cC (p2) (cf (cz t) x d h c).fn rfl (by rfl) (by repeat' (first|exact trivial|assumption|refine f' ?_ ?_)) ?_
      try simp only[aj,seval,g6',g16',hs,g12',hd,g8',hh,g9']
      refine cC (p3) (cf (cz t) y d h c).fn rfl (by rfl) (by repeat' (first|exact trivial|assumption|refine f' ?_ ?_)) ?_
      try simp only[aj,seval,g5',g16',hs,hF.hm,bf,dg,AV.key,MK.fits,q1 _ .unk none,and_self,true_and]
      have p4:bv Try.prog (fj [] y).f [.sl 0 [] true,.int y] (.bool false):=bv.sub (show bv _ _ [.sl 1 [] false,.int y] (.bool false)from(fj [] y).ok) ⟨Sub.nil,Sub.refl,trivial⟩ Sub.refl;refine cC (p4) (fj [] y).fn rfl (by rfl) (by repeat' (first|exact trivial|assumption|refine f' ?_ ?_)) ?_
      try simp only[aj,seval]
      refine hK _ _ _ ?_;clear hK K;exact HC _ _ (by omega) (fin λr hr=>by unfold beR at hr;simp only[ae];repeat rw[E' (by omega)]) rfl
     | true =>
      obtain⟨i0,b0,y1,y2,y3,y4,y5,y6⟩:=hF.yes e4;refine AWP.reg' λK hK=>?_
      try simp only[aj,seval,h17,g6',g16',hs,g12',hd,g8',hh,g9']
      refine cC (p2) (cf (cz t) x d h c).fn rfl (by rfl) (by repeat' (first|exact trivial|assumption|refine f' ?_ ?_)) ?_
      try simp only[aj,seval,g6',g16',hs,g12',hd,g8',hh,g9']
      refine cC (p3) (cf (cz t) y d h c).fn rfl (by rfl) (by repeat' (first|exact trivial|assumption|refine f' ?_ ?_)) ?_
      try simp only[aj,seval,g5',g16',hs,hF.hm,bf,dg,AV.key,MK.fits,y5,and_self,true_and]
      refine pO [b0] (show bv Try.prog (fj (av M x []) y).f [.sl 1 ((av M x []).map AV.int) false,.int y] (.bool (decide (y∈av M x [])))from(fj (av M x []) y).ok) (fj (av M x []) y).fn rfl rfl ⟨dd.vec (by simp) y4 (aw (am (λ_=>rfl) _)),dd.pure trivial,trivial⟩ trivial ?_
      try simp only[aj,seval]
      refine hK _ _ _ ?_;clear hK K;exact HC _ _ (by omega) (fin λr hr=>by unfold beR at hr;simp only[ae];repeat rw[E' (by omega)]) rfl
 clear hR1 h17 g6' g8' g9' g12' g16' g5' hnx1 tm1 nx1;intro tm1 nx1 hnx1 hR1 h122;have g16':tm1 16=.ref bs 0:=(hR1 16 (.inl (by omega))).trans g16;have g5':tm1 5=.mref 32:=(hR1 5 (.inl (by omega))).trans t5
 have hB0:∀(tm':Nat→AV) (hp':Hp) (nx':Nat) (M':Rws),112≤nx'→(∀r,beR r→tm' r=tm r)→hp' 0=hp 0→(∃ns,Fam hp' nx' 32 ns M')→BeB t ds ⟨tm',hp',nx'⟩ M':=λtm' hp' nx' M' hn hr h0' hf =>
  ⟨hn,(hr 1 (.inl (by omega))).trans t1,(hr 2 (.inl (by omega))).trans t2,h0'.trans h0,(hr 5 (.inl (by omega))).trans t5,(hr 6 (.inl (by omega))).trans t6,hf⟩
 refine AWP.cond (b:=beQ t h c d x y w M) h122 (λhq=>?_) (λhq=>?_)
 case refine_2 =>
  refine AWP.skip (hQ _ ⟨hnx1,λr hr=>hR1 r hr,λb z hb hz=>hz⟩ ?_);unfold beI;rw[E' (by simp[hq])];exact hB0 _ _ _ _ (by omega) hR1 rfl ⟨ns,hF.keep (λ_ _ _=>rfl) hnx1⟩
 have hI:beI t h c d M (x,y,w)=pu M x y:=by unfold beI;rw[F' hq]
 rw[hI]at hQ;obtain⟨f32a,f32b,f32c,f32d⟩:=nxF (show 32<nx1 by omega);obtain⟨fsa,fsb,fsc,fsd⟩:=nxF (show bs<nx1 by omega);have hml:=aT;have hbs32:(bs=32)=False:=by simp;rintro rfl;rw[hF.hm]at hs;cases hs
 have hbs32':(32=bs)=False:=by simp;rintro rfl;rw[hF.hm]at hs;cases hs
 cases e4:aR M x with
 | false =>
  have q1:=λz v kk=>(hF.no e4 z v kk).1;have q2:=λz v kk=>(hF.no e4 z v kk).2;refine AWP.dreg' λK hK=>?_
  try simp only[aj,seval,g5',g16',hs,hF.hm,bf,b7,dg,AV.key,MK.fits,q1 _ .unk none,and_self,true_and]
  refine fh ?_
  try simp only[aj,seval,g5',g16',hs,hF.hm,bf,b7,dg,AV.key,MK.fits,and_self,true_and,aV,dy,f32a,f32b,f32c,f32d,ao']
  refine⟨by decide,?_⟩
  refine⟨?_,hK _ _ _ (hQ _ ⟨by dsimp only;omega,λr hr=>?_,λb z hb hz=>?_⟩ (hB0 _ _ _ _ (by omega) (λr hr=>?_) ?_ ⟨ns++[nx1+160],hF.put_no e4 (f:=nx1+160) (by omega) (by omega) ?_ ?_ λb hb hne=>?_⟩))⟩
  ·simp[fC,kJ,bu,AOp.opers,aL,evO,ae,fsa,fsb,f32a,f32b,hbs32,hbs32']
  ·have hr':=hr;unfold beR at hr';simp only[ae];repeat rw[E' (by omega)]
   exact hR1 r hr
  ·have hb1:b<nx:=hb;have hz1:hp b=some (.box z):=hz;have e32:b≠32:=λc=>by subst c;rw[hF.hm]at hz1;cases hz1
   simp only[ae,E' e32];rw[E' (by omega)];exact hz1
  ·have hr':=hr;unfold beR at hr';simp only[ae];repeat rw[E' (by omega)]
   exact hR1 r hr
  ·simp only[ae];rw[E' (by omega),E' (by omega),E' (by omega)]
  ·simp only[ae,↓reduceIte];exact congrArg some (q2 (.sl 0 [] true) _ none)
  ·simp only[ae,f32b,↓reduceIte]
  ·simp only[ae,E' hne];rw[E' (by omega)]
 | true =>
  obtain⟨i0,b0,y1,y2,y3,y4,y5,y6⟩:=hF.yes e4;have hb0:=hF.lt b0 (J' y1);obtain⟨b0a,b0b,_,_⟩:=nxF (show b0<nx1 by omega);have hb32:(32=b0)=False:=by simp;rintro rfl;exact hF.bm_no (J' y1)
  have hb32':(b0=32)=False:=by simp;rintro rfl;exact hF.bm_no (J' y1)
  have hbs0:(bs=b0)=False:=by simp;rintro rfl;rw[hs]at y4;cases y4
  have hbs0':(b0=bs)=False:=by simp;rintro rfl;rw[hs]at y4;cases y4
  refine AWP.dreg' λK hK=>?_
  try simp only[aj,seval,g5',g16',hs,hF.hm,bf,b7,dg,AV.key,MK.fits,y5,and_self,true_and]
  refine fh ?_
  try simp only[aj,seval,g5',g16',hs,hF.hm,bf,b7,dg,AV.key,MK.fits,and_self,true_and,aV,dy,y4,f32a,f32b,f32c,f32d,hb32,hb32',ao',B']
  refine⟨⟨by omega,by omega⟩,?_⟩
  refine⟨?_,hK _ _ _ (hQ _ ⟨by dsimp only;omega,λr hr=>?_,λb z hb hz=>?_⟩ (hB0 _ _ _ _ (by omega) (λr hr=>?_) ?_ ⟨ns.set i0 (nx1+160),hF.put_yes e4 y1 y2 y3 (f:=nx1+160) (by omega) (by omega) ?_ ?_ λb hb hne hnb=>?_⟩))⟩
  ·simp[fC,kJ,bu,AOp.opers,aL,evO,ae,fsa,fsb,f32a,f32b,hbs32,hbs32',hbs0,hbs0',hb32,hb32']
  ·have hr':=hr;unfold beR at hr';simp only[ae];repeat rw[E' (by omega)]
   exact hR1 r hr
  ·have hb1:b<nx:=hb;have hz1:hp b=some (.box z):=hz;have e32:b≠32:=λc=>by subst c;rw[hF.hm]at hz1;cases hz1
   have eb0:b≠b0:=λc=>by subst c;rw[y4]at hz1;cases hz1
   simp only[ae,E' e32,E' eb0];rw[E' (by omega)];exact hz1
  ·have hr':=hr;unfold beR at hr';simp only[ae];repeat rw[E' (by omega)]
   exact hR1 r hr
  ·have hb00:(0=b0)=False:=by simp;rintro rfl;rw[h0]at y4;cases y4
   simp only[ae,hb00];rw[E' (by omega),E' (by omega),E' (by omega)];rfl
  ·simp only[ae,↓reduceIte];exact congrArg some (y6 none _)
  ·simp only[ae,f32b,↓reduceIte]
  ·simp only[ae,E' hne,E' hnb];rw[E' (by omega)]
def zH:AC:=.seq (.reg [⟨(some 52),.faddr 0 (.t 14),none⟩,⟨(some 53),.load false 1 (.t 52),none⟩,⟨(some 54),.faddr 1 (.t 14),none⟩,⟨(some 55),.load false 1 (.t 54),none⟩,⟨(some 56),.faddr 2 (.t 14),none⟩,⟨(some 57),.load false 1 (.t 56),none⟩,⟨(some 58),.build [(.val (.int .i64 0)),(.val (.int .i64 0)),(.val (.int .i64 0))] [(0,1,(.t 53)),(1,1,(.t 55)),(2,1,(.t 57))],none⟩,⟨(some 59),.faddr 1 (.t 14),none⟩,⟨(some 60),.load false 1 (.t 59),none⟩,⟨(some 61),.faddr 0 (.t 14),none⟩,⟨(some 62),.load false 1 (.t 61),none⟩,⟨(some 63),.faddr 3 (.t 14),none⟩,⟨(some 64),.load false 1 (.t 63),none⟩,⟨(some 65),.build [(.val (.int .i64 0)),(.val (.int .i64 0)),(.val (.int .i64 0))] [(0,1,(.t 60)),(1,1,(.t 62)),(2,1,(.t 64))],none⟩,⟨(some 66),.lit 3 2 (.agg [(.val (.int .i64 0)),(.val (.int .i64 0)),(.val (.int .i64 0))]) [(0,(.t 58)),(1,(.t 65))],none⟩,⟨(some 67),.len (.t 66),none⟩,⟨(some 68),.move (.c (.val (.int .i64 0))),none⟩])
 (.block 6 (.loop (.seq (.reg [⟨(some 69),.bin .lss (.t 68) (.t 67),none⟩])
 (.seq (.cond (.t 69) (.skip) (.exit 6))
 (.seq (.block 7 (.seq (.reg [⟨(some 70),.iaddr 3 (.t 66) (.t 68),none⟩,⟨(some 71),.load true 3 (.t 70),none⟩,⟨(some 16),.box (.c (.agg [(.val (.int .i64 0)),(.val (.int .i64 0)),(.val (.int .i64 0))])),none⟩,⟨none,.store 3 (.t 16) (.t 71),none⟩])
 zD))
 (.reg [⟨(some 134),.bin .add (.t 68) (.c (.val (.int .i64 1))),none⟩,⟨(some 68),.move (.t 134),none⟩]))))))
def zJ:AC:=.seq (.reg [⟨(some 45),.faddr 1 (.t 2),none⟩,⟨(some 46),.load false 1 (.t 45),none⟩,⟨(some 47),.len (.t 46),none⟩,⟨(some 48),.move (.c (.val (.int .i64 0))),none⟩])
 (.block 4 (.loop (.seq (.reg [⟨(some 49),.bin .lss (.t 48) (.t 47),none⟩])
 (.seq (.cond (.t 49) (.skip) (.exit 4))
 (.seq (.block 5 (.seq (.reg [⟨(some 50),.iaddr 5 (.t 46) (.t 48),none⟩,⟨(some 51),.load true 5 (.t 50),none⟩,⟨(some 14),.box (.c (.agg [(.val (.int .i64 0)),(.val (.int .i64 0)),(.val (.int .i64 0)),(.val (.int .i64 0)),(.val (.int .i64 0))])),none⟩,⟨none,.store 5 (.t 14) (.t 51),none⟩])
 zH))
 (.reg [⟨(some 135),.bin .add (.t 48) (.c (.val (.int .i64 1))),none⟩,⟨(some 48),.move (.t 135),none⟩]))))))
def zL:AC:=.seq (.reg [⟨(some 38),.faddr 0 (.t 2),none⟩,⟨(some 39),.load false 1 (.t 38),none⟩,⟨(some 40),.len (.t 39),none⟩,⟨(some 41),.move (.c (.val (.int .i64 0))),none⟩])
 (.block 2 (.loop (.seq (.reg [⟨(some 42),.bin .lss (.t 41) (.t 40),none⟩])
 (.seq (.cond (.t 42) (.skip) (.exit 2))
 (.seq (.block 3 (.seq (.reg [⟨(some 43),.iaddr 2 (.t 39) (.t 41),none⟩,⟨(some 44),.load true 2 (.t 43),none⟩,⟨(some 12),.box (.c (.agg [(.val (.int .i64 0)),(.val (.bool false))])),none⟩,⟨none,.store 2 (.t 12) (.t 44),none⟩])
 zJ))
 (.reg [⟨(some 136),.bin .add (.t 41) (.c (.val (.int .i64 1))),none⟩,⟨(some 41),.move (.t 136),none⟩]))))))
def lst(l:Lnk):List (Int×Int×Int):=[(l.a,l.b,l.ca),(l.b,l.a,l.cb)]
def be2(t:Tpl)(h:Hop)(c d:Int)(M:Rws)(l:Lnk):Rws:=(lst l).foldl (beI t h c d) M
def be3(t:Tpl)(h:Hop)(c:Int)(M:Rws)(d:Rtr):Rws:=t.ls.foldl (be2 t h c d.id) M
structure ft (t:Tpl) (M:Rws):Prop where
  nd:∀p∈M,p.2.Nodup
  el:∀p∈M,∀y∈p.2,aJ t y=true
  ky:∀p∈M,aJ t p.1=true
theorem pE{t:Tpl}{y:Int}:aJ t y=true↔y∈t.rs.map (·.id):=by
 unfold aJ;rw[aF',T']
 constructor
 ·rintro⟨r,hr,e⟩;exact⟨r,hr,eq_of_beq e⟩
 ·rintro⟨r,hr,rfl⟩;exact⟨r,hr,beq_self_eq_true _⟩
theorem ft.pu{t:Tpl}{M:Rws}(h:ft t M){x y:Int}(hx:aJ t x=true)(hy:aJ t y=true)(hn:y ∉ av M x []):ft t (pu M x y):=by
 have hv:(av M x []).Nodup∧∀z∈av M x [],aJ t z=true:=by
  cases e:aR M x with
  | false=>rw[cA e];exact⟨bc',λz hz=>by simp at hz⟩
  | true=>exact⟨h.nd _ (bD e),h.el _ (bD e)⟩
 have key:∀p∈Go.Proofs.Ytdoacjojljgdcaa.pu M x y,p∈M∨p=(x,av M x []++[y]):=λp hp=>by
  unfold Go.Proofs.Ytdoacjojljgdcaa.pu at hp;cases e:aR M x with
  | false =>
   rw[nL e]at hp
   rcases ac'.mp hp with hp|hp
   ·exact .inl hp
   ·exact .inr (P'.mp hp)
  | true=>rw[lB e]at hp;exact aj' hp
 refine⟨λp hp=>?_,λp hp z hz=>?_,λp hp=>?_⟩
 ·rcases key p hp with hp|rfl
  ·exact h.nd p hp
  ·exact aT'.mpr ⟨hv.1,by simp,λa ha b hb=>by rw[P'.mp hb];rintro rfl;exact hn ha⟩
 ·rcases key p hp with hp|rfl
  ·exact h.el p hp z hz
  ·rcases ac'.mp hz with hz|hz
   ·exact hv.2 z hz
   ·rw[P'.mp hz];exact hy
 ·rcases key p hp with hp|rfl
  ·exact h.ky p hp
  ·exact hx
theorem ft.len{t:Tpl}{M:Rws}(h:ft t M)(hc:aF t=0):∀p∈M,p.2.length≤24:=λp hp=>by
 have:=List.Nodup.length_le_of_subset (h.nd p hp) (show p.2 ⊆ t.rs.map (·.id)from λy hy=>pE.mp (h.el p hp y hy));rw[B']at this;have:=(cX hc).1;omega
theorem ft.val{t:Tpl}{M:Rws}(h:ft t M)(hc:aF t=0)(x:Int):(av M x []).length≤24:=by
 cases e:aR M x with
 | false=>rw[cA e];simp
 | true=>exact h.len hc _ (bD e)
theorem ft.beI{t:Tpl}{M:Rws}(h:ft t M){hp:Hop}{c d:Int}{s:Int×Int×Int}(hx:aJ t s.1=true)(hy:aJ t s.2.1=true):ft t (beI t hp c d M s):=by
 unfold Go.Proofs.Ytdoacjojljgdcaa.beI
 split
 ·rename_i e;refine h.pu hx hy ?_;unfold beQ at e;simp only[V',br',decide_eq_false_iff_not]at e;exact e.2.2.2.2
 ·exact h
theorem BeB.keep{t:Tpl}{ds:List Hop}{s s':S3}{M:Rws}(h:BeB t ds s M)(hn:s.nx≤s'.nx)(ht:∀r,r<7→s'.tm r=s.tm r)(hh:∀b,b<s.nx→s'.hp b=s.hp b):BeB t ds s' M:=by
 obtain⟨n1,t1,t2,h0,t5,t6,ns,hF⟩:=h;exact⟨by omega,(ht 1 (by omega)).trans t1,(ht 2 (by omega)).trans t2,(hh 0 (by omega)).trans h0,(ht 5 (by omega)).trans t5,(ht 6 (by omega)).trans t6,ns,hF.keep (λb hb _=>hh b hb) hn⟩
theorem d6{α β:Type}(f:β→α→β)(b:β){l:List α}{k:Nat}{x:α}(h:l[k]?=some x):(l.take (k+1)).foldl f b=f ((l.take k).foldl f b) x:=by rw[bp h,bt'];rfl
def r4(r:Nat):Prop:=r<16∨18≤r∧r<52
def r3(r:Nat):Prop:=r<14∨18≤r∧r<45
def r2(r:Nat):Prop:=r<12∨18≤r∧r<38
theorem zG(t:Tpl)(hc:aF t=0)(ds:List Hop)(h:Hop)(c d:Int)(fl:AV)(l:Lnk)(hlm:l∈t.ls)(s:S3)(M:Rws)(hI:ft t M)(bh bd bl:Nat)(hB:BeB t ds s M)(g8:s.tm 8=.ref bh 0)(g9:s.tm 9=.int c)(g12:s.tm 12=.ref bd 0)(g14:s.tm 14=.ref bl 0)
  (hh:s.hp bh=some (.box (.agg [.int h.a,.int h.b]))) (hd:s.hp bd=some (.box (.agg [.int d,fl]))) (hl:s.hp bl=some (.box (Lnk.v l))) (b1:bh<s.nx) (b2:bd<s.nx) (b3:bl<s.nx) (k:Nat) (Q:X→S3→Prop)
  (hQ:∀s',Kp r4 s s'→BeB t ds s' (be2 t h c d M l)→ft t (be2 t h c d M l)→Q .normal s'):AWP Try.prog 0 k zH Q s:=by
 obtain⟨hla,hlb⟩:=(aA hc).has l hlm;have hmem:∀z∈lst l,aJ t z.1=true∧aJ t z.2.1=true:=λz hz=>by
  unfold lst at hz;simp only[aa',au',or_false]at hz
  rcases hz with rfl|rfl
  ·exact⟨hla,hlb⟩
  ·exact⟨hlb,hla⟩
 obtain⟨tm,hp,nx⟩:=s;simp only at g8 g9 g12 g14 hh hd hl b1 b2 b3;unfold zH;refine AWP.seq' ?_;refine AWP.reg' λK hK=>?_
 try simp only[aj,seval,g14,hl,Lnk.v]
 refine oc ?_
 try simp only[aj,seval,g14,hl,Lnk.v]
 refine hK _ _ _ ?_;clear hK K;refine AWP.block ?_
 refine AWP.loopS (λu:S3×Nat=>u.1) (λu=>(u.2≤2∧ft t (((lst l).take u.2).foldl (beI t h c d) M))∧Kp r4 ⟨tm,hp,nx⟩ u.1∧BeB t ds u.1 (((lst l).take u.2).foldl (beI t h c d) M) ∧
  u.1.tm 66=.sl 3 ((lst l).map λz=>AV.agg [.int z.1,.int z.2.1,.int z.2.2]) true∧u.1.tm 67=.int 2∧u.1.tm 68=.int (u.2:Nat)) (λu=>2-u.2) (i0:=(_,0)) ?_ ap.refl ?_
 ·refine⟨⟨aq' _,hI⟩,⟨by dsimp only;omega,λr hr=>?_,λb x _ hx=>hx⟩,hB.keep (by dsimp only;omega) (λr hr=>?_) (λ_ _=>rfl),rfl,rfl,rfl⟩
  ·unfold r4 at hr;simp only[ae];repeat rw[E' (by omega)]
  ·simp only[ae];repeat rw[E' (by omega)]
 ·rintro⟨⟨tm1,hp1,nx1⟩,z⟩ ⟨⟨hz,hI1⟩,hK1,hB1,t66,t67,t68⟩;simp only at hz hI1 t66 t67 t68 ⊢;refine AWP.seq' ?_;refine AWP.reg' λK hK=>?_
  try simp only[aj,seval,t67,t68]
  refine hK _ _ _ ?_;clear hK K;refine AWP.seq' ?_
  refine AWP.cond (b:=decide ((z:Int)<2)) rfl (λe=>?_) (λe=>?_)
  ·have e:z<2:=by have:=H' e;omega
   refine AWP.skip ?_;refine AWP.seq' (AWP.block (AWP.seq' ?_));have hzl:z<(lst l).length:=e;have hy:(lst l)[z]?=some (lst l)[z]:=u' hzl;generalize (lst l)[z]=sz at hy;obtain⟨x,y,w⟩:=sz;obtain⟨hx5,hy5⟩:=hmem _ (J' hy);have hge:((lst l).map λz=>AV.agg [.int z.1,.int z.2.1,.int z.2.2]).getD z .unk=.agg [.int x,.int y,.int w]:=by rw[I',G',hy];rfl
   have hll:(lst l).length=2:=rfl;have k8:=(hK1.tm 8 (.inl (by omega))).trans g8;have k9:=(hK1.tm 9 (.inl (by omega))).trans g9;have k12:=(hK1.tm 12 (.inl (by omega))).trans g12;have kh:=hK1.hp _ _ b1 hh;have kd:=hK1.hp _ _ b2 hd;have kn:nx≤nx1:=hK1.nx;simp only at k8 k9 k12 kh kd;refine AWP.reg' λK hK=>?_
   try simp only[aj,seval,t66,t68,hge,hll,Int.toNat_natCast,B']
   refine⟨⟨by omega,by omega⟩,?_⟩;refine hK _ _ _ ?_;clear hK K;have hpl:∀(v1 v2 v3:Option Blk) b,b<nx1→upd (upd (upd hp1 (nx1+16+16+16) v1) (nx1+16+16+16) v2) (nx1+16+16+16) v3 b=hp1 b:=λv1 v2 v3 b hb=>by
    simp only[ae];repeat rw[E' (by omega)]
   refine zC t ds h c d x y w fl _ (((lst l).take z).foldl (beI t h c d) M) bh bd (nx1+16+16+16) (hB1.keep (by dsimp only;omega) (λr hr=>?_) (λb hb=>hpl _ _ _ b hb)) ?_ ?_ ?_ rfl ?_ ?_ (ah _ _ _) (by dsimp only;omega) (by have:=hI1.val hc x;omega) k _ (λs' hk hb=>?_)
   ·simp only[ae];repeat rw[E' (by omega)]
   ·simp only[ae];exact k8
   ·simp only[ae];exact k9
   ·simp only[ae];exact k12
   ·dsimp only;rw[hpl _ _ _ _ (by omega)];exact kh
   ·dsimp only;rw[hpl _ _ _ _ (by omega)];exact kd
   ·obtain⟨tm2,hp2,nx2⟩:=s';refine(show AWP _ _ _ _ _ _ from ?_);have q66:tm2 66=_:=(hk.tm 66 (.inr ⟨by omega,by omega⟩)).trans t66;have q67:tm2 67=_:=(hk.tm 67 (.inr ⟨by omega,by omega⟩)).trans t67;have q68:tm2 68=_:=(hk.tm 68 (.inr ⟨by omega,by omega⟩)).trans t68;have hw:IntKind.i64.wrap ((z:Int)+1)=((z+1:Nat):Int):=fa (by omega) (by omega);refine AWP.reg' λK hK=>?_
    try simp only[aj,seval,q68,hw]
    refine hK _ _ _ ?_;clear hK K;have hkn:nx1+16+16+16+16+16≤nx2:=hk.nx;have hF1:((lst l).take (z+1)).foldl (beI t h c d) M=beI t h c d (((lst l).take z).foldl (beI t h c d) M) (x,y,w):=d6 _ _ hy
    refine⟨(_,z+1),⟨⟨by dsimp only;omega,?_⟩,⟨by dsimp only;omega,λr hr=>?_,λb v hb hv=>?_⟩,?_,?_,?_,?_⟩,by dsimp only;omega,ap.refl⟩
    ·dsimp only;rw[hF1];exact hI1.beI hx5 hy5
    ·have hr':=hr;unfold r4 at hr';have e1:=hk.tm r (by unfold beR;omega);have e2:=hK1.tm r hr;dsimp only at e1 e2 ⊢;simp only[ae]at e1 ⊢;rw[E' (by omega),E' (by omega),e1]
     repeat rw[E' (by omega)]
     exact e2
    ·have e2:=hK1.hp b v hb hv;have hb':b<nx:=hb;refine hk.hp b v (by dsimp only;omega) ?_;dsimp only;rw[hpl _ _ _ _ (by omega)];exact e2
    ·dsimp only;rw[hF1];exact hb.keep (by dsimp only;omega) (λr hr=>by simp only[ae];repeat rw[E' (by omega)]) (λ_ _=>rfl)
    ·simp only[ae];exact q66
    ·simp only[ae];exact q67
    ·simp only[ae];rfl
  ·have e:z=2:=by have:=ag' e;omega
   subst e;refine AWP.exit ?_;refine(show Q .normal _ from ?_);have hT:(lst l).take 2=lst l:=rfl;rw[hT]at hI1 hB1
   refine hQ _ ⟨?_,λr hr=>?_,λb x hb hx=>hK1.hp b x hb hx⟩ (hB1.keep (by dsimp only;omega) (λr hr=>?_) (λ_ _=>rfl)) hI1
   ·have:=hK1.nx;dsimp only at this ⊢;omega
   ·have e2:=hK1.tm r hr;unfold r4 at hr;dsimp only at e2 ⊢;simp only[ae];rw[E' (by omega)];exact e2
   ·simp only[ae];rw[E' (by omega)]
theorem zI(t:Tpl)(hc:aF t=0)(ds:List Hop)(h:Hop)(c:Int)(d:Int)(fl:AV)(s:S3)(M:Rws)(hI:ft t M)(bh bd:Nat)(hB:BeB t ds s M)(g8:s.tm 8=.ref bh 0)(g9:s.tm 9=.int c)(g12:s.tm 12=.ref bd 0)
  (hh:s.hp bh=some (.box (.agg [.int h.a,.int h.b]))) (hd:s.hp bd=some (.box (.agg [.int d,fl]))) (b1:bh<s.nx) (b2:bd<s.nx) (k:Nat) (Q:X→S3→Prop)
  (hQ:∀s',Kp r3 s s'→BeB t ds s' (t.ls.foldl (be2 t h c d) M)→ft t (t.ls.foldl (be2 t h c d) M)→Q .normal s'):AWP Try.prog 0 k zJ Q s:=by
 have hnl:=cX hc;have hml:=aT;obtain⟨tm,hp,nx⟩:=s;simp only at g8 g9 g12 hd hh b1 b2;have q2:=hB.t2;have q0:=hB.h0;simp only at q2 q0;unfold zJ;refine AWP.seq' ?_;refine AWP.reg' λK hK=>?_
 try simp only[aj,seval,q2,q0,Tpl.v,B']
 repeat (refine f' (by omega) ?_)
 refine hK _ _ _ ?_;clear hK K;refine AWP.block ?_
 refine AWP.loopS (λu:S3×Nat=>u.1) (λu=>(u.2≤t.ls.length∧ft t ((t.ls.take u.2).foldl (be2 t h c d) M))∧Kp r3 ⟨tm,hp,nx⟩ u.1∧BeB t ds u.1 ((t.ls.take u.2).foldl (be2 t h c d) M) ∧
  u.1.tm 46=.sl 5 (t.ls.map Lnk.v) false∧u.1.tm 47=.int t.ls.length∧u.1.tm 48=.int (u.2:Nat)) (λu=>t.ls.length-u.2) (i0:=(_,0)) ?_ ap.refl ?_
 ·refine⟨⟨aq' _,hI⟩,⟨by dsimp only;omega,λr hr=>?_,λb x _ hx=>hx⟩,hB.keep (by dsimp only;omega) (λr hr=>?_) (λ_ _=>rfl),rfl,rfl,rfl⟩
  ·unfold r3 at hr;simp only[ae];repeat rw[E' (by omega)]
  ·simp only[ae];repeat rw[E' (by omega)]
 ·rintro⟨⟨tm1,hp1,nx1⟩,z⟩ ⟨⟨hz,hI1⟩,hK1,hB1,tL,tN,tI⟩;simp only at hz hI1 tL tN tI ⊢;refine AWP.seq' ?_;refine AWP.reg' λK hK=>?_
  try simp only[aj,seval,tN,tI]
  refine hK _ _ _ ?_;clear hK K;refine AWP.seq' ?_
  refine AWP.cond (b:=decide ((z:Int)<(t.ls.length:Int))) rfl (λe=>?_) (λe=>?_)
  ·have e:z<t.ls.length:=by have:=H' e;omega
   refine AWP.skip ?_;refine AWP.seq' (AWP.block (AWP.seq' ?_));have hy:t.ls[z]?=some t.ls[z]:=u' e;generalize t.ls[z]=x at hy;have hge:(t.ls.map Lnk.v).getD z .unk=Lnk.v x:=by rw[I',G',hy];rfl
   have k8:=(hK1.tm 8 (.inl (by omega))).trans g8;have k9:=(hK1.tm 9 (.inl (by omega))).trans g9;have k12:=(hK1.tm 12 (.inl (by omega))).trans g12;have kh:=hK1.hp _ _ b1 hh;have kd:=hK1.hp _ _ b2 hd;have kn:nx≤nx1:=hK1.nx;simp only at k8 k9 kh k12 kd;refine AWP.reg' λK hK=>?_
   try simp only[aj,seval,tL,tI,hge,Int.toNat_natCast,B',Lnk.v]
   refine⟨⟨by omega,by omega⟩,?_⟩;refine hK _ _ _ ?_;clear hK K;have hpl:∀(v1 v2 v3:Option Blk) b,b<nx1→upd (upd (upd hp1 (nx1+16+16+16) v1) (nx1+16+16+16) v2) (nx1+16+16+16) v3 b=hp1 b:=λv1 v2 v3 b hb=>by
    simp only[ae];repeat rw[E' (by omega)]
   have hBn:BeB t ds ⟨_,_,_⟩ ((t.ls.take z).foldl (be2 t h c d) M):=hB1.keep (s':=⟨upd (upd (upd (upd tm1 49 (AV.bool (decide ((z:Int)<(t.ls.length:Int))))) 50 ((Lnk.v x).rptr 0)) 51 (Lnk.v x)) 14 (.ref (nx1+16+16+16) 0),upd (upd (upd hp1 (nx1+16+16+16) (some (.box (.agg [.int 0,.int 0,.int 0,.int 0,.int 0])))) (nx1+16+16+16) none) (nx1+16+16+16) (some (.box (Lnk.v x))),nx1+16+16+16+16+16⟩) (by dsimp only;omega) (λr hr=>by simp only[ae];repeat rw[E' (by omega)]) (λb hb=>hpl _ _ _ b hb)
   refine zG t hc ds h c d fl x (J' hy) _ _ hI1 bh bd (nx1+16+16+16) hBn ?_ ?_ ?_ rfl ?_ ?_ (ah _ _ _) ?_ ?_ ?_ k _ (λs' hk hb hi=>?_)
   ·simp only[ae];exact k8
   ·simp only[ae];exact k9
   ·simp only[ae];exact k12
   ·dsimp only;rw[hpl _ _ _ _ (by omega)];exact kh
   ·dsimp only;rw[hpl _ _ _ _ (by omega)];exact kd
   ·dsimp only;omega
   ·dsimp only;omega
   ·dsimp only;omega
   ·obtain⟨tm2,hp2,nx2⟩:=s';refine(show AWP _ _ _ _ _ _ from ?_);have qL:tm2 46=_:=(hk.tm 46 (.inr ⟨by omega,by omega⟩)).trans tL;have qN:tm2 47=_:=(hk.tm 47 (.inr ⟨by omega,by omega⟩)).trans tN;have qI:tm2 48=_:=(hk.tm 48 (.inr ⟨by omega,by omega⟩)).trans tI;have hw:IntKind.i64.wrap ((z:Int)+1)=((z+1:Nat):Int):=fa (by omega) (by omega);refine AWP.reg' λK hK=>?_
    try simp only[aj,seval,qI,hw]
    refine hK _ _ _ ?_;clear hK K;have hkn:nx1+16+16+16+16+16≤nx2:=hk.nx;have hF1:(t.ls.take (z+1)).foldl (be2 t h c d) M=(be2 t h c d) ((t.ls.take z).foldl (be2 t h c d) M) x:=d6 _ _ hy
    refine⟨(_,z+1),⟨⟨by dsimp only;omega,?_⟩,⟨by dsimp only;omega,λr hr=>?_,λb v hb' hv=>?_⟩,?_,?_,?_,?_⟩,by dsimp only;omega,ap.refl⟩
    ·dsimp only;rw[hF1];exact hi
    ·have hr':=hr;unfold r3 at hr';have e1:=hk.tm r (by unfold r4;omega);have e2:=hK1.tm r hr;dsimp only at e1 e2 ⊢;simp only[ae]at e1 ⊢;rw[E' (by omega),E' (by omega),e1]
     repeat rw[E' (by omega)]
     exact e2
    ·have e2:=hK1.hp b v hb' hv;have hb':b<nx:=hb';refine hk.hp b v (by dsimp only;omega) ?_;dsimp only;rw[hpl _ _ _ _ (by omega)];exact e2
    ·dsimp only;rw[hF1];exact hb.keep (by dsimp only;omega) (λr hr=>by simp only[ae];repeat rw[E' (by omega)]) (λ_ _=>rfl)
    ·simp only[ae];exact qL
    ·simp only[ae];exact qN
    ·simp only[ae];rfl
  ·have e:z=t.ls.length:=by have:=ag' e;omega
   subst e;refine AWP.exit ?_;refine(show Q .normal _ from ?_);rw[List.take_length]at hI1 hB1
   refine hQ _ ⟨?_,λr hr=>?_,λb x hb hx=>hK1.hp b x hb hx⟩ (hB1.keep (by dsimp only;omega) (λr hr=>?_) (λ_ _=>rfl)) hI1
   ·have:=hK1.nx;dsimp only at this ⊢;omega
   ·have e2:=hK1.tm r hr;unfold r3 at hr;dsimp only at e2 ⊢;simp only[ae];rw[E' (by omega)];exact e2
   ·simp only[ae];rw[E' (by omega)]
theorem zK(t:Tpl)(hc:aF t=0)(ds:List Hop)(h:Hop)(c:Int)  (s:S3) (M:Rws) (hI:ft t M) (bh:Nat) (hB:BeB t ds s M) (g8:s.tm 8=.ref bh 0) (g9:s.tm 9=.int c) 
  (hh:s.hp bh=some (.box (.agg [.int h.a,.int h.b])))  (b1:bh<s.nx) (k:Nat) (Q:X→S3→Prop)
  (hQ:∀s',Kp r2 s s'→BeB t ds s' (t.rs.foldl (be3 t h c) M)→ft t (t.rs.foldl (be3 t h c) M)→Q .normal s'):AWP Try.prog 0 k zL Q s:=by
 have hnl:=cX hc;have hml:=aT;obtain⟨tm,hp,nx⟩:=s;simp only at g8 g9  hh b1;have q2:=hB.t2;have q0:=hB.h0;simp only at q2 q0;unfold zL;refine AWP.seq' ?_;refine AWP.reg' λK hK=>?_
 try simp only[aj,seval,q2,q0,Tpl.v,B']
 repeat (refine f' (by omega) ?_)
 refine hK _ _ _ ?_;clear hK K;refine AWP.block ?_
 refine AWP.loopS (λu:S3×Nat=>u.1) (λu=>(u.2≤t.rs.length∧ft t ((t.rs.take u.2).foldl (be3 t h c) M))∧Kp r2 ⟨tm,hp,nx⟩ u.1∧BeB t ds u.1 ((t.rs.take u.2).foldl (be3 t h c) M) ∧
  u.1.tm 39=.sl 2 (t.rs.map Rtr.v) false∧u.1.tm 40=.int t.rs.length∧u.1.tm 41=.int (u.2:Nat)) (λu=>t.rs.length-u.2) (i0:=(_,0)) ?_ ap.refl ?_
 ·refine⟨⟨aq' _,hI⟩,⟨by dsimp only;omega,λr hr=>?_,λb x _ hx=>hx⟩,hB.keep (by dsimp only;omega) (λr hr=>?_) (λ_ _=>rfl),rfl,rfl,rfl⟩
  ·unfold r2 at hr;simp only[ae];repeat rw[E' (by omega)]
  ·simp only[ae];repeat rw[E' (by omega)]
 ·rintro⟨⟨tm1,hp1,nx1⟩,z⟩ ⟨⟨hz,hI1⟩,hK1,hB1,tL,tN,tI⟩;simp only at hz hI1 tL tN tI ⊢;refine AWP.seq' ?_;refine AWP.reg' λK hK=>?_
  try simp only[aj,seval,tN,tI]
  refine hK _ _ _ ?_;clear hK K;refine AWP.seq' ?_
  refine AWP.cond (b:=decide ((z:Int)<(t.rs.length:Int))) rfl (λe=>?_) (λe=>?_)
  ·have e:z<t.rs.length:=by have:=H' e;omega
   refine AWP.skip ?_;refine AWP.seq' (AWP.block (AWP.seq' ?_));have hy:t.rs[z]?=some t.rs[z]:=u' e;generalize t.rs[z]=x at hy;have hge:(t.rs.map Rtr.v).getD z .unk=Rtr.v x:=by rw[I',G',hy];rfl
   have k8:=(hK1.tm 8 (.inl (by omega))).trans g8;have k9:=(hK1.tm 9 (.inl (by omega))).trans g9
   skip
   have kh:=hK1.hp _ _ b1 hh
   skip
   have kn:nx≤nx1:=hK1.nx;simp only at k8 k9 kh ;refine AWP.reg' λK hK=>?_
   try simp only[aj,seval,tL,tI,hge,Int.toNat_natCast,B',Rtr.v]
   refine⟨⟨by omega,by omega⟩,?_⟩;refine hK _ _ _ ?_;clear hK K;have hpl:∀(v1 v2 v3:Option Blk) b,b<nx1→upd (upd (upd hp1 (nx1+16+16+16) v1) (nx1+16+16+16) v2) (nx1+16+16+16) v3 b=hp1 b:=λv1 v2 v3 b hb=>by
    simp only[ae];repeat rw[E' (by omega)]
   have hBn:BeB t ds ⟨_,_,_⟩ ((t.rs.take z).foldl (be3 t h c) M):=hB1.keep (s':=⟨upd (upd (upd (upd tm1 42 (AV.bool (decide ((z:Int)<(t.rs.length:Int))))) 43 ((Rtr.v x).rptr 0)) 44 (Rtr.v x)) 12 (.ref (nx1+16+16+16) 0),upd (upd (upd hp1 (nx1+16+16+16) (some (.box (.agg [.int 0,.bool false])))) (nx1+16+16+16) none) (nx1+16+16+16) (some (.box (Rtr.v x))),nx1+16+16+16+16+16⟩) (by dsimp only;omega) (λr hr=>by simp only[ae];repeat rw[E' (by omega)]) (λb hb=>hpl _ _ _ b hb)
   refine zI t hc ds h c x.id (.bool x.cap) _ _ hI1 bh (nx1+16+16+16) hBn ?_ ?_ rfl ?_ (ah _ _ _) ?_ ?_ k _ (λs' hk hb hi=>?_)
   ·simp only[ae];exact k8
   ·simp only[ae];exact k9
   ·dsimp only;rw[hpl _ _ _ _ (by omega)];exact kh
   ·dsimp only;omega
   ·dsimp only;omega
   ·obtain⟨tm2,hp2,nx2⟩:=s';refine(show AWP _ _ _ _ _ _ from ?_);have qL:tm2 39=_:=(hk.tm 39 (.inr ⟨by omega,by omega⟩)).trans tL;have qN:tm2 40=_:=(hk.tm 40 (.inr ⟨by omega,by omega⟩)).trans tN;have qI:tm2 41=_:=(hk.tm 41 (.inr ⟨by omega,by omega⟩)).trans tI;have hw:IntKind.i64.wrap ((z:Int)+1)=((z+1:Nat):Int):=fa (by omega) (by omega);refine AWP.reg' λK hK=>?_
    try simp only[aj,seval,qI,hw]
    refine hK _ _ _ ?_;clear hK K;have hkn:nx1+16+16+16+16+16≤nx2:=hk.nx;have hF1:(t.rs.take (z+1)).foldl (be3 t h c) M=(be3 t h c) ((t.rs.take z).foldl (be3 t h c) M) x:=d6 _ _ hy
    refine⟨(_,z+1),⟨⟨by dsimp only;omega,?_⟩,⟨by dsimp only;omega,λr hr=>?_,λb v hb' hv=>?_⟩,?_,?_,?_,?_⟩,by dsimp only;omega,ap.refl⟩
    ·dsimp only;rw[hF1];exact hi
    ·have hr':=hr;unfold r2 at hr';have e1:=hk.tm r (by unfold r3;omega);have e2:=hK1.tm r hr;dsimp only at e1 e2 ⊢;simp only[ae]at e1 ⊢;rw[E' (by omega),E' (by omega),e1]
     repeat rw[E' (by omega)]
     exact e2
    ·have e2:=hK1.hp b v hb' hv;have hb':b<nx:=hb';refine hk.hp b v (by dsimp only;omega) ?_;dsimp only;rw[hpl _ _ _ _ (by omega)];exact e2
    ·dsimp only;rw[hF1];exact hb.keep (by dsimp only;omega) (λr hr=>by simp only[ae];repeat rw[E' (by omega)]) (λ_ _=>rfl)
    ·simp only[ae];exact qL
    ·simp only[ae];exact qN
    ·simp only[ae];rfl
  ·have e:z=t.rs.length:=by have:=ag' e;omega
   subst e;refine AWP.exit ?_;refine(show Q .normal _ from ?_);rw[List.take_length]at hI1 hB1
   refine hQ _ ⟨?_,λr hr=>?_,λb x hb hx=>hK1.hp b x hb hx⟩ (hB1.keep (by dsimp only;omega) (λr hr=>?_) (λ_ _=>rfl)) hI1
   ·have:=hK1.nx;dsimp only at this ⊢;omega
   ·have e2:=hK1.tm r hr;unfold r2 at hr;dsimp only at e2 ⊢;simp only[ae];rw[E' (by omega)];exact e2
   ·simp only[ae];rw[E' (by omega)]
def EV:AF:=
 ⟨139,2,[.tmp 4],
 .seq (.reg [⟨(some 2),.box (.t 0),none⟩,⟨(some 4),.move (.c (.val (.map none))),none⟩])
 (.seq (.reg [⟨(some 18),.mkm none,none⟩,⟨(some 5),.move (.t 18),none⟩])
 (.seq (.reg [⟨(some 19),.load true 2 (.t 2),none⟩,⟨(some 20),.call (.c (.func 30 [])) [(.t 19)],none⟩,⟨(some 6),.move (.t 20),none⟩])
 (.seq (.seq (.reg [⟨(some 21),.move (.t 1),none⟩,⟨(some 22),.len (.t 21),none⟩,⟨(some 23),.move (.c (.val (.int .i64 0))),none⟩])
 (.block 0 (.loop (.seq (.reg [⟨(some 24),.bin .lss (.t 23) (.t 22),none⟩])
 (.seq (.cond (.t 24) (.skip) (.exit 0))
 (.seq (.block 1 (.seq (.reg [⟨(some 25),.iaddr 2 (.t 21) (.t 23),none⟩,⟨(some 26),.load true 2 (.t 25),none⟩,⟨(some 8),.box (.c (.agg [(.val (.int .i64 0)),(.val (.int .i64 0))])),none⟩,⟨none,.store 2 (.t 8) (.t 26),none⟩])
 (.seq (.reg [⟨(some 28),.load true 2 (.t 2),none⟩,⟨(some 29),.faddr 0 (.t 8),none⟩,⟨(some 30),.load false 1 (.t 29),none⟩,⟨(some 31),.faddr 1 (.t 8),none⟩,⟨(some 32),.load false 1 (.t 31),none⟩,⟨(some 33),.call (.c (.func 29 [])) [(.t 28),(.t 30),(.t 32)],none⟩,⟨(some 27),.move (.t 33),none⟩,⟨(some 34),.ext 0 (.t 27),none⟩,⟨(some 35),.ext 1 (.t 27),none⟩,⟨(some 9),.move (.t 34),none⟩,⟨(some 10),.move (.t 35),none⟩])
 (.seq (.seq (.reg [⟨(some 36),.move (.t 10),none⟩,⟨(some 37),.un .not (.t 36),none⟩])
 (.cond (.t 37) (.exit 1) (.skip)))
 (.seq (.reg [⟨(some 38),.faddr 0 (.t 2),none⟩,⟨(some 39),.load false 1 (.t 38),none⟩,⟨(some 40),.len (.t 39),none⟩,⟨(some 41),.move (.c (.val (.int .i64 0))),none⟩])
 (.block 2 (.loop (.seq (.reg [⟨(some 42),.bin .lss (.t 41) (.t 40),none⟩])
 (.seq (.cond (.t 42) (.skip) (.exit 2))
 (.seq (.block 3 (.seq (.reg [⟨(some 43),.iaddr 2 (.t 39) (.t 41),none⟩,⟨(some 44),.load true 2 (.t 43),none⟩,⟨(some 12),.box (.c (.agg [(.val (.int .i64 0)),(.val (.bool false))])),none⟩,⟨none,.store 2 (.t 12) (.t 44),none⟩])
 (.seq (.reg [⟨(some 45),.faddr 1 (.t 2),none⟩,⟨(some 46),.load false 1 (.t 45),none⟩,⟨(some 47),.len (.t 46),none⟩,⟨(some 48),.move (.c (.val (.int .i64 0))),none⟩])
 (.block 4 (.loop (.seq (.reg [⟨(some 49),.bin .lss (.t 48) (.t 47),none⟩])
 (.seq (.cond (.t 49) (.skip) (.exit 4))
 (.seq (.block 5 (.seq (.reg [⟨(some 50),.iaddr 5 (.t 46) (.t 48),none⟩,⟨(some 51),.load true 5 (.t 50),none⟩,⟨(some 14),.box (.c (.agg [(.val (.int .i64 0)),(.val (.int .i64 0)),(.val (.int .i64 0)),(.val (.int .i64 0)),(.val (.int .i64 0))])),none⟩,⟨none,.store 5 (.t 14) (.t 51),none⟩])
 (.seq (.reg [⟨(some 52),.faddr 0 (.t 14),none⟩,⟨(some 53),.load false 1 (.t 52),none⟩,⟨(some 54),.faddr 1 (.t 14),none⟩,⟨(some 55),.load false 1 (.t 54),none⟩,⟨(some 56),.faddr 2 (.t 14),none⟩,⟨(some 57),.load false 1 (.t 56),none⟩,⟨(some 58),.build [(.val (.int .i64 0)),(.val (.int .i64 0)),(.val (.int .i64 0))] [(0,1,(.t 53)),(1,1,(.t 55)),(2,1,(.t 57))],none⟩,⟨(some 59),.faddr 1 (.t 14),none⟩,⟨(some 60),.load false 1 (.t 59),none⟩,⟨(some 61),.faddr 0 (.t 14),none⟩,⟨(some 62),.load false 1 (.t 61),none⟩,⟨(some 63),.faddr 3 (.t 14),none⟩,⟨(some 64),.load false 1 (.t 63),none⟩,⟨(some 65),.build [(.val (.int .i64 0)),(.val (.int .i64 0)),(.val (.int .i64 0))] [(0,1,(.t 60)),(1,1,(.t 62)),(2,1,(.t 64))],none⟩,⟨(some 66),.lit 3 2 (.agg [(.val (.int .i64 0)),(.val (.int .i64 0)),(.val (.int .i64 0))]) [(0,(.t 58)),(1,(.t 65))],none⟩,⟨(some 67),.len (.t 66),none⟩,⟨(some 68),.move (.c (.val (.int .i64 0))),none⟩])
 (.block 6 (.loop (.seq (.reg [⟨(some 69),.bin .lss (.t 68) (.t 67),none⟩])
 (.seq (.cond (.t 69) (.skip) (.exit 6))
 (.seq (.block 7 (.seq (.reg [⟨(some 70),.iaddr 3 (.t 66) (.t 68),none⟩,⟨(some 71),.load true 3 (.t 70),none⟩,⟨(some 16),.box (.c (.agg [(.val (.int .i64 0)),(.val (.int .i64 0)),(.val (.int .i64 0))])),none⟩,⟨none,.store 3 (.t 16) (.t 71),none⟩])
 (.seq (.reg [⟨(some 72),.faddr 0 (.t 16),none⟩,⟨(some 73),.load false 1 (.t 72),none⟩,⟨(some 74),.faddr 0 (.t 8),none⟩,⟨(some 75),.load false 1 (.t 74),none⟩,⟨(some 76),.bin .neq (.t 73) (.t 75),none⟩,⟨(some 77),.move (.t 76),none⟩,⟨(some 78),.move (.t 6),(some (77,true))⟩,⟨(some 79),.faddr 0 (.t 16),(some (77,true))⟩,⟨(some 80),.load false 1 (.t 79),(some (77,true))⟩,⟨(some 81),.faddr 0 (.t 12),(some (77,true))⟩,⟨(some 82),.load false 1 (.t 81),(some (77,true))⟩,⟨(some 83),.faddr 0 (.t 16),(some (77,true))⟩,⟨(some 84),.load false 1 (.t 83),(some (77,true))⟩,⟨(some 85),.faddr 1 (.t 16),(some (77,true))⟩,⟨(some 86),.load false 1 (.t 85),(some (77,true))⟩,⟨(some 87),.build [(.val (.int .i64 0)),(.val (.int .i64 0))] [(0,1,(.t 84)),(1,1,(.t 86))],(some (77,true))⟩,⟨(some 88),.faddr 2 (.t 16),(some (77,true))⟩,⟨(some 89),.load false 1 (.t 88),(some (77,true))⟩,⟨(some 90),.call (.c (.func 31 [])) [(.t 78),(.t 80),(.t 82),(.t 87),(.t 89)],(some (77,true))⟩,⟨(some 91),.pick (.t 77) (.t 90) (.c (.val (.bool false))),none⟩,⟨(some 17),.move (.t 91),none⟩])
 (.seq (.reg [⟨(some 92),.move (.t 17),none⟩,⟨(some 93),.move (.t 92),none⟩,⟨(some 94),.move (.t 6),(some (93,true))⟩,⟨(some 95),.faddr 0 (.t 16),(some (93,true))⟩,⟨(some 96),.load false 1 (.t 95),(some (93,true))⟩,⟨(some 97),.faddr 0 (.t 12),(some (93,true))⟩,⟨(some 98),.load false 1 (.t 97),(some (93,true))⟩,⟨(some 99),.load true 2 (.t 8),(some (93,true))⟩,⟨(some 100),.move (.t 9),(some (93,true))⟩,⟨(some 101),.call (.c (.func 31 [])) [(.t 94),(.t 96),(.t 98),(.t 99),(.t 100)],(some (93,true))⟩,⟨(some 102),.pick (.t 93) (.t 101) (.c (.val (.bool false))),none⟩,⟨(some 103),.move (.t 102),none⟩,⟨(some 104),.move (.t 6),(some (103,true))⟩,⟨(some 105),.faddr 1 (.t 16),(some (103,true))⟩,⟨(some 106),.load false 1 (.t 105),(some (103,true))⟩,⟨(some 107),.faddr 0 (.t 12),(some (103,true))⟩,⟨(some 108),.load false 1 (.t 107),(some (103,true))⟩,⟨(some 109),.load true 2 (.t 8),(some (103,true))⟩,⟨(some 110),.move (.t 9),(some (103,true))⟩,⟨(some 111),.call (.c (.func 31 [])) [(.t 104),(.t 106),(.t 108),(.t 109),(.t 110)],(some (103,true))⟩,⟨(some 112),.pick (.t 103) (.t 111) (.c (.val (.bool false))),none⟩,⟨(some 113),.move (.t 112),none⟩,⟨(some 114),.move (.t 5),(some (113,true))⟩,⟨(some 115),.faddr 0 (.t 16),(some (113,true))⟩,⟨(some 116),.load false 1 (.t 115),(some (113,true))⟩,⟨(some 117),.mget none ((.sl 0 [] true)) false (.t 114) (.t 116),(some (113,true))⟩,⟨(some 118),.faddr 1 (.t 16),(some (113,true))⟩,⟨(some 119),.load false 1 (.t 118),(some (113,true))⟩,⟨(some 120),.call (.c (.func 25 [])) [(.t 117),(.t 119)],(some (113,true))⟩,⟨(some 121),.un .not (.t 120),(some (113,true))⟩,⟨(some 122),.pick (.t 113) (.t 121) (.c (.val (.bool false))),none⟩])
 (.cond (.t 122) (.dreg [⟨(some 123),.move (.t 5),none⟩,⟨(some 124),.faddr 0 (.t 16),none⟩,⟨(some 125),.load false 1 (.t 124),none⟩,⟨(some 126),.move (.t 5),none⟩,⟨(some 127),.faddr 0 (.t 16),none⟩,⟨(some 128),.load false 1 (.t 127),none⟩,⟨(some 129),.mget none ((.sl 0 [] true)) false (.t 126) (.t 128),none⟩,⟨(some 130),.faddr 1 (.t 16),none⟩,⟨(some 131),.load false 1 (.t 130),none⟩,⟨(some 132),.lit 1 1 (.val (.int .i64 0)) [(0,(.t 131))],none⟩,⟨(some 133),.append 1 8 (.t 129) (.t 132),none⟩,⟨none,.mset none (.t 123) (.t 125) (.t 133),none⟩] [(2,5),(2,6),(2,8),(5,8),(6,8),(2,9),(5,9),(6,9),(2,10)]) (.skip))))))
 (.reg [⟨(some 134),.bin .add (.t 68) (.c (.val (.int .i64 1))),none⟩,⟨(some 68),.move (.t 134),none⟩])))))))))
 (.reg [⟨(some 135),.bin .add (.t 48) (.c (.val (.int .i64 1))),none⟩,⟨(some 48),.move (.t 135),none⟩])))))))))
 (.reg [⟨(some 136),.bin .add (.t 41) (.c (.val (.int .i64 1))),none⟩,⟨(some 41),.move (.t 136),none⟩])))))))))))
 (.reg [⟨(some 137),.bin .add (.t 23) (.c (.val (.int .i64 1))),none⟩,⟨(some 23),.move (.t 137),none⟩])))))))
 (.seq (.reg [⟨(some 138),.move (.t 5),none⟩,⟨(some 4),.move (.t 138),none⟩])
 (.ret)))))⟩
theorem Cc:dL Try.prog Try.f19=some EV:=by kernel_rfl
def be4(t:Tpl)(M:Rws)(h:Hop):Rws:=if(bo t h.a h.b).2=true then t.rs.foldl (be3 t h (bo t h.a h.b).1) M else M
def ef(t:Tpl)(ds:List Hop):Rws:=ds.foldl (be4 t) []
def r1(r:Nat):Prop:=r<8∨18≤r∧r<24
theorem mg{t:Tpl}{f g:Int}(h:(bo t f g).2=true):aF t=0:=by
 unfold bo at h
 split at h
 ·cases h
 ·rename_i e;exact Classical.not_not.mp e
theorem z6(t:Tpl)(ds:List Hop)(hd:ds.length≤1000):aI Try.prog 19 [Tpl.v t,.sl 2 (ds.map Hop.v) false] [] (.mref 0) [some (gB (ef t ds))]:=by
 refine aI.walk Try.func19 Cc (by simp[EV]) ?_;unfold EV;simp only[dI,ec,ab',ak'];refine AWP.seq' ?_;refine AWP.reg' λK hK=>?_
 try simp only[aj,seval]
 refine⟨rfl,?_⟩;refine hK _ _ _ ?_;clear hK K;refine AWP.seq' ?_;refine AWP.reg' λK hK=>?_
 try simp only[aj,seval,oi]
 refine hK _ _ _ ?_;clear hK K;refine AWP.seq' ?_;refine AWP.reg' λK hK=>?_
 try simp only[aj,seval,Tpl.v]
 refine cC (show bv Try.prog (sR t).f [Tpl.v t] (E4 t)from(sR t).ok) (sR t).fn rfl rfl ?_ ?_
 ·exact⟨⟨trivial,trivial,trivial⟩,trivial⟩
 try simp only[aj,seval]
 refine hK _ _ _ ?_;clear hK K;refine AWP.seq' (AWP.seq' ?_);refine AWP.reg' λK hK=>?_
 try simp only[aj,seval,B']
 repeat (refine f' (by omega) ?_)
 refine hK _ _ _ ?_;clear hK K;refine AWP.block ?_;have hml:=aT
 refine AWP.loopS (λu:S3×Nat=>u.1) (λu=>(u.2≤ds.length∧ft t ((ds.take u.2).foldl (be4 t) []))∧BeB t ds u.1 ((ds.take u.2).foldl (be4 t) []) ∧
  u.1.tm 21=.sl 2 (ds.map Hop.v) false∧u.1.tm 22=.int ds.length∧u.1.tm 23=.int (u.2:Nat)) (λu=>ds.length-u.2) (i0:=(_,0)) ?_ ap.refl ?_
 ·exact⟨⟨aq' _,⟨λp hp=>by simp at hp,λp hp=>by simp at hp,λp hp=>by simp at hp⟩⟩,⟨by dsimp only;omega,rfl,rfl,rfl,rfl,rfl,[],⟨rfl,rfl,bc',bc',by simp,by dsimp only;omega,by simp⟩⟩,rfl,rfl,rfl⟩
 ·rintro⟨⟨tm1,hp1,nx1⟩,z⟩ ⟨⟨hz,hI1⟩,hB1,t21,t22,t23⟩;simp only at hz hI1 t21 t22 t23 ⊢;refine AWP.seq' ?_;refine AWP.reg' λK hK=>?_
  try simp only[aj,seval,t22,t23]
  refine hK _ _ _ ?_;clear hK K;refine AWP.seq' ?_
  refine AWP.cond (b:=decide ((z:Int)<(ds.length:Int))) rfl (λe=>?_) (λe=>?_)
  ·have e:z<ds.length:=by have:=H' e;omega
   refine AWP.skip ?_;refine AWP.seq' (AWP.block (AWP.seq' ?_));have hy:ds[z]?=some ds[z]:=u' e;generalize ds[z]=h at hy;have hge:(ds.map Hop.v).getD z .unk=Hop.v h:=by rw[I',G',hy];rfl
   have k2:=hB1.t2;have k0:=hB1.h0;have kn:=hB1.nx;simp only at k2 k0 kn;obtain⟨f0,_⟩:=nxF (show 0<nx1 by omega);refine AWP.reg' λK hK=>?_
   try simp only[aj,seval,t21,t23,hge,Int.toNat_natCast,B',Hop.v]
   refine⟨⟨by omega,by omega⟩,?_⟩;refine hK _ _ _ ?_;clear hK K;refine AWP.seq' ?_;refine AWP.reg' λK hK=>?_
   try simp only[aj,seval,k2,k0,f0,Tpl.v,ao']
   refine cC (show bv Try.prog (mf t h.a h.b).f [Tpl.v t,.int h.a,.int h.b] (.tup [.int (bo t h.a h.b).1,.bool (bo t h.a h.b).2])from(mf t h.a h.b).ok) (mf t h.a h.b).fn rfl rfl ?_ ?_
   ·exact⟨⟨trivial,trivial,trivial⟩,trivial,trivial,trivial⟩
   try simp only[aj,seval,ao']
   refine hK _ _ _ ?_;clear hK K;have hF1:(ds.take (z+1)).foldl (be4 t) []=be4 t ((ds.take z).foldl (be4 t) []) h:=d6 _ _ hy;have hw:IntKind.i64.wrap ((z:Int)+1)=((z+1:Nat):Int):=fa (by omega) (by omega);refine AWP.seq' (AWP.seq' ?_);refine AWP.reg' λK hK=>?_
   try simp only[aj,seval]
   refine hK _ _ _ ?_;clear hK K;cases e1:(bo t h.a h.b).2 with
   | false =>
    refine AWP.cond (b:=true) rfl (λ_=>AWP.exit ?_) (λh=>by cases h);refine(show AWP _ _ _ _ _ _ from ?_);have hF2:be4 t ((ds.take z).foldl (be4 t) []) h=(ds.take z).foldl (be4 t) []:=by unfold be4;rw[E' (by simp[e1])]
    rw[hF2]at hF1;refine AWP.reg' λK hK=>?_
    try simp only[aj,seval,t23,hw]
    refine hK _ _ _ ?_;clear hK K
    refine⟨(_,z+1),⟨⟨by dsimp only;omega,?_⟩,?_,?_,?_,?_⟩,by dsimp only;omega,ap.refl⟩
    ·dsimp only;rw[hF1];exact hI1
    ·dsimp only;rw[hF1];refine hB1.keep (by dsimp only;omega) (λr hr=>by simp only[ae];repeat rw[E' (by omega)]) (λb hb=>?_);have hb':b<nx1:=hb;simp only[ae];repeat rw[E' (by omega)]
    ·simp only[ae];exact t21
    ·simp only[ae];exact t22
    ·simp only[ae];rfl
   | true =>
    have hc:=mg e1;refine AWP.cond (b:=false) rfl (λh=>by cases h) (λ_=>AWP.skip ?_);refine(show AWP _ _ _ zL _ _ from ?_);have hF2:be4 t ((ds.take z).foldl (be4 t) []) h=t.rs.foldl (be3 t h (bo t h.a h.b).1) ((ds.take z).foldl (be4 t) []):=by unfold be4;rw[F' e1]
    rw[hF2]at hF1
    refine zK t hc ds h (bo t h.a h.b).1 _ _ hI1 (nx1+48) (hB1.keep ?_ (λr hr=>?_) (λb hb=>?_)) rfl rfl ?_ ?_ _ _ (λs' hk hb hi=>?_)
    ·dsimp only;omega
    ·simp only[ae];repeat rw[E' (by omega)]
    ·have hb':b<nx1:=hb;simp only[ae];repeat rw[E' (by omega)]
    ·simp only[ae,↓reduceIte]
    ·dsimp only;omega
    ·obtain⟨tm2,hp2,nx2⟩:=s';refine(show AWP _ _ _ _ _ _ from ?_);have q21:tm2 21=_:=(hk.tm 21 (.inr ⟨by omega,by omega⟩)).trans t21;have q22:tm2 22=_:=(hk.tm 22 (.inr ⟨by omega,by omega⟩)).trans t22;have q23:tm2 23=_:=(hk.tm 23 (.inr ⟨by omega,by omega⟩)).trans t23;refine AWP.reg' λK hK=>?_
     try simp only[aj,seval,q23,hw]
     refine hK _ _ _ ?_;clear hK K
     refine⟨(_,z+1),⟨⟨by dsimp only;omega,?_⟩,?_,?_,?_,?_⟩,by dsimp only;omega,ap.refl⟩
     ·dsimp only;rw[hF1];exact hi
     ·dsimp only;rw[hF1];exact hb.keep (by dsimp only;omega) (λr hr=>by simp only[ae];repeat rw[E' (by omega)]) (λ_ _=>rfl)
     ·simp only[ae];exact q21
     ·simp only[ae];exact q22
     ·simp only[ae];rfl
  ·have e:z=ds.length:=by have:=ag' e;omega
   subst e;refine AWP.exit ?_;rw[List.take_length]at hI1;have hB1':BeB t ds ⟨tm1,hp1,nx1⟩ (ef t ds):=by have:=hB1;dsimp only at this;rw[List.take_length]at this;exact this
   obtain⟨n1,_,_,_,t5,_,ns,hF⟩:=hB1';simp only at n1 t5 hF;refine(show AWP _ _ _ _ _ _ from ?_);refine AWP.seq' ?_;refine AWP.reg' λK hK=>?_
   try simp only[aj,seval,t5]
   refine hK _ _ _ ?_;clear hK K;refine(show AWP _ _ _ _ _ _ from ?_);obtain⟨hp',w,h1,h2⟩:=(hF.keep (nx':=nx1+16+16+16) (λ_ _ _=>rfl) (by omega)).give (k:=0) (n:=139) (tm:=upd (upd (upd tm1 24 (AV.bool (decide ((ds.length:Int)<(ds.length:Int))))) 138 (AV.mref 32)) 4 (AV.mref 32))
   refine AWP.ret (fK w (fg [32] [(4,.mref 0)] rfl rfl ?_ ?_ rfl (by decide) ?_ (by simp)))
   ·simp only[P',forall_eq];exact⟨rfl,show(0:Nat)<1 by omega⟩
   ·refine⟨⟨?_,?_⟩,trivial⟩
    ·show hp' 32=_;rw[h1,gB,Blk.ren,aK _ (dt _)]
    ·exact aG (dt _)
   ·intro b hb;omega
def ET:AF:=
 ⟨38,4,[.tmp 5],
 .seq (.reg [⟨(some 5),.move (.c (.val (.int .i64 0))),none⟩])
 (.seq (.seq (.reg [⟨(some 12),.load false 1 (.t 1),none⟩,⟨(some 13),.move (.t 0),none⟩,⟨(some 14),.mget none ((.val (.int .i64 0))) true (.t 12) (.t 13),none⟩,⟨(some 11),.move (.t 14),none⟩,⟨(some 15),.ext 0 (.t 11),none⟩,⟨(some 16),.ext 1 (.t 11),none⟩,⟨(some 6),.move (.t 15),none⟩,⟨(some 7),.move (.t 16),none⟩])
 (.seq (.reg [⟨(some 17),.move (.t 7),none⟩])
 (.cond (.t 17) (.seq (.reg [⟨(some 18),.move (.t 6),none⟩,⟨(some 5),.move (.t 18),none⟩])
 (.ret)) (.skip))))
 (.seq (.reg [⟨(some 8),.move (.c (.val (.int .i64 0))),none⟩])
 (.seq (.seq (.reg [⟨(some 19),.load false 1 (.t 2),none⟩,⟨(some 20),.move (.t 0),none⟩,⟨(some 21),.mget none ((.sl 0 [] true)) false (.t 19) (.t 20),none⟩,⟨(some 22),.len (.t 21),none⟩,⟨(some 23),.move (.c (.val (.int .i64 0))),none⟩])
 (.block 0 (.loop (.seq (.reg [⟨(some 24),.bin .lss (.t 23) (.t 22),none⟩])
 (.seq (.cond (.t 24) (.skip) (.exit 0))
 (.seq (.block 1 (.seq (.reg [⟨(some 25),.iaddr 1 (.t 21) (.t 23),none⟩,⟨(some 26),.load false 1 (.t 25),none⟩,⟨(some 10),.move (.t 26),none⟩])
 (.reg [⟨(some 27),.move (.t 8),none⟩,⟨(some 28),.load false 1 (.t 3),none⟩,⟨(some 29),.move (.t 10),none⟩,⟨(some 30),.call (.t 28) [(.t 29)],none⟩,⟨(some 31),.bin .add (.c (.val (.int .i64 1))) (.t 30),none⟩,⟨(some 32),.max [(.t 27),(.t 31)],none⟩,⟨(some 8),.move (.t 32),none⟩])))
 (.reg [⟨(some 33),.bin .add (.t 23) (.c (.val (.int .i64 1))),none⟩,⟨(some 23),.move (.t 33),none⟩])))))))
 (.seq (.reg [⟨(some 34),.load false 1 (.t 1),none⟩,⟨(some 35),.move (.t 0),none⟩,⟨(some 36),.move (.t 8),none⟩,⟨none,.mset none (.t 34) (.t 35) (.t 36),none⟩])
 (.seq (.reg [⟨(some 37),.move (.t 8),none⟩,⟨(some 5),.move (.t 37),none⟩])
 (.ret))))))⟩
theorem Ca:dL Try.prog Try.f21=some ET:=by kernel_rfl
def rkS(f:Int→Dis→Int×Dis)(s:Int×Dis)(x:Int):Int×Dis:=(cP s.1 (W (1+(f x s.2).1)),(f x s.2).2)
def rkF(A:Rws):Nat→Int→Dis→Int×Dis
 | 0,_,kn=>(0,kn)
 | f+1,r,kn=>if aR kn r=true then(av kn r 0,kn)else
  (((av A r []).foldl (rkS (rkF A f)) (0,kn)).1,bg ((av A r []).foldl (rkS (rkF A f)) (0,kn)).2 r ((av A r []).foldl (rkS (rkF A f)) (0,kn)).1)
abbrev mpR(A:Rws):AV:=.mp none (kyL A) (A.map λp=>AV.sl 1 (p.2.map AV.int) false)
abbrev knB(kn:Dis):Blk:=.map none (kn.map λp=>MK.n p.1) (kn.map λp=>AV.int p.2)
def rkH(A:Rws)(kn:Dis):List Blk:=[.box (.mref 3),.box (mpR A),.box (.func 21 [.ref 0 0,.ref 1 0,.ref 2 0]),knB kn]
def AH:AC:=.block 0 (.loop (.seq (.reg [⟨(some 24),.bin .lss (.t 23) (.t 22),none⟩])
 (.seq (.cond (.t 24) (.skip) (.exit 0))
 (.seq (.block 1 (.seq (.reg [⟨(some 25),.iaddr 1 (.t 21) (.t 23),none⟩,⟨(some 26),.load false 1 (.t 25),none⟩,⟨(some 10),.move (.t 26),none⟩])
 (.reg [⟨(some 27),.move (.t 8),none⟩,⟨(some 28),.load false 1 (.t 3),none⟩,⟨(some 29),.move (.t 10),none⟩,⟨(some 30),.call (.t 28) [(.t 29)],none⟩,⟨(some 31),.bin .add (.c (.val (.int .i64 1))) (.t 30),none⟩,⟨(some 32),.max [(.t 27),(.t 31)],none⟩,⟨(some 8),.move (.t 32),none⟩])))
 (.reg [⟨(some 33),.bin .add (.t 23) (.c (.val (.int .i64 1))),none⟩,⟨(some 23),.move (.t 33),none⟩])))))
structure RkS (A:Rws) (r n:Int) (kn:Dis) (s:S3):Prop where
  nx:4≤s.nx
  t0:s.tm 0=.int r
  t1:s.tm 1=.ref 0 0
  t2:s.tm 2=.ref 1 0
  t3:s.tm 3=.ref 2 0
  t8:s.tm 8=.int n
  h0:s.hp 0=some (.box (.mref 3))
  h1:s.hp 1=some (.box (mpR A))
  h2:s.hp 2=some (.box (.func 21 [.ref 0 0,.ref 1 0,.ref 2 0]))
  h3:s.hp 3=some (knB kn)
theorem tZ(kn:Dis):aH (kn.map λp=>AV.int p.2):=aw (am (λ_=>rfl) _)
theorem ql{A:Rws}{n fr:Nat}{x v:Int}{kn kn':Dis}{hp:Hp}(b0 b1 b2 b3:Nat)(hnd:[b0,b1,b2,b3].Nodup)(hs:aI Try.prog 21 [.int x,.ref 0 0,.ref 1 0,.ref 2 0] (rkH A kn) (.int v) ((rkH A kn').map some))
  (k0:hp b0=some (.box (.mref b3))) (k1:hp b1=some (.box (mpR A))) (k2:hp b2=some (.box (.func 21 [.ref b0 0,.ref b1 0,.ref b2 0]))) (k3:hp b3=some (knB kn)) :
  aS Try.prog n 21 [.int x,.ref b0 0,.ref b1 0,.ref b2 0] fr hp [b0,b1,b2,b3] (.int v) (dC [(b0,some (.box (.mref b3))),(b1,some (.box (mpR A))),(b2,some (.box (.func 21 [.ref b0 0,.ref b1 0,.ref b2 0]))),(b3,some (knB kn'))]):=by
 have e0:aO [b0,b1,b2,b3] fr 0=b0:=rfl;have e1:aO [b0,b1,b2,b3] fr 1=b1:=rfl;have e2:aO [b0,b1,b2,b3] fr 2=b2:=rfl;have e3:aO [b0,b1,b2,b3] fr 3=b3:=rfl;have kp:=λ(π:Nat→Nat) (kn:Dis)=>aK π (tZ kn);have bl:∀(kn:Dis) y,y∈rkH A kn→y.bel 4:=λkn y hy=>by
  unfold rkH at hy;simp only[aa',au',or_false]at hy
  rcases hy with rfl|rfl|rfl|rfl
  ·show(3:Nat)<4;omega
  ·trivial
  ·exact⟨show(0:Nat)<4 by omega,show(1:Nat)<4 by omega,show(2:Nat)<4 by omega,trivial⟩
  ·exact aG (tZ kn)
 have rn:∀(kn:Dis),(rkH A kn).map (Blk.ren (aO [b0,b1,b2,b3] fr))=[.box (.mref b3),.box (mpR A),.box (.func 21 [.ref b0 0,.ref b1 0,.ref b2 0]),knB kn]:=λkn=>by
  unfold rkH;simp only[aB',bT',Blk.ren,kp,AV.ren,cZ,e0,e1,e2,e3]
 have key:=aS.hand (n:=n) (f:=fr) (hp:=hp) ⟨_,Try.func21,by kernel_rfl,by kernel_rfl⟩ hs [b0,b1,b2,b3] rfl hnd ⟨trivial,show(0:Nat)<4 by omega,show(1:Nat)<4 by omega,show(2:Nat)<4 by omega,trivial⟩ (λi b y h1 h2=>by
  refine⟨bl kn y (J' h2),?_⟩;have h3:((rkH A kn).map (Blk.ren (aO [b0,b1,b2,b3] fr)))[i]?=some (y.ren (aO [b0,b1,b2,b3] fr)):=by rw[G',h2];rfl
  rw[rn kn]at h3
  match i with
  | 0=>cases h1;exact k0.trans h3
  | 1=>cases h1;exact k1.trans h3
  | 2=>cases h1;exact k2.trans h3
  | 3=>cases h1;exact k3.trans h3
  | i+4=>simp at h1) (by simp[rkH]) (by simp[rkH]) trivial (λy hy=>by
   rw[T']at hy;obtain⟨z,hz,e⟩:=hy;cases e;have:=bl kn' y hz;simpa[rkH]using this)
 have e4:bV [b0,b1,b2,b3] fr ((rkH A kn').map some)=dC [(b0,some (.box (.mref b3))),(b1,some (.box (mpR A))),(b2,some (.box (.func 21 [.ref b0 0,.ref b1 0,.ref b2 0]))),(b3,some (knB kn'))]:=by
  have:=rn kn';unfold rkH at this ⊢;simp only[aB',bT',List.cons.injEq,and_true]at this;obtain⟨g0,g1,g2,g3⟩:=this;simp only[bV,aB',bT',List.zipIdx_cons,List.zipIdx_nil,aA',ai',e0,e1,e2,e3,g0,g1,g2,g3,Nat.reduceAdd]
 rw[e4]at key;simpa only[cZ,AV.ren,e0,e1,e2]using key
theorem rk_l(A:Rws)(f:Nat)(D:Int→Nat)(ih:∀(r:Int) (kn:Dis),D r<f→aI Try.prog 21 [.int r,.ref 0 0,.ref 1 0,.ref 2 0] (rkH A kn) (.int (rkF A f r kn).1) ((rkH A (rkF A f r kn).2).map some))
  (r:Int) (row:List Int) (hl:row.length≤1000000) (hr:∀x∈row,D x<f) (kn:Dis) (s:S3) (hS:RkS A r 0 kn s) (t21:s.tm 21=.sl 1 (row.map AV.int) false) (t22:s.tm 22=.int row.length) (t23:s.tm 23=.int 0) (Q:X→S3→Prop)
  (hQ:∀s',RkS A r (row.foldl (rkS (rkF A f)) (0,kn)).1 (row.foldl (rkS (rkF A f)) (0,kn)).2 s'→Q .normal s'):AWP Try.prog 4 38 AH Q s:=by
 have hml:=aT;unfold AH;refine AWP.block ?_
 refine AWP.loopS (λu:S3×Nat=>u.1) (λu=>u.2≤row.length∧RkS A r ((row.take u.2).foldl (rkS (rkF A f)) (0,kn)).1 ((row.take u.2).foldl (rkS (rkF A f)) (0,kn)).2 u.1 ∧
  u.1.tm 21=.sl 1 (row.map AV.int) false∧u.1.tm 22=.int row.length∧u.1.tm 23=.int (u.2:Nat)) (λu=>row.length-u.2) (i0:=(_,0)) ⟨aq' _,hS,t21,t22,t23⟩ ap.refl ?_
 rintro⟨⟨tm1,hp1,nx1⟩,z⟩ ⟨hz,⟨n1,s0,s1,s2,s3,s8,k0,k1,k2,k3⟩,q21,q22,q23⟩;simp only at hz n1 s0 s1 s2 s3 s8 k0 k1 k2 k3 q21 q22 q23 ⊢;refine AWP.seq' ?_;refine AWP.reg' λK hK=>?_
 try simp only[aj,seval,q22,q23]
 refine hK _ _ _ ?_;clear hK K;refine AWP.seq' ?_
 refine AWP.cond (b:=decide ((z:Int)<(row.length:Int))) rfl (λe=>?_) (λe=>?_)
 ·have e:z<row.length:=by have:=H' e;omega
  refine AWP.skip ?_;refine AWP.seq' (AWP.block (AWP.seq' ?_));have hy:row[z]?=some row[z]:=u' e;generalize row[z]=x at hy;have hge:(row.map AV.int).getD z .unk=.int x:=by rw[I',G',hy];rfl
  refine AWP.reg' λK hK=>?_
  try simp only[aj,seval,q21,q23,hge,Int.toNat_natCast,B']
  refine⟨⟨by omega,by omega⟩,?_⟩;refine hK _ _ _ ?_;clear hK K;refine(show AWP _ _ _ _ _ _ from ?_);generalize hP:(row.take z).foldl (rkS (rkF A f)) (0,kn)=p at *
  have hx:=ih x p.2 (hr x (J' hy));refine AWP.reg' λK hK=>?_
  try simp only[aj,seval,s3,s8,k2]
  refine fM rfl (by rfl) (ql 0 1 2 3 (by decide) hx k0 k1 k2 k3) ?_;rw[cm,cm,cm,cm,jO]
  try simp only[aj,seval,eS,fe]
  refine hK _ _ _ ?_;clear hK K;refine(show AWP _ _ _ _ _ _ from ?_);have hw:IntKind.i64.wrap ((z:Int)+1)=((z+1:Nat):Int):=fa (by omega) (by omega);refine AWP.reg' λK hK=>?_
  try simp only[aj,seval,q23,hw]
  refine hK _ _ _ ?_;clear hK K;have hF:(row.take (z+1)).foldl (rkS (rkF A f)) (0,kn)=rkS (rkF A f) p x:=by rw[d6 _ _ hy,hP]
  refine⟨(_,z+1),⟨by dsimp only;omega,?_,?_,?_,rfl⟩,by dsimp only;omega,ap.refl⟩
  ·dsimp only;rw[hF];exact⟨by dsimp only;omega,s0,s1,s2,s3,rfl,rfl,rfl,rfl,rfl⟩
  ·exact q21
  ·exact q22
 ·have e:z=row.length:=by have:=ag' e;omega
  subst e;refine AWP.exit ?_;refine(show Q .normal _ from ?_);rw[List.take_length]at s8 k3;exact hQ _ ⟨by dsimp only;omega,s0,s1,s2,s3,s8,k0,k1,k2,k3⟩
theorem tE(A:Rws)(D:Int→Nat)(hA:∀p∈A,p.2.length≤1000000)(hD:∀r x,x∈av A r []→D x<D r):∀(f:Nat) (r:Int) (kn:Dis),D r<f →
  aI Try.prog 21 [.int r,.ref 0 0,.ref 1 0,.ref 2 0] (rkH A kn) (.int (rkF A f r kn).1) ((rkH A (rkF A f r kn).2).map some)
 | 0,r,kn,h=>absurd h (by omega)
 | f+1,r,kn,h=>by
  have ih:=tE A D hA hD f;have hinj:∀x y:Int,MK.n x=MK.n y→x=y:=λx y h=>MK.n.inj h;have e1:=kr (kf:=MK.n) (vf:=AV.int) (l:=kn) (x:=r) hinj 0 true;have hrow:(av A r []).length≤1000000:=by
   cases e:aR A r with
   | false=>rw[cA e];simp
   | true=>exact hA _ (bD e)
  refine aI.walk Try.func21 Ca (by simp[ET]) ?_;unfold ET rkH;simp only[dI,ec,ab',ak'];refine AWP.seq' ?_;refine AWP.reg' λK hK=>?_
  try simp only[aj,seval]
  refine hK _ _ _ ?_;clear hK K;refine AWP.seq' (AWP.seq' ?_);refine AWP.reg' λK hK=>?_
  try simp only[aj,seval,bf,dg,AV.key,MK.fits,and_self,true_and,e1,cond_true]
  refine hK _ _ _ ?_;clear hK K;refine AWP.seq' ?_;refine AWP.reg' λK hK=>?_
  try simp only[aj,seval]
  refine hK _ _ _ ?_;clear hK K;cases hk:aR kn r with
  | true =>
   have hr:rkF A (f+1) r kn=(av kn r 0,kn):=by rw[rkF,F' hk]
   rw[hr];refine AWP.cond (b:=true) rfl (λ_=>?_) (λh=>by cases h);refine AWP.seq' ?_;refine AWP.reg' λK hK=>?_
   try simp only[aj,seval]
   refine hK _ _ _ ?_;clear hK K;exact AWP.ret (jy rfl rfl ⟨rfl,rfl,rfl,rfl,trivial⟩)
  | false =>
   refine AWP.cond (b:=false) rfl (λh=>by cases h) (λ_=>AWP.skip ?_);refine(show AWP _ _ _ _ _ _ from ?_);refine AWP.seq' ?_;refine AWP.reg' λK hK=>?_
   try simp only[aj,seval]
   refine hK _ _ _ ?_;clear hK K;refine AWP.seq' (AWP.seq' ?_);have hinj':=jK (kf:=MK.n) (vf:=λl:List Int=>AV.sl 1 (l.map AV.int) false) (l:=A) (x:=r) (z:=[]) (zz:=.sl 0 [] true) (ok:=false) hinj;have hinj2:=mI (kf:=MK.n) (vf:=λl:List Int=>AV.sl 1 (l.map AV.int) false) (l:=A) (x:=r) (zz:=.sl 0 [] true) (ok:=false) hinj;have hr:rkF A (f+1) r kn=(((av A r []).foldl (rkS (rkF A f)) (0,kn)).1,bg ((av A r []).foldl (rkS (rkF A f)) (0,kn)).2 r ((av A r []).foldl (rkS (rkF A f)) (0,kn)).1):=by rw[rkF,E' (by simp[hk])]
   rw[hr];generalize hrv:av A r []=row at *
   generalize hP:row.foldl (rkS (rkF A f)) (0,kn)=p at *
   cases ha:aR A r with
   | true =>
    have e2:=hinj' ha;simp only[cond_false]at e2;refine AWP.reg' λK hK=>?_
    try simp only[aj,seval,bf,dg,AV.key,MK.fits,and_self,true_and,e2,kyL,B']
    refine hK _ _ _ ?_;clear hK K;refine(show AWP Try.prog 4 38 AH _ _ from ?_);refine rk_l A f D ih r row hrow (λx hx=>by have:=hD r x (by rw[hrv];exact hx);omega) kn _ ⟨by dsimp only;omega,rfl,rfl,rfl,rfl,rfl,rfl,rfl,rfl,rfl⟩ (by simp only[ae];rfl) (by simp only[ae];rfl) rfl _ (λs' hS=>?_);rw[hP]at hS;obtain⟨tm1,hp1,nx1⟩:=s';obtain⟨n1,s0,s1,s2,s3,s8,k0,k1,k2,k3⟩:=hS;simp only at n1 s0 s1 s2 s3 s8 k0 k1 k2 k3;refine(show AWP _ _ _ _ _ _ from ?_);have e3:=gR (kf:=MK.n) (vf:=AV.int) (l:=p.2) (x:=r) hinj none p.1;refine AWP.seq' ?_;refine AWP.reg' λK hK=>?_
    try simp only[aj,seval,s0,s1,s8,k0,k3,b7,AV.key,MK.fits,and_self,true_and,e3]
    refine hK _ _ _ ?_;clear hK K;refine AWP.seq' ?_;refine AWP.reg' λK hK=>?_
    try simp only[aj,seval,s8]
    refine hK _ _ _ ?_;clear hK K;exact AWP.ret (jy rfl rfl ⟨k0,k1,k2,rfl,trivial⟩)
   | false =>
    have e2:=hinj2 ha;simp only[cond_false]at e2;have hr0:row=[]:=by rw[←hrv,cA ha]
    subst hr0;refine AWP.reg' λK hK=>?_
    try simp only[aj,seval,bf,dg,AV.key,MK.fits,and_self,true_and,e2,kyL,B']
    refine hK _ _ _ ?_;clear hK K;refine AWP.weak (ap.subT 21 (y:=.sl 1 [] false) Sub.nil) ?_;refine(show AWP Try.prog 4 38 AH _ _ from ?_);refine rk_l A f D ih r [] hrow (λx hx=>by simp at hx) kn _ ⟨by dsimp only;omega,rfl,rfl,rfl,rfl,rfl,rfl,rfl,rfl,rfl⟩ rfl rfl rfl _ (λs' hS=>?_);rw[hP]at hS;obtain⟨tm1,hp1,nx1⟩:=s';obtain⟨n1,s0,s1,s2,s3,s8,k0,k1,k2,k3⟩:=hS;simp only at n1 s0 s1 s2 s3 s8 k0 k1 k2 k3;refine(show AWP _ _ _ _ _ _ from ?_);have e3:=gR (kf:=MK.n) (vf:=AV.int) (l:=p.2) (x:=r) hinj none p.1;refine AWP.seq' ?_;refine AWP.reg' λK hK=>?_
    try simp only[aj,seval,s0,s1,s8,k0,k3,b7,AV.key,MK.fits,and_self,true_and,e3]
    refine hK _ _ _ ?_;clear hK K;refine AWP.seq' ?_;refine AWP.reg' λK hK=>?_
    try simp only[aj,seval,s8]
    refine hK _ _ _ ?_;clear hK K;exact AWP.ret (jy rfl rfl ⟨k0,k1,k2,rfl,trivial⟩)
def D5:AC:=.seq (.reg [⟨(some 34),.mkm none,none⟩,⟨(some 11),.box (.c (.val (.map none))),none⟩,⟨none,.store 1 (.t 11) (.t 34),none⟩])
 (.seq (.reg [⟨(some 12),.box (.c (.val (.nilFunc))),none⟩])
 (.seq (.reg [⟨(some 35),.mkf 21 [(.t 11),(.t 10),(.t 12)],none⟩,⟨none,.store 1 (.t 12) (.t 35),none⟩])
 (.seq (.reg [⟨(some 13),.move (.c (.sl 0 [] true)),none⟩])
 (.seq (.seq (.reg [⟨(some 36),.faddr 0 (.t 2),none⟩,⟨(some 37),.load false 1 (.t 36),none⟩,⟨(some 38),.len (.t 37),none⟩,⟨(some 39),.move (.c (.val (.int .i64 0))),none⟩])
 (.block 0 (.loop (.seq (.reg [⟨(some 40),.bin .lss (.t 39) (.t 38),none⟩])
 (.seq (.cond (.t 40) (.skip) (.exit 0))
 (.seq (.block 1 (.seq (.reg [⟨(some 41),.iaddr 2 (.t 37) (.t 39),none⟩,⟨(some 42),.load true 2 (.t 41),none⟩,⟨(some 15),.box (.c (.agg [(.val (.int .i64 0)),(.val (.bool false))])),none⟩,⟨none,.store 2 (.t 15) (.t 42),none⟩])
 (.dreg [⟨(some 43),.move (.t 13),none⟩,⟨(some 44),.faddr 0 (.t 15),none⟩,⟨(some 45),.load false 1 (.t 44),none⟩,⟨(some 46),.load false 1 (.t 12),none⟩,⟨(some 47),.faddr 0 (.t 15),none⟩,⟨(some 48),.load false 1 (.t 47),none⟩,⟨(some 49),.call (.t 46) [(.t 48)],none⟩,⟨(some 50),.build [(.val (.int .i64 0)),(.val (.int .i64 0))] [(0,1,(.t 45)),(1,1,(.t 49))],none⟩,⟨(some 51),.lit 2 1 (.agg [(.val (.int .i64 0)),(.val (.int .i64 0))]) [(0,(.t 50))],none⟩,⟨(some 52),.append 2 16 (.t 43) (.t 51),none⟩,⟨(some 13),.move (.t 52),none⟩] [(2,3),(2,5),(3,5),(2,6)])))
 (.reg [⟨(some 53),.bin .add (.t 39) (.c (.val (.int .i64 1))),none⟩,⟨(some 39),.move (.t 53),none⟩])))))))
 (.seq (.reg [⟨(some 54),.move (.t 13),none⟩,⟨(some 4),.move (.t 54),none⟩,⟨(some 5),.move (.c (.val (.int .i64 0))),none⟩])
 (.ret))))))
def rkO(A:Rws)(N:Nat)(s:List Rnk×Dis)(r:Rtr):List Rnk×Dis:=(s.1++[⟨r.id,(rkF A N r.id s.2).1⟩],(rkF A N r.id s.2).2)
theorem AG(t:Tpl)(A:Rws)(D:Int→Nat)(N:Nat)(hA:∀p∈A,p.2.length≤1000000)(hD:∀r x,x∈av A r []→D x<D r)(hN:∀r,D r<N)(ht:t.rs.length≤1000)(tm:Nat→AV)(hp:Hp)(t2:tm 2=.ref 0 0)(h0:hp 0=some (.box (Tpl.v t)))
  (t10:tm 10=.ref 352 0) (h10:hp 352=some (.box (mpR A))):AWP Try.prog 0 55 D5 (fin 0 55 [.tmp 4,.tmp 5] (.tup [.sl 2 ((t.rs.foldl (rkO A N) ([],[])).1.map Rnk.v) false,.int 0]) []) ⟨tm,hp,1000⟩:=by
 have hml:=aT;unfold D5;refine AWP.seq' ?_;refine AWP.reg' λK hK=>?_
 try simp only[aj,seval,oi]
 refine hK _ _ _ ?_;clear hK K;refine AWP.seq' ?_;refine AWP.reg' λK hK=>?_
 try simp only[aj,seval]
 refine hK _ _ _ ?_;clear hK K;refine AWP.seq' ?_;refine AWP.reg' λK hK=>?_
 try simp only[aj,seval,t10]
 refine hK _ _ _ ?_;clear hK K;refine AWP.seq' ?_;refine AWP.reg' λK hK=>?_
 try simp only[aj,seval]
 refine hK _ _ _ ?_;clear hK K;refine AWP.seq' (AWP.seq' ?_);refine AWP.reg' λK hK=>?_
 try simp only[aj,seval,t2,h0,Tpl.v,B']
 repeat (refine f' (by omega) ?_)
 refine hK _ _ _ ?_;clear hK K;refine AWP.block ?_;refine AWP.weak (ap.nilvec (k:=0) 13 0 2 (by simp only[ae];rfl) (aq' _)) ?_
 refine AWP.loopS (λu:S3×Nat=>u.1) (λu=>u.2≤t.rs.length∧(1177≤u.1.nx∧u.1.tm 12=.ref 1048 0∧u.1.tm 37=.sl 2 (t.rs.map Rtr.v) false∧u.1.tm 38=.int t.rs.length∧u.1.tm 39=.int (u.2:Nat)) ∧
  (u.1.hp 1016=some (.box (.mref 1000))∧u.1.hp 352=some (.box (mpR A))∧u.1.hp 1048=some (.box (.func 21 [.ref 1016 0,.ref 352 0,.ref 1048 0]))∧u.1.hp 1000=some (knB ((t.rs.take u.2).foldl (rkO A N) ([],[])).2)) ∧
  ∃b,u.1.tm 13=.vec b∧b<u.1.nx∧u.1.hp b=some (.vec 2 (((t.rs.take u.2).foldl (rkO A N) ([],[])).1.map Rnk.v))) (λu=>t.rs.length-u.2) (i0:=(_,0)) ?_ ap.refl ?_
 ·exact⟨aq' _,⟨S' _,rfl,rfl,rfl,rfl⟩,⟨rfl,h10,rfl,rfl⟩,1176,rfl,by dsimp only;omega,rfl⟩
 ·rintro⟨⟨tm1,hp1,nx1⟩,z⟩ ⟨hz,⟨n1,q12,q37,q38,q39⟩,⟨k0,k1,k2,k3⟩,b,qb,hb,kb⟩;simp only at hz n1 q12 q37 q38 q39 k0 k1 k2 k3 qb hb kb ⊢;refine AWP.seq' ?_;refine AWP.reg' λK hK=>?_
  try simp only[aj,seval,q38,q39]
  refine hK _ _ _ ?_;clear hK K;refine AWP.seq' ?_
  refine AWP.cond (b:=decide ((z:Int)<(t.rs.length:Int))) rfl (λe=>?_) (λe=>?_)
  ·have e:z<t.rs.length:=by have:=H' e;omega
   refine AWP.skip ?_;refine AWP.seq' (AWP.block (AWP.seq' ?_));have hy:t.rs[z]?=some t.rs[z]:=u' e;generalize t.rs[z]=x at hy;have hge:(t.rs.map Rtr.v).getD z .unk=Rtr.v x:=by rw[I',G',hy];rfl
   refine AWP.reg' λK hK=>?_
   try simp only[aj,seval,q37,q39,hge,Int.toNat_natCast,B',Rtr.v]
   refine⟨⟨by omega,by omega⟩,?_⟩;refine hK _ _ _ ?_;clear hK K;refine(show AWP _ _ _ _ _ _ from ?_);have hF:(t.rs.take (z+1)).foldl (rkO A N) ([],[])=rkO A N ((t.rs.take z).foldl (rkO A N) ([],[])) x:=d6 _ _ hy;have hpl:((t.rs.take z).foldl (rkO A N) ([],[])).1.length≤1000:=by
    have:∀(l:List Rtr) (s:List Rnk×Dis),(l.foldl (rkO A N) s).1.length=s.1.length+l.length:=λl=>by
     induction l with
     | nil=>intro s;rfl
     | cons r l ih=>intro s;rw[ba',ih];simp[rkO];omega
    rw[this,ar'];simp;omega
   generalize hP:(t.rs.take z).foldl (rkO A N) ([],[])=p at *
   have hx:=tE A D hA hD N x.id p.2 (hN _);obtain⟨f1048,_⟩:=nxF (show 1048<nx1 by omega);refine AWP.dreg' λK hK=>?_
   try simp only[aj,seval,qb,q12,k2,f1048,ao']
   have hpl2:∀(v1 v2 v3:Option Blk) b,b<nx1→upd (upd (upd hp1 (nx1+48) v1) (nx1+48) v2) (nx1+48) v3 b=hp1 b:=λv1 v2 v3 b hb=>by
    simp only[ae];repeat rw[E' (by omega)]
   have hne:∀{c:Nat} {y:Blk},hp1 c=some y→(∀es,y≠.vec 2 es)→(b=c)=False∧(c=b)=False:=λh1 h2=>by
    refine⟨eq_false λe=>?_,eq_false λe=>?_⟩
    ·subst e;rw[kb]at h1;cases h1;exact h2 _ rfl
    ·subst e;rw[kb]at h1;cases h1;exact h2 _ rfl
   obtain⟨nb0,nb0'⟩:=hne k0 (λ_ h=>by cases h);obtain⟨nb1,nb1'⟩:=hne k1 (λ_ h=>by cases h);obtain⟨nb2,nb2'⟩:=hne k2 (λ_ h=>by cases h);obtain⟨nb3,nb3'⟩:=hne k3 (λ_ h=>by cases h);obtain⟨fb,fb',_,_⟩:=nxF hb
   refine yC [1016,352,1048,1000] rfl (by rfl) (ql 1016 352 1048 1000 (by decide) hx ((hpl2 _ _ _ _ (by omega)).trans k0) ((hpl2 _ _ _ _ (by omega)).trans k1) ((hpl2 _ _ _ _ (by omega)).trans k2) ((hpl2 _ _ _ _ (by omega)).trans k3)) (λc h=>?_) ?_
   ·by_cases a0:c=1016
    ·simp[a0]
    by_cases a1:c=352
    ·simp[a1]
    by_cases a2:c=1048
    ·simp[a2]
    by_cases a3:c=1000
    ·simp[a3]
    exact absurd (by simp[dC,ct,a0,a1,a2,a3]) h
   rw[cm,cm,cm,cm,jO]
   try simp only[aj,seval]
   refine fh ?_
   try simp only[aj,seval,aV,dy,nb0,nb1,nb2,nb3,nb0',nb1',nb2',nb3',fb,fb',kb,ao',B']
   obtain⟨g1,g1',_⟩:=nxF (show 1016<nx1 by omega);obtain⟨g2,g2',_⟩:=nxF (show 352<nx1 by omega);obtain⟨g3,g3',_⟩:=nxF (show 1048<nx1 by omega);obtain⟨g4,g4',_⟩:=nxF (show 1000<nx1 by omega)
   refine⟨⟨by omega,by omega⟩,?_,?_⟩
   ·simp[fC,kJ,bu,AOp.opers,aL,evO,ae,g1,g2,g3,g4,g1',g2',g3',g4']
   refine hK _ _ _ ?_;clear hK K;refine(show AWP _ _ _ _ _ _ from ?_);have hw:IntKind.i64.wrap ((z:Int)+1)=((z+1:Nat):Int):=fa (by omega) (by omega);refine AWP.reg' λK hK=>?_
   try simp only[aj,seval,q39,hw]
   refine hK _ _ _ ?_;clear hK K
   refine⟨(_,z+1),⟨by dsimp only;omega,⟨by dsimp only;omega,?_,?_,?_,rfl⟩,⟨?_,?_,?_,?_⟩,nx1+224,rfl,by dsimp only;omega,?_⟩,by dsimp only;omega,ap.refl⟩
   ·exact q12
   ·exact q37
   ·exact q38
   ·simp only[ae,g1,nb0',↓reduceIte,Nat.reduceEqDiff]
   ·simp only[ae,g2,nb1',↓reduceIte,Nat.reduceEqDiff]
   ·simp only[ae,g3,nb2',↓reduceIte,Nat.reduceEqDiff]
   ·dsimp only;rw[hF];simp only[ae,g4,nb3',↓reduceIte,Nat.reduceEqDiff];rfl
   ·dsimp only;rw[hF];simp only[ae,↓reduceIte];unfold rkO;rw[aQ'];rfl
  ·have e:z=t.rs.length:=by have:=ag' e;omega
   subst e;refine AWP.exit ?_;rw[List.take_length]at kb;refine(show AWP _ _ _ _ _ _ from ?_);refine AWP.seq' ?_;refine AWP.reg' λK hK=>?_
   try simp only[aj,seval,qb]
   refine hK _ _ _ ?_;clear hK K;refine(show AWP _ _ _ _ _ _ from ?_);refine AWP.ret (fK (ap.giveT (es:=(t.rs.foldl (rkO A N) ([],[])).1.map Rnk.v) 4 b (by simp only[ae];rfl) kb (aw (am (λ_=>rfl) _))) (jy rfl rfl trivial))
def cf6:AF:=
 ⟨55,2,[.tmp 4,.tmp 5],
 .seq (.reg [⟨(some 2),.box (.t 0),none⟩,⟨(some 3),.box (.t 1),none⟩,⟨(some 4),.move (.c (.sl 0 [] true)),none⟩,⟨(some 5),.move (.c (.val (.int .i64 0))),none⟩])
 (.seq (.reg [⟨(some 17),.load true 2 (.t 2),none⟩,⟨(some 18),.load true 4 (.t 3),none⟩,⟨(some 19),.call (.c (.func 18 [])) [(.t 17),(.t 18)],none⟩,⟨(some 16),.move (.t 19),none⟩,⟨(some 20),.ext 0 (.t 16),none⟩,⟨(some 21),.ext 1 (.t 16),none⟩,⟨(some 22),.ext 2 (.t 16),none⟩,⟨(some 23),.ext 3 (.t 16),none⟩,⟨(some 7),.box (.c (.agg [(.sl 0 [] true),(.sl 0 [] true)])),none⟩,⟨(some 6),.move (.t 20),none⟩,⟨none,.store 2 (.t 7) (.t 21),none⟩,⟨(some 8),.move (.t 22),none⟩,⟨(some 9),.move (.t 23),none⟩])
 (.seq (.seq (.reg [⟨(some 24),.move (.t 9),none⟩,⟨(some 25),.bin .neq (.t 24) (.c (.val (.int .i64 0))),none⟩])
 (.cond (.t 25) (.seq (.reg [⟨(some 26),.move (.t 9),none⟩,⟨(some 4),.move (.c (.sl 0 [] true)),none⟩,⟨(some 5),.move (.t 26),none⟩])
 (.ret)) (.skip)))
 (.seq (.reg [⟨(some 27),.load true 2 (.t 7),none⟩,⟨(some 28),.move (.t 8),none⟩,⟨(some 29),.call (.c (.func 19 [])) [(.t 27),(.t 28)],none⟩,⟨(some 10),.box (.c (.val (.map none))),none⟩,⟨none,.store 1 (.t 10) (.t 29),none⟩])
 (.seq (.seq (.reg [⟨(some 30),.move (.t 6),none⟩,⟨(some 31),.bin .eql (.t 30) (.c (.val (.int .i64 1))),none⟩])
 (.cond (.t 31) (.reg [⟨(some 32),.load false 1 (.t 10),none⟩,⟨(some 33),.call (.c (.func 20 [])) [(.t 32)],none⟩,⟨none,.store 1 (.t 10) (.t 33),none⟩]) (.skip)))
 (.seq (.reg [⟨(some 34),.mkm none,none⟩,⟨(some 11),.box (.c (.val (.map none))),none⟩,⟨none,.store 1 (.t 11) (.t 34),none⟩])
 (.seq (.reg [⟨(some 12),.box (.c (.val (.nilFunc))),none⟩])
 (.seq (.reg [⟨(some 35),.mkf 21 [(.t 11),(.t 10),(.t 12)],none⟩,⟨none,.store 1 (.t 12) (.t 35),none⟩])
 (.seq (.reg [⟨(some 13),.move (.c (.sl 0 [] true)),none⟩])
 (.seq (.seq (.reg [⟨(some 36),.faddr 0 (.t 2),none⟩,⟨(some 37),.load false 1 (.t 36),none⟩,⟨(some 38),.len (.t 37),none⟩,⟨(some 39),.move (.c (.val (.int .i64 0))),none⟩])
 (.block 0 (.loop (.seq (.reg [⟨(some 40),.bin .lss (.t 39) (.t 38),none⟩])
 (.seq (.cond (.t 40) (.skip) (.exit 0))
 (.seq (.block 1 (.seq (.reg [⟨(some 41),.iaddr 2 (.t 37) (.t 39),none⟩,⟨(some 42),.load true 2 (.t 41),none⟩,⟨(some 15),.box (.c (.agg [(.val (.int .i64 0)),(.val (.bool false))])),none⟩,⟨none,.store 2 (.t 15) (.t 42),none⟩])
 (.dreg [⟨(some 43),.move (.t 13),none⟩,⟨(some 44),.faddr 0 (.t 15),none⟩,⟨(some 45),.load false 1 (.t 44),none⟩,⟨(some 46),.load false 1 (.t 12),none⟩,⟨(some 47),.faddr 0 (.t 15),none⟩,⟨(some 48),.load false 1 (.t 47),none⟩,⟨(some 49),.call (.t 46) [(.t 48)],none⟩,⟨(some 50),.build [(.val (.int .i64 0)),(.val (.int .i64 0))] [(0,1,(.t 45)),(1,1,(.t 49))],none⟩,⟨(some 51),.lit 2 1 (.agg [(.val (.int .i64 0)),(.val (.int .i64 0))]) [(0,(.t 50))],none⟩,⟨(some 52),.append 2 16 (.t 43) (.t 51),none⟩,⟨(some 13),.move (.t 52),none⟩] [(2,3),(2,5),(3,5),(2,6)])))
 (.reg [⟨(some 53),.bin .add (.t 39) (.c (.val (.int .i64 1))),none⟩,⟨(some 39),.move (.t 53),none⟩])))))))
 (.seq (.reg [⟨(some 54),.move (.t 13),none⟩,⟨(some 4),.move (.t 54),none⟩,⟨(some 5),.move (.c (.val (.int .i64 0))),none⟩])
 (.ret)))))))))))⟩
theorem EQ:dL Try.prog Try.f6=some cf6:=by kernel_rfl
theorem ap.giveBox{k n:Nat}{tm:Nat→AV}{hp:Hp}{nx:Nat}{kq:Option Nat}{ks:List MK}{vs:List AV}(b0 b:Nat)(h0:hp b0=some (.box (.mref b)))(hb:hp b=some (.map kq ks vs))(hx:aH vs) :
  ap k n ⟨tm,hp,nx⟩ ⟨tm,upd (upd hp b none) b0 (some (.box (.mp kq ks vs))),nx⟩:=by
 have hne:b0≠b:=λe=>by subst e;rw[h0]at hb;cases hb
 refine ap.give b rfl (λu=>.inr aZ.refl) (λb' x hx'=>?_) (by show hp b≠none;rw[hb];simp);have hx':upd (upd hp b none) b0 (some (.box (.mp kq ks vs))) b'=some x:=hx'
 by_cases e:b'=b0
 ·subst e;rw[ah]at hx';cases hx';exact⟨hne,.inr ⟨_,_,h0,rfl,rfl,aZ.map hb hx⟩⟩
 ·rw[ai _ _ e]at hx'
  by_cases e2:b'=b
  ·subst e2;rw[ah]at hx';cases hx'
  ·rw[ai _ _ e2]at hx';exact⟨e2,.inl hx'⟩
theorem ap.up{k n:Nat}{tm:Nat→AV}{hp:Hp}{nx nx':Nat}(h:nx≤nx'):ap k n ⟨tm,hp,nx⟩ ⟨tm,hp,nx'⟩:=by
 rintro P c a w ⟨h0,A,μ,H⟩;exact⟨h0,A,μ,H.free λb hb=>aW' h hb⟩
theorem wc{P:Program}{fid:FuncId}{n f:Nat}{args:List AV}{L:Rws}{hp:Hp}(hs:aI P fid args [] (.mref 0) [some (gB L)])(hf:gD P fid)(h1:aH args):aS P n fid args f hp [] (.mref f) (dC [(f,some (gB L))]):=by
 have key:=aS.hand (n:=n) (f:=f) (hp:=hp) hf hs [] rfl (by simp) (aG h1) (λi c y e1 e2=>by simp at e1) (by simp) (by simp) (show(0:Nat)<1 by omega) (λy hy=>by simp at hy;subst hy;exact aG (dt _));have e0:aO [] f 0=f:=rfl;have e1:(gB L).ren (aO [] f)=gB L:=by unfold gB;rw[Blk.ren,aK _ (dt _)]
 have e3:bV [] f [some (gB L)]=dC [(f,some (gB L))]:=by simp[bV,List.zipIdx,e0,e1]
 rw[e3]at key;simpa only[aK _ h1,AV.ren,e0]using key
def TOk(L:Rws)(is:List Nat):Prop:=is.Nodup∧(∀i∈is,i<L.length)∧∀i,i<L.length→i∈is
theorem ig.mono{P:Program}{n f:Nat}{fid:FuncId}{args:List AV}{hp:Hp}{foot:List Nat}{Q Q':AV→Eff→Prop}(h:ig P n fid args f hp foot Q)(hq:∀v e,Q v e→Q' v e):ig P n fid args f hp foot Q':=
 ⟨h.1,λc A μ fr tm' hp' a w cargs h1 h2 h3 h4=>(h.2 c A μ fr tm' hp' a w cargs h1 h2 h3 h4).mono λe' w'=>by rintro⟨v,e,q,r⟩;exact⟨v,e,hq v e q,r⟩⟩
theorem o5{L:Rws}(hL:qp L){n f b:Nat}{hp:Hp}(hb:hp b=some (gB L)) :
  ig Try.prog n 20 [.mref b] f hp [b] (λv e=>∃is,TOk L is∧v=.mref f∧e=dC [(b,none),(f,some (gB (fv L is)))]):=by
 have e0:aO [b] f 0=b:=rfl;have e1:aO [b] f 1=f:=rfl;have rn:∀L,(gB L).ren (aO [b] f)=gB L:=λL=>by unfold gB;rw[Blk.ren,aK _ (dt _)]
 have key:=ig.hand (n:=n) (f:=f) (hp:=hp) ⟨_,Try.func20,by kernel_rfl,by kernel_rfl⟩ (w6 L hL) [b] rfl (by simp) ⟨show(0:Nat)<1 by omega,trivial⟩ (λi c y h1 h2=>by
  match i with
  | 0=>cases h1;cases h2;exact⟨aG (dt _),hb.trans (congrArg some (rn L).symm)⟩
  | i+1=>simp at h1) (λr h'=>by
   rintro⟨is,_,_,_,rfl,rfl⟩;exact⟨by simp,by simp,show(1:Nat)<2 by omega,λx hx=>by simp at hx;subst hx;exact aG (dt _)⟩)
 refine ig.mono (by simpa only[cZ,AV.ren,e0]using key) ?_;rintro v e ⟨r,h',⟨is,i1,i2,i3,rfl,rfl⟩,rfl,rfl⟩;refine⟨is,⟨i1,i2,i3⟩,by rw[AV.ren,e1],?_⟩;simp[bV,List.zipIdx,e0,e1,rn]
def ng(t:Tpl)(A:Rws)(R:List Rnk):Prop:=∃(D:Int→Nat) (N:Nat),(∀p∈A,p.2.length≤1000000)∧(∀r x,x∈av A r []→D x<D r)∧(∀r,D r<N)∧R=(t.rs.foldl (rkO A N) ([],[])).1
theorem AT(t:Tpl)(c:Chg)(R:List Rnk)(hb:(aD t c).2.2.2=0→t.rs.length≤1000∧(aD t c).2.2.1.length≤1000∧qp (ef (aD t c).2.1 (aD t c).2.2.1))
    (h2:(aD t c).2.2.2=0→¬(aD t c).1=1→ng t (ef (aD t c).2.1 (aD t c).2.2.1) R)
    (h1:(aD t c).2.2.2=0→(aD t c).1=1→∀is,TOk (ef (aD t c).2.1 (aD t c).2.2.1) is→ng t (fv (ef (aD t c).2.1 (aD t c).2.2.1) is) R)
    (hR:¬(aD t c).2.2.2=0→R=[]):aI Try.prog 6 [Tpl.v t,Chg.v c] [] (.tup [.sl 2 (R.map Rnk.v) false,.int (aD t c).2.2.2]) []:=by
  refine aI.walk Try.func6 EQ (by simp[cf6]) ?_;unfold cf6;simp only[dI,ec,ab',ak'];have hred:bv Try.prog (n0 t c).f [Tpl.v t,Chg.v c] (.tup [.int (aD t c).1,Tpl.v (aD t c).2.1,.sl 2 ((aD t c).2.2.1.map Hop.v) false,.int (aD t c).2.2.2]):=(n0 t c).ok;generalize aD t c=q at *
  obtain⟨kd,g,ds,er⟩:=q;simp only at hb h2 h1 hR hred ⊢;refine AWP.seq' ?_;refine AWP.reg' λK hK=>?_
  try simp only[aj,seval]
  refine⟨rfl,rfl,?_⟩;refine hK _ _ _ ?_;clear hK K;refine AWP.seq' ?_;refine AWP.reg' λK hK=>?_
  try simp only[aj,seval,Tpl.v,Chg.v]
  refine cC hred (n0 t c).fn rfl rfl ⟨⟨trivial,trivial,trivial⟩,⟨trivial,trivial,trivial,trivial,trivial⟩,trivial⟩ ?_
  try simp only[aj,seval,Tpl.v]
  refine hK _ _ _ ?_;clear hK K;refine AWP.seq' (AWP.seq' ?_);refine AWP.reg' λK hK=>?_
  try simp only[aj,seval]
  refine hK _ _ _ ?_;clear hK K;by_cases he:er=0
  case neg =>
    refine AWP.cond (b := true) (by have : (er != 0) = true := by simpa using he
                                    rw[←this];rfl) (λ_=>?_) (λh=>by cases h)
    refine AWP.seq' ?_;refine AWP.reg' λK hK=>?_
    try simp only[aj,seval]
    refine hK _ _ _ ?_;clear hK K;rw[hR he];refine AWP.ret (fK (ap.subT 4 (y:=.sl 2 [] false) Sub.nil) (jy rfl rfl trivial))
  subst he;obtain⟨b1,b2,b3⟩:=hb rfl;refine AWP.cond (b:=false) rfl (λh=>by cases h) (λ_=>AWP.skip ?_);refine(show AWP _ _ _ _ _ _ from ?_);refine AWP.seq' ?_;refine AWP.reg' λK hK=>?_
  try simp only[aj,seval,Tpl.v]
  refine fM rfl (by rfl) (wc (z6 g ds b2) ⟨_,Try.func19,by kernel_rfl,by kernel_rfl⟩ ⟨⟨trivial,trivial,trivial⟩,trivial,trivial⟩) ?_;rw[it]
  try simp only[aj,seval]
  refine hK _ _ _ ?_;clear hK K;refine AWP.seq' (AWP.seq' ?_);refine AWP.reg' λK hK=>?_
  try simp only[aj,seval]
  refine hK _ _ _ ?_;clear hK K
  have fin:∀(A:Rws) (tm':Nat→AV) (hp':Hp) (nx' b:Nat),nx'≤1000→ng t A R→tm' 2=.ref 0 0→tm' 10=.ref 352 0→hp' 0=some (.box (Tpl.v t))→hp' 352=some (.box (.mref b))→hp' b=some (gB A) →
      AWP Try.prog 0 55 D5 (Am.fin 0 55 [.tmp 4,.tmp 5] (.tup [.sl 2 (R.map Rnk.v) false,.int 0]) []) ⟨tm',hp',nx'⟩:=by
    rintro A tm' hp' nx' b hn ⟨D,N,m1,m2,m3,rfl⟩ t2 t10 k0 k10 kb;refine AWP.weak ((ap.giveBox 352 b k10 kb (dt _)).trans (ap.up hn)) ?_
    refine AG t A D N m1 m2 m3 b1 _ _ t2 ?_ t10 ?_
    · have e1:(0:Nat)≠b:=λe=>by subst e;rw[k0]at kb;cases kb
      simp only[ae,E' e1];exact k0
    · simp only[ae,↓reduceIte]
  by_cases hk:kd=1
  · refine AWP.cond (b:=true) (by subst hk;rfl) (λ_=>?_) (λh=>by cases h)
    refine AWP.regE (os1:=[_]) (os2:=[_]) ?_
    try simp only[aj,seval]
    refine⟨_,[],[336],_,rfl,o5 b3 rfl,?_⟩;rintro v e ⟨is,hi,rfl,rfl⟩;rw[cm,it]
    try simp only[aj,seval]
    refine(show AWP _ _ _ _ _ _ from ?_);exact fin (fv (ef g ds) is) _ _ _ 432 (by omega) (h1 rfl hk is hi) rfl rfl rfl rfl rfl
  · refine AWP.cond (b := false) (by have : (kd == 1) = false := by simpa using hk
                                     rw[←this];rfl) (λh=>by cases h) (λ_=>AWP.skip ?_)
    exact fin _ _ _ _ 336 (by omega) (h2 rfl hk) rfl rfl rfl rfl rfl
theorem ow{t:Tpl}(hc:aF t=0){g u n:Int}{k:Nat}(hg:aJ t g=true)(p:Pth t g k u n):∃m,m≤n∧aP t u g=(m,true):=by
 have hk:g∈aq (inG t):=by unfold inG;rw[aY,bz];exact hg
 have hF:=dJ (kw hc) hk;obtain⟨m,hm,hx⟩:=hF.low ((jr hc).mpr ⟨k,p⟩);refine⟨m,hm,?_⟩;rw[oz hc,F' (bK.mpr ⟨m,hx⟩),dU hF.nd hx]
theorem bI{t:Tpl}{u g m:Int}(e:aP t u g=(m,true)):(∃k,Pth t g k u m)∧(∀k n,Pth t g k u n→m≤n)∧0≤m∧m≤24000:=by
 have e2:(aP t u g).2=true:=by rw[e]
 obtain⟨hc,hu,hg⟩:=gY e2;rw[oz hc]at e
 by_cases h:aR (cn (inG t) g) u=true
 ·rw[F' h]at e;have hm:=bD (z:=0) h;have e3:av (cn (inG t) g) u 0=m:=(Prod.mk.inj e).1;rw[e3]at hm;obtain⟨h1,h2⟩:=(lL hc hg).mp hm;obtain⟨h3,h4⟩:=uo hc hg hm;exact⟨h1,h2,h3,h4⟩
 ·rw[E' h]at e;cases e
theorem AW{t:Tpl}{v w:Int}{j:Nat}{n:Int}(q:Pth t w j v n):∀{k:Nat} {u m:Int},Pth t v k u m→Pth t w (j+k) u (n+m):=by
 intro k u m p
 induction p with
 | nil=>simpa using q
 | cons e p ih =>
  have:=Pth.cons e ih
  rwa [Int.add_assoc]at this
theorem uy{t:Tpl}{u v w a b:Int}(h1:aP t u v=(a,true))(h2:aP t v w=(b,true)):∃m,m≤a+b∧aP t u w=(m,true):=by
 obtain⟨⟨k,p⟩,_⟩:=bI h1;obtain⟨⟨j,q⟩,_⟩:=bI h2;obtain⟨hc,_,hw⟩:=gY (t:=t) (x:=v) (y:=w) (by rw[h2]);obtain⟨m,hm,e⟩:=ow hc hw (AW q p);exact⟨m,by omega,e⟩
theorem zc{t:Tpl}(hc:aF t=0){u v c:Int}(e:dS t u v c):∃m,m≤c∧aP t u v=(m,true):=by
 obtain⟨m,hm,q⟩:=ow hc (e.has hc).2 (Pth.cons e .nil);exact⟨m,by omega,q⟩
theorem qf{t:Tpl}{x:Int}(h:(aP t x x).2=true):(aP t x x).1=0:=by
 have e:aP t x x=((aP t x x).1,true):=Prod.ext rfl h;obtain⟨⟨k,p⟩,h2,h3,_⟩:=bI e;have:=h2 0 0 .nil;omega
theorem bN{t:Tpl}{x y:Int}(h:(aP t x y).2=true):aP t x y=((aP t x y).1,true):=Prod.ext rfl h
structure BhH (g:Tpl) (h:Hop) (x y:Int):Prop where
  ne:x≠h.a
  xa:(aP g x h.a).2=true
  ya:(aP g y h.a).2=true
  xb:(aP g x h.b).2=true
  yb:(aP g y h.b).2=true
  dec:(aP g y h.a).1<(aP g x h.a).1
  lx:(aP g x h.a).1<(aP g x h.b).1
  ly:(aP g y h.a).1<(aP g y h.b).1
theorem iU{t:Tpl}{x d:Int}{h:Hop}{c:Int}(hc:1≤c∧c≤1000):iy (cz t) x d h c=true↔(aP t x h.a).2=true∧(aP t h.b d).2=true∧(aP t x d).2=true∧(aP t x h.a).1+c+(aP t h.b d).1=(aP t x d).1:=by
 unfold iy;obtain⟨ha,hb⟩:=h;simp only[oq,BC,V',aY']
 constructor
 ·rintro⟨h1,h2,h3⟩;obtain⟨_,_,p1,p2⟩:=bI (bN h1);obtain⟨_,_,q1,q2⟩:=bI (bN h2);rw[dc (n:=(aP t x ha).1+c) (by omega),dc (by omega)]at h3;refine⟨h1,h2,?_,h3⟩;cases e:(aP t x d).2 with
  | true=>rfl
  | false=>have:=u9 e;omega
 ·rintro⟨h1,h2,h3,h4⟩;obtain⟨_,_,p1,p2⟩:=bI (bN h1);obtain⟨_,_,q1,q2⟩:=bI (bN h2);refine⟨h1,h2,?_⟩;rw[dc (n:=(aP t x ha).1+c) (by omega),dc (by omega),h4]
theorem Fe{t:Tpl}{h:Hop}{c d x y w:Int}{M:Rws}(hc:aF t=0)(he:dS t h.a h.b c)(hw:1≤w∧w≤1000)(hq:beQ t h c d x y w M=true):BhH t h x y:=by
 have hcc:=he.cost hc;unfold beQ at hq;simp only[V',bne_iff_ne,ne_eq]at hq;obtain⟨q1,q2,q3,q4,_⟩:=hq;rw[iU hw]at q2;rw[iU hcc]at q3 q4;obtain⟨a1,a2,a3,a4⟩:=q2;obtain⟨b1,b2,b3,b4⟩:=q3;obtain⟨c1,c2,c3,c4⟩:=q4;simp only at a1 a2 a4;have a0:=qf a1;have key:∀z,(aP t z h.a).2=true→(aP t z d).2=true→(aP t z h.a).1+c+(aP t h.b d).1=(aP t z d).1→(aP t z h.b).2=true∧(aP t z h.a).1<(aP t z h.b).1:=λz g1 g2 g3=>by
  obtain⟨m,hm,e⟩:=zc hc he;obtain⟨n,hn,e'⟩:=uy (bN g1) e;have e2:(aP t z h.b).2=true:=by rw[e']
  obtain⟨k,hk,e3⟩:=uy (bN e2) (bN b2);have:(aP t z d).1=k:=by rw[e3]
  exact⟨e2,by omega⟩
 obtain⟨x1,x2⟩:=key x b1 b3 b4;obtain⟨y1,y2⟩:=key y c1 c3 c4;exact⟨q1,b1,c1,x1,y1,by omega,x2,y2⟩
theorem tF{M:Rws}(hn:(aq M).Nodup)(k v:Int):(aq (pu M k v)).Nodup:=eR hn
theorem qZ{M:Rws}(hn:(aq M).Nodup)(k v x:Int):av (pu M k v) x []=if x=k then av M k []++[v]else av M x []:=by
 have hn':=tF hn k v
 by_cases e:x=k
 ·subst e;rw[F' rfl];exact dU hn' ((bQ hn).mpr (.inl rfl))
 ·rw[E' e];cases h:aR M x with
  | true=>exact dU hn' ((bQ hn).mpr (.inr ⟨bD h,e⟩))
  | false =>
   rw[cA h];refine cA ?_;unfold pu;rw[xN hn,h,decide_eq_false e];rfl
structure BeI (t:Tpl) (ds:List Hop) (M:Rws):Prop where
  nd:(aq M).Nodup
  bh:∀x y,y∈av M x []→∃h∈ds,BhH t h x y
  ri:ft t M
theorem BeI.pu{t:Tpl}{ds:List Hop}{M:Rws}(h:BeI t ds M){h0:Hop}{x y:Int}(hd:h0∈ds)(hb:BhH t h0 x y)(hx:aJ t x=true)(hy:aJ t y=true)(hn:y ∉ av M x []):BeI t ds (pu M x y):=by
 refine⟨tF h.nd x y,λu v hv=>?_,h.ri.pu hx hy hn⟩;rw[qZ h.nd]at hv
 by_cases e:u=x
 ·subst e;rw[F' rfl]at hv
  rcases ac'.mp hv with hv|hv
  ·exact h.bh _ _ hv
  ·rw[P'.mp hv];exact⟨h0,hd,hb⟩
 ·rw[E' e]at hv;exact h.bh _ _ hv
theorem BeI.step{t:Tpl}(hc:aF t=0){ds:List Hop}{M:Rws}(h:BeI t ds M){h0:Hop}{c d:Int}(hd:h0∈ds)(he:dS t h0.a h0.b c){s:Int×Int×Int}(hx:aJ t s.1=true)(hy:aJ t s.2.1=true)(hw:1≤s.2.2∧s.2.2≤1000):BeI t ds (beI t h0 c d M s):=by
 unfold Go.Proofs.Ytdoacjojljgdcaa.beI
 split
 ·rename_i e;have e':=e;unfold beQ at e';simp only[V',br',decide_eq_false_iff_not]at e';exact h.pu hd (Fe hc he hw e) hx hy e'.2.2.2.2
 ·exact h
theorem eH{α β:Type}(I:β→Prop)(f:β→α→β):∀(l:List α) (b:β),I b→(∀b x,x∈l→I b→I (f b x))→I (l.foldl f b)
 | [],b,h,_=>h
 | x::l,b,h,hf=>eH I f l (f b x) (hf b x (by simp) h) λb y hy hb=>hf b y (by simp[hy]) hb
theorem DW{t:Tpl}(hc:aF t=0){l:Lnk}(hl:l∈t.ls):∀z∈lst l,aJ t z.1=true∧aJ t z.2.1=true∧1≤z.2.2∧z.2.2≤1000:=λz hz=>by
 have hO:=aA hc;obtain⟨ha,hb⟩:=hO.has l hl;obtain⟨c1,c2,_⟩:=hO.lr l hl;unfold gb at c1 c2;simp only[V',as']at c1 c2;unfold lst at hz;simp only[aa',au',or_false]at hz
 rcases hz with rfl|rfl
 ·exact⟨ha,hb,c1⟩
 ·exact⟨hb,ha,c2⟩
theorem kU(t:Tpl)(ds:List Hop):BeI t ds (ef t ds):=by
 unfold ef;refine eH (BeI t ds) (be4 t) ds [] ⟨bc',λx y h=>by rw[cA (by unfold aR aq;simp)]at h;simp at h,⟨λp hp=>by simp at hp,λp hp=>by simp at hp,λp hp=>by simp at hp⟩⟩ λM h hh hM=>?_;unfold be4
 split
 ·rename_i e;have hc:=mg e;have he:dS t h.a h.b (bo t h.a h.b).1:=by
   rw[fB hc];have:bo t h.a h.b=dz t h.a h.b:=by unfold bo;rw[E' (by simp[hc])]
   rw[←this];exact Prod.ext rfl e
  refine eH (BeI t ds) _ t.rs M hM λM d _ hM=>?_;unfold be3;refine eH (BeI t ds) _ t.ls M hM λM l hl hM=>?_;unfold be2;refine eH (BeI t ds) _ (lst l) M hM λM z hz hM=>?_;obtain⟨a1,a2,a3⟩:=DW hc hl z hz;exact hM.step hc hh he a1 a2 a3
 ·exact hM
theorem Co{t:Tpl}{ds:List Hop}(hc:¬aF t=0):ef t ds=[]:=by
 unfold ef;refine eH (λM=>M=[]) (be4 t) ds [] rfl λM h _ hM=>?_;unfold be4;rw[E' (λe=>hc (mg e))];exact hM
theorem j8(t:Tpl)(ds:List Hop):qp (ef t ds):=by
 by_cases hc:aF t=0
 ·have h:=kU t ds;have hk:∀x,aJ t x=true→Am.inK .i64 x:=λx hx=>by
   obtain⟨r,hr,rfl⟩:=cV.mp hx;have:=(aA hc).rg r hr;rw[ye];omega
  refine⟨?_,λp hp=>hk _ (h.ri.ky p hp),λp hp=>by have:=h.ri.len hc p hp;omega,λp hp y hy=>hk _ (h.ri.el p hp y hy)⟩;have:=List.Nodup.length_le_of_subset h.nd (show aq (ef t ds) ⊆ t.rs.map (·.id)from λx hx=>by
   obtain⟨v,hv⟩:=aN.mp hx;exact pE.mp (h.ri.ky _ hv))
  rw[B',cu]at this;have:=(cX hc).1;omega
 ·rw[Co hc];exact⟨by simp,λp hp=>by simp at hp,λp hp=>by simp at hp,λp hp=>by simp at hp⟩
def dsN(t:Tpl)(x a:Int):Nat:=if(aP t x a).2=true then(aP t x a).1.toNat else 100000
def msr(t:Tpl)(c:Chg)(x:Int):Nat:=min (dsN t x c.a) (dsN t x c.b)
theorem E3(t:Tpl)(x a:Int):dsN t x a≤100000:=by
 unfold dsN
 split
 ·rename_i h;have:=(bI (bN h)).2.2;omega
 ·omega
theorem xJ(t:Tpl)(c:Chg)(x:Int):msr t c x≤100000:=by
 unfold msr;have:=E3 t x c.a;omega
theorem tT{t:Tpl}{c:Chg}{h:Hop}(hh:h∈eC c){x y:Int}(hb:BhH t h x y):msr t c y<msr t c x:=by
 obtain⟨_,xa,ya,xb,yb,d,lx,ly⟩:=hb;have p1:=(bI (bN xa)).2.2;have p2:=(bI (bN ya)).2.2;have p3:=(bI (bN xb)).2.2;have p4:=(bI (bN yb)).2.2;have e1:dsN t x h.a=(aP t x h.a).1.toNat:=F' xa;have e2:dsN t y h.a=(aP t y h.a).1.toNat:=F' ya;have e3:dsN t x h.b=(aP t x h.b).1.toNat:=F' xb;have e4:dsN t y h.b=(aP t y h.b).1.toNat:=F' yb;unfold eC at hh;simp only[aa',au',or_false]at hh;unfold msr
 rcases hh with rfl|rfl
 ·simp only at e1 e2 e3 e4 d lx ly p1 p2 p3 p4;omega
 ·simp only at e1 e2 e3 e4 d lx ly p1 p2 p3 p4;omega
def mxL(g:Int→Int)(l:List Int)(n:Int):Int:=l.foldl (λn x=>cP n (g x)) n
theorem Bp(a b:Int):a≤cP a b∧b≤cP a b∧(cP a b=a∨cP a b=b):=by
 unfold cP;split<;>omega
theorem jJ(g:Int→Int):∀(l:List Int) (n:Int),n≤mxL g l n∧(∀x∈l,g x≤mxL g l n)∧(mxL g l n=n∨∃x∈l,mxL g l n=g x)
 | [],n=>⟨bh' _,λx hx=>by simp at hx,.inl rfl⟩
 | x::l,n=>by
  obtain⟨h1,h2,h3⟩:=jJ g l (cP n (g x));obtain⟨m1,m2,m3⟩:=Bp n (g x);have e:mxL g (x::l) n=mxL g l (cP n (g x)):=rfl;rw[e]
  refine⟨by omega,λy hy=>?_,?_⟩
  ·rcases aa'.mp hy with rfl|hy
   ·omega
   ·exact h2 y hy
  ·rcases h3 with h3|⟨y,hy,h3⟩
   ·rcases m3 with m3|m3
    ·exact .inl (by omega)
    ·exact .inr ⟨x,by simp,by omega⟩
   ·exact .inr ⟨y,by simp[hy],h3⟩
theorem nK{g g':Int→Int}{l l':List Int}(n:Int)(hm:∀x,x∈l↔x∈l')(hg:∀x∈l,g x=g' x):mxL g l n=mxL g' l' n:=by
 obtain⟨a1,a2,a3⟩:=jJ g l n;obtain⟨b1,b2,b3⟩:=jJ g' l' n
 refine Int.le_antisymm ?_ ?_
 ·rcases a3 with a3|⟨x,hx,a3⟩
  ·omega
  ·have:=b2 x ((hm x).mp hx);rw[←hg x hx]at this;omega
 ·rcases b3 with b3|⟨x,hx,b3⟩
  ·omega
  ·have h':=(hm x).mpr hx;have:=a2 x h';rw[hg x h']at this;omega
def rkP(A:Rws):Nat→Int→Int
 | 0,_=>0
 | f+1,r=>mxL (λx=>W (1+rkP A f x)) (av A r []) 0
theorem lj{A:Rws}{D:Int→Nat}(hD:∀r x,x∈av A r []→D x<D r):∀(f g:Nat) (r:Int),D r<f→D r<g→rkP A f r=rkP A g r
 | 0,_,r,h,_=>absurd h (by omega)
 | _,0,r,_,h=>absurd h (by omega)
 | f+1,g+1,r,h1,h2=>by
  unfold rkP;exact nK 0 (λ_=>Iff.rfl) λx hx=>by have:=hD r x hx;rw[lj hD f g x (by omega) (by omega)]
theorem tB{A A':Rws}(h:∀r x,x∈av A r []↔x∈av A' r []):∀(f:Nat) (r:Int),rkP A f r=rkP A' f r
 | 0,_=>rfl
 | f+1,r=>by
  unfold rkP;exact nK 0 (h r) λx _=>by rw[tB h f x]
structure Ac (A:Rws) (N:Nat) (kn:Dis):Prop where
  nd:(aq kn).Nodup
  val:∀p∈kn,p.2=rkP A N p.1
theorem wU{A:Rws}{D:Int→Nat}(hD:∀r x,x∈av A r []→D x<D r)(N:Nat)(hN:∀r,D r<N):∀(f:Nat) (r:Int) (kn:Dis),D r<f→Ac A N kn→(rkF A f r kn).1=rkP A N r∧Ac A N (rkF A f r kn).2
 | 0,r,kn,h,_=>absurd h (by omega)
 | f+1,r,kn,h,hk=>by
  have ih:=wU hD N hN f;unfold rkF
  split
  ·rename_i e;exact⟨hk.val _ (bD e),hk⟩
  ·have key:∀(l:List Int) (n:Int) (kn:Dis),(∀x∈l,x∈av A r [])→Ac A N kn→(l.foldl (rkS (rkF A f)) (n,kn)).1=mxL (λx=>W (1+rkP A N x)) l n∧Ac A N (l.foldl (rkS (rkF A f)) (n,kn)).2:=λl=>by
    induction l with
    | nil=>intro n kn _ hk;exact⟨rfl,hk⟩
    | cons x l ihl =>
     intro n kn hl hk;have hx:=hD r x (hl x (by simp));obtain⟨g1,g2⟩:=ih x kn (by omega) hk;have e:rkS (rkF A f) (n,kn) x=(cP n (W (1+rkP A N x)),(rkF A f x kn).2):=by unfold rkS;simp only;rw[g1]
     rw[ba',e];exact ihl _ _ (λy hy=>hl y (by simp[hy])) g2
   obtain⟨k1,k2⟩:=key (av A r []) 0 kn (λx hx=>hx) hk;have e2:rkP A N r=mxL (λx=>W (1+rkP A N x)) (av A r []) 0:=by
    have hr:=hN r
    match N,hr with
    | N+1,hr =>
     rw[rkP];exact nK 0 (λ_=>Iff.rfl) λx hx=>by have:=hD r x hx;rw[lj hD N (N+1) x (by omega) (by omega)]
   refine⟨by rw[e2];exact k1,eR k2.nd,λp hp=>?_⟩
   rcases(bQ k2.nd).mp hp with rfl|⟨hp,_⟩
   ·simp only;rw[e2];exact k1
   ·exact k2.val p hp
theorem wT{A:Rws}{D:Int→Nat}(hD:∀r x,x∈av A r []→D x<D r)(N:Nat)(hN:∀r,D r<N):∀(l:List Rtr) (s:List Rnk×Dis),Ac A N s.2→(l.foldl (rkO A N) s).1=s.1++l.map λr=>⟨r.id,rkP A N r.id⟩
 | [],s,_=>by simp
 | r::l,s,h=>by
  obtain⟨g1,g2⟩:=wU hD N hN N r.id s.2 (hN _) h;rw[ba',wT hD N hN l (rkO A N s r) g2];unfold rkO;simp only[aB',aS',List.cons_append,bu',g1]
theorem xI{t:Tpl}{A:Rws}{D:Int→Nat}{N:Nat}(hA:∀p∈A,p.2.length≤1000000)(hD:∀r x,x∈av A r []→D x<D r)(hN:∀r,D r<N):ng t A (t.rs.map λr=>⟨r.id,rkP A N r.id⟩):=
 ⟨D,N,hA,hD,hN,by rw[wT hD N hN t.rs ([],[]) ⟨bc',λp hp=>by simp at hp⟩];rfl⟩
theorem tg(x:Int):∀(l:List Int) (M:Rws) (m:Nat),(aq M).Nodup→(∀p∈M,p.2.length≤m)→(aq (ix x M l)).Nodup∧(∀p∈ix x M l,p.2.length≤m+l.length)∧∀y z,z∈av (ix x M l) y []↔z∈av M y []∨z=x∧y∈l
 | [],M,m,hn,hm=>⟨hn,λp hp=>by have:=hm p hp;simpa using this,λy z=>by simp[ix]⟩
 | v::l,M,m,hn,hm=>by
  obtain⟨g1,g2,g3⟩:=tg x l (pu M v x) (m+1) (tF hn v x) (rb hm v x);have e:ix x M (v::l)=ix x (pu M v x) l:=rfl;rw[e];refine⟨g1,λp hp=>by have:=g2 p hp;rw[ab'];omega,λy z=>?_⟩;rw[g3,qZ hn]
  by_cases e:y=v
  ·subst e;rw[F' rfl];simp[or_assoc];constructor
   ·rintro(h|h|h)
    ·exact .inl h
    ·exact .inr h
    ·exact .inr h.1
   ·rintro(h|h)
    ·exact .inl h
    ·exact .inr (.inl h)
  ·rw[E' e];simp[e]
theorem tf{L:Rws}(hr:∀p∈L,p.2.length≤100):∀(is:List Nat) (M:Rws) (m:Nat),(aq M).Nodup→(∀p∈M,p.2.length≤m)→(∀i∈is,i<L.length) →
  (aq (is.foldl (λM i=>ix (L.getD i (0,[])).1 M (L.getD i (0,[])).2) M)).Nodup∧(∀p∈is.foldl (λM i=>ix (L.getD i (0,[])).1 M (L.getD i (0,[])).2) M,p.2.length≤m+100 * is.length) ∧
  ∀y z,z∈av (is.foldl (λM i=>ix (L.getD i (0,[])).1 M (L.getD i (0,[])).2) M) y []↔z∈av M y []∨∃i∈is,∃l,L[i]?=some (z,l)∧y∈l
 | [],M,m,hn,hm,_=>⟨hn,λp hp=>by have:=hm p hp;simpa using this,λy z=>by simp⟩
 | i::is,M,m,hn,hm,hi=>by
  have hil:=hi i (by simp);have hg:L[i]?=some L[i]:=u' hil;have hgd:L.getD i (0,[])=L[i]:=by rw[I',hg];rfl
  have hlen:=hr _ (J' hg);obtain⟨g1,g2,g3⟩:=tg (L.getD i (0,[])).1 (L.getD i (0,[])).2 M m hn hm;obtain⟨k1,k2,k3⟩:=tf hr is _ _ g1 g2 (λj hj=>hi j (by simp[hj]));rw[ba'];refine⟨k1,λp hp=>by have:=k2 p hp;rw[hgd]at this;rw[ab'];omega,λy z=>?_⟩;rw[k3,g3,hgd]
  constructor
  ·rintro((h|⟨rfl,h⟩)|⟨j,hj,l,h1,h2⟩)
   ·exact .inl h
   ·exact .inr ⟨i,by simp,L[i].2,by rw[hg],h⟩
   ·exact .inr ⟨j,by simp[hj],l,h1,h2⟩
  ·rintro(h|⟨j,hj,l,h1,h2⟩)
   ·exact .inl (.inl h)
   ·rcases aa'.mp hj with rfl|hj
    ·rw[hg]at h1;have e:=af' h1;rw[e];exact .inl (.inr ⟨rfl,h2⟩)
    ·exact .inr ⟨j,hj,l,h1,h2⟩
theorem iT{L:Rws}(hL:qp L)(hn:(aq L).Nodup){is:List Nat}(hi:TOk L is):(∀p∈fv L is,p.2.length≤1000000)∧∀y z,z∈av (fv L is) y []↔y∈av L z []:=by
 obtain⟨i1,i2,i3⟩:=hi;obtain⟨_,k2,k3⟩:=tf hL.row is [] 0 bc' (λp hp=>by simp at hp) i2;have hl:=List.Nodup.length_le_of_subset i1 (show is ⊆ List.range L.length from λa ha=>an'.mpr (i2 a ha));rw[aU']at hl;have:=hL.len;refine⟨λp hp=>by have:=k2 p hp;omega,λy z=>(k3 y z).trans ?_⟩
 constructor
 ·rintro(h|⟨i,hi,l,h1,h2⟩)
  ·rw[cA (by unfold aR aq;simp)]at h;simp at h
  ·rw[dU hn (J' h1)];exact h2
 ·intro h;refine .inr ?_;cases e:aR L z with
  | false=>rw[cA e]at h;simp at h
  | true =>
   obtain⟨i,hi⟩:=Y'.mp (bD (z:=[]) e);exact⟨i,i3 i (ao hi),_,hi,h⟩
theorem jf{t:Tpl}{c:Chg}(h:(aD t c).2.2.2=0):aF t=0∧(bJ t c).2=0∧(∀x∈(aD t c).2.2.1,x∈eC c)∧(aD t c).2.2.1.length≤2∧((aD t c).2.1=t∨(aD t c).2.1=(bJ t c).1):=by
 have e:(bJ t c).2=0:=by
  refine U' λq=>?_;unfold aD at h;rw[F' q]at h;exact q h
 have hc:aF t=0:=by
  refine U' λq=>?_;unfold bJ at e;rw[F' q]at e;cases e
 have hl:((eC c).filter (chH t (bJ t c).1)).length≤2:=ca' _ _;refine⟨hc,e,?_⟩;unfold aD at h ⊢;rw[E' (by simp[e])]at h ⊢
 split
 ·rename_i q;rw[F' q]at h;cases h
 ·split
  ·exact⟨λx hx=>(bw'.mp hx).1,hl,.inr rfl⟩
  ·exact⟨λx hx=>(bw'.mp hx).1,hl,.inl rfl⟩
def gL(t:Tpl)(c:Chg):Rws:=if(aD t c).1=1 then fv (ef (aD t c).2.1 (aD t c).2.2.1) (List.range (ef (aD t c).2.1 (aD t c).2.2.1).length)else ef (aD t c).2.1 (aD t c).2.2.1
def bP(t:Tpl)(c:Chg):List Rnk:=if(aD t c).2.2.2=0 then t.rs.map λr=>⟨r.id,rkP (gL t c) 200000 r.id⟩else []
theorem jG(L:Rws):TOk L (List.range L.length):=⟨List.nodup_range,λi hi=>an'.mp hi,λi hi=>an'.mpr hi⟩
theorem oO{t:Tpl}{c:Chg}(h:(aD t c).2.2.2=0):(¬(aD t c).1=1→ng t (ef (aD t c).2.1 (aD t c).2.2.1) (bP t c))∧((aD t c).1=1→∀is,TOk (ef (aD t c).2.1 (aD t c).2.2.1) is→ng t (fv (ef (aD t c).2.1 (aD t c).2.2.1) is) (bP t c)):=by
 obtain⟨hc,ha,hd,hl,hg⟩:=jf h;unfold bP gL;rw[F' h];generalize (aD t c).2.1=g at *
 generalize (aD t c).2.2.1=ds at *
 have hB:=kU g ds;have hR:=j8 g ds;have hdec:∀r x,x∈av (ef g ds) r []→msr g c x<msr g c r:=λr x hx=>by
  obtain⟨h0,h1,h2⟩:=hB.bh r x hx;exact tT (hd h0 h1) h2
 have hle:=xJ g c
 refine⟨λk=>?_,λk is hi=>?_⟩
 ·rw[E' k];exact xI (D:=msr g c) (N:=200000) (λp hp=>by have:=hR.row p hp;omega) hdec (λr=>by have:=hle r;omega)
 ·rw[F' k];obtain⟨m1,m2⟩:=iT hR hB.nd hi;obtain⟨_,n2⟩:=iT hR hB.nd (jG _);have e:(t.rs.map λr=>(⟨r.id,rkP (fv (ef g ds) (List.range (ef g ds).length)) 200000 r.id⟩:Rnk))=t.rs.map λr=>⟨r.id,rkP (fv (ef g ds) is) 200000 r.id⟩:=by
   refine al' λr _=>?_;rw[tB (λy z=>(n2 y z).trans (m2 y z).symm)]
  rw[e];exact xI (D:=λx=>150000-msr g c x) (N:=200000) m1 (λr x hx=>by
   have:=hdec x r ((m2 r x).mp hx);have:=hle x;have:=hle r;omega) (λr=>by omega)
theorem AU(t:Tpl)(c:Chg):bv Try.prog 6 [Tpl.v t,Chg.v c] (.tup [.sl 2 ((bP t c).map Rnk.v) false,.int (aD t c).2.2.2]):=by
 refine aI.pure (AT t c (bP t c) (λh=>?_) (λh=>(oO h).1) (λh=>(oO h).2) (λh=>by unfold bP;rw[E' h])) ⟨trivial,trivial,trivial⟩;obtain⟨hc,ha,hd,hl,hg⟩:=jf h;have:=(cX hc).1;exact⟨by omega,by omega,j8 _ _⟩
def tD(t:Tpl)(c:Chg):PC Try.prog:=⟨6,[(.a [(.s 2),(.s 5)]),.k],[.agg [.sl 2 (t.rs.map Rtr.v) false,.sl 5 (t.ls.map Lnk.v) false],.agg [.int c.a,.int c.b,.int c.ca,.int c.cb]],.tup [.sl 2 ((bP t c).map Rnk.v) false,.int (aD t c).2.2.2],AU t c,ga (by kernel_rfl)⟩
end Go.Proofs.Ytdoacjojljgdcaa
