/- Texts joined: TA1 TA2 TA3 TE FA TU BH1 BH2 BH3 BH4 RK1. -/
import Derived.Test.YtdoacjojljgdcaaGreatQS7
set_option linter.unusedVariables false
set_option linter.unusedSimpArgs false
set_option linter.unusedSectionVars false
namespace Go.Proofs.YtdoacjojljgdcaaGreat
open Go Go.Am
structure Chg where
  a:Int
  b:Int
  ca:Int
  cb:Int
  deriving DecidableEq
def Chg.v(c:Chg):AV:=.agg [.int c.a,.int c.b,.int c.ca,.int c.cb]
structure Rnk where
  r:Int
  n:Int
  deriving DecidableEq
def Rnk.v(c:Rnk):AV:=.agg [.int c.r,.int c.n]
def cf(c:Chg):Bool:=c.ca==0 && c.cb==0
def aP(c:Chg):Lnk:=if c.b<c.a then⟨c.b,c.a,c.cb,c.ca,0⟩else⟨c.a,c.b,c.ca,c.cb,0⟩
def bg(t:Tpl)(c:Chg):Tpl×Int:=
 if ¬aD t=0 then(⟨[],[]⟩,1)
 else if hs5 t c.a=false∨hs5 t c.b=false then(⟨[],[]⟩,4)
 else if c.a=c.b then(⟨[],[]⟩,8)
 else if cf c=false∧(dT c.ca=false∨dT c.cb=false)then(⟨[],[]⟩,2)
 else if cf c=true∧cp t.ls (aP c)=false then(⟨[],[]⟩,9)
 else if cp t.ls (aP c)=false∧t.ls.length=60 then(⟨[],[]⟩,3)
 else if cf c=true then(⟨t.rs,eC t.ls (aN t.ls (aP c))⟩,0)
 else if cp t.ls (aP c)=true then(⟨t.rs,t.ls.set (aN t.ls (aP c)) { aP c with w:=(t.ls.getD (aN t.ls (aP c)) ⟨0,0,0,0,0⟩).w }⟩,0)
 else(⟨t.rs,bD t.ls (aN t.ls (aP c)) (aP c)⟩,0)
theorem yO{α:Type}{lt:α→Bool}{l:List α}:∀{f i j:Nat},i≤j→bsI lt l f i j≤j
 | 0,i,j,h=>h
 | f+1,i,j,h=>by
  unfold bsI
  split
  ·split
   ·split
    ·exact yO (by omega)
    ·have:=@yO α lt l f i ((i+j) / 2) (by omega)
     omega
   ·exact h
  ·exact h
theorem Jz(l:List Lnk)(y:Lnk):aN l y≤l.length:=yO (Nat.zero_le _)
def HL(t:Tpl)(c:Chg):=okL [.agg [.sl 2 (t.rs.map Rtr.v) false,.sl 5 (t.ls.map Lnk.v) false],.agg [.int c.a,.int c.b,.int c.ca,.int c.cb]]
def Mn(t:Tpl)(c:Chg)(t0:Lnk):NF:=⟨[(2,.k,.ref 0 0),(3,.k,.ref 1 0),(4,.k,.ref 2 0),(6,.k,.ref 3 0)],[.box (.agg [.sl 2 (t.rs.map Rtr.v) false,.sl 5 (t.ls.map Lnk.v) false]),.box (.agg [.int c.a,.int c.b,.int c.ca,.int c.cb]),.box (.agg [.sl 0 [] true,.sl 0 [] true]),.box (.agg [.int t0.a,.int t0.b,.int t0.ca,.int t0.cb,.int t0.w])]⟩
def Mm(t:Tpl)(c:Chg)(t0:Lnk)(t1:Bool):NF:=⟨[(2,.k,.ref 0 0),(3,.k,.ref 1 0),(4,.k,.ref 2 0),(6,.k,.ref 3 0),(7,.k,.bool t1)],[.box (.agg [.sl 2 (t.rs.map Rtr.v) false,.sl 5 (t.ls.map Lnk.v) false]),.box (.agg [.int c.a,.int c.b,.int c.ca,.int c.cb]),.box (.agg [.sl 0 [] true,.sl 0 [] true]),.box (.agg [.int t0.a,.int t0.b,.int t0.ca,.int t0.cb,.int t0.w])]⟩
def Ml(t:Tpl)(c:Chg)(t0:Lnk)(t1:Bool)(t2:Bool):NF:=⟨[(2,.k,.ref 0 0),(3,.k,.ref 1 0),(4,.k,.ref 2 0),(6,.k,.ref 3 0),(7,.k,.bool t1),(8,.k,.int (aN t.ls t0:Int)),(9,.k,.bool (cp t.ls t0)),(53,.k,.bool t2)],[.box (.agg [.sl 2 (t.rs.map Rtr.v) false,.sl 5 (t.ls.map Lnk.v) false]),.box (.agg [.int c.a,.int c.b,.int c.ca,.int c.cb]),.box (.agg [.sl 0 [] true,.sl 0 [] true]),.box (.agg [.int t0.a,.int t0.b,.int t0.ca,.int t0.cb,.int t0.w])]⟩
def Mk(t:Tpl)(t0:Lnk)(t1:Bool)(t3:Bool):NF:=⟨[(2,.k,.ref 0 0),(4,.k,.ref 1 0),(6,.k,.ref 2 0),(7,.k,.bool t1),(8,.k,.int (aN t.ls t0:Int)),(9,.k,.bool (cp t.ls t0)),(74,.k,.bool t3)],[.box (.agg [.sl 2 (t.rs.map Rtr.v) false,.sl 5 (t.ls.map Lnk.v) false]),.box (.agg [.sl 0 [] true,.sl 0 [] true]),.box (.agg [.int t0.a,.int t0.b,.int t0.ca,.int t0.cb,.int t0.w])]⟩
def Mj(t:Tpl)(t0:Lnk)(t1:Bool)(t4:Bool):NF:=⟨[(2,.k,.ref 0 0),(4,.k,.ref 1 0),(6,.k,.ref 2 0),(7,.k,.bool t1),(8,.k,.int (aN t.ls t0:Int)),(9,.k,.bool (cp t.ls t0)),(90,.k,.bool t4)],[.box (.agg [.sl 2 (t.rs.map Rtr.v) false,.sl 5 (t.ls.map Lnk.v) false]),.box (.agg [.sl 0 [] true,.sl 0 [] true]),.box (.agg [.int t0.a,.int t0.b,.int t0.ca,.int t0.cb,.int t0.w])]⟩
def Mi(t:Tpl)(t0:Lnk)(t1:Bool)(t5:Bool):NF:=⟨[(2,.k,.ref 0 0),(4,.k,.ref 1 0),(6,.k,.ref 2 0),(7,.k,.bool t1),(8,.k,.int (aN t.ls t0:Int)),(9,.k,.bool (cp t.ls t0)),(97,.k,.bool t5)],[.box (.agg [.sl 2 (t.rs.map Rtr.v) false,.sl 5 (t.ls.map Lnk.v) false]),.box (.agg [.sl 0 [] true,.sl 0 [] true]),.box (.agg [.int t0.a,.int t0.b,.int t0.ca,.int t0.cb,.int t0.w])]⟩
@[reducible] def HK:Nat→Type
 | 0=>Lnk
 | 1=>Bool
 | 2=>Bool
 | 3=>Bool
 | 4=>Bool
 | 5=>Bool
 | _=>Unit
def yY(r:Tpl×Int):AV:=.tup [Tpl.v r.1,.int r.2]
def yX(t:Tpl)(c:Chg)(I0:Lnk→Prop)(I1:Lnk→Bool→Prop)(I2:Lnk→Bool→Bool→Prop)(I3:Lnk→Bool→Bool→Bool→Prop)(I4:Lnk→Bool→Bool→Bool→Bool→Prop)(I5:Lnk→Bool→Bool→Bool→Bool→Bool→Prop):Ax Tryz.prog HK (Tpl×Int):=
 (.callP (v8 t)
(.br 112 (!(iu t)) (.ret ((⟨[],[]⟩:Tpl),1))
(.pass (.join 0 (Mn t c) (λ(t0:Lnk)=>I0 t0) (λb0=>(.br 368 (decide (c.b<c.a)) (.bk 0 b0 (((⟨c.b,c.a,c.cb,c.ca,0⟩:Lnk)):Lnk) [0,16,32,256])
(.bk 0 b0 (((⟨c.a,c.b,c.ca,c.cb,0⟩:Lnk)):Lnk) [0,16,32,256]))) λ(t0:Lnk) =>
(.join 1 (Mm t c t0) (λ(t1:Bool)=>I1 t0 t1) (λb1=>(.br 68 (c.ca==0) (.bk 1 b1 ((c.cb==0):Bool) [0,1,2,3])
(.bk 1 b1 ((false):Bool) [0,1,2,3]))) λ(t1:Bool) =>
(.req 52 (t.ls.length≤1000000) λh1 =>
(.callP (Na t.ls t0 h1)
(.pass (.join 2 (Ml t c t0 t1) (λ(t2:Bool)=>I2 t0 t1 t2) (λb2=>(.req 196 (t.rs.length≤1000000) λh2 =>
(.callP (FX t c.a h2)
(.br 244 (!(hs5 t c.a)) (.bk 2 b2 ((true):Bool) [0,1,2,3])
(.req 292 (t.rs.length≤1000000) λh3 =>
(.callP (FX t c.b h3)
(.bk 2 b2 ((!(hs5 t c.b)):Bool) [0,1,2,3]))))))) λ(t2:Bool) =>
(.br 4 t2 (.ret ((⟨[],[]⟩:Tpl),4))
(.br 100 (c.a==c.b) (.ret ((⟨[],[]⟩:Tpl),8))
(.join 3 (Mk t t0 t1) (λ(t3:Bool)=>I3 t0 t1 t2 t3) (λb3=>(.br 148 (!t1) (.callP (oQ c.ca 1 1000)
(.br 228 (!(inT c.ca 1 1000)) (.bk 3 b3 ((true):Bool) [0,2,3])
(.callP (oQ c.cb 1 1000)
(.bk 3 b3 ((!(inT c.cb 1 1000)):Bool) [0,2,3]))))
(.bk 3 b3 ((false):Bool) [0,2,3]))) λ(t3:Bool) =>
(.br 3 t3 (.ret ((⟨[],[]⟩:Tpl),2))
(.join 4 (Mj t t0 t1) (λ(t4:Bool)=>I4 t0 t1 t2 t3 t4) (λb4=>(.br 35 t1 (.bk 4 b4 ((!(cp t.ls t0)):Bool) [0,1,2])
(.bk 4 b4 ((false):Bool) [0,1,2]))) λ(t4:Bool) =>
(.br 3 t4 (.ret ((⟨[],[]⟩:Tpl),9))
(.join 5 (Mi t t0 t1) (λ(t5:Bool)=>I5 t0 t1 t2 t3 t4 t5) (λb5=>(.br 51 (!(cp t.ls t0)) (.bk 5 b5 ((((t.ls.map Lnk.v).length:Int)==60):Bool) [0,1,2])
(.bk 5 b5 ((false):Bool) [0,1,2]))) λ(t5:Bool) =>
(.br 3 t5 (.ret ((⟨[],[]⟩:Tpl),3))
(.req 35 (t.rs.length≤1000000) λh4 =>
(.callP (Qh t.rs h4)
(.req 83 (t.ls.length≤1000000) λh5 =>
(.callH [] (Qk t.ls h5) 83
(.br 179 t1 (.req 259 ((0≤(aN t.ls t0:Int)∧(aN t.ls t0:Int)<t.ls.length)∧(W ((aN t.ls t0:Int)+1))=(aN t.ls t0:Int)+1) λh6 =>
(.req 259 (t.ls.length≤1000000) λh7 =>
(.callH [83] (PN t.ls (aN t.ls t0:Int) (W ((aN t.ls t0:Int)+1)) h6 h7) 259
(.fz 259 Lnk.v (eC t.ls (Int.toNat (aN t.ls t0:Int))) (λ_=>rfl) (.ret ((⟨t.rs,eC t.ls (Int.toNat (aN t.ls t0:Int))⟩:Tpl),0))))))
(.br 211 (cp t.ls t0) (.elJ 291 Lnk.v t.ls (aN t.ls t0:Int) λx8 =>
(.stJ 419 Lnk.v t.ls (aN t.ls t0:Int) (λy9=>(⟨t0.a,t0.b,t0.ca,t0.cb,x8.w⟩:Lnk)) λy9 =>
(.fz 83 Lnk.v (t.ls.set ((aN t.ls t0:Int).toNat) (⟨t0.a,t0.b,t0.ca,t0.cb,x8.w⟩:Lnk)) (λ_=>rfl) (.ret ((⟨t.rs,t.ls.set ((aN t.ls t0:Int).toNat) (⟨t0.a,t0.b,t0.ca,t0.cb,x8.w⟩:Lnk)⟩:Tpl),0)))))
(.own 275 (.req 291 (0≤(aN t.ls t0:Int)∧(aN t.ls t0:Int)≤t.ls.length) λh10 =>
(.req 291 (t.ls.length≤1000000) λh11 =>
(.callH [83,275] (OW t.ls t0 (aN t.ls t0:Int) h10 h11) 291
(.fz 291 Lnk.v (bD t.ls (Int.toNat (aN t.ls t0:Int)) t0) (λ_=>rfl) (.ret ((⟨t.rs,bD t.ls (Int.toNat (aN t.ls t0:Int)) t0⟩:Tpl),0))))))))))))))))))))))))))))))
def Cq(t:Tpl)(c:Chg)(I0:Lnk→Prop)(I1:Lnk→Bool→Prop)(I2:Lnk→Bool→Bool→Prop)(I3:Lnk→Bool→Bool→Bool→Prop)(I4:Lnk→Bool→Bool→Bool→Bool→Prop)(I5:Lnk→Bool→Bool→Bool→Bool→Bool→Prop)(r0:Tpl×Int):=(yX t c I0 I1 I2 I3 I4 I5).vp yY r0
theorem QR(t:Tpl)(c:Chg)(ok:HL t c):∃I0 I1 I2 I3 I4 I5,Cq t c I0 I1 I2 I3 I4 I5 (bg t c):=by
 refine⟨λl=>l=aP c,λl b=>l=aP c∧b=cf c,λl b u=>(l=aP c∧b=cf c)∧u=decide (hs5 t c.a=false∨hs5 t c.b=false),
  λl b _ u=>(l=aP c∧b=cf c)∧u=decide (cf c=false∧(dT c.ca=false∨dT c.cb=false)),
  λl b _ _ u=>(l=aP c∧b=cf c)∧u=decide (cf c=true∧cp t.ls (aP c)=false),
  λl b _ _ _ u=>(l=aP c∧b=cf c)∧u=decide (cp t.ls (aP c)=false∧t.ls.length=60),?_⟩
 simp only[HL,okU,Blk.ok,aL,List.length_map]at ok
 dsimp only[Cq,yX,HK,Ax.vp,Ax.vc];simp only[vcU,rfU,List.length_map]
 have e1:iu t=decide (aD t=0):=by unfold iu;rw[Bool.eq_iff_iff];simp
 have e2:∀x,inT x 1 1000=dT x:=λx=>by unfold inT dT;rfl
 rw[e1,e2,e2]
 unfold bg
 refine⟨λq=>by rw[if_pos (by simpa using q)],λq=>?_⟩
 have q:aD t=0:=by simpa using q
 have hl:=(cd q).1
 have hl2:=(cd q).2
 rw[if_neg (by simpa using q)]
 refine⟨⟨λd=>by unfold aP;rw[if_pos d],λd=>by unfold aP;rw[if_neg d]⟩,?_⟩
 rintro _ rfl
 refine⟨⟨λd=>⟨rfl,by unfold cf;rw[d];rfl⟩,λd=>⟨rfl,by unfold cf;rw[d];rfl⟩⟩,?_⟩
 rintro _ ⟨_,rfl⟩
 refine⟨by omega,⟨by omega,λd=>⟨⟨rfl,rfl⟩,by rw[eq_comm,decide_eq_true_iff];exact .inl (by simpa using d)⟩,λd=>⟨by omega,⟨rfl,rfl⟩,by rw[Bool.eq_iff_iff,decide_eq_true_iff];simp at d ⊢;simp[d]⟩⟩,?_⟩
 rintro _ ⟨_,rfl⟩
 refine⟨λd=>by rw[if_pos (of_decide_eq_true d)],λd=>?_⟩
 rw[if_neg (of_decide_eq_false d)]
 refine⟨λd=>by rw[if_pos (eq_of_beq d)],λd=>?_⟩
 rw[if_neg (by simpa using d)]
 refine⟨⟨λd=>⟨λg=>⟨⟨rfl,rfl⟩,?_⟩,λg=>⟨⟨rfl,rfl⟩,?_⟩⟩,λd=>⟨⟨rfl,rfl⟩,?_⟩⟩,?_⟩
 ·rw[eq_comm,decide_eq_true_iff];exact⟨by simpa using d,.inl (by simpa using g)⟩
 ·rw[Bool.eq_iff_iff,decide_eq_true_iff];simp at d g ⊢;simp[d,g]
 ·rw[eq_comm,decide_eq_false_iff_not];simp at d;simp[d]
 rintro _ ⟨_,rfl⟩
 refine⟨λd=>by rw[if_pos (of_decide_eq_true d)],λd=>?_⟩
 rw[if_neg (of_decide_eq_false d)]
 refine⟨⟨λd=>⟨⟨rfl,rfl⟩,by rw[Bool.eq_iff_iff,decide_eq_true_iff];simp[d]⟩,λd=>⟨⟨rfl,rfl⟩,by rw[eq_comm,decide_eq_false_iff_not];simp[d]⟩⟩,?_⟩
 rintro _ ⟨_,rfl⟩
 refine⟨λd=>by rw[if_pos (of_decide_eq_true d)],λd9=>?_⟩
 rw[if_neg (of_decide_eq_false d9)]
 have d9:=of_decide_eq_false d9
 refine⟨⟨λd=>⟨⟨rfl,rfl⟩,?_⟩,λd=>⟨⟨rfl,rfl⟩,?_⟩⟩,?_⟩
 ·rw[Bool.eq_iff_iff,decide_eq_true_iff,beq_iff_eq];simp at d;simp[d];omega
 ·rw[eq_comm,decide_eq_false_iff_not];simp at d;simp[d]
 rintro _ ⟨_,rfl⟩
 refine⟨λd=>by rw[if_pos (of_decide_eq_true d)],λd=>?_⟩
 rw[if_neg (of_decide_eq_false d)]
 have hp:cp t.ls (aP c)=true→aN t.ls (aP c)<t.ls.length:=λg=>by
  refine Classical.byContradiction λr=>?_
  unfold cp bsH at g
  rw[List.getElem?_eq_none (by unfold aN at r;omega)]at g;cases g
 have hq:=Jz t.ls (aP c)
 refine⟨by omega,by omega,λd=>?_,λd=>⟨λg=>?_,λg=>⟨⟨by omega,by omega⟩,by omega,?_⟩⟩⟩
 ·have g:cp t.ls (aP c)=true:=by simpa[d]using d9
  have:=hp g
  refine⟨⟨⟨by omega,by omega⟩,?_⟩,by omega,?_⟩
  ·exact dm (by omega)
  ·rw[if_pos d,Int.toNat_natCast]
 ·have:=hp g
  have r:(bif decide (0≤(aN t.ls (aP c):Int))then decide ((aN t.ls (aP c):Int)<t.ls.length)else false)=true:=by
   rw[decide_eq_true (by omega),decide_eq_true (by omega)];rfl
  refine⟨r,by omega,λx hx=>⟨r,by omega,λy hy=>?_⟩⟩
  rw[Int.toNat_natCast]at hx
  rw[if_neg (by simp[d]),if_pos g,Int.toNat_natCast,List.getD_eq_getElem?_getD,hx]
  rfl
 ·rw[if_neg (by simp[d]),if_neg (by simp[g]),Int.toNat_natCast]
def QS(t:Tpl)(c:Chg):PC Tryz.prog:=⟨91,[(.a [(.s 2),(.s 5)]),.k],[.agg [.sl 2 (t.rs.map Rtr.v) false,.sl 5 (t.ls.map Lnk.v) false],.agg [.int c.a,.int c.b,.int c.ca,.int c.cb]],yY (bg t c),ax.of_ok λok=>(QR t c ok).elim λI0 h=>h.elim λI1 h=>h.elim λI2 h=>h.elim λI3 h=>h.elim λI4 h=>h.elim λI5 h=>aw (sh:=(.a [(.a [(.s 2),(.s 5)]),.k])) (enc:=yY) (a:=(yX t c I0 I1 I2 I3 I4 I5).an) h (by kernel_rfl) (AV.pureB_ok rfl),aq (by kernel_rfl)⟩
def upH(t t':Tpl)(h:Hop):Bool:=(bz t h.a h.b).2 && (!(bz t' h.a h.b).2 || decide ((bz t h.a h.b).1<(bz t' h.a h.b).1))
def dnH(t t':Tpl)(h:Hop):Bool:=(bz t' h.a h.b).2 && (!(bz t h.a h.b).2 || decide ((bz t' h.a h.b).1<(bz t h.a h.b).1))
def chH(t t':Tpl)(h:Hop):Bool:=((bz t h.a h.b).2 != (bz t' h.a h.b).2) || ((bz t' h.a h.b).1 != (bz t h.a h.b).1)
def eW(c:Chg):List Hop:=[⟨c.a,c.b⟩,⟨c.b,c.a⟩]
def aI(t:Tpl)(c:Chg):Int×Tpl×List Hop×Int:=
 if ¬(bg t c).2=0 then(0,⟨[],[]⟩,[],(bg t c).2)
 else if(eW c).any (upH t (bg t c).1)=true∧(eW c).any (dnH t (bg t c).1)=true then(0,⟨[],[]⟩,[],8)
 else if(eW c).any (dnH t (bg t c).1)=true then(2,(bg t c).1,(eW c).filter (chH t (bg t c).1),0)
 else(1,t,(eW c).filter (chH t (bg t c).1),0)
def E0(t:Tpl)(c:Chg):=okL [.agg [.sl 2 (t.rs.map Rtr.v) false,.sl 5 (t.ls.map Lnk.v) false],.agg [.int c.a,.int c.b,.int c.ca,.int c.cb]]
def Jr(t:Tpl)(c:Chg)(t0:Bool×Bool×Int×List Hop):NF:=⟨[(2,.k,.ref 0 0),(5,.k,.ref 1 0),(6,.k,.vec 2),(8,.k,.ref 3 0),(9,.k,.bool t0.1),(10,.k,.bool t0.2.1),(37,.k,.sl 2 [.agg [.int c.a,.int c.b],.agg [.int c.b,.int c.a]] true),(38,.k,.int 2),(39,.k,.int t0.2.2.1)],[.box (.agg [.sl 2 (t.rs.map Rtr.v) false,.sl 5 (t.ls.map Lnk.v) false]),.box (.agg [.sl 0 [] true,.sl 0 [] true]),.vec 2 (t0.2.2.2.map Hop.v) (ae (λ_=>rfl) t0.2.2.2),.box (.agg [.sl 2 ((((bg t c).1).rs).map Rtr.v) false,.sl 5 ((((bg t c).1).ls).map Lnk.v) false])]⟩
def Jq(t:Tpl)(c:Chg)(t0:Bool×Bool×Int×List Hop)(x1:Hop)(t1:Bool):NF:=⟨[(2,.k,.ref 0 0),(5,.k,.ref 1 0),(6,.k,.vec 2),(8,.k,.ref 3 0),(9,.k,.bool t1),(10,.k,.bool t0.2.1),(12,.k,.ref 4 0),(13,.k,.int ((bz t x1.a x1.b).1)),(14,.k,.bool ((bz t x1.a x1.b).2)),(15,.k,.int ((bz ((bg t c).1) x1.a x1.b).1)),(16,.k,.bool ((bz ((bg t c).1) x1.a x1.b).2)),(37,.k,.sl 2 [.agg [.int c.a,.int c.b],.agg [.int c.b,.int c.a]] true),(38,.k,.int 2),(39,.k,.int t0.2.2.1)],[.box (.agg [.sl 2 (t.rs.map Rtr.v) false,.sl 5 (t.ls.map Lnk.v) false]),.box (.agg [.sl 0 [] true,.sl 0 [] true]),.vec 2 (t0.2.2.2.map Hop.v) (ae (λ_=>rfl) t0.2.2.2),.box (.agg [.sl 2 ((((bg t c).1).rs).map Rtr.v) false,.sl 5 ((((bg t c).1).ls).map Lnk.v) false]),.box (.agg [.int x1.a,.int x1.b])]⟩
def Jp(t:Tpl)(c:Chg)(t0:Bool×Bool×Int×List Hop)(x1:Hop)(t1:Bool)(t2:Bool):NF:=⟨[(2,.k,.ref 0 0),(5,.k,.ref 1 0),(6,.k,.vec 2),(8,.k,.ref 3 0),(9,.k,.bool t1),(10,.k,.bool t2),(12,.k,.ref 4 0),(13,.k,.int ((bz t x1.a x1.b).1)),(14,.k,.bool ((bz t x1.a x1.b).2)),(15,.k,.int ((bz ((bg t c).1) x1.a x1.b).1)),(16,.k,.bool ((bz ((bg t c).1) x1.a x1.b).2)),(37,.k,.sl 2 [.agg [.int c.a,.int c.b],.agg [.int c.b,.int c.a]] true),(38,.k,.int 2),(39,.k,.int t0.2.2.1)],[.box (.agg [.sl 2 (t.rs.map Rtr.v) false,.sl 5 (t.ls.map Lnk.v) false]),.box (.agg [.sl 0 [] true,.sl 0 [] true]),.vec 2 (t0.2.2.2.map Hop.v) (ae (λ_=>rfl) t0.2.2.2),.box (.agg [.sl 2 ((((bg t c).1).rs).map Rtr.v) false,.sl 5 ((((bg t c).1).ls).map Lnk.v) false]),.box (.agg [.int x1.a,.int x1.b])]⟩
def Jo(t:Tpl)(c:Chg)(t0:Bool×Bool×Int×List Hop)(x1:Hop)(t1:Bool)(t2:Bool)(t3:Bool):NF:=⟨[(2,.k,.ref 0 0),(5,.k,.ref 1 0),(6,.k,.vec 2),(8,.k,.ref 3 0),(9,.k,.bool t1),(10,.k,.bool t2),(12,.k,.ref 4 0),(37,.k,.sl 2 [.agg [.int c.a,.int c.b],.agg [.int c.b,.int c.a]] true),(38,.k,.int 2),(39,.k,.int t0.2.2.1),(94,.k,.bool t3)],[.box (.agg [.sl 2 (t.rs.map Rtr.v) false,.sl 5 (t.ls.map Lnk.v) false]),.box (.agg [.sl 0 [] true,.sl 0 [] true]),.vec 2 (t0.2.2.2.map Hop.v) (ae (λ_=>rfl) t0.2.2.2),.box (.agg [.sl 2 ((((bg t c).1).rs).map Rtr.v) false,.sl 5 ((((bg t c).1).ls).map Lnk.v) false]),.box (.agg [.int x1.a,.int x1.b])]⟩
def Jn(t:Tpl)(c:Chg)(t0:Bool×Bool×Int×List Hop)(t4:Bool):NF:=⟨[(2,.k,.ref 0 0),(5,.k,.ref 1 0),(6,.k,.vec 2),(8,.k,.ref 3 0),(10,.k,.bool t0.2.1),(100,.k,.bool t4)],[.box (.agg [.sl 2 (t.rs.map Rtr.v) false,.sl 5 (t.ls.map Lnk.v) false]),.box (.agg [.sl 0 [] true,.sl 0 [] true]),.vec 2 (t0.2.2.2.map Hop.v) (ae (λ_=>rfl) t0.2.2.2),.box (.agg [.sl 2 ((((bg t c).1).rs).map Rtr.v) false,.sl 5 ((((bg t c).1).ls).map Lnk.v) false])]⟩
@[reducible] def Ez:Nat→Type
 | 0=>Bool×Bool×Int×List Hop
 | 1=>Bool
 | 2=>Bool
 | 3=>Bool
 | 4=>Bool
 | _=>Unit
def wj(r:Int×Tpl×List Hop×Int):AV:=.tup [.int r.1,Tpl.v r.2.1,.sl 2 (r.2.2.1.map Hop.v) false,.int r.2.2.2]
def wi(t:Tpl)(c:Chg)(I0:(Bool×Bool×Int×List Hop)→Prop)(m0:(Bool×Bool×Int×List Hop)→Nat)(I1:Bool×Bool×Int×List Hop→Hop→Bool→Prop)(I2:Bool×Bool×Int×List Hop→Hop→Bool→Bool→Prop)(I3:Bool×Bool×Int×List Hop→Hop→Bool→Bool→Bool→Prop)(I4:Bool×Bool×Int×List Hop→Bool→Prop):Ax Tryz.prog Ez (Int×Tpl×List Hop×Int):=
 (.callP (QS t c)
(.br 272 (((bg t c).2) != 0) (.ret (0,(⟨[],[]⟩:Tpl),[],(bg t c).2))
(.cmdL (.nilT 6 2) (.loop 0 (Jr t c) I0 m0 (false,false,0,[]) [0,48,512,192] λ(t0:Bool×Bool×Int×List Hop) b0 =>
(.br 20 (decide (t0.2.2.1<2)) (.el 20 Hop.v [(⟨c.a,c.b⟩:Hop),(⟨c.b,c.a⟩:Hop)] (λR=>Rf (α:=List AV) [.agg [.int c.a,.int c.b],.agg [.int c.b,.int c.a]] (ck (decide (0≤t0.2.2.1)) (ck (decide (t0.2.2.1<([(⟨c.a,c.b⟩:Hop),(⟨c.b,c.a⟩:Hop)].length:Int)))
(∀x1,[(⟨c.a,c.b⟩:Hop),(⟨c.b,c.a⟩:Hop)][t0.2.2.1.toNat]?=some x1 →
(R x1))))) λx1 =>
(.callP (oe t x1.a x1.b)
(.callP (oe ((bg t c).1) x1.a x1.b)
(.join 1 (Jq t c t0 x1) (λ(t1:Bool)=>I1 t0 x1 t1) (λb1=>(.br 468 t0.1 (.bk 1 b1 ((true):Bool) [0,1,2,3,52])
(.br 500 ((bz t x1.a x1.b).2) (.br 548 (!((bz ((bg t c).1) x1.a x1.b).2)) (.bk 1 b1 ((true):Bool) [0,1,2,3,52])
(.bk 1 b1 ((decide (((bz t x1.a x1.b).1)<((bz ((bg t c).1) x1.a x1.b).1))):Bool) [0,1,2,3,52]))
(.bk 1 b1 ((false):Bool) [0,1,2,3,52])))) λ(t1:Bool) =>
(.join 2 (Jp t c t0 x1 t1) (λ(t2:Bool)=>I2 t0 x1 t1 t2) (λb2=>(.br 37 t0.2.1 (.bk 2 b2 ((true):Bool) [0,1,2,3,4])
(.br 69 ((bz ((bg t c).1) x1.a x1.b).2) (.br 117 (!((bz t x1.a x1.b).2)) (.bk 2 b2 ((true):Bool) [0,1,2,3,4])
(.bk 2 b2 ((decide (((bz ((bg t c).1) x1.a x1.b).1)<((bz t x1.a x1.b).1))):Bool) [0,1,2,3,4]))
(.bk 2 b2 ((false):Bool) [0,1,2,3,4])))) λ(t2:Bool) =>
(.join 3 (Jo t c t0 x1 t1 t2) (λ(t3:Bool)=>I3 t0 x1 t1 t2 t3) (λb3=>(.br 69 (!(((bz t x1.a x1.b).2)==((bz ((bg t c).1) x1.a x1.b).2))) (.bk 3 b3 ((true):Bool) [0,1,2,3,4])
(.bk 3 b3 ((((bz ((bg t c).1) x1.a x1.b).1) != ((bz t x1.a x1.b).1)):Bool) [0,1,2,3,4]))) λ(t3:Bool) =>
(.br 5 t3 (.apX 53 Hop.v t0.2.2.2 [x1] (t0.2.2.2.length+1)
(.bk 0 b0 (t1,t2,W (t0.2.2.1+1),t0.2.2.2++[x1]) [0,1,53,3]))
(.bk 0 b0 (t1,t2,W (t0.2.2.1+1),t0.2.2.2) [0,1,2,3]))))))))
(.pass (.join 4 (Jn t c t0) (λ(t4:Bool)=>I4 t0 t4) (λb4=>(.br 52 t0.1 (.bk 4 b4 ((t0.2.1):Bool) [0,1,2,3])
(.bk 4 b4 ((false):Bool) [0,1,2,3]))) λ(t4:Bool) =>
(.br 4 t4 (.ret (0,(⟨[],[]⟩:Tpl),[],8))
(.br 36 t0.2.1 (.fz 2 Hop.v t0.2.2.2 (λ_=>rfl) (.ret (2,(bg t c).1,t0.2.2.2,0)))
(.fz 2 Hop.v t0.2.2.2 (λ_=>rfl) (.ret (1,t,t0.2.2.2,0))))))))))))
def Ag(t:Tpl)(c:Chg)(I0:(Bool×Bool×Int×List Hop)→Prop)(m0:(Bool×Bool×Int×List Hop)→Nat)(I1:Bool×Bool×Int×List Hop→Hop→Bool→Prop)(I2:Bool×Bool×Int×List Hop→Hop→Bool→Bool→Prop)(I3:Bool×Bool×Int×List Hop→Hop→Bool→Bool→Bool→Prop)(I4:Bool×Bool×Int×List Hop→Bool→Prop)(r0:Int×Tpl×List Hop×Int):=(wi t c I0 m0 I1 I2 I3 I4).vp wj r0
def RedI(t t':Tpl)(l:List Hop)(s:Bool×Bool×Int×List Hop):Prop:=∃k:Nat,s.2.2.1=k∧k≤l.length∧s.1=(l.take k).any (upH t t')∧s.2.1=(l.take k).any (dnH t t')∧s.2.2.2=(l.take k).filter (chH t t')
theorem NS(t:Tpl)(c:Chg)(ok:E0 t c):∃I0 m0 I1 I2 I3 I4,Ag t c I0 m0 I1 I2 I3 I4 (aI t c):=by
 refine⟨RedI t (bg t c).1 (eW c),λs=>2-s.2.2.1.toNat,λs h u=>u=(s.1 || upH t (bg t c).1 h),λs h u d=>u=(s.1 || upH t (bg t c).1 h)∧d=(s.2.1 || dnH t (bg t c).1 h),
  λs h u d x=>(u=(s.1 || upH t (bg t c).1 h)∧d=(s.2.1 || dnH t (bg t c).1 h))∧x=chH t (bg t c).1 h,λs b=>b=(s.1 && s.2.1),?_⟩
 simp only[E0,okU,Blk.ok,aL,List.length_map]at ok
 dsimp only[Ag,wi,Ez,Ax.vp,Ax.vc];simp only[vcU,rfU,List.length_map]
 have hl:(eW c).length=2:=rfl
 refine⟨λd=>by unfold aI;rw[if_pos (by simpa using d)],λd=>⟨⟨0,rfl,by omega,rfl,rfl,rfl⟩,?_⟩⟩
 have d:(bg t c).2=0:=by simpa using d
 rintro⟨u0,d0,_,ds⟩ ⟨k,rfl,hk,e1,e2,e3⟩
 simp only at e1 e2 e3 ⊢
 rw[Int.toNat_natCast]
 refine⟨λq=>⟨by omega,by simp only[List.length_cons,List.length_nil];omega,λx hx=>⟨⟨λg=>?_,λg=>⟨λg1=>⟨λg2=>?_,λg2=>?_⟩,λg1=>?_⟩⟩,?_⟩⟩,λq=>?_⟩
 ·rw[g];rfl
 ·unfold upH;rw[g1,g2];simp
 ·unfold upH;rw[g,g1,g2];rfl
 ·unfold upH;rw[g,g1];rfl
 ·rintro _ rfl
  refine⟨⟨λg=>⟨rfl,by rw[g];rfl⟩,λg=>⟨λg1=>⟨λg2=>⟨rfl,?_⟩,λg2=>⟨rfl,?_⟩⟩,λg1=>⟨rfl,?_⟩⟩⟩,?_⟩
  ·unfold dnH;rw[g1,g2];simp
  ·unfold dnH;rw[g,g1,g2];rfl
  ·unfold dnH;rw[g,g1];rfl
  rintro _ ⟨_,rfl⟩
  refine⟨⟨λg=>⟨⟨rfl,rfl⟩,?_⟩,λg=>⟨⟨rfl,rfl⟩,?_⟩⟩,?_⟩
  ·unfold chH bne;rw[g];rfl
  ·unfold chH;have g':((bz t x.a x.b).2 != (bz (bg t c).1 x.a x.b).2)=false:=g
   rw[g'];rfl
  rintro _ ⟨_,rfl⟩
  have w:W ((k:Int)+1)=((k+1:Nat):Int):=bM (n:=2) (by omega) (by omega)
  have hx':(eW c)[k]?=some x:=hx
  have f1:∀p:Hop→Bool,((eW c).take (k+1)).any p=(((eW c).take k).any p || p x):=λp=>by rw[aU hx'];simp
  have hdl:ds.length≤2:=by rw[e3];exact Nat.le_trans (List.length_filter_le _ _) (by rw[List.length_take];omega)
  rw[w]
  refine⟨λg=>⟨by omega,⟨k+1,rfl,by omega,by simp only;rw[f1,e1],by simp only;rw[f1,e2],?_⟩,by omega⟩,λg=>⟨⟨k+1,rfl,by omega,by simp only;rw[f1,e1],by simp only;rw[f1,e2],?_⟩,by omega⟩⟩
  ·simp only;rw[aU hx',List.filter_append,e3];simp[g]
  ·simp only;rw[aU hx',List.filter_append,e3];simp[g]
 ·have hk2:(eW c).take k=eW c:=List.take_of_length_le (by omega)
  rw[hk2]at e1 e2 e3
  refine⟨⟨λg=>by rw[g];rfl,λg=>by rw[g];rfl⟩,?_⟩
  rintro _ rfl
  unfold aI
  rw[if_neg (by simp[d])]
  refine⟨λg=>?_,λg=>⟨λg1=>?_,λg1=>?_⟩⟩
  ·rw[e1,e2]at g;rw[if_pos (by simpa using g)]
  ·rw[g1,e1]at g;rw[e2]at g1;rw[if_neg (λh=>by rw[h.1]at g;cases g),if_pos g1,e3]
  ·rw[e2]at g1;rw[if_neg (by simp[g1]),if_neg (by simp[g1]),e3]
def pT(t:Tpl)(c:Chg):PC Tryz.prog:=⟨47,[(.a [(.s 2),(.s 5)]),.k],[.agg [.sl 2 (t.rs.map Rtr.v) false,.sl 5 (t.ls.map Lnk.v) false],.agg [.int c.a,.int c.b,.int c.ca,.int c.cb]],wj (aI t c),ax.of_ok λok=>(NS t c ok).elim λI0 h=>h.elim λm0 h=>h.elim λI1 h=>h.elim λI2 h=>h.elim λI3 h=>h.elim λI4 h=>aw (sh:=(.a [.k,(.a [(.s 2),(.s 5)]),(.s 2),.k])) (enc:=wj) (a:=(wi t c I0 m0 I1 I2 I3 I4).an) h (by kernel_rfl) (AV.pureB_ok rfl),aq (by kernel_rfl)⟩
def OQ(t:Tpl)(c:Chg):=okL [.agg [.sl 2 (t.rs.map Rtr.v) false,.sl 5 (t.ls.map Lnk.v) false],.agg [.int c.a,.int c.b,.int c.ca,.int c.cb]]
def xg(r:Int×Int):AV:=.tup [.int r.1,.int r.2]
def xf(t:Tpl)(c:Chg):Ax Tryz.prog noS (Int×Int):=
 (.callP (pT t c)
(.ret ((aI t c).1,(aI t c).2.2.2)))
def Bb(t:Tpl)(c:Chg)(r0:Int×Int):=(xf t c).vp xg r0
theorem OO(t:Tpl)(c:Chg)(ok:OQ t c):Bb t c ((aI t c).1,(aI t c).2.2.2):=by
 dsimp only[Bb,xf,noS,Ax.vp,Ax.vc];simp only[vcU,rfU,List.length_map]
def OP(t:Tpl)(c:Chg):PC Tryz.prog:=⟨10,[(.a [(.s 2),(.s 5)]),.k],[.agg [.sl 2 (t.rs.map Rtr.v) false,.sl 5 (t.ls.map Lnk.v) false],.agg [.int c.a,.int c.b,.int c.ca,.int c.cb]],xg ((aI t c).1,(aI t c).2.2.2),ax.of_ok λok=>aw (sh:=.k) (enc:=xg) (a:=(xf t c).an) (OO t c ok) (by kernel_rfl) (AV.pureB_ok rfl),aq (by kernel_rfl)⟩
structure Dst where
  r:Int
  c:Int
  deriving DecidableEq
def Dst.v(x:Dst):AV:=.agg [.int x.r,.int x.c]
def n0(h:Hop):MK:=.c [h.a,h.b]
theorem tV(x y:Hop)(h:n0 x=n0 y):x=y:=by
 cases x;cases y;unfold n0 at h;simp at h;simp[h]
def nm{β:Type}(vf:β→AV)(l:List (Hop×β))(x:Hop)(z:β):MN:=.get inferInstance n0 tV vf l x z
def Fx{β:Type}(vf:β→AV)(l:List (Hop×β))(x:Hop)(v:β):MN:=.put inferInstance n0 tV vf l x v
def mf(t:Tpl)(f:Int)(r:Rtr):List Dst:=if(aM t f r.id).2=true then [⟨r.id,(aM t f r.id).1⟩]else []
def fP(t:Tpl)(f:Int):List Dst:=if aD t=0 then t.rs.flatMap (mf t f)else []
def Gw(t:Tpl)(from_:Int):=okL [.agg [.sl 2 (t.rs.map Rtr.v) false,.sl 5 (t.ls.map Lnk.v) false],.int from_]
def KF(t:Tpl)(from_:Int)(t0:Int×List Dst):NF:=⟨[(5,.k,.mp none ((cJ ((me t).out) from_).map λp:Int×Int=>MK.n p.1) ((cJ ((me t).out) from_).map λp:Int×Int=>AV.int p.2)),(6,.k,.vec 0),(20,.k,.sl 2 (t.rs.map Rtr.v) false),(21,.k,.int ((t.rs.map Rtr.v).length:Int)),(22,.k,.int t0.1)],[.vec 2 (t0.2.map Dst.v) (ae (λ_=>rfl) t0.2)]⟩
@[reducible] def Gv:Nat→Type
 | 0=>Int×List Dst
 | _=>Unit
def xP(r:List Dst):AV:=.sl 2 (r.map Dst.v) false
def xO(t:Tpl)(from_:Int)(I0:(Int×List Dst)→Prop)(m0:(Int×List Dst)→Nat):Ax Tryz.prog Gv ((List Dst)):=
 (.callP (Im t)
(.br 80 (!(iu t)) (.ret ([]))
(.req 96 (aD t=0) λh1 =>
(.callP (Po t h1)
(.req 144 (A9 ((me t).out)) λh2 =>
(.callP (PH ((me t).out) from_ h2)
(.cmdL (.nilT 6 2) (.loop 0 (KF t from_) I0 m0 (0,[]) [256] λ(t0:Int×List Dst) b0 =>
(.br 17 (decide (t0.1<((t.rs.map Rtr.v).length:Int))) (.elI 17 Rtr.v t.rs t0.1 λx3 =>
(.mn 129 (jA AV.int (cJ ((me t).out) from_) x3.id 0) (.br 241 (aY (cJ ((me t).out) from_) x3.id) (.apX 337 Dst.v t0.2 [(⟨x3.id,aB (cJ ((me t).out) from_) x3.id 0⟩:Dst)] (t0.2.length+1)
(.bk 0 b0 (W (t0.1+1),t0.2++[(⟨x3.id,aB (cJ ((me t).out) from_) x3.id 0⟩:Dst)]) [337]))
(.bk 0 b0 (W (t0.1+1),t0.2) [0]))))
(.fz 0 Dst.v t0.2 (λ_=>rfl) (.ret (t0.2))))))))))))
def B5(t:Tpl)(from_:Int)(I0:(Int×List Dst)→Prop)(m0:(Int×List Dst)→Nat)(r0:List Dst):=(xO t from_ I0 m0).vp xP r0
theorem PA(t:Tpl)(f:Int)(ok:Gw t f):∃I0 m0,B5 t f I0 m0 (fP t f):=by
 refine⟨λs=>eK t.rs (mf t f) s.1 s.2,λs=>t.rs.length-s.1.toNat,?_⟩
 simp only[Gw,okU,Blk.ok,aL,List.length_map]at ok
 dsimp only[B5,xO,Gv,Ax.vp,Ax.vc];simp only[vcU,rfU,List.length_map]
 by_cases hc:aD t=0
 case neg =>
  have hv:iu t=false:=by unfold iu;simpa using hc
  rw[hv]
  exact⟨λ_=>by unfold fP;rw[if_neg hc],λe=>by simp at e⟩
 have hv:iu t=true:=by unfold iu;rw[hc];rfl
 have hn:=(cd hc).1
 rw[hv,show(me t).out=dl t from rfl]
 refine⟨λe=>by simp at e,λ_=>⟨hc,J5 hc,eK.zero,λs h=>⟨λc=>⟨h.idx,c,λx hx=>⟨λe=>?_,λe=>?_⟩⟩,λc=>?_⟩⟩⟩
 ·have hl:=h.len (b:=1) (λr _=>by unfold mf;split<;>simp)
  have q:mf t f x=[⟨x.id,aB (cJ (dl t) f) x.id 0⟩]:=by unfold mf;rw[BM hc,if_pos e];rfl
  exact⟨by omega,h.step (by omega) hx (by rw[q])⟩
 ·have q:mf t f x=[]:=by unfold mf;rw[BM hc,if_neg (by rw[e];simp)]
  exact h.step (by omega) hx (by rw[q,List.append_nil])
 ·rw[h.done c];unfold fP;rw[if_pos hc]
def PD(t:Tpl)(from_:Int):PC Tryz.prog:=⟨128,[(.a [(.s 2),(.s 5)]),.k],[.agg [.sl 2 (t.rs.map Rtr.v) false,.sl 5 (t.ls.map Lnk.v) false],.int from_],xP (fP t from_),ax.of_ok λok=>(PA t from_ ok).elim λI0 h=>h.elim λm0 h=>aw (sh:=(.s 2)) (enc:=xP) (a:=(xO t from_ I0 m0).an) h (by kernel_rfl) (AV.pureB_ok rfl),aq (by kernel_rfl)⟩
theorem Gu(t:Tpl)(f:Int):(fP t f).length≤24:=by
  unfold fP
  split
  · rename_i hc
    have hn:=(cd hc).1
    have:∀l:List Rtr,(l.flatMap (mf t f)).length≤l.length:=λl=>by
      induction l with
      | nil=>simp
      | cons r l ih => rw [List.flatMap_cons, List.length_append, List.length_cons]; have : (mf t f r).length ≤ 1 := by unfold mf; split <;> simp
                       omega
    have:=this t.rs;omega
  · simp
def xX(t:Tpl)(M:List (Hop×Int))(r:Rtr):List (Hop×Int):=(fP t r.id).foldl (λm d=>bo m ⟨r.id,d.r⟩ d.c) M
def cV(t:Tpl):List (Hop×Int):=t.rs.foldl (xX t) []
def HV(t:Tpl):=okL [.agg [.sl 2 (t.rs.map Rtr.v) false,.sl 5 (t.ls.map Lnk.v) false]]
def M5(t:Tpl)(t0:Int×(List (Hop×Int))):NF:=⟨[(1,.k,.ref 0 0),(3,.k,.mref 1),(10,.k,.sl 2 (t.rs.map Rtr.v) false),(11,.k,.int ((t.rs.map Rtr.v).length:Int)),(12,.k,.int t0.1)],[.box (.agg [.sl 2 (t.rs.map Rtr.v) false,.sl 5 (t.ls.map Lnk.v) false]),.map (some 2) (t0.2.map λp=>n0 p.1) (t0.2.map λp=>AV.int p.2) (ae (λ_=>rfl) _)]⟩
def M4(t:Tpl)(t0:Int×(List (Hop×Int)))(x1:Rtr)(t1:Int×(List (Hop×Int))):NF:=⟨[(1,.k,.ref 0 0),(3,.k,.mref 1),(5,.k,.ref 2 0),(10,.k,.sl 2 (t.rs.map Rtr.v) false),(11,.k,.int ((t.rs.map Rtr.v).length:Int)),(12,.k,.int t0.1),(19,.k,.sl 2 ((fP t x1.id).map Dst.v) false),(20,.k,.int (((fP t x1.id).map Dst.v).length:Int)),(21,.k,.int t1.1)],[.box (.agg [.sl 2 (t.rs.map Rtr.v) false,.sl 5 (t.ls.map Lnk.v) false]),.map (some 2) (t1.2.map λp=>n0 p.1) (t1.2.map λp=>AV.int p.2) (ae (λ_=>rfl) _),.box (.agg [.int x1.id,.bool x1.cap])]⟩
@[reducible] def HU:Nat→Type
 | 0=>Int×(List (Hop×Int))
 | 1=>Int×(List (Hop×Int))
 | _=>Unit
def zi(r:(List (Hop×Int))):AV:=.mp (some 2) (r.map λp:Hop×Int=>n0 p.1) (r.map λp:Hop×Int=>AV.int p.2)
def zh(t:Tpl)(I0:(Int×(List (Hop×Int)))→Prop)(m0:(Int×(List (Hop×Int)))→Nat)(I1:Int×(List (Hop×Int))→Rtr→(Int×(List (Hop×Int)))→Prop)(m1:Int×(List (Hop×Int))→Rtr→(Int×(List (Hop×Int)))→Nat):Ax Tryz.prog HU ((List (Hop×Int))):=
 (.loop 0 (M5 t) I0 m0 (0,([]:List (Hop×Int))) [0,32] λ(t0:Int×(List (Hop×Int))) b0 =>
(.br 18 (decide (t0.1<((t.rs.map Rtr.v).length:Int))) (.elI 18 Rtr.v t.rs t0.1 λx1 =>
(.callP (PD t x1.id)
(.loop 1 (M4 t t0 x1) (I1 t0 x1) (m1 t0 x1) (0,t0.2) [0,1,50] λ(t1:Int×(List (Hop×Int))) b1 =>
(.br 19 (decide (t1.1<(((fP t x1.id).map Dst.v).length:Int))) (.elI 19 Dst.v (fP t x1.id) t1.1 λx2 =>
(.mn 211 (Fx AV.int t1.2 (⟨x1.id,x2.r⟩:Hop) x2.c) (.bk 1 b1 (W (t1.1+1),bo t1.2 (⟨x1.id,x2.r⟩:Hop) x2.c) [0,1,2])))
(.bk 0 b0 (W (t0.1+1),t1.2) [0,1])))))
(.say (Rf (t0.2.map λp=>AV.int p.2)) (.cmdL (.frzM 1 (t0.2.map λp=>AV.int p.2) (ae (λ_=>rfl) _)) (.ret (t0.2))))))
def Cw(t:Tpl)(I0:(Int×(List (Hop×Int)))→Prop)(m0:(Int×(List (Hop×Int)))→Nat)(I1:Int×(List (Hop×Int))→Rtr→(Int×(List (Hop×Int)))→Prop)(m1:Int×(List (Hop×Int))→Rtr→(Int×(List (Hop×Int)))→Nat)(r0:(List (Hop×Int))):=(zh t I0 m0 I1 m1).vp zi r0
theorem QZ(t:Tpl)(ok:HV t):∃I0 m0 I1 m1,Cw t I0 m0 I1 m1 (cV t):=by
 refine⟨λs=>∃k:Nat,s.1=k∧k≤t.rs.length∧s.2=(t.rs.take k).foldl (xX t) [],λs=>t.rs.length-s.1.toNat,
  λs r q=>∃k:Nat,q.1=k∧k≤(fP t r.id).length∧q.2=((fP t r.id).take k).foldl (λm d=>bo m ⟨r.id,d.r⟩ d.c) s.2,λs r q=>(fP t r.id).length-q.1.toNat,?_⟩
 simp only[HV,okU,Blk.ok,aL,List.length_map]at ok
 dsimp only[Cw,zh,HU,Ax.vp,Ax.vc];simp only[vcU,rfU,List.length_map]
 refine⟨⟨0,rfl,by omega,rfl⟩,?_⟩
 rintro⟨_,M⟩ ⟨k,rfl,hk,hM⟩
 simp only at hM ⊢
 refine⟨λc=>⟨by omega,c,λr hr=>⟨⟨0,rfl,by omega,rfl⟩,?_⟩⟩,λc=>by rw[hM,List.take_of_length_le (by omega)];rfl⟩
 rintro⟨_,N⟩ ⟨j,rfl,hj,hN⟩
 simp only at hN ⊢
 have hdl:=Gu t r.id
 refine⟨λd=>⟨by omega,d,λy hy=>⟨⟨j+1,bM (n:=(fP t r.id).length) (by omega) (by omega),by omega,?_⟩,?_⟩⟩,λd=>⟨⟨k+1,bM (n:=t.rs.length) (by omega) (by omega),by omega,?_⟩,?_⟩⟩
 ·rw[Int.toNat_natCast]at hy
  rw[aU hy,List.foldl_append,←hN];rfl
 ·rw[bM (n:=(fP t r.id).length) (by omega) (by omega)];omega
 ·rw[Int.toNat_natCast]at hr
  rw[aU hr,List.foldl_append,←hM]
  show N=xX t M r
  rw[hN,List.take_of_length_le (by omega)];rfl
 ·rw[bM (n:=t.rs.length) (by omega) (by omega)];omega
def zj(t:Tpl):PC Tryz.prog:=⟨93,[(.a [(.s 2),(.s 5)])],[.agg [.sl 2 (t.rs.map Rtr.v) false,.sl 5 (t.ls.map Lnk.v) false]],zi (cV t),ax.of_ok λok=>(QZ t ok).elim λI0 h=>h.elim λm0 h=>h.elim λI1 h=>h.elim λm1 h=>aw (sh:=.k) (enc:=zi) (a:=(zh t I0 m0 I1 m1).an) h (by kernel_rfl) (AV.pureB_ok rfl),aq (by kernel_rfl)⟩
structure zo (t:Tpl) (M:List (Hop×Int)):Prop where
  nd:(av M).Nodup
  ok:∀p∈M,aM t p.1.a p.1.b=(p.2,true)
theorem KE{t:Tpl}{f:Int}{d:Dst}(h:d∈fP t f):aM t f d.r=(d.c,true):=by
 unfold fP at h
 split at h
 ·obtain⟨r,_,h⟩:=List.mem_flatMap.mp h
  unfold mf at h
  split at h
  ·rename_i e
   rw[List.mem_singleton]at h
   subst h
   exact Prod.ext rfl e
  ·cases h
 ·cases h
theorem P8{t:Tpl}(hc:aD t=0){f g:Int}(h:(aM t f g).2=true)(hg:aG t g=true):⟨g,(aM t f g).1⟩∈fP t f:=by
 unfold fP
 rw[if_pos hc]
 obtain⟨r,hr,e⟩:=List.any_eq_true.mp hg
 have e:r.id=g:=eq_of_beq e
 refine List.mem_flatMap.mpr ⟨r,hr,?_⟩
 unfold mf
 rw[e,if_pos h];exact List.mem_singleton.mpr rfl
theorem zo.put{t:Tpl}{M:List (Hop×Int)}(h:zo t M){x y c:Int}(e:aM t x y=(c,true)):zo t (bo M ⟨x,y⟩ c)∧(⟨x,y⟩,c)∈bo M ⟨x,y⟩ c∧∀p∈M,p∈bo M ⟨x,y⟩ c:=by
 refine⟨⟨dy h.nd,λp hp=>?_⟩,(bP h.nd).mpr (.inl rfl),λp hp=>?_⟩
 ·rcases(bP h.nd).mp hp with rfl|⟨hp,_⟩
  ·exact e
  ·exact h.ok p hp
 ·rw[bP h.nd]
  by_cases q:p.1=⟨x,y⟩
  ·left
   have:=h.ok p hp
   rw[q,e]at this
   exact Prod.ext q (Prod.mk.inj this).1.symm
  ·exact .inr ⟨hp,q⟩
theorem B7{t:Tpl}(x:Int):∀(l:List Dst) (M:List (Hop×Int)),(∀d∈l,aM t x d.r=(d.c,true))→zo t M →
  zo t (l.foldl (λm d=>bo m ⟨x,d.r⟩ d.c) M)∧(∀p∈M,p∈l.foldl (λm d=>bo m ⟨x,d.r⟩ d.c) M)∧∀d∈l,(⟨x,d.r⟩,d.c)∈l.foldl (λm d=>bo m ⟨x,d.r⟩ d.c) M
 | [],M,_,h=>⟨h,λp hp=>hp,λd hd=>by simp at hd⟩
 | d::l,M,hl,h=>by
  obtain⟨g1,g2,g3⟩:=h.put (hl d (by simp))
  obtain⟨k1,k2,k3⟩:=B7 x l _ (λd hd=>hl d (by simp[hd])) g1
  refine⟨k1,λp hp=>k2 p (g3 p hp),λd' hd'=>?_⟩
  rcases List.mem_cons.mp hd' with rfl|hd'
  ·exact k2 _ g2
  ·exact k3 d' hd'
theorem rK{t:Tpl}:∀(l:List Rtr) (M:List (Hop×Int)),zo t M→zo t (l.foldl (xX t) M)∧(∀p∈M,p∈l.foldl (xX t) M)∧∀r∈l,∀d∈fP t r.id,(⟨r.id,d.r⟩,d.c)∈l.foldl (xX t) M
 | [],M,h=>⟨h,λp hp=>hp,λr hr=>by simp at hr⟩
 | r::l,M,h=>by
  obtain⟨g1,g2,g3⟩:=B7 r.id (fP t r.id) M (λd hd=>KE hd) h
  obtain⟨k1,k2,k3⟩:=rK l (xX t M r) g1
  refine⟨k1,λp hp=>k2 p (g2 p hp),λr' hr' d hd=>?_⟩
  rcases List.mem_cons.mp hr' with rfl|hr'
  ·exact k2 _ (g3 d hd)
  ·exact k3 r' hr' d hd
theorem dU{t:Tpl}{x y:Int}(h:(aM t x y).2=true):aD t=0∧aG t x=true∧aG t y=true:=by
 unfold aM at h
 split at h
 ·cases h
 ·rename_i e
  have h1:hs5 t x=true:=by simp at e;exact e.1
  have h2:hs5 t y=true:=by simp at e;exact e.2
  exact⟨(dq.mp h1).1,(dq.mp h1).2,(dq.mp h2).2⟩
theorem BO{t:Tpl}{x y:Int}(h:(aM t x y).2=false):(aM t x y).1=0:=by
 unfold aM at *
 split
 ·rfl
 ·rename_i e
  rw[if_neg e]at h
  split
  ·rfl
  ·rename_i g;rw[if_neg g]at h;cases h
theorem rJ(t:Tpl)(x y:Int):aY (cV t) ⟨x,y⟩=(aM t x y).2:=by
 obtain⟨g1,_,g3⟩:=rK (t:=t) t.rs [] ⟨List.nodup_nil,λp hp=>by simp at hp⟩
 rw[Bool.eq_iff_iff,bY]
 constructor
 ·rintro⟨v,hv⟩
  have:=g1.ok _ hv
  rw[show aM t x y=_ from this]
 ·intro h
  obtain⟨hc,hx,hy⟩:=dU h
  obtain⟨r,hr,e⟩:=List.any_eq_true.mp hx
  have e:r.id=x:=eq_of_beq e
  have:=g3 r hr _ (P8 hc (by rw[e];exact h) hy)
  rw[e]at this
  exact⟨_,this⟩
theorem KH(t:Tpl)(x y:Int):aB (cV t) ⟨x,y⟩ 0=(aM t x y).1:=by
 obtain⟨g1,_,g3⟩:=rK (t:=t) t.rs [] ⟨List.nodup_nil,λp hp=>by simp at hp⟩
 cases e:(aM t x y).2 with
 | false=>rw[bV (by rw[rJ,e]),BO e]
 | true =>
  have h:=bI (z:=0) (show aY (cV t) ⟨x,y⟩=true by rw[rJ,e])
  have:=g1.ok _ h
  rw[show aM t x y=_ from this]
def jn(m:List (Hop×Int))(x d:Int)(h:Hop)(c:Int):Bool:=aY m ⟨x,h.a⟩ && (aY m ⟨h.b,d⟩ && (W (W (aB m ⟨x,h.a⟩ 0+c)+aB m ⟨h.b,d⟩ 0)==aB m ⟨x,d⟩ 0))
def N3(m:(List (Hop×Int)))(x:Int)(d:Int)(h_:Hop)(cost:Int):=okL [.mp (some 2) (m.map λp:Hop×Int=>n0 p.1) (m.map λp:Hop×Int=>AV.int p.2),.int x,.int d,.agg [.int h_.a,.int h_.b],.int cost]
def vH(r:Bool):AV:=.bool r
def vG(m:(List (Hop×Int)))(x:Int)(d:Int)(h_:Hop)(cost:Int):Ax Tryz.prog noS (Bool):=
 (.mn 112 (nm AV.int m (⟨x,h_.a⟩:Hop) 0) (.mn 288 (nm AV.int m (⟨h_.b,d⟩:Hop) 0) (.br 416 (aY m (⟨x,h_.a⟩:Hop)) (.br 464 (aY m (⟨h_.b,d⟩:Hop)) (.mn 608 (nm AV.int m (⟨x,d⟩:Hop) 0) (.ret ((W ((W ((aB m (⟨x,h_.a⟩:Hop) 0)+cost))+(aB m (⟨h_.b,d⟩:Hop) 0)))==(aB m (⟨x,d⟩:Hop) 0))))
(.ret (false)))
(.ret (false)))))
def zI(m:(List (Hop×Int)))(x:Int)(d:Int)(h_:Hop)(cost:Int)(r0:Bool):=(vG m x d h_ cost).vp vH r0
theorem N2(m:List (Hop×Int))(x d:Int)(h:Hop)(c:Int)(ok:N3 m x d h c):zI m x d h c (jn m x d h c):=by
 dsimp only[zI,vG,noS,Ax.vp,Ax.vc];simp only[vcU,rfU,List.length_map]
 unfold jn
 refine⟨λa=>⟨λb=>by rw[a,b];rfl,λb=>by rw[a,b];rfl⟩,λa=>by rw[a];rfl⟩
def cG(m:(List (Hop×Int)))(x:Int)(d:Int)(h_:Hop)(cost:Int):PC Tryz.prog:=⟨94,[.k,.k,.k,.k,.k],[.mp (some 2) (m.map λp:Hop×Int=>n0 p.1) (m.map λp:Hop×Int=>AV.int p.2),.int x,.int d,.agg [.int h_.a,.int h_.b],.int cost],vH (jn m x d h_ cost),ax.of_ok λok=>aw (sh:=.k) (enc:=vH) (a:=(vG m x d h_ cost).an) (N2 m x d h_ cost ok) (by kernel_rfl) (AV.pureB_ok rfl),aq (by kernel_rfl)⟩
theorem C9{P:Program}{n:Nat}{o:Oper}{f:Nat}{tm:Nat→AV}{hp:Hp}{g:AO}{xs:List AO}(ho:cOp P o.op o.type=.call g xs)(hd:∀d,o.dst=some d→d<n)
  {fid:FuncId} {caps:List AV} (hg:evO tm g=.func fid caps) {foot:List Nat} {Qv:AV→Eff→Prop} (h:iY P n fid (xs.map (evO tm)++caps) f hp foot Qv)
  {c:Ctx} {A:Nat→Prop} {μ:Mu} {fr:Nat→Prop} {a:Act} {w:World} {K:Act→World→Prop} {Q:Exit→Act→World→Prop} (H:aF P c A μ fr tm hp n a w) (h3:∀j,j<16→fr (f+j))
  (hK:∀v e,Qv v e→∀a' w' A' μ',aF P c A' μ' (λb=>fr b∧¬(f≤b∧b<f+16)) (aK o.dst v tm) (bW e hp) n a' w'→K a' w'):o.wp P a w K Q:=by
 obtain⟨⟨fn,f1,f2,f3⟩,hcall⟩:=h
 have hop:=om ho
 obtain⟨g',args,ts,ho',rfl,rfl⟩:=hop
 have hgr:=H.ev g'
 rw[hg]at hgr
 obtain⟨cvs,e1,e2⟩:=hgr
 have hxs:(args.toList.map (cO P)).map (evO tm)=args.toList.map λx=>evO tm (cO P x):=by rw[List.map_map];rfl
 rw[hxs]at hcall
 have hargs:=(H.evs args.toList).append e2
 have:=hcall c A μ fr tm hp a w _ H (λ_ _=>rfl) h3 hargs
 unfold Oper.wp
 rw[nX ho' e1 f1 f2 f3,Oper.upon_enter]
 have ea:args.map a.eval++cvs.toArray=(args.toList.map a.eval++cvs).toArray:=by apply Array.ext';simp
 rw[ea]
 refine this.mono ?_
 rintro e' w' ⟨v,e,hq,cv,A',μ',rfl,r1,r2⟩
 exact hK v e hq _ _ _ _ (r1.put o.dst hd r2)
theorem AWP.regE{P:Program}{k n:Nat}{Q:X→S3→Prop}{s:S3}{os1 os2:List aJ}{d:Option Nat}{g:AO}{xs:List AO}
  (h:evT P n os1 s.nx ⟨s.tm,s.hp⟩ (λs1 f1=>∃fid caps foot Qv,evO s1.tm g=.func fid caps∧iY P n fid (xs.map (evO s1.tm)++caps) f1 s1.hp foot Qv ∧
   ∀v e,Qv v e→evT P n os2 (f1+16) ⟨aK d v s1.tm,bW e s1.hp⟩ (λs' f=>Q .normal ⟨s'.tm,s'.hp,f⟩))):AWP P k n (.reg (os1++⟨d,.call g xs,none⟩::os2)) Q s:=by
 intro code hc c a w H
 cases code<;>simp only[dV]at hc<;>try cases hc
 rename_i id ops' draw
 rcases db hc with h'|⟨hd,h'⟩|⟨_,_,_,h'⟩
 ·cases h'
 ·subst hd
  have h':os1++⟨d,.call g xs,none⟩::os2=ops'.toList.map (eY P n ops'):=AC.reg.inj h'
  obtain⟨h0,A,μ,hr⟩:=H
  obtain⟨l1,l2,e1,rfl,e3⟩:=List.map_eq_append_iff.mp h'.symm
  cases l2 with
  | nil=>cases e3
  | cons o l2 =>
   rw[List.map_cons]at e3
   obtain⟨e4,rfl⟩:=List.cons.inj e3
   refine wp_region_list ?_
   rw[e1]
   refine jE (c:=c) _ (o::l2) (λs1 f1 a1 w1 A1 μ1 hK hr1=>?_) l1 s.nx ⟨s.tm,s.hp⟩ a w A μ h hr
   obtain⟨fid,caps,foot,Qv,k1,k2,k3⟩:=hK
   rcases iT P n ops' o with hb|⟨gd,hg,hd,hb⟩
   ·rw[hb]at e4;cases e4
   rw[hb]at e4
   obtain⟨rfl,e5,rfl⟩:o.dst=d∧cOp P o.op o.type=.call g xs∧gd=none:=by
    have e6:=aJ.mk.inj e4
    exact⟨e6.1,e6.2.1,e6.2.2⟩
   have hgd:o.guard=none:=by
    cases q:o.guard with
    | none=>rfl
    | some jw=>rw[q]at hg;obtain⟨j,wt⟩:=jw;simp only[fo]at hg;split at hg<;>cases hg
   unfold wpList
   rw[if_pos (by simp[Region.wanted,hgd])]
   refine .inl (C9 e5 hd k1 k2 hr1 (λj _=>by omega) λv e hq a' w' A' μ' hr'=>?_)
   exact oX (c:=c) _ (λs' f a w A μ hK hr=>⟨⟨s'.tm,s'.hp,f⟩,hK,h0,A,μ,hr⟩) l2 (f1+16) _ a' w' A' μ' (k3 v e hq) (hr'.free λb hb=>⟨by omega,λh=>by omega⟩)
 ·cases h'
abbrev Rws:=List (Int×List Int)
def kyL(L:Rws):List MK:=L.map λp=>MK.n p.1
structure Fam (hp:Hp) (nx bm:Nat) (ns:List Nat) (L:Rws):Prop where
  hm:hp bm=some (.map none (kyL L) (ns.map AV.vec))
  ln:ns.length=L.length
  nd:ns.Nodup
  kd:(av L).Nodup
  lt:∀b∈ns,b<nx
  bl:bm<nx
  row:∀(i:Nat) b p,ns[i]?=some b→L[i]?=some p→hp b=some (.vec 1 (p.2.map AV.int))
theorem Fam.vec{hp:Hp}{nx bm:Nat}{ns:List Nat}{L:Rws}(h:Fam hp nx bm ns L){b:Nat}(hb:b∈ns):∃es,hp b=some (.vec 1 es):=by
 obtain⟨i,hi⟩:=List.mem_iff_getElem?.mp hb
 have hl:=ap hi
 have hl':i<L.length:=by rw[←h.ln];exact hl
 exact⟨_,h.row i b _ hi (List.getElem?_eq_getElem hl')⟩
theorem Fam.ne{hp:Hp}{nx bm:Nat}{ns:List Nat}{L:Rws}(h:Fam hp nx bm ns L){b:Nat}(hb:∀es,hp b≠some (.vec 1 es)):b ∉ ns:=λc=>by
 obtain⟨es,e⟩:=h.vec c;exact hb es e
theorem Fam.bm_no{hp:Hp}{nx bm:Nat}{ns:List Nat}{L:Rws}(h:Fam hp nx bm ns L):bm ∉ ns:=h.ne λes e=>by rw[h.hm]at e;cases e
theorem Fam.keep{hp hp':Hp}{nx nx' bm:Nat}{ns:List Nat}{L:Rws}(h:Fam hp nx bm ns L)(e:∀b,b<nx→(b=bm∨b∈ns)→hp' b=hp b)(hn:nx≤nx'):Fam hp' nx' bm ns L:=
 ⟨(e bm h.bl (.inl rfl)).trans h.hm,h.ln,h.nd,h.kd,λb hb=>Nat.lt_of_lt_of_le (h.lt b hb) hn,Nat.lt_of_lt_of_le h.bl hn,λi b p hi hp=>(e b (h.lt b (List.mem_of_getElem? hi)) (.inr (List.mem_of_getElem? hi))).trans (h.row i b p hi hp)⟩
theorem qV{L:Rws}{k:Int}:MK.n k∈kyL L↔k∈av L:=by
 unfold kyL av
 constructor
 ·intro h;obtain⟨p,hp,e⟩:=List.mem_map.mp h;exact List.mem_map.mpr ⟨p,hp,MK.n.inj e⟩
 ·intro h;obtain⟨p,hp,rfl⟩:=List.mem_map.mp h;exact List.mem_map.mpr ⟨p,hp,rfl⟩
theorem Kl{L:Rws}(hn:(av L).Nodup){k:Int}{i:Nat}{p:Int×List Int}(hp:L[i]?=some p)(e:p.1=k):(kyL L).idxOf (MK.n k)=i∧ep L k=i:=by
 have h1:(av L)[i]?=some k:=by unfold av;rw[List.getElem?_map,hp,←e];rfl
 have h2:(kyL L)[i]?=some (MK.n k):=by unfold kyL;rw[List.getElem?_map,hp,←e];rfl
 refine⟨nH ?_ h2,?_⟩
 ·have:kyL L=(av L).map MK.n:=by unfold kyL av;rw[List.map_map];rfl
  rw[this]
  exact List.Pairwise.map MK.n (λa b h e=>h (MK.n.inj e)) hn
 ·obtain⟨hl,rfl⟩:=List.getElem?_eq_some_iff.mp h1
  exact hn.idxOf_getElem i hl
theorem Fam.no{hp:Hp}{nx bm:Nat}{ns:List Nat}{L:Rws}(h:Fam hp nx bm ns L){k:Int}(hk:aY L k=false)(z v:AV)(kk:Option Nat) :
  cZ (kyL L) (ns.map AV.vec) (MK.n k) z false=z∧dO kk (kyL L) (ns.map AV.vec) (MK.n k) v=.map kk (kyL L++[MK.n k]) (ns.map AV.vec++[v]):=by
 have hn:MK.n k ∉ kyL L:=λc=>by rw[qV]at c;unfold aY at hk;simp[c]at hk
 unfold cZ dO
 rw[if_neg hn,if_neg hn];exact⟨rfl,rfl⟩
theorem Fam.yes{hp:Hp}{nx bm:Nat}{ns:List Nat}{L:Rws}(h:Fam hp nx bm ns L){k:Int}(hk:aY L k=true):∃(i b:Nat),ns[i]?=some b∧L[i]?=some (k,aB L k [])∧ep L k=i∧hp b=some (.vec 1 ((aB L k []).map AV.int)) ∧
  (∀z,cZ (kyL L) (ns.map AV.vec) (MK.n k) z false=.vec b)∧∀kk v,dO kk (kyL L) (ns.map AV.vec) (MK.n k) v=.map kk (kyL L) ((ns.map AV.vec).set i v):=by
 have hm:k∈av L:=by unfold aY at hk;simpa using hk
 obtain⟨v,hv⟩:=kz hm
 have hval:aB L k []=v:=by unfold aB;rw[hv]
 have hi:=ap hv
 have hb:ns[ep L k]?=some (ns[ep L k]'(by rw[h.ln];exact hi)):=List.getElem?_eq_getElem _
 generalize ns[ep L k]'(by rw[h.ln];exact hi)=b at hb
 obtain⟨e1,_⟩:=Kl h.kd hv rfl
 refine⟨ep L k,b,hb,by rw[hval];exact hv,rfl,by rw[hval];exact h.row _ b _ hb hv,λz=>?_,λkk v=>?_⟩
 ·unfold cZ
  rw[if_pos (qV.mpr hm),e1,List.getD_eq_getElem?_getD,List.getElem?_map,hb];rfl
 ·unfold dO
  rw[if_pos (qV.mpr hm),e1]
theorem qF{L:Rws}{k:Int}(hk:aY L k=false)(v:List Int):bo L k v=L++[(k,v)]:=by
 have hn:k ∉ av L:=λc=>by unfold aY at hk;simp[c]at hk
 unfold bo;rw[if_neg hn]
theorem nj{L:Rws}{k:Int}(hk:aY L k=true)(v:List Int):bo L k v=L.set (ep L k) (k,v):=by
 have hm:k∈av L:=by unfold aY at hk;simpa using hk
 unfold bo;rw[if_pos hm]
theorem Fam.put_no{hp hp':Hp}{nx nx' bm f:Nat}{ns:List Nat}{L:Rws}(h:Fam hp nx bm ns L){k y:Int}(hk:aY L k=false)(hf:nx≤f)(hf':f<nx')
  (e1:hp' bm=some (.map none (kyL L++[MK.n k]) (ns.map AV.vec++[.vec f]))) (e2:hp' f=some (.vec 1 [.int y])) (e3:∀b,b<nx→b≠bm→hp' b=hp b):Fam hp' nx' bm (ns++[f]) (bo L k (aB L k []++[y])):=by
 have hv:aB L k []=[]:=bV hk
 rw[hv,qF hk]
 refine⟨by rw[e1];simp[kyL],by simp[h.ln],?_,?_,λb hb=>?_,by have:=h.bl;omega,λi b p hi hp=>?_⟩
 ·refine List.nodup_append.mpr ⟨h.nd,by simp,λa ha b hb=>?_⟩
  rw[List.mem_singleton.mp hb];have:=h.lt a ha;omega
 ·rw[show av (L++[(k,[]++[y])])=av L++[k] by simp[av]]
  refine List.nodup_append.mpr ⟨h.kd,by simp,λa ha b hb=>?_⟩
  rw[List.mem_singleton.mp hb];rintro rfl;unfold aY at hk;simp[ha]at hk
 ·rcases List.mem_append.mp hb with hb|hb
  ·have:=h.lt b hb;omega
  ·rw[List.mem_singleton.mp hb];exact hf'
 ·by_cases c:i<ns.length
  ·rw[List.getElem?_append_left c]at hi
   rw[List.getElem?_append_left (by rw[←h.ln];exact c)]at hp
   have hbm:=List.mem_of_getElem? hi
   rw[e3 b (h.lt b hbm) (λq=>h.bm_no (q ▸ hbm))]
   exact h.row i b p hi hp
  ·have hl:=ap hi
   rw[List.length_append,List.length_singleton]at hl
   obtain rfl:i=ns.length:=by omega
   rw[List.getElem?_append_right (Nat.le_refl _),Nat.sub_self]at hi
   rw[List.getElem?_append_right (by rw[h.ln];exact Nat.le_refl _),h.ln,Nat.sub_self]at hp
   cases hi;cases hp
   exact e2
theorem Fam.put_yes{hp hp':Hp}{nx nx' bm f i b0:Nat}{ns:List Nat}{L:Rws}(h:Fam hp nx bm ns L){k y:Int}(hk:aY L k=true)(hi:ns[i]?=some b0)(hL:L[i]?=some (k,aB L k []))(hx:ep L k=i)(hf:nx≤f)(hf':f<nx')
  (e1:hp' bm=some (.map none (kyL L) ((ns.map AV.vec).set i (.vec f)))) (e2:hp' f=some (.vec 1 ((aB L k []).map AV.int++[.int y]))) (e3:∀b,b<nx→b≠bm→b≠b0→hp' b=hp b):Fam hp' nx' bm (ns.set i f) (bo L k (aB L k []++[y])):=by
 rw[nj hk,hx]
 have hil:=ap hi
 have hky:kyL (L.set i (k,aB L k []++[y]))=kyL L:=by
  unfold kyL
  rw[List.map_set]
  refine List.ext_getElem? λj=>?_
  rw[List.getElem?_set]
  split
  ·rename_i e;subst e
   rw[List.length_map,if_pos (ap hL),List.getElem?_map,hL];rfl
  ·rfl
 have hmk:av (L.set i (k,aB L k []++[y]))=av L:=by
  unfold av
  rw[List.map_set]
  refine List.ext_getElem? λj=>?_
  rw[List.getElem?_set]
  split
  ·rename_i e;subst e
   rw[List.length_map,if_pos (ap hL),List.getElem?_map,hL];rfl
  ·rfl
 refine⟨by rw[e1,hky,List.map_set],by simp[h.ln],?_,by rw[hmk];exact h.kd,λb hb=>?_,by have:=h.bl;omega,λj b p hj hp=>?_⟩
 ·have hset:ns.set i f=ns.take i++f::ns.drop (i+1):=by rw[List.set_eq_take_append_cons_drop,if_pos hil]
  rw[hset]
  have hnd:=h.nd
  rw[←List.take_append_drop i ns,List.drop_eq_getElem_cons hil]at hnd
  obtain⟨q1,q2,q3⟩:=List.nodup_append.mp hnd
  refine List.nodup_append.mpr ⟨q1,List.nodup_cons.mpr ⟨λc=>?_,(List.nodup_cons.mp q2).2⟩,λa ha b hb=>?_⟩
  ·have:=h.lt f (List.mem_of_mem_drop c);omega
  ·rcases List.mem_cons.mp hb with rfl|hb
   ·have:=h.lt a (List.mem_of_mem_take ha);omega
   ·exact q3 a ha b (List.mem_cons_of_mem _ hb)
 ·rcases List.mem_or_eq_of_mem_set hb with hb|rfl
  ·have:=h.lt b hb;omega
  ·exact hf'
 ·rw[List.getElem?_set]at hj hp
  by_cases c:i=j
  ·subst c
   rw[if_pos rfl,if_pos hil]at hj
   rw[if_pos rfl,if_pos (ap hL)]at hp
   cases hj;cases hp
   rw[e2];simp
  ·rw[if_neg c]at hj hp
   have hbm:=List.mem_of_getElem? hj
   have hne:b≠b0:=λq=>by subst q;exact c ((List.getElem?_inj hil h.nd).mp (hi.trans hj.symm))
   rw[e3 b (h.lt b hbm) (λq=>h.bm_no (q ▸ hbm)) hne]
   exact h.row j b p hj hp
theorem Fam.give{k n:Nat}{tm:Nat→AV}{hp:Hp}{nx bm:Nat}{ns:List Nat}{L:Rws}(h:Fam hp nx bm ns L) :
  ∃hp',aA k n ⟨tm,hp,nx⟩ ⟨tm,hp',nx⟩∧hp' bm=some (.map none (kyL L) (L.map λp=>AV.sl 1 (p.2.map AV.int) false))∧∀b,b≠bm→b ∉ ns→hp' b=hp b:=by
 let f:Nat→Nat:=λi=>(ns[i]?).getD (nx+i)
 have hf1:∀i,i<ns.length→ns[i]?=some (f i):=λi hi=>by simp only[f];rw[List.getElem?_eq_getElem hi];rfl
 have hf2:∀i,¬i<ns.length→f i=nx+i:=λi hi=>by simp only[f];rw[List.getElem?_eq_none (by omega)];rfl
 obtain⟨hp',vs',w,a1,a2,a3,a4,a5⟩:=aA.giveRows (k:=k) (n:=n) (tm:=tm) (nx:=nx) (kk:=1) bm f (λi=>((L[i]?).elim [] (·.2)).map AV.int) (λi=>aH (ae (λ_=>rfl) _)) (λi j e=>by
   by_cases ci:i<ns.length<;>by_cases cj:j<ns.length
   ·have h1:=hf1 i ci;have h2:=hf1 j cj
    rw[←e]at h2
    exact(List.getElem?_inj ci h.nd).mp (h1.trans h2.symm)
   ·have h1:=h.lt _ (List.mem_of_getElem? (hf1 i ci));have h2:=hf2 j cj;omega
   ·have h1:=h.lt _ (List.mem_of_getElem? (hf1 j cj));have h2:=hf2 i ci;omega
   ·have h1:=hf2 i ci;have h2:=hf2 j cj;omega)
  (λi e=>by
   by_cases ci:i<ns.length
   ·exact h.bm_no (e ▸ List.mem_of_getElem? (hf1 i ci))
   ·have h1:=hf2 i ci;have:=h.bl;omega) h.hm ns.length (λi hi=>⟨by rw[List.getElem?_map,hf1 i hi];rfl,by
    have hl':i<L.length:=by rw[←h.ln];exact hi
    have hL:=List.getElem?_eq_getElem hl'
    rw[h.row i _ _ (hf1 i hi) hL,hL];rfl⟩)
 refine⟨hp',w,?_,λb hb hn=>a5 b hb λi hi e=>hn (e ▸ List.mem_of_getElem? (hf1 i hi))⟩
 rw[a1]
 congr 2
 refine List.ext_getElem? λi=>?_
 by_cases hi:i<ns.length
 ·have hl':i<L.length:=by rw[←h.ln];exact hi
  have hL:=List.getElem?_eq_getElem hl'
  rw[a3 i hi,List.getElem?_map,hL];rfl
 ·rw[List.getElem?_eq_none (by rw[a2];simpa using hi),List.getElem?_eq_none (by rw[List.length_map,←h.ln];omega)]
def Q1:AF:=
 ⟨32,1,[.tmp 2],
 .seq (.reg [⟨(some 2),.move (.c (.val (.map none))),none⟩])
 (.seq (.reg [⟨(some 8),.mkm none,none⟩,⟨(some 3),.move (.t 8),none⟩])
 (.seq (.seq (.reg [⟨(some 9),.move (.t 0),none⟩,⟨(some 10),.rng (.t 9),none⟩])
 (.block 0 (.loop (.seq (.reg [⟨(some 11),.nxt (.t 10),none⟩,⟨(some 12),.ext 0 (.t 11),none⟩])
 (.seq (.cond (.t 12) (.skip) (.exit 0))
 (.block 1 (.seq (.reg [⟨(some 13),.ent (.t 10),none⟩,⟨(some 14),.ext 0 (.t 13),none⟩,⟨(some 15),.ext 1 (.t 13),none⟩,⟨(some 4),.move (.t 14),none⟩,⟨(some 5),.move (.t 15),none⟩])
 (.seq (.reg [⟨(some 16),.move (.t 5),none⟩,⟨(some 17),.len (.t 16),none⟩,⟨(some 18),.move (.c (.val (.int .i64 0))),none⟩])
 (.block 2 (.loop (.seq (.reg [⟨(some 19),.bin .lss (.t 18) (.t 17),none⟩])
 (.seq (.cond (.t 19) (.skip) (.exit 2))
 (.seq (.block 3 (.seq (.reg [⟨(some 20),.iaddr 1 (.t 16) (.t 18),none⟩,⟨(some 21),.load false 1 (.t 20),none⟩,⟨(some 7),.move (.t 21),none⟩])
 (.reg [⟨(some 22),.move (.t 3),none⟩,⟨(some 23),.move (.t 7),none⟩,⟨(some 24),.move (.t 3),none⟩,⟨(some 25),.move (.t 7),none⟩,⟨(some 26),.mget none ((.sl 0 [] true)) false (.t 24) (.t 25),none⟩,⟨(some 27),.move (.t 4),none⟩,⟨(some 28),.lit 1 1 (.val (.int .i64 0)) [(0,(.t 27))],none⟩,⟨(some 29),.append 1 8 (.t 26) (.t 28),none⟩,⟨none,.mset none (.t 22) (.t 23) (.t 29),none⟩])))
 (.reg [⟨(some 30),.bin .add (.t 18) (.c (.val (.int .i64 1))),none⟩,⟨(some 18),.move (.t 30),none⟩]))))))))))))))
 (.seq (.reg [⟨(some 31),.move (.t 3),none⟩,⟨(some 2),.move (.t 31),none⟩])
 (.ret))))⟩
theorem LC:fL Tryz.prog Tryz.f50=some Q1:=by kernel_rfl
def pu(M:Rws)(k y:Int):Rws:=bo M k (aB M k []++[y])
def jm(x:Int)(M:Rws)(l:List Int):Rws:=l.foldl (λM y=>pu M y x) M
def ge(L:Rws)(is:List Nat):Rws:=is.foldl (λM i=>jm (L.getD i (0,[])).1 M (L.getD i (0,[])).2) []
def ip(L:Rws):Blk:=.map none (kyL L) (L.map λp=>AV.sl 1 (p.2.map AV.int) false)
theorem dR(L:Rws):aZ (L.map λp=>AV.sl 1 (p.2.map AV.int) false):=aH (ae (λp=>by show AV.pureB (AV.sl 1 (p.2.map AV.int) false)=true;rw[AV.pureB];first|done|exact ae (λ_=>rfl) _) _)
structure vn (L:Rws):Prop where
  len:L.length≤100
  ky:∀p∈L,Am.inK .i64 p.1
  row:∀p∈L,p.2.length≤100
  el:∀p∈L,∀y∈p.2,Am.inK .i64 y
theorem nxF{b nx:Nat}(h:b<nx):(∀k,(b=nx+k)=False)∧(∀k,(nx+k=b)=False)∧(b=nx)=False∧(nx=b)=False:=
 ⟨λk=>by simp;omega,λk=>by simp;omega,by simp;omega,by simp;omega⟩
theorem wo{M:Rws}{m:Nat}(h:∀p∈M,p.2.length≤m)(k y:Int):∀p∈pu M k y,p.2.length≤m+1:=λp hp=>by
 unfold pu at hp
 have hv:(aB M k []).length≤m:=by
  cases e:aY M k with
  | false=>rw[bV e];simp
  | true=>exact h _ (bI e)
 cases e:aY M k with
 | false =>
  rw[qF e]at hp
  rcases List.mem_append.mp hp with hp|hp
  ·have:=h p hp;omega
  ·rw[List.mem_singleton.mp hp];simp;omega
 | true =>
  rw[nj e]at hp
  rcases List.mem_or_eq_of_mem_set hp with hp|rfl
  ·have:=h p hp;omega
  ·simp;omega
theorem rG{kk:Option Nat}{f:Nat}{ρ:AO→AV}{hp:Hp}:evA (.mkm kk) f ρ hp={ c:=True,v:=.mref f,ad:=some (f,.map kk [] []) }:=rfl
structure TuI (L:Rws) (st:List Nat) (ck:Nat) (s:S3) (M:Rws) (is:List Nat):Prop where
  nx:81≤s.nx
  t3:s.tm 3=.mref 17
  t10:s.tm 10=.ref 65 0
  h0:s.hp 0=some (.mst none (kyL L) (L.map λp=>AV.sl 1 (p.2.map AV.int) false) st ck)
  hi:s.hp 65=some (.itr 0 st ck (is.map λi=>st.getD i 0))
  fam:∃ns,Fam s.hp s.nx 17 ns M
theorem DL(L:Rws)(hL:vn L):eJ Tryz.prog 50 [.mref 0] [ip L] (λr h'=>∃is:List Nat,is.Nodup∧(∀i∈is,i<L.length)∧(∀i,i<L.length→i∈is)∧r=.mref 1∧h'=[none,some (ip (ge L is))]):=by
 refine eJ.walk Tryz.func50 LC (by simp[Q1]) ?_
 unfold Q1
 simp only[fq,fK,List.length_cons,List.length_nil]
 refine AWP.open 0 (ai _ _ _) λst ck hs1 hs2 hn hv=>?_
 have hs2:st.length=L.length:=by rw[hs2];simp[kyL]
 have hkO:∀q∈kyL L,kOk q:=λq hq=>by
  obtain⟨p,hp,rfl⟩:=List.mem_map.mp hq
  exact hL.ky p hp
 refine AWP.seq' ?_
 refine AWP.reg' λK hK=>?_
 try simp only[ak,ao,am,eq_self,implies_true,forall_eq_or_imp,forall_eq,Nat.reduceEqDiff,↓reduceIte,Nat.reduceAdd,Nat.reduceLeDiff,Nat.reduceSub,Nat.reduceMul,Nat.reduceLT,Int.reduceBEq,Int.reduceBNe,Int.reduceToNat,Int.reduceLT,Int.reduceLE,Int.reduceAdd,Int.reduceSub,Int.reduceMul,reduceCtorEq]
 refine hK _ _ _ ?_
 clear hK K
 refine AWP.seq' ?_
 refine AWP.reg' λK hK=>?_
 try simp only[ak,ao,am,eq_self,implies_true,forall_eq_or_imp,forall_eq,Nat.reduceEqDiff,↓reduceIte,Nat.reduceAdd,Nat.reduceLeDiff,Nat.reduceSub,Nat.reduceMul,Nat.reduceLT,Int.reduceBEq,Int.reduceBNe,Int.reduceToNat,Int.reduceLT,Int.reduceLE,Int.reduceAdd,Int.reduceSub,Int.reduceMul,reduceCtorEq,rG]
 refine hK _ _ _ ?_
 clear hK K
 refine AWP.seq' (AWP.seq' ?_)
 refine AWP.reg' λK hK=>?_
 try simp only[ak,ao,am,eq_self,implies_true,forall_eq_or_imp,forall_eq,Nat.reduceEqDiff,↓reduceIte,Nat.reduceAdd,Nat.reduceLeDiff,Nat.reduceSub,Nat.reduceMul,Nat.reduceLT,Int.reduceBEq,Int.reduceBNe,Int.reduceToNat,Int.reduceLT,Int.reduceLE,Int.reduceAdd,Int.reduceSub,Int.reduceMul,reduceCtorEq]
 refine rz rfl (by simp only[ah];rfl) ?_
 try simp only[ak,ao,am,eq_self,implies_true,forall_eq_or_imp,forall_eq,Nat.reduceEqDiff,↓reduceIte,Nat.reduceAdd,Nat.reduceLeDiff,Nat.reduceSub,Nat.reduceMul,Nat.reduceLT,Int.reduceBEq,Int.reduceBNe,Int.reduceToNat,Int.reduceLT,Int.reduceLE,Int.reduceAdd,Int.reduceSub,Int.reduceMul,reduceCtorEq]
 refine hK _ _ _ ?_
 clear hK K
 refine AWP.block ?_
 refine AWP.loopS (λt:S3×List Nat=>t.1) (λt=>(t.2.Nodup∧(∀i∈t.2,i<L.length)∧∀p∈ge L t.2,p.2.length≤100 * t.2.length)∧TuI L st ck t.1 (ge L t.2) t.2) (λt=>L.length-t.2.length) (i0:=(_,[])) ?_ aA.refl ?_
 ·refine⟨⟨List.nodup_nil,λi hi=>by simp at hi,λp hp=>by simp[ge]at hp⟩,?_⟩
  exact⟨Nat.le_refl _,rfl,rfl,rfl,rfl,[],⟨rfl,rfl,List.nodup_nil,List.nodup_nil,by simp,by show 17<81;omega,by simp⟩⟩
 ·rintro⟨⟨tm,hp,nx⟩,is⟩ ⟨⟨i1,i2,i3⟩,hI⟩
  obtain⟨n1,g3,g10,g0,gi,ns,hF⟩:=hI
  simp only at n1 g3 g10 g0 gi hF i1 i2 i3 ⊢
  refine AWP.seq' ?_
  refine AWP.reg' λK hK=>?_
  try simp only[ak,ao,am,eq_self,implies_true,forall_eq_or_imp,forall_eq,Nat.reduceEqDiff,↓reduceIte,Nat.reduceAdd,Nat.reduceLeDiff,Nat.reduceSub,Nat.reduceMul,Nat.reduceLT,Int.reduceBEq,Int.reduceBNe,Int.reduceToNat,Int.reduceLT,Int.reduceLE,Int.reduceAdd,Int.reduceSub,Int.reduceMul,reduceCtorEq]
  refine rA g10 gi g0 hkO (λhs=>?_) (λi q v s0 e1 e2 e3 e4=>?_)
  ·try simp only[ak,ao,am,eq_self,implies_true,forall_eq_or_imp,forall_eq,Nat.reduceEqDiff,↓reduceIte,Nat.reduceAdd,Nat.reduceLeDiff,Nat.reduceSub,Nat.reduceMul,Nat.reduceLT,Int.reduceBEq,Int.reduceBNe,Int.reduceToNat,Int.reduceLT,Int.reduceLE,Int.reduceAdd,Int.reduceSub,Int.reduceMul,reduceCtorEq]
   refine hK _ _ _ ?_
   clear hK K
   refine AWP.seq' (AWP.cond (b:=false) rfl (λh=>by cases h) (λ_=>AWP.exit ?_))
   refine(show AWP _ _ _ _ _ _ from ?_)
   refine AWP.seq' ?_
   refine AWP.reg' λK hK=>?_
   try simp only[ak,ao,am,eq_self,implies_true,forall_eq_or_imp,forall_eq,Nat.reduceEqDiff,↓reduceIte,Nat.reduceAdd,Nat.reduceLeDiff,Nat.reduceSub,Nat.reduceMul,Nat.reduceLT,Int.reduceBEq,Int.reduceBNe,Int.reduceToNat,Int.reduceLT,Int.reduceLE,Int.reduceAdd,Int.reduceSub,Int.reduceMul,reduceCtorEq,g3]
   refine hK _ _ _ ?_
   clear hK K
   refine(show AWP _ _ _ _ _ _ from ?_)
   obtain⟨hp',w,h1,h2⟩:=(hF.keep (nx':=nx+16+16+16+16) (λ_ _ _=>rfl) (by omega)).give (k:=1) (n:=32) (tm:=upd (upd (upd (upd tm 11 (AV.tup [AV.bool false])) 12 (AV.bool false)) 31 (AV.mref 17)) 2 (AV.mref 17))
   refine AWP.ret ⟨_,_,⟨is,i1,i2,λi hi=>?_,rfl,rfl⟩,gA w (gW [0,17] [(2,.mref 1)] rfl rfl ?_ ?_ rfl (by decide) ?_ (by simp))⟩
   ·have hi':i<st.length:=by omega
    have h3:=hs _ (List.mem_of_getElem? (List.getElem?_eq_getElem hi'))
    obtain⟨j,hj,e⟩:=List.mem_map.mp h3
    have hj':j<st.length:=by have:=i2 j hj;omega
    rw[List.getD_eq_getElem?_getD,List.getElem?_eq_getElem hj']at e
    have e':st[j]?=st[i]?:=by rw[List.getElem?_eq_getElem hj',List.getElem?_eq_getElem hi'];exact congrArg some e
    rw[←(List.getElem?_inj hj' hs1).mp e'];exact hj
   ·simp only[List.mem_singleton,forall_eq]
    exact⟨rfl,show(1:Nat)<2 by omega⟩
   ·refine⟨⟨?_,?_⟩,trivial⟩
    ·show hp' 17=_
     rw[h1,ip,Blk.ren,bc _ (dR _)]
    ·exact aW (dR _)
   ·intro b hb
    match b,hb with
    | 0,_=>rfl
  ·have hil:i<L.length:=by have:=ap e3;omega
   have hp':L[i]?=some L[i]:=List.getElem?_eq_getElem hil
   generalize L[i]=p at hp'
   obtain⟨x,l⟩:=p
   have e1':(kyL L)[i]?=some (MK.n x):=by rw[kyL,List.getElem?_map,hp'];rfl
   have e2':(L.map λp=>AV.sl 1 (p.2.map AV.int) false)[i]?=some (.sl 1 (l.map AV.int) false):=by rw[List.getElem?_map,hp'];rfl
   rw[e1']at e1;cases e1
   rw[e2']at e2;cases e2
   have hpm:=List.mem_of_getElem? hp'
   have hll:=hL.row _ hpm
   have hxk:=hL.ky _ hpm
   have hel:=hL.el _ hpm
   simp only at hll hxk hel
   have hml:=bv
   try simp only[ak,ao,am,eq_self,implies_true,forall_eq_or_imp,forall_eq,Nat.reduceEqDiff,↓reduceIte,Nat.reduceAdd,Nat.reduceLeDiff,Nat.reduceSub,Nat.reduceMul,Nat.reduceLT,Int.reduceBEq,Int.reduceBNe,Int.reduceToNat,Int.reduceLT,Int.reduceLE,Int.reduceAdd,Int.reduceSub,Int.reduceMul,reduceCtorEq]
   refine hK _ _ _ ?_
   clear hK K
   refine AWP.seq' (AWP.cond (b:=true) rfl (λ_=>?_) (λh=>by cases h))
   refine AWP.skip ?_
   refine AWP.block (AWP.seq' ?_)
   refine AWP.reg' λK hK=>?_
   try simp only[ak,ao,am,eq_self,implies_true,forall_eq_or_imp,forall_eq,Nat.reduceEqDiff,↓reduceIte,Nat.reduceAdd,Nat.reduceLeDiff,Nat.reduceSub,Nat.reduceMul,Nat.reduceLT,Int.reduceBEq,Int.reduceBNe,Int.reduceToNat,Int.reduceLT,Int.reduceLE,Int.reduceAdd,Int.reduceSub,Int.reduceMul,reduceCtorEq]
   refine rC (m:=0) g10 (ai _ _ _) ((aj _ _ (by decide)).trans ((aj _ _ (by decide)).trans g0)) e3 e1' e2' hxk ?_
   try simp only[ak,ao,am,eq_self,implies_true,forall_eq_or_imp,forall_eq,Nat.reduceEqDiff,↓reduceIte,Nat.reduceAdd,Nat.reduceLeDiff,Nat.reduceSub,Nat.reduceMul,Nat.reduceLT,Int.reduceBEq,Int.reduceBNe,Int.reduceToNat,Int.reduceLT,Int.reduceLE,Int.reduceAdd,Int.reduceSub,Int.reduceMul,reduceCtorEq,kAV]
   refine hK _ _ _ ?_
   clear hK K
   refine AWP.seq' ?_
   refine AWP.reg' λK hK=>?_
   try simp only[ak,ao,am,eq_self,implies_true,forall_eq_or_imp,forall_eq,Nat.reduceEqDiff,↓reduceIte,Nat.reduceAdd,Nat.reduceLeDiff,Nat.reduceSub,Nat.reduceMul,Nat.reduceLT,Int.reduceBEq,Int.reduceBNe,Int.reduceToNat,Int.reduceLT,Int.reduceLE,Int.reduceAdd,Int.reduceSub,Int.reduceMul,reduceCtorEq,List.length_map]
   repeat (refine And.intro (by omega) ?_)
   refine hK _ _ _ ?_
   clear hK K
   refine AWP.block ?_
   have hst:st.getD i 0=s0:=by rw[List.getD_eq_getElem?_getD,e3];rfl
   have hni:i ∉ is:=λc=>e4 (List.mem_map.mpr ⟨i,c,hst⟩)
   have hF1:∀b,b<nx→(b=17∨b∈ns)→b≠65:=λb _ hb e=>by
    subst e
    rcases hb with h|h
    ·omega
    ·obtain⟨es,q⟩:=hF.vec h;rw[gi]at q;cases q
   refine AWP.loopS (λt:S3×Nat=>t.1) (λt=>(t.2≤l.length∧∀p∈jm x (ge L is) (l.take t.2),p.2.length≤100 * is.length+t.2)∧TuI L st ck t.1 (jm x (ge L is) (l.take t.2)) (is++[i]) ∧
    t.1.tm 4=.int x∧t.1.tm 16=.sl 1 (l.map AV.int) false∧t.1.tm 17=.int l.length∧t.1.tm 18=.int (t.2:Nat)) (λt=>l.length-t.2) (i0:=(_,0)) ?_ aA.refl ?_
   ·refine⟨⟨Nat.zero_le _,λp hp=>i3 p hp⟩,⟨by dsimp only;omega,?_,?_,?_,?_,ns,hF.keep (λb hb hn=>?_) (by dsimp only;omega)⟩,rfl,rfl,rfl,rfl⟩
    ·simp only[ah];exact g3
    ·simp only[ah];exact g10
    ·simp only[ah];exact g0
    ·simp only[ah,List.map_append,List.map_cons,List.map_nil,hst];rfl
    ·have:=hF1 b hb hn
     simp only[ah,if_neg this]
   ·rintro⟨⟨tm1,hp1,nx1⟩,j⟩ ⟨⟨j1,j2⟩,⟨n1',g3',g10',g0',gi',ns',hF'⟩,t4,t16,t17,t18⟩
    simp only at n1' g3' g10' g0' gi' hF' t4 t16 t17 t18 j1 j2 ⊢
    refine AWP.seq' ?_
    refine AWP.reg' λK hK=>?_
    try simp only[ak,ao,am,eq_self,implies_true,forall_eq_or_imp,forall_eq,Nat.reduceEqDiff,↓reduceIte,Nat.reduceAdd,Nat.reduceLeDiff,Nat.reduceSub,Nat.reduceMul,Nat.reduceLT,Int.reduceBEq,Int.reduceBNe,Int.reduceToNat,Int.reduceLT,Int.reduceLE,Int.reduceAdd,Int.reduceSub,Int.reduceMul,reduceCtorEq,t17,t18]
    refine hK _ _ _ ?_
    clear hK K
    refine AWP.seq' ?_
    refine AWP.cond (b:=decide ((j:Int)<(l.length:Int))) rfl (λh=>?_) (λh=>?_)
    ·have h:j<l.length:=by have:=of_decide_eq_true h;omega
     refine AWP.skip ?_
     refine AWP.seq' (AWP.block (AWP.seq' ?_))
     have hy:l[j]?=some l[j]:=List.getElem?_eq_getElem h
     generalize l[j]=y at hy
     have hge:(l.map AV.int).getD j .unk=.int y:=by rw[List.getD_eq_getElem?_getD,List.getElem?_map,hy];rfl
     refine AWP.reg' λK hK=>?_
     try simp only[ak,ao,am,eq_self,implies_true,forall_eq_or_imp,forall_eq,Nat.reduceEqDiff,↓reduceIte,Nat.reduceAdd,Nat.reduceLeDiff,Nat.reduceSub,Nat.reduceMul,Nat.reduceLT,Int.reduceBEq,Int.reduceBNe,Int.reduceToNat,Int.reduceLT,Int.reduceLE,Int.reduceAdd,Int.reduceSub,Int.reduceMul,reduceCtorEq,t16,t18,hge,Int.toNat_natCast,List.length_map]
     refine⟨⟨by omega,by omega⟩,?_⟩
     refine hK _ _ _ ?_
     clear hK K
     refine(show AWP _ _ _ _ _ _ from ?_)
     obtain⟨f17a,f17b,f17c,f17d⟩:=nxF (show 17<nx1 by omega)
     generalize hM:jm x (ge L is) (l.take j)=M at hF' j2
     have hM1:jm x (ge L is) (l.take (j+1))=pu M y x:=by rw[aU hy,←hM];unfold jm;rw[List.foldl_append];rfl
     have hw:IntKind.i64.wrap ((j:Int)+1)=((j+1:Nat):Int):=jQ (by omega) (by omega)
     obtain⟨f0,_⟩:=nxF (show 0<nx1 by omega)
     obtain⟨f65,_⟩:=nxF (show 65<nx1 by omega)
     have h0':∀k,(0=nx1+k)=False:=f0
     have h65':∀k,(65=nx1+k)=False:=f65
     have f17d':∀k,(nx1+k=17)=False:=f17b
     cases e:aY M y with
     | false =>
      have q1:=λz v kk=>(hF'.no e z v kk).1
      have q2:=λz v kk=>(hF'.no e z v kk).2
      refine AWP.reg' λK hK=>?_
      try simp only[ak,ao,am,eq_self,implies_true,forall_eq_or_imp,forall_eq,Nat.reduceEqDiff,↓reduceIte,Nat.reduceAdd,Nat.reduceLeDiff,Nat.reduceSub,Nat.reduceMul,Nat.reduceLT,Int.reduceBEq,Int.reduceBNe,Int.reduceToNat,Int.reduceLT,Int.reduceLE,Int.reduceAdd,Int.reduceSub,Int.reduceMul,reduceCtorEq,g3',t4,hF'.hm,bx,bL,dI,AV.key,MK.fits,q1 _ .unk none,and_self,true_and]
      refine rB ?_
      try simp only[ak,ao,am,eq_self,implies_true,forall_eq_or_imp,forall_eq,Nat.reduceEqDiff,↓reduceIte,Nat.reduceAdd,Nat.reduceLeDiff,Nat.reduceSub,Nat.reduceMul,Nat.reduceLT,Int.reduceBEq,Int.reduceBNe,Int.reduceToNat,Int.reduceLT,Int.reduceLE,Int.reduceAdd,Int.reduceSub,Int.reduceMul,reduceCtorEq,g3',t4,hF'.hm,bx,bL,dI,AV.key,MK.fits,and_self,true_and,bt,ec,f17a,f17b,f17c,f17d,Nat.add_assoc]
      refine⟨⟨by decide,by omega⟩,?_⟩
      refine hK _ _ _ ?_
      clear hK K
      refine(show AWP _ _ _ _ _ _ from ?_)
      refine AWP.reg' λK hK=>?_
      try simp only[ak,ao,am,eq_self,implies_true,forall_eq_or_imp,forall_eq,Nat.reduceEqDiff,↓reduceIte,Nat.reduceAdd,Nat.reduceLeDiff,Nat.reduceSub,Nat.reduceMul,Nat.reduceLT,Int.reduceBEq,Int.reduceBNe,Int.reduceToNat,Int.reduceLT,Int.reduceLE,Int.reduceAdd,Int.reduceSub,Int.reduceMul,reduceCtorEq,t18,hw]
      refine hK _ _ _ ?_
      clear hK K
      refine⟨(_,j+1),⟨⟨by dsimp only;omega,?_⟩,⟨by dsimp only;omega,?_,?_,?_,?_,ns'++[nx1+176],?_⟩,?_,?_,?_,rfl⟩,by dsimp only;omega,aA.refl⟩
      ·rw[hM1];exact λp hp=>by have:=wo j2 y x p hp;dsimp only;omega
      ·simp only[ah];exact g3'
      ·simp only[ah];exact g10'
      ·simp only[ah,h0'];exact g0'
      ·simp only[ah,h65'];exact gi'
      ·rw[hM1]
       exact hF'.put_no e (f:=nx1+176) (by omega) (by dsimp only;omega) (by simp only[ah,↓reduceIte];exact congrArg some (q2 (.sl 0 [] true) _ none)) (by simp only[ah,f17d',↓reduceIte]) (λb hb hne=>by simp only[ah,if_neg hne];rw[if_neg (by omega)])
      ·simp only[ah];exact t4
      ·simp only[ah];exact t16
      ·simp only[ah];exact t17
     | true =>
      obtain⟨i0,b0,y1,y2,y3,y4,y5,y6⟩:=hF'.yes e
      have hb0:=hF'.lt b0 (List.mem_of_getElem? y1)
      obtain⟨b0a,b0b,_,_⟩:=nxF hb0
      have hb17:(17=b0)=False:=by simp;rintro rfl;exact hF'.bm_no (List.mem_of_getElem? y1)
      have hb0':(0=b0)=False:=by simp;rintro rfl;rw[g0']at y4;cases y4
      have hb65:(65=b0)=False:=by simp;rintro rfl;rw[gi']at y4;cases y4
      have hrl:=j2 _ (List.mem_of_getElem? y2)
      simp only at hrl
      have hisl:is.length≤100:=by
       have:=List.Nodup.length_le_of_subset i1 (show is ⊆ List.range L.length from λa ha=>List.mem_range.mpr (i2 a ha))
       rw[List.length_range]at this;have:=hL.len;omega
      refine AWP.reg' λK hK=>?_
      try simp only[ak,ao,am,eq_self,implies_true,forall_eq_or_imp,forall_eq,Nat.reduceEqDiff,↓reduceIte,Nat.reduceAdd,Nat.reduceLeDiff,Nat.reduceSub,Nat.reduceMul,Nat.reduceLT,Int.reduceBEq,Int.reduceBNe,Int.reduceToNat,Int.reduceLT,Int.reduceLE,Int.reduceAdd,Int.reduceSub,Int.reduceMul,reduceCtorEq,g3',t4,hF'.hm,bx,bL,dI,AV.key,MK.fits,y5,and_self,true_and]
      refine rB ?_
      try simp only[ak,ao,am,eq_self,implies_true,forall_eq_or_imp,forall_eq,Nat.reduceEqDiff,↓reduceIte,Nat.reduceAdd,Nat.reduceLeDiff,Nat.reduceSub,Nat.reduceMul,Nat.reduceLT,Int.reduceBEq,Int.reduceBNe,Int.reduceToNat,Int.reduceLT,Int.reduceLE,Int.reduceAdd,Int.reduceSub,Int.reduceMul,reduceCtorEq,g3',t4,hF'.hm,bx,bL,dI,AV.key,MK.fits,and_self,true_and,bt,ec,y4,f17a,f17b,f17c,f17d,hb17,Nat.add_assoc,List.length_map]
      refine⟨⟨by omega,by omega⟩,?_⟩
      refine hK _ _ _ ?_
      clear hK K
      refine(show AWP _ _ _ _ _ _ from ?_)
      refine AWP.reg' λK hK=>?_
      try simp only[ak,ao,am,eq_self,implies_true,forall_eq_or_imp,forall_eq,Nat.reduceEqDiff,↓reduceIte,Nat.reduceAdd,Nat.reduceLeDiff,Nat.reduceSub,Nat.reduceMul,Nat.reduceLT,Int.reduceBEq,Int.reduceBNe,Int.reduceToNat,Int.reduceLT,Int.reduceLE,Int.reduceAdd,Int.reduceSub,Int.reduceMul,reduceCtorEq,t18,hw]
      refine hK _ _ _ ?_
      clear hK K
      refine⟨(_,j+1),⟨⟨by dsimp only;omega,?_⟩,⟨by dsimp only;omega,?_,?_,?_,?_,ns'.set i0 (nx1+176),?_⟩,?_,?_,?_,rfl⟩,by dsimp only;omega,aA.refl⟩
      ·rw[hM1];exact λp hp=>by have:=wo j2 y x p hp;dsimp only;omega
      ·simp only[ah];exact g3'
      ·simp only[ah];exact g10'
      ·simp only[ah,h0',hb0'];exact g0'
      ·simp only[ah,h65',hb65];exact gi'
      ·rw[hM1]
       exact hF'.put_yes e y1 y2 y3 (f:=nx1+176) (by omega) (by dsimp only;omega) (by simp only[ah,↓reduceIte];exact congrArg some (y6 none _)) (by simp only[ah,f17d',↓reduceIte]) (λb hb hne hnb=>by simp only[ah,if_neg hne,if_neg hnb];rw[if_neg (by omega)])
      ·simp only[ah];exact t4
      ·simp only[ah];exact t16
      ·simp only[ah];exact t17
    ·have h:j=l.length:=by have:=of_decide_eq_false h;omega
     refine AWP.exit ?_
     refine(show ∃jj:S3×List Nat,_ from ?_)
     have hT:ge L (is++[i])=jm x (ge L is) (l.take j):=by
      rw[List.take_of_length_le (by omega)]
      unfold ge
      rw[List.foldl_append,List.foldl_cons,List.foldl_nil,List.getD_eq_getElem?_getD,hp'];rfl
     have hN:(is++[i]).Nodup:=List.nodup_append.mpr ⟨i1,by simp,λa ha b hb=>by rw[List.mem_singleton.mp hb];rintro rfl;exact hni ha⟩
     have hS:∀a∈is++[i],a<L.length:=λa ha=>by
      rcases List.mem_append.mp ha with ha|ha
      ·exact i2 a ha
      ·rw[List.mem_singleton.mp ha];exact hil
     have hLn:=List.Nodup.length_le_of_subset hN (show is++[i] ⊆ List.range L.length from λa ha=>List.mem_range.mpr (hS a ha))
     rw[List.length_range,List.length_append,List.length_singleton]at hLn
     refine⟨(_,is++[i]),⟨⟨hN,hS,?_⟩,⟨?_,?_,?_,?_,?_,ns',?_⟩⟩,?_,aA.refl⟩
     ·dsimp only;rw[hT,List.length_append,List.length_singleton];exact λp hp=>by have:=j2 p hp;omega
     ·dsimp only;omega
     ·simp only[ah];exact g3'
     ·simp only[ah];exact g10'
     ·exact g0'
     ·exact gi'
     ·dsimp only;rw[hT];exact hF'.keep (λ_ _ _=>rfl) (by omega)
     ·dsimp only;rw[List.length_append,List.length_singleton];omega
def Nc:AC:=.reg [⟨(some 72),.faddr 0 (.t 16),none⟩,⟨(some 73),.load false 1 (.t 72),none⟩,⟨(some 74),.faddr 0 (.t 8),none⟩,⟨(some 75),.load false 1 (.t 74),none⟩,⟨(some 76),.bin .neq (.t 73) (.t 75),none⟩,⟨(some 77),.move (.t 76),none⟩,⟨(some 78),.move (.t 6),(some (77,true))⟩,⟨(some 79),.faddr 0 (.t 16),(some (77,true))⟩,⟨(some 80),.load false 1 (.t 79),(some (77,true))⟩,⟨(some 81),.faddr 0 (.t 12),(some (77,true))⟩,⟨(some 82),.load false 1 (.t 81),(some (77,true))⟩,⟨(some 83),.faddr 0 (.t 16),(some (77,true))⟩,⟨(some 84),.load false 1 (.t 83),(some (77,true))⟩,⟨(some 85),.faddr 1 (.t 16),(some (77,true))⟩,⟨(some 86),.load false 1 (.t 85),(some (77,true))⟩,⟨(some 87),.build [(.val (.int .i64 0)),(.val (.int .i64 0))] [(0,1,(.t 84)),(1,1,(.t 86))],(some (77,true))⟩,⟨(some 88),.faddr 2 (.t 16),(some (77,true))⟩,⟨(some 89),.load false 1 (.t 88),(some (77,true))⟩,⟨(some 90),.call (.c (.func 94 [])) [(.t 78),(.t 80),(.t 82),(.t 87),(.t 89)],(some (77,true))⟩,⟨(some 91),.pick (.t 77) (.t 90) (.c (.val (.bool false))),none⟩,⟨(some 17),.move (.t 91),none⟩]
def Hz:AC:=.reg [⟨(some 92),.move (.t 17),none⟩,⟨(some 93),.move (.t 92),none⟩,⟨(some 94),.move (.t 6),(some (93,true))⟩,⟨(some 95),.faddr 0 (.t 16),(some (93,true))⟩,⟨(some 96),.load false 1 (.t 95),(some (93,true))⟩,⟨(some 97),.faddr 0 (.t 12),(some (93,true))⟩,⟨(some 98),.load false 1 (.t 97),(some (93,true))⟩,⟨(some 99),.load true 2 (.t 8),(some (93,true))⟩,⟨(some 100),.move (.t 9),(some (93,true))⟩,⟨(some 101),.call (.c (.func 94 [])) [(.t 94),(.t 96),(.t 98),(.t 99),(.t 100)],(some (93,true))⟩,⟨(some 102),.pick (.t 93) (.t 101) (.c (.val (.bool false))),none⟩,⟨(some 103),.move (.t 102),none⟩,⟨(some 104),.move (.t 6),(some (103,true))⟩,⟨(some 105),.faddr 1 (.t 16),(some (103,true))⟩,⟨(some 106),.load false 1 (.t 105),(some (103,true))⟩,⟨(some 107),.faddr 0 (.t 12),(some (103,true))⟩,⟨(some 108),.load false 1 (.t 107),(some (103,true))⟩,⟨(some 109),.load true 2 (.t 8),(some (103,true))⟩,⟨(some 110),.move (.t 9),(some (103,true))⟩,⟨(some 111),.call (.c (.func 94 [])) [(.t 104),(.t 106),(.t 108),(.t 109),(.t 110)],(some (103,true))⟩,⟨(some 112),.pick (.t 103) (.t 111) (.c (.val (.bool false))),none⟩,⟨(some 113),.move (.t 112),none⟩,⟨(some 114),.move (.t 5),(some (113,true))⟩,⟨(some 115),.faddr 0 (.t 16),(some (113,true))⟩,⟨(some 116),.load false 1 (.t 115),(some (113,true))⟩,⟨(some 117),.mget none ((.sl 0 [] true)) false (.t 114) (.t 116),(some (113,true))⟩,⟨(some 118),.faddr 1 (.t 16),(some (113,true))⟩,⟨(some 119),.load false 1 (.t 118),(some (113,true))⟩,⟨(some 120),.call (.c (.func 69 [])) [(.t 117),(.t 119)],(some (113,true))⟩,⟨(some 121),.un .not (.t 120),(some (113,true))⟩,⟨(some 122),.pick (.t 113) (.t 121) (.c (.val (.bool false))),none⟩]
def Ci:AC:=.dreg [⟨(some 123),.move (.t 5),none⟩,⟨(some 124),.faddr 0 (.t 16),none⟩,⟨(some 125),.load false 1 (.t 124),none⟩,⟨(some 126),.move (.t 5),none⟩,⟨(some 127),.faddr 0 (.t 16),none⟩,⟨(some 128),.load false 1 (.t 127),none⟩,⟨(some 129),.mget none ((.sl 0 [] true)) false (.t 126) (.t 128),none⟩,⟨(some 130),.faddr 1 (.t 16),none⟩,⟨(some 131),.load false 1 (.t 130),none⟩,⟨(some 132),.lit 1 1 (.val (.int .i64 0)) [(0,(.t 131))],none⟩,⟨(some 133),.append 1 8 (.t 129) (.t 132),none⟩,⟨none,.mset none (.t 123) (.t 125) (.t 133),none⟩] [(2,5),(2,6),(2,8),(5,8),(6,8),(2,9),(5,9),(6,9),(2,10)]
def Hy:AC:=.seq Nc (.seq Hz (.cond (.t 122) Ci .skip))
abbrev PF(t:Tpl):AV:=.mp (some 2) ((cV t).map λp=>n0 p.1) ((cV t).map λp=>AV.int p.2)
structure BeB (t:Tpl) (ds:List Hop) (s:S3) (M:Rws):Prop where
  nx:112≤s.nx
  t1:s.tm 1=.sl 2 (ds.map Hop.v) false
  t2:s.tm 2=.ref 0 0
  h0:s.hp 0=some (.box (Tpl.v t))
  t5:s.tm 5=.mref 32
  t6:s.tm 6=PF t
  fam:∃ns,Fam s.hp s.nx 32 ns M
structure Kp (R:Nat→Prop) (s s':S3):Prop where
  nx:s.nx≤s'.nx
  tm:∀r,R r→s'.tm r=s.tm r
  hp:∀b x,b<s.nx→s.hp b=some (.box x)→s'.hp b=some (.box x)
def beQ(t:Tpl)(h:Hop)(c d x y w:Int)(M:Rws):Bool:=(x != h.a) && (jn (cV t) x d ⟨x,y⟩ w && (jn (cV t) x d h c && (jn (cV t) y d h c && !(decide (y∈aB M x [])))))
def beI(t:Tpl)(h:Hop)(c d:Int)(M:Rws)(s:Int×Int×Int):Rws:=if beQ t h c d s.1 s.2.1 s.2.2 M=true then pu M s.1 s.2.1 else M
def beR(r:Nat):Prop:=r<17∨17<r∧r<72
theorem Hx(t:Tpl)(ds:List Hop)(h:Hop)(c d x y w:Int)(fl:AV)(s:S3)(M:Rws)(bh bd bs:Nat)(hB:BeB t ds s M)(g8:s.tm 8=.ref bh 0)(g9:s.tm 9=.int c)(g12:s.tm 12=.ref bd 0)(g16:s.tm 16=.ref bs 0)
  (hh:s.hp bh=some (.box (.agg [.int h.a,.int h.b]))) (hd:s.hp bd=some (.box (.agg [.int d,fl]))) (hs:s.hp bs=some (.box (.agg [.int x,.int y,.int w]))) (hbs:bs<s.nx) (hl:(aB M x []).length≤1000000) (k:Nat) (Q:X→S3→Prop)
  (hQ:∀s',Kp beR s s'→BeB t ds s' (beI t h c d M (x,y,w))→Q .normal s'):AWP Tryz.prog 0 k Hy Q s:=by
 obtain⟨tm,hp,nx⟩:=s
 obtain⟨n1,t1,t2,h0,t5,t6,ns,hF⟩:=hB
 simp only at n1 t1 t2 h0 t5 t6 hF g8 g9 g12 g16 hh hd hs hbs
 unfold Hy Nc Hz Ci
 have hR:∀{r:Nat} {tm':Nat→AV},(∀r,beR r→tm' r=tm r)→beR r→tm' r=tm r:=λh1 h2=>h1 _ h2
 refine AWP.seq' ?_
 suffices HB:∀tm' nx',nx≤nx'→(∀r,beR r→tm' r=tm r)→tm' 17=.bool ((x != h.a) && jn (cV t) x d ⟨x,y⟩ w)→AWP Tryz.prog 0 k (.seq Hz (.cond (.t 122) Ci .skip)) Q ⟨tm',hp,nx'⟩ by
  cases e1:(x != h.a)with
  | false =>
   rw[e1]at HB
   refine AWP.reg' λK hK=>?_
   try simp only[ak,ao,am,eq_self,implies_true,forall_eq_or_imp,forall_eq,Nat.reduceEqDiff,↓reduceIte,Nat.reduceAdd,Nat.reduceLeDiff,Nat.reduceSub,Nat.reduceMul,Nat.reduceLT,Int.reduceBEq,Int.reduceBNe,Int.reduceToNat,Int.reduceLT,Int.reduceLE,Int.reduceAdd,Int.reduceSub,Int.reduceMul,reduceCtorEq,g16,g8,hs,hh,e1]
   refine hK _ _ _ ?_
   clear hK K
   exact HB _ _ (by omega) (λr hr=>by unfold beR at hr;simp only[ah];repeat rw[if_neg (by omega)]) rfl
  | true =>
   rw[e1]at HB
   refine AWP.reg' λK hK=>?_
   try simp only[ak,ao,am,eq_self,implies_true,forall_eq_or_imp,forall_eq,Nat.reduceEqDiff,↓reduceIte,Nat.reduceAdd,Nat.reduceLeDiff,Nat.reduceSub,Nat.reduceMul,Nat.reduceLT,Int.reduceBEq,Int.reduceBNe,Int.reduceToNat,Int.reduceLT,Int.reduceLE,Int.reduceAdd,Int.reduceSub,Int.reduceMul,reduceCtorEq,g16,g8,hs,hh,e1,g12,hd,t6]
   refine da ((cG (cV t) x d ⟨x,y⟩ w).ok) (cG (cV t) x d ⟨x,y⟩ w).fn rfl (by rfl) (by repeat' (first|exact trivial|assumption|refine And.intro ?_ ?_)) ?_
   try simp only[ak,ao,am,eq_self,implies_true,forall_eq_or_imp,forall_eq,Nat.reduceEqDiff,↓reduceIte,Nat.reduceAdd,Nat.reduceLeDiff,Nat.reduceSub,Nat.reduceMul,Nat.reduceLT,Int.reduceBEq,Int.reduceBNe,Int.reduceToNat,Int.reduceLT,Int.reduceLE,Int.reduceAdd,Int.reduceSub,Int.reduceMul,reduceCtorEq]
   refine hK _ _ _ ?_
   clear hK K
   exact HB _ _ (by omega) (λr hr=>by unfold beR at hr;simp only[ah];repeat rw[if_neg (by omega)]) rfl
 clear hR
 intro tm1 nx1 hnx1 hR1 h17
 have g6':tm1 6=PF t:=(hR1 6 (.inl (by omega))).trans t6
 have g8':tm1 8=.ref bh 0:=(hR1 8 (.inl (by omega))).trans g8
 have g9':tm1 9=.int c:=(hR1 9 (.inl (by omega))).trans g9
 have g12':tm1 12=.ref bd 0:=(hR1 12 (.inl (by omega))).trans g12
 have g16':tm1 16=.ref bs 0:=(hR1 16 (.inl (by omega))).trans g16
 have g5':tm1 5=.mref 32:=(hR1 5 (.inl (by omega))).trans t5
 refine AWP.seq' ?_
 suffices HC:∀tm' nx',nx≤nx'→(∀r,beR r→tm' r=tm r)→tm' 122=.bool (beQ t h c d x y w M)→AWP Tryz.prog 0 k (.cond (.t 122) Ci .skip) Q ⟨tm',hp,nx'⟩ by
  have fin:∀{tm':Nat→AV},(∀r,beR r→tm' r=tm1 r)→∀r,beR r→tm' r=tm r:=λh r hr=>(h r hr).trans (hR1 r hr)
  unfold beQ at HC
  cases e1:((x != h.a) && jn (cV t) x d ⟨x,y⟩ w)with
  | false =>
   rw[e1]at h17
   rw[←Bool.and_assoc,e1,Bool.false_and]at HC
   refine AWP.reg' λK hK=>?_
   try simp only[ak,ao,am,eq_self,implies_true,forall_eq_or_imp,forall_eq,Nat.reduceEqDiff,↓reduceIte,Nat.reduceAdd,Nat.reduceLeDiff,Nat.reduceSub,Nat.reduceMul,Nat.reduceLT,Int.reduceBEq,Int.reduceBNe,Int.reduceToNat,Int.reduceLT,Int.reduceLE,Int.reduceAdd,Int.reduceSub,Int.reduceMul,reduceCtorEq,h17]
   refine hK _ _ _ ?_
   clear hK K
   exact HC _ _ (by omega) (fin λr hr=>by unfold beR at hr;simp only[ah];repeat rw[if_neg (by omega)]) rfl
  | true =>
   rw[e1]at h17
   rw[←Bool.and_assoc,e1,Bool.true_and]at HC
   cases e2:jn (cV t) x d h c with
   | false =>
    have p2:ax Tryz.prog (cG (cV t) x d h c).f (cG (cV t) x d h c).args (.bool false):=by rw[←e2];exact(cG (cV t) x d h c).ok
    rw[e2,Bool.false_and]at HC
    refine AWP.reg' λK hK=>?_
    try simp only[ak,ao,am,eq_self,implies_true,forall_eq_or_imp,forall_eq,Nat.reduceEqDiff,↓reduceIte,Nat.reduceAdd,Nat.reduceLeDiff,Nat.reduceSub,Nat.reduceMul,Nat.reduceLT,Int.reduceBEq,Int.reduceBNe,Int.reduceToNat,Int.reduceLT,Int.reduceLE,Int.reduceAdd,Int.reduceSub,Int.reduceMul,reduceCtorEq,h17,g6',g16',hs,g12',hd,g8',hh,g9']
    refine da (p2) (cG (cV t) x d h c).fn rfl (by rfl) (by repeat' (first|exact trivial|assumption|refine And.intro ?_ ?_)) ?_
    try simp only[ak,ao,am,eq_self,implies_true,forall_eq_or_imp,forall_eq,Nat.reduceEqDiff,↓reduceIte,Nat.reduceAdd,Nat.reduceLeDiff,Nat.reduceSub,Nat.reduceMul,Nat.reduceLT,Int.reduceBEq,Int.reduceBNe,Int.reduceToNat,Int.reduceLT,Int.reduceLE,Int.reduceAdd,Int.reduceSub,Int.reduceMul,reduceCtorEq]
    refine hK _ _ _ ?_
    clear hK K
    exact HC _ _ (by omega) (fin λr hr=>by unfold beR at hr;simp only[ah];repeat rw[if_neg (by omega)]) rfl
   | true =>
    have p2:ax Tryz.prog (cG (cV t) x d h c).f (cG (cV t) x d h c).args (.bool true):=by rw[←e2];exact(cG (cV t) x d h c).ok
    rw[e2,Bool.true_and]at HC
    cases e3:jn (cV t) y d h c with
    | false =>
     have p3:ax Tryz.prog (cG (cV t) y d h c).f (cG (cV t) y d h c).args (.bool false):=by rw[←e3];exact(cG (cV t) y d h c).ok
     rw[e3,Bool.false_and]at HC
     refine AWP.reg' λK hK=>?_
     try simp only[ak,ao,am,eq_self,implies_true,forall_eq_or_imp,forall_eq,Nat.reduceEqDiff,↓reduceIte,Nat.reduceAdd,Nat.reduceLeDiff,Nat.reduceSub,Nat.reduceMul,Nat.reduceLT,Int.reduceBEq,Int.reduceBNe,Int.reduceToNat,Int.reduceLT,Int.reduceLE,Int.reduceAdd,Int.reduceSub,Int.reduceMul,reduceCtorEq,h17,g6',g16',hs,g12',hd,g8',hh,g9']
     refine da (p2) (cG (cV t) x d h c).fn rfl (by rfl) (by repeat' (first|exact trivial|assumption|refine And.intro ?_ ?_)) ?_
     try simp only[ak,ao,am,eq_self,implies_true,forall_eq_or_imp,forall_eq,Nat.reduceEqDiff,↓reduceIte,Nat.reduceAdd,Nat.reduceLeDiff,Nat.reduceSub,Nat.reduceMul,Nat.reduceLT,Int.reduceBEq,Int.reduceBNe,Int.reduceToNat,Int.reduceLT,Int.reduceLE,Int.reduceAdd,Int.reduceSub,Int.reduceMul,reduceCtorEq,g6',g16',hs,g12',hd,g8',hh,g9']
     refine da (p3) (cG (cV t) y d h c).fn rfl (by rfl) (by repeat' (first|exact trivial|assumption|refine And.intro ?_ ?_)) ?_
     try simp only[ak,ao,am,eq_self,implies_true,forall_eq_or_imp,forall_eq,Nat.reduceEqDiff,↓reduceIte,Nat.reduceAdd,Nat.reduceLeDiff,Nat.reduceSub,Nat.reduceMul,Nat.reduceLT,Int.reduceBEq,Int.reduceBNe,Int.reduceToNat,Int.reduceLT,Int.reduceLE,Int.reduceAdd,Int.reduceSub,Int.reduceMul,reduceCtorEq]
     refine hK _ _ _ ?_
     clear hK K
     exact HC _ _ (by omega) (fin λr hr=>by unfold beR at hr;simp only[ah];repeat rw[if_neg (by omega)]) rfl
    | true =>
     have p3:ax Tryz.prog (cG (cV t) y d h c).f (cG (cV t) y d h c).args (.bool true):=by rw[←e3];exact(cG (cV t) y d h c).ok
     rw[e3,Bool.true_and]at HC
     cases e4:aY M x with
     | false =>
      have q1:=λz v kk=>(hF.no e4 z v kk).1
      rw[bV e4]at HC
      refine AWP.reg' λK hK=>?_
      try simp only[ak,ao,am,eq_self,implies_true,forall_eq_or_imp,forall_eq,Nat.reduceEqDiff,↓reduceIte,Nat.reduceAdd,Nat.reduceLeDiff,Nat.reduceSub,Nat.reduceMul,Nat.reduceLT,Int.reduceBEq,Int.reduceBNe,Int.reduceToNat,Int.reduceLT,Int.reduceLE,Int.reduceAdd,Int.reduceSub,Int.reduceMul,reduceCtorEq,h17,g6',g16',hs,g12',hd,g8',hh,g9']
      refine da (p2) (cG (cV t) x d h c).fn rfl (by rfl) (by repeat' (first|exact trivial|assumption|refine And.intro ?_ ?_)) ?_
      try simp only[ak,ao,am,eq_self,implies_true,forall_eq_or_imp,forall_eq,Nat.reduceEqDiff,↓reduceIte,Nat.reduceAdd,Nat.reduceLeDiff,Nat.reduceSub,Nat.reduceMul,Nat.reduceLT,Int.reduceBEq,Int.reduceBNe,Int.reduceToNat,Int.reduceLT,Int.reduceLE,Int.reduceAdd,Int.reduceSub,Int.reduceMul,reduceCtorEq,g6',g16',hs,g12',hd,g8',hh,g9']
      refine da (p3) (cG (cV t) y d h c).fn rfl (by rfl) (by repeat' (first|exact trivial|assumption|refine And.intro ?_ ?_)) ?_
      try simp only[ak,ao,am,eq_self,implies_true,forall_eq_or_imp,forall_eq,Nat.reduceEqDiff,↓reduceIte,Nat.reduceAdd,Nat.reduceLeDiff,Nat.reduceSub,Nat.reduceMul,Nat.reduceLT,Int.reduceBEq,Int.reduceBNe,Int.reduceToNat,Int.reduceLT,Int.reduceLE,Int.reduceAdd,Int.reduceSub,Int.reduceMul,reduceCtorEq,g5',g16',hs,hF.hm,bx,dI,AV.key,MK.fits,q1 _ .unk none,and_self,true_and]
      have p4:ax Tryz.prog (eP [] y).f [.sl 0 [] true,.int y] (.bool false):=ax.sub (show ax _ _ [.sl 1 [] false,.int y] (.bool false)from(eP [] y).ok) ⟨Sub.nil,Sub.refl,trivial⟩ Sub.refl
      refine da (p4) (eP [] y).fn rfl (by rfl) (by repeat' (first|exact trivial|assumption|refine And.intro ?_ ?_)) ?_
      try simp only[ak,ao,am,eq_self,implies_true,forall_eq_or_imp,forall_eq,Nat.reduceEqDiff,↓reduceIte,Nat.reduceAdd,Nat.reduceLeDiff,Nat.reduceSub,Nat.reduceMul,Nat.reduceLT,Int.reduceBEq,Int.reduceBNe,Int.reduceToNat,Int.reduceLT,Int.reduceLE,Int.reduceAdd,Int.reduceSub,Int.reduceMul,reduceCtorEq]
      refine hK _ _ _ ?_
      clear hK K
      exact HC _ _ (by omega) (fin λr hr=>by unfold beR at hr;simp only[ah];repeat rw[if_neg (by omega)]) rfl
     | true =>
      obtain⟨i0,b0,y1,y2,y3,y4,y5,y6⟩:=hF.yes e4
      refine AWP.reg' λK hK=>?_
      try simp only[ak,ao,am,eq_self,implies_true,forall_eq_or_imp,forall_eq,Nat.reduceEqDiff,↓reduceIte,Nat.reduceAdd,Nat.reduceLeDiff,Nat.reduceSub,Nat.reduceMul,Nat.reduceLT,Int.reduceBEq,Int.reduceBNe,Int.reduceToNat,Int.reduceLT,Int.reduceLE,Int.reduceAdd,Int.reduceSub,Int.reduceMul,reduceCtorEq,h17,g6',g16',hs,g12',hd,g8',hh,g9']
      refine da (p2) (cG (cV t) x d h c).fn rfl (by rfl) (by repeat' (first|exact trivial|assumption|refine And.intro ?_ ?_)) ?_
      try simp only[ak,ao,am,eq_self,implies_true,forall_eq_or_imp,forall_eq,Nat.reduceEqDiff,↓reduceIte,Nat.reduceAdd,Nat.reduceLeDiff,Nat.reduceSub,Nat.reduceMul,Nat.reduceLT,Int.reduceBEq,Int.reduceBNe,Int.reduceToNat,Int.reduceLT,Int.reduceLE,Int.reduceAdd,Int.reduceSub,Int.reduceMul,reduceCtorEq,g6',g16',hs,g12',hd,g8',hh,g9']
      refine da (p3) (cG (cV t) y d h c).fn rfl (by rfl) (by repeat' (first|exact trivial|assumption|refine And.intro ?_ ?_)) ?_
      try simp only[ak,ao,am,eq_self,implies_true,forall_eq_or_imp,forall_eq,Nat.reduceEqDiff,↓reduceIte,Nat.reduceAdd,Nat.reduceLeDiff,Nat.reduceSub,Nat.reduceMul,Nat.reduceLT,Int.reduceBEq,Int.reduceBNe,Int.reduceToNat,Int.reduceLT,Int.reduceLE,Int.reduceAdd,Int.reduceSub,Int.reduceMul,reduceCtorEq,g5',g16',hs,hF.hm,bx,dI,AV.key,MK.fits,y5,and_self,true_and]
      refine uv [b0] (show ax Tryz.prog (eP (aB M x []) y).f [.sl 1 ((aB M x []).map AV.int) false,.int y] (.bool (decide (y∈aB M x [])))from(eP (aB M x []) y).ok) (eP (aB M x []) y).fn rfl rfl ⟨dF.vec (by simp) y4 (aH (ae (λ_=>rfl) _)),dF.pure trivial,trivial⟩ trivial ?_
      try simp only[ak,ao,am,eq_self,implies_true,forall_eq_or_imp,forall_eq,Nat.reduceEqDiff,↓reduceIte,Nat.reduceAdd,Nat.reduceLeDiff,Nat.reduceSub,Nat.reduceMul,Nat.reduceLT,Int.reduceBEq,Int.reduceBNe,Int.reduceToNat,Int.reduceLT,Int.reduceLE,Int.reduceAdd,Int.reduceSub,Int.reduceMul,reduceCtorEq]
      refine hK _ _ _ ?_
      clear hK K
      exact HC _ _ (by omega) (fin λr hr=>by unfold beR at hr;simp only[ah];repeat rw[if_neg (by omega)]) rfl
 clear hR1 h17 g6' g8' g9' g12' g16' g5' hnx1 tm1 nx1
 intro tm1 nx1 hnx1 hR1 h122
 have g16':tm1 16=.ref bs 0:=(hR1 16 (.inl (by omega))).trans g16
 have g5':tm1 5=.mref 32:=(hR1 5 (.inl (by omega))).trans t5
 have hB0:∀(tm':Nat→AV) (hp':Hp) (nx':Nat) (M':Rws),112≤nx'→(∀r,beR r→tm' r=tm r)→hp' 0=hp 0→(∃ns,Fam hp' nx' 32 ns M')→BeB t ds ⟨tm',hp',nx'⟩ M':=λtm' hp' nx' M' hn hr h0' hf =>
  ⟨hn,(hr 1 (.inl (by omega))).trans t1,(hr 2 (.inl (by omega))).trans t2,h0'.trans h0,(hr 5 (.inl (by omega))).trans t5,(hr 6 (.inl (by omega))).trans t6,hf⟩
 refine AWP.cond (b:=beQ t h c d x y w M) h122 (λhq=>?_) (λhq=>?_)
 case refine_2 =>
  refine AWP.skip (hQ _ ⟨hnx1,λr hr=>hR1 r hr,λb z hb hz=>hz⟩ ?_)
  unfold beI
  rw[if_neg (by simp[hq])]
  exact hB0 _ _ _ _ (by omega) hR1 rfl ⟨ns,hF.keep (λ_ _ _=>rfl) hnx1⟩
 have hI:beI t h c d M (x,y,w)=pu M x y:=by unfold beI;rw[if_pos hq]
 rw[hI]at hQ
 obtain⟨f32a,f32b,f32c,f32d⟩:=nxF (show 32<nx1 by omega)
 obtain⟨fsa,fsb,fsc,fsd⟩:=nxF (show bs<nx1 by omega)
 have hml:=bv
 have hbs32:(bs=32)=False:=by simp;rintro rfl;rw[hF.hm]at hs;cases hs
 have hbs32':(32=bs)=False:=by simp;rintro rfl;rw[hF.hm]at hs;cases hs
 cases e4:aY M x with
 | false =>
  have q1:=λz v kk=>(hF.no e4 z v kk).1
  have q2:=λz v kk=>(hF.no e4 z v kk).2
  refine AWP.dreg' λK hK=>?_
  try simp only[ak,ao,am,eq_self,implies_true,forall_eq_or_imp,forall_eq,Nat.reduceEqDiff,↓reduceIte,Nat.reduceAdd,Nat.reduceLeDiff,Nat.reduceSub,Nat.reduceMul,Nat.reduceLT,Int.reduceBEq,Int.reduceBNe,Int.reduceToNat,Int.reduceLT,Int.reduceLE,Int.reduceAdd,Int.reduceSub,Int.reduceMul,reduceCtorEq,g5',g16',hs,hF.hm,bx,bL,dI,AV.key,MK.fits,q1 _ .unk none,and_self,true_and]
  refine gX ?_
  try simp only[ak,ao,am,eq_self,implies_true,forall_eq_or_imp,forall_eq,Nat.reduceEqDiff,↓reduceIte,Nat.reduceAdd,Nat.reduceLeDiff,Nat.reduceSub,Nat.reduceMul,Nat.reduceLT,Int.reduceBEq,Int.reduceBNe,Int.reduceToNat,Int.reduceLT,Int.reduceLE,Int.reduceAdd,Int.reduceSub,Int.reduceMul,reduceCtorEq,g5',g16',hs,hF.hm,bx,bL,dI,AV.key,MK.fits,and_self,true_and,bt,ec,f32a,f32b,f32c,f32d,Nat.add_assoc]
  refine⟨⟨by decide,by omega⟩,?_⟩
  refine⟨?_,hK _ _ _ (hQ _ ⟨by dsimp only;omega,λr hr=>?_,λb z hb hz=>?_⟩ (hB0 _ _ _ _ (by omega) (λr hr=>?_) ?_ ⟨ns++[nx1+160],hF.put_no e4 (f:=nx1+160) (by omega) (by omega) ?_ ?_ λb hb hne=>?_⟩))⟩
  ·simp[ig,oa,bK,AOp.opers,aS,evO,ah,fsa,fsb,f32a,f32b,hbs32,hbs32']
  ·have hr':=hr;unfold beR at hr';simp only[ah];repeat rw[if_neg (by omega)]
   exact hR1 r hr
  ·have hb1:b<nx:=hb
   have hz1:hp b=some (.box z):=hz
   have e32:b≠32:=λc=>by subst c;rw[hF.hm]at hz1;cases hz1
   simp only[ah,if_neg e32];rw[if_neg (by omega)];exact hz1
  ·have hr':=hr;unfold beR at hr';simp only[ah];repeat rw[if_neg (by omega)]
   exact hR1 r hr
  ·simp only[ah];rw[if_neg (by omega),if_neg (by omega),if_neg (by omega)]
  ·simp only[ah,↓reduceIte];exact congrArg some (q2 (.sl 0 [] true) _ none)
  ·simp only[ah,f32b,↓reduceIte]
  ·simp only[ah,if_neg hne];rw[if_neg (by omega)]
 | true =>
  obtain⟨i0,b0,y1,y2,y3,y4,y5,y6⟩:=hF.yes e4
  have hb0:=hF.lt b0 (List.mem_of_getElem? y1)
  obtain⟨b0a,b0b,_,_⟩:=nxF (show b0<nx1 by omega)
  have hb32:(32=b0)=False:=by simp;rintro rfl;exact hF.bm_no (List.mem_of_getElem? y1)
  have hb32':(b0=32)=False:=by simp;rintro rfl;exact hF.bm_no (List.mem_of_getElem? y1)
  have hbs0:(bs=b0)=False:=by simp;rintro rfl;rw[hs]at y4;cases y4
  have hbs0':(b0=bs)=False:=by simp;rintro rfl;rw[hs]at y4;cases y4
  refine AWP.dreg' λK hK=>?_
  try simp only[ak,ao,am,eq_self,implies_true,forall_eq_or_imp,forall_eq,Nat.reduceEqDiff,↓reduceIte,Nat.reduceAdd,Nat.reduceLeDiff,Nat.reduceSub,Nat.reduceMul,Nat.reduceLT,Int.reduceBEq,Int.reduceBNe,Int.reduceToNat,Int.reduceLT,Int.reduceLE,Int.reduceAdd,Int.reduceSub,Int.reduceMul,reduceCtorEq,g5',g16',hs,hF.hm,bx,bL,dI,AV.key,MK.fits,y5,and_self,true_and]
  refine gX ?_
  try simp only[ak,ao,am,eq_self,implies_true,forall_eq_or_imp,forall_eq,Nat.reduceEqDiff,↓reduceIte,Nat.reduceAdd,Nat.reduceLeDiff,Nat.reduceSub,Nat.reduceMul,Nat.reduceLT,Int.reduceBEq,Int.reduceBNe,Int.reduceToNat,Int.reduceLT,Int.reduceLE,Int.reduceAdd,Int.reduceSub,Int.reduceMul,reduceCtorEq,g5',g16',hs,hF.hm,bx,bL,dI,AV.key,MK.fits,and_self,true_and,bt,ec,y4,f32a,f32b,f32c,f32d,hb32,hb32',Nat.add_assoc,List.length_map]
  refine⟨⟨by omega,by omega⟩,?_⟩
  refine⟨?_,hK _ _ _ (hQ _ ⟨by dsimp only;omega,λr hr=>?_,λb z hb hz=>?_⟩ (hB0 _ _ _ _ (by omega) (λr hr=>?_) ?_ ⟨ns.set i0 (nx1+160),hF.put_yes e4 y1 y2 y3 (f:=nx1+160) (by omega) (by omega) ?_ ?_ λb hb hne hnb=>?_⟩))⟩
  ·simp[ig,oa,bK,AOp.opers,aS,evO,ah,fsa,fsb,f32a,f32b,hbs32,hbs32',hbs0,hbs0',hb32,hb32']
  ·have hr':=hr;unfold beR at hr';simp only[ah];repeat rw[if_neg (by omega)]
   exact hR1 r hr
  ·have hb1:b<nx:=hb
   have hz1:hp b=some (.box z):=hz
   have e32:b≠32:=λc=>by subst c;rw[hF.hm]at hz1;cases hz1
   have eb0:b≠b0:=λc=>by subst c;rw[y4]at hz1;cases hz1
   simp only[ah,if_neg e32,if_neg eb0];rw[if_neg (by omega)];exact hz1
  ·have hr':=hr;unfold beR at hr';simp only[ah];repeat rw[if_neg (by omega)]
   exact hR1 r hr
  ·have hb00:(0=b0)=False:=by simp;rintro rfl;rw[h0]at y4;cases y4
   simp only[ah,hb00];rw[if_neg (by omega),if_neg (by omega),if_neg (by omega)];rfl
  ·simp only[ah,↓reduceIte];exact congrArg some (y6 none _)
  ·simp only[ah,f32b,↓reduceIte]
  ·simp only[ah,if_neg hne,if_neg hnb];rw[if_neg (by omega)]
def H4:AC:=.seq (.reg [⟨(some 52),.faddr 0 (.t 14),none⟩,⟨(some 53),.load false 1 (.t 52),none⟩,⟨(some 54),.faddr 1 (.t 14),none⟩,⟨(some 55),.load false 1 (.t 54),none⟩,⟨(some 56),.faddr 2 (.t 14),none⟩,⟨(some 57),.load false 1 (.t 56),none⟩,⟨(some 58),.build [(.val (.int .i64 0)),(.val (.int .i64 0)),(.val (.int .i64 0))] [(0,1,(.t 53)),(1,1,(.t 55)),(2,1,(.t 57))],none⟩,⟨(some 59),.faddr 1 (.t 14),none⟩,⟨(some 60),.load false 1 (.t 59),none⟩,⟨(some 61),.faddr 0 (.t 14),none⟩,⟨(some 62),.load false 1 (.t 61),none⟩,⟨(some 63),.faddr 3 (.t 14),none⟩,⟨(some 64),.load false 1 (.t 63),none⟩,⟨(some 65),.build [(.val (.int .i64 0)),(.val (.int .i64 0)),(.val (.int .i64 0))] [(0,1,(.t 60)),(1,1,(.t 62)),(2,1,(.t 64))],none⟩,⟨(some 66),.lit 3 2 (.agg [(.val (.int .i64 0)),(.val (.int .i64 0)),(.val (.int .i64 0))]) [(0,(.t 58)),(1,(.t 65))],none⟩,⟨(some 67),.len (.t 66),none⟩,⟨(some 68),.move (.c (.val (.int .i64 0))),none⟩])
 (.block 6 (.loop (.seq (.reg [⟨(some 69),.bin .lss (.t 68) (.t 67),none⟩])
 (.seq (.cond (.t 69) (.skip) (.exit 6))
 (.seq (.block 7 (.seq (.reg [⟨(some 70),.iaddr 3 (.t 66) (.t 68),none⟩,⟨(some 71),.load true 3 (.t 70),none⟩,⟨(some 16),.box (.c (.agg [(.val (.int .i64 0)),(.val (.int .i64 0)),(.val (.int .i64 0))])),none⟩,⟨none,.store 3 (.t 16) (.t 71),none⟩])
 Hy))
 (.reg [⟨(some 134),.bin .add (.t 68) (.c (.val (.int .i64 1))),none⟩,⟨(some 68),.move (.t 134),none⟩]))))))
def H6:AC:=.seq (.reg [⟨(some 45),.faddr 1 (.t 2),none⟩,⟨(some 46),.load false 1 (.t 45),none⟩,⟨(some 47),.len (.t 46),none⟩,⟨(some 48),.move (.c (.val (.int .i64 0))),none⟩])
 (.block 4 (.loop (.seq (.reg [⟨(some 49),.bin .lss (.t 48) (.t 47),none⟩])
 (.seq (.cond (.t 49) (.skip) (.exit 4))
 (.seq (.block 5 (.seq (.reg [⟨(some 50),.iaddr 5 (.t 46) (.t 48),none⟩,⟨(some 51),.load true 5 (.t 50),none⟩,⟨(some 14),.box (.c (.agg [(.val (.int .i64 0)),(.val (.int .i64 0)),(.val (.int .i64 0)),(.val (.int .i64 0)),(.val (.int .i64 0))])),none⟩,⟨none,.store 5 (.t 14) (.t 51),none⟩])
 H4))
 (.reg [⟨(some 135),.bin .add (.t 48) (.c (.val (.int .i64 1))),none⟩,⟨(some 48),.move (.t 135),none⟩]))))))
def H8:AC:=.seq (.reg [⟨(some 38),.faddr 0 (.t 2),none⟩,⟨(some 39),.load false 1 (.t 38),none⟩,⟨(some 40),.len (.t 39),none⟩,⟨(some 41),.move (.c (.val (.int .i64 0))),none⟩])
 (.block 2 (.loop (.seq (.reg [⟨(some 42),.bin .lss (.t 41) (.t 40),none⟩])
 (.seq (.cond (.t 42) (.skip) (.exit 2))
 (.seq (.block 3 (.seq (.reg [⟨(some 43),.iaddr 2 (.t 39) (.t 41),none⟩,⟨(some 44),.load true 2 (.t 43),none⟩,⟨(some 12),.box (.c (.agg [(.val (.int .i64 0)),(.val (.bool false))])),none⟩,⟨none,.store 2 (.t 12) (.t 44),none⟩])
 H6))
 (.reg [⟨(some 136),.bin .add (.t 41) (.c (.val (.int .i64 1))),none⟩,⟨(some 41),.move (.t 136),none⟩]))))))
def lst(l:Lnk):List (Int×Int×Int):=[(l.a,l.b,l.ca),(l.b,l.a,l.cb)]
def be2(t:Tpl)(h:Hop)(c d:Int)(M:Rws)(l:Lnk):Rws:=(lst l).foldl (beI t h c d) M
def be3(t:Tpl)(h:Hop)(c:Int)(M:Rws)(d:Rtr):Rws:=t.ls.foldl (be2 t h c d.id) M
structure gb (t:Tpl) (M:Rws):Prop where
  nd:∀p∈M,p.2.Nodup
  el:∀p∈M,∀y∈p.2,aG t y=true
  ky:∀p∈M,aG t p.1=true
theorem ug{t:Tpl}{y:Int}:aG t y=true↔y∈t.rs.map (·.id):=by
 unfold aG
 rw[List.any_eq_true,List.mem_map]
 constructor
 ·rintro⟨r,hr,e⟩;exact⟨r,hr,eq_of_beq e⟩
 ·rintro⟨r,hr,rfl⟩;exact⟨r,hr,beq_self_eq_true _⟩
theorem gb.pu{t:Tpl}{M:Rws}(h:gb t M){x y:Int}(hx:aG t x=true)(hy:aG t y=true)(hn:y ∉ aB M x []):gb t (pu M x y):=by
 have hv:(aB M x []).Nodup∧∀z∈aB M x [],aG t z=true:=by
  cases e:aY M x with
  | false=>rw[bV e];exact⟨List.nodup_nil,λz hz=>by simp at hz⟩
  | true=>exact⟨h.nd _ (bI e),h.el _ (bI e)⟩
 have key:∀p∈Go.Proofs.YtdoacjojljgdcaaGreat.pu M x y,p∈M∨p=(x,aB M x []++[y]):=λp hp=>by
  unfold Go.Proofs.YtdoacjojljgdcaaGreat.pu at hp
  cases e:aY M x with
  | false =>
   rw[qF e]at hp
   rcases List.mem_append.mp hp with hp|hp
   ·exact .inl hp
   ·exact .inr (List.mem_singleton.mp hp)
  | true=>rw[nj e]at hp;exact List.mem_or_eq_of_mem_set hp
 refine⟨λp hp=>?_,λp hp z hz=>?_,λp hp=>?_⟩
 ·rcases key p hp with hp|rfl
  ·exact h.nd p hp
  ·exact List.nodup_append.mpr ⟨hv.1,by simp,λa ha b hb=>by rw[List.mem_singleton.mp hb];rintro rfl;exact hn ha⟩
 ·rcases key p hp with hp|rfl
  ·exact h.el p hp z hz
  ·rcases List.mem_append.mp hz with hz|hz
   ·exact hv.2 z hz
   ·rw[List.mem_singleton.mp hz];exact hy
 ·rcases key p hp with hp|rfl
  ·exact h.ky p hp
  ·exact hx
theorem gb.len{t:Tpl}{M:Rws}(h:gb t M)(hc:aD t=0):∀p∈M,p.2.length≤24:=λp hp=>by
 have:=List.Nodup.length_le_of_subset (h.nd p hp) (show p.2 ⊆ t.rs.map (·.id)from λy hy=>ug.mp (h.el p hp y hy))
 rw[List.length_map]at this
 have:=(cd hc).1;omega
theorem gb.val{t:Tpl}{M:Rws}(h:gb t M)(hc:aD t=0)(x:Int):(aB M x []).length≤24:=by
 cases e:aY M x with
 | false=>rw[bV e];simp
 | true=>exact h.len hc _ (bI e)
theorem gb.beI{t:Tpl}{M:Rws}(h:gb t M){hp:Hop}{c d:Int}{s:Int×Int×Int}(hx:aG t s.1=true)(hy:aG t s.2.1=true):gb t (beI t hp c d M s):=by
 unfold Go.Proofs.YtdoacjojljgdcaaGreat.beI
 split
 ·rename_i e
  refine h.pu hx hy ?_
  unfold beQ at e
  simp only[Bool.and_eq_true,Bool.not_eq_true',decide_eq_false_iff_not]at e
  exact e.2.2.2.2
 ·exact h
theorem BeB.keep{t:Tpl}{ds:List Hop}{s s':S3}{M:Rws}(h:BeB t ds s M)(hn:s.nx≤s'.nx)(ht:∀r,r<7→s'.tm r=s.tm r)(hh:∀b,b<s.nx→s'.hp b=s.hp b):BeB t ds s' M:=by
 obtain⟨n1,t1,t2,h0,t5,t6,ns,hF⟩:=h
 exact⟨by omega,(ht 1 (by omega)).trans t1,(ht 2 (by omega)).trans t2,(hh 0 (by omega)).trans h0,(ht 5 (by omega)).trans t5,(ht 6 (by omega)).trans t6,ns,hF.keep (λb hb _=>hh b hb) hn⟩
theorem eG{α β:Type}(f:β→α→β)(b:β){l:List α}{k:Nat}{x:α}(h:l[k]?=some x):(l.take (k+1)).foldl f b=f ((l.take k).foldl f b) x:=by rw[aU h,List.foldl_append];rfl
def r4(r:Nat):Prop:=r<16∨18≤r∧r<52
def r3(r:Nat):Prop:=r<14∨18≤r∧r<45
def r2(r:Nat):Prop:=r<12∨18≤r∧r<38
theorem H3(t:Tpl)(hc:aD t=0)(ds:List Hop)(h:Hop)(c d:Int)(fl:AV)(l:Lnk)(hlm:l∈t.ls)(s:S3)(M:Rws)(hI:gb t M)(bh bd bl:Nat)(hB:BeB t ds s M)(g8:s.tm 8=.ref bh 0)(g9:s.tm 9=.int c)(g12:s.tm 12=.ref bd 0)(g14:s.tm 14=.ref bl 0)
  (hh:s.hp bh=some (.box (.agg [.int h.a,.int h.b]))) (hd:s.hp bd=some (.box (.agg [.int d,fl]))) (hl:s.hp bl=some (.box (Lnk.v l))) (b1:bh<s.nx) (b2:bd<s.nx) (b3:bl<s.nx) (k:Nat) (Q:X→S3→Prop)
  (hQ:∀s',Kp r4 s s'→BeB t ds s' (be2 t h c d M l)→gb t (be2 t h c d M l)→Q .normal s'):AWP Tryz.prog 0 k H4 Q s:=by
 obtain⟨hla,hlb⟩:=(aC hc).has l hlm
 have hmem:∀z∈lst l,aG t z.1=true∧aG t z.2.1=true:=λz hz=>by
  unfold lst at hz
  simp only[List.mem_cons,List.not_mem_nil,or_false]at hz
  rcases hz with rfl|rfl
  ·exact⟨hla,hlb⟩
  ·exact⟨hlb,hla⟩
 obtain⟨tm,hp,nx⟩:=s
 simp only at g8 g9 g12 g14 hh hd hl b1 b2 b3
 unfold H4
 refine AWP.seq' ?_
 refine AWP.reg' λK hK=>?_
 try simp only[ak,ao,am,eq_self,implies_true,forall_eq_or_imp,forall_eq,Nat.reduceEqDiff,↓reduceIte,Nat.reduceAdd,Nat.reduceLeDiff,Nat.reduceSub,Nat.reduceMul,Nat.reduceLT,Int.reduceBEq,Int.reduceBNe,Int.reduceToNat,Int.reduceLT,Int.reduceLE,Int.reduceAdd,Int.reduceSub,Int.reduceMul,reduceCtorEq,g14,hl,Lnk.v]
 refine rB ?_
 try simp only[ak,ao,am,eq_self,implies_true,forall_eq_or_imp,forall_eq,Nat.reduceEqDiff,↓reduceIte,Nat.reduceAdd,Nat.reduceLeDiff,Nat.reduceSub,Nat.reduceMul,Nat.reduceLT,Int.reduceBEq,Int.reduceBNe,Int.reduceToNat,Int.reduceLT,Int.reduceLE,Int.reduceAdd,Int.reduceSub,Int.reduceMul,reduceCtorEq,g14,hl,Lnk.v]
 refine hK _ _ _ ?_
 clear hK K
 refine AWP.block ?_
 refine AWP.loopS (λu:S3×Nat=>u.1) (λu=>(u.2≤2∧gb t (((lst l).take u.2).foldl (beI t h c d) M))∧Kp r4 ⟨tm,hp,nx⟩ u.1∧BeB t ds u.1 (((lst l).take u.2).foldl (beI t h c d) M) ∧
  u.1.tm 66=.sl 3 ((lst l).map λz=>AV.agg [.int z.1,.int z.2.1,.int z.2.2]) true∧u.1.tm 67=.int 2∧u.1.tm 68=.int (u.2:Nat)) (λu=>2-u.2) (i0:=(_,0)) ?_ aA.refl ?_
 ·refine⟨⟨Nat.zero_le _,hI⟩,⟨by dsimp only;omega,λr hr=>?_,λb x _ hx=>hx⟩,hB.keep (by dsimp only;omega) (λr hr=>?_) (λ_ _=>rfl),rfl,rfl,rfl⟩
  ·unfold r4 at hr;simp only[ah];repeat rw[if_neg (by omega)]
  ·simp only[ah];repeat rw[if_neg (by omega)]
 ·rintro⟨⟨tm1,hp1,nx1⟩,z⟩ ⟨⟨hz,hI1⟩,hK1,hB1,t66,t67,t68⟩
  simp only at hz hI1 t66 t67 t68 ⊢
  refine AWP.seq' ?_
  refine AWP.reg' λK hK=>?_
  try simp only[ak,ao,am,eq_self,implies_true,forall_eq_or_imp,forall_eq,Nat.reduceEqDiff,↓reduceIte,Nat.reduceAdd,Nat.reduceLeDiff,Nat.reduceSub,Nat.reduceMul,Nat.reduceLT,Int.reduceBEq,Int.reduceBNe,Int.reduceToNat,Int.reduceLT,Int.reduceLE,Int.reduceAdd,Int.reduceSub,Int.reduceMul,reduceCtorEq,t67,t68]
  refine hK _ _ _ ?_
  clear hK K
  refine AWP.seq' ?_
  refine AWP.cond (b:=decide ((z:Int)<2)) rfl (λe=>?_) (λe=>?_)
  ·have e:z<2:=by have:=of_decide_eq_true e;omega
   refine AWP.skip ?_
   refine AWP.seq' (AWP.block (AWP.seq' ?_))
   have hzl:z<(lst l).length:=e
   have hy:(lst l)[z]?=some (lst l)[z]:=List.getElem?_eq_getElem hzl
   generalize (lst l)[z]=sz at hy
   obtain⟨x,y,w⟩:=sz
   obtain⟨hx5,hy5⟩:=hmem _ (List.mem_of_getElem? hy)
   have hge:((lst l).map λz=>AV.agg [.int z.1,.int z.2.1,.int z.2.2]).getD z .unk=.agg [.int x,.int y,.int w]:=by rw[List.getD_eq_getElem?_getD,List.getElem?_map,hy];rfl
   have hll:(lst l).length=2:=rfl
   have k8:=(hK1.tm 8 (.inl (by omega))).trans g8
   have k9:=(hK1.tm 9 (.inl (by omega))).trans g9
   have k12:=(hK1.tm 12 (.inl (by omega))).trans g12
   have kh:=hK1.hp _ _ b1 hh
   have kd:=hK1.hp _ _ b2 hd
   have kn:nx≤nx1:=hK1.nx
   simp only at k8 k9 k12 kh kd
   refine AWP.reg' λK hK=>?_
   try simp only[ak,ao,am,eq_self,implies_true,forall_eq_or_imp,forall_eq,Nat.reduceEqDiff,↓reduceIte,Nat.reduceAdd,Nat.reduceLeDiff,Nat.reduceSub,Nat.reduceMul,Nat.reduceLT,Int.reduceBEq,Int.reduceBNe,Int.reduceToNat,Int.reduceLT,Int.reduceLE,Int.reduceAdd,Int.reduceSub,Int.reduceMul,reduceCtorEq,t66,t68,hge,hll,Int.toNat_natCast,List.length_map]
   refine⟨⟨by omega,by omega⟩,?_⟩
   refine hK _ _ _ ?_
   clear hK K
   have hpl:∀(v1 v2 v3:Option Blk) b,b<nx1→upd (upd (upd hp1 (nx1+16+16+16) v1) (nx1+16+16+16) v2) (nx1+16+16+16) v3 b=hp1 b:=λv1 v2 v3 b hb=>by
    simp only[ah];repeat rw[if_neg (by omega)]
   refine Hx t ds h c d x y w fl _ (((lst l).take z).foldl (beI t h c d) M) bh bd (nx1+16+16+16) (hB1.keep (by dsimp only;omega) (λr hr=>?_) (λb hb=>hpl _ _ _ b hb)) ?_ ?_ ?_ rfl ?_ ?_ (ai _ _ _) (by dsimp only;omega) (by have:=hI1.val hc x;omega) k _ (λs' hk hb=>?_)
   ·simp only[ah];repeat rw[if_neg (by omega)]
   ·simp only[ah];exact k8
   ·simp only[ah];exact k9
   ·simp only[ah];exact k12
   ·dsimp only;rw[hpl _ _ _ _ (by omega)];exact kh
   ·dsimp only;rw[hpl _ _ _ _ (by omega)];exact kd
   ·obtain⟨tm2,hp2,nx2⟩:=s'
    refine(show AWP _ _ _ _ _ _ from ?_)
    have q66:tm2 66=_:=(hk.tm 66 (.inr ⟨by omega,by omega⟩)).trans t66
    have q67:tm2 67=_:=(hk.tm 67 (.inr ⟨by omega,by omega⟩)).trans t67
    have q68:tm2 68=_:=(hk.tm 68 (.inr ⟨by omega,by omega⟩)).trans t68
    have hw:IntKind.i64.wrap ((z:Int)+1)=((z+1:Nat):Int):=jQ (by omega) (by omega)
    refine AWP.reg' λK hK=>?_
    try simp only[ak,ao,am,eq_self,implies_true,forall_eq_or_imp,forall_eq,Nat.reduceEqDiff,↓reduceIte,Nat.reduceAdd,Nat.reduceLeDiff,Nat.reduceSub,Nat.reduceMul,Nat.reduceLT,Int.reduceBEq,Int.reduceBNe,Int.reduceToNat,Int.reduceLT,Int.reduceLE,Int.reduceAdd,Int.reduceSub,Int.reduceMul,reduceCtorEq,q68,hw]
    refine hK _ _ _ ?_
    clear hK K
    have hkn:nx1+16+16+16+16+16≤nx2:=hk.nx
    have hF1:((lst l).take (z+1)).foldl (beI t h c d) M=beI t h c d (((lst l).take z).foldl (beI t h c d) M) (x,y,w):=eG _ _ hy
    refine⟨(_,z+1),⟨⟨by dsimp only;omega,?_⟩,⟨by dsimp only;omega,λr hr=>?_,λb v hb hv=>?_⟩,?_,?_,?_,?_⟩,by dsimp only;omega,aA.refl⟩
    ·dsimp only;rw[hF1];exact hI1.beI hx5 hy5
    ·have hr':=hr
     unfold r4 at hr'
     have e1:=hk.tm r (by unfold beR;omega)
     have e2:=hK1.tm r hr
     dsimp only at e1 e2 ⊢
     simp only[ah]at e1 ⊢
     rw[if_neg (by omega),if_neg (by omega),e1]
     repeat rw[if_neg (by omega)]
     exact e2
    ·have e2:=hK1.hp b v hb hv
     have hb':b<nx:=hb
     refine hk.hp b v (by dsimp only;omega) ?_
     dsimp only
     rw[hpl _ _ _ _ (by omega)];exact e2
    ·dsimp only;rw[hF1];exact hb.keep (by dsimp only;omega) (λr hr=>by simp only[ah];repeat rw[if_neg (by omega)]) (λ_ _=>rfl)
    ·simp only[ah];exact q66
    ·simp only[ah];exact q67
    ·simp only[ah];rfl
  ·have e:z=2:=by have:=of_decide_eq_false e;omega
   subst e
   refine AWP.exit ?_
   refine(show Q .normal _ from ?_)
   have hT:(lst l).take 2=lst l:=rfl
   rw[hT]at hI1 hB1
   refine hQ _ ⟨?_,λr hr=>?_,λb x hb hx=>hK1.hp b x hb hx⟩ (hB1.keep (by dsimp only;omega) (λr hr=>?_) (λ_ _=>rfl)) hI1
   ·have:=hK1.nx;dsimp only at this ⊢;omega
   ·have e2:=hK1.tm r hr
    unfold r4 at hr;dsimp only at e2 ⊢;simp only[ah];rw[if_neg (by omega)];exact e2
   ·simp only[ah];rw[if_neg (by omega)]
theorem H5(t:Tpl)(hc:aD t=0)(ds:List Hop)(h:Hop)(c:Int)(d:Int)(fl:AV)(s:S3)(M:Rws)(hI:gb t M)(bh bd:Nat)(hB:BeB t ds s M)(g8:s.tm 8=.ref bh 0)(g9:s.tm 9=.int c)(g12:s.tm 12=.ref bd 0)
  (hh:s.hp bh=some (.box (.agg [.int h.a,.int h.b]))) (hd:s.hp bd=some (.box (.agg [.int d,fl]))) (b1:bh<s.nx) (b2:bd<s.nx) (k:Nat) (Q:X→S3→Prop)
  (hQ:∀s',Kp r3 s s'→BeB t ds s' (t.ls.foldl (be2 t h c d) M)→gb t (t.ls.foldl (be2 t h c d) M)→Q .normal s'):AWP Tryz.prog 0 k H6 Q s:=by
 have hnl:=cd hc
 have hml:=bv
 obtain⟨tm,hp,nx⟩:=s
 simp only at g8 g9 g12 hd hh b1 b2
 have q2:=hB.t2
 have q0:=hB.h0
 simp only at q2 q0
 unfold H6
 refine AWP.seq' ?_
 refine AWP.reg' λK hK=>?_
 try simp only[ak,ao,am,eq_self,implies_true,forall_eq_or_imp,forall_eq,Nat.reduceEqDiff,↓reduceIte,Nat.reduceAdd,Nat.reduceLeDiff,Nat.reduceSub,Nat.reduceMul,Nat.reduceLT,Int.reduceBEq,Int.reduceBNe,Int.reduceToNat,Int.reduceLT,Int.reduceLE,Int.reduceAdd,Int.reduceSub,Int.reduceMul,reduceCtorEq,q2,q0,Tpl.v,List.length_map]
 repeat (refine And.intro (by omega) ?_)
 refine hK _ _ _ ?_
 clear hK K
 refine AWP.block ?_
 refine AWP.loopS (λu:S3×Nat=>u.1) (λu=>(u.2≤t.ls.length∧gb t ((t.ls.take u.2).foldl (be2 t h c d) M))∧Kp r3 ⟨tm,hp,nx⟩ u.1∧BeB t ds u.1 ((t.ls.take u.2).foldl (be2 t h c d) M) ∧
  u.1.tm 46=.sl 5 (t.ls.map Lnk.v) false∧u.1.tm 47=.int t.ls.length∧u.1.tm 48=.int (u.2:Nat)) (λu=>t.ls.length-u.2) (i0:=(_,0)) ?_ aA.refl ?_
 ·refine⟨⟨Nat.zero_le _,hI⟩,⟨by dsimp only;omega,λr hr=>?_,λb x _ hx=>hx⟩,hB.keep (by dsimp only;omega) (λr hr=>?_) (λ_ _=>rfl),rfl,rfl,rfl⟩
  ·unfold r3 at hr;simp only[ah];repeat rw[if_neg (by omega)]
  ·simp only[ah];repeat rw[if_neg (by omega)]
 ·rintro⟨⟨tm1,hp1,nx1⟩,z⟩ ⟨⟨hz,hI1⟩,hK1,hB1,tL,tN,tI⟩
  simp only at hz hI1 tL tN tI ⊢
  refine AWP.seq' ?_
  refine AWP.reg' λK hK=>?_
  try simp only[ak,ao,am,eq_self,implies_true,forall_eq_or_imp,forall_eq,Nat.reduceEqDiff,↓reduceIte,Nat.reduceAdd,Nat.reduceLeDiff,Nat.reduceSub,Nat.reduceMul,Nat.reduceLT,Int.reduceBEq,Int.reduceBNe,Int.reduceToNat,Int.reduceLT,Int.reduceLE,Int.reduceAdd,Int.reduceSub,Int.reduceMul,reduceCtorEq,tN,tI]
  refine hK _ _ _ ?_
  clear hK K
  refine AWP.seq' ?_
  refine AWP.cond (b:=decide ((z:Int)<(t.ls.length:Int))) rfl (λe=>?_) (λe=>?_)
  ·have e:z<t.ls.length:=by have:=of_decide_eq_true e;omega
   refine AWP.skip ?_
   refine AWP.seq' (AWP.block (AWP.seq' ?_))
   have hy:t.ls[z]?=some t.ls[z]:=List.getElem?_eq_getElem e
   generalize t.ls[z]=x at hy
   have hge:(t.ls.map Lnk.v).getD z .unk=Lnk.v x:=by rw[List.getD_eq_getElem?_getD,List.getElem?_map,hy];rfl
   have k8:=(hK1.tm 8 (.inl (by omega))).trans g8
   have k9:=(hK1.tm 9 (.inl (by omega))).trans g9
   have k12:=(hK1.tm 12 (.inl (by omega))).trans g12
   have kh:=hK1.hp _ _ b1 hh
   have kd:=hK1.hp _ _ b2 hd
   have kn:nx≤nx1:=hK1.nx
   simp only at k8 k9 kh k12 kd
   refine AWP.reg' λK hK=>?_
   try simp only[ak,ao,am,eq_self,implies_true,forall_eq_or_imp,forall_eq,Nat.reduceEqDiff,↓reduceIte,Nat.reduceAdd,Nat.reduceLeDiff,Nat.reduceSub,Nat.reduceMul,Nat.reduceLT,Int.reduceBEq,Int.reduceBNe,Int.reduceToNat,Int.reduceLT,Int.reduceLE,Int.reduceAdd,Int.reduceSub,Int.reduceMul,reduceCtorEq,tL,tI,hge,Int.toNat_natCast,List.length_map,Lnk.v]
   refine⟨⟨by omega,by omega⟩,?_⟩
   refine hK _ _ _ ?_
   clear hK K
   have hpl:∀(v1 v2 v3:Option Blk) b,b<nx1→upd (upd (upd hp1 (nx1+16+16+16) v1) (nx1+16+16+16) v2) (nx1+16+16+16) v3 b=hp1 b:=λv1 v2 v3 b hb=>by
    simp only[ah];repeat rw[if_neg (by omega)]
   have hBn:BeB t ds ⟨_,_,_⟩ ((t.ls.take z).foldl (be2 t h c d) M):=hB1.keep (s':=⟨upd (upd (upd (upd tm1 49 (AV.bool (decide ((z:Int)<(t.ls.length:Int))))) 50 ((Lnk.v x).rptr 0)) 51 (Lnk.v x)) 14 (.ref (nx1+16+16+16) 0),upd (upd (upd hp1 (nx1+16+16+16) (some (.box (.agg [.int 0,.int 0,.int 0,.int 0,.int 0])))) (nx1+16+16+16) none) (nx1+16+16+16) (some (.box (Lnk.v x))),nx1+16+16+16+16+16⟩) (by dsimp only;omega) (λr hr=>by simp only[ah];repeat rw[if_neg (by omega)]) (λb hb=>hpl _ _ _ b hb)
   refine H3 t hc ds h c d fl x (List.mem_of_getElem? hy) _ _ hI1 bh bd (nx1+16+16+16) hBn ?_ ?_ ?_ rfl ?_ ?_ (ai _ _ _) ?_ ?_ ?_ k _ (λs' hk hb hi=>?_)
   ·simp only[ah];exact k8
   ·simp only[ah];exact k9
   ·simp only[ah];exact k12
   ·dsimp only;rw[hpl _ _ _ _ (by omega)];exact kh
   ·dsimp only;rw[hpl _ _ _ _ (by omega)];exact kd
   ·dsimp only;omega
   ·dsimp only;omega
   ·dsimp only;omega
   ·obtain⟨tm2,hp2,nx2⟩:=s'
    refine(show AWP _ _ _ _ _ _ from ?_)
    have qL:tm2 46=_:=(hk.tm 46 (.inr ⟨by omega,by omega⟩)).trans tL
    have qN:tm2 47=_:=(hk.tm 47 (.inr ⟨by omega,by omega⟩)).trans tN
    have qI:tm2 48=_:=(hk.tm 48 (.inr ⟨by omega,by omega⟩)).trans tI
    have hw:IntKind.i64.wrap ((z:Int)+1)=((z+1:Nat):Int):=jQ (by omega) (by omega)
    refine AWP.reg' λK hK=>?_
    try simp only[ak,ao,am,eq_self,implies_true,forall_eq_or_imp,forall_eq,Nat.reduceEqDiff,↓reduceIte,Nat.reduceAdd,Nat.reduceLeDiff,Nat.reduceSub,Nat.reduceMul,Nat.reduceLT,Int.reduceBEq,Int.reduceBNe,Int.reduceToNat,Int.reduceLT,Int.reduceLE,Int.reduceAdd,Int.reduceSub,Int.reduceMul,reduceCtorEq,qI,hw]
    refine hK _ _ _ ?_
    clear hK K
    have hkn:nx1+16+16+16+16+16≤nx2:=hk.nx
    have hF1:(t.ls.take (z+1)).foldl (be2 t h c d) M=(be2 t h c d) ((t.ls.take z).foldl (be2 t h c d) M) x:=eG _ _ hy
    refine⟨(_,z+1),⟨⟨by dsimp only;omega,?_⟩,⟨by dsimp only;omega,λr hr=>?_,λb v hb' hv=>?_⟩,?_,?_,?_,?_⟩,by dsimp only;omega,aA.refl⟩
    ·dsimp only;rw[hF1];exact hi
    ·have hr':=hr
     unfold r3 at hr'
     have e1:=hk.tm r (by unfold r4;omega)
     have e2:=hK1.tm r hr
     dsimp only at e1 e2 ⊢
     simp only[ah]at e1 ⊢
     rw[if_neg (by omega),if_neg (by omega),e1]
     repeat rw[if_neg (by omega)]
     exact e2
    ·have e2:=hK1.hp b v hb' hv
     have hb':b<nx:=hb'
     refine hk.hp b v (by dsimp only;omega) ?_
     dsimp only
     rw[hpl _ _ _ _ (by omega)];exact e2
    ·dsimp only;rw[hF1];exact hb.keep (by dsimp only;omega) (λr hr=>by simp only[ah];repeat rw[if_neg (by omega)]) (λ_ _=>rfl)
    ·simp only[ah];exact qL
    ·simp only[ah];exact qN
    ·simp only[ah];rfl
  ·have e:z=t.ls.length:=by have:=of_decide_eq_false e;omega
   subst e
   refine AWP.exit ?_
   refine(show Q .normal _ from ?_)
   rw[List.take_length]at hI1 hB1
   refine hQ _ ⟨?_,λr hr=>?_,λb x hb hx=>hK1.hp b x hb hx⟩ (hB1.keep (by dsimp only;omega) (λr hr=>?_) (λ_ _=>rfl)) hI1
   ·have:=hK1.nx;dsimp only at this ⊢;omega
   ·have e2:=hK1.tm r hr
    unfold r3 at hr;dsimp only at e2 ⊢;simp only[ah];rw[if_neg (by omega)];exact e2
   ·simp only[ah];rw[if_neg (by omega)]
theorem H7(t:Tpl)(hc:aD t=0)(ds:List Hop)(h:Hop)(c:Int)  (s:S3) (M:Rws) (hI:gb t M) (bh:Nat) (hB:BeB t ds s M) (g8:s.tm 8=.ref bh 0) (g9:s.tm 9=.int c) 
  (hh:s.hp bh=some (.box (.agg [.int h.a,.int h.b])))  (b1:bh<s.nx) (k:Nat) (Q:X→S3→Prop)
  (hQ:∀s',Kp r2 s s'→BeB t ds s' (t.rs.foldl (be3 t h c) M)→gb t (t.rs.foldl (be3 t h c) M)→Q .normal s'):AWP Tryz.prog 0 k H8 Q s:=by
 have hnl:=cd hc
 have hml:=bv
 obtain⟨tm,hp,nx⟩:=s
 simp only at g8 g9  hh b1
 have q2:=hB.t2
 have q0:=hB.h0
 simp only at q2 q0
 unfold H8
 refine AWP.seq' ?_
 refine AWP.reg' λK hK=>?_
 try simp only[ak,ao,am,eq_self,implies_true,forall_eq_or_imp,forall_eq,Nat.reduceEqDiff,↓reduceIte,Nat.reduceAdd,Nat.reduceLeDiff,Nat.reduceSub,Nat.reduceMul,Nat.reduceLT,Int.reduceBEq,Int.reduceBNe,Int.reduceToNat,Int.reduceLT,Int.reduceLE,Int.reduceAdd,Int.reduceSub,Int.reduceMul,reduceCtorEq,q2,q0,Tpl.v,List.length_map]
 repeat (refine And.intro (by omega) ?_)
 refine hK _ _ _ ?_
 clear hK K
 refine AWP.block ?_
 refine AWP.loopS (λu:S3×Nat=>u.1) (λu=>(u.2≤t.rs.length∧gb t ((t.rs.take u.2).foldl (be3 t h c) M))∧Kp r2 ⟨tm,hp,nx⟩ u.1∧BeB t ds u.1 ((t.rs.take u.2).foldl (be3 t h c) M) ∧
  u.1.tm 39=.sl 2 (t.rs.map Rtr.v) false∧u.1.tm 40=.int t.rs.length∧u.1.tm 41=.int (u.2:Nat)) (λu=>t.rs.length-u.2) (i0:=(_,0)) ?_ aA.refl ?_
 ·refine⟨⟨Nat.zero_le _,hI⟩,⟨by dsimp only;omega,λr hr=>?_,λb x _ hx=>hx⟩,hB.keep (by dsimp only;omega) (λr hr=>?_) (λ_ _=>rfl),rfl,rfl,rfl⟩
  ·unfold r2 at hr;simp only[ah];repeat rw[if_neg (by omega)]
  ·simp only[ah];repeat rw[if_neg (by omega)]
 ·rintro⟨⟨tm1,hp1,nx1⟩,z⟩ ⟨⟨hz,hI1⟩,hK1,hB1,tL,tN,tI⟩
  simp only at hz hI1 tL tN tI ⊢
  refine AWP.seq' ?_
  refine AWP.reg' λK hK=>?_
  try simp only[ak,ao,am,eq_self,implies_true,forall_eq_or_imp,forall_eq,Nat.reduceEqDiff,↓reduceIte,Nat.reduceAdd,Nat.reduceLeDiff,Nat.reduceSub,Nat.reduceMul,Nat.reduceLT,Int.reduceBEq,Int.reduceBNe,Int.reduceToNat,Int.reduceLT,Int.reduceLE,Int.reduceAdd,Int.reduceSub,Int.reduceMul,reduceCtorEq,tN,tI]
  refine hK _ _ _ ?_
  clear hK K
  refine AWP.seq' ?_
  refine AWP.cond (b:=decide ((z:Int)<(t.rs.length:Int))) rfl (λe=>?_) (λe=>?_)
  ·have e:z<t.rs.length:=by have:=of_decide_eq_true e;omega
   refine AWP.skip ?_
   refine AWP.seq' (AWP.block (AWP.seq' ?_))
   have hy:t.rs[z]?=some t.rs[z]:=List.getElem?_eq_getElem e
   generalize t.rs[z]=x at hy
   have hge:(t.rs.map Rtr.v).getD z .unk=Rtr.v x:=by rw[List.getD_eq_getElem?_getD,List.getElem?_map,hy];rfl
   have k8:=(hK1.tm 8 (.inl (by omega))).trans g8
   have k9:=(hK1.tm 9 (.inl (by omega))).trans g9
   skip
   have kh:=hK1.hp _ _ b1 hh
   skip
   have kn:nx≤nx1:=hK1.nx
   simp only at k8 k9 kh 
   refine AWP.reg' λK hK=>?_
   try simp only[ak,ao,am,eq_self,implies_true,forall_eq_or_imp,forall_eq,Nat.reduceEqDiff,↓reduceIte,Nat.reduceAdd,Nat.reduceLeDiff,Nat.reduceSub,Nat.reduceMul,Nat.reduceLT,Int.reduceBEq,Int.reduceBNe,Int.reduceToNat,Int.reduceLT,Int.reduceLE,Int.reduceAdd,Int.reduceSub,Int.reduceMul,reduceCtorEq,tL,tI,hge,Int.toNat_natCast,List.length_map,Rtr.v]
   refine⟨⟨by omega,by omega⟩,?_⟩
   refine hK _ _ _ ?_
   clear hK K
   have hpl:∀(v1 v2 v3:Option Blk) b,b<nx1→upd (upd (upd hp1 (nx1+16+16+16) v1) (nx1+16+16+16) v2) (nx1+16+16+16) v3 b=hp1 b:=λv1 v2 v3 b hb=>by
    simp only[ah];repeat rw[if_neg (by omega)]
   have hBn:BeB t ds ⟨_,_,_⟩ ((t.rs.take z).foldl (be3 t h c) M):=hB1.keep (s':=⟨upd (upd (upd (upd tm1 42 (AV.bool (decide ((z:Int)<(t.rs.length:Int))))) 43 ((Rtr.v x).rptr 0)) 44 (Rtr.v x)) 12 (.ref (nx1+16+16+16) 0),upd (upd (upd hp1 (nx1+16+16+16) (some (.box (.agg [.int 0,.bool false])))) (nx1+16+16+16) none) (nx1+16+16+16) (some (.box (Rtr.v x))),nx1+16+16+16+16+16⟩) (by dsimp only;omega) (λr hr=>by simp only[ah];repeat rw[if_neg (by omega)]) (λb hb=>hpl _ _ _ b hb)
   refine H5 t hc ds h c x.id (.bool x.cap) _ _ hI1 bh (nx1+16+16+16) hBn ?_ ?_ rfl ?_ (ai _ _ _) ?_ ?_ k _ (λs' hk hb hi=>?_)
   ·simp only[ah];exact k8
   ·simp only[ah];exact k9
   ·dsimp only;rw[hpl _ _ _ _ (by omega)];exact kh
   ·dsimp only;omega
   ·dsimp only;omega
   ·obtain⟨tm2,hp2,nx2⟩:=s'
    refine(show AWP _ _ _ _ _ _ from ?_)
    have qL:tm2 39=_:=(hk.tm 39 (.inr ⟨by omega,by omega⟩)).trans tL
    have qN:tm2 40=_:=(hk.tm 40 (.inr ⟨by omega,by omega⟩)).trans tN
    have qI:tm2 41=_:=(hk.tm 41 (.inr ⟨by omega,by omega⟩)).trans tI
    have hw:IntKind.i64.wrap ((z:Int)+1)=((z+1:Nat):Int):=jQ (by omega) (by omega)
    refine AWP.reg' λK hK=>?_
    try simp only[ak,ao,am,eq_self,implies_true,forall_eq_or_imp,forall_eq,Nat.reduceEqDiff,↓reduceIte,Nat.reduceAdd,Nat.reduceLeDiff,Nat.reduceSub,Nat.reduceMul,Nat.reduceLT,Int.reduceBEq,Int.reduceBNe,Int.reduceToNat,Int.reduceLT,Int.reduceLE,Int.reduceAdd,Int.reduceSub,Int.reduceMul,reduceCtorEq,qI,hw]
    refine hK _ _ _ ?_
    clear hK K
    have hkn:nx1+16+16+16+16+16≤nx2:=hk.nx
    have hF1:(t.rs.take (z+1)).foldl (be3 t h c) M=(be3 t h c) ((t.rs.take z).foldl (be3 t h c) M) x:=eG _ _ hy
    refine⟨(_,z+1),⟨⟨by dsimp only;omega,?_⟩,⟨by dsimp only;omega,λr hr=>?_,λb v hb' hv=>?_⟩,?_,?_,?_,?_⟩,by dsimp only;omega,aA.refl⟩
    ·dsimp only;rw[hF1];exact hi
    ·have hr':=hr
     unfold r2 at hr'
     have e1:=hk.tm r (by unfold r3;omega)
     have e2:=hK1.tm r hr
     dsimp only at e1 e2 ⊢
     simp only[ah]at e1 ⊢
     rw[if_neg (by omega),if_neg (by omega),e1]
     repeat rw[if_neg (by omega)]
     exact e2
    ·have e2:=hK1.hp b v hb' hv
     have hb':b<nx:=hb'
     refine hk.hp b v (by dsimp only;omega) ?_
     dsimp only
     rw[hpl _ _ _ _ (by omega)];exact e2
    ·dsimp only;rw[hF1];exact hb.keep (by dsimp only;omega) (λr hr=>by simp only[ah];repeat rw[if_neg (by omega)]) (λ_ _=>rfl)
    ·simp only[ah];exact qL
    ·simp only[ah];exact qN
    ·simp only[ah];rfl
  ·have e:z=t.rs.length:=by have:=of_decide_eq_false e;omega
   subst e
   refine AWP.exit ?_
   refine(show Q .normal _ from ?_)
   rw[List.take_length]at hI1 hB1
   refine hQ _ ⟨?_,λr hr=>?_,λb x hb hx=>hK1.hp b x hb hx⟩ (hB1.keep (by dsimp only;omega) (λr hr=>?_) (λ_ _=>rfl)) hI1
   ·have:=hK1.nx;dsimp only at this ⊢;omega
   ·have e2:=hK1.tm r hr
    unfold r2 at hr;dsimp only at e2 ⊢;simp only[ah];rw[if_neg (by omega)];exact e2
   ·simp only[ah];rw[if_neg (by omega)]
def Q2:AF:=
 ⟨139,2,[.tmp 4],
 .seq (.reg [⟨(some 2),.box (.t 0),none⟩,⟨(some 4),.move (.c (.val (.map none))),none⟩])
 (.seq (.reg [⟨(some 18),.mkm none,none⟩,⟨(some 5),.move (.t 18),none⟩])
 (.seq (.reg [⟨(some 19),.load true 2 (.t 2),none⟩,⟨(some 20),.call (.c (.func 93 [])) [(.t 19)],none⟩,⟨(some 6),.move (.t 20),none⟩])
 (.seq (.seq (.reg [⟨(some 21),.move (.t 1),none⟩,⟨(some 22),.len (.t 21),none⟩,⟨(some 23),.move (.c (.val (.int .i64 0))),none⟩])
 (.block 0 (.loop (.seq (.reg [⟨(some 24),.bin .lss (.t 23) (.t 22),none⟩])
 (.seq (.cond (.t 24) (.skip) (.exit 0))
 (.seq (.block 1 (.seq (.reg [⟨(some 25),.iaddr 2 (.t 21) (.t 23),none⟩,⟨(some 26),.load true 2 (.t 25),none⟩,⟨(some 8),.box (.c (.agg [(.val (.int .i64 0)),(.val (.int .i64 0))])),none⟩,⟨none,.store 2 (.t 8) (.t 26),none⟩])
 (.seq (.reg [⟨(some 28),.load true 2 (.t 2),none⟩,⟨(some 29),.faddr 0 (.t 8),none⟩,⟨(some 30),.load false 1 (.t 29),none⟩,⟨(some 31),.faddr 1 (.t 8),none⟩,⟨(some 32),.load false 1 (.t 31),none⟩,⟨(some 33),.call (.c (.func 92 [])) [(.t 28),(.t 30),(.t 32)],none⟩,⟨(some 27),.move (.t 33),none⟩,⟨(some 34),.ext 0 (.t 27),none⟩,⟨(some 35),.ext 1 (.t 27),none⟩,⟨(some 9),.move (.t 34),none⟩,⟨(some 10),.move (.t 35),none⟩])
 (.seq (.seq (.reg [⟨(some 36),.move (.t 10),none⟩,⟨(some 37),.un .not (.t 36),none⟩])
 (.cond (.t 37) (.exit 1) (.skip)))
 (.seq (.reg [⟨(some 38),.faddr 0 (.t 2),none⟩,⟨(some 39),.load false 1 (.t 38),none⟩,⟨(some 40),.len (.t 39),none⟩,⟨(some 41),.move (.c (.val (.int .i64 0))),none⟩])
 (.block 2 (.loop (.seq (.reg [⟨(some 42),.bin .lss (.t 41) (.t 40),none⟩])
 (.seq (.cond (.t 42) (.skip) (.exit 2))
 (.seq (.block 3 (.seq (.reg [⟨(some 43),.iaddr 2 (.t 39) (.t 41),none⟩,⟨(some 44),.load true 2 (.t 43),none⟩,⟨(some 12),.box (.c (.agg [(.val (.int .i64 0)),(.val (.bool false))])),none⟩,⟨none,.store 2 (.t 12) (.t 44),none⟩])
 (.seq (.reg [⟨(some 45),.faddr 1 (.t 2),none⟩,⟨(some 46),.load false 1 (.t 45),none⟩,⟨(some 47),.len (.t 46),none⟩,⟨(some 48),.move (.c (.val (.int .i64 0))),none⟩])
 (.block 4 (.loop (.seq (.reg [⟨(some 49),.bin .lss (.t 48) (.t 47),none⟩])
 (.seq (.cond (.t 49) (.skip) (.exit 4))
 (.seq (.block 5 (.seq (.reg [⟨(some 50),.iaddr 5 (.t 46) (.t 48),none⟩,⟨(some 51),.load true 5 (.t 50),none⟩,⟨(some 14),.box (.c (.agg [(.val (.int .i64 0)),(.val (.int .i64 0)),(.val (.int .i64 0)),(.val (.int .i64 0)),(.val (.int .i64 0))])),none⟩,⟨none,.store 5 (.t 14) (.t 51),none⟩])
 (.seq (.reg [⟨(some 52),.faddr 0 (.t 14),none⟩,⟨(some 53),.load false 1 (.t 52),none⟩,⟨(some 54),.faddr 1 (.t 14),none⟩,⟨(some 55),.load false 1 (.t 54),none⟩,⟨(some 56),.faddr 2 (.t 14),none⟩,⟨(some 57),.load false 1 (.t 56),none⟩,⟨(some 58),.build [(.val (.int .i64 0)),(.val (.int .i64 0)),(.val (.int .i64 0))] [(0,1,(.t 53)),(1,1,(.t 55)),(2,1,(.t 57))],none⟩,⟨(some 59),.faddr 1 (.t 14),none⟩,⟨(some 60),.load false 1 (.t 59),none⟩,⟨(some 61),.faddr 0 (.t 14),none⟩,⟨(some 62),.load false 1 (.t 61),none⟩,⟨(some 63),.faddr 3 (.t 14),none⟩,⟨(some 64),.load false 1 (.t 63),none⟩,⟨(some 65),.build [(.val (.int .i64 0)),(.val (.int .i64 0)),(.val (.int .i64 0))] [(0,1,(.t 60)),(1,1,(.t 62)),(2,1,(.t 64))],none⟩,⟨(some 66),.lit 3 2 (.agg [(.val (.int .i64 0)),(.val (.int .i64 0)),(.val (.int .i64 0))]) [(0,(.t 58)),(1,(.t 65))],none⟩,⟨(some 67),.len (.t 66),none⟩,⟨(some 68),.move (.c (.val (.int .i64 0))),none⟩])
 (.block 6 (.loop (.seq (.reg [⟨(some 69),.bin .lss (.t 68) (.t 67),none⟩])
 (.seq (.cond (.t 69) (.skip) (.exit 6))
 (.seq (.block 7 (.seq (.reg [⟨(some 70),.iaddr 3 (.t 66) (.t 68),none⟩,⟨(some 71),.load true 3 (.t 70),none⟩,⟨(some 16),.box (.c (.agg [(.val (.int .i64 0)),(.val (.int .i64 0)),(.val (.int .i64 0))])),none⟩,⟨none,.store 3 (.t 16) (.t 71),none⟩])
 (.seq (.reg [⟨(some 72),.faddr 0 (.t 16),none⟩,⟨(some 73),.load false 1 (.t 72),none⟩,⟨(some 74),.faddr 0 (.t 8),none⟩,⟨(some 75),.load false 1 (.t 74),none⟩,⟨(some 76),.bin .neq (.t 73) (.t 75),none⟩,⟨(some 77),.move (.t 76),none⟩,⟨(some 78),.move (.t 6),(some (77,true))⟩,⟨(some 79),.faddr 0 (.t 16),(some (77,true))⟩,⟨(some 80),.load false 1 (.t 79),(some (77,true))⟩,⟨(some 81),.faddr 0 (.t 12),(some (77,true))⟩,⟨(some 82),.load false 1 (.t 81),(some (77,true))⟩,⟨(some 83),.faddr 0 (.t 16),(some (77,true))⟩,⟨(some 84),.load false 1 (.t 83),(some (77,true))⟩,⟨(some 85),.faddr 1 (.t 16),(some (77,true))⟩,⟨(some 86),.load false 1 (.t 85),(some (77,true))⟩,⟨(some 87),.build [(.val (.int .i64 0)),(.val (.int .i64 0))] [(0,1,(.t 84)),(1,1,(.t 86))],(some (77,true))⟩,⟨(some 88),.faddr 2 (.t 16),(some (77,true))⟩,⟨(some 89),.load false 1 (.t 88),(some (77,true))⟩,⟨(some 90),.call (.c (.func 94 [])) [(.t 78),(.t 80),(.t 82),(.t 87),(.t 89)],(some (77,true))⟩,⟨(some 91),.pick (.t 77) (.t 90) (.c (.val (.bool false))),none⟩,⟨(some 17),.move (.t 91),none⟩])
 (.seq (.reg [⟨(some 92),.move (.t 17),none⟩,⟨(some 93),.move (.t 92),none⟩,⟨(some 94),.move (.t 6),(some (93,true))⟩,⟨(some 95),.faddr 0 (.t 16),(some (93,true))⟩,⟨(some 96),.load false 1 (.t 95),(some (93,true))⟩,⟨(some 97),.faddr 0 (.t 12),(some (93,true))⟩,⟨(some 98),.load false 1 (.t 97),(some (93,true))⟩,⟨(some 99),.load true 2 (.t 8),(some (93,true))⟩,⟨(some 100),.move (.t 9),(some (93,true))⟩,⟨(some 101),.call (.c (.func 94 [])) [(.t 94),(.t 96),(.t 98),(.t 99),(.t 100)],(some (93,true))⟩,⟨(some 102),.pick (.t 93) (.t 101) (.c (.val (.bool false))),none⟩,⟨(some 103),.move (.t 102),none⟩,⟨(some 104),.move (.t 6),(some (103,true))⟩,⟨(some 105),.faddr 1 (.t 16),(some (103,true))⟩,⟨(some 106),.load false 1 (.t 105),(some (103,true))⟩,⟨(some 107),.faddr 0 (.t 12),(some (103,true))⟩,⟨(some 108),.load false 1 (.t 107),(some (103,true))⟩,⟨(some 109),.load true 2 (.t 8),(some (103,true))⟩,⟨(some 110),.move (.t 9),(some (103,true))⟩,⟨(some 111),.call (.c (.func 94 [])) [(.t 104),(.t 106),(.t 108),(.t 109),(.t 110)],(some (103,true))⟩,⟨(some 112),.pick (.t 103) (.t 111) (.c (.val (.bool false))),none⟩,⟨(some 113),.move (.t 112),none⟩,⟨(some 114),.move (.t 5),(some (113,true))⟩,⟨(some 115),.faddr 0 (.t 16),(some (113,true))⟩,⟨(some 116),.load false 1 (.t 115),(some (113,true))⟩,⟨(some 117),.mget none ((.sl 0 [] true)) false (.t 114) (.t 116),(some (113,true))⟩,⟨(some 118),.faddr 1 (.t 16),(some (113,true))⟩,⟨(some 119),.load false 1 (.t 118),(some (113,true))⟩,⟨(some 120),.call (.c (.func 69 [])) [(.t 117),(.t 119)],(some (113,true))⟩,⟨(some 121),.un .not (.t 120),(some (113,true))⟩,⟨(some 122),.pick (.t 113) (.t 121) (.c (.val (.bool false))),none⟩])
 (.cond (.t 122) (.dreg [⟨(some 123),.move (.t 5),none⟩,⟨(some 124),.faddr 0 (.t 16),none⟩,⟨(some 125),.load false 1 (.t 124),none⟩,⟨(some 126),.move (.t 5),none⟩,⟨(some 127),.faddr 0 (.t 16),none⟩,⟨(some 128),.load false 1 (.t 127),none⟩,⟨(some 129),.mget none ((.sl 0 [] true)) false (.t 126) (.t 128),none⟩,⟨(some 130),.faddr 1 (.t 16),none⟩,⟨(some 131),.load false 1 (.t 130),none⟩,⟨(some 132),.lit 1 1 (.val (.int .i64 0)) [(0,(.t 131))],none⟩,⟨(some 133),.append 1 8 (.t 129) (.t 132),none⟩,⟨none,.mset none (.t 123) (.t 125) (.t 133),none⟩] [(2,5),(2,6),(2,8),(5,8),(6,8),(2,9),(5,9),(6,9),(2,10)]) (.skip))))))
 (.reg [⟨(some 134),.bin .add (.t 68) (.c (.val (.int .i64 1))),none⟩,⟨(some 68),.move (.t 134),none⟩])))))))))
 (.reg [⟨(some 135),.bin .add (.t 48) (.c (.val (.int .i64 1))),none⟩,⟨(some 48),.move (.t 135),none⟩])))))))))
 (.reg [⟨(some 136),.bin .add (.t 41) (.c (.val (.int .i64 1))),none⟩,⟨(some 41),.move (.t 136),none⟩])))))))))))
 (.reg [⟨(some 137),.bin .add (.t 23) (.c (.val (.int .i64 1))),none⟩,⟨(some 23),.move (.t 137),none⟩])))))))
 (.seq (.reg [⟨(some 138),.move (.t 5),none⟩,⟨(some 4),.move (.t 138),none⟩])
 (.ret)))))⟩
theorem LD:fL Tryz.prog Tryz.f49=some Q2:=by kernel_rfl
def be4(t:Tpl)(M:Rws)(h:Hop):Rws:=if(bz t h.a h.b).2=true then t.rs.foldl (be3 t h (bz t h.a h.b).1) M else M
def eZ(t:Tpl)(ds:List Hop):Rws:=ds.foldl (be4 t) []
def r1(r:Nat):Prop:=r<8∨18≤r∧r<24
theorem og{t:Tpl}{f g:Int}(h:(bz t f g).2=true):aD t=0:=by
 unfold bz at h
 split at h
 ·cases h
 ·rename_i e;exact Classical.not_not.mp e
theorem Hw(t:Tpl)(ds:List Hop)(hd:ds.length≤1000):aO Tryz.prog 49 [Tpl.v t,.sl 2 (ds.map Hop.v) false] [] (.mref 0) [some (ip (eZ t ds))]:=by
 refine aO.walk Tryz.func49 LD (by simp[Q2]) ?_
 unfold Q2
 simp only[fq,fK,List.length_cons,List.length_nil]
 refine AWP.seq' ?_
 refine AWP.reg' λK hK=>?_
 try simp only[ak,ao,am,eq_self,implies_true,forall_eq_or_imp,forall_eq,Nat.reduceEqDiff,↓reduceIte,Nat.reduceAdd,Nat.reduceLeDiff,Nat.reduceSub,Nat.reduceMul,Nat.reduceLT,Int.reduceBEq,Int.reduceBNe,Int.reduceToNat,Int.reduceLT,Int.reduceLE,Int.reduceAdd,Int.reduceSub,Int.reduceMul,reduceCtorEq]
 refine⟨rfl,?_⟩
 refine hK _ _ _ ?_
 clear hK K
 refine AWP.seq' ?_
 refine AWP.reg' λK hK=>?_
 try simp only[ak,ao,am,eq_self,implies_true,forall_eq_or_imp,forall_eq,Nat.reduceEqDiff,↓reduceIte,Nat.reduceAdd,Nat.reduceLeDiff,Nat.reduceSub,Nat.reduceMul,Nat.reduceLT,Int.reduceBEq,Int.reduceBNe,Int.reduceToNat,Int.reduceLT,Int.reduceLE,Int.reduceAdd,Int.reduceSub,Int.reduceMul,reduceCtorEq,rG]
 refine hK _ _ _ ?_
 clear hK K
 refine AWP.seq' ?_
 refine AWP.reg' λK hK=>?_
 try simp only[ak,ao,am,eq_self,implies_true,forall_eq_or_imp,forall_eq,Nat.reduceEqDiff,↓reduceIte,Nat.reduceAdd,Nat.reduceLeDiff,Nat.reduceSub,Nat.reduceMul,Nat.reduceLT,Int.reduceBEq,Int.reduceBNe,Int.reduceToNat,Int.reduceLT,Int.reduceLE,Int.reduceAdd,Int.reduceSub,Int.reduceMul,reduceCtorEq,Tpl.v]
 refine da (show ax Tryz.prog (zj t).f [Tpl.v t] (PF t)from(zj t).ok) (zj t).fn rfl rfl ?_ ?_
 ·exact⟨⟨trivial,trivial,trivial⟩,trivial⟩
 try simp only[ak,ao,am,eq_self,implies_true,forall_eq_or_imp,forall_eq,Nat.reduceEqDiff,↓reduceIte,Nat.reduceAdd,Nat.reduceLeDiff,Nat.reduceSub,Nat.reduceMul,Nat.reduceLT,Int.reduceBEq,Int.reduceBNe,Int.reduceToNat,Int.reduceLT,Int.reduceLE,Int.reduceAdd,Int.reduceSub,Int.reduceMul,reduceCtorEq]
 refine hK _ _ _ ?_
 clear hK K
 refine AWP.seq' (AWP.seq' ?_)
 refine AWP.reg' λK hK=>?_
 try simp only[ak,ao,am,eq_self,implies_true,forall_eq_or_imp,forall_eq,Nat.reduceEqDiff,↓reduceIte,Nat.reduceAdd,Nat.reduceLeDiff,Nat.reduceSub,Nat.reduceMul,Nat.reduceLT,Int.reduceBEq,Int.reduceBNe,Int.reduceToNat,Int.reduceLT,Int.reduceLE,Int.reduceAdd,Int.reduceSub,Int.reduceMul,reduceCtorEq,List.length_map]
 repeat (refine And.intro (by omega) ?_)
 refine hK _ _ _ ?_
 clear hK K
 refine AWP.block ?_
 have hml:=bv
 refine AWP.loopS (λu:S3×Nat=>u.1) (λu=>(u.2≤ds.length∧gb t ((ds.take u.2).foldl (be4 t) []))∧BeB t ds u.1 ((ds.take u.2).foldl (be4 t) []) ∧
  u.1.tm 21=.sl 2 (ds.map Hop.v) false∧u.1.tm 22=.int ds.length∧u.1.tm 23=.int (u.2:Nat)) (λu=>ds.length-u.2) (i0:=(_,0)) ?_ aA.refl ?_
 ·exact⟨⟨Nat.zero_le _,⟨λp hp=>by simp at hp,λp hp=>by simp at hp,λp hp=>by simp at hp⟩⟩,⟨by dsimp only;omega,rfl,rfl,rfl,rfl,rfl,[],⟨rfl,rfl,List.nodup_nil,List.nodup_nil,by simp,by dsimp only;omega,by simp⟩⟩,rfl,rfl,rfl⟩
 ·rintro⟨⟨tm1,hp1,nx1⟩,z⟩ ⟨⟨hz,hI1⟩,hB1,t21,t22,t23⟩
  simp only at hz hI1 t21 t22 t23 ⊢
  refine AWP.seq' ?_
  refine AWP.reg' λK hK=>?_
  try simp only[ak,ao,am,eq_self,implies_true,forall_eq_or_imp,forall_eq,Nat.reduceEqDiff,↓reduceIte,Nat.reduceAdd,Nat.reduceLeDiff,Nat.reduceSub,Nat.reduceMul,Nat.reduceLT,Int.reduceBEq,Int.reduceBNe,Int.reduceToNat,Int.reduceLT,Int.reduceLE,Int.reduceAdd,Int.reduceSub,Int.reduceMul,reduceCtorEq,t22,t23]
  refine hK _ _ _ ?_
  clear hK K
  refine AWP.seq' ?_
  refine AWP.cond (b:=decide ((z:Int)<(ds.length:Int))) rfl (λe=>?_) (λe=>?_)
  ·have e:z<ds.length:=by have:=of_decide_eq_true e;omega
   refine AWP.skip ?_
   refine AWP.seq' (AWP.block (AWP.seq' ?_))
   have hy:ds[z]?=some ds[z]:=List.getElem?_eq_getElem e
   generalize ds[z]=h at hy
   have hge:(ds.map Hop.v).getD z .unk=Hop.v h:=by rw[List.getD_eq_getElem?_getD,List.getElem?_map,hy];rfl
   have k2:=hB1.t2
   have k0:=hB1.h0
   have kn:=hB1.nx
   simp only at k2 k0 kn
   obtain⟨f0,_⟩:=nxF (show 0<nx1 by omega)
   refine AWP.reg' λK hK=>?_
   try simp only[ak,ao,am,eq_self,implies_true,forall_eq_or_imp,forall_eq,Nat.reduceEqDiff,↓reduceIte,Nat.reduceAdd,Nat.reduceLeDiff,Nat.reduceSub,Nat.reduceMul,Nat.reduceLT,Int.reduceBEq,Int.reduceBNe,Int.reduceToNat,Int.reduceLT,Int.reduceLE,Int.reduceAdd,Int.reduceSub,Int.reduceMul,reduceCtorEq,t21,t23,hge,Int.toNat_natCast,List.length_map,Hop.v]
   refine⟨⟨by omega,by omega⟩,?_⟩
   refine hK _ _ _ ?_
   clear hK K
   refine AWP.seq' ?_
   refine AWP.reg' λK hK=>?_
   try simp only[ak,ao,am,eq_self,implies_true,forall_eq_or_imp,forall_eq,Nat.reduceEqDiff,↓reduceIte,Nat.reduceAdd,Nat.reduceLeDiff,Nat.reduceSub,Nat.reduceMul,Nat.reduceLT,Int.reduceBEq,Int.reduceBNe,Int.reduceToNat,Int.reduceLT,Int.reduceLE,Int.reduceAdd,Int.reduceSub,Int.reduceMul,reduceCtorEq,k2,k0,f0,Tpl.v,Nat.add_assoc]
   refine da (show ax Tryz.prog (oe t h.a h.b).f [Tpl.v t,.int h.a,.int h.b] (.tup [.int (bz t h.a h.b).1,.bool (bz t h.a h.b).2])from(oe t h.a h.b).ok) (oe t h.a h.b).fn rfl rfl ?_ ?_
   ·exact⟨⟨trivial,trivial,trivial⟩,trivial,trivial,trivial⟩
   try simp only[ak,ao,am,eq_self,implies_true,forall_eq_or_imp,forall_eq,Nat.reduceEqDiff,↓reduceIte,Nat.reduceAdd,Nat.reduceLeDiff,Nat.reduceSub,Nat.reduceMul,Nat.reduceLT,Int.reduceBEq,Int.reduceBNe,Int.reduceToNat,Int.reduceLT,Int.reduceLE,Int.reduceAdd,Int.reduceSub,Int.reduceMul,reduceCtorEq,Nat.add_assoc]
   refine hK _ _ _ ?_
   clear hK K
   have hF1:(ds.take (z+1)).foldl (be4 t) []=be4 t ((ds.take z).foldl (be4 t) []) h:=eG _ _ hy
   have hw:IntKind.i64.wrap ((z:Int)+1)=((z+1:Nat):Int):=jQ (by omega) (by omega)
   refine AWP.seq' (AWP.seq' ?_)
   refine AWP.reg' λK hK=>?_
   try simp only[ak,ao,am,eq_self,implies_true,forall_eq_or_imp,forall_eq,Nat.reduceEqDiff,↓reduceIte,Nat.reduceAdd,Nat.reduceLeDiff,Nat.reduceSub,Nat.reduceMul,Nat.reduceLT,Int.reduceBEq,Int.reduceBNe,Int.reduceToNat,Int.reduceLT,Int.reduceLE,Int.reduceAdd,Int.reduceSub,Int.reduceMul,reduceCtorEq]
   refine hK _ _ _ ?_
   clear hK K
   cases e1:(bz t h.a h.b).2 with
   | false =>
    refine AWP.cond (b:=true) rfl (λ_=>AWP.exit ?_) (λh=>by cases h)
    refine(show AWP _ _ _ _ _ _ from ?_)
    have hF2:be4 t ((ds.take z).foldl (be4 t) []) h=(ds.take z).foldl (be4 t) []:=by unfold be4;rw[if_neg (by simp[e1])]
    rw[hF2]at hF1
    refine AWP.reg' λK hK=>?_
    try simp only[ak,ao,am,eq_self,implies_true,forall_eq_or_imp,forall_eq,Nat.reduceEqDiff,↓reduceIte,Nat.reduceAdd,Nat.reduceLeDiff,Nat.reduceSub,Nat.reduceMul,Nat.reduceLT,Int.reduceBEq,Int.reduceBNe,Int.reduceToNat,Int.reduceLT,Int.reduceLE,Int.reduceAdd,Int.reduceSub,Int.reduceMul,reduceCtorEq,t23,hw]
    refine hK _ _ _ ?_
    clear hK K
    refine⟨(_,z+1),⟨⟨by dsimp only;omega,?_⟩,?_,?_,?_,?_⟩,by dsimp only;omega,aA.refl⟩
    ·dsimp only;rw[hF1];exact hI1
    ·dsimp only;rw[hF1]
     refine hB1.keep (by dsimp only;omega) (λr hr=>by simp only[ah];repeat rw[if_neg (by omega)]) (λb hb=>?_)
     have hb':b<nx1:=hb
     simp only[ah];repeat rw[if_neg (by omega)]
    ·simp only[ah];exact t21
    ·simp only[ah];exact t22
    ·simp only[ah];rfl
   | true =>
    have hc:=og e1
    refine AWP.cond (b:=false) rfl (λh=>by cases h) (λ_=>AWP.skip ?_)
    refine(show AWP _ _ _ H8 _ _ from ?_)
    have hF2:be4 t ((ds.take z).foldl (be4 t) []) h=t.rs.foldl (be3 t h (bz t h.a h.b).1) ((ds.take z).foldl (be4 t) []):=by unfold be4;rw[if_pos e1]
    rw[hF2]at hF1
    refine H7 t hc ds h (bz t h.a h.b).1 _ _ hI1 (nx1+48) (hB1.keep ?_ (λr hr=>?_) (λb hb=>?_)) rfl rfl ?_ ?_ _ _ (λs' hk hb hi=>?_)
    ·dsimp only;omega
    ·simp only[ah];repeat rw[if_neg (by omega)]
    ·have hb':b<nx1:=hb
     simp only[ah];repeat rw[if_neg (by omega)]
    ·simp only[ah,↓reduceIte]
    ·dsimp only;omega
    ·obtain⟨tm2,hp2,nx2⟩:=s'
     refine(show AWP _ _ _ _ _ _ from ?_)
     have q21:tm2 21=_:=(hk.tm 21 (.inr ⟨by omega,by omega⟩)).trans t21
     have q22:tm2 22=_:=(hk.tm 22 (.inr ⟨by omega,by omega⟩)).trans t22
     have q23:tm2 23=_:=(hk.tm 23 (.inr ⟨by omega,by omega⟩)).trans t23
     refine AWP.reg' λK hK=>?_
     try simp only[ak,ao,am,eq_self,implies_true,forall_eq_or_imp,forall_eq,Nat.reduceEqDiff,↓reduceIte,Nat.reduceAdd,Nat.reduceLeDiff,Nat.reduceSub,Nat.reduceMul,Nat.reduceLT,Int.reduceBEq,Int.reduceBNe,Int.reduceToNat,Int.reduceLT,Int.reduceLE,Int.reduceAdd,Int.reduceSub,Int.reduceMul,reduceCtorEq,q23,hw]
     refine hK _ _ _ ?_
     clear hK K
     refine⟨(_,z+1),⟨⟨by dsimp only;omega,?_⟩,?_,?_,?_,?_⟩,by dsimp only;omega,aA.refl⟩
     ·dsimp only;rw[hF1];exact hi
     ·dsimp only;rw[hF1]
      exact hb.keep (by dsimp only;omega) (λr hr=>by simp only[ah];repeat rw[if_neg (by omega)]) (λ_ _=>rfl)
     ·simp only[ah];exact q21
     ·simp only[ah];exact q22
     ·simp only[ah];rfl
  ·have e:z=ds.length:=by have:=of_decide_eq_false e;omega
   subst e
   refine AWP.exit ?_
   rw[List.take_length]at hI1
   have hB1':BeB t ds ⟨tm1,hp1,nx1⟩ (eZ t ds):=by have:=hB1;dsimp only at this;rw[List.take_length]at this;exact this
   obtain⟨n1,_,_,_,t5,_,ns,hF⟩:=hB1'
   simp only at n1 t5 hF
   refine(show AWP _ _ _ _ _ _ from ?_)
   refine AWP.seq' ?_
   refine AWP.reg' λK hK=>?_
   try simp only[ak,ao,am,eq_self,implies_true,forall_eq_or_imp,forall_eq,Nat.reduceEqDiff,↓reduceIte,Nat.reduceAdd,Nat.reduceLeDiff,Nat.reduceSub,Nat.reduceMul,Nat.reduceLT,Int.reduceBEq,Int.reduceBNe,Int.reduceToNat,Int.reduceLT,Int.reduceLE,Int.reduceAdd,Int.reduceSub,Int.reduceMul,reduceCtorEq,t5]
   refine hK _ _ _ ?_
   clear hK K
   refine(show AWP _ _ _ _ _ _ from ?_)
   obtain⟨hp',w,h1,h2⟩:=(hF.keep (nx':=nx1+16+16+16) (λ_ _ _=>rfl) (by omega)).give (k:=0) (n:=139) (tm:=upd (upd (upd tm1 24 (AV.bool (decide ((ds.length:Int)<(ds.length:Int))))) 138 (AV.mref 32)) 4 (AV.mref 32))
   refine AWP.ret (gA w (gW [32] [(4,.mref 0)] rfl rfl ?_ ?_ rfl (by decide) ?_ (by simp)))
   ·simp only[List.mem_singleton,forall_eq]
    exact⟨rfl,show(0:Nat)<1 by omega⟩
   ·refine⟨⟨?_,?_⟩,trivial⟩
    ·show hp' 32=_
     rw[h1,ip,Blk.ren,bc _ (dR _)]
    ·exact aW (dR _)
   ·intro b hb
    omega
def Q0:AF:=
 ⟨38,4,[.tmp 5],
 .seq (.reg [⟨(some 5),.move (.c (.val (.int .i64 0))),none⟩])
 (.seq (.seq (.reg [⟨(some 12),.load false 1 (.t 1),none⟩,⟨(some 13),.move (.t 0),none⟩,⟨(some 14),.mget none ((.val (.int .i64 0))) true (.t 12) (.t 13),none⟩,⟨(some 11),.move (.t 14),none⟩,⟨(some 15),.ext 0 (.t 11),none⟩,⟨(some 16),.ext 1 (.t 11),none⟩,⟨(some 6),.move (.t 15),none⟩,⟨(some 7),.move (.t 16),none⟩])
 (.seq (.reg [⟨(some 17),.move (.t 7),none⟩])
 (.cond (.t 17) (.seq (.reg [⟨(some 18),.move (.t 6),none⟩,⟨(some 5),.move (.t 18),none⟩])
 (.ret)) (.skip))))
 (.seq (.reg [⟨(some 8),.move (.c (.val (.int .i64 0))),none⟩])
 (.seq (.seq (.reg [⟨(some 19),.load false 1 (.t 2),none⟩,⟨(some 20),.move (.t 0),none⟩,⟨(some 21),.mget none ((.sl 0 [] true)) false (.t 19) (.t 20),none⟩,⟨(some 22),.len (.t 21),none⟩,⟨(some 23),.move (.c (.val (.int .i64 0))),none⟩])
 (.block 0 (.loop (.seq (.reg [⟨(some 24),.bin .lss (.t 23) (.t 22),none⟩])
 (.seq (.cond (.t 24) (.skip) (.exit 0))
 (.seq (.block 1 (.seq (.reg [⟨(some 25),.iaddr 1 (.t 21) (.t 23),none⟩,⟨(some 26),.load false 1 (.t 25),none⟩,⟨(some 10),.move (.t 26),none⟩])
 (.reg [⟨(some 27),.move (.t 8),none⟩,⟨(some 28),.load false 1 (.t 3),none⟩,⟨(some 29),.move (.t 10),none⟩,⟨(some 30),.call (.t 28) [(.t 29)],none⟩,⟨(some 31),.bin .add (.c (.val (.int .i64 1))) (.t 30),none⟩,⟨(some 32),.max [(.t 27),(.t 31)],none⟩,⟨(some 8),.move (.t 32),none⟩])))
 (.reg [⟨(some 33),.bin .add (.t 23) (.c (.val (.int .i64 1))),none⟩,⟨(some 23),.move (.t 33),none⟩])))))))
 (.seq (.reg [⟨(some 34),.load false 1 (.t 1),none⟩,⟨(some 35),.move (.t 0),none⟩,⟨(some 36),.move (.t 8),none⟩,⟨none,.mset none (.t 34) (.t 35) (.t 36),none⟩])
 (.seq (.reg [⟨(some 37),.move (.t 8),none⟩,⟨(some 5),.move (.t 37),none⟩])
 (.ret))))))⟩
theorem LB:fL Tryz.prog Tryz.f51=some Q0:=by kernel_rfl
def rkS(f:Int→Dis→Int×Dis)(s:Int×Dis)(x:Int):Int×Dis:=(dP s.1 (W (1+(f x s.2).1)),(f x s.2).2)
def rkF(A:Rws):Nat→Int→Dis→Int×Dis
 | 0,_,kn=>(0,kn)
 | f+1,r,kn=>if aY kn r=true then(aB kn r 0,kn)else
  (((aB A r []).foldl (rkS (rkF A f)) (0,kn)).1,bo ((aB A r []).foldl (rkS (rkF A f)) (0,kn)).2 r ((aB A r []).foldl (rkS (rkF A f)) (0,kn)).1)
abbrev mpR(A:Rws):AV:=.mp none (kyL A) (A.map λp=>AV.sl 1 (p.2.map AV.int) false)
abbrev knB(kn:Dis):Blk:=.map none (kn.map λp=>MK.n p.1) (kn.map λp=>AV.int p.2)
def rkH(A:Rws)(kn:Dis):List Blk:=[.box (.mref 3),.box (mpR A),.box (.func 51 [.ref 0 0,.ref 1 0,.ref 2 0]),knB kn]
def Jg:AC:=.block 0 (.loop (.seq (.reg [⟨(some 24),.bin .lss (.t 23) (.t 22),none⟩])
 (.seq (.cond (.t 24) (.skip) (.exit 0))
 (.seq (.block 1 (.seq (.reg [⟨(some 25),.iaddr 1 (.t 21) (.t 23),none⟩,⟨(some 26),.load false 1 (.t 25),none⟩,⟨(some 10),.move (.t 26),none⟩])
 (.reg [⟨(some 27),.move (.t 8),none⟩,⟨(some 28),.load false 1 (.t 3),none⟩,⟨(some 29),.move (.t 10),none⟩,⟨(some 30),.call (.t 28) [(.t 29)],none⟩,⟨(some 31),.bin .add (.c (.val (.int .i64 1))) (.t 30),none⟩,⟨(some 32),.max [(.t 27),(.t 31)],none⟩,⟨(some 8),.move (.t 32),none⟩])))
 (.reg [⟨(some 33),.bin .add (.t 23) (.c (.val (.int .i64 1))),none⟩,⟨(some 23),.move (.t 33),none⟩])))))
structure RkS (A:Rws) (r n:Int) (kn:Dis) (s:S3):Prop where
  nx:4≤s.nx
  t0:s.tm 0=.int r
  t1:s.tm 1=.ref 0 0
  t2:s.tm 2=.ref 1 0
  t3:s.tm 3=.ref 2 0
  t8:s.tm 8=.int n
  h0:s.hp 0=some (.box (.mref 3))
  h1:s.hp 1=some (.box (mpR A))
  h2:s.hp 2=some (.box (.func 51 [.ref 0 0,.ref 1 0,.ref 2 0]))
  h3:s.hp 3=some (knB kn)
theorem Bc(kn:Dis):aZ (kn.map λp=>AV.int p.2):=aH (ae (λ_=>rfl) _)
theorem uZ{A:Rws}{n fr:Nat}{x v:Int}{kn kn':Dis}{hp:Hp}(b0 b1 b2 b3:Nat)(hnd:[b0,b1,b2,b3].Nodup)(hs:aO Tryz.prog 51 [.int x,.ref 0 0,.ref 1 0,.ref 2 0] (rkH A kn) (.int v) ((rkH A kn').map some))
  (k0:hp b0=some (.box (.mref b3))) (k1:hp b1=some (.box (mpR A))) (k2:hp b2=some (.box (.func 51 [.ref b0 0,.ref b1 0,.ref b2 0]))) (k3:hp b3=some (knB kn)) :
  bq Tryz.prog n 51 [.int x,.ref b0 0,.ref b1 0,.ref b2 0] fr hp [b0,b1,b2,b3] (.int v) (eB [(b0,some (.box (.mref b3))),(b1,some (.box (mpR A))),(b2,some (.box (.func 51 [.ref b0 0,.ref b1 0,.ref b2 0]))),(b3,some (knB kn'))]):=by
 have e0:ba [b0,b1,b2,b3] fr 0=b0:=rfl
 have e1:ba [b0,b1,b2,b3] fr 1=b1:=rfl
 have e2:ba [b0,b1,b2,b3] fr 2=b2:=rfl
 have e3:ba [b0,b1,b2,b3] fr 3=b3:=rfl
 have kp:=λ(π:Nat→Nat) (kn:Dis)=>bc π (Bc kn)
 have bl:∀(kn:Dis) y,y∈rkH A kn→y.bel 4:=λkn y hy=>by
  unfold rkH at hy
  simp only[List.mem_cons,List.not_mem_nil,or_false]at hy
  rcases hy with rfl|rfl|rfl|rfl
  ·show(3:Nat)<4;omega
  ·trivial
  ·exact⟨show(0:Nat)<4 by omega,show(1:Nat)<4 by omega,show(2:Nat)<4 by omega,trivial⟩
  ·exact aW (Bc kn)
 have rn:∀(kn:Dis),(rkH A kn).map (Blk.ren (ba [b0,b1,b2,b3] fr))=[.box (.mref b3),.box (mpR A),.box (.func 51 [.ref b0 0,.ref b1 0,.ref b2 0]),knB kn]:=λkn=>by
  unfold rkH
  simp only[List.map_cons,List.map_nil,Blk.ren,kp,AV.ren,dH,e0,e1,e2,e3]
 have key:=bq.hand (n:=n) (f:=fr) (hp:=hp) ⟨_,Tryz.func51,by kernel_rfl,by kernel_rfl⟩ hs [b0,b1,b2,b3] rfl hnd ⟨trivial,show(0:Nat)<4 by omega,show(1:Nat)<4 by omega,show(2:Nat)<4 by omega,trivial⟩ (λi b y h1 h2=>by
  refine⟨bl kn y (List.mem_of_getElem? h2),?_⟩
  have h3:((rkH A kn).map (Blk.ren (ba [b0,b1,b2,b3] fr)))[i]?=some (y.ren (ba [b0,b1,b2,b3] fr)):=by rw[List.getElem?_map,h2];rfl
  rw[rn kn]at h3
  match i with
  | 0=>cases h1;exact k0.trans h3
  | 1=>cases h1;exact k1.trans h3
  | 2=>cases h1;exact k2.trans h3
  | 3=>cases h1;exact k3.trans h3
  | i+4=>simp at h1) (by simp[rkH]) (by simp[rkH]) trivial (λy hy=>by
   rw[List.mem_map]at hy
   obtain⟨z,hz,e⟩:=hy
   cases e
   have:=bl kn' y hz
   simpa[rkH]using this)
 have e4:cN [b0,b1,b2,b3] fr ((rkH A kn').map some)=eB [(b0,some (.box (.mref b3))),(b1,some (.box (mpR A))),(b2,some (.box (.func 51 [.ref b0 0,.ref b1 0,.ref b2 0]))),(b3,some (knB kn'))]:=by
  have:=rn kn'
  unfold rkH at this ⊢
  simp only[List.map_cons,List.map_nil,List.cons.injEq,and_true]at this
  obtain⟨g0,g1,g2,g3⟩:=this
  simp only[cN,List.map_cons,List.map_nil,List.zipIdx_cons,List.zipIdx_nil,Nat.zero_add,Option.map_some,e0,e1,e2,e3,g0,g1,g2,g3,Nat.reduceAdd]
 rw[e4]at key
 simpa only[dH,AV.ren,e0,e1,e2]using key
theorem rk_l(A:Rws)(f:Nat)(D:Int→Nat)(ih:∀(r:Int) (kn:Dis),D r<f→aO Tryz.prog 51 [.int r,.ref 0 0,.ref 1 0,.ref 2 0] (rkH A kn) (.int (rkF A f r kn).1) ((rkH A (rkF A f r kn).2).map some))
  (r:Int) (row:List Int) (hl:row.length≤1000000) (hr:∀x∈row,D x<f) (kn:Dis) (s:S3) (hS:RkS A r 0 kn s) (t21:s.tm 21=.sl 1 (row.map AV.int) false) (t22:s.tm 22=.int row.length) (t23:s.tm 23=.int 0) (Q:X→S3→Prop)
  (hQ:∀s',RkS A r (row.foldl (rkS (rkF A f)) (0,kn)).1 (row.foldl (rkS (rkF A f)) (0,kn)).2 s'→Q .normal s'):AWP Tryz.prog 4 38 Jg Q s:=by
 have hml:=bv
 unfold Jg
 refine AWP.block ?_
 refine AWP.loopS (λu:S3×Nat=>u.1) (λu=>u.2≤row.length∧RkS A r ((row.take u.2).foldl (rkS (rkF A f)) (0,kn)).1 ((row.take u.2).foldl (rkS (rkF A f)) (0,kn)).2 u.1 ∧
  u.1.tm 21=.sl 1 (row.map AV.int) false∧u.1.tm 22=.int row.length∧u.1.tm 23=.int (u.2:Nat)) (λu=>row.length-u.2) (i0:=(_,0)) ⟨Nat.zero_le _,hS,t21,t22,t23⟩ aA.refl ?_
 rintro⟨⟨tm1,hp1,nx1⟩,z⟩ ⟨hz,⟨n1,s0,s1,s2,s3,s8,k0,k1,k2,k3⟩,q21,q22,q23⟩
 simp only at hz n1 s0 s1 s2 s3 s8 k0 k1 k2 k3 q21 q22 q23 ⊢
 refine AWP.seq' ?_
 refine AWP.reg' λK hK=>?_
 try simp only[ak,ao,am,eq_self,implies_true,forall_eq_or_imp,forall_eq,Nat.reduceEqDiff,↓reduceIte,Nat.reduceAdd,Nat.reduceLeDiff,Nat.reduceSub,Nat.reduceMul,Nat.reduceLT,Int.reduceBEq,Int.reduceBNe,Int.reduceToNat,Int.reduceLT,Int.reduceLE,Int.reduceAdd,Int.reduceSub,Int.reduceMul,reduceCtorEq,q22,q23]
 refine hK _ _ _ ?_
 clear hK K
 refine AWP.seq' ?_
 refine AWP.cond (b:=decide ((z:Int)<(row.length:Int))) rfl (λe=>?_) (λe=>?_)
 ·have e:z<row.length:=by have:=of_decide_eq_true e;omega
  refine AWP.skip ?_
  refine AWP.seq' (AWP.block (AWP.seq' ?_))
  have hy:row[z]?=some row[z]:=List.getElem?_eq_getElem e
  generalize row[z]=x at hy
  have hge:(row.map AV.int).getD z .unk=.int x:=by rw[List.getD_eq_getElem?_getD,List.getElem?_map,hy];rfl
  refine AWP.reg' λK hK=>?_
  try simp only[ak,ao,am,eq_self,implies_true,forall_eq_or_imp,forall_eq,Nat.reduceEqDiff,↓reduceIte,Nat.reduceAdd,Nat.reduceLeDiff,Nat.reduceSub,Nat.reduceMul,Nat.reduceLT,Int.reduceBEq,Int.reduceBNe,Int.reduceToNat,Int.reduceLT,Int.reduceLE,Int.reduceAdd,Int.reduceSub,Int.reduceMul,reduceCtorEq,q21,q23,hge,Int.toNat_natCast,List.length_map]
  refine⟨⟨by omega,by omega⟩,?_⟩
  refine hK _ _ _ ?_
  clear hK K
  refine(show AWP _ _ _ _ _ _ from ?_)
  generalize hP:(row.take z).foldl (rkS (rkF A f)) (0,kn)=p at *
  have hx:=ih x p.2 (hr x (List.mem_of_getElem? hy))
  refine AWP.reg' λK hK=>?_
  try simp only[ak,ao,am,eq_self,implies_true,forall_eq_or_imp,forall_eq,Nat.reduceEqDiff,↓reduceIte,Nat.reduceAdd,Nat.reduceLeDiff,Nat.reduceSub,Nat.reduceMul,Nat.reduceLT,Int.reduceBEq,Int.reduceBNe,Int.reduceToNat,Int.reduceLT,Int.reduceLE,Int.reduceAdd,Int.reduceSub,Int.reduceMul,reduceCtorEq,s3,s8,k2]
  refine iM rfl (by rfl) (uZ 0 1 2 3 (by decide) hx k0 k1 k2 k3) ?_
  rw[cI,cI,cI,cI,l8]
  try simp only[ak,ao,am,eq_self,implies_true,forall_eq_or_imp,forall_eq,Nat.reduceEqDiff,↓reduceIte,Nat.reduceAdd,Nat.reduceLeDiff,Nat.reduceSub,Nat.reduceMul,Nat.reduceLT,Int.reduceBEq,Int.reduceBNe,Int.reduceToNat,Int.reduceLT,Int.reduceLE,Int.reduceAdd,Int.reduceSub,Int.reduceMul,reduceCtorEq,fR,gt]
  refine hK _ _ _ ?_
  clear hK K
  refine(show AWP _ _ _ _ _ _ from ?_)
  have hw:IntKind.i64.wrap ((z:Int)+1)=((z+1:Nat):Int):=jQ (by omega) (by omega)
  refine AWP.reg' λK hK=>?_
  try simp only[ak,ao,am,eq_self,implies_true,forall_eq_or_imp,forall_eq,Nat.reduceEqDiff,↓reduceIte,Nat.reduceAdd,Nat.reduceLeDiff,Nat.reduceSub,Nat.reduceMul,Nat.reduceLT,Int.reduceBEq,Int.reduceBNe,Int.reduceToNat,Int.reduceLT,Int.reduceLE,Int.reduceAdd,Int.reduceSub,Int.reduceMul,reduceCtorEq,q23,hw]
  refine hK _ _ _ ?_
  clear hK K
  have hF:(row.take (z+1)).foldl (rkS (rkF A f)) (0,kn)=rkS (rkF A f) p x:=by rw[eG _ _ hy,hP]
  refine⟨(_,z+1),⟨by dsimp only;omega,?_,?_,?_,rfl⟩,by dsimp only;omega,aA.refl⟩
  ·dsimp only
   rw[hF]
   exact⟨by dsimp only;omega,s0,s1,s2,s3,rfl,rfl,rfl,rfl,rfl⟩
  ·exact q21
  ·exact q22
 ·have e:z=row.length:=by have:=of_decide_eq_false e;omega
  subst e
  refine AWP.exit ?_
  refine(show Q .normal _ from ?_)
  rw[List.take_length]at s8 k3
  exact hQ _ ⟨by dsimp only;omega,s0,s1,s2,s3,s8,k0,k1,k2,k3⟩
theorem Ai(A:Rws)(D:Int→Nat)(hA:∀p∈A,p.2.length≤1000000)(hD:∀r x,x∈aB A r []→D x<D r):∀(f:Nat) (r:Int) (kn:Dis),D r<f →
  aO Tryz.prog 51 [.int r,.ref 0 0,.ref 1 0,.ref 2 0] (rkH A kn) (.int (rkF A f r kn).1) ((rkH A (rkF A f r kn).2).map some)
 | 0,r,kn,h=>absurd h (by omega)
 | f+1,r,kn,h=>by
  have ih:=Ai A D hA hD f
  have hinj:∀x y:Int,MK.n x=MK.n y→x=y:=λx y h=>MK.n.inj h
  have e1:=lR (kf:=MK.n) (vf:=AV.int) (l:=kn) (x:=r) hinj 0 true
  have hrow:(aB A r []).length≤1000000:=by
   cases e:aY A r with
   | false=>rw[bV e];simp
   | true=>exact hA _ (bI e)
  refine aO.walk Tryz.func51 LB (by simp[Q0]) ?_
  unfold Q0 rkH
  simp only[fq,fK,List.length_cons,List.length_nil]
  refine AWP.seq' ?_
  refine AWP.reg' λK hK=>?_
  try simp only[ak,ao,am,eq_self,implies_true,forall_eq_or_imp,forall_eq,Nat.reduceEqDiff,↓reduceIte,Nat.reduceAdd,Nat.reduceLeDiff,Nat.reduceSub,Nat.reduceMul,Nat.reduceLT,Int.reduceBEq,Int.reduceBNe,Int.reduceToNat,Int.reduceLT,Int.reduceLE,Int.reduceAdd,Int.reduceSub,Int.reduceMul,reduceCtorEq]
  refine hK _ _ _ ?_
  clear hK K
  refine AWP.seq' (AWP.seq' ?_)
  refine AWP.reg' λK hK=>?_
  try simp only[ak,ao,am,eq_self,implies_true,forall_eq_or_imp,forall_eq,Nat.reduceEqDiff,↓reduceIte,Nat.reduceAdd,Nat.reduceLeDiff,Nat.reduceSub,Nat.reduceMul,Nat.reduceLT,Int.reduceBEq,Int.reduceBNe,Int.reduceToNat,Int.reduceLT,Int.reduceLE,Int.reduceAdd,Int.reduceSub,Int.reduceMul,reduceCtorEq,bx,dI,AV.key,MK.fits,and_self,true_and,e1,cond_true]
  refine hK _ _ _ ?_
  clear hK K
  refine AWP.seq' ?_
  refine AWP.reg' λK hK=>?_
  try simp only[ak,ao,am,eq_self,implies_true,forall_eq_or_imp,forall_eq,Nat.reduceEqDiff,↓reduceIte,Nat.reduceAdd,Nat.reduceLeDiff,Nat.reduceSub,Nat.reduceMul,Nat.reduceLT,Int.reduceBEq,Int.reduceBNe,Int.reduceToNat,Int.reduceLT,Int.reduceLE,Int.reduceAdd,Int.reduceSub,Int.reduceMul,reduceCtorEq]
  refine hK _ _ _ ?_
  clear hK K
  cases hk:aY kn r with
  | true =>
   have hr:rkF A (f+1) r kn=(aB kn r 0,kn):=by rw[rkF,if_pos hk]
   rw[hr]
   refine AWP.cond (b:=true) rfl (λ_=>?_) (λh=>by cases h)
   refine AWP.seq' ?_
   refine AWP.reg' λK hK=>?_
   try simp only[ak,ao,am,eq_self,implies_true,forall_eq_or_imp,forall_eq,Nat.reduceEqDiff,↓reduceIte,Nat.reduceAdd,Nat.reduceLeDiff,Nat.reduceSub,Nat.reduceMul,Nat.reduceLT,Int.reduceBEq,Int.reduceBNe,Int.reduceToNat,Int.reduceLT,Int.reduceLE,Int.reduceAdd,Int.reduceSub,Int.reduceMul,reduceCtorEq]
   refine hK _ _ _ ?_
   clear hK K
   exact AWP.ret (kH rfl rfl ⟨rfl,rfl,rfl,rfl,trivial⟩)
  | false =>
   refine AWP.cond (b:=false) rfl (λh=>by cases h) (λ_=>AWP.skip ?_)
   refine(show AWP _ _ _ _ _ _ from ?_)
   refine AWP.seq' ?_
   refine AWP.reg' λK hK=>?_
   try simp only[ak,ao,am,eq_self,implies_true,forall_eq_or_imp,forall_eq,Nat.reduceEqDiff,↓reduceIte,Nat.reduceAdd,Nat.reduceLeDiff,Nat.reduceSub,Nat.reduceMul,Nat.reduceLT,Int.reduceBEq,Int.reduceBNe,Int.reduceToNat,Int.reduceLT,Int.reduceLE,Int.reduceAdd,Int.reduceSub,Int.reduceMul,reduceCtorEq]
   refine hK _ _ _ ?_
   clear hK K
   refine AWP.seq' (AWP.seq' ?_)
   have hinj':=lu (kf:=MK.n) (vf:=λl:List Int=>AV.sl 1 (l.map AV.int) false) (l:=A) (x:=r) (z:=[]) (zz:=.sl 0 [] true) (ok:=false) hinj
   have hinj2:=oK (kf:=MK.n) (vf:=λl:List Int=>AV.sl 1 (l.map AV.int) false) (l:=A) (x:=r) (zz:=.sl 0 [] true) (ok:=false) hinj
   have hr:rkF A (f+1) r kn=(((aB A r []).foldl (rkS (rkF A f)) (0,kn)).1,bo ((aB A r []).foldl (rkS (rkF A f)) (0,kn)).2 r ((aB A r []).foldl (rkS (rkF A f)) (0,kn)).1):=by rw[rkF,if_neg (by simp[hk])]
   rw[hr]
   generalize hrv:aB A r []=row at *
   generalize hP:row.foldl (rkS (rkF A f)) (0,kn)=p at *
   cases ha:aY A r with
   | true =>
    have e2:=hinj' ha
    simp only[cond_false]at e2
    refine AWP.reg' λK hK=>?_
    try simp only[ak,ao,am,eq_self,implies_true,forall_eq_or_imp,forall_eq,Nat.reduceEqDiff,↓reduceIte,Nat.reduceAdd,Nat.reduceLeDiff,Nat.reduceSub,Nat.reduceMul,Nat.reduceLT,Int.reduceBEq,Int.reduceBNe,Int.reduceToNat,Int.reduceLT,Int.reduceLE,Int.reduceAdd,Int.reduceSub,Int.reduceMul,reduceCtorEq,bx,dI,AV.key,MK.fits,and_self,true_and,e2,kyL,List.length_map]
    refine hK _ _ _ ?_
    clear hK K
    refine(show AWP Tryz.prog 4 38 Jg _ _ from ?_)
    refine rk_l A f D ih r row hrow (λx hx=>by have:=hD r x (by rw[hrv];exact hx);omega) kn _ ⟨by dsimp only;omega,rfl,rfl,rfl,rfl,rfl,rfl,rfl,rfl,rfl⟩ (by simp only[ah];rfl) (by simp only[ah];rfl) rfl _ (λs' hS=>?_)
    rw[hP]at hS
    obtain⟨tm1,hp1,nx1⟩:=s'
    obtain⟨n1,s0,s1,s2,s3,s8,k0,k1,k2,k3⟩:=hS
    simp only at n1 s0 s1 s2 s3 s8 k0 k1 k2 k3
    refine(show AWP _ _ _ _ _ _ from ?_)
    have e3:=iF (kf:=MK.n) (vf:=AV.int) (l:=p.2) (x:=r) hinj none p.1
    refine AWP.seq' ?_
    refine AWP.reg' λK hK=>?_
    try simp only[ak,ao,am,eq_self,implies_true,forall_eq_or_imp,forall_eq,Nat.reduceEqDiff,↓reduceIte,Nat.reduceAdd,Nat.reduceLeDiff,Nat.reduceSub,Nat.reduceMul,Nat.reduceLT,Int.reduceBEq,Int.reduceBNe,Int.reduceToNat,Int.reduceLT,Int.reduceLE,Int.reduceAdd,Int.reduceSub,Int.reduceMul,reduceCtorEq,s0,s1,s8,k0,k3,bL,AV.key,MK.fits,and_self,true_and,e3]
    refine hK _ _ _ ?_
    clear hK K
    refine AWP.seq' ?_
    refine AWP.reg' λK hK=>?_
    try simp only[ak,ao,am,eq_self,implies_true,forall_eq_or_imp,forall_eq,Nat.reduceEqDiff,↓reduceIte,Nat.reduceAdd,Nat.reduceLeDiff,Nat.reduceSub,Nat.reduceMul,Nat.reduceLT,Int.reduceBEq,Int.reduceBNe,Int.reduceToNat,Int.reduceLT,Int.reduceLE,Int.reduceAdd,Int.reduceSub,Int.reduceMul,reduceCtorEq,s8]
    refine hK _ _ _ ?_
    clear hK K
    exact AWP.ret (kH rfl rfl ⟨k0,k1,k2,rfl,trivial⟩)
   | false =>
    have e2:=hinj2 ha
    simp only[cond_false]at e2
    have hr0:row=[]:=by rw[←hrv,bV ha]
    subst hr0
    refine AWP.reg' λK hK=>?_
    try simp only[ak,ao,am,eq_self,implies_true,forall_eq_or_imp,forall_eq,Nat.reduceEqDiff,↓reduceIte,Nat.reduceAdd,Nat.reduceLeDiff,Nat.reduceSub,Nat.reduceMul,Nat.reduceLT,Int.reduceBEq,Int.reduceBNe,Int.reduceToNat,Int.reduceLT,Int.reduceLE,Int.reduceAdd,Int.reduceSub,Int.reduceMul,reduceCtorEq,bx,dI,AV.key,MK.fits,and_self,true_and,e2,kyL,List.length_map]
    refine hK _ _ _ ?_
    clear hK K
    refine AWP.weak (aA.subT 21 (y:=.sl 1 [] false) Sub.nil) ?_
    refine(show AWP Tryz.prog 4 38 Jg _ _ from ?_)
    refine rk_l A f D ih r [] hrow (λx hx=>by simp at hx) kn _ ⟨by dsimp only;omega,rfl,rfl,rfl,rfl,rfl,rfl,rfl,rfl,rfl⟩ rfl rfl rfl _ (λs' hS=>?_)
    rw[hP]at hS
    obtain⟨tm1,hp1,nx1⟩:=s'
    obtain⟨n1,s0,s1,s2,s3,s8,k0,k1,k2,k3⟩:=hS
    simp only at n1 s0 s1 s2 s3 s8 k0 k1 k2 k3
    refine(show AWP _ _ _ _ _ _ from ?_)
    have e3:=iF (kf:=MK.n) (vf:=AV.int) (l:=p.2) (x:=r) hinj none p.1
    refine AWP.seq' ?_
    refine AWP.reg' λK hK=>?_
    try simp only[ak,ao,am,eq_self,implies_true,forall_eq_or_imp,forall_eq,Nat.reduceEqDiff,↓reduceIte,Nat.reduceAdd,Nat.reduceLeDiff,Nat.reduceSub,Nat.reduceMul,Nat.reduceLT,Int.reduceBEq,Int.reduceBNe,Int.reduceToNat,Int.reduceLT,Int.reduceLE,Int.reduceAdd,Int.reduceSub,Int.reduceMul,reduceCtorEq,s0,s1,s8,k0,k3,bL,AV.key,MK.fits,and_self,true_and,e3]
    refine hK _ _ _ ?_
    clear hK K
    refine AWP.seq' ?_
    refine AWP.reg' λK hK=>?_
    try simp only[ak,ao,am,eq_self,implies_true,forall_eq_or_imp,forall_eq,Nat.reduceEqDiff,↓reduceIte,Nat.reduceAdd,Nat.reduceLeDiff,Nat.reduceSub,Nat.reduceMul,Nat.reduceLT,Int.reduceBEq,Int.reduceBNe,Int.reduceToNat,Int.reduceLT,Int.reduceLE,Int.reduceAdd,Int.reduceSub,Int.reduceMul,reduceCtorEq,s8]
    refine hK _ _ _ ?_
    clear hK K
    exact AWP.ret (kH rfl rfl ⟨k0,k1,k2,rfl,trivial⟩)
end Go.Proofs.YtdoacjojljgdcaaGreat
