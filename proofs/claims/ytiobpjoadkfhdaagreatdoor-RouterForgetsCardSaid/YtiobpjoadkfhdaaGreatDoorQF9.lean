/- Texts joined: G33 G34 G35 G36 G41 G37 G38 G39 G42 G43 H2 U22 HS RQ1 RQ2 RQ3. -/
import Derived.Test.YtiobpjoadkfhdaaGreatDoorQF8
set_option linter.unusedVariables false
set_option linter.unusedSimpArgs false
set_option linter.unusedSectionVars false
namespace Go.Proofs.YtiobpjoadkfhdaaGreatDoor
open Go Go.Am
theorem bc.supH{P:Program}{f:FuncId}{args:List AV}{hs:List Blk}{r:AV}{h1 h2:List (Option Blk)}(hl:h1.length=h2.length)
  (hn:∀(i:Nat) (x:Blk),h2[i]?=some (some x)→∃y,h1[i]?=some (some y)∧∀w A μ hd,dw w A μ hd y→dw w A μ hd x)
  (hm:∀(i:Nat) (y:Blk),h1[i]?=some (some y)→∃x,h2[i]?=some (some x)) (h:bc P f args hs r h1):bc P f args hs r h2:=by
 intro w A μ cargs g1 g2 g3;refine(h w A μ cargs g1 g2 g3).mono ?_;rintro e w' ⟨v,A',μ',e1,e2,e3,e4,e5,e6,e7,e8⟩;have own':cg μ' (bo h2)=cg μ' (bo h1):=by
  funext b
  refine propext ⟨?_,?_⟩
  ·rintro⟨i,x,hd,a1,a2,a3,a4⟩;obtain⟨y,b1,_⟩:=hn i x (bu.mp a1);exact⟨i,y,hd,bu.mpr b1,a2,a3,a4⟩
  ·rintro⟨i,y,hd,a1,a2,a3,a4⟩;obtain⟨x,b1⟩:=hm i y (bu.mp a1);exact⟨i,x,hd,bu.mpr b1,a2,a3,a4⟩
 refine⟨v,A',μ',e1,e2,⟨λb x hx=>?_,λb b' x x' hd hd' hx hx'=>?_,e3.lt⟩,e4,e5,e6,e7,by rw[own'];exact e8⟩
 ·obtain⟨y,b1,b2⟩:=hn b x (bu.mp hx);obtain⟨hd,c1,c2,c3⟩:=e3.blk b y (bu.mpr b1);exact⟨hd,c1,b2 w' A' μ' hd c2,c3⟩
 ·obtain⟨y,b1,_⟩:=hn b x (bu.mp hx);obtain⟨y',b1',_⟩:=hn b' x' (bu.mp hx');exact e3.inj b b' y y' hd hd' (bu.mpr b1) (bu.mpr b1')
def NZ(x:Wnt):AV:=.agg [.int x.grp,.int 1,.sl 0 [] true]
def kp(x:Wnt)(out:List Wnt):List AV:=out.map Wnt.v++[NZ x]
theorem ud(l:List AV):l.map (λy=>y)=l:=cr' (λ_=>rfl) l
theorem rS(x:Wnt):∀out:List Wnt,bM (kp x out)=true
 | []=>rfl
 | y::l=>by
  have:=rS x l;unfold kp at this ⊢;rw[au',List.cons_append,bM,this];rfl
theorem pu(x:Wnt)(out:List Wnt):bM ((kp x out).map λy=>y)=true:=by rw[ud];exact rS x out
def tN(r:List AV):AV:=.tup []
def mW(r:List AV):List (Option Blk):=[some (.box (.vec 2)),none,some (.vec 3 (r.map λy=>y))]
def RB:Nat→Type
 | _=>Unit
theorem NN(x:Wnt)(out:List Wnt):mxH Tryz.prog 249 [.rptr (.agg [.int x.grp,.int x.mode,.sl 1 (x.srcs.map AV.int) false]) 0,.val (.pointer none),.ref 0 0] [.box (.vec 1),.vec 3 (out.map Wnt.v)] .k tN mW ((.app 178 (λy=>y) (out.map Wnt.v) [NZ x]
  (.retH (kp x out) ⟨[],[.box (.vec 2),.gone,.vec 3 ((kp x out).map λy=>y) (pu x out)]⟩ [0,1,178])):An Tryz.prog RB (List AV)) (kp x out) =
  (out.map Wnt.v=(out.map Wnt.v).map (λy=>y)∧[NZ x]=[NZ x].map (λy=>y)∧ck (decide ((out.map Wnt.v).length+1≤1048576))
   (Nf ⟨[],[.box (.vec 2),.gone,.vec 3 ((kp x out).map λy=>y) (pu x out)]⟩ [0,1,178] (Rf (tN (kp x out)) (Rf (mW (kp x out)) (kp x out=kp x out))))):=by kernel_rfl
theorem NM(x:Wnt)(out:List Wnt)(hl:out.length≤900000):bc Tryz.prog 249 [.rptr (.agg [.int x.grp,.int x.mode,.sl 1 (x.srcs.map AV.int) false]) 0,.val (.pointer none),.ref 0 0] [.box (.vec 1),.vec 3 (out.map Wnt.v)] (tN (kp x out)) (mW (kp x out)):=by
 have e:=NN x out;refine Iy (enc:=tN) (hB:=mW) (e.mpr ⟨(ud _).symm,rfl,?_⟩);simp only[vcU,rfU,f'];exact⟨by omega,trivial⟩
def Lf(r:List Wnt):AV:=.tup []
def AQ(r:List Wnt):List (Option Blk):=[some (.box (.vec 2)),none,some (.vec 3 (r.map Wnt.v))]
theorem vO(x:Wnt)(out:List Wnt):((kp x out).map λy=>y).map (bh (.a [.k,.k,.s 1]))=(nJ x out).map Wnt.v:=by
 rw[ud,kp,nJ,List.map_append,List.map_append,aV'];exact congr (congrArg _ (aE' λy _=>rfl)) rfl
def Tk(x:Wnt)(out:List Wnt)(h:x.srcs.length≤1000000)(hl:out.length≤900000):HC Tryz.prog:=
 ⟨249,[.k,.k,.k],[.rptr (.agg [.int x.grp,.int x.mode,.sl 1 (x.srcs.map AV.int) false]) 0,.val (.pointer none),.ref 0 0],[.box (.vec 1),.vec 3 (out.map Wnt.v)],Lf (nJ x out),AQ (nJ x out),
  bc.supH (h1:=mW (kp x out)) rfl (λi y hy=>by
   rcases i with _|_|_|i
   ·cases hy;exact⟨_,rfl,λ_ _ _ _ q=>q⟩
   ·cases hy
   ·cases hy;refine⟨_,rfl,λw A μ hd q=>?_⟩;rw[←vO];refine dw.mapSub (dG _) (λz hz=>?_) q;rw[vO]at hz;obtain⟨u,_,rfl⟩:=R'.mp hz;rfl
   ·simp[AQ]at hy) (λi y hy=>by
   rcases i with _|_|_|i
   ·exact⟨_,rfl⟩
   ·cases hy
   ·exact⟨_,rfl⟩
   ·simp[mW]at hy) (NM x out hl),
  iO (by kernel_rfl),qT.of (by simp[hcB,bJ,AV.belB,allB,cF,bW,Lf,AQ,ae (v:=AV.int) (λ_=>rfl),ae (v:=Wnt.v) (λ_=>rfl)])⟩
def AN(r:List Wnt):AV:=.tup []
def AP(r:List Wnt):List (Option Blk):=[some (.box (.vec 2)),none,some (.vec 3 (r.map Wnt.v))]
def AM(y:Wnt)(out:List Wnt):Ax Tryz.prog noS ((List Wnt)):=
 (.req 354 (y.srcs.length≤1000000) λh1 =>
(.callP (i7 y h1)
(.apX 386 Wnt.v out [y] (out.length+1)
(.retH (out++[y]) ⟨[],[.box (.vec 2),.gone,vB 3 Wnt.v (out++[y]) (λ_=>rfl)]⟩ [0,1,386]))))
theorem Ti(y:Wnt)(l:List Wnt)(h:y.srcs.length≤1000000)(hl:l.length≤900000):(AM y l).vc AN AP (qH y l):=by
 dsimp only[AM,noS,Ax.vp,Ax.vc];simp only[vcU,rfU,f'];exact⟨h,by omega,rfl⟩
def Tj(y:Wnt)(out:List Wnt)(h:y.srcs.length≤1000000)(hl:out.length≤900000):HC Tryz.prog:=hcO 249 [.k,.k,.k] [.val (.pointer none),.rptr (Wnt.v y) 0,.ref 0 0] [.box (.vec 1),.vec 3 (out.map Wnt.v)] .k AN AP (qH y out) (λ_ _=>⟨(AM y out),Ti y out h hl,by kernel_rfl⟩) (by kernel_rfl) (by simp[hcB,bJ,AV.belB,allB,cF,bW,AN,AP,ae (v:=AV.int) (λ_=>rfl),ae (v:=Wnt.v) (λ_=>rfl)])
def AK(r:List Wnt):AV:=.tup []
def AL(r:List Wnt):List (Option Blk):=[some (.box (.vec 2)),none,some (.vec 3 (r.map Wnt.v))]
def AJ(x:Wnt)(y:Wnt)(out:List Wnt):Ax Tryz.prog noS ((List Wnt)):=
 (.callP (uZ (⟨x.mode,x.srcs⟩:Flt) (⟨y.mode,y.srcs⟩:Flt))
(.br 290 (!(ou (⟨x.mode,x.srcs⟩:Flt) (⟨y.mode,y.srcs⟩:Flt))) (.req 354 (y.srcs.length≤1000000) λh1 =>
(.callP (i7 y h1)
(.apX 386 Wnt.v out [y] (out.length+1)
(.retH (out++[y]) ⟨[],[.box (.vec 2),.gone,vB 3 Wnt.v (out++[y]) (λ_=>rfl)]⟩ [0,1,386]))))
(.retH out ⟨[],[.box (.vec 2),.gone,vB 3 Wnt.v out (λ_=>rfl)]⟩ [0,1,1])))
theorem Tg(x y:Wnt)(l:List Wnt)(h:y.srcs.length≤1000000)(hl:l.length≤900000):(AJ x y l).vc AK AL (qG x y l):=by
 dsimp only[AJ,noS,Ax.vp,Ax.vc];simp only[vcU,rfU,f'];unfold qG
 refine⟨λe=>⟨h,by omega,?_⟩,λe=>?_⟩
 ·rw[u'];intro q;simp[ou,cE,eO,q.1,q.2]at e
 ·rw[if_pos];simpa[ou,cE,eO]using e
def Th(x:Wnt)(y:Wnt)(out:List Wnt)(h:y.srcs.length≤1000000)(hl:out.length≤900000):HC Tryz.prog:=hcO 249 [.k,.k,.k] [.rptr (Wnt.v x) 0,.rptr (Wnt.v y) 0,.ref 0 0] [.box (.vec 1),.vec 3 (out.map Wnt.v)] .k AK AL (qG x y out) (λ_ _=>⟨(AJ x y out),Tg x y out h hl,by kernel_rfl⟩) (by kernel_rfl) (by simp[hcB,bJ,AV.belB,allB,cF,bW,AK,AL,ae (v:=AV.int) (λ_=>rfl),ae (v:=Wnt.v) (λ_=>rfl)])
def Og(a:List Wnt)(b:List Wnt)(out:List Wnt):=okL [.sl 3 (a.map Wnt.v) false,.sl 3 (b.map Wnt.v) false,.func 249 [.ref 0 0]]∧(.box (.vec 1):Blk).ok∧(.vec 3 (out.map Wnt.v):Blk).ok
def II(t0:List Wnt×List Wnt×List Wnt):NF:=⟨[(0,(.s 3),.sl 3 (t0.1.map Wnt.v) false),(1,(.s 3),.sl 3 (t0.2.1.map Wnt.v) false),(2,.k,.func 249 [.ref 0 0])],[.box (.vec 2),.gone,vB 3 Wnt.v t0.2.2 (λ_=>rfl)]⟩
def IG(t0:List Wnt×List Wnt×List Wnt)(t1:Unit):NF:=⟨[(0,.k,.sl 3 (t0.1.map Wnt.v) false),(1,.k,.sl 3 (t0.2.1.map Wnt.v) false),(2,.k,.func 249 [.ref 0 0])],[.box (.vec 2),.gone,vB 3 Wnt.v t0.2.2 (λ_=>rfl)]⟩
def IF(t0:List Wnt×List Wnt×List Wnt)(t2:Int):NF:=⟨[(0,.k,.sl 3 (t0.1.map Wnt.v) false),(1,.k,.sl 3 (t0.2.1.map Wnt.v) false),(2,.k,.func 249 [.ref 0 0]),rI 6 t2],[.box (.vec 2),.gone,vB 3 Wnt.v t0.2.2 (λ_=>rfl)]⟩
@[reducible] def CO:Nat→Type
 | 0=>(List Wnt)×List Wnt×List Wnt
 | 1=>Unit
 | 2=>Int
 | _=>Unit
def tX(r:List Wnt):AV:=.tup []
def tY(r:List Wnt):List (Option Blk):=[some (.box (.vec 2)),none,some (.vec 3 (r.map Wnt.v))]
def CN(a:List Wnt)(b:List Wnt)(out:List Wnt)(I0:(List Wnt×List Wnt×List Wnt)→Prop)(m0:(List Wnt×List Wnt×List Wnt)→Nat):Ax Tryz.prog CO ((List Wnt)):=
 (.loop 0 (II) I0 m0 (a,b,out) [0,1,1] λ(t0:List Wnt×List Wnt×List Wnt) b0 =>
(.join 1 (IG t0) (λ(t1:Unit)=>(bif (decide (0<((t0.1.map Wnt.v).length:Int)))then true else(bif (decide (0<((t0.2.1.map Wnt.v).length:Int)))then true else false))=true) (λb1=>(.br 67 (decide (0<((t0.1.map Wnt.v).length:Int))) (.bk 1 b1 ((()):Unit) [0,1,2])
(.br 131 (decide (0<((t0.2.1.map Wnt.v).length:Int))) (.bk 1 b1 ((()):Unit) [0,1,2])
(.retH t0.2.2 ⟨[],[.box (.vec 2),.gone,vB 3 Wnt.v t0.2.2 (λ_=>rfl)]⟩ [0,1,2])))) λ(t1:Unit) =>
(.pass (.join 2 (IF t0) (λ(t2:Int)=>((((t0.1.map Wnt.v).length:Int)==0)=true∧t2=((1):Int))∨((((t0.1.map Wnt.v).length:Int)==0)=false∧(((t0.2.1.map Wnt.v).length:Int)==0)=true∧t2=((-1):Int))∨((((t0.1.map Wnt.v).length:Int)==0)=false∧(((t0.2.1.map Wnt.v).length:Int)==0)=false∧∃x1':Wnt,t0.1[0]?=some x1'∧∃x2':Wnt,t0.2.1[0]?=some x2'∧t2=((cmpI x1'.grp x2'.grp):Int))) (λb2=>(.br 83 (((t0.1.map Wnt.v).length:Int)==0) (.bk 2 b2 ((1):Int) [0,1,2])
(.br 147 (((t0.2.1.map Wnt.v).length:Int)==0) (.bk 2 b2 ((-1):Int) [0,1,2])
(.el 163 Wnt.v t0.1 (λR=>Rf (t0.1.map Wnt.v) (ck (decide (0<(t0.1.length:Int)))
(∀x1,t0.1[0]?=some x1 →
(R x1)))) λx1 =>
(.el 227 Wnt.v t0.2.1 (λR=>Rf (t0.2.1.map Wnt.v) (ck (decide (0<(t0.2.1.length:Int)))
(∀x2,t0.2.1[0]?=some x2 →
(R x2)))) λx2 =>
(.callP (nG x1.grp x2.grp)
(.bk 2 b2 ((cmpI x1.grp x2.grp):Int) [0,1,2]))))))) λ(t2:Int) =>
(.br 67 (decide (t2≤0)) (.el 83 Wnt.v t0.1 (λR=>Rf (t0.1.map Wnt.v) (ck (decide (0<(t0.1.length:Int)))
(∀x3,t0.1[0]?=some x3 →
(R x3)))) λx3 =>
(.say (λR=>Rf (α:=List AV) (t0.1.map Wnt.v) (ck (cj t0.1.length 1 (t0.1.length:Int) (t0.1.length:Int))
R)) (.sub 115 Wnt.v t0.1 false
(.br 195 (decide (0≤t2)) (.el 211 Wnt.v t0.2.1 (λR=>Rf (t0.2.1.map Wnt.v) (ck (decide (0<(t0.2.1.length:Int)))
(∀x4,t0.2.1[0]?=some x4 →
(R x4)))) λx4 =>
(.say (λR=>Rf (α:=List AV) (t0.2.1.map Wnt.v) (ck (cj t0.2.1.length 1 (t0.2.1.length:Int) (t0.2.1.length:Int))
R)) (.sub 243 Wnt.v t0.2.1 false
(.req 339 (x4.srcs.length≤1000000) λh5 =>
(.req 339 (t0.2.2.length≤900000) λh6 =>
(.callH [0,2] (Th x3 x4 t0.2.2 h5 h6) 339
(.bk 0 b0 ((t0.1.take ((t0.1.length:Int).toNat)).drop 1,(t0.2.1.take ((t0.2.1.length:Int).toNat)).drop 1,qG x3 x4 t0.2.2) [0,1,339])))))))
(.req 243 (x3.srcs.length≤1000000) λh7 =>
(.req 243 (t0.2.2.length≤900000) λh8 =>
(.callH [0,2] (Tk x3 t0.2.2 h7 h8) 243
(.bk 0 b0 ((t0.1.take ((t0.1.length:Int).toNat)).drop 1,t0.2.1,nJ x3 t0.2.2) [0,1,243]))))))))
(.br 99 (decide (0≤t2)) (.el 115 Wnt.v t0.2.1 (λR=>Rf (t0.2.1.map Wnt.v) (ck (decide (0<(t0.2.1.length:Int)))
(∀x9,t0.2.1[0]?=some x9 →
(R x9)))) λx9 =>
(.say (λR=>Rf (α:=List AV) (t0.2.1.map Wnt.v) (ck (cj t0.2.1.length 1 (t0.2.1.length:Int) (t0.2.1.length:Int))
R)) (.sub 147 Wnt.v t0.2.1 false
(.req 243 (x9.srcs.length≤1000000) λh10 =>
(.req 243 (t0.2.2.length≤900000) λh11 =>
(.callH [0,2] (Tj x9 t0.2.2 h10 h11) 243
(.bk 0 b0 (t0.1,(t0.2.1.take ((t0.2.1.length:Int).toNat)).drop 1,qH x9 t0.2.2) [0,1,243])))))))
(.say (λ_=>False) .nil)))))))
theorem xY(y:Wnt)(o:List Wnt):(qH y o).length≤o.length+1:=by simp[qH]
theorem Le(x y:Wnt)(o:List Wnt):(qG x y o).length≤o.length+1:=by unfold qG;split<;>simp
theorem Oe(a b l:List Wnt)(h:sa a b l)(ok:Og a b l):∃I m,(CN a b l I m).vc tX tY (cZ a b l):=by
 obtain⟨h1,h2,h3,h4,h5⟩:=h;refine⟨λt=>cZ t.1 t.2.1 t.2.2=cZ a b l∧t.1.length+t.2.1.length+t.2.2.length≤102000∧(∀x∈t.1,x.srcs.length≤1000000)∧∀x∈t.2.1,x.srcs.length≤1000000,λt=>t.1.length+t.2.1.length,?_⟩;dsimp only[CN,CO,Ax.vp,Ax.vc];simp only[vcU,rfU,f'];refine⟨⟨trivial,by omega,h4,h5⟩,?_⟩;rintro⟨A,B,o⟩ ⟨hm,hl,hA,hB⟩;clear ok;simp only at hm hl hA hB;cases A with
 | nil=>cases B with
  | nil =>
   simp;rw[←hm,cZ]
  | cons y B =>
   simp[FP];have hb:=xY y o;rw[cZ]at hm;simp only[Z',aC']at hl;exact⟨hm,by omega,by omega,hB y (by simp),λz hz=>hB z (by simp[hz])⟩
 | cons x A =>
  have ea:¬((A.length:Int)+1=0):=by omega
  cases B with
  | nil =>
   simp[FP,ea];rw[cZ]at hm;simp only[Z',aC']at hl;exact⟨hm,by simp[nJ];omega,by omega,hA x (by simp),λz hz=>hA z (by simp[hz])⟩
  | cons y B =>
   have eb:¬((B.length:Int)+1=0):=by omega
   have hc:=Le x y o;simp[FP,ea,eb];have hb:=xY y o;rw[cZ]at hm;simp only[Z']at hl;have hx:=hA x (by simp);have hy:=hB y (by simp);have hA':∀z∈A,z.srcs.length≤1000000:=λz hz=>hA z (by simp[hz]);have hB':∀z∈B,z.srcs.length≤1000000:=λz hz=>hB z (by simp[hz]);have hgt:0<cmpI x.grp y.grp↔y.grp<x.grp:=by
    have:=jA x.grp y.grp;have:=nF x.grp y.grp;omega
   have hlt:=jA x.grp y.grp;have heq:=nF x.grp y.grp
   refine⟨λc=>⟨λd=>⟨⟨?_,?_,hA',hB'⟩,by omega,hy,by omega⟩,λd=>⟨?_,by simp[nJ];omega,hA',hy,by omega,hx,hB'⟩⟩,λc=>⟨λd=>⟨?_,by omega,⟨hx,hA'⟩,by omega,hy,hB'⟩,by omega⟩⟩
   ·rw[u' (by omega),u' (by omega)]at hm;exact hm
   ·show A.length+B.length+(qG x y o).length≤_;omega
   ·rw[if_pos (by omega)]at hm;exact hm
   ·rw[u' (by omega),if_pos (by omega)]at hm;exact hm
def Of(a:List Wnt)(b:List Wnt)(out:List Wnt)(h:sa a b out):HC Tryz.prog:=hcO 248 [(.s 3),(.s 3),.k] [.sl 3 (a.map Wnt.v) false,.sl 3 (b.map Wnt.v) false,.func 249 [.ref 0 0]] [.box (.vec 1),.vec 3 (out.map Wnt.v)] .k tX tY (cZ a b out) (λok ok2=>let ⟨I0,m0,h⟩:=Oe a b out h ⟨ok,ok2 _ (by simp),ok2 _ (by simp)⟩;⟨_,h,by kernel_rfl⟩) (by kernel_rfl) (by simp[hcB,bJ,AV.belB,allB,cF,bW,tX,tY,ae (v:=Wnt.v) (λ_=>rfl)])
def DN(r:List Wnt×Int):AV:=.tup [.sl 3 (r.1.map Wnt.v) false,.int r.2]
def uG(old:List Wnt)(new:List Wnt):Ax Tryz.prog noS (List Wnt×Int):=
 (.callP (oT old)
(.callP (oT new)
(.callP (vZ [aI false old,aI false new])
(.br 176 ((orI [aI false old,aI false new]) != 0) (.ret ([],orI [aI false old,aI false new]))
(.wait (.cmd (.nilC 176 3) (.req 241 (sa old new []) λh1 =>
(.callH [176,192] (Of old new [] h1) 241
(.say (Rf ((cZ old new []).map Wnt.v)) (.cmd (.frzE 241 ((cZ old new []).map Wnt.v) (ae (λ_=>rfl) (cZ old new []))) (.callP (sq (cZ old new []))
(.ret ((eM (cZ old new [])).1,(eM (cZ old new [])).2)))))))))))))
theorem Ps(a c:List Wnt):(uG a c).vp DN (ah a c):=by
 dsimp only[uG,noS,Ax.vp,Ax.vc];simp only[vcU,rfU,f'];rw[ma];by_cases h1:aI false a=0
 case neg=>simp[ah,h1]
 by_cases h2:aI false c=0
 case neg=>simp[ah,h1,h2]
 have b1:=gY h1;have b2:=gY h2;refine⟨λe=>by simp[h1,h2]at e,λ_=>?_⟩;refine⟨⟨by omega,by omega,by simp,b1.2,b2.2⟩,?_⟩;rw[IE h1 h2,ah,u' (not_not_intro h1),u' (not_not_intro h2)];generalize bZ a c 99=l;rfl
def Pt(old:List Wnt)(new:List Wnt):PC Tryz.prog:=pcO 142 [(.s 3),(.s 3)] [.sl 3 (old.map Wnt.v) false,.sl 3 (new.map Wnt.v) false] (.a [(.s 3),.k]) DN (ah old new) (λ_=>⟨(uG old new),Ps old new,by kernel_rfl⟩) rfl (by kernel_rfl)
def bB(o:Ovl)(r:Int)(w:List Wnt):Int×Int:=if ¬bE o then(0,1)else if r ∉ aD o.sp then(0,4)else(bn o.sp r,aI false w)
theorem ir{o:Ovl}(h:bE o)(r:Int):kW o.sp r↔r∈aD o.sp:=(my (key:=Spk.router) h.1.asc).trans mem_keys.symm
def yn(r:Int×Int):AV:=.tup [.int r.1,.int r.2]
def qL(o:Ovl)(router:Int)(wants:List Wnt):Ax Tryz.prog noS (Int×Int):=
 (.callP (vw o)
(.br 96 (!(decide (bE o))) (.ret (0,1))
(.req 128 (o.sp.Pairwise λx y=>x.router<y.router) λh1 =>
(.req 128 (o.sp.length≤1000000) λh2 =>
(.callP (uy o router h1 h2)
(.br 256 (!(decide (kW o.sp router))) (.ret (0,4))
(.callP (oT wants)
(.ret ((bn o.sp router:Int),aI false wants)))))))))
theorem Lx(o:Ovl)(r:Int)(w:List Wnt):(qL o r w).vp yn (bB o r w):=by
 dsimp only[qL,noS,Ax.vp,Ax.vc];simp only[vcU,rfU,f'];unfold bB
 refine⟨λh=>?_,λh=>?_⟩
 ·rw[if_pos (by simpa using h)]
 have h:bE o:=by simpa using h
 rw[u' (not_not_intro h)];refine⟨h.1.asc,by have:=(dM.mp h).1;omega,?_⟩
 refine⟨λq=>?_,λq=>?_⟩
 ·have q:r ∉ aD o.sp:=by rw[←ir h];simpa using q
  rw[if_pos q]
 ·have q:r∈aD o.sp:=by rw[←ir h];simpa using q
  rw[u' (not_not_intro q)]
def yo(o:Ovl)(router:Int)(wants:List Wnt):PC Tryz.prog:=pcO 141 [(.a [(.s 5),(.s 3),(.s 10)]),.k,(.s 3)] [Ovl.v o,.int router,.sl 3 (wants.map Wnt.v) false] .k yn (bB o router wants) (λ_=>⟨(qL o router wants),Lx o router wants,by kernel_rfl⟩) rfl (by kernel_rfl)
theorem DR{o:Ovl}{r:Int}{w:List Wnt}(h:(bB o r w).2=0):bE o∧r∈aD o.sp∧aI false w=0∧(bB o r w).1=bn o.sp r:=by
 unfold bB at h ⊢;by_cases h1:bE o
 case neg=>rw[if_pos h1]at h;simp at h
 by_cases h2:r∈aD o.sp
 case neg=>rw[u' (not_not_intro h1),if_pos h2]at h;simp at h
 rw[u' (not_not_intro h1),u' (not_not_intro h2)]at h ⊢;exact⟨h1,h2,h,rfl⟩
theorem ym{o:Ovl}{r:Int}{w:List Wnt}(h:(bB o r w).2≠0):aS o r w=(jd,(bB o r w).2)∧aB o r w=(jd,(bB o r w).2):=by
 unfold bB aS aB at *
 by_cases h1:bE o
 case neg=>rw[if_pos h1,if_pos h1,if_pos h1];exact⟨rfl,rfl⟩
 rw[u' (not_not_intro h1)]at h ⊢;rw[u' (not_not_intro h1),u' (not_not_intro h1)];by_cases h2:r∈aD o.sp
 case neg=>rw[if_pos h2,if_pos h2,if_pos h2];exact⟨rfl,rfl⟩
 rw[u' (not_not_intro h2)]at h ⊢;rw[u' (not_not_intro h2),u' (not_not_intro h2),if_pos h];refine⟨rfl,?_⟩;have hs:=(h1.1.spo _ (h1.1.s h2).1).1;have e:(restart (atS o.sp r) w).2=aI false w:=by
  unfold restart;rw[u' (not_not_intro hs),if_pos h]
 rw[e,if_pos h]
theorem oD{o:Ovl}(h:bE o){r:Int}(hr:r∈aD o.sp):bn o.sp r<o.sp.length∧bn o.sp r<o.ls.length∧o.sp[bn o.sp r]?=some (atS o.sp r)∧o.ls[bn o.sp r]?=some (atL o.sp o.ls r):=by
 have h1:=((ir h r).mpr hr).1;have h2:=(dM.mp h).2.1
 refine⟨h1,by omega,?_,?_⟩
 ·unfold atS;rw[J',E' h1];rfl
 ·unfold atL;rw[J',E' (by omega)];rfl
def DO(r:Ovl×Int):AV:=.tup [Ovl.v r.1,.int r.2]
def uJ(o:Ovl)(router:Int)(wants:List Wnt):Ax Tryz.prog noS (Ovl×Int):=
 (.callP (yo o router wants)
(.br 224 (((bB o router wants).2) != 0) (.ret ((⟨[],[],[]⟩:Ovl),(bB o router wants).2))
(.elI 272 Spk.v o.sp ((bB o router wants).1) λx1 =>
(.callP (oR x1.items)
(.callP (Pt (av x1.items) wants)
(.br 480 (((ah (av x1.items) wants).2) != 0) (.ret ((⟨[],[],[]⟩:Ovl),(ah (av x1.items) wants).2))
(.elI 528 Spk.v o.sp ((bB o router wants).1) λx2 =>
(.callP (Lj x2 ((ah (av x1.items) wants).1))
(.br 720 (((change x2 ((ah (av x1.items) wants).1)).2) != 0) (.ret ((⟨[],[],[]⟩:Ovl),(change x2 ((ah (av x1.items) wants).1)).2))
(.req 736 (bE o∧o.fl.length≤1000000) λh3 =>
(.callH [] (KC o h3) 736
(.stJ 864 Spk.v o.sp ((bB o router wants).1) (λy4=>((change x2 ((ah (av x1.items) wants).1)).1)) λy4 =>
(.fz 738 Sig.v o.fl (λ_=>rfl) (.fz 737 Lsn.v o.ls (λ_=>rfl) (.fz 736 Spk.v (o.sp.set (((bB o router wants).1).toNat) ((change x2 ((ah (av x1.items) wants).1)).1)) (λ_=>rfl) (.ret ((⟨o.sp.set (((bB o router wants).1).toNat) ((change x2 ((ah (av x1.items) wants).1)).1),o.ls,o.fl⟩:Ovl),0)))))))))))))))))
theorem Pu(o:Ovl)(r:Int)(w:List Wnt)(h:o.fl.length≤1000000):(uJ o r w).vp DO (aS o r w):=by
 dsimp only[uJ,noS,Ax.vp,Ax.vc];simp only[vcU,rfU,f']
 refine⟨λq=>?_,λq=>?_⟩
 ·have q:(bB o r w).2≠0:=by simpa using q
  rw[(ym q).1];rfl
 obtain⟨h1,h2,h3,h4⟩:=DR (by simpa using q);obtain⟨p1,p2,p3,p4⟩:=oD h1 h2;rw[h4];simp only[Int.toNat_natCast];unfold aS;rw[u' (not_not_intro h1),u' (not_not_intro h2),u' (not_not_intro h3)];refine⟨by omega,by omega,λx hx=>?_⟩;cases p3.symm.trans hx
 refine⟨λc=>?_,λc=>⟨by omega,by omega,λy hy=>?_⟩⟩
 ·rw[if_pos (by simpa using c)];rfl
 rw[u' (by simpa using c)];cases p3.symm.trans hy
 refine⟨λd=>?_,λd=>?_⟩
 ·rw[if_pos (by simpa using d)];rfl
 rw[u' (by simpa using d)];exact⟨⟨h1,h⟩,by simp;omega,by omega,λz hz=>rfl⟩
def Pv(o:Ovl)(router:Int)(wants:List Wnt)(h:o.fl.length≤1000000):PC Tryz.prog:=pcO 50 [(.a [(.s 5),(.s 3),(.s 10)]),.k,(.s 3)] [Ovl.v o,.int router,.sl 3 (wants.map Wnt.v) false] (.a [(.a [(.s 5),(.s 3),(.s 10)]),.k]) DO (aS o router wants) (λ_=>⟨(uJ o router wants),Pu o router wants h,by kernel_rfl⟩) rfl (by kernel_rfl)
def Cx(r:Ovl×Int):AV:=.tup [Ovl.v r.1,.int r.2]
def tH(o:Ovl)(router:Int)(wants:List Wnt):Ax Tryz.prog noS (Ovl×Int):=
 (.callP (yo o router wants)
(.br 224 (((bB o router wants).2) != 0) (.ret ((⟨[],[],[]⟩:Ovl),(bB o router wants).2))
(.elI 272 Spk.v o.sp ((bB o router wants).1) λx1 =>
(.callP (E5 x1 wants)
(.br 464 (((restart x1 wants).2) != 0) (.ret ((⟨[],[],[]⟩:Ovl),(restart x1 wants).2))
(.elI 512 Lsn.v o.ls ((bB o router wants).1) λx2 =>
(.br 608 (x2.epoch==1000000) (.ret ((⟨[],[],[]⟩:Ovl),3))
(.req 624 (bE o∧o.fl.length≤1000000) λh3 =>
(.callH [] (KC o h3) 624
(.stJ 864 Spk.v o.sp ((bB o router wants).1) (λy4=>((restart x1 wants).1)) λy4 =>
(.say (ck (cond (decide (0≤((bB o router wants).1))) (decide (((bB o router wants).1)<((o.ls.map Lsn.v).length:Int))) false)) (.stI 896 Lsn.v o.ls (λR=>Rf (o.ls.map Lsn.v) (ck (decide (((bB o router wants).1).toNat<o.ls.length))
(∀y5,o.ls[((bB o router wants).1).toNat]?=some y5 →
((R y5))))) λy5 =>
(.say (λR=>Rf (α:=List AV) ((o.ls.map Lsn.v).set (((bB o router wants).1).toNat) (.agg [.int router,.int (W (x2.epoch+1)),.sl 0 [] true])) (Rf (Lsn.v (⟨router,W (x2.epoch+1),[]⟩:Lsn))
R)) (.cmd (.wkS 625 (((bB o router wants).1).toNat) (.a [.k,.k,(.s 4)]) Lsn.v o.ls (.agg [.int router,.int (W (x2.epoch+1)),.sl 0 [] true]) (⟨router,W (x2.epoch+1),[]⟩:Lsn)) (.fz 626 Sig.v o.fl (λ_=>rfl) (.fz 625 Lsn.v (o.ls.set (((bB o router wants).1).toNat) (⟨router,W (x2.epoch+1),[]⟩:Lsn)) (λ_=>rfl) (.fz 624 Spk.v (o.sp.set (((bB o router wants).1).toNat) ((restart x1 wants).1)) (λ_=>rfl) (.ret ((⟨o.sp.set (((bB o router wants).1).toNat) ((restart x1 wants).1),o.ls.set (((bB o router wants).1).toNat) (⟨router,W (x2.epoch+1),[]⟩:Lsn),o.fl⟩:Ovl),0)))))))))))))))))))
theorem N1(o:Ovl)(r:Int)(w:List Wnt)(h:o.fl.length≤1000000):(tH o r w).vp Cx (aB o r w):=by
 dsimp only[tH,noS,Ax.vp,Ax.vc];simp only[vcU,rfU,f']
 refine⟨λq=>?_,λq=>?_⟩
 ·have q:(bB o r w).2≠0:=by simpa using q
  rw[(ym q).2];rfl
 obtain⟨h1,h2,h3,h4⟩:=DR (by simpa using q);obtain⟨p1,p2,p3,p4⟩:=oD h1 h2;rw[h4];simp only[Int.toNat_natCast];unfold aB;rw[u' (not_not_intro h1),u' (not_not_intro h2)];refine⟨by omega,by omega,λx hx=>?_⟩;cases p3.symm.trans hx
 refine⟨λc=>?_,λc=>⟨by omega,by omega,λy hy=>?_⟩⟩
 ·rw[if_pos (by simpa using c)];rfl
 rw[u' (by simpa using c)];cases p4.symm.trans hy
 refine⟨λd=>?_,λd=>?_⟩
 ·rw[if_pos (by simpa using d)];rfl
 rw[u' (by simpa using d)];have he:=(h1.1.lso _ (aq p4)).1.2.1;refine⟨⟨h1,h⟩,by simp;omega,by omega,λz hz=>⟨by simp;omega,by omega,λu hu=>?_⟩⟩;rw[cf (by omega)]
def N2(o:Ovl)(router:Int)(wants:List Wnt)(h:o.fl.length≤1000000):PC Tryz.prog:=pcO 73 [(.a [(.s 5),(.s 3),(.s 10)]),.k,(.s 3)] [Ovl.v o,.int router,.sl 3 (wants.map Wnt.v) false] (.a [(.a [(.s 5),(.s 3),(.s 10)]),.k]) Cx (aB o router wants) (λ_=>⟨(tH o router wants),N1 o router wants h,by kernel_rfl⟩) rfl (by kernel_rfl)
def CC(l:List Sig)(f:List Fau):Prop:=l.length≤500000∧f.length≤1000∧∀x∈l,x.srcs.length≤1000000
def pB(o:Ovl)(f:List Fau):Prop:=o.fl.length≤400000∧f.length≤1000
theorem bI.pos{R:List Int}{sp:List Spk}{ls:List Lsn}(h:bI R sp ls){r:Int}(hr:r∈R) :
  bn sp r<sp.length∧bn sp r<ls.length∧sp[bn sp r]?=some (atS sp r)∧ls[bn sp r]?=some (atL sp ls r):=by
 have h1:bn sp r<sp.length:=((my (key:=Spk.router) (d:=eG) h.asc).mpr (mem_keys.mp (by rw[h.spr];exact hr))).1;have e1:=congrArg List.length h.spr;have e2:=congrArg List.length h.lsr;rw[f']at e1 e2
 refine⟨h1,by omega,?_,?_⟩
 ·unfold atS;rw[J',E' h1];rfl
 ·unfold atL;rw[J',E' (by omega)];rfl
theorem bI.lens{R:List Int}{sp:List Spk}{ls:List Lsn}(h:bI R sp ls):sp.length≤12∧ls.length≤12:=by
 have e1:=congrArg List.length h.spr;have e2:=congrArg List.length h.lsr;rw[f']at e1 e2;have:=h.len;omega
theorem flat_take{α β:Type}{f:α→List β}{l:List α}{k:Nat}{x:α}(hx:l[k]?=some x):(l.take (k+1)).flatMap f=(l.take k).flatMap f++f x:=by
 rw[al hx];simp
theorem C2{o:Ovl}(h:bE o){a b:Int}(ha:a∈aD o.sp)(hb:b∈aD o.sp):bn o.sp a=bn o.sp b↔a=b:=by
 refine⟨λe=>?_,λe=>by rw[e]⟩;have h1:=(h.1.s ha).2;have h2:=(h.1.s hb).2;unfold atS at h1 h2;rw[e]at h1;exact h1.symm.trans h2
def Jg(o:Ovl)(at_:Int)(of_:Int)(t0:Bool):NF:=⟨[rI 2 of_,rR 3 0,rI 8 (bn o.sp at_:Int),rI 10 (bn o.sp of_:Int),rB 27 t0],[.box (Ovl.v o)]⟩
@[reducible] def CZ:Nat→Type
 | 0=>Bool
 | _=>Unit
def Da(r:List Wnt×Int):AV:=.tup [.sl 3 (r.1.map Wnt.v) false,.int r.2]
def CY(o:Ovl)(at_:Int)(of_:Int)(I0:Bool→Prop):Ax Tryz.prog CZ (List Wnt×Int):=
 (.callP (vw o)
(.br 96 (!(decide (bE o))) (.ret ([],1))
(.req 128 (o.sp.Pairwise λx y=>x.router<y.router) λh1 =>
(.req 128 (o.sp.length≤1000000) λh2 =>
(.callP (uy o at_ h1 h2)
(.req 256 (o.sp.Pairwise λx y=>x.router<y.router) λh3 =>
(.req 256 (o.sp.length≤1000000) λh4 =>
(.callP (uy o of_ h3 h4)
(.pass (.join 0 (Jg o at_ of_) (λ(t0:Bool)=>I0 t0) (λb0=>(.br 400 (!(decide (kW o.sp at_))) (.bk 0 b0 ((true):Bool) [0])
(.bk 0 b0 ((!(decide (kW o.sp of_))):Bool) [0]))) λ(t0:Bool) =>
(.br 1 t0 (.ret ([],4))
(.br 65 ((bn o.sp at_:Int)==(bn o.sp of_:Int)) (.elI 113 Spk.v o.sp (bn o.sp at_:Int) λx5 =>
(.callP (oR x5.items)
(.ret (av x5.items,0))))
(.elI 113 Lsn.v o.ls (bn o.sp at_:Int) λx6 =>
(.callP (Jl x6 of_)
(.ret (dq x6 of_,0))))))))))))))))
theorem OA(o:Ovl)(a b:Int):∃I0,(CY o a b I0).vp Da (bX o a b):=by
 refine⟨λt=>t=decide (a ∉ aD o.sp∨b ∉ aD o.sp),?_⟩;dsimp only[CY,CZ,Ax.vp,Ax.vc];simp only[vcU,rfU,f'];have hV:bX o a b=if ¬bE o then([],1)else if a ∉ aD o.sp∨b ∉ aD o.sp then([],4)else if a=b then(av (atS o.sp b).items,0)else(dq (atL o.sp o.ls a) b,0):=rfl
 rw[hV];by_cases hv:bE o
 case neg=>simp[hv]
 have hL:=hv.1.lens;rw[u' (not_not_intro hv)]
 refine⟨λq=>absurd hv (by simpa using q),λ_=>⟨hv.1.asc,by omega,hv.1.asc,by omega,⟨λc=>?_,λc=>?_⟩,?_⟩⟩
 ·have c:a ∉ aD o.sp:=by rw[←ir hv];simpa using c
  simp[c]
 ·have c:a∈aD o.sp:=by rw[←ir hv];simpa using c
  have e2:decide (kW o.sp b)=decide (b∈aD o.sp):=decide_eq_decide.mpr (ir hv b);rw[e2];simp[c]
 ·rintro _ rfl
  refine⟨λc=>?_,λc=>?_⟩
  ·rw[if_pos (H' c)]
  have c:=ab' c;rw[u' c];have ha:a∈aD o.sp:=by simp only[not_or,X']at c;exact c.1
  have hb:b∈aD o.sp:=by simp only[not_or,X']at c;exact c.2
  obtain⟨p1,p2,p3,p4⟩:=hv.1.pos ha;simp only[Int.toNat_natCast]
  refine⟨λq=>⟨by omega,by omega,λx hx=>?_⟩,λq=>⟨by omega,by omega,λx hx=>?_⟩⟩
  ·have q:a=b:=(C2 hv ha hb).mp (by have:=eq_of_beq q;omega);cases p3.symm.trans hx;rw[if_pos q,q]
  ·have q:¬a=b:=λe=>by rw[e]at q;simp at q
   cases p4.symm.trans hx;rw[u' q]
def OB(o:Ovl)(at_:Int)(of_:Int):PC Tryz.prog:=pcO 51 [(.a [(.s 5),(.s 3),(.s 10)]),.k,.k] [Ovl.v o,.int at_,.int of_] (.a [(.s 3),.k]) Da (bX o at_ of_) (λ_=>let ⟨I0,h⟩:=OA o at_ of_;⟨_,h,by kernel_rfl⟩) rfl (by kernel_rfl)
def setAt(o:Ovl)(s:Spk)(p:Per):Prop:=agree s (atL o.sp o.ls p.router)∧p.epoch=(atL o.sp o.ls p.router).epoch∧p.acked=s.last
theorem EG(l:List Int):bE (eB l)↔okR l:=by
 have er:aD (eB l).sp=l:=by
  show(l.map (kj l)).map Spk.router=l;rw[aV'];exact cr' (λx=>rfl) l
 constructor
 ·rintro⟨h,_⟩;rw[er]at h;refine⟨h.len,λr hr=>?_,h.ascR⟩;have:=(h.spo (kj l r) (R'.mpr ⟨r,hr,rfl⟩)).1.1;exact this
 ·intro h;refine⟨?_,by simp[eB]⟩;rw[er];exact ij h
def Kf(L:List Int)(n:Int)(t0:Int×Nat×List Fau):NF:=⟨[rR 0 0,rI 1 n,rV 5 1,rI 6 t0.1],[.box (.agg [.sl 1 (L.map AV.int) false,.int t0.2.1]),vB 2 Fau.v t0.2.2 (λ_=>rfl)]⟩
@[reducible] def Dz:Nat→Type
 | 0=>Int×Nat×List Fau
 | _=>Unit
def uq(r:Tap×List Fau):AV:=.sl 2 (r.2.map Fau.v) false
def ur(r:Tap×List Fau):List (Option Blk):=[some (.box (Tap.v r.1))]
def Dy(L:List Int)(p:Nat)(n:Int)(I0:(Int×Nat×List Fau)→Prop)(m0:(Int×Nat×List Fau)→Nat):Ax Tryz.prog Dz (Tap×List Fau):=
 (.callH [0] (N_h L p 4) 49
(.cmdL (.nilT 5 2) (.loop 0 (Kf L n) I0 m0 (Mod (aj L p) 4,ab L p,[]) [0,81] λ(t0:Int×Nat×List Fau) b0 =>
(.br 34 (decide (0<t0.1)) (.callH [0] (fj L t0.2.1 0 5) 66
(.callH [0] (N_h L (ab L t0.2.1) (W (n+2))) 130
(.apX 178 Fau.v t0.2.2 [(⟨rng L t0.2.1 0 5,Mod (aj L (ab L t0.2.1)) (W (n+2))⟩:Fau)] (t0.2.2.length+1)
(.bk 0 b0 (W (t0.1-1),ab L (ab L t0.2.1),t0.2.2++[(⟨rng L t0.2.1 0 5,Mod (aj L (ab L t0.2.1)) (W (n+2))⟩:Fau)]) [0,178]))))
(.fz 1 Fau.v t0.2.2 (λ_=>rfl) (.retH ((⟨L,t0.2.1⟩:Tap),t0.2.2) ⟨[(4,.k,.sl 2 (t0.2.2.map Fau.v) false)],[.box (.agg [.sl 1 (L.map AV.int) false,.int t0.2.1])]⟩ [0]))))))
theorem OW(L:List Int)(p:Nat)(n:Int)(h:0≤n∧n≤1000000):∃I m,(Dy L p n I m).vc uq ur ((⟨L,(bR L n p).2⟩:Tap),(bR L n p).1):=by
 have hm:=bt (x:=aj L p) (n:=4) (by omega);refine⟨λt=>∃k:Nat,t.1=k∧k≤4∧t.2.2.length+k≤4∧kc L n k t.2.2 t.2.1=bR L n p,λt=>t.1.toNat,?_⟩;dsimp only[Dy,Dz,Ax.vp,Ax.vc];simp only[vcU,rfU,f'];refine⟨⟨(Mod (aj L p) 4).toNat,by omega,by omega,by simp;omega,rfl⟩,?_⟩;rintro⟨i,q,out⟩ ⟨k,hk,hk4,hl,hf⟩;simp only at hk hl hf;subst hk;simp only[Int.toNat_natCast]
 refine⟨λh1=>⟨by omega,?_,?_⟩,λh1=>?_⟩
 ·obtain⟨j,rfl⟩:∃j,k=j+1:=⟨k-1,by omega⟩
  rw[cf (by omega)];refine⟨j,by omega,by omega,by simp;omega,?_⟩;rw[kc]at hf;exact hf
 ·rw[cf (by omega)];omega
 ·have:k=0:=by omega
  subst this;rw[←hf];rfl
def D0(L:List Int)(p:Nat)(n:Int)(h:0≤n∧n≤1000000):HC Tryz.prog:=hcO 47 [.k,.k] [.ref 0 0,.int n] [.box (.agg [.sl 1 (L.map AV.int) false,.int p])] (.s 2) uq ur ((⟨L,(bR L n p).2⟩:Tap),(bR L n p).1) (λ_ _=>let ⟨I0,m0,h⟩:=OW L p n h;⟨_,h,by kernel_rfl⟩) (by kernel_rfl) (by simp[hcB,bJ,AV.belB,allB,cF,bW,uq,ur,Tap.v,ae (v:=AV.int) (λ_=>rfl),ae (v:=Fau.v) (λ_=>rfl)])
def rds(o:Ovl):Nat→Ovl
 | 0=>o
 | n+1=>round0 (rds o n)
theorem tL{R:List Int}{o:Ovl}(h:OI R o):∀n:Nat,OI R (rds o n)∧(rds o n).fl.length≤o.fl.length+n * 14400
 | 0=>⟨h,by simp[rds]⟩
 | n+1=>by
  obtain⟨h1,h2⟩:=tL h n;have e:=(h1.roundO []).2.len;rw[h1.roundO_nil]at e;simp only[aC']at e;refine⟨h1.round0,?_⟩;rw[rds];omega
theorem tM{R:List Int}{o:Ovl}{k:Int}{lw:Int→List Wnt}(h:LW R o k lw):∀n:Nat,LW R (rds o n) k lw
 | 0=>h
 | n+1=>by
  have h1:=tM h n;have:=(h1.roundO []).2;rw[h1.oi.roundO_nil]at this;exact this
theorem rQ{R:List Int}{o:Ovl}(h:OI R o):iW (rds o 4)∧ib (rds o 5):=h.quiet
def PJ(faults:List Fau)(t0:Int×List Sig×List Sig):NF:=⟨[rV 6 0,rV 7 1,(15,.k,.sl 2 (faults.map Fau.v) false),rI 16 ((faults.map Fau.v).length:Int),rI 17 t0.1],[vB 10 Sig.v t0.2.1 (λ_=>rfl),vB 10 Sig.v t0.2.2 (λ_=>rfl)]⟩
def PH(faults:List Fau)(t0:Int×List Sig×List Sig)(x1:Fau)(t1:Bool):NF:=⟨[rV 6 0,rV 7 1,rR 9 2,(15,.k,.sl 2 (faults.map Fau.v) false),rI 16 ((faults.map Fau.v).length:Int),rI 17 t0.1,rB 30 t1],[vB 10 Sig.v t0.2.1 (λ_=>rfl),vB 10 Sig.v t0.2.2 (λ_=>rfl),.box (Fau.v x1)]⟩
@[reducible] def LB:Nat→Type
 | 0=>Int×List Sig×List Sig
 | 1=>Bool
 | _=>Unit
def AZ(r:List Sig×List Sig):AV:=.tup [.vec 0,.vec 1]
def Ba(r:List Sig×List Sig):List (Option Blk):=[some (.vec 10 (r.1.map Sig.v)),some (.vec 10 (r.2.map Sig.v))]
def LA(l:List Sig)(faults:List Fau)(I0:(Int×List Sig×List Sig)→Prop)(m0:(Int×List Sig×List Sig)→Nat)(I1:Int×List Sig×List Sig→Fau→Bool→Prop):Ax Tryz.prog LB (List Sig×List Sig):=
 (.apX 64 Sig.v [] l (0+l.length)
(.cmdL (.nilT 7 10) (.loop 0 (PJ faults) I0 m0 (0,l,[]) [64,160] λ(t0:Int×List Sig×List Sig) b0 =>
(.br 18 (decide (t0.1<((faults.map Fau.v).length:Int))) (.elI 18 Fau.v faults t0.1 λx1 =>
(.pass (.join 1 (PH faults t0 x1) (λ(t1:Bool)=>I1 t0 x1 t1) (λb1=>(.br 146 (decide (x1.pos<0)) (.bk 1 b1 ((true):Bool) [0,1,50])
(.bk 1 b1 ((decide (((t0.2.1.map Sig.v).length:Int)≤x1.pos)):Bool) [0,1,50]))) λ(t1:Bool) =>
(.br 3 t1 (.bk 0 b0 (W (t0.1+1),t0.2.1,t0.2.2) [0,1])
(.elJ 67 Sig.v t0.2.1 x1.pos λx2 =>
(.say (λR=>Rf (t0.2.1.map Sig.v) (ck (decide (0<t0.2.1.length))
R)) (.sub 195 Sig.v t0.2.1 false
(.say (λR=>ck (cj t0.2.1.length (W (x1.pos+1)) (t0.2.1.length:Int) (t0.2.1.length:Int))
((ck (decide ((W (x1.pos+1)).toNat+((t0.2.1.length:Int)-(W (x1.pos+1))).toNat≤(t0.2.1.map Sig.v).length))
(Rf (α:=List AV) [] (((((t0.2.1.map Sig.v).drop ((W (x1.pos+1)).toNat)).take (((t0.2.1.length:Int)-(W (x1.pos+1))).toNat))=((t0.2.1.drop ((W (x1.pos+1)).toNat)).take (((t0.2.1.length:Int)-(W (x1.pos+1))).toNat)).map Sig.v) ∧
(ck (decide (0+((t0.2.1.drop ((W (x1.pos+1)).toNat)).take (((t0.2.1.length:Int)-(W (x1.pos+1))).toNat)).length≤1048576))
R)))))) (.app 211 Sig.v [] ((t0.2.1.drop ((W (x1.pos+1)).toNat)).take (((t0.2.1.length:Int)-(W (x1.pos+1))).toNat))
(.br 307 (x1.kind==1) (.say (λR=>Rf (t0.2.1.map Sig.v) (ck (decide (0<t0.2.1.length))
R)) (.sub 387 Sig.v t0.2.1 false
(.say (λR=>ck (decide (x1.pos=x1.pos))
((ck (cj t0.2.1.length 0 x1.pos x1.pos)
((Rf (α:=List AV) ((t0.2.1.take x1.pos.toNat).map Sig.v) (Rf (α:=List AV) (((t0.2.1.drop ((W (x1.pos+1)).toNat)).take (((t0.2.1.length:Int)-(W (x1.pos+1))).toNat)).map Sig.v)
(ck (decide ((t0.2.1.take x1.pos.toNat).length+((t0.2.1.drop ((W (x1.pos+1)).toNat)).take (((t0.2.1.length:Int)-(W (x1.pos+1))).toNat)).length≤1048576))
R))))))) (.app 419 Sig.v (t0.2.1.take x1.pos.toNat) ((t0.2.1.drop ((W (x1.pos+1)).toNat)).take (((t0.2.1.length:Int)-(W (x1.pos+1))).toNat))
(.bk 0 b0 (W (t0.1+1),(t0.2.1.take x1.pos.toNat)++((t0.2.1.drop ((W (x1.pos+1)).toNat)).take (((t0.2.1.length:Int)-(W (x1.pos+1))).toNat)),t0.2.2) [419,1])))))
(.br 339 (x1.kind==2) (.say (λR=>Rf (t0.2.1.map Sig.v) (ck (decide (0<t0.2.1.length))
R)) (.sub 419 Sig.v t0.2.1 false
(.say (λR=>ck (decide (x1.pos=x1.pos))
((ck (cj t0.2.1.length 0 x1.pos x1.pos)
((Rf (α:=List AV) ((t0.2.1.take x1.pos.toNat).map Sig.v) (Rf (α:=List AV) [Sig.v x2,Sig.v x2]
(ck (decide ((t0.2.1.take x1.pos.toNat).length+2≤1048576))
R))))))) (.app 483 Sig.v (t0.2.1.take x1.pos.toNat) [x2,x2]
(.apX 515 Sig.v ((t0.2.1.take x1.pos.toNat)++[x2,x2]) ((t0.2.1.drop ((W (x1.pos+1)).toNat)).take (((t0.2.1.length:Int)-(W (x1.pos+1))).toNat)) (((t0.2.1.take x1.pos.toNat)++[x2,x2]).length+((t0.2.1.drop ((W (x1.pos+1)).toNat)).take (((t0.2.1.length:Int)-(W (x1.pos+1))).toNat)).length)
(.bk 0 b0 (W (t0.1+1),((t0.2.1.take x1.pos.toNat)++[x2,x2])++((t0.2.1.drop ((W (x1.pos+1)).toNat)).take (((t0.2.1.length:Int)-(W (x1.pos+1))).toNat)),t0.2.2) [515,1]))))))
(.br 371 (x1.kind==3) (.say (λR=>Rf (t0.2.1.map Sig.v) (ck (decide (0<t0.2.1.length))
R)) (.sub 451 Sig.v t0.2.1 false
(.say (λR=>ck (decide (x1.pos=x1.pos))
((ck (cj t0.2.1.length 0 x1.pos x1.pos)
((Rf (α:=List AV) ((t0.2.1.take x1.pos.toNat).map Sig.v) (Rf (α:=List AV) (((t0.2.1.drop ((W (x1.pos+1)).toNat)).take (((t0.2.1.length:Int)-(W (x1.pos+1))).toNat)).map Sig.v)
(ck (decide ((t0.2.1.take x1.pos.toNat).length+((t0.2.1.drop ((W (x1.pos+1)).toNat)).take (((t0.2.1.length:Int)-(W (x1.pos+1))).toNat)).length≤1048576))
R))))))) (.app 483 Sig.v (t0.2.1.take x1.pos.toNat) ((t0.2.1.drop ((W (x1.pos+1)).toNat)).take (((t0.2.1.length:Int)-(W (x1.pos+1))).toNat))
(.apX 563 Sig.v t0.2.2 [x2] (t0.2.2.length+1)
(.bk 0 b0 (W (t0.1+1),(t0.2.1.take x1.pos.toNat)++((t0.2.1.drop ((W (x1.pos+1)).toNat)).take (((t0.2.1.length:Int)-(W (x1.pos+1))).toNat)),t0.2.2++[x2]) [483,563]))))))
(.br 403 (x1.kind==4) (.br 499 (decide ((W (x1.pos+1))<((t0.2.1.map Sig.v).length:Int))) (.elJ 691 Sig.v t0.2.1 (W (x1.pos+1)) λx3 =>
(.stJ 739 Sig.v t0.2.1 x1.pos (λy4=>x3) λy4 =>
(.stJ 771 Sig.v (t0.2.1.set x1.pos.toNat x3) (W (x1.pos+1)) (λy5=>x2) λy5 =>
(.bk 0 b0 (W (t0.1+1),(t0.2.1.set x1.pos.toNat x3).set ((W (x1.pos+1)).toNat) x2,t0.2.2) [0,1]))))
(.bk 0 b0 (W (t0.1+1),t0.2.1,t0.2.2) [0,1]))
(.bk 0 b0 (W (t0.1+1),t0.2.1,t0.2.2) [0,1]))))))))))))))
(.retH (t0.2.1,t0.2.2) ⟨[rV 4 0,rV 5 1],[vB 10 Sig.v t0.2.1 (λ_=>rfl),vB 10 Sig.v t0.2.2 (λ_=>rfl)]⟩ [0,1])))))
theorem Tx(l:List Sig)(f:List Fau)(h:CC l f):∃I0 m0 I1,(LA l f I0 m0 I1).vc AZ Ba (arr l f):=by
 obtain⟨h1,h2,h3⟩:=h
 refine⟨λt=>∃k:Nat,t=((k:Int),((f.take k).foldl g9 (l,[])).1,((f.take k).foldl g9 (l,[])).2)∧k≤f.length,λt=>f.length-t.1.toNat,
  λt0 x t=>t=decide (x.pos<0∨(t0.2.1.length:Int)≤x.pos),?_⟩
 dsimp only[LA,LB,Ax.vp,Ax.vc];simp only[vcU,rfU,f'];refine⟨by omega,⟨0,rfl,by omega⟩,?_⟩;rintro _ ⟨k,rfl,hk⟩;have hlen:=qN (f:=f.take k) (s:=(l,[]));have hst:∀x,f[k]?=some x→(f.take (k+1)).foldl g9 (l,[])=g9 ((f.take k).foldl g9 (l,[])) x:=λx hx=>by rw[al hx,aW'];rfl
 have hend:k=f.length→(f.take k).foldl g9 (l,[])=arr l f:=λe=>by rw[e,aj'];rfl
 generalize (f.take k).foldl g9 (l,[])=s at *
 obtain⟨now,late⟩:=s;rw[aa']at hlen;simp only[Int.toNat_natCast,aC']at hlen ⊢
 refine⟨λa1=>⟨by omega,by omega,λx hx=>⟨⟨λc=>?_,λc=>?_⟩,?_⟩⟩,λa1=>?_⟩
 ·simp[c]
 ·exact decide_eq_decide.mpr (by omega)
 ·have e1:=hst x hx;intro t1 ht1;rw[ao (n:=f.length) (by omega) (by omega)]
  have fin:∀a b,g9 (now,late) x=(a,b)→(∃k_1:Nat,(((k+1:Nat):Int),a,b)=((k_1:Int),((f.take k_1).foldl g9 (l,[])).1,((f.take k_1).foldl g9 (l,[])).2)∧k_1≤f.length)∧f.length-((k+1:Nat):Int).toNat<f.length-k:=λa b e =>
   ⟨⟨k+1,by rw[e1,e],by omega⟩,by omega⟩
  refine⟨λe=>fin _ _ (if_pos (H' (ht1.symm.trans e))),λe=>?_⟩;have hb:¬(x.pos<0∨(now.length:Int)≤x.pos):=ab' (ht1.symm.trans e);have e2:g9 (now,late) x=rj now late x.kind x.pos.toNat (now.getD x.pos.toNat qY):=u' hb;obtain⟨n,hn⟩:∃n:Nat,x.pos=n:=⟨x.pos.toNat,by omega⟩
  rw[hn]at e2 hb ⊢;simp only[Int.toNat_natCast]at e2 ⊢;have hW:W ((n:Int)+1)=((n+1:Nat):Int):=by rw[cf (by omega)];omega
  rw[hW];simp only[Int.toNat_natCast];have hr:(now.drop (n+1)).take ((now.length:Int)-((n+1:Nat):Int)).toNat=now.drop (n+1):=G' (by simp;omega);have hdl:(now.drop (n+1)).length=now.length-(n+1):=bv' ..;have htl:(now.take n).length≤n:=List.length_take_le ..;rw[hr];have hbn:cj now.length 0 (n:Int) (n:Int)=true:=by simp[cj];omega
  refine⟨by simp;omega,by omega,λy hy=>?_⟩;rw[getD_some hy]at e2;refine⟨by omega,by simp[cj];omega,by omega,by rw[←hr,cf',List.map_drop],by omega,?_⟩
  refine⟨λc1=>⟨by omega,trivial,hbn,by omega,fin _ _ ?_⟩,λc1=>⟨λc2=>⟨by omega,trivial,hbn,by omega,by simp;omega,fin _ _ ?_⟩,λc2=>⟨λc3=>⟨by omega,trivial,hbn,by omega,by omega,fin _ _ ?_⟩,λc3=>⟨λc4=>⟨λd=>?_,λd=>fin _ _ ?_⟩,λc4=>fin _ _ ?_⟩⟩⟩⟩
  ·rw[e2,rj,if_pos (by simpa using c1)]
  ·rw[e2,rj,u' (by simpa using c1),if_pos (by simpa using c2)]
  ·rw[e2,rj,u' (by simpa using c1),u' (by simpa using c2),if_pos (by simpa using c3)]
  ·refine⟨by simp;omega,by omega,λz hz=>⟨by simp;omega,by omega,λu hu=>⟨by simp;omega,by simp;omega,λv hv=>fin _ _ ?_⟩⟩⟩;rw[e2,rj,u' (by simpa using c1),u' (by simpa using c2),u' (by simpa using c3),if_pos (by simpa using c4),if_pos (by omega),getD_some hz]
  ·rw[e2,rj,u' (by simpa using c1),u' (by simpa using c2),u' (by simpa using c3),if_pos (by simpa using c4),u' (by omega)]
  ·rw[e2,rj,u' (by simpa using c1),u' (by simpa using c2),u' (by simpa using c3),u' (by simpa using c4)]
 ·rw[←hend (by omega)]
def Ty(l:List Sig)(faults:List Fau)(h:CC l faults):HC Tryz.prog:=hcO 59 [(.s 10),(.s 2)] [.sl 10 (l.map Sig.v) false,.sl 2 (faults.map Fau.v) false] [] .k AZ Ba (arr l faults) (λ_ _=>let ⟨I0,m0,I1,h⟩:=Tx l faults h;⟨_,h,by kernel_rfl⟩) (by kernel_rfl) (by simp[hcB,bJ,AV.belB,allB,cF,bW,AZ,Ba,ae (v:=Fau.v) (λ_=>rfl),ae (v:=Sig.v) (λ_=>rfl)])
def cB(l:List Spk)(r:Int):Int:=match l.findIdx? λp=>decide (p.router=r)with
 | some i=>i
 | none=>-1
theorem s5{l:List Spk}{r:Int}{i:Nat}{x:Spk}(hx:l[i]?=some x)(h:x.router=r)(hb:∀y∈l.take i,y.router≠r):cB l r=i:=by
 obtain⟨hi,hxi⟩:=I'.mp hx;have:l.findIdx? (λp=>decide (p.router=r))=some i:=by
  rw[bG'];refine⟨hi,by rw[hxi];simpa using h,λj hj=>?_⟩;have:=hb l[j] (al' (i:=j) (by rw[am',if_pos hj,E' (by omega)]));simpa using this
 unfold cB;rw[this]
theorem s6{l:List Spk}{r:Int}(hb:∀y∈l,y.router≠r):cB l r=-1:=by
 have:l.findIdx? (λp=>decide (p.router=r))=none:=by
  rw[ca'];intro x hx;simpa using hb x hx
 unfold cB;rw[this]
def Do(o:Ovl)(router:Int):=okL [Ovl.v o,.int router]
def J3(o:Ovl)(router:Int)(t0:Int):NF:=⟨[rI 1 router,(8,.k,.sl 5 (o.sp.map Spk.v) false),rI 9 ((o.sp.map Spk.v).length:Int),rI 10 t0],[]⟩
@[reducible] def Dm:Nat→Type
 | 0=>Int
 | _=>Unit
def Dn(r:Int):AV:=.int r
def Dk(o:Ovl)(router:Int)(I0:Int→Prop)(m0:Int→Nat):Ax Tryz.prog Dm (Int):=
 (.loop 0 (J3 o router) I0 m0 ((0):Int) [] λ(t0:Int) b0 =>
(.br 16 (decide (t0<((o.sp.map Spk.v).length:Int))) (.elI 32 Spk.v o.sp t0 λx1 =>
(.br 176 (x1.router==router) (.ret (t0))
(.bk 0 b0 ((W (t0+1)):Int) [])))
(.ret (-1))))
theorem OG(o:Ovl)(r:Int)(ok:Do o r):∃I m,(Dk o r I m).vp Dn (cB o.sp r):=by
 have hle:o.sp.length≤9223372036854775807:=by
  have h:=ok;simp only[Do,Ovl.v,Ex,EL,E1,AV.ok,okL,f',dc]at h;omega
 refine⟨λt=>∃k:Nat,t=k∧k≤o.sp.length∧∀x∈o.sp.take k,x.router≠r,λt=>o.sp.length-t.toNat,?_⟩;dsimp only[Dk,Dm,Ax.vp,Ax.vc];simp only[vcU,rfU,f'];refine⟨⟨0,rfl,by omega,by simp⟩,?_⟩;rintro _ ⟨k,rfl,hk,hI⟩;simp only[Int.toNat_natCast]
 refine⟨λh1=>⟨by omega,by omega,λx hx=>⟨λe=>?_,λe=>?_⟩⟩,λh1=>?_⟩
 ·rw[s5 hx (by simpa using e) hI]
 ·rw[ao (n:=o.sp.length) (by omega) (by omega)];exact⟨⟨k+1,rfl,by omega,(bH hx).mpr ⟨hI,by simpa using e⟩⟩,by omega⟩
 ·rw[G' (by omega)]at hI;rw[s6 hI]
def mr(o:Ovl)(router:Int):PC Tryz.prog:=pcO 60 [(.a [(.s 5),(.s 3),(.s 10)]),.k] [Ovl.v o,.int router] .k Dn (cB o.sp router) (λok=>let ⟨I0,m0,h⟩:=OG o router ok;⟨_,h,by kernel_rfl⟩) rfl (by kernel_rfl)
theorem xa{o:Ovl}(h:bE o)(r:Int):cB o.sp r=if r∈aD o.sp then(bn o.sp r:Int)else -1:=by
 by_cases hr:r∈aD o.sp
 ·rw[if_pos hr];obtain⟨p1,p2,p3,p4⟩:=h.1.pos hr;refine s5 p3 (h.1.s hr).2 λy hy=>?_;obtain⟨i,hi,rfl⟩:=ad' hy;rw[aa']at hi;rw[bz'];have:=lW (key:=Spk.router) (l:=o.sp) (r:=r) (i:=i) (show i<bn o.sp r by omega) (by omega);omega
 ·rw[u' hr];exact s6 λy hy e=>hr (R'.mpr ⟨y,hy,e⟩)
def A5(r:Ovl):AV:=.agg [.vec 0,.vec 1,.vec 2]
def A6(r:Ovl):List (Option Blk):=[some (.vec 5 (r.sp.map Spk.v)),some (.vec 3 (r.ls.map Lsn.v)),some (.vec 10 (r.fl.map Sig.v))]
def A3(o:Ovl):Ax Tryz.prog noS (Ovl):=
 (.apX 80 Spk.v [] o.sp (0+o.sp.length)
(.apX 144 Lsn.v [] o.ls (0+o.ls.length)
(.apX 208 Sig.v [] o.fl (0+o.fl.length)
(.retH o ⟨[rR 2 3],[vB 5 Spk.v o.sp (λ_=>rfl),vB 3 Lsn.v o.ls (λ_=>rfl),vB 10 Sig.v o.fl (λ_=>rfl),.box (.agg [.vec 0,.vec 1,.vec 2])]⟩ [80,144,208,16]))))
theorem SP(o:Ovl)(h:o.sp.length≤1000000∧o.ls.length≤1000000∧o.fl.length≤1000000):(A3 o).vc A5 A6 o:=by
 dsimp only[A3,noS,Ax.vp,Ax.vc];simp only[vcU,rfU,f'];exact⟨by omega,by omega,by omega,trivial⟩
def A4(o:Ovl)(h:o.sp.length≤1000000∧o.ls.length≤1000000∧o.fl.length≤1000000):HC Tryz.prog:=hcO 58 [(.a [(.s 5),(.s 3),(.s 10)])] [Ovl.v o] [] .k A5 A6 o (λ_ _=>⟨(A3 o),SP o h,by kernel_rfl⟩) (by kernel_rfl) (by simp[hcB,bJ,AV.belB,allB,cF,bW,A5,A6,Ovl.v,Ex,EL,E1,ae (v:=Lsn.v) (λ_=>rfl),ae (v:=Sig.v) (λ_=>rfl),ae (v:=Spk.v) (λ_=>rfl)])
theorem fX{o:Ovl}(h:¬bE o):(1:Int)=gZ o:=(u' h).symm
structure RefK (R:List Int) (s:Spk) (l:Lsn):Prop where
  n:s.peers.length+1=R.length
  p:∀p∈s.peers,p.router∈R
  lo:bY l
  lr:l.router=s.router
  h:∀h∈l.heard,h.router∈R
theorem gJ{o:Ovl}:bE o↔(o.sp.length≤12∧o.ls.length=o.sp.length)∧(∀i s,o.sp[i]?=some s→aW s∧(0<i→∀y,o.sp[i-1]?=some y→y.router<s.router)) ∧
  (∀(i:Nat) s l,o.sp[i]?=some s→o.ls[i]?=some l→RefK (aD o.sp) s l)∧∀x∈o.fl,cV (aD o.sp) x:=by
 rw[dM];have hmem:∀{i:Nat} {s:Spk},o.sp[i]?=some s→s.router∈aD o.sp:=λhs=>R'.mpr ⟨_,aq hs,rfl⟩
 constructor
 ·rintro⟨h1,h2,h3,h4⟩;have hR:(aD o.sp).Pairwise (·<·):=(dM.mpr ⟨h1,h2,h3,h4⟩).1.ascR
  refine⟨⟨h1,h2⟩,λi s hs=>?_,λi s l hs hl=>?_,h4⟩
  ·obtain⟨l,hl⟩:∃l,o.ls[i]?=some l:=⟨_,E' (by have:=aw hs;omega)⟩
   have d:=h3 i s l hs hl;exact⟨d.fs,λhi y hy=>d.fasc hi _ (lS hy)⟩
  ·have d:=h3 i s l hs hl;obtain⟨q1,q2⟩:=(rU hR d.fs (hmem hs)).mp d.fp;exact⟨q1,q2,d.fl,d.fr,d.fh⟩
 ·rintro⟨⟨h1,h2⟩,h3,h4,h5⟩;have hasc:∀k:Nat,k≤o.sp.length→(o.sp.take k).Pairwise λx y=>x.router<y.router:=by
   intro k
   induction k with
   | zero=>intro _;simp
   | succ k ih =>
    intro hk;have hs:o.sp[k]?=some o.sp[k]:=E' (by omega);exact(oC Spk.router hs).mpr ⟨ih (by omega),(h3 k _ hs).2⟩
  have ha:=hasc o.sp.length (V' _);rw[aj']at ha;have hR:(aD o.sp).Pairwise (·<·):=by unfold aD;rw[at'];exact ha
  refine⟨h1,h2,λi s l hs hl=>?_,h5⟩;obtain⟨a1,a2⟩:=h3 i s hs;have b:=h4 i s l hs hl;refine⟨a1,λhi y hy=>?_,(rU hR a1 (hmem hs)).mpr ⟨b.n,b.p⟩,b.lo,b.lr,b.h⟩;unfold aD at hy;rw[S']at hy;cases hz:o.sp[i-1]? with
  | none=>rw[hz]at hy;simp at hy
  | some z =>
   rw[hz]at hy;have hy:z.router=y:=by simpa using hy
   rw[←hy];exact a2 hi z hz
def B9(o:Ovl):=okL [Ovl.v o]
def GD(o:Ovl)(t0:Bool):NF:=⟨[rR 1 0,rB 27 t0],[.box (Ovl.v o)]⟩
def GB(o:Ovl)(t1:Int×List Int):NF:=⟨[rR 1 0,rV 3 1,(29,.k,.sl 5 (o.sp.map Spk.v) false),rI 30 ((o.sp.map Spk.v).length:Int),rI 31 t1.1],[.box (Ovl.v o),vB 1 AV.int t1.2 (λ_=>rfl)]⟩
def GA(o:Ovl)(t1:Int×List Int)(x1:Spk)(t2:Bool):NF:=⟨[rR 1 0,rV 3 1,rR 5 2,(29,.k,.sl 5 (o.sp.map Spk.v) false),rI 30 ((o.sp.map Spk.v).length:Int),rI 31 t1.1,rB 54 t2],[.box (Ovl.v o),vB 1 AV.int t1.2 (λ_=>rfl),.box (Spk.v x1)]⟩
def G9(o:Ovl)(t1:Int×List Int)(t3:Int):NF:=⟨[rR 1 0,rV 3 1,(62,.k,.sl 5 (o.sp.map Spk.v) false),rI 63 ((o.sp.map Spk.v).length:Int),rI 64 t3],[.box (Ovl.v o),vB 1 AV.int t1.2 (λ_=>rfl)]⟩
def G8(o:Ovl)(t1:Int×List Int)(t3:Int)(x3:Spk)(t4:Int):NF:=⟨[rR 1 0,rV 3 1,rI 6 t3,rR 7 2,(62,.k,.sl 5 (o.sp.map Spk.v) false),rI 63 ((o.sp.map Spk.v).length:Int),rI 64 t3,(77,.k,.sl 3 (x3.peers.map Per.v) false),rI 78 ((x3.peers.map Per.v).length:Int),rI 79 t4],[.box (Ovl.v o),vB 1 AV.int t1.2 (λ_=>rfl),.box (Spk.v x3)]⟩
def Gz(o:Ovl)(t1:Int×List Int)(t3:Int)(x5:Lsn)(t5:Bool):NF:=⟨[rR 1 0,rV 3 1,rR 10 2,(62,.k,.sl 5 (o.sp.map Spk.v) false),rI 63 ((o.sp.map Spk.v).length:Int),rI 64 t3,rB 103 t5],[.box (Ovl.v o),vB 1 AV.int t1.2 (λ_=>rfl),.box (Lsn.v x5)]⟩
def Gy(o:Ovl)(t1:Int×List Int)(t3:Int)(x5:Lsn)(t6:Int):NF:=⟨[rR 1 0,rV 3 1,(62,.k,.sl 5 (o.sp.map Spk.v) false),rI 63 ((o.sp.map Spk.v).length:Int),rI 64 t3,(105,.k,.sl 4 (x5.heard.map Hrd.v) false),rI 106 ((x5.heard.map Hrd.v).length:Int),rI 107 t6],[.box (Ovl.v o),vB 1 AV.int t1.2 (λ_=>rfl)]⟩
def Gx(o:Ovl)(t1:Int×List Int)(t7:Int):NF:=⟨[rV 3 0,(119,.k,.sl 10 (o.fl.map Sig.v) false),rI 120 ((o.fl.map Sig.v).length:Int),rI 121 t7],[vB 1 AV.int t1.2 (λ_=>rfl)]⟩
def Gw(o:Ovl)(t1:Int×List Int)(t7:Int)(t8:Bool):NF:=⟨[rV 3 0,(119,.k,.sl 10 (o.fl.map Sig.v) false),rI 120 ((o.fl.map Sig.v).length:Int),rI 121 t7,rB 141 t8],[vB 1 AV.int t1.2 (λ_=>rfl)]⟩
@[reducible] def B6:Nat→Type
 | 0=>Bool
 | 1=>Int×List Int
 | 2=>Bool
 | 3=>Int
 | 4=>Int
 | 5=>Bool
 | 6=>Int
 | 7=>Int
 | 8=>Bool
 | _=>Unit
def B7(r:Int):AV:=.int r
def B5(o:Ovl)(I0:Bool→Prop)(I1:Bool→(Int×List Int)→Prop)(m1:Bool→(Int×List Int)→Nat)(I2:Bool→Int×List Int→Spk→Bool→Prop)(I3:Bool→Int×List Int→Int→Prop)(m3:Bool→Int×List Int→Int→Nat)(I4:Bool→Int×List Int→Int→Spk→Int→Prop)(m4:Bool→Int×List Int→Int→Spk→Int→Nat)(I5:Bool→Int×List Int→Int→Spk→Int→Lsn→Bool→Prop)(I6:Bool→Int×List Int→Int→Spk→Int→Lsn→Bool→Int→Prop)(m6:Bool→Int×List Int→Int→Spk→Int→Lsn→Bool→Int→Nat)(I7:Bool→Int×List Int→Int→Int→Prop)(m7:Bool→Int×List Int→Int→Int→Nat)(I8:Bool→Int×List Int→Int→Int→Sig→Bool→Prop):Ax Tryz.prog B6 (Int):=
 (.pass (.pass (.join 0 (GD o) (λ(t0:Bool)=>I0 t0) (λb0=>(.br 112 (decide (12<((o.sp.map Spk.v).length:Int))) (.bk 0 b0 ((true):Bool) [0])
(.bk 0 b0 ((((o.ls.map Lsn.v).length:Int) != ((o.sp.map Spk.v).length:Int)):Bool) [0]))) λ(t0:Bool) =>
(.br 1 t0 (.ret (1))
(.cmdL (.nilT 3 1) (.loop 1 (GB o) (I1 t0) (m1 t0) (0,[]) [0,81] λ(t1:Int×List Int) b1 =>
(.br 18 (decide (t1.1<((o.sp.map Spk.v).length:Int))) (.elI 34 Spk.v o.sp t1.1 λx1 =>
(.pass (.join 2 (GA o t1 x1) (λ(t2:Bool)=>I2 t0 t1 x1 t2) (λb2=>(.callP (jR x1)
(.br 178 ((cI x1) != 0) (.bk 2 b2 ((true):Bool) [0,1,66])
(.br 226 (decide (0<t1.1)) (.elI 290 Spk.v o.sp (W (t1.1-1)) λx2 =>
(.bk 2 b2 ((decide (x1.router≤x2.router)):Bool) [0,1,66]))
(.bk 2 b2 ((false):Bool) [0,1,66]))))) λ(t2:Bool) =>
(.br 3 t2 (.ret (1))
(.apX 67 AV.int t1.2 [x1.router] (t1.2.length+1)
(.bk 1 b1 (W (t1.1+1),t1.2++[x1.router]) [0,67]))))))
(.loop 3 (G9 o t1) (I3 t0 t1) (m3 t0 t1) ((0):Int) [0,1] λ(t3:Int) b3 =>
(.br 18 (decide (t3<((o.sp.map Spk.v).length:Int))) (.elI 34 Spk.v o.sp t3 λx3 =>
(.br 226 (((x3.peers.map Per.v).length:Int) != (W (((t1.2.map AV.int).length:Int)-1))) (.ret (1))
(.loop 4 (G8 o t1 t3 x3) (I4 t0 t1 t3 x3) (m4 t0 t1 t3 x3) ((0):Int) [0,1,66] λ(t4:Int) b4 =>
(.br 19 (decide (t4<((x3.peers.map Per.v).length:Int))) (.elI 19 Per.v x3.peers t4 λx4 =>
(.callP (yK t1.2 x4.router)
(.say (ck (c9 [(t1.2.map AV.int)])) (.br 163 (!(InI t1.2 x4.router)) (.ret (1))
(.bk 4 b4 ((W (t4+1)):Int) [0,1,2])))))
(.elI 67 Lsn.v o.ls t3 λx5 =>
(.pass (.join 5 (Gz o t1 t3 x5) (λ(t5:Bool)=>I5 t0 t1 t3 x3 t4 x5 t5) (λb5=>(.callP (th x5)
(.br 195 ((gB x5) != 0) (.bk 5 b5 ((true):Bool) [0,1,99])
(.bk 5 b5 ((x5.router != x3.router):Bool) [0,1,99])))) λ(t5:Bool) =>
(.br 3 t5 (.ret (1))
(.loop 6 (Gy o t1 t3 x5) (I6 t0 t1 t3 x3 t4 x5 t5) (m6 t0 t1 t3 x3 t4 x5 t5) ((0):Int) [0,1] λ(t6:Int) b6 =>
(.br 18 (decide (t6<((x5.heard.map Hrd.v).length:Int))) (.elI 18 Hrd.v x5.heard t6 λx6 =>
(.callP (yK t1.2 x6.router)
(.say (ck (c9 [(t1.2.map AV.int)])) (.br 162 (!(InI t1.2 x6.router)) (.ret (1))
(.bk 6 b6 ((W (t6+1)):Int) [0,1])))))
(.bk 3 b3 ((W (t3+1)):Int) [0,1])))))))))))
(.loop 7 (Gx o t1) (I7 t0 t1 t3) (m7 t0 t1 t3) ((0):Int) [1] λ(t7:Int) b7 =>
(.br 17 (decide (t7<((o.fl.map Sig.v).length:Int))) (.elI 17 Sig.v o.fl t7 λx7 =>
(.join 8 (Gw o t1 t7) (λ(t8:Bool)=>I8 t0 t1 t3 t7 x7 t8) (λb8=>(.callP (tC x7)
(.br 145 ((aG x7) != 0) (.bk 8 b8 ((true):Bool) [0])
(.callP (yK t1.2 x7.src)
(.say (ck (c9 [(t1.2.map AV.int)])) (.br 257 (!(InI t1.2 x7.src)) (.bk 8 b8 ((true):Bool) [0])
(.callP (yK t1.2 x7.dst)
(.say (ck (c9 [(t1.2.map AV.int)])) (.bk 8 b8 ((!(InI t1.2 x7.dst)):Bool) [0]))))))))) λ(t8:Bool) =>
(.br 1 t8 (.ret (1))
(.bk 7 b7 ((W (t7+1)):Int) [0]))))
(.ret (0)))))))))))))
theorem My(o:Ovl)(ok:B9 o):∃I0 I1 m1 I2 I3 m3 I4 m4 I5 I6 m6 I7 m7 I8,(B5 o I0 I1 m1 I2 I3 m3 I4 m4 I5 I6 m6 I7 m7 I8).vp B7 (gZ o):=by
 unfold B9 at ok;obtain⟨l1,l2,l3⟩:=vV ok
 refine⟨λt=>t=false↔(o.sp.length≤12∧o.ls.length=o.sp.length),
  λ_ t=>∃k:Nat,t=((k:Int),aD (o.sp.take k))∧k≤o.sp.length∧∀i s,i<k→o.sp[i]?=some s→aW s∧(0<i→∀y,o.sp[i-1]?=some y→y.router<s.router),λ_ t=>o.sp.length-t.1.toNat,
  λ_ t1 x t=>t=false↔(aW x∧(0<t1.1.toNat→∀y,o.sp[t1.1.toNat-1]?=some y→y.router<x.router)),
  λ_ _ t=>∃k:Nat,t=k∧k≤o.sp.length∧∀i s l,i<k→o.sp[i]?=some s→o.ls[i]?=some l→RefK (aD o.sp) s l,λ_ _ t=>o.sp.length-t.toNat,
  λ_ _ _ x t=>∃j:Nat,t=j∧j≤x.peers.length∧∀p∈x.peers.take j,p.router∈aD o.sp,λ_ _ _ x t=>x.peers.length-t.toNat,
  λ_ _ _ x _ y t=>t=false↔(bY y∧y.router=x.router),
  λ_ _ _ _ _ y _ t=>∃k:Nat,t=k∧k≤y.heard.length∧∀h∈y.heard.take k,h.router∈aD o.sp,λ_ _ _ _ _ y _ t=>y.heard.length-t.toNat,
  λ_ _ _ t=>∃k:Nat,t=k∧k≤o.fl.length∧∀x∈o.fl.take k,cV (aD o.sp) x,λ_ _ _ t=>o.fl.length-t.toNat,
  λ_ _ _ _ x t=>t=false↔cV (aD o.sp) x,?_⟩
 dsimp only[B5,B6,Ax.vp,Ax.vc];simp only[vcU,rfU,f'];refine⟨⟨λh1=>by simp;omega,λh1=>by simp;omega⟩,?_⟩;intro t0 h0
 refine⟨λe=>?_,λe=>?_⟩
 ·subst e;exact fX λq=>by have:=h0.mpr (gJ.mp q).1;simp at this
 obtain⟨n1,n2⟩:=h0.mp e;have hR:(aD o.sp).length=o.sp.length:=fm;refine⟨⟨0,rfl,by omega,λi s hi=>by omega⟩,?_⟩;rintro _ ⟨k,rfl,hk,hI⟩;simp only[Int.toNat_natCast]
 refine⟨λh1=>⟨by omega,by omega,λx hx=>⟨⟨λa1=>?_,λa1=>⟨λa2=>⟨?_,?_,λy hy=>?_⟩,λa2=>?_⟩⟩,?_⟩⟩,λh1=>⟨⟨0,rfl,by omega,λi s l hi=>by omega⟩,?_⟩⟩
 ·have a1:¬cI x=0:=by simpa using a1
  rw[mN]at a1;simp[a1]
 ·rw[cf (by omega)];omega
 ·rw[cf (by omega)];omega
 ·have a1:cI x=0:=by simpa using a1
  have e3:(W ((k:Int)-1)).toNat=k-1:=by rw[cf (by omega)];omega
  rw[e3]at hy;rw[mN]at a1;rw[hy];simp only[aK',forall_eq',decide_eq_false_iff_not];exact⟨λq=>⟨a1,λ_=>by omega⟩,λq=>by have:=q.2 (by omega);omega⟩
 ·have a1:cI x=0:=by simpa using a1
  rw[mN]at a1;simp only[true_iff];exact⟨a1,λq=>by omega⟩
 ·intro t2 h2
  refine⟨λe=>?_,λe=>⟨by rw[fm];simp;omega,⟨k+1,?_,by omega,λi s hi hs=>?_⟩,?_⟩⟩
  ·subst e;exact fX λq=>by
    have d:=(gJ.mp q).2.1 k x hx;have:=h2.mpr d;simp at this
  ·rw[ao (n:=o.sp.length) (by omega) (by omega),al hx];simp[aD]
  ·by_cases ei:i=k
   ·subst ei;rw[hx]at hs;cases hs;exact h2.mp e
   ·exact hI i s (by omega) hs
  ·rw[ao (n:=o.sp.length) (by omega) (by omega)];omega
 ·have hk:k=o.sp.length:=by omega
  have eR:aD (o.sp.take k)=aD o.sp:=by rw[hk,aj']
  rw[eR];have hI:∀i s,o.sp[i]?=some s→aW s∧(0<i→∀y,o.sp[i-1]?=some y→y.router<s.router):=λi s hs=>hI i s (by have:=aw hs;omega) hs;have hL:c9 [(aD o.sp).map AV.int]=true:=nT (ae (λ_=>rfl) _);clear eR;rintro _ ⟨k,rfl,hk,hK⟩;simp only[Int.toNat_natCast,InI]
  refine⟨λb1=>⟨by omega,by omega,λx hx=>⟨λc1=>?_,λc1=>⟨⟨0,rfl,by omega,by simp⟩,?_⟩⟩⟩,λb1=>⟨⟨0,rfl,by omega,by simp⟩,?_⟩⟩
  ·obtain⟨l,hl⟩:∃l,o.ls[k]?=some l:=⟨_,E' (by omega)⟩
   refine fX λq=>?_;have d:=((gJ.mp q).2.2.1 k x l hx hl).n;rw[cf (by omega)]at c1;simp at c1;omega
  ·have hn:x.peers.length+1=(aD o.sp).length:=by
    rw[cf (by omega)]at c1;simp at c1;omega
   have hs:=hI k x hx;have hxp:=hs.1.2.2.2.2.1;rintro _ ⟨j,rfl,hj,hJ⟩;simp only[Int.toNat_natCast]
   refine⟨λd1=>⟨by omega,by omega,λp hp=>⟨hL,λd2=>?_,λd2=>?_⟩⟩,λd1=>⟨by omega,by omega,λy hy=>⟨⟨λf1=>?_,λf1=>?_⟩,?_⟩⟩⟩
   ·have d2:¬p.router∈aD o.sp:=by simpa using d2
    obtain⟨l,hl⟩:∃l,o.ls[k]?=some l:=⟨_,E' (by omega)⟩
    exact fX λq=>d2 (((gJ.mp q).2.2.1 k x l hx hl).p p (aq hp))
   ·rw[ao (n:=x.peers.length) (by omega) (by omega)];exact⟨⟨j+1,rfl,by omega,jj hp hJ (by simpa using d2)⟩,by omega⟩
   ·have f1:¬gB y=0:=by simpa using f1
    rw[tg]at f1;simp[f1]
   ·have f1:gB y=0:=by simpa using f1
    rw[tg]at f1;simp[f1]
   ·intro t5 h5;have ej:j=x.peers.length:=by omega
    rw[ej,aj']at hJ
    refine⟨λe=>?_,λe=>⟨⟨0,rfl,by omega,by simp⟩,?_⟩⟩
    ·subst e;exact fX λq=>by
      have d:=(gJ.mp q).2.2.1 k x y hx hy;have:=h5.mpr ⟨d.lo,d.lr⟩;simp at this
    obtain⟨g1,g2⟩:=h5.mp e;have hh:=g1.2.2.1;rintro _ ⟨m,rfl,hm,hM⟩;simp only[Int.toNat_natCast]
    refine⟨λd1=>⟨by omega,by omega,λz hz=>⟨hL,λd2=>?_,λd2=>?_⟩⟩,λd1=>?_⟩
    ·have d2:¬z.router∈aD o.sp:=by simpa using d2
     exact fX λq=>d2 (((gJ.mp q).2.2.1 k x y hx hy).h z (aq hz))
    ·rw[ao (n:=y.heard.length) (by omega) (by omega)];exact⟨⟨m+1,rfl,by omega,jj hz hM (by simpa using d2)⟩,by omega⟩
    ·have em:m=y.heard.length:=by omega
     rw[em,aj']at hM;rw[ao (n:=o.sp.length) (by omega) (by omega)];refine⟨⟨k+1,rfl,by omega,λi s l hi hs' hl'=>?_⟩,by omega⟩
     by_cases ei:i=k
     ·subst ei;rw[hx]at hs';rw[hy]at hl';cases hs';cases hl';exact⟨hn,hJ,g1,g2,hM⟩
     ·exact hK i s l (by omega) hs' hl'
  ·rintro _ ⟨j,rfl,hj,hJ⟩;simp only[Int.toNat_natCast]
   refine⟨λc1=>⟨by omega,by omega,λx hx=>⟨⟨λa1=>?_,λa1=>⟨hL,λa2=>?_,λa2=>⟨hL,?_⟩⟩⟩,?_⟩⟩,λc1=>?_⟩
   ·have a1:¬aG x=0:=by simpa using a1
    simp[cV,a1]
   ·have a2:¬x.src∈aD o.sp:=by simpa using a2
    simp[cV,a2]
   ·have a1:aG x=0:=by simpa using a1
    have a2:x.src∈aD o.sp:=by simpa using a2
    simp[cV,a1,a2]
   ·intro t6 h6
    refine⟨λe=>?_,λe=>?_⟩
    ·subst e;exact fX λq=>by have:=h6.mpr ((gJ.mp q).2.2.2 x (aq hx));simp at this
    ·rw[ao (n:=o.fl.length) (by omega) (by omega)];exact⟨⟨j+1,rfl,by omega,jj hx hJ (h6.mp e)⟩,by omega⟩
   ·have hj:j=o.fl.length:=by omega
    rw[hj,aj']at hJ;exact(if_pos (gJ.mpr ⟨⟨n1,n2⟩,hI,λi s l hs hl=>hK i s l (by have:=aw hs;omega) hs hl,hJ⟩)).symm
def lH(o:Ovl):PC Tryz.prog:=pcO 57 [(.a [(.s 5),(.s 3),(.s 10)])] [Ovl.v o] .k B7 (gZ o) (λok=>let ⟨I0,I1,m1,I2,I3,m3,I4,m4,I5,I6,m6,I7,m7,I8,h⟩:=My o ok;⟨_,h,by kernel_rfl⟩) rfl (by kernel_rfl)
theorem tf{o:Ovl}:gZ o=0↔bE o:=by
 unfold gZ;by_cases h:bE o<;>simp[h]
theorem pS{o:Ovl}(h:bE o){r:Int}(hr:r∈aD o.sp):cB o.sp r=(bn o.sp r:Int):=by rw[xa h,if_pos hr]
theorem iM{o:Ovl}(h:bE o){r:Int}:cB o.sp r<0↔r ∉ aD o.sp:=by
 rw[xa h]
 split
 ·rename_i hr;simp[hr]
 ·rename_i hr;simp[hr]
def DP(r:Ovl×Int):AV:=.tup [Ovl.v r.1,.int r.2]
def uK(o:Ovl)(router:Int)(wants:List Wnt):Ax Tryz.prog noS (Ovl×Int):=
 (.callP (lH o)
(.br 128 ((gZ o) != 0) (.ret ((⟨[],[],[]⟩:Ovl),gZ o))
(.callP (mr o router)
(.br 224 (decide ((cB o.sp router)<0)) (.ret ((⟨[],[],[]⟩:Ovl),4))
(.callP (oU wants)
(.br 304 ((aI false wants) != 0) (.ret ((⟨[],[],[]⟩:Ovl),aI false wants))
(.elI 352 Spk.v o.sp (cB o.sp router) λx1 =>
(.callP (oQ x1.items)
(.callP (Pr (av x1.items) wants)
(.br 560 (((ah (av x1.items) wants).2) != 0) (.ret ((⟨[],[],[]⟩:Ovl),(ah (av x1.items) wants).2))
(.elI 608 Spk.v o.sp (cB o.sp router) λx2 =>
(.callP (FK x2 ((ah (av x1.items) wants).1))
(.br 800 (((change x2 ((ah (av x1.items) wants).1)).2) != 0) (.ret ((⟨[],[],[]⟩:Ovl),(change x2 ((ah (av x1.items) wants).1)).2))
(.req 816 (o.sp.length≤1000000∧o.ls.length≤1000000∧o.fl.length≤1000000) λh3 =>
(.callH [] (A4 o h3) 816
(.stJ 944 Spk.v o.sp (cB o.sp router) (λy4=>((change x2 ((ah (av x1.items) wants).1)).1)) λy4 =>
(.fz 818 Sig.v o.fl (λ_=>rfl) (.fz 817 Lsn.v o.ls (λ_=>rfl) (.fz 816 Spk.v (o.sp.set ((cB o.sp router).toNat) ((change x2 ((ah (av x1.items) wants).1)).1)) (λ_=>rfl) (.ret ((⟨o.sp.set ((cB o.sp router).toNat) ((change x2 ((ah (av x1.items) wants).1)).1),o.ls,o.fl⟩:Ovl),0)))))))))))))))))))))
theorem Pw(o:Ovl)(r:Int)(w:List Wnt)(h:o.fl.length≤1000000):(uK o r w).vp DP (aS o r w):=by
 dsimp only[uK,noS,Ax.vp,Ax.vc];simp only[vcU,rfU,f'];unfold aS;by_cases h1:bE o
 case neg =>
  have:gZ o=1:=u' h1;rw[if_pos h1,this];simp[jd]
 rw[u' (not_not_intro h1),tf.mpr h1];have hL:=h1.1.lens
 refine⟨λq=>by simp at q,λ_=>⟨λq=>?_,λq=>?_⟩⟩
 ·rw[if_pos ((iM h1).mp q)];rfl
 have h2:r∈aD o.sp:=X'.mp λc=>q ((iM h1).mpr c);obtain⟨p1,p2,p3,p4⟩:=oD h1 h2;rw[u' (not_not_intro h2),pS h1 h2];simp only[Int.toNat_natCast]
 refine⟨λc=>?_,λc=>⟨by omega,by omega,λx hx=>?_⟩⟩
 ·rw[if_pos (by simpa using c)];rfl
 rw[u' (by simpa using c)];cases p3.symm.trans hx
 refine⟨λc=>?_,λc=>⟨by omega,by omega,λy hy=>?_⟩⟩
 ·rw[if_pos (by simpa using c)];rfl
 rw[u' (by simpa using c)];cases p3.symm.trans hy
 refine⟨λd=>?_,λd=>?_⟩
 ·rw[if_pos (by simpa using d)];rfl
 rw[u' (by simpa using d)];exact⟨⟨by omega,by omega,h⟩,by simp;omega,by omega,λz hz=>rfl⟩
def uL(o:Ovl)(router:Int)(wants:List Wnt)(h:o.fl.length≤1000000):PC Tryz.prog:=pcO 46 [(.a [(.s 5),(.s 3),(.s 10)]),.k,(.s 3)] [Ovl.v o,.int router,.sl 3 (wants.map Wnt.v) false] (.a [(.a [(.s 5),(.s 3),(.s 10)]),.k]) DP (aS o router wants) (λ_=>⟨(uK o router wants),Pw o router wants h,by kernel_rfl⟩) rfl (by kernel_rfl)
def Cy(r:Ovl×Int):AV:=.tup [Ovl.v r.1,.int r.2]
def tI(o:Ovl)(router:Int)(wants:List Wnt):Ax Tryz.prog noS (Ovl×Int):=
 (.callP (lH o)
(.br 128 ((gZ o) != 0) (.ret ((⟨[],[],[]⟩:Ovl),gZ o))
(.callP (mr o router)
(.br 224 (decide ((cB o.sp router)<0)) (.ret ((⟨[],[],[]⟩:Ovl),4))
(.elI 272 Spk.v o.sp (cB o.sp router) λx1 =>
(.callP (zy x1 wants)
(.br 464 (((restart x1 wants).2) != 0) (.ret ((⟨[],[],[]⟩:Ovl),(restart x1 wants).2))
(.elI 512 Lsn.v o.ls (cB o.sp router) λx2 =>
(.br 576 (decide (1000000≤x2.epoch)) (.ret ((⟨[],[],[]⟩:Ovl),3))
(.req 592 (o.sp.length≤1000000∧o.ls.length≤1000000∧o.fl.length≤1000000) λh3 =>
(.callH [] (A4 o h3) 592
(.stJ 720 Spk.v o.sp (cB o.sp router) (λy4=>((restart x1 wants).1)) λy4 =>
(.elI 848 Lsn.v o.ls (cB o.sp router) λx5 =>
(.say (ck (cond (decide (0≤(cB o.sp router))) (decide ((cB o.sp router)<((o.ls.map Lsn.v).length:Int))) false)) (.stI 944 Lsn.v o.ls (λR=>Rf (o.ls.map Lsn.v) (ck (decide ((cB o.sp router).toNat<o.ls.length))
(∀y6,o.ls[(cB o.sp router).toNat]?=some y6 →
((R y6))))) λy6 =>
(.say (λR=>Rf (α:=List AV) ((o.ls.map Lsn.v).set ((cB o.sp router).toNat) (.agg [.int router,.int (W (x5.epoch+1)),.sl 0 [] true])) (Rf (Lsn.v (⟨router,W (x5.epoch+1),[]⟩:Lsn))
R)) (.cmd (.wkS 593 ((cB o.sp router).toNat) (.a [.k,.k,(.s 4)]) Lsn.v o.ls (.agg [.int router,.int (W (x5.epoch+1)),.sl 0 [] true]) (⟨router,W (x5.epoch+1),[]⟩:Lsn)) (.fz 594 Sig.v o.fl (λ_=>rfl) (.fz 593 Lsn.v (o.ls.set ((cB o.sp router).toNat) (⟨router,W (x5.epoch+1),[]⟩:Lsn)) (λ_=>rfl) (.fz 592 Spk.v (o.sp.set ((cB o.sp router).toNat) ((restart x1 wants).1)) (λ_=>rfl) (.ret ((⟨o.sp.set ((cB o.sp router).toNat) ((restart x1 wants).1),o.ls.set ((cB o.sp router).toNat) (⟨router,W (x5.epoch+1),[]⟩:Lsn),o.fl⟩:Ovl),0))))))))))))))))))))))
theorem N3(o:Ovl)(r:Int)(w:List Wnt)(h:o.fl.length≤1000000):(tI o r w).vp Cy (aB o r w):=by
 dsimp only[tI,noS,Ax.vp,Ax.vc];simp only[vcU,rfU,f'];unfold aB;by_cases h1:bE o
 case neg =>
  have:gZ o=1:=u' h1;rw[if_pos h1,this];simp[jd]
 rw[u' (not_not_intro h1),tf.mpr h1];have hL:=h1.1.lens
 refine⟨λq=>by simp at q,λ_=>⟨λq=>?_,λq=>?_⟩⟩
 ·rw[if_pos ((iM h1).mp q)];rfl
 have h2:r∈aD o.sp:=X'.mp λc=>q ((iM h1).mpr c);obtain⟨p1,p2,p3,p4⟩:=oD h1 h2;have he:=(h1.1.lso _ (aq p4)).1.2.1;rw[u' (not_not_intro h2),pS h1 h2];simp only[Int.toNat_natCast];refine⟨by omega,by omega,λx hx=>?_⟩;cases p3.symm.trans hx
 refine⟨λc=>?_,λc=>⟨by omega,by omega,λy hy=>?_⟩⟩
 ·rw[if_pos (by simpa using c)];rfl
 rw[u' (by simpa using c)];cases p4.symm.trans hy
 refine⟨λd=>?_,λd=>?_⟩
 ·rw[if_pos (by omega)];rfl
 rw[u' (by omega)];refine⟨⟨by omega,by omega,h⟩,by simp;omega,by omega,λz hz=>⟨by omega,by omega,λu hu=>⟨by simp;omega,by omega,λv hv=>?_⟩⟩⟩;cases p4.symm.trans hu;rw[cf (by omega)]
def N4(o:Ovl)(router:Int)(wants:List Wnt)(h:o.fl.length≤1000000):PC Tryz.prog:=pcO 133 [(.a [(.s 5),(.s 3),(.s 10)]),.k,(.s 3)] [Ovl.v o,.int router,.sl 3 (wants.map Wnt.v) false] (.a [(.a [(.s 5),(.s 3),(.s 10)]),.k]) Cy (aB o router wants) (λ_=>⟨(tI o router wants),N3 o router wants h,by kernel_rfl⟩) rfl (by kernel_rfl)
theorem RE{R:List Int}{sp sp':List Spk}{ls ls':List Lsn}(h:bI R sp ls)(h':bI R sp' ls')(r:Int):bn sp r=bn sp' r:=
 eZ (key:=Spk.router) (key':=Spk.router) (h.spr.trans h'.spr.symm) r
def HD(o:Ovl)(faults:List Fau)(t0:Int×List Spk×List Sig×List Lsn):NF:=⟨[rR 2 0,rR 4 1,rR 7 2,rV 41 6,rI 42 ((((arr o.fl faults).1).map Sig.v).length:Int),rI 43 t0.1],[.box (Ovl.v o),.box (.agg [.sl 0 [] true,.sl 0 [] true,.sl 0 [] true]),.box (.agg [.vec 3,.vec 4,.vec 5]),vB 5 Spk.v t0.2.1 (λ_=>rfl),vB 3 Lsn.v t0.2.2.2 (λ_=>rfl),vB 10 Sig.v t0.2.2.1 (λ_=>rfl),vB 10 Sig.v ((arr o.fl faults).1) (λ_=>rfl)]⟩
def HB(t0:Int×List Spk×List Sig×List Lsn)(t1:Int×List Sig):NF:=⟨[rR 4 0,rR 7 1,rV 97 2,rI 98 ((t0.2.1.map Spk.v).length:Int),rI 99 t1.1],[.box (.agg [.sl 0 [] true,.sl 0 [] true,.sl 0 [] true]),.box (.agg [.vec 2,.vec 3,.vec 4]),vB 5 Spk.v t0.2.1 (λ_=>rfl),vB 3 Lsn.v t0.2.2.2 (λ_=>rfl),vB 10 Sig.v t1.2 (λ_=>rfl)]⟩
def HA(t0:Int×List Spk×List Sig×List Lsn)(t1:Int×List Sig)(x8:Spk)(t2:Int×List Sig):NF:=⟨[rR 4 0,rR 7 1,rR 19 5,rV 97 2,rI 98 ((t0.2.1.map Spk.v).length:Int),rI 99 t1.1,(104,.k,.sl 3 (x8.peers.map Per.v) false),rI 105 ((x8.peers.map Per.v).length:Int),rI 106 t2.1],[.box (.agg [.sl 0 [] true,.sl 0 [] true,.sl 0 [] true]),.box (.agg [.vec 2,.vec 3,.vec 4]),vB 5 Spk.v t0.2.1 (λ_=>rfl),vB 3 Lsn.v t0.2.2.2 (λ_=>rfl),vB 10 Sig.v t2.2 (λ_=>rfl),.box (Spk.v x8)]⟩
@[reducible] def tK:Nat→Type
 | 0=>Int×List Spk×List Sig×List Lsn
 | 1=>Int×List Sig
 | 2=>Int×List Sig
 | _=>Unit
def Cz(r:Ovl×Int):AV:=.tup [Ovl.v r.1,.int r.2]
def tJ(o:Ovl)(faults:List Fau)(I0:(Int×List Spk×List Sig×List Lsn)→Prop)(m0:(Int×List Spk×List Sig×List Lsn)→Nat)(I1:Int×List Spk×List Sig×List Lsn→(Int×List Sig)→Prop)(m1:Int×List Spk×List Sig×List Lsn→(Int×List Sig)→Nat)(I2:Int×List Spk×List Sig×List Lsn→Int×List Sig→Spk→(Int×List Sig)→Prop)(m2:Int×List Spk×List Sig×List Lsn→Int×List Sig→Spk→(Int×List Sig)→Nat):Ax Tryz.prog tK (Ovl×Int):=
 (.callP (lH o)
(.br 128 ((gZ o) != 0) (.ret ((⟨[],[],[]⟩:Ovl),gZ o))
(.req 144 (o.sp.length≤1000000∧o.ls.length≤1000000∧o.fl.length≤1000000) λh1 =>
(.callH [] (A4 o h1) 144
(.req 240 (CC o.fl faults) λh2 =>
(.callH [] (Ty o.fl faults h2) 240
(.loop 0 (HD o faults) I0 m0 (0,o.sp,(arr o.fl faults).2,o.ls) [0,16,160,144,145,241,240] λ(t0:Int×List Spk×List Sig×List Lsn) b0 =>
(.br 23 (decide (t0.1<((((arr o.fl faults).1).map Sig.v).length:Int))) (.elJ 39 Sig.v ((arr o.fl faults).1) t0.1 λx3 =>
(.callP (mr o x3.dst)
(.br 215 (x3.kind==3) (.elJ 279 Spk.v t0.2.1 (cB o.sp x3.dst) λx4 =>
(.callP (TB x4 x3)
(.br 455 (((ack x4 x3).2)==0) (.stJ 535 Spk.v t0.2.1 (cB o.sp x3.dst) (λy5=>((ack x4 x3).1)) λy5 =>
(.bk 0 b0 (W (t0.1+1),t0.2.1.set ((cB o.sp x3.dst).toNat) ((ack x4 x3).1),t0.2.2.1,t0.2.2.2) [0,1,2,3,4,5,6]))
(.bk 0 b0 (W (t0.1+1),t0.2.1,t0.2.2.1,t0.2.2.2) [0,1,2,3,4,5,6]))))
(.elJ 279 Lsn.v t0.2.2.2 (cB o.sp x3.dst) λx6 =>
(.callP (OO x6 x3)
(.br 503 (((hear x6 x3).2)==0) (.stJ 583 Lsn.v t0.2.2.2 (cB o.sp x3.dst) (λy7=>((hear x6 x3).1.1)) λy7 =>
(.apX 663 Sig.v t0.2.2.1 [(hear x6 x3).1.2] (t0.2.2.1.length+1)
(.bk 0 b0 (W (t0.1+1),t0.2.1,t0.2.2.1++[(hear x6 x3).1.2],t0.2.2.2.set ((cB o.sp x3.dst).toNat) ((hear x6 x3).1.1)) [0,1,2,3,4,663,6])))
(.bk 0 b0 (W (t0.1+1),t0.2.1,t0.2.2.1,t0.2.2.2) [0,1,2,3,4,5,6])))))))
(.loop 1 (HB t0) (I1 t0) (m1 t0) (0,t0.2.2.1) [1,2,3,4,5] λ(t1:Int×List Sig) b1 =>
(.br 21 (decide (t1.1<((t0.2.1.map Spk.v).length:Int))) (.elJ 37 Spk.v t0.2.1 t1.1 λx8 =>
(.loop 2 (HA t0 t1 x8) (I2 t0 t1 x8) (m2 t0 t1 x8) (0,t1.2) [0,1,2,3,4,53] λ(t2:Int×List Sig) b2 =>
(.br 22 (decide (t2.1<((x8.peers.map Per.v).length:Int))) (.elI 22 Per.v x8.peers t2.1 λx9 =>
(.callP (Ng x8 x9.router)
(.apX 278 Sig.v t2.2 ((send x8 x9.router).1) (t2.2.length+((send x8 x9.router).1).length)
(.bk 2 b2 (W (t2.1+1),t2.2++((send x8 x9.router).1)) [0,1,2,3,278,5]))))
(.bk 1 b1 (W (t1.1+1),t2.2) [0,1,2,3,4]))))
(.fz 4 Sig.v t1.2 (λ_=>rfl) (.fz 3 Lsn.v t0.2.2.2 (λ_=>rfl) (.fz 2 Spk.v t0.2.1 (λ_=>rfl) (.ret ((⟨t0.2.1,t0.2.2.2,t1.2⟩:Ovl),0)))))))))))))))
theorem N5(o:Ovl)(f:List Fau)(h:pB o f):∃I0 m0 I1 m1 I2 m2,(tJ o f I0 m0 I1 m1 I2 m2).vp Cz (roundO o f):=by
 obtain⟨h1,h2⟩:=h;by_cases hv:bE o
 case neg =>
  refine⟨λ_=>True,λ_=>0,λ_ _=>True,λ_ _=>0,λ_ _ _ _=>True,λ_ _ _ _=>0,?_⟩;have e:roundO o f=(jd,1):=if_pos hv;have e2:gZ o=1:=u' hv;rw[e];dsimp only[tJ,tK,Ax.vp,Ax.vc];simp only[vcU,rfU,f'];simp[e2,jd]
 have hn:=hv.1;obtain⟨hnow,hlate⟩:=uP (P:=cV (aD o.sp)) (f:=f) hv.2;have hlen:=uQ (l:=o.fl) (f:=f);have e:roundO o f=(eY o (arr o.fl f).1 (arr o.fl f).2,0):=u' (not_not_intro hv);rw[e];have hA:CC o.fl f:=⟨by omega,h2,λx hx=>vD (hv.2 x hx).1⟩
 refine⟨λt=>∃k:Nat,t=((k:Int),(((arr o.fl f).1.take k).foldl aR ((o.sp,o.ls),(arr o.fl f).2)).1.1,(((arr o.fl f).1.take k).foldl aR ((o.sp,o.ls),(arr o.fl f).2)).2,(((arr o.fl f).1.take k).foldl aR ((o.sp,o.ls),(arr o.fl f).2)).1.2)∧k≤(arr o.fl f).1.length,
  λt=>(arr o.fl f).1.length-t.1.toNat,
  λt0 t=>∃j:Nat,t=((j:Int),t0.2.2.1++(t0.2.1.take j).flatMap jm)∧j≤t0.2.1.length,λt0 t=>t0.2.1.length-t.1.toNat,
  λt0 t1 x t=>∃i:Nat,t=((i:Int),t1.2++(x.peers.take i).flatMap λp=>(send x p.router).1)∧i≤x.peers.length,λt0 t1 x t=>x.peers.length-t.1.toNat,?_⟩
 dsimp only[tJ,tK,Ax.vp,Ax.vc];simp only[vcU,rfU,f'];generalize (arr o.fl f).1=now at *
 generalize (arr o.fl f).2=late at *
 have hLo:=hn.lens;refine⟨λq=>by rw[tf.mpr hv]at q;simp at q,λ_=>⟨⟨by omega,by omega,by omega⟩,hA,⟨0,rfl,by omega⟩,?_⟩⟩;rintro _ ⟨k,rfl,hk⟩;have d:=j8 (l:=now.take k) (s:=((o.sp,o.ls),late)) hn λx hx=>hnow x (T' hx);have dl:=fO (l:=now.take k) (s:=((o.sp,o.ls),late));have hst:∀x,now[k]?=some x→(now.take (k+1)).foldl aR ((o.sp,o.ls),late)=aR ((now.take k).foldl aR ((o.sp,o.ls),late)) x:=λx hx=>by rw[al hx,aW'];rfl
 have hend:k=now.length→eY o now late=⟨((now.take k).foldl aR ((o.sp,o.ls),late)).1.1,((now.take k).foldl aR ((o.sp,o.ls),late)).1.2,((now.take k).foldl aR ((o.sp,o.ls),late)).2++kA ((now.take k).foldl aR ((o.sp,o.ls),late)).1.1⟩:=λe=>by rw[e,aj'];rfl
 generalize (now.take k).foldl aR ((o.sp,o.ls),late)=s at *
 obtain⟨⟨sp,ls⟩,out⟩:=s;have dn:=d.net;simp only at dn;obtain⟨n1,n2⟩:=dn.lens;rw[aa']at dl;simp only[Int.toNat_natCast]at dl ⊢
 refine⟨λa1=>⟨by simp;omega,by omega,λx hx=>?_⟩,λa1=>⟨⟨0,by simp,by omega⟩,?_⟩⟩
 ·have e1:=hst x hx;have hxi:=(hnow x (aq hx)).2.2;obtain⟨p1,p2,p3,p4⟩:=dn.pos hxi;rw[ao (n:=now.length) (by omega) (by omega),pS hv hxi,RE hn dn];simp only[Int.toNat_natCast]
  have fin:∀a b c,aR ((sp,ls),out) x=((a,c),b)→(∃k_1:Nat,(((k+1:Nat):Int),a,b,c)=((k_1:Int),((now.take k_1).foldl aR ((o.sp,o.ls),late)).1.1,((now.take k_1).foldl aR ((o.sp,o.ls),late)).2,((now.take k_1).foldl aR ((o.sp,o.ls),late)).1.2)∧k_1≤now.length)∧now.length-((k+1:Nat):Int).toNat<now.length-k:=λa b c e =>
   ⟨⟨k+1,by rw[e1,e],by omega⟩,by omega⟩
  refine⟨λc1=>⟨by simp;omega,by omega,λy hy=>⟨λc2=>⟨by simp;omega,by omega,λz hz=>fin _ _ _ ?_⟩,λc2=>fin _ _ _ ?_⟩⟩,λc1=>⟨by simp;omega,by omega,λy hy=>⟨λc2=>⟨by simp;omega,by omega,λz hz=>⟨by omega,fin _ _ _ ?_⟩⟩,λc2=>fin _ _ _ ?_⟩⟩⟩
  ·cases p3.symm.trans hy;unfold aR;rw[if_pos (by simpa using c1),if_pos (by simpa using c2)]
  ·cases p3.symm.trans hy;unfold aR;rw[if_pos (by simpa using c1),u' (by simpa using c2)]
  ·cases p4.symm.trans hy;unfold aR;rw[u' (by simpa using c1),if_pos (by simpa using c2)]
  ·cases p4.symm.trans hy;unfold aR;rw[u' (by simpa using c1),u' (by simpa using c2)]
 ·have he:=hend (by omega);rintro _ ⟨j,rfl,hj⟩;have hsj:((sp.take j).flatMap jm).length≤14400:=by
   have:((sp.take j).flatMap jm).length≤(sp.take j).length * 1200:=flat_len λs hs=>by
    have:(jm s).length≤s.peers.length * 100:=flat_len λp _=>o9;have:=(dn.spo s (T' hs)).1.2.2.2.2.1;omega
   rw[aa']at this;omega
  simp only[Int.toNat_natCast]
  refine⟨λb1=>⟨by simp;omega,by omega,λx hx=>⟨⟨0,by simp,by omega⟩,?_⟩⟩,λb1=>?_⟩
  ·have hxp:=(dn.spo x (aq hx)).1.2.2.2.2.1;rintro _ ⟨i,rfl,hi⟩;have hpi:((x.peers.take i).flatMap λp=>(send x p.router).1).length≤1200:=by
    have:((x.peers.take i).flatMap λp=>(send x p.router).1).length≤(x.peers.take i).length * 100:=flat_len λp _=>o9;rw[aa']at this;omega
   simp only[Int.toNat_natCast]
   refine⟨λc1=>⟨by omega,by omega,λp hp=>⟨?_,⟨i+1,?_,by omega⟩,?_⟩⟩,λc1=>⟨⟨j+1,?_,by omega⟩,?_⟩⟩
   ·have:=o9 (s:=x) (to:=p.router);simp only[Y'];omega
   ·rw[ao (n:=x.peers.length) (by omega) (by omega),flat_take hp];simp
   ·rw[ao (n:=x.peers.length) (by omega) (by omega)];omega
   ·have ei:i=x.peers.length:=by omega
    rw[ao (n:=sp.length) (by omega) (by omega),flat_take hx,ei,aj'];simp[jm]
   ·rw[ao (n:=sp.length) (by omega) (by omega)];omega
  ·have ej:j=sp.length:=by omega
   rw[ej,aj',he];rfl
def lU(o:Ovl)(faults:List Fau)(h:pB o faults):PC Tryz.prog:=pcO 13 [(.a [(.s 5),(.s 3),(.s 10)]),(.s 2)] [Ovl.v o,.sl 2 (faults.map Fau.v) false] (.a [(.a [(.s 5),(.s 3),(.s 10)]),.k]) Cz (roundO o faults) (λ_=>let ⟨I0,m0,I1,m1,I2,m2,h⟩:=N5 o faults h;⟨_,h,by kernel_rfl⟩) rfl (by kernel_rfl)
def Jh(o:Ovl)(at_:Int)(of_:Int)(t0:Bool):NF:=⟨[rI 2 of_,rR 3 0,rI 9 (cB o.sp at_),rI 10 (cB o.sp of_),rB 27 t0],[.box (Ovl.v o)]⟩
@[reducible] def Dc:Nat→Type
 | 0=>Bool
 | _=>Unit
def Dd(r:List Wnt×Int):AV:=.tup [.sl 3 (r.1.map Wnt.v) false,.int r.2]
def Db(o:Ovl)(at_:Int)(of_:Int)(I0:Bool→Prop):Ax Tryz.prog Dc (List Wnt×Int):=
 (.callP (lH o)
(.br 128 ((gZ o) != 0) (.ret ([],gZ o))
(.callP (mr o at_)
(.callP (mr o of_)
(.pass (.join 0 (Jh o at_ of_) (λ(t0:Bool)=>I0 t0) (λb0=>(.br 304 (decide ((cB o.sp at_)<0)) (.bk 0 b0 ((true):Bool) [0])
(.bk 0 b0 ((decide ((cB o.sp of_)<0)):Bool) [0]))) λ(t0:Bool) =>
(.br 1 t0 (.ret ([],4))
(.br 49 ((cB o.sp at_)==(cB o.sp of_)) (.elI 97 Spk.v o.sp (cB o.sp of_) λx1 =>
(.callP (oQ x1.items)
(.ret (av x1.items,0))))
(.elI 97 Lsn.v o.ls (cB o.sp at_) λx2 =>
(.callP (Jj x2 of_)
(.ret (dq x2 of_,0))))))))))))
theorem OC(o:Ovl)(a b:Int):∃I0,(Db o a b I0).vp Dd (bX o a b):=by
 refine⟨λt=>t=decide (a ∉ aD o.sp∨b ∉ aD o.sp),?_⟩;dsimp only[Db,Dc,Ax.vp,Ax.vc];simp only[vcU,rfU,f'];have hV:bX o a b=if ¬bE o then([],1)else if a ∉ aD o.sp∨b ∉ aD o.sp then([],4)else if a=b then(av (atS o.sp b).items,0)else(dq (atL o.sp o.ls a) b,0):=rfl
 rw[hV];by_cases hv:bE o
 case neg =>
  have e2:gZ o=1:=u' hv;simp[hv,e2]
 have hL:=hv.1.lens;rw[u' (not_not_intro hv),tf.mpr hv]
 refine⟨λq=>by simp at q,λ_=>⟨⟨λc=>?_,λc=>?_⟩,?_⟩⟩
 ·have c:=(iM hv).mp c;simp[c]
 ·have c:a∈aD o.sp:=X'.mp λq=>c ((iM hv).mpr q);refine decide_eq_decide.mpr ?_;rw[iM hv];simp[c]
 ·rintro _ rfl
  refine⟨λc=>?_,λc=>?_⟩
  ·rw[if_pos (H' c)]
  have c:=ab' c;rw[u' c];have ha:a∈aD o.sp:=by simp only[not_or,X']at c;exact c.1
  have hb:b∈aD o.sp:=by simp only[not_or,X']at c;exact c.2
  obtain⟨p1,p2,p3,p4⟩:=hv.1.pos ha;obtain⟨u1,u2,u3,u4⟩:=hv.1.pos hb;rw[pS hv ha,pS hv hb];simp only[Int.toNat_natCast]
  refine⟨λq=>⟨by omega,by omega,λx hx=>?_⟩,λq=>⟨by omega,by omega,λx hx=>?_⟩⟩
  ·have q:a=b:=(C2 hv ha hb).mp (by have:=eq_of_beq q;omega);cases u3.symm.trans hx;rw[if_pos q]
  ·have q:¬a=b:=λe=>by rw[e]at q;simp at q
   cases p4.symm.trans hx;rw[u' q]
def De(o:Ovl)(at_:Int)(of_:Int):PC Tryz.prog:=pcO 15 [(.a [(.s 5),(.s 3),(.s 10)]),.k,.k] [Ovl.v o,.int at_,.int of_] (.a [(.s 3),.k]) Dd (bX o at_ of_) (λ_=>let ⟨I0,h⟩:=OC o at_ of_;⟨_,h,by kernel_rfl⟩) rfl (by kernel_rfl)
def qm(l:List Int)(i:Nat):List Int:=l.take i++l.drop (i+1)
def jc(l:List Int)(i:Nat)(r:Int):Spk:=⟨r,1,0,[],(qm l i).map λx=>⟨x,0,0⟩⟩
theorem Fs{l:List Int}(h:l.Pairwise (·<·)){i:Nat}{r:Int}(hr:l[i]?=some r):qm l i=cT l r:=by
 obtain⟨hi,e⟩:=I'.mp hr;have hl:l=l.take i++r::l.drop (i+1):=by
  rw[←e,List.getElem_cons_drop,bg']
 have h1:∀x∈l.take i,x≠r:=λx hx q=>by
  rw[hl,ag']at h;have:=h.2.2 x hx r (by simp);omega
 have h2:∀x∈l.drop (i+1),x≠r:=λx hx q=>by
  rw[hl,ag',an']at h;have:=h.2.1.1 x hx;omega
 unfold qm cT
 conv=>rhs;rw[hl]
 rw[aP',List.filter_cons_of_neg (by simp),bD'.mpr λx hx=>by simpa using h1 x hx,bD'.mpr λx hx=>by simpa using h2 x hx]
theorem BS{l:List Int}(h:okR l){i:Nat}{r:Int}(hr:l[i]?=some r):jc l i r=kj l r:=by
 unfold jc kj;rw[Fs h.2.2 hr];rfl
theorem CL{l:List Int}(h:okR l):(⟨l.mapIdx (jc l),l.map kT,[]⟩:Ovl)=eB l:=by
 have:l.mapIdx (jc l)=l.map (kj l):=by
  refine bd' (by simp) λi h1 h2=>?_;rw[List.getElem_mapIdx,cp'];exact BS h (E' (by simpa using h1))
 rw[this];rfl
theorem Iw(l:List Int):bE ⟨l.mapIdx (jc l),l.map kT,[]⟩↔okR l:=by
 have er:aD (l.mapIdx (jc l))=l:=by
  unfold aD;refine bd' (by simp) λi h1 h2=>?_;simp[jc]
 constructor
 ·rintro⟨h,_⟩;simp only[er]at h;refine⟨h.len,λr hr=>?_,h.ascR⟩;obtain⟨i,hi,rfl⟩:=ad' hr;have:=(h.spo (jc l i l[i]) (List.mem_mapIdx.mpr ⟨i,hi,rfl⟩)).1.1;exact this
 ·intro h;rw[CL h];exact(EG l).mpr h
theorem new_M(l:List Int)(i:Nat)(r:Int):new r 1 (qm l i)=if aW (jc l i r)then(jc l i r,0)else(eG,1):=rfl
abbrev ee(routers:List Int):=(routers.take ((routers.length:Int).toNat))
def Iv(routers:List Int)(t0:Int×List Lsn×List Spk):NF:=⟨[(0,.k,.sl 1 (routers.map AV.int) false),rR 2 0,rR 4 1,(14,.k,.sl 1 (routers.map AV.int) false),rI 15 ((routers.map AV.int).length:Int),rI 16 t0.1],[.box (.agg [.sl 0 [] true,.sl 0 [] true,.sl 0 [] true]),.box (.agg [.vec 2,.vec 3,.sl 0 [] true]),vB 5 Spk.v t0.2.2 (λ_=>rfl),vB 3 Lsn.v t0.2.1 (λ_=>rfl)]⟩
@[reducible] def CH:Nat→Type
 | 0=>Int×List Lsn×List Spk
 | _=>Unit
def CI(r:Ovl×Int):AV:=.tup [Ovl.v r.1,.int r.2]
def CG(routers:List Int)(I0:(Int×List Lsn×List Spk)→Prop)(m0:(Int×List Lsn×List Spk)→Nat):Ax Tryz.prog CH (Ovl×Int):=
 (.br 96 (decide (12<((routers.map AV.int).length:Int))) (.ret ((⟨[],[],[]⟩:Ovl),1))
(.cmdL (.nilB 32 0 5) (.cmdL (.nilB 32 1 3) (.loop 0 (Iv routers) I0 m0 (0,[],[]) [0,32,144,145] λ(t0:Int×List Lsn×List Spk) b0 =>
(.br 20 (decide (t0.1<((routers.map AV.int).length:Int))) (.elI 36 AV.int routers t0.1 λx1 =>
(.say (λR=>Rf (α:=List AV) (routers.map AV.int) (ck (cj routers.length 0 t0.1 (routers.length:Int))
R)) (.sub 164 AV.int routers false
(.apX 180 AV.int [] ((routers.take t0.1.toNat).drop 0) (0+((routers.take t0.1.toNat).drop 0).length)
(.say (λR=>Rf (α:=List AV) (routers.map AV.int) (ck (cj routers.length (W (t0.1+1)) (routers.length:Int) (routers.length:Int))
R)) (.sub 244 AV.int routers false
(.apX 260 AV.int ((routers.take t0.1.toNat).drop 0) ((ee routers).drop ((W (t0.1+1)).toNat)) (((routers.take t0.1.toNat).drop 0).length+((ee routers).drop ((W (t0.1+1)).toNat)).length)
(.say (Rf ((((routers.take t0.1.toNat).drop 0)++((ee routers).drop ((W (t0.1+1)).toNat))).map AV.int)) (.cmd (.frzE 260 ((((routers.take t0.1.toNat).drop 0)++((ee routers).drop ((W (t0.1+1)).toNat))).map AV.int) (ae (λ_=>rfl) (((routers.take t0.1.toNat).drop 0)++((ee routers).drop ((W (t0.1+1)).toNat))))) (.callP (Sb x1 1 (((routers.take t0.1.toNat).drop 0)++((ee routers).drop ((W (t0.1+1)).toNat))))
(.br 468 (((new x1 1 (((routers.take t0.1.toNat).drop 0)++((ee routers).drop ((W (t0.1+1)).toNat)))).2) != 0) (.ret ((⟨[],[],[]⟩:Ovl),1))
(.apX 532 Spk.v t0.2.2 [(new x1 1 (((routers.take t0.1.toNat).drop 0)++((ee routers).drop ((W (t0.1+1)).toNat)))).1] (t0.2.2.length+1)
(.say (λR=>Idt (t0.2.1.map Lsn.v) (Rf (α:=List AV) [.agg [.int x1,.int 1,.sl 0 [] true]]
(ck (decide ((t0.2.1.map Lsn.v).length+1≤1048576))
R))) (.app 660 (λy:AV=>y) (t0.2.1.map Lsn.v) [.agg [.int x1,.int 1,.sl 0 [] true]]
(.say (λR=>TL (.a [.k,.k,(.s 4)]) Lsn.v t0.2.1 [(⟨x1,1,[]⟩:Lsn)] [.agg [.int x1,.int 1,.sl 0 [] true]] ∧
R) (.cmd (.wkV 660 (.a [.k,.k,(.s 4)]) Lsn.v (t0.2.1++[(⟨x1,1,[]⟩:Lsn)])) (.bk 0 b0 (W (t0.1+1),t0.2.1++[(⟨x1,1,[]⟩:Lsn)],t0.2.2++[(new x1 1 (((routers.take t0.1.toNat).drop 0)++((ee routers).drop ((W (t0.1+1)).toNat)))).1]) [0,1,532,660])))))))))))))))))
(.callP (lH (⟨t0.2.2,t0.2.1,[]⟩:Ovl))
(.say (ck (c9 [(t0.2.2.map Spk.v),(t0.2.1.map Lsn.v)])) (.br 68 ((gZ (⟨t0.2.2,t0.2.1,[]⟩:Ovl)) != 0) (.ret ((⟨[],[],[]⟩:Ovl),1))
(.fz 3 Lsn.v t0.2.1 (λ_=>rfl) (.fz 2 Spk.v t0.2.2 (λ_=>rfl) (.ret ((⟨t0.2.2,t0.2.1,[]⟩:Ovl),0))))))))))))
theorem Oc(l:List Int)(h:l.length≤1000):∃I m,(CG l I m).vp CI (ez l):=by
 refine⟨λt=>∃k:Nat,t=((k:Int),(l.take k).map kT,(l.mapIdx (jc l)).take k)∧k≤l.length,λt=>l.length-t.1.toNat,?_⟩;dsimp only[CG,CH,ee,Ax.vp,Ax.vc];simp only[vcU,rfU,f'];have hN:ez l=if okR l then(eB l,0)else(jd,1):=rfl
 rw[hN]
 refine⟨λq=>?_,λq=>⟨⟨0,rfl,by omega⟩,?_⟩⟩
 ·have:¬okR l:=λe=>by have:=e.1;omega
  rw[u' this];rfl
 rintro _ ⟨k,rfl,hk⟩;simp only[Int.toNat_natCast]
 refine⟨λa1=>⟨by omega,by omega,λx hx=>?_⟩,λa1=>?_⟩
 ·rw[ao (n:=l.length) (by omega) (by omega)];simp only[Int.toNat_natCast,aj',bf'];have hdr:l.take k++l.drop (k+1)=qm l k:=rfl;have hdl:(l.take k).length+(l.drop (k+1)).length≤1000:=by rw[aa',bv'];omega
  have hb1:cj l.length 0 (k:Int) (l.length:Int)=true:=by simp[cj];omega
  have hb2:cj l.length ((k+1:Nat):Int) (l.length:Int) (l.length:Int)=true:=by simp[cj];omega
  rw[hdr,new_M]
  refine⟨hb1,by omega,hb2,by omega,λc=>?_,λc=>?_⟩
  ·have c:¬aW (jc l k x):=λe=>by rw[if_pos e]at c;simp at c
   have:¬okR l:=λe=>c (by rw[BS e hx];exact(tz e (aq hx)).1);rw[u' this];rfl
  ·have c:aW (jc l k x):=by
    by_cases e:aW (jc l k x)
    ·exact e
    ·rw[u' e]at c;simp at c
   rw[if_pos c];have hm:(l.mapIdx (jc l))[k]?=some (jc l k x):=by rw[List.getElem?_mapIdx,hx];rfl
   refine⟨by simp;omega,by simp;omega,Ki (λ_=>rfl) rfl,⟨k+1,?_,by omega⟩,by omega⟩;rw[al hx,al hm,List.map_append];rfl
 ·rw[G' (by simp;omega),G' (by omega)];have hz:gZ (⟨l.mapIdx (jc l),l.map kT,[]⟩:Ovl)=if okR l then 0 else 1:=by
   unfold gZ;simp only[Iw]
  refine⟨by generalize l.mapIdx (jc l)=A;generalize l.map kT=B;simp[c9,ae (v:=Spk.v) (λ_=>rfl),ae (v:=Lsn.v) (λ_=>rfl)],λq=>?_,λq=>?_⟩
  ·rw[hz]at q
   by_cases e:okR l
   ·rw[if_pos e]at q;simp at q
   ·rw[u' e];rfl
  ·rw[hz]at q
   by_cases e:okR l
   ·rw[if_pos e,CL e]
   ·rw[u' e]at q;simp at q
def CJ(routers:List Int)(h:routers.length≤1000):PC Tryz.prog:=pcO 44 [(.s 1)] [.sl 1 (routers.map AV.int) false] (.a [(.a [(.s 5),(.s 3),(.s 10)]),.k]) CI (ez routers) (λ_=>let ⟨I0,m0,h⟩:=Oc routers h;⟨_,h,by kernel_rfl⟩) rfl (by kernel_rfl)
theorem Od{a b:Int}:gW a b=min a b:=by unfold gW;split<;>omega
def OH(L:List Int)(t0:Int×Nat×List Fau):NF:=⟨[rR 0 0,rV 5 1,rI 6 t0.1],[.box (.agg [.sl 1 (L.map AV.int) false,.int t0.2.1]),vB 2 Fau.v t0.2.2 (λ_=>rfl)]⟩
@[reducible] def J6:Nat→Type
 | 0=>Int×Nat×List Fau
 | _=>Unit
def Ab(r:Tap×List Fau):AV:=.sl 2 (r.2.map Fau.v) false
def Ac(r:Tap×List Fau):List (Option Blk):=[some (.box (Tap.v r.1))]
def J5(L:List Int)(p:Nat)(n:Int)(I0:(Int×Nat×List Fau)→Prop)(m0:(Int×Nat×List Fau)→Nat):Ax Tryz.prog J6 (Tap×List Fau):=
 (.cmdL (.nilT 5 2) (.loop 0 (OH L) I0 m0 (W (n-1),p,[]) [0,81] λ(t0:Int×Nat×List Fau) b0 =>
(.br 34 (decide (0≤t0.1)) (.callH [0] (N_h L t0.2.1 3) 50
(.br 82 (decide (0<(Mod (aj L t0.2.1) 3))) (.req 130 ([1,1,2,3,4]≠[]) λh1 =>
(.callH [0] (fJ L (ab L t0.2.1) [1,1,2,3,4] h1) 130
(.apX 194 Fau.v t0.2.2 [(⟨ay [1,1,2,3,4] (aj L (ab L t0.2.1)),t0.1⟩:Fau)] (t0.2.2.length+1)
(.bk 0 b0 (W (t0.1-1),ab L (ab L t0.2.1),t0.2.2++[(⟨ay [1,1,2,3,4] (aj L (ab L t0.2.1)),t0.1⟩:Fau)]) [0,194]))))
(.bk 0 b0 (W (t0.1-1),ab L t0.2.1,t0.2.2) [0,1])))
(.fz 1 Fau.v t0.2.2 (λ_=>rfl) (.retH ((⟨L,t0.2.1⟩:Tap),t0.2.2) ⟨[(4,.k,.sl 2 (t0.2.2.map Fau.v) false)],[.box (.agg [.sl 1 (L.map AV.int) false,.int t0.2.1])]⟩ [0])))))
theorem Su(L:List Int)(p:Nat)(n:Int)(h:0≤n∧n≤100000):∃I m,(J5 L p n I m).vc Ab Ac ((⟨L,(dU L n p).2⟩:Tap),(dU L n p).1):=by
 refine⟨λt=>∃k:Nat,t.1=(k:Int)-1∧k≤100000∧t.2.2.length+k≤100000∧kZ L k t.2.2 t.2.1=dU L n p,λt=>(t.1+1).toNat,?_⟩;dsimp only[J5,J6,Ax.vp,Ax.vc];simp only[vcU,rfU,f'];refine⟨⟨n.toNat,by rw[cf (by omega)];omega,by omega,by simp;omega,rfl⟩,?_⟩;rintro⟨i,q,out⟩ ⟨k,hk,hk4,hl,hf⟩;simp only at hk hl hf;subst hk;simp only
 refine⟨λh1=>?_,λh1=>?_⟩
 ·obtain⟨j,rfl⟩:∃j,k=j+1:=⟨k-1,by omega⟩
  have e:((j+1:Nat):Int)-1=j:=by omega
  rw[e,cf (by omega)];rw[kZ]at hf
  refine⟨λc=>⟨by simp,by omega,⟨j,rfl,by omega,by simp;omega,?_⟩,by omega⟩,λc=>⟨⟨j,rfl,by omega,by omega,?_⟩,by omega⟩⟩
  ·rw[if_pos c]at hf;exact hf
  ·rw[u' c]at hf;exact hf
 ·have:k=0:=by omega
  subst this;rw[←hf];rfl
def Sv(L:List Int)(p:Nat)(n:Int)(h:0≤n∧n≤100000):HC Tryz.prog:=hcO 134 [.k,.k] [.ref 0 0,.int n] [.box (.agg [.sl 1 (L.map AV.int) false,.int p])] (.s 2) Ab Ac ((⟨L,(dU L n p).2⟩:Tap),(dU L n p).1) (λ_ _=>let ⟨I0,m0,h⟩:=Su L p n h;⟨_,h,by kernel_rfl⟩) (by kernel_rfl) (by simp[hcB,bJ,AV.belB,allB,cF,bW,Ab,Ac,Tap.v,ae (v:=AV.int) (λ_=>rfl),ae (v:=Fau.v) (λ_=>rfl)])
def Ij(o:Ovl):Prop:=0<o.sp.length∧o.fl.length≤300000
abbrev fQ(o:Ovl):=(gW ((o.fl.map Sig.v).length:Int) 40)
abbrev kg(L:List Int)(p:Nat)(o:Ovl):=(bR L ((o.fl.map Sig.v).length:Int) (ab L (ab L p)))
def PN(L:List Int)(o:Ovl)(t0:Int×Ovl×Nat):NF:=⟨[rR 3 1,rR 4 2,rR 6 3,rI 7 t0.1],[.box (.agg [.sl 1 (L.map AV.int) false,.int t0.2.2]),.box (Ovl.v o),.box (.agg [.sl 0 [] true,.sl 0 [] true,.sl 0 [] true]),.box (Ovl.v t0.2.1)]⟩
def PM(L:List Int)(p:Nat)(o:Ovl)(x1:Spk)(t1:Bool):NF:=⟨[rR 0 0,rR 3 1,rR 4 2,rI 5 x1.router,rR 6 3,rI 20 (Mod (aj L (ab L p)) 6),rB 31 t1],[.box (.agg [.sl 1 (L.map AV.int) false,.int (((ab L (ab L p)):Nat):Int)]),.box (Ovl.v o),.box (.agg [.sl 0 [] true,.sl 0 [] true,.sl 0 [] true]),.box (Ovl.v o)]⟩
@[reducible] def LN:Nat→Type
 | 0=>Int×Ovl×Nat
 | 1=>Bool
 | _=>Unit
def Bs(r:Tap×Ovl):AV:=Ovl.v r.2
def Bt(r:Tap×Ovl):List (Option Blk):=[some (.box (Tap.v r.1))]
def LM(L:List Int)(p:Nat)(o:Ovl)(I0:Spk→(Int×Ovl×Nat)→Prop)(I1:Spk→Bool→Prop):Ax Tryz.prog LN (Tap×Ovl):=
 (.callH [0] (N_h L p ((o.sp.map Spk.v).length:Int)) 129
(.elI 145 Spk.v o.sp (Mod (aj L p) ((o.sp.map Spk.v).length:Int)) λx1 =>
(.pass (.join 0 (PN L o) (λ(t0:Int×Ovl×Nat)=>I0 x1 t0) (λb0=>(.callH [0] (N_h L (ab L p) 6) 289
(.join 1 (PM L p o x1) (λ(t1:Bool)=>I1 x1 t1) (λb1=>(.br 337 ((Mod (aj L (ab L p)) 6)==0) (.bk 1 b1 ((true):Bool) [0,1,17,225])
(.bk 1 b1 (((Mod (aj L (ab L p)) 6)==1):Bool) [0,1,17,225]))) λ(t1:Bool) =>
(.br 4 t1 (.callH [0] (vg L (ab L (ab L p))) 52
(.req 68 (o.fl.length≤1000000) λh2 =>
(.callP (uL o x1.router ((dj L (ab L (ab L p))).1) h2)
(.bk 0 b0 ((aS o x1.router ((dj L (ab L (ab L p))).1)).2,(aS o x1.router ((dj L (ab L (ab L p))).1)).1,(dj L (ab L (ab L p))).2) [0,1,2,3]))))
(.br 36 ((Mod (aj L (ab L p)) 6)==2) (.callH [0] (vg L (ab L (ab L p))) 84
(.req 100 (o.fl.length≤1000000) λh3 =>
(.callP (N4 o x1.router ((dj L (ab L (ab L p))).1) h3)
(.bk 0 b0 ((aB o x1.router ((dj L (ab L (ab L p))).1)).2,(aB o x1.router ((dj L (ab L (ab L p))).1)).1,(dj L (ab L (ab L p))).2) [0,1,2,3]))))
(.br 68 ((Mod (aj L (ab L p)) 6)==3) (.req 164 (0≤(fQ o)∧(fQ o)≤100000) λh4 =>
(.callH [0] (Sv L (ab L (ab L p)) (fQ o) h4) 164
(.req 180 (pB o ((dU L (fQ o) (ab L (ab L p))).1)) λh5 =>
(.callP (lU o ((dU L (fQ o) (ab L (ab L p))).1) h5)
(.bk 0 b0 ((roundO o ((dU L (fQ o) (ab L (ab L p))).1)).2,(roundO o ((dU L (fQ o) (ab L (ab L p))).1)).1,(dU L (fQ o) (ab L (ab L p))).2) [0,1,2,3])))))
(.req 148 (0≤((o.fl.map Sig.v).length:Int)∧((o.fl.map Sig.v).length:Int)≤1000000) λh6 =>
(.callH [0] (D0 L (ab L (ab L p)) ((o.fl.map Sig.v).length:Int) h6) 148
(.req 164 (pB o ((kg L p o).1)) λh7 =>
(.callP (lU o ((kg L p o).1) h7)
(.bk 0 b0 ((roundO o ((kg L p o).1)).2,(roundO o ((kg L p o).1)).1,(kg L p o).2) [0,1,2,3]))))))))))) λ(t0:Int×Ovl×Nat) =>
(.br 36 (t0.1 != 0) (.retH ((⟨L,t0.2.2⟩:Tap),o) ⟨[rR 4 1],[.box (.agg [.sl 1 (L.map AV.int) false,.int t0.2.2]),.box (Ovl.v o)]⟩ [0,2])
(.retH ((⟨L,t0.2.2⟩:Tap),t0.2.1) ⟨[rR 4 1],[.box (.agg [.sl 1 (L.map AV.int) false,.int t0.2.2]),.box (Ovl.v t0.2.1)]⟩ [0,2]))))))
theorem T8(L:List Int)(p:Nat)(o:Ovl)(h:Ij o):∃I0 I1,(LM L p o I0 I1).vc Bs Bt ((⟨L,(gE L p o).2⟩:Tap),(gE L p o).1):=by
 obtain⟨hs,hf⟩:=h;refine⟨λ_ t=>(orO o (t.2.1,t.1),t.2.2)=gE L p o,λ_ x=>x=decide (Mod (aj L (ab L p)) 6=0∨Mod (aj L (ab L p)) 6=1),?_⟩;have hm:=bt (x:=aj L p) (n:=(o.sp.length:Int)) (by omega);have hmin:gW (o.fl.length:Int) 40=min (o.fl.length:Int) 40:=Od;dsimp only[LM,LN,fQ,kg,Ax.vp,Ax.vc];simp only[vcU,rfU,f'];simp only[hmin]
 refine⟨by omega,by omega,λx hx=>⟨⟨⟨λc=>by simp[eq_of_beq c],λc=>?_⟩,?_⟩,?_⟩⟩
 ·have c:¬Mod (aj L (ab L p)) 6=0:=by simpa using c
  rw[cj',bY',aM'];omega
 all_goals have hx:o.sp.getD (Mod (aj L p) o.sp.length).toNat eG=x:=by rw[J',hx];rfl
 rotate_left
 ·rintro⟨e,o2,q⟩ h2;simp only at h2 ⊢
  refine⟨λc=>?_,λc=>?_⟩
  ·have c:e≠0:=by simpa using c
   rw[←h2,orO,if_pos c]
  ·have c:¬e≠0:=by simpa using c
   rw[←h2,orO,u' c]
 have hF1:=kX (L:=L) (n:=min (o.fl.length:Int) 40) (p:=ab L (ab L p));have hF2:=eE (L:=L) (n:=o.fl.length) (p:=ab L (ab L p));rintro _ rfl
 refine⟨λc=>⟨by omega,?_⟩,λc=>⟨λd=>⟨by omega,?_⟩,λd=>⟨λe=>⟨by omega,⟨by omega,by omega⟩,?_⟩,λe=>⟨by omega,⟨by omega,by omega⟩,?_⟩⟩⟩⟩
 ·have c:=H' c;rw[gE,if_pos c,hx]
 ·have c:=ab' c;have d:=eq_of_beq d;rw[gE,u' c,if_pos d,hx]
 ·have c:=ab' c;have d:¬Mod (aj L (ab L p)) 6=2:=by simpa using d
  have e:=eq_of_beq e;rw[gE,u' c,u' d,if_pos e]
 ·have c:=ab' c;have d:¬Mod (aj L (ab L p)) 6=2:=by simpa using d
  have e:¬Mod (aj L (ab L p)) 6=3:=by simpa using e
  rw[gE,u' c,u' d,u' e]
def T9(L:List Int)(p:Nat)(o:Ovl)(h:Ij o):HC Tryz.prog:=hcO 45 [.k,(.a [(.s 5),(.s 3),(.s 10)])] [.ref 0 0,Ovl.v o] [.box (.agg [.sl 1 (L.map AV.int) false,.int p])] (.a [(.s 5),(.s 3),(.s 10)]) Bs Bt ((⟨L,(gE L p o).2⟩:Tap),(gE L p o).1) (λ_ _=>let ⟨I0,I1,h⟩:=T8 L p o h;⟨_,h,by kernel_rfl⟩) (by kernel_rfl) (by simp[hcB,bJ,AV.belB,allB,cF,bW,Bs,Bt,Ovl.v,Tap.v,Ex,EL,E1,ae (v:=AV.int) (λ_=>rfl),ae (v:=Lsn.v) (λ_=>rfl),ae (v:=Sig.v) (λ_=>rfl),ae (v:=Spk.v) (λ_=>rfl)])
theorem Nb{α:Type}{l:List α}{f:α→α}{j:Nat}(h:j<l.length):((l.take j).map f++l.drop j).set j (f l[j])=(l.take (j+1)).map f++l.drop (j+1):=by
 have e:((l.take j).map f).length=j:=by simp;omega
 rw[bJ' _ _ (by omega),e,ce',ar' h,List.set_cons_zero,al (E' h),List.map_append,bo'];rfl
theorem OS{α:Type}{l:List α}{f:α→α}{j:Nat}(h:j<l.length):((l.take j).map f++l.drop j)[j]?=some l[j]:=by
 have e:((l.take j).map f).length=j:=by simp;omega
 rw[aU' (by omega),e,ce',ar' h,List.getElem?_cons_zero]
theorem NI.spl{R:List Int}{o:Ovl}(h:NI R o):o.sp.length=R.length:=by
 have:=congrArg List.length h.net.spr;simpa[aD]using this
abbrev aL(L:List Int)(p:Nat)(most:Int):=(lX L ((bL L p most).2) ((bL L p most).1))
def Np(L:List Int)(p:Nat)(most:Int)(t0:List Int×Int):NF:=⟨[rR 0 0,rR 4 1,rR 5 2,(6,(.s 1),.sl 1 (t0.1.map AV.int) false),(33,.k,.sl 2 ((((aL L p most).1).es).map Edg.v) false),rI 34 (((((aL L p most).1).es).map Edg.v).length:Int),rI 35 t0.2],[.box (.agg [.sl 1 (L.map AV.int) false,.int ((((aL L p most).2):Nat):Int)]),.box (.agg [.sl 0 [] true,.sl 0 [] true,.int 0,.int 0,.sl 0 [] true,.sl 0 [] true,.sl 0 [] true,.sl 0 [] true,.sl 0 [] true]),.box (.agg [.sl 2 ((((bL L p most).1).rs).map Rtr.v) false,.sl 5 ((((bL L p most).1).ls).map Lnk.v) false,.int (((aL L p most).1).sub),.int (((aL L p most).1).len),.sl 2 ((((aL L p most).1).es).map Edg.v) false,.sl 0 [] true,.sl 0 [] true,.sl 0 [] true,.sl 0 [] true])]⟩
def Nn(L:List Int)(p:Nat)(most:Int)(t0:List Int×Int)(t1:Int×Nat×List Sit):NF:=⟨[rR 0 0,rR 4 1,rR 5 2,(6,.k,.sl 1 (t0.1.map AV.int) false),rI 9 (ay [0,100] (aj L ((aL L p most).2))),(47,.k,.sl 1 (t0.1.map AV.int) false),rI 48 ((t0.1.map AV.int).length:Int),rI 49 t1.1],[.box (.agg [.sl 1 (L.map AV.int) false,.int t1.2.1]),.box (.agg [.sl 0 [] true,.sl 0 [] true,.int 0,.int 0,.sl 0 [] true,.sl 0 [] true,.sl 0 [] true,.sl 0 [] true,.sl 0 [] true]),.box (.agg [.sl 2 ((((bL L p most).1).rs).map Rtr.v) false,.sl 5 ((((bL L p most).1).ls).map Lnk.v) false,.int (((aL L p most).1).sub),.int (((aL L p most).1).len),.sl 2 ((((aL L p most).1).es).map Edg.v) false,.vec 3,.sl 0 [] true,.sl 0 [] true,.sl 0 [] true]),vB 3 Sit.v t1.2.2 (λ_=>rfl)]⟩
def Nm(L:List Int)(p:Nat)(most:Int)(t0:List Int×Int)(t1:Int×Nat×List Sit)(x6:Int)(t2:Int×List Mem):NF:=⟨[rR 0 0,rR 4 1,rR 5 2,(6,.k,.sl 1 (t0.1.map AV.int) false),rI 9 (ay [0,100] (aj L ((aL L p most).2))),rI 11 x6,rR 12 4,(47,.k,.sl 1 (t0.1.map AV.int) false),rI 48 ((t0.1.map AV.int).length:Int),rI 49 t1.1,rI 57 (((((bC L 4 t1.2.1).1).list).map Mem.v).length:Int),rI 58 t2.1],[.box (.agg [.sl 1 (L.map AV.int) false,.int ((((bC L 4 t1.2.1).2):Nat):Int)]),.box (.agg [.sl 0 [] true,.sl 0 [] true,.int 0,.int 0,.sl 0 [] true,.sl 0 [] true,.sl 0 [] true,.sl 0 [] true,.sl 0 [] true]),.box (.agg [.sl 2 ((((bL L p most).1).rs).map Rtr.v) false,.sl 5 ((((bL L p most).1).ls).map Lnk.v) false,.int (((aL L p most).1).sub),.int (((aL L p most).1).len),.sl 2 ((((aL L p most).1).es).map Edg.v) false,.vec 3,.sl 0 [] true,.sl 0 [] true,.sl 0 [] true]),vB 3 Sit.v t1.2.2 (λ_=>rfl),.box (.agg [.int (((bC L 4 t1.2.1).1).now),.vec 5]),vB 5 Mem.v t2.2 (λ_=>rfl)]⟩
def Nl(L:List Int)(p:Nat)(most:Int)(t0:List Int×Int)(t1:Int×Nat×List Sit)(t3:Int×List Spk×List Lsn×List Sig×Nat):NF:=⟨[rR 0 0,rR 4 1,rR 5 2,(6,.k,.sl 1 (t0.1.map AV.int) false),rI 14 t3.1],[.box (.agg [.sl 1 (L.map AV.int) false,.int t3.2.2.2.2]),.box (.agg [.sl 0 [] true,.sl 0 [] true,.int 0,.int 0,.sl 0 [] true,.sl 0 [] true,.sl 0 [] true,.sl 0 [] true,.sl 0 [] true]),.box (.agg [.sl 2 ((((bL L p most).1).rs).map Rtr.v) false,.sl 5 ((((bL L p most).1).ls).map Lnk.v) false,.int (((aL L p most).1).sub),.int (((aL L p most).1).len),.sl 2 ((((aL L p most).1).es).map Edg.v) false,.vec 3,.sl 5 (t3.2.1.map Spk.v) false,.sl 3 (t3.2.2.1.map Lsn.v) false,.sl 10 (t3.2.2.2.1.map Sig.v) false]),vB 3 Sit.v t1.2.2 (λ_=>rfl)]⟩
def Nk(L:List Int)(p:Nat)(most:Int)(t1:Int×Nat×List Sit)(t4:Int×List Spk×List Lsn×List Sig×Nat):NF:=⟨[rR 0 0,rR 4 1,rR 5 2,rV 123 3,rI 124 ((t1.2.2.map Sit.v).length:Int),rI 125 t4.1],[.box (.agg [.sl 1 (L.map AV.int) false,.int t4.2.2.2.2]),.box (.agg [.sl 0 [] true,.sl 0 [] true,.int 0,.int 0,.sl 0 [] true,.sl 0 [] true,.sl 0 [] true,.sl 0 [] true,.sl 0 [] true]),.box (.agg [.sl 2 ((((bL L p most).1).rs).map Rtr.v) false,.sl 5 ((((bL L p most).1).ls).map Lnk.v) false,.int (((aL L p most).1).sub),.int (((aL L p most).1).len),.sl 2 ((((aL L p most).1).es).map Edg.v) false,.vec 3,.sl 5 (t4.2.1.map Spk.v) false,.sl 3 (t4.2.2.1.map Lsn.v) false,.sl 10 (t4.2.2.2.1.map Sig.v) false]),vB 3 Sit.v t1.2.2 (λ_=>rfl)]⟩
def Nj(L:List Int)(p:Nat)(most:Int)(t1:Int×Nat×List Sit)(t4:Int×List Spk×List Lsn×List Sig×Nat)(x14:Sit)(t5:Bool×Nat):NF:=⟨[rR 0 0,rR 4 1,rR 5 2,rR 16 4,(17,.k,.sl 3 (((ofW (⟨x14.now,x14.list⟩:aJ)).1).map Wnt.v) false),rV 123 3,rI 124 ((t1.2.2.map Sit.v).length:Int),rI 125 t4.1,rB 141 t5.1],[.box (.agg [.sl 1 (L.map AV.int) false,.int t5.2]),.box (.agg [.sl 0 [] true,.sl 0 [] true,.int 0,.int 0,.sl 0 [] true,.sl 0 [] true,.sl 0 [] true,.sl 0 [] true,.sl 0 [] true]),.box (.agg [.sl 2 ((((bL L p most).1).rs).map Rtr.v) false,.sl 5 ((((bL L p most).1).ls).map Lnk.v) false,.int (((aL L p most).1).sub),.int (((aL L p most).1).len),.sl 2 ((((aL L p most).1).es).map Edg.v) false,.vec 3,.sl 5 (t4.2.1.map Spk.v) false,.sl 3 (t4.2.2.1.map Lsn.v) false,.sl 10 (t4.2.2.2.1.map Sig.v) false]),vB 3 Sit.v t1.2.2 (λ_=>rfl),.box (Sit.v x14)]⟩
def Ni(L:List Int)(p:Nat)(most:Int)(t1:Int×Nat×List Sit)(t6:Int×List Spk×List Lsn×List Sig×Nat):NF:=⟨[rR 0 0,rR 4 1,rR 5 2,rI 21 t6.1],[.box (.agg [.sl 1 (L.map AV.int) false,.int t6.2.2.2.2]),.box (.agg [.sl 0 [] true,.sl 0 [] true,.int 0,.int 0,.sl 0 [] true,.sl 0 [] true,.sl 0 [] true,.sl 0 [] true,.sl 0 [] true]),.box (.agg [.sl 2 ((((bL L p most).1).rs).map Rtr.v) false,.sl 5 ((((bL L p most).1).ls).map Lnk.v) false,.int (((aL L p most).1).sub),.int (((aL L p most).1).len),.sl 2 ((((aL L p most).1).es).map Edg.v) false,.vec 3,.sl 5 (t6.2.1.map Spk.v) false,.sl 3 (t6.2.2.1.map Lsn.v) false,.sl 10 (t6.2.2.2.1.map Sig.v) false]),vB 3 Sit.v t1.2.2 (λ_=>rfl)]⟩
@[reducible] def H3:Nat→Type
 | 0=>(List Int)×Int
 | 1=>Int×Nat×List Sit
 | 2=>Int×List Mem
 | 3=>Int×List Spk×List Lsn×List Sig×Nat
 | 4=>Int×List Spk×List Lsn×List Sig×Nat
 | 5=>Bool×Nat
 | 6=>Int×List Spk×List Lsn×List Sig×Nat
 | _=>Unit
def zl(r:Tap×Scn):AV:=Scn.v r.2
def zm(r:Tap×Scn):List (Option Blk):=[some (.box (Tap.v r.1))]
def Hz(L:List Int)(p:Nat)(most:Int)(I0:(List Int×Int)→Prop)(m0:(List Int×Int)→Nat)(I1:List Int×Int→(Int×Nat×List Sit)→Prop)(m1:List Int×Int→(Int×Nat×List Sit)→Nat)(I2:List Int×Int→Int×Nat×List Sit→Int→(Int×List Mem)→Prop)(m2:List Int×Int→Int×Nat×List Sit→Int→(Int×List Mem)→Nat)(I3:List Int×Int→Int×Nat×List Sit→(Int×List Spk×List Lsn×List Sig×Nat)→Prop)(m3:List Int×Int→Int×Nat×List Sit→(Int×List Spk×List Lsn×List Sig×Nat)→Nat)(I4:List Int×Int→Int×Nat×List Sit→Int×List Spk×List Lsn×List Sig×Nat→(Int×List Spk×List Lsn×List Sig×Nat)→Prop)(m4:List Int×Int→Int×Nat×List Sit→Int×List Spk×List Lsn×List Sig×Nat→(Int×List Spk×List Lsn×List Sig×Nat)→Nat)(I5:List Int×Int→Int×Nat×List Sit→Int×List Spk×List Lsn×List Sig×Nat→Int×List Spk×List Lsn×List Sig×Nat→Sit→(Bool×Nat)→Prop)(I6:List Int×Int→Int×Nat×List Sit→Int×List Spk×List Lsn×List Sig×Nat→Int×List Spk×List Lsn×List Sig×Nat→(Int×List Spk×List Lsn×List Sig×Nat)→Prop)(m6:List Int×Int→Int×Nat×List Sit→Int×List Spk×List Lsn×List Sig×Nat→Int×List Spk×List Lsn×List Sig×Nat→(Int×List Spk×List Lsn×List Sig×Nat)→Nat):Ax Tryz.prog H3 (Tap×Scn):=
 (.req 65 (1≤most∧most≤100) λh1 =>
(.callH [0] (M5 L p most h1) 65
(.req 161 (((bL L p most).1).rs.length≤1000) λh2 =>
(.callH [0] (RG L ((bL L p most).2) ((bL L p most).1) h2) 161
(.loop 0 (Np L p most) I0 m0 ([],0) [0,1,17] λ(t0:List Int×Int) b0 =>
(.br 19 (decide (t0.2<(((((aL L p most).1).es).map Edg.v).length:Int))) (.elI 19 Edg.v (((aL L p most).1).es) t0.2 λx3 =>
(.req 131 (t0.1.length≤900000) λh4 =>
(.callP (HP t0.1 x3.router h4)
(.bk 0 b0 (put t0.1 x3.router,W (t0.2+1)) [0,1,2]))))
(.req 51 ([0,100]≠[]) λh5 =>
(.callH [0] (fJ L ((aL L p most).2) [0,100] h5) 51
(.cmdL (.nilB 2 5 3) (.loop 1 (Nn L p most t0) (I1 t0) (m1 t0) (0,ab L ((aL L p most).2),[]) [0,1,2,131] λ(t1:Int×Nat×List Sit) b1 =>
(.br 20 (decide (t1.1<((t0.1.map AV.int).length:Int))) (.elI 20 AV.int t0.1 t1.1 λx6 =>
(.req 84 (0≤4∧4≤1000) λh7 =>
(.callH [0] (Om L t1.2.1 4 h7) 84
(.loop 2 (Nm L p most t0 t1 x6) (I2 t0 t1 x6) (m2 t0 t1 x6) (0,((bC L 4 t1.2.1).1).list) [0,1,2,3,100,84] λ(t2:Int×List Mem) b2 =>
(.br 22 (decide (t2.1<(((((bC L 4 t1.2.1).1).list).map Mem.v).length:Int))) (.elJ 134 Mem.v t2.2 t2.1 λx8 =>
(.stJ 262 Mem.v t2.2 t2.1 (λy9=>(⟨y9.host,y9.grp,y9.mode,y9.srcs,W (x8.til+(W ((ay [0,100] (aj L ((aL L p most).2)))-((bC L 4 t1.2.1).1).now)))⟩:Mem)) λy9 =>
(.elJ 470 Mem.v (t2.2.set t2.1.toNat (⟨y9.host,y9.grp,y9.mode,y9.srcs,W (x8.til+(W ((ay [0,100] (aj L ((aL L p most).2)))-((bC L 4 t1.2.1).1).now)))⟩:Mem)) t2.1 λx10 =>
(.stJ 534 Mem.v (t2.2.set t2.1.toNat (⟨y9.host,y9.grp,y9.mode,y9.srcs,W (x8.til+(W ((ay [0,100] (aj L ((aL L p most).2)))-((bC L 4 t1.2.1).1).now)))⟩:Mem)) t2.1 (λy11=>(⟨W ((W (10 * ((t1.2.2.map Sit.v).length:Int)))+x10.host),y11.grp,y11.mode,y11.srcs,y11.til⟩:Mem)) λy11 =>
(.bk 2 b2 (W (t2.1+1),(t2.2.set t2.1.toNat (⟨y9.host,y9.grp,y9.mode,y9.srcs,W (x8.til+(W ((ay [0,100] (aj L ((aL L p most).2)))-((bC L 4 t1.2.1).1).now)))⟩:Mem)).set t2.1.toNat (⟨W ((W (10 * ((t1.2.2.map Sit.v).length:Int)))+x10.host),y11.grp,y11.mode,y11.srcs,y11.til⟩:Mem)) [0,1,2,3,4,5])))))
(.wait (.say (Rf (t2.2.map Mem.v)) (.cmd (.frzE 5 (t2.2.map Mem.v) (ae (λ_=>rfl) t2.2)) (.apX 166 Sit.v t1.2.2 [(⟨x6,ay [0,100] (aj L ((aL L p most).2)),t2.2⟩:Sit)] (t1.2.2.length+1)
(.bk 1 b1 (W (t1.1+1),(bC L 4 t1.2.1).2,t1.2.2++[(⟨x6,ay [0,100] (aj L ((aL L p most).2)),t2.2⟩:Sit)]) [0,1,2,166]))))))))))
(.req 36 (t0.1.length≤1000) λh12 =>
(.callP (CJ t0.1 h12)
(.callH [0] (N_h L t1.2.1 4) 148
(.loop 3 (Nl L p most t0 t1) (I3 t0 t1) (m3 t0 t1) (Mod (aj L t1.2.1) 4,((ez t0.1).1).sp,((ez t0.1).1).ls,((ez t0.1).1).fl,ab L t1.2.1) [0,1,2,3] λ(t3:Int×List Spk×List Lsn×List Sig×Nat) b3 =>
(.br 36 (decide (0<t3.1)) (.br 84 (decide (0<((t0.1.map AV.int).length:Int))) (.req 132 (Ij (⟨t3.2.1,t3.2.2.1,t3.2.2.2.1⟩:Ovl)) λh13 =>
(.callH [0] (T9 L t3.2.2.2.2 (⟨t3.2.1,t3.2.2.1,t3.2.2.2.1⟩:Ovl) h13) 132
(.bk 3 b3 (W (t3.1-1),((gE L t3.2.2.2.2 (⟨t3.2.1,t3.2.2.1,t3.2.2.2.1⟩:Ovl)).1).sp,((gE L t3.2.2.2.2 (⟨t3.2.1,t3.2.2.1,t3.2.2.2.1⟩:Ovl)).1).ls,((gE L t3.2.2.2.2 (⟨t3.2.1,t3.2.2.1,t3.2.2.2.1⟩:Ovl)).1).fl,(gE L t3.2.2.2.2 (⟨t3.2.1,t3.2.2.1,t3.2.2.2.1⟩:Ovl)).2) [0,1,2,3])))
(.bk 3 b3 (W (t3.1-1),t3.2.1,t3.2.2.1,t3.2.2.2.1,t3.2.2.2.2) [0,1,2,3]))
(.loop 4 (Nk L p most t1) (I4 t0 t1 t3) (m4 t0 t1 t3) (0,t3.2.1,t3.2.2.1,t3.2.2.2.1,t3.2.2.2.2) [0,1,2,3] λ(t4:Int×List Spk×List Lsn×List Sig×Nat) b4 =>
(.br 20 (decide (t4.1<((t1.2.2.map Sit.v).length:Int))) (.elJ 36 Sit.v t1.2.2 t4.1 λx14 =>
(.callP (Ik (⟨x14.now,x14.list⟩:aJ))
(.join 5 (Nj L p most t1 t4 x14) (λ(t5:Bool×Nat)=>I5 t0 t1 t3 t4 x14 t5) (λb5=>(.br 260 (((ofW (⟨x14.now,x14.list⟩:aJ)).2)==0) (.callH [0] (N_h L t4.2.2.2.2 6) 276
(.bk 5 b5 (decide (0<(Mod (aj L t4.2.2.2.2) 6)),ab L t4.2.2.2.2) [0,1,2,3,52]))
(.bk 5 b5 (false,t4.2.2.2.2) [0,1,2,3,52]))) λ(t5:Bool×Nat) =>
(.br 5 t5.1 (.req 85 ((⟨t4.2.1,t4.2.2.1,t4.2.2.2.1⟩:Ovl).fl.length≤1000000) λh15 =>
(.callP (uL (⟨t4.2.1,t4.2.2.1,t4.2.2.2.1⟩:Ovl) x14.router ((ofW (⟨x14.now,x14.list⟩:aJ)).1) h15)
(.br 229 (((aS (⟨t4.2.1,t4.2.2.1,t4.2.2.2.1⟩:Ovl) x14.router ((ofW (⟨x14.now,x14.list⟩:aJ)).1)).2)==0) (.bk 4 b4 (W (t4.1+1),((aS (⟨t4.2.1,t4.2.2.1,t4.2.2.2.1⟩:Ovl) x14.router ((ofW (⟨x14.now,x14.list⟩:aJ)).1)).1).sp,((aS (⟨t4.2.1,t4.2.2.1,t4.2.2.2.1⟩:Ovl) x14.router ((ofW (⟨x14.now,x14.list⟩:aJ)).1)).1).ls,((aS (⟨t4.2.1,t4.2.2.1,t4.2.2.2.1⟩:Ovl) x14.router ((ofW (⟨x14.now,x14.list⟩:aJ)).1)).1).fl,t5.2) [0,1,2,3])
(.bk 4 b4 (W (t4.1+1),t4.2.1,t4.2.2.1,t4.2.2.2.1,t5.2) [0,1,2,3]))))
(.bk 4 b4 (W (t4.1+1),t4.2.1,t4.2.2.1,t4.2.2.2.1,t5.2) [0,1,2,3])))))
(.callH [0] (N_h L t4.2.2.2.2 4) 36
(.loop 6 (Ni L p most t1) (I6 t0 t1 t3 t4) (m6 t0 t1 t3 t4) (Mod (aj L t4.2.2.2.2) 4,t4.2.1,t4.2.2.1,t4.2.2.2.1,ab L t4.2.2.2.2) [0,1,2,3] λ(t6:Int×List Spk×List Lsn×List Sig×Nat) b6 =>
(.br 36 (decide (0<t6.1)) (.req 148 (0≤((t6.2.2.2.1.map Sig.v).length:Int)∧((t6.2.2.2.1.map Sig.v).length:Int)≤1000000) λh16 =>
(.callH [0] (D0 L t6.2.2.2.2 ((t6.2.2.2.1.map Sig.v).length:Int) h16) 148
(.req 164 (pB (⟨t6.2.1,t6.2.2.1,t6.2.2.2.1⟩:Ovl) ((bR L ((t6.2.2.2.1.map Sig.v).length:Int) t6.2.2.2.2).1)) λh17 =>
(.callP (lU (⟨t6.2.1,t6.2.2.1,t6.2.2.2.1⟩:Ovl) ((bR L ((t6.2.2.2.1.map Sig.v).length:Int) t6.2.2.2.2).1) h17)
(.bk 6 b6 (W (t6.1-1),((roundO (⟨t6.2.1,t6.2.2.1,t6.2.2.2.1⟩:Ovl) ((bR L ((t6.2.2.2.1.map Sig.v).length:Int) t6.2.2.2.2).1)).1).sp,((roundO (⟨t6.2.1,t6.2.2.1,t6.2.2.2.1⟩:Ovl) ((bR L ((t6.2.2.2.1.map Sig.v).length:Int) t6.2.2.2.2).1)).1).ls,((roundO (⟨t6.2.1,t6.2.2.1,t6.2.2.2.1⟩:Ovl) ((bR L ((t6.2.2.2.1.map Sig.v).length:Int) t6.2.2.2.2).1)).1).fl,(bR L ((t6.2.2.2.1.map Sig.v).length:Int) t6.2.2.2.2).2) [0,1,2,3])))))
(.fz 3 Sit.v t1.2.2 (λ_=>rfl) (.retH ((⟨L,t6.2.2.2.2⟩:Tap),(⟨((bL L p most).1).rs,((bL L p most).1).ls,((aL L p most).1).sub,((aL L p most).1).len,((aL L p most).1).es,t1.2.2,t6.2.1,t6.2.2.1,t6.2.2.2.1⟩:Scn)) ⟨[rR 4 1],[.box (.agg [.sl 1 (L.map AV.int) false,.int t6.2.2.2.2]),.box (Scn.v (⟨((bL L p most).1).rs,((bL L p most).1).ls,((aL L p most).1).sub,((aL L p most).1).len,((aL L p most).1).es,t1.2.2,t6.2.1,t6.2.2.1,t6.2.2.2.1⟩:Scn))]⟩ [0,1])))))))))))))))))))))))
set_option maxHeartbeats 1000000 in
theorem R3(L:List Int)(p:Nat)(most:Int)(h:1≤most∧most≤8):∃I0 m0 I1 m1 I2 m2 I3 m3 I4 m4 I5 I6 m6,(Hz L p most I0 m0 I1 m1 I2 m2 I3 m3 I4 m4 I5 I6 m6).vc zl zm ((⟨L,(kl L p most).2⟩:Tap),(kl L p most).1):=by
 refine⟨λt=>jP (kM L p most).1.es (λout e=>put out e.router) [] t.2 t.1,λt=>(kM L p most).1.es.length-t.2.toNat,
  λ_ t=>∃k:Nat,t.1=k∧k≤(cW L p most).length∧t.2.2.length=k∧lM L (o3 L p most) ((cW L p most).drop k) t.2.2 t.2.1=eu L p most,λ_ t=>(cW L p most).length-t.1.toNat,
  λ_ s _ t=>∃j:Nat,t.1=j∧j≤(bC L 4 s.2.1).1.list.length∧t.2=((bC L 4 s.2.1).1.list.take j).map (shM (o3 L p most-(bC L 4 s.2.1).1.now) (10 * s.2.2.length))++(bC L 4 s.2.1).1.list.drop j,λ_ s _ t=>(bC L 4 s.2.1).1.list.length-t.1.toNat,
  λ_ _ t=>∃k:Nat,t.1=k∧k≤3∧NIB (cW L p most) ⟨t.2.1,t.2.2.1,t.2.2.2.1⟩ (14440 * (3-k))∧jJ L (decide (0<(cW L p most).length)) k (⟨t.2.1,t.2.2.1,t.2.2.2.1⟩,t.2.2.2.2)=tF L p most,λ_ _ t=>t.1.toNat,
  λ_ _ _ t=>∃k:Nat,t.1=k∧k≤(eu L p most).1.length∧NIB (cW L p most) ⟨t.2.1,t.2.2.1,t.2.2.2.1⟩ 43320∧kF L ((eu L p most).1.drop k) (⟨t.2.1,t.2.2.1,t.2.2.2.1⟩,t.2.2.2.2)=mT L p most,λ_ _ _ t=>(eu L p most).1.length-t.1.toNat,
  λ_ _ _ s x b=>b=if(ofW ⟨x.now,x.list⟩).2=0 then(decide (0<Mod (aj L s.2.2.2.2) 6),ab L s.2.2.2.2)else(false,s.2.2.2.2),
  λ_ _ _ _ t=>∃k:Nat,t.1=k∧k≤3∧NIB (cW L p most) ⟨t.2.1,t.2.2.1,t.2.2.2.1⟩ (43320+14403 * (3-k))∧pm L k (⟨t.2.1,t.2.2.1,t.2.2.2.1⟩,t.2.2.2.2)=zj L p most,λ_ _ _ _ t=>t.1.toNat,?_⟩
 dsimp only[Hz,H3,aL,Ax.vp,Ax.vc];simp only[vcU,rfU,f'];obtain⟨t1,t2,t3⟩:=oW (L:=L) (p:=p) (most:=most) (by omega);have hP:lX L (bL L p most).2 (bL L p most).1=kM L p most:=rfl;have hN:ay [0,100] (aj L (kM L p most).2)=o3 L p most:=rfl;have hp:=Ci (L:=L) (p:=p) h;have hes:=hp.es;obtain⟨hR,hR8⟩:=jU (L:=L) (p:=p) h;have hnow:=Cj (L:=L) (p:=p) (most:=most);obtain⟨hS,hSr⟩:=oA (L:=L) (p:=p) h;have hS8:=pf (L:=L) (p:=p) h;rw[hP,hN];refine⟨by omega,by omega,jP.zero,?_⟩;rintro⟨rts,i⟩ h0;simp only at h0 ⊢;have hlen:=h0.len (f:=List.length) (a:=0) (b:=1) (by simp) λs x _=>gb s x.router
 refine⟨λc=>⟨h0.idx,c,λx hx=>⟨?_,h0.step (by omega) hx rfl⟩⟩,λc=>?_⟩
 ·have:=aw hx;omega
 have e:rts=cW L p most:=h0.done c;subst e;clear h0 hlen;refine⟨by simp,⟨0,rfl,by omega,rfl,rfl⟩,?_⟩;rintro⟨i1,q1,sits⟩ ⟨k1,hi1,hk1,hl1,hr1⟩;simp only at hi1 hl1 hr1 ⊢;subst hi1;simp only[Int.toNat_natCast]
 refine⟨λc1=>⟨by omega,by omega,λr hr=>⟨by omega,⟨0,rfl,by omega,by simp⟩,?_⟩⟩,λc1=>?_⟩
 ·have hk1':k1<(cW L p most).length:=by omega
  obtain⟨m1,m2,m3,m4⟩:=wm L (n:=4) q1 (by omega);rintro⟨j,ml⟩ ⟨k2,hj,hk2,hml⟩;simp only at hj hml ⊢;subst hj;simp only[Int.toNat_natCast];generalize hM:bC L 4 q1=M at *
  have hmll:ml.length=M.1.list.length:=by rw[hml];simp;omega
  refine⟨λc2=>?_,λc2=>?_⟩
  ·have hk2':k2<M.1.list.length:=by omega
   have hb:(bif decide ((0:Int)≤(k2:Int))then decide ((k2:Int)<ml.length)else false)=true:=kP (by omega) (by omega);have hg:ml[k2]?=some M.1.list[k2]:=by rw[hml];exact OS hk2'
   have hmk:=m2 _ (ay' hk2');have t1:=hmk.til;have t2:=hmk.host
   generalize hx0:M.1.list[k2]=x0 at *
   refine⟨hb,by omega,λx8 e8=>⟨hb,by omega,λx9 e9=>?_⟩⟩;rw[hg]at e8 e9;cases e8;cases e9;refine⟨kP (by omega) (by rw[List.length_set];omega),by rw[List.length_set];omega,λx10 e10=>⟨kP (by omega) (by rw[List.length_set];omega),by rw[List.length_set];omega,λx11 e11=>?_⟩⟩;rw[List.getElem?_set_self (by omega)]at e10 e11;cases e10;cases e11;have w1:W (o3 L p most-M.1.now)=o3 L p most-M.1.now:=cf (by omega);have w2:W (x0.til+(o3 L p most-M.1.now))=x0.til+(o3 L p most-M.1.now):=cf (by omega);have w3:W (10 * (sits.length:Int))=10 * (sits.length:Int):=cf (by omega);have w4:W (10 * (sits.length:Int)+x0.host)=10 * (sits.length:Int)+x0.host:=cf (by omega);rw[w1,w2,w3,w4,ao (n:=M.1.list.length) hk2' (by omega),List.set_set];refine⟨⟨k2+1,rfl,by omega,?_⟩,by omega⟩;rw[hml,←Nb hk2',hx0];rfl
  ·have:k2=M.1.list.length:=by omega
   subst this;rw[G' (V' _),aI' (V' _),az']at hml;rw[ao (n:=(cW L p most).length) hk1' (by omega)];refine⟨by omega,⟨k1+1,rfl,by omega,by simp[hl1],?_⟩,by omega⟩;have hd:=ar' hk1';have hre:(cW L p most)[k1]=r:=by rw[E' hk1']at hr;exact ao' hr
   rw[hd,hre,lM,hM]at hr1;rw[hml];exact hr1
 have:k1=(cW L p most).length:=by omega
 subst this;rw[aI' (V' _),lM]at hr1;have hs1:sits=(eu L p most).1:=congrArg Prod.fst hr1;have hs2:q1=(eu L p most).2:=congrArg Prod.snd hr1;subst hs1;subst hs2;clear hr1;have h4:=bt (x:=aj L (eu L p most).2) (n:=4) (by decide);have z0:=Ck (L:=L) (p:=p) h;have hA:tF L p most=jJ L (decide (0<(cW L p most).length)) (Mod (aj L (eu L p most).2) 4).toNat ((ez (cW L p most)).1,ab L (eu L p most).2):=rfl;generalize (ez (cW L p most)).1=o0 at hA z0 ⊢
 refine⟨by omega,⟨(Mod (aj L (eu L p most).2) 4).toNat,by omega,by omega,?_,hA.symm⟩,?_⟩
 ·exact z0.more (by omega)
 rintro⟨c3,sp3,ls3,fl3,q3⟩ ⟨k3,hc3,hk3,hw3,hr3⟩;simp only at hc3 hw3 hr3 ⊢;subst hc3;have hfl3:=hw3.2;simp only at hfl3
 refine⟨λd=>⟨λe=>⟨⟨?_,by show fl3.length≤300000;omega⟩,?_⟩,λe=>?_⟩,λd=>?_⟩
 ·have:=hw3.1.spl;show 0<sp3.length;simp only at this;omega
 ·rw[dX (by omega) (by omega)];obtain⟨k',rfl⟩:∃k',k3=k'+1:=⟨k3-1,by omega⟩
  rw[jJ,decide_eq_true (by omega),if_pos rfl]at hr3;simp only[bu']
  refine⟨⟨k',rfl,by omega,?_,?_⟩,by omega⟩
  ·exact(hw3.act (L:=L) (p:=q3)).more (by omega)
  ·rw[decide_eq_true (by omega)];exact hr3
 ·rw[dX (by omega) (by omega)];obtain⟨k',rfl⟩:∃k',k3=k'+1:=⟨k3-1,by omega⟩
  rw[jJ,decide_eq_false (by omega),u' (by simp)]at hr3;simp only[bu'];refine⟨⟨k',rfl,by omega,hw3.more (by omega),?_⟩,by omega⟩;rw[decide_eq_false (by omega)];exact hr3
 have:k3=0:=by omega
 subst this;rw[jJ]at hr3
 refine⟨⟨0,rfl,by omega,?_,?_⟩,?_⟩
 ·exact hw3.more (by omega)
 ·rw[bf',hr3];rfl
 clear hw3 hr3 hfl3;rintro⟨i4,sp4,ls4,fl4,q4⟩ ⟨k4,hi4,hk4,hw4,hr4⟩;simp only at hi4 hw4 hr4 ⊢;subst hi4;simp only[Int.toNat_natCast];have hfl4:=hw4.2;simp only at hfl4
 refine⟨λd=>⟨kP (by omega) d,by omega,λx hx=>⟨⟨λe=>?_,λe=>?_⟩,?_⟩⟩,λd=>?_⟩
 ·rw[if_pos (eq_of_beq e)]
 ·rw[u' (by simpa using e)]
 ·have hk4':=aw hx;have hxe:(eu L p most).1[k4]=x:=by rw[E' hk4']at hx;exact ao' hx
  have hd:=ar' hk4';rw[hd,hxe,kF]at hr4;have hw5:=xZ (L:=L) (x:=x) (s:=(⟨sp4,ls4,fl4⟩,q4)) hw4;rw[ao (n:=(eu L p most).1.length) hk4' (by omega)]
  have fin:∀{o:Ovl} {q:Nat},kG L x (⟨sp4,ls4,fl4⟩,q4)=(o,q)→(∃k:Nat,((k4+1:Nat):Int)=k∧k≤(eu L p most).1.length∧NIB (cW L p most) ⟨o.sp,o.ls,o.fl⟩ 43320∧kF L ((eu L p most).1.drop k) (⟨o.sp,o.ls,o.fl⟩,q)=mT L p most) ∧
    (eu L p most).1.length-(((k4+1:Nat):Int)).toNat<(eu L p most).1.length-k4:=by
   intro o q e;rw[e]at hr4 hw5;exact⟨⟨k4+1,rfl,by omega,hw5.more (by omega),hr4⟩,by omega⟩
  rintro⟨b5,q5⟩ hb5;simp only at hb5 ⊢
  by_cases e1:(ofW ⟨x.now,x.list⟩).2=0
  ·rw[if_pos e1]at hb5;simp only[Prod.mk.injEq]at hb5;obtain⟨rfl,rfl⟩:=hb5
   refine⟨λe2=>⟨by omega,λe3=>fin ?_,λe3=>fin (o:=⟨sp4,ls4,fl4⟩) ?_⟩,λe2=>fin (o:=⟨sp4,ls4,fl4⟩) ?_⟩
   ·rw[kG,if_pos e1,if_pos (H' e2),orO,u' (not_not_intro (eq_of_beq e3))]
   ·rw[kG,if_pos e1,if_pos (H' e2),orO,if_pos (by simpa using e3)]
   ·rw[kG,if_pos e1,u' (ab' e2)]
  ·rw[u' e1]at hb5;simp only[Prod.mk.injEq]at hb5;obtain⟨rfl,rfl⟩:=hb5;refine⟨λe2=>by simp at e2,λe2=>fin (o:=⟨sp4,ls4,fl4⟩) ?_⟩;rw[kG,u' e1]
 have:k4=(eu L p most).1.length:=by omega
 subst this;rw[aI' (V' _),kF]at hr4;have hz:(⟨sp4,ls4,fl4⟩:Ovl)=(mT L p most).1:=congrArg Prod.fst hr4;have hq:q4=(mT L p most).2:=congrArg Prod.snd hr4;have z5:=Nr (L:=L) (p:=p) h;rw[←hz]at z5;have h6:=bt (x:=aj L q4) (n:=4) (by decide)
 refine⟨⟨(Mod (aj L q4) 4).toNat,by omega,by omega,z5.more (by omega),?_⟩,?_⟩
 ·rw[hz,hq];rfl
 rintro⟨c6,sp6,ls6,fl6,q6⟩ ⟨k6,hc6,hk6,hw6,hr6⟩;simp only at hc6 hw6 hr6 ⊢;subst hc6;have hfl6:=hw6.2;simp only at hfl6
 refine⟨λd=>⟨by omega,⟨by show fl6.length≤400000;omega,?_⟩,?_⟩,λd=>?_⟩
 ·have:=eE (L:=L) (n:=fl6.length) (p:=q6);omega
 ·rw[dX (by omega) (by omega)];obtain⟨k',rfl⟩:∃k',k6=k'+1:=⟨k6-1,by omega⟩
  rw[pm]at hr6;simp only[bu'];have hf:=eE (L:=L) (n:=fl6.length) (p:=q6);exact⟨⟨k',rfl,by omega,((hw6.round _).2).more (by omega),hr6⟩,by omega⟩
 ·have:k6=0:=by omega
  subst this;rw[pm]at hr6;rw[kl,←hr6]
def R4(L:List Int)(p:Nat)(most:Int)(h:1≤most∧most≤8):HC Tryz.prog:=hcO 9 [.k,.k] [.ref 0 0,.int most] [.box (.agg [.sl 1 (L.map AV.int) false,.int p])] (.a [(.s 2),(.s 5),.k,.k,(.s 2),(.s 3),(.s 5),(.s 3),(.s 10)]) zl zm ((⟨L,(kl L p most).2⟩:Tap),(kl L p most).1) (λ_ _=>let ⟨I0,m0,I1,m1,I2,m2,I3,m3,I4,m4,I5,I6,m6,h⟩:=R3 L p most h;⟨_,h,by kernel_rfl⟩) (by kernel_rfl) (by simp[hcB,bJ,AV.belB,allB,cF,bW,zl,zm,Scn.v,Tap.v,ae (v:=AV.int) (λ_=>rfl),ae (v:=Edg.v) (λ_=>rfl),ae (v:=Lnk.v) (λ_=>rfl),ae (v:=Lsn.v) (λ_=>rfl),ae (v:=Rtr.v) (λ_=>rfl),ae (v:=Sig.v) (λ_=>rfl),ae (v:=Sit.v) (λ_=>rfl),ae (v:=Spk.v) (λ_=>rfl)])
def LWB(R:List Int)(o:Ovl)(k:Int)(B:Nat):Prop:=(∃lw,LW R o k lw)∧o.fl.length≤B
theorem LWB.oi{R:List Int}{o:Ovl}{k:Int}{B:Nat}(h:LWB R o k B):OI R o:=by obtain⟨⟨lw,h⟩,_⟩:=h;exact h.oi
theorem LWB.or{R:List Int}{o:Ovl}{k:Int}{B:Nat}{x:Ovl×Int}(h:LWB R o k B)(hx:x.2=0→LWB R x.1 (k+1) B):LWB R (orO o x) (k+1) B:=by
 unfold orO
 by_cases e:x.2≠0
 ·rw[if_pos e];obtain⟨⟨lw,h⟩,hb⟩:=h;exact⟨⟨lw,h.more (by omega)⟩,hb⟩
 ·rw[u' e];exact hx (X'.mp e)
theorem LWB.more{R:List Int}{o:Ovl}{k k':Int}{B B':Nat}(h:LWB R o k B)(hk:k≤k')(hB:B≤B'):LWB R o k' B':=by
 obtain⟨⟨lw,h⟩,hb⟩:=h;exact⟨⟨lw,h.more hk⟩,by omega⟩
theorem LWB.change{R:List Int}{o:Ovl}{k:Int}{B:Nat}{r:Int}{w:List Wnt}(h:LWB R o k B)(hw:WOk 7 w)(hk:0≤k∧k≤1000)(q:(aS o r w).2=0):LWB R (aS o r w).1 (k+1) B:=by
 obtain⟨⟨lw,h⟩,hb⟩:=h;obtain⟨hr,c⟩:=qI h.oi q;exact⟨⟨_,(h.change hr hw hk).2⟩,by rw[c.fl];exact hb⟩
theorem LWB.restart{R:List Int}{o:Ovl}{k:Int}{B:Nat}{r:Int}{w:List Wnt}(h:LWB R o k B)(hw:WOk 7 w)(hk:0≤k∧k≤1000)(q:(aB o r w).2=0):LWB R (aB o r w).1 (k+1) B:=by
 obtain⟨⟨lw,h⟩,hb⟩:=h;obtain⟨hr,c⟩:=js h.oi q;exact⟨⟨_,(h.restart hr hw hk).2⟩,by rw[c.fl];exact hb⟩
theorem LWB.round{R:List Int}{o:Ovl}{k:Int}{B:Nat}(h:LWB R o k B)(f:List Fau):(roundO o f).2=0∧LWB R (roundO o f).1 k (B+f.length+14400):=by
 obtain⟨⟨lw,h⟩,hb⟩:=h;have:=(h.oi.roundO f).2.len;exact⟨(h.roundO f).1,⟨lw,(h.roundO f).2⟩,by omega⟩
theorem LWB.act{R:List Int}{o:Ovl}{k:Int}{B:Nat}{L:List Int}{p:Nat}(h:LWB R o k B)(hk:0≤k∧k≤1000):LWB R (gE L p o).1 (k+1) (B+14440):=by
 have h':LWB R o k (B+14440):=h.more (by omega) (by omega);unfold gE
 split
 ·exact h'.or λq=>h'.change (rn _ _) hk q
 split
 ·exact h'.or λq=>h'.restart (rn _ _) hk q
 split
 ·refine h'.or λq=>?_;have k':=(h.round (dU L (min o.fl.length 40) (ab L (ab L p))).1).2;have:=kX (L:=L) (n:=min o.fl.length 40) (p:=ab L (ab L p));exact k'.more (by omega) (by omega)
 ·refine h'.or λq=>?_;have k':=(h.round (bR L o.fl.length (ab L (ab L p))).1).2;have:=eE (L:=L) (n:=o.fl.length) (p:=ab L (ab L p));exact k'.more (by omega) (by omega)
theorem yC{R:List Int}{L:List Int}{b:Bool}:∀{n:Nat} {s:Ovl×Nat} {k:Int} {B:Nat},LWB R s.1 k B→0≤k→k+n≤1000→LWB R (jJ L b n s).1 (k+n) (B+14440 * n)
 | 0,s,k,B,h,h0,h1=>h.more (by omega) (by omega)
 | n+1,s,k,B,h,h0,h1=>by
  rw[jJ];have:LWB R (if b=true then gE L s.2 s.1 else s).1 (k+1) (B+14440):=by
   split
   ·exact h.act (by omega)
   ·exact h.more (by omega) (by omega)
  exact(yC (n:=n) this (by omega) (by omega)).more (by omega) (by omega)
theorem Lg{R:List Int}{L:List Int}{now:Int}{x:Sit}{s:Ovl×Nat}{k:Int}{B:Nat}(hx:iB now x)(h:LWB R s.1 k B)(hk:0≤k∧k≤1000):LWB R (kG L x s).1 (k+1) B:=by
 obtain⟨o1,o2⟩:=fT hx.err hx.grp;rw[kG,o1,if_pos rfl]
 split
 ·exact h.or λq=>h.change o2 hk q
 ·exact h.more (by omega) (by omega)
theorem xW{R:List Int}{L:List Int}{now:Int}:∀{l:List Sit} {s:Ovl×Nat} {k:Int} {B:Nat},(∀x∈l,iB now x)→LWB R s.1 k B→0≤k→k+l.length≤1000→LWB R (kF L l s).1 (k+l.length) B
 | [],s,k,B,_,h,h0,h1=>h.more (by simp) (by omega)
 | x::l,s,k,B,hl,h,h0,h1=>by
  simp only[Z']at h1 ⊢;rw[kF];exact(xW (l:=l) (λy hy=>hl y (by simp[hy])) (Lg (L:=L) (hl x (by simp)) h (by omega)) (by omega) (by omega)).more (by omega) (by omega)
theorem vH{R:List Int}{L:List Int}:∀{n:Nat} {s:Ovl×Nat} {k:Int} {B:Nat},LWB R s.1 k B→LWB R (pm L n s).1 k (B+14403 * n)
 | 0,s,k,B,h=>h.more (by omega) (by omega)
 | n+1,s,k,B,h=>by
  rw[pm];have h1:=(h.round (bR L s.1.fl.length s.2).1).2;have:=eE (L:=L) (n:=s.1.fl.length) (p:=s.2);exact(vH (n:=n) (s:=((roundO s.1 (bR L s.1.fl.length s.2).1).1,(bR L s.1.fl.length s.2).2)) h1).more (by omega) (by omega)
section
variable {L : List Int} {p : Nat} {most : Int}
theorem Nu(h:1≤most∧most≤8):LWB (cW L p most) (ez (cW L p most)).1 0 0:=by
 have hr:=(jU (L:=L) (p:=p) h).1;rw[ez,if_pos hr];exact⟨⟨_,LW.new hr⟩,by simp[eB]⟩
theorem Ns(h:1≤most∧most≤8):LWB (cW L p most) (tF L p most).1 3 43320:=by
 have z:=Nu (L:=L) (p:=p) h;have h4:=Se (aj L (eu L p most).2);unfold tF;generalize (ez (cW L p most)).1=o0 at z ⊢;generalize (Mod (aj L (eu L p most).2) 4).toNat=n at h4 ⊢;exact(yC (L:=L) (b:=decide (0<(cW L p most).length)) (n:=n) (s:=(o0,ab L (eu L p most).2)) z (by omega) (by omega)).more (by omega) (by omega)
theorem Nq(h:1≤most∧most≤8):LWB (cW L p most) (mT L p most).1 11 43320:=by
 have z:=Ns (L:=L) (p:=p) h;have hl:=pf (L:=L) (p:=p) h;have hs:=(oA (L:=L) (p:=p) h).1;unfold mT;generalize tF L p most=A at z ⊢;exact(xW (L:=L) hs z (by omega) (by omega)).more (by omega) (by omega)
theorem Nh(h:1≤most∧most≤8):LWB (cW L p most) (zj L p most).1 11 86529:=by
 have z:=Nq (L:=L) (p:=p) h;have h4:=Se (aj L (mT L p most).2);unfold zj;generalize mT L p most=C at z h4 ⊢;generalize (Mod (aj L C.2) 4).toNat=n at h4 ⊢;exact(vH (L:=L) (n:=n) (s:=(C.1,ab L C.2)) z).more (by omega) (by omega)
end
def fD(s:Scn):Ovl:=⟨s.sp,s.lsn,s.fl⟩
def Bx(s:Scn)(o:Ovl):Scn:=⟨s.rs,s.ls,s.sub,s.len,s.es,s.sites,o.sp,o.ls,o.fl⟩
def qV(x:Sit):List Wnt:=(ofW ⟨x.now,x.list⟩).1
def chgS(o:Ovl)(x:Sit):Ovl:=(aS o x.router (qV x)).1
def lO(s:Scn):Scn:=Bx s (rds (s.sites.foldl chgS (fD s)) 5)
structure ot (s:Scn):Prop where
  now:∃n,∀x∈s.sites,iB n x
  lwb:LWB (s.sites.map Sit.router) (fD s) 11 86529
  nd:(s.sites.map Sit.router).Nodup
  len:s.sites.length≤8
def mkScn(T:Tpl)(P:Pln)(S:List Sit)(o:Ovl):Scn:=⟨T.rs,T.ls,P.sub,P.len,P.es,S,o.sp,o.ls,o.fl⟩
theorem IB{T:Tpl}{P:Pln}{S:List Sit}{o:Ovl}{n:Int}{R:List Int}(h1:∀x∈S,iB n x)(h2:S.map Sit.router=R)(h3:LWB R o 11 86529)(h4:R.Pairwise (·<·))(h5:S.length≤8):ot (mkScn T P S o):=by
 subst h2;exact⟨⟨_,h1⟩,h3,h4.imp λq=>by omega,h5⟩
theorem zk{L:List Int}{p:Nat}{most:Int}(h:1≤most∧most≤8):ot (kl L p most).1:=by
 obtain⟨a,b⟩:=oA (L:=L) (p:=p) h;exact IB (T:=(bL L p most).1) (P:=(kM L p most).1) a b (Nh (L:=L) (p:=p) h) (jU (L:=L) (p:=p) h).1.2.2 (pf h)
theorem LWB.chgS{R:List Int}{o:Ovl}{k:Int}{B:Nat}{n:Int}{x:Sit}(h:LWB R o k B)(hx:iB n x)(hr:x.router∈R)(hk:0≤k∧k≤1000):LWB R (chgS o x) (k+1) B:=by
 obtain⟨o1,o2⟩:=fT hx.err hx.grp;have hw:WOk 7 (qV x):=by unfold qV;rw[o1];exact o2
 refine h.change hw hk ?_;obtain⟨⟨lw,h⟩,_⟩:=h;exact(h.change hr hw hk).1
theorem uI{R:List Int}{n:Int}:∀{l:List Sit} {o:Ovl} {k:Int} {lw:Int→List Wnt},LW R o k lw→(∀x∈l,iB n x∧x.router∈R)→(l.map Sit.router).Nodup→0≤k→k+l.length≤1000 →
  ∃lw',LW R (l.foldl chgS o) (k+l.length) lw'∧(∀x∈l,lw' x.router=qV x)∧∀r,r ∉ l.map Sit.router→lw' r=lw r
 | [],o,k,lw,h,_,_,_,_=>⟨lw,by simpa using h,by simp,λ_ _=>rfl⟩
 | x::l,o,k,lw,h,hl,hn,h0,h1=>by
  simp only[Z']at h1 ⊢;obtain⟨hx,hr⟩:=hl x (by simp);obtain⟨o1,o2⟩:=fT hx.err hx.grp;have hw:WOk 7 (qV x):=by unfold qV;rw[o1];exact o2
  rw[au',bq']at hn;obtain⟨lw',a,b,c⟩:=uI (l:=l) (h.change hr hw (by omega)).2 (λy hy=>hl y (by simp[hy])) hn.2 (by omega) (by omega)
  refine⟨lw',a.more (by omega),λy hy=>?_,λr hr'=>?_⟩
  ·rcases P'.mp hy with rfl|hy
   ·rw[c _ hn.1];unfold upW;rw[if_pos rfl]
   ·exact b y hy
  ·simp only[au',P',not_or]at hr';rw[c r hr'.2];unfold upW;rw[u' hr'.1]
theorem MX{s:Scn}(h:ot s):OI (s.sites.map Sit.router) (fD (lO s))∧(fD (lO s)).fl.length≤158529∧∀a∈s.sites,∀x∈s.sites,bX (fD (lO s)) a.router x.router=(qV x,0):=by
 obtain⟨n,hn⟩:=h.now;obtain⟨lw,h1⟩:=h.lwb.1;have hm:∀x∈s.sites,x.router∈s.sites.map Sit.router:=λx hx=>aT' hx;obtain⟨lw',a,b,c⟩:=uI (l:=s.sites) h1 (λx hx=>⟨hn x hx,hm x hx⟩) h.nd (by omega) (by have:=h.len;omega);have e:fD (lO s)=rds (s.sites.foldl chgS (fD s)) 5:=rfl;rw[e];have r5:=tM a 5;have q5:=rQ a.oi;have hb:∀(l:List Sit) (o:Ovl),(∀x∈l,iB n x∧x.router∈s.sites.map Sit.router)→∀k:Int,0≤k→k+l.length≤1000→LWB (s.sites.map Sit.router) o k 86529→(l.foldl chgS o).fl.length≤86529:=by
  intro l
  induction l with
  | nil=>intro o _ k _ _ h;exact h.2
  | cons x l ih =>
   intro o hl k h0 h2 h;simp only[Z']at h2;exact ih (chgS o x) (λy hy=>hl y (by simp[hy])) (k+1) (by omega) (by omega) (h.chgS (hl x (by simp)).1 (hl x (by simp)).2 (by omega))
 have f5:=(tL a.oi 5).2;have f0:=hb s.sites (fD s) (λx hx=>⟨hn x hx,hm x hx⟩) 11 (by omega) (by have:=h.len;omega) h.lwb;refine⟨r5.oi,by omega,λy hy x hx=>?_⟩;rw[kD r5.oi q5.2.1 (hm x hx) (hm y hy)];have:=r5.wa x.router (hm x hx);rw[b x hx]at this;exact congrArg (·,0) this
def Hu(s:Scn)(t0:Int×Scn):NF:=⟨[rR 1 0,rR 2 1,(9,.k,.sl 3 (s.sites.map Sit.v) false),rI 10 ((s.sites.map Sit.v).length:Int),rI 11 t0.1],[.box (Scn.v t0.2),.box (.agg [.sl 0 [] true,.sl 0 [] true,.int 0,.int 0,.sl 0 [] true,.sl 0 [] true,.sl 0 [] true,.sl 0 [] true,.sl 0 [] true])]⟩
def Ht(t1:Int×Scn):NF:=⟨[rR 1 0,rR 2 1,rI 7 t1.1],[.box (Scn.v t1.2),.box (.agg [.sl 0 [] true,.sl 0 [] true,.int 0,.int 0,.sl 0 [] true,.sl 0 [] true,.sl 0 [] true,.sl 0 [] true,.sl 0 [] true])]⟩
@[reducible] def Cb:Nat→Type
 | 0=>Int×Scn
 | 1=>Int×Scn
 | _=>Unit
def Cc(r:Scn):AV:=Scn.v r
def Ca(s:Scn)(I0:(Int×Scn)→Prop)(m0:(Int×Scn)→Nat)(I1:Int×Scn→(Int×Scn)→Prop)(m1:Int×Scn→(Int×Scn)→Nat):Ax Tryz.prog Cb (Scn):=
 (.loop 0 (Hu s) I0 m0 (0,s) [0,16] λ(t0:Int×Scn) b0 =>
(.br 18 (decide (t0.1<((s.sites.map Sit.v).length:Int))) (.elI 18 Sit.v s.sites t0.1 λx1 =>
(.callP (Ik (⟨x1.now,x1.list⟩:aJ))
(.req 290 ((⟨t0.2.sp,t0.2.lsn,t0.2.fl⟩:Ovl).fl.length≤1000000) λh2 =>
(.callP (uL (⟨t0.2.sp,t0.2.lsn,t0.2.fl⟩:Ovl) x1.router ((ofW (⟨x1.now,x1.list⟩:aJ)).1) h2)
(.bk 0 b0 (W (t0.1+1),(⟨t0.2.rs,t0.2.ls,t0.2.sub,t0.2.len,t0.2.es,t0.2.sites,((aS (⟨t0.2.sp,t0.2.lsn,t0.2.fl⟩:Ovl) x1.router ((ofW (⟨x1.now,x1.list⟩:aJ)).1)).1).sp,((aS (⟨t0.2.sp,t0.2.lsn,t0.2.fl⟩:Ovl) x1.router ((ofW (⟨x1.now,x1.list⟩:aJ)).1)).1).ls,((aS (⟨t0.2.sp,t0.2.lsn,t0.2.fl⟩:Ovl) x1.router ((ofW (⟨x1.now,x1.list⟩:aJ)).1)).1).fl⟩:Scn)) [0,1])))))
(.loop 1 (Ht) (I1 t0) (m1 t0) (0,t0.2) [0,1] λ(t1:Int×Scn) b1 =>
(.br 34 (decide (t1.1<5)) (.req 66 (pB (⟨t1.2.sp,t1.2.lsn,t1.2.fl⟩:Ovl) []) λh3 =>
(.callP (lU (⟨t1.2.sp,t1.2.lsn,t1.2.fl⟩:Ovl) [] h3)
(.bk 1 b1 (W (t1.1+1),(⟨t1.2.rs,t1.2.ls,t1.2.sub,t1.2.len,t1.2.es,t1.2.sites,((roundO (⟨t1.2.sp,t1.2.lsn,t1.2.fl⟩:Ovl) []).1).sp,((roundO (⟨t1.2.sp,t1.2.lsn,t1.2.fl⟩:Ovl) []).1).ls,((roundO (⟨t1.2.sp,t1.2.lsn,t1.2.fl⟩:Ovl) []).1).fl⟩:Scn)) [0,1])))
(.ret (t1.2))))))
theorem MZ(s:Scn)(h:ot s):∃I0 m0 I1 m1,(Ca s I0 m0 I1 m1).vp Cc (lO s):=by
 refine⟨λt=>∃k:Nat,t.1=k∧k≤s.sites.length∧t.2=Bx s ((s.sites.take k).foldl chgS (fD s))∧LWB (s.sites.map Sit.router) ((s.sites.take k).foldl chgS (fD s)) (11+k) 86529,λt=>s.sites.length-t.1.toNat,
  λ_ t=>∃k:Nat,t.1=k∧k≤5∧t.2=Bx s (rds (s.sites.foldl chgS (fD s)) k),λ_ t=>5-t.1.toNat,?_⟩
 dsimp only[Ca,Cb,Ax.vp,Ax.vc];simp only[vcU,rfU,f'];obtain⟨n,hn⟩:=h.now;have hlen:=h.len;refine⟨⟨0,rfl,by omega,rfl,h.lwb.more (by omega) (by omega)⟩,?_⟩;rintro⟨i,z⟩ ⟨k,hi,hk,rfl,hw⟩;simp only at hi ⊢;subst hi;simp only[Int.toNat_natCast];have hfl:=hw.2
 refine⟨λc=>⟨by omega,c,λx hx=>⟨by show((s.sites.take k).foldl chgS (fD s)).fl.length≤1000000;omega,?_⟩⟩,λc=>?_⟩
 ·have hk':=aw hx;rw[ao (n:=s.sites.length) hk' (by omega)];have e:(s.sites.take (k+1)).foldl chgS (fD s)=chgS ((s.sites.take k).foldl chgS (fD s)) x:=by rw[al hx,aW'];rfl
  refine⟨⟨k+1,rfl,by omega,?_,?_⟩,by omega⟩
  ·rw[e];rfl
  ·rw[e];exact(hw.chgS (hn x (aq hx)) (aT' (aq hx)) (by omega)).more (by omega) (by omega)
 have:k=s.sites.length:=by omega
 subst this;rw[G' (V' _)]at hw hfl ⊢;refine⟨⟨0,rfl,by omega,rfl⟩,?_⟩;rintro⟨j,z⟩ ⟨k2,hj,hk2,rfl⟩;simp only at hj ⊢;subst hj;simp only[Int.toNat_natCast];obtain⟨o1,o2⟩:=tL hw.oi k2
 refine⟨λc=>⟨⟨?_,by simp⟩,?_⟩,λc=>?_⟩
 ·show(rds (s.sites.foldl chgS (fD s)) k2).fl.length≤400000;have:k2 * 14400≤5 * 14400:=ae' _ hk2;omega
 ·rw[ao (n:=5) (by omega) (by omega)];refine⟨⟨k2+1,rfl,by omega,?_⟩,by omega⟩;have e:roundO (rds (s.sites.foldl chgS (fD s)) k2) []=(rds (s.sites.foldl chgS (fD s)) (k2+1),0):=o1.roundO_nil;show Bx s (roundO (rds (s.sites.foldl chgS (fD s)) k2) []).1=_;rw[e]
 ·have:k2=5:=by omega
  subst this;rfl
def Na(s:Scn)(h:ot s):PC Tryz.prog:=pcO 18 [(.a [(.s 2),(.s 5),.k,.k,(.s 2),(.s 3),(.s 5),(.s 3),(.s 10)])] [Scn.v s] (.a [(.s 2),(.s 5),.k,.k,(.s 2),(.s 3),(.s 5),(.s 3),(.s 10)]) Cc (lO s) (λ_=>let ⟨I0,m0,I1,m1,h⟩:=MZ s h;⟨_,h,by kernel_rfl⟩) rfl (by kernel_rfl)
def pF(x:Sit):aJ:=⟨x.now,x.list⟩
def dA(x:Sit):Int:=if x.router<1∨99<x.router then 2 else ba (pF x)
def MR(s:Sit)(t0:Bool):NF:=⟨[rR 1 0,rB 10 t0],[.box (Sit.v s)]⟩
@[reducible] def Hj:Nat→Type
 | 0=>Bool
 | _=>Unit
def Hk(r:Int):AV:=.int r
def Hi(s:Sit)(I0:Bool→Prop):Ax Tryz.prog Hj (Int):=
 (.pass (.pass (.join 0 (MR s) (λ(t0:Bool)=>I0 t0) (λb0=>(.br 96 (decide (s.router<1)) (.bk 0 b0 ((true):Bool) [0])
(.bk 0 b0 ((decide (99<s.router)):Bool) [0]))) λ(t0:Bool) =>
(.br 1 t0 (.ret (2))
(.callP (zO (⟨s.now,s.list⟩:aJ))
(.ret (ba (⟨s.now,s.list⟩:aJ))))))))
theorem Rz(s:Sit):∃I,(Hi s I).vp Hk (dA s):=by
 refine⟨λb=>b=decide (s.router<1∨99<s.router),?_⟩;dsimp only[Hi,Hj,Ax.vp,Ax.vc];simp only[vcU,rfU,f']
 refine⟨⟨λc=>?_,λc=>?_⟩,?_⟩
 ·simp[c]
 ·rw[decide_eq_decide];omega
 rintro _ rfl
 refine⟨λc=>?_,λc=>?_⟩
 ·rw[dA,if_pos (H' c)]
 ·rw[dA,u' (ab' c)];rfl
def zh(s:Sit):PC Tryz.prog:=pcO 48 [(.a [.k,.k,(.s 5)])] [Sit.v s] .k Hk (dA s) (λ_=>let ⟨I0,h⟩:=Rz s;⟨_,h,by kernel_rfl⟩) rfl (by kernel_rfl)
def yB(o:Ovl)(s:Sit):Ovl×Int:=
 if dA s≠0 then(⟨[],[],[]⟩,dA s)else if(ofW (pF s)).2≠0 then(⟨[],[],[]⟩,(ofW (pF s)).2)else aS o s.router (ofW (pF s)).1
def LL(r:Ovl×Int):AV:=.tup [Ovl.v r.1,.int r.2]
def Bq(o:Ovl)(s:Sit):Ax Tryz.prog noS (Ovl×Int):=
 (.callP (zh s)
(.br 144 ((dA s) != 0) (.ret ((⟨[],[],[]⟩:Ovl),dA s))
(.callP (Q6 (⟨s.now,s.list⟩:aJ))
(.br 304 (((ofW (⟨s.now,s.list⟩:aJ)).2) != 0) (.ret ((⟨[],[],[]⟩:Ovl),(ofW (⟨s.now,s.list⟩:aJ)).2))
(.req 368 (o.fl.length≤1000000) λh1 =>
(.callP (Pv o s.router ((ofW (⟨s.now,s.list⟩:aJ)).1) h1)
(.ret ((aS o s.router ((ofW (⟨s.now,s.list⟩:aJ)).1)).1,(aS o s.router ((ofW (⟨s.now,s.list⟩:aJ)).1)).2))))))))
theorem T6(o:Ovl)(s:Sit)(h:o.fl.length≤1000000):(Bq o s).vp LL (yB o s):=by
 dsimp only[Bq,noS,Ax.vp,Ax.vc];simp only[vcU,rfU,f'];unfold yB pF
 refine⟨λc=>?_,λc=>⟨λd=>?_,λd=>⟨h,?_⟩⟩⟩
 ·rw[if_pos (by simpa using c)]
 ·rw[u' (by simpa using c),if_pos (by simpa using d)]
 ·rw[u' (by simpa using c),u' (by simpa using d)]
def T7(o:Ovl)(s:Sit)(h:o.fl.length≤1000000):PC Tryz.prog:=pcO 10 [(.a [(.s 5),(.s 3),(.s 10)]),(.a [.k,.k,(.s 5)])] [Ovl.v o,Sit.v s] (.a [(.a [(.s 5),(.s 3),(.s 10)]),.k]) LL (yB o s) (λ_=>⟨(Bq o s),T6 o s h,by kernel_rfl⟩) rfl (by kernel_rfl)
def pk(o:Ovl)(s:Sit):Ovl×Sit×Int:=
 if dA s≠0 then(⟨[],[],[]⟩,⟨0,0,[]⟩,dA s)else if(aB o s.router []).2≠0 then(⟨[],[],[]⟩,⟨0,0,[]⟩,(aB o s.router []).2)else((aB o s.router []).1,⟨s.router,s.now,[]⟩,0)
def H8(r:Ovl×Sit×Int):AV:=.tup [Ovl.v r.1,Sit.v r.2.1,.int r.2.2]
def zr(o:Ovl)(s:Sit):Ax Tryz.prog noS (Ovl×Sit×Int):=
 (.callP (zh s)
(.br 160 ((dA s) != 0) (.ret ((⟨[],[],[]⟩:Ovl),(⟨0,0,[]⟩:Sit),dA s))
(.req 208 (o.fl.length≤1000000) λh1 =>
(.callP (N2 o s.router [] h1)
(.br 352 (((aB o s.router []).2) != 0) (.ret ((⟨[],[],[]⟩:Ovl),(⟨0,0,[]⟩:Sit),(aB o s.router []).2))
(.ret ((aB o s.router []).1,(⟨s.router,s.now,[]⟩:Sit),0)))))))
theorem R6(o:Ovl)(s:Sit)(h:o.fl.length≤1000000):(zr o s).vp H8 (pk o s):=by
 dsimp only[zr,noS,Ax.vp,Ax.vc];simp only[vcU,rfU,f'];unfold pk
 refine⟨λc=>?_,λc=>⟨h,λd=>?_,λd=>?_⟩⟩
 ·rw[if_pos (by simpa using c)]
 ·rw[u' (by simpa using c),if_pos (by simpa using d)]
 ·rw[u' (by simpa using c),u' (by simpa using d)]
def R7(o:Ovl)(s:Sit)(h:o.fl.length≤1000000):PC Tryz.prog:=pcO 20 [(.a [(.s 5),(.s 3),(.s 10)]),(.a [.k,.k,(.s 5)])] [Ovl.v o,Sit.v s] (.a [(.a [(.s 5),(.s 3),(.s 10)]),(.a [.k,.k,(.s 5)]),.k]) H8 (pk o s) (λ_=>⟨(zr o s),R6 o s h,by kernel_rfl⟩) rfl (by kernel_rfl)
def ov(o:Ovl)(s:Sit):Bool:=decide (orI [dA s,(bX o s.router s.router).2,(ofW (pF s)).2]=0) && decide ((bX o s.router s.router).1=(ofW (pF s)).1)
def GX(r:Bool):AV:=.bool r
def yV(o:Ovl)(s:Sit):Ax Tryz.prog noS (Bool):=
 (.callP (OB o s.router s.router)
(.callP (Q6 (⟨s.now,s.list⟩:aJ))
(.callP (zh s)
(.callP (vZ [dA s,(bX o s.router s.router).2,(ofW (⟨s.now,s.list⟩:aJ)).2])
(.br 480 ((orI [dA s,(bX o s.router s.router).2,(ofW (⟨s.now,s.list⟩:aJ)).2])==0) (.callP (Rw ((bX o s.router s.router).1) ((ofW (⟨s.now,s.list⟩:aJ)).1))
(.ret (decide (((bX o s.router s.router).1)=((ofW (⟨s.now,s.list⟩:aJ)).1)))))
(.ret (false)))))))
theorem Rn(o:Ovl)(s:Sit):(yV o s).vp GX (ov o s):=by
 dsimp only[yV,noS,Ax.vp,Ax.vc];simp only[vcU,rfU,f'];unfold ov pF
 refine⟨λc=>?_,λc=>?_⟩
 ·rw[decide_eq_true (eq_of_beq c)];rfl
 ·rw[decide_eq_false (by simpa using c)];rfl
def tu(o:Ovl)(s:Sit):PC Tryz.prog:=pcO 11 [(.a [(.s 5),(.s 3),(.s 10)]),(.a [.k,.k,(.s 5)])] [Ovl.v o,Sit.v s] .k GX (ov o s) (λ_=>⟨(yV o s),Rn o s,by kernel_rfl⟩) rfl (by kernel_rfl)
def DS(r:Bool):AV:=.bool r
def uN:Ax Tryz.prog noS (Bool):=
 (.req 32 ([1,2].length≤1000) λh1 =>
(.callP (CJ [1,2] h1)
(.callP (tu ((ez [1,2]).1) (⟨2,0,[]⟩:Sit))
(.callP ((tu ((ez [1,2]).1) (⟨2,0,[(⟨3,4,2,[],9⟩:Mem)]⟩:Sit)).wsh [.a [(.s 5),(.s 3),(.s 10)],.a [.k,.k,.v (.a [.k,.k,.k,(.s 1),.k])]])
(.req 448 (((ez [1,2]).1).fl.length≤1000000) λh2 =>
(.callP ((T7 ((ez [1,2]).1) (⟨2,0,[(⟨3,4,2,[],9⟩:Mem)]⟩:Sit) h2).wsh [.a [(.s 5),(.s 3),(.s 10)],.a [.k,.k,.v (.a [.k,.k,.k,(.s 1),.k])]])
(.br 592 (((ez [1,2]).2)==0) (.br 656 (((yB ((ez [1,2]).1) (⟨2,0,[(⟨3,4,2,[],9⟩:Mem)]⟩:Sit)).2)==0) (.br 704 (ov ((ez [1,2]).1) (⟨2,0,[]⟩:Sit)) (.br 768 (!(ov ((ez [1,2]).1) (⟨2,0,[(⟨3,4,2,[],9⟩:Mem)]⟩:Sit))) (.callP ((tu ((yB ((ez [1,2]).1) (⟨2,0,[(⟨3,4,2,[],9⟩:Mem)]⟩:Sit)).1) (⟨2,0,[(⟨3,4,2,[],9⟩:Mem)]⟩:Sit)).wsh [.a [(.s 5),(.s 3),(.s 10)],.a [.k,.k,.v (.a [.k,.k,.k,(.s 1),.k])]])
(.ret (ov ((yB ((ez [1,2]).1) (⟨2,0,[(⟨3,4,2,[],9⟩:Mem)]⟩:Sit)).1) (⟨2,0,[(⟨3,4,2,[],9⟩:Mem)]⟩:Sit))))
(.ret (false)))
(.ret (false)))
(.ret (false)))
(.ret (false)))))))))
def sA38:Sit:=⟨2,0,[]⟩
def H5:Sit:=⟨2,0,[⟨3,4,2,[],9⟩]⟩
theorem DU:(ez [1,2]).2=0∧(ez [1,2]).1.fl.length≤1000000:=by decide +kernel
theorem PA:(yB (ez [1,2]).1 H5).2=0:=by decide +kernel
theorem P9:ov (ez [1,2]).1 sA38=true:=by decide +kernel
theorem P8:ov (ez [1,2]).1 H5=false:=by decide +kernel
theorem P7:ov (yB (ez [1,2]).1 H5).1 H5=true:=by decide +kernel
theorem P6:uN.vp DS true:=by
 dsimp only[uN,noS,Ax.vp,Ax.vc];simp only[vcU,rfU,f'];have e3:=P9;have e4:=P8;have e5:=P7;have e2:=PA;unfold sA38 H5 at *
 rw[DU.1,e2,e3,e4,e5]
 refine⟨?_,DU.2,?_⟩
 ·first|decide|simp|exact trivial
 ·simp
def DT:PC Tryz.prog:=pcO 17 [] [] .k DS true (λ_=>⟨(uN),P6,by kernel_rfl⟩) rfl (by kernel_rfl)
theorem LW.router{R:List Int}{o:Ovl}{k:Int}{lw:Int→List Wnt}{r:Int}(h:LW R o k lw)(hr:r∈R):1≤r∧r≤99:=by
 obtain⟨q1,q2⟩:=h.oi.net.s hr;obtain⟨k1,k2⟩:=h.oi.net.spo _ q1;have:=k1.1;rw[q2]at this;exact this
theorem BT{R:List Int}{o:Ovl}{k:Int}{lw:Int→List Wnt}{n:Int}{x:Sit}(h:LW R o k lw)(hx:iB n x)(hr:x.router∈R):dA x=0∧(ofW (pF x)).2=0:=by
 have:=h.router hr;exact⟨by rw[dA,u' (by omega)];exact hx.err,by have:=(fT hx.err hx.grp).1;show(ofW ⟨x.now,x.list⟩).2=0;rw[this]⟩
theorem MY{s:Scn}(h:ot s):∃lw,LW (s.sites.map Sit.router) (fD (lO s)) (11+s.sites.length) lw∧∀x∈s.sites,lw x.router=qV x:=by
 obtain⟨n,hn⟩:=h.now;obtain⟨lw,h1⟩:=h.lwb.1;obtain⟨lw',a,b,c⟩:=uI (l:=s.sites) h1 (λx hx=>⟨hn x hx,aT' hx⟩) h.nd (by omega) (by have:=h.len;omega);exact⟨lw',tM a 5,b⟩
def jl(x:Sit):Sit:=⟨x.router,x.now,[]⟩
theorem R5{R:List Int}{o:Ovl}{k:Int}{lw:Int→List Wnt}{n:Int}{x:Sit}(h:LW R o k lw)(hx:iB n x)(hr:x.router∈R)(hk:0≤k∧k≤900) :
  pk o x=((aB o x.router []).1,jl x,0)∧LW R (aB o x.router []).1 (k+1) (upW lw x.router [])∧ov (aB o x.router []).1 (jl x)=true ∧
   (∀z∈R,bX (aB o x.router []).1 x.router z=([],0))∧(aB o x.router []).1.fl=o.fl:=by
 have hw:WOk 7 []:=⟨λw hw=>by simp at hw,λw hw=>by simp at hw,λw hw=>by simp at hw,List.Pairwise.nil,by simp⟩
 obtain⟨c1,c2⟩:=h.restart hr hw (by omega);obtain⟨_,d⟩:=js h.oi c1;obtain⟨e1,e2⟩:=BT h hx hr;have hn:=(cR hx.err).1;have h0:iB n (jl x):=⟨hx.now_,si hn (by simp[jl]) (by simp[jl]) (by simp[jl]) (by simp[jl]) (by simp[jl]),by simp[jl]⟩
 have hr0:(jl x).router∈R:=hr;obtain⟨f1,f2⟩:=BT c2 h0 hr0;have f3:(ofW (pF (jl x))).1=[]:=by
  have h9:ofW (pF (jl x))=_:=(fT h0.err h0.grp).1;rw[h9];show(bw _).map _=[]
  have:bw ⟨(jl x).now,(jl x).list⟩=[]:=by unfold bw;split<;>simp[jl]
  rw[this];rfl
 have hkn:∀z∈R,bX (aB o x.router []).1 x.router z=([],0):=λz hz=>by
  unfold bX;rw[u' (not_not_intro c2.oi.ok),c2.oi.rt,u' (by simp[hr,hz])]
  by_cases e:x.router=z
  ·rw[if_pos e];have:=c2.wa z hz;subst e;rw[show upW lw x.router [] x.router=[]from by unfold upW;rw[if_pos rfl]]at this;exact congrArg (·,0) this
  ·rw[u' e,d.lr];have:dq ⟨x.router,le o x.router+1,[]⟩ z=[]:=by
    unfold dq;rw[u'];rintro⟨_,q⟩;have:=q.1;simp at this
   rw[this]
 refine⟨?_,c2,?_,hkn,d.fl⟩
 ·rw[pk,u' (not_not_intro e1),u' (not_not_intro c1)];rfl
 ·unfold ov;have:=hkn x.router hr;rw[f1,f2,f3,show(jl x).router=x.router from rfl,this];simp[orI]
def NG(t0:Tap):NF:=⟨[rR 3 0],[.box (Tap.v t0)]⟩
def NE(t0:Tap)(t1:Scn):NF:=⟨[rR 3 0,rR 4 1],[.box (.agg [.sl 1 (t0.L.map AV.int) false,.int ((((kl t0.L t0.p 5).2):Nat):Int)]),.box (Scn.v t1)]⟩
def ND(t1:Scn)(x3:Sit)(t2:Int×Ovl×Sit):NF:=⟨[rR 4 0,rR 5 1,rR 6 2,rR 7 3,rI 8 t2.1],[.box (Scn.v t1),.box (Sit.v x3),.box (Ovl.v t2.2.1),.box (Sit.v t2.2.2)]⟩
def NC(t1:Scn)(x3:Sit)(t2:Int×Ovl×Sit)(t3:Bool):NF:=⟨[rR 4 0,rR 5 1,rR 6 2,rB 68 t3],[.box (Scn.v t1),.box (Sit.v x3),.box (Ovl.v t2.2.1)]⟩
def NB(t1:Scn)(x3:Sit)(t2:Int×Ovl×Sit)(t4:Int×Int):NF:=⟨[rR 4 0,rR 5 1,rR 6 2,(70,.k,.sl 3 (t1.sites.map Sit.v) false),rI 71 t4.1,rI 72 t4.2],[.box (Scn.v t1),.box (Sit.v x3),.box (Ovl.v t2.2.1)]⟩
def NA(t1:Scn)(x3:Sit)(t2:Int×Ovl×Sit)(t4:Int×Int)(t5:List Wnt×Int):NF:=⟨[rR 4 0,rR 5 1,rR 6 2,(11,(.s 3),.sl 3 (t5.1.map Wnt.v) false),rI 12 t5.2,(70,.k,.sl 3 (t1.sites.map Sit.v) false),rI 71 t4.1,rI 72 t4.2],[.box (Scn.v t1),.box (Sit.v x3),.box (Ovl.v t2.2.1)]⟩
def N9(t1:Scn)(x3:Sit)(t2:Int×Ovl×Sit)(t4:Int×Int)(t6:Bool):NF:=⟨[rR 4 0,rR 5 1,rR 6 2,(70,.k,.sl 3 (t1.sites.map Sit.v) false),rI 71 t4.1,rI 72 t4.2,rB 91 t6],[.box (Scn.v t1),.box (Sit.v x3),.box (Ovl.v t2.2.1)]⟩
def N8(t1:Scn)(x3:Sit)(t7:Int×Ovl):NF:=⟨[rR 4 0,rR 5 1,rR 6 2,rI 13 t7.1],[.box (Scn.v t1),.box (Sit.v x3),.box (Ovl.v t7.2)]⟩
def N7(t1:Scn)(x3:Sit)(t7:Int×Ovl)(t8:Int×Int):NF:=⟨[rR 5 0,rR 6 1,(103,.k,.sl 3 (t1.sites.map Sit.v) false),rI 104 t8.1,rI 105 t8.2],[.box (Sit.v x3),.box (Ovl.v t7.2)]⟩
def N6(t1:Scn)(x3:Sit)(t7:Int×Ovl)(t8:Int×Int)(x7:Sit)(t9:List Wnt×Int):NF:=⟨[rR 5 0,rR 6 1,rR 15 2,(16,(.s 3),.sl 3 (t9.1.map Wnt.v) false),rI 17 t9.2,(103,.k,.sl 3 (t1.sites.map Sit.v) false),rI 104 t8.1,rI 105 t8.2],[.box (Sit.v x3),.box (Ovl.v t7.2),.box (Sit.v x7)]⟩
def HH(t1:Scn)(x3:Sit)(t7:Int×Ovl)(t8:Int×Int)(x7:Sit)(t9:List Wnt×Int)(t10:List Wnt×Int):NF:=⟨[rR 5 0,rR 6 1,rR 15 2,(16,.k,.sl 3 (t9.1.map Wnt.v) false),rI 17 t9.2,(18,(.s 3),.sl 3 (t10.1.map Wnt.v) false),rI 19 t10.2,(103,.k,.sl 3 (t1.sites.map Sit.v) false),rI 104 t8.1,rI 105 t8.2],[.box (Sit.v x3),.box (Ovl.v t7.2),.box (Sit.v x7)]⟩
def HG(t1:Scn)(x3:Sit)(t7:Int×Ovl)(t8:Int×Int)(t11:Bool):NF:=⟨[rR 5 0,rR 6 1,(103,.k,.sl 3 (t1.sites.map Sit.v) false),rI 104 t8.1,rI 105 t8.2,rB 142 t11],[.box (Sit.v x3),.box (Ovl.v t7.2)]⟩
@[reducible] def HF:Nat→Type
 | 0=>Tap
 | 1=>Scn
 | 2=>Int×Ovl×Sit
 | 3=>Bool
 | 4=>Int×Int
 | 5=>(List Wnt)×Int
 | 6=>Bool
 | 7=>Int×Ovl
 | 8=>Int×Int
 | 9=>(List Wnt)×Int
 | 10=>(List Wnt)×Int
 | 11=>Bool
 | _=>Unit
def HI(r:Bool):AV:=.bool r
def HE(t:List Int)(I3:Tap→Scn→Sit→Int×Ovl×Sit→Bool→Prop)(I4:Tap→Scn→Sit→Int×Ovl×Sit→Bool→(Int×Int)→Prop)(m4:Tap→Scn→Sit→Int×Ovl×Sit→Bool→(Int×Int)→Nat)(I6:Tap→Scn→Sit→Int×Ovl×Sit→Bool→Int×Int→Sit→(List Wnt)×Int→Bool→Prop)(I7:Tap→Scn→Sit→Int×Ovl×Sit→Bool→Int×Int→(Int×Ovl)→Prop)(m7:Tap→Scn→Sit→Int×Ovl×Sit→Bool→Int×Int→(Int×Ovl)→Nat)(I8:Tap→Scn→Sit→Int×Ovl×Sit→Bool→Int×Int→Int×Ovl→(Int×Int)→Prop)(m8:Tap→Scn→Sit→Int×Ovl×Sit→Bool→Int×Int→Int×Ovl→(Int×Int)→Nat)(I11:Tap→Scn→Sit→Int×Ovl×Sit→Bool→Int×Int→Int×Ovl→Int×Int→Sit→(List Wnt)×Int→(List Wnt)×Int→Bool→Prop):Ax Tryz.prog HF (Bool):=
 (.pass (.join 0 (NG) (λ(t0:Tap)=>t0=(((⟨t.take 2000,0⟩:Tap)):Tap)) (λb0=>(.callH [] (New_h t) 32
(.bk 0 b0 (((⟨t.take 2000,0⟩:Tap)):Tap) [32]))) λ(t0:Tap) =>
(.join 1 (NE t0) (λ(t1:Scn)=>t1=((lO ((kl t0.L t0.p 5).1)):Scn)) (λb1=>(.req 17 (1≤5∧5≤8) λh1 =>
(.callH [0] (R4 t0.L t0.p 5 h1) 17
(.req 33 (ot ((kl t0.L t0.p 5).1)) λh2 =>
(.callP (Na ((kl t0.L t0.p 5).1) h2)
(.bk 1 b1 ((lO ((kl t0.L t0.p 5).1)):Scn) [0,49])))))) λ(t1:Scn) =>
(.br 66 (((t1.sites.map Sit.v).length:Int)==0) (.callP (DT )
(.ret (true)))
(.callH [0] (N_h t0.L ((kl t0.L t0.p 5).2) ((t1.sites.map Sit.v).length:Int)) 162
(.elI 178 Sit.v t1.sites (Mod (aj t0.L ((kl t0.L t0.p 5).2)) ((t1.sites.map Sit.v).length:Int)) λx3 =>
(.join 2 (ND t1 x3) (λ(t2:Int×Ovl×Sit)=>t2=(((pk (⟨t1.sp,t1.lsn,t1.fl⟩:Ovl) x3).2.2,(pk (⟨t1.sp,t1.lsn,t1.fl⟩:Ovl) x3).1,(pk (⟨t1.sp,t1.lsn,t1.fl⟩:Ovl) x3).2.1):Int×Ovl×Sit)) (λb2=>(.req 290 ((⟨t1.sp,t1.lsn,t1.fl⟩:Ovl).fl.length≤1000000) λh4 =>
(.callP (R7 (⟨t1.sp,t1.lsn,t1.fl⟩:Ovl) x3 h4)
(.bk 2 b2 ((pk (⟨t1.sp,t1.lsn,t1.fl⟩:Ovl) x3).2.2,(pk (⟨t1.sp,t1.lsn,t1.fl⟩:Ovl) x3).1,(pk (⟨t1.sp,t1.lsn,t1.fl⟩:Ovl) x3).2.1) [1,210,370,386])))) λ(t2:Int×Ovl×Sit) =>
(.pass (.join 3 (NC t1 x3 t2) (λ(t3:Bool)=>I3 t0 t1 x3 t2 t3) (λb3=>(.br 52 (t2.1 != 0) (.bk 3 b3 ((true):Bool) [0,1,2])
(.br 164 (decide (0<((t2.2.2.list.map Mem.v).length:Int))) (.bk 3 b3 ((true):Bool) [0,1,2])
(.br 276 (t2.2.2.router != x3.router) (.bk 3 b3 ((true):Bool) [0,1,2])
(.callP (tu t2.2.1 t2.2.2)
(.bk 3 b3 ((!(ov t2.2.1 t2.2.2)):Bool) [0,1,2])))))) λ(t3:Bool) =>
(.br 3 t3 (.ret (false))
(.loop 4 (NB t1 x3 t2) (I4 t0 t1 x3 t2 t3) (m4 t0 t1 x3 t2 t3) (((t1.sites.map Sit.v).length:Int),0) [0,1,2] λ(t4:Int×Int) b4 =>
(.br 19 (decide (t4.2<t4.1)) (.elI 19 Sit.v t1.sites t4.2 λx5 =>
(.join 5 (NA t1 x3 t2 t4) (λ(t5:List Wnt×Int)=>t5=(((bX t2.2.1 x3.router x5.router).1,(bX t2.2.1 x3.router x5.router).2):List Wnt×Int)) (λb5=>(.callP (De t2.2.1 x3.router x5.router)
(.bk 5 b5 ((bX t2.2.1 x3.router x5.router).1,(bX t2.2.1 x3.router x5.router).2) [0,1,2]))) λ(t5:List Wnt×Int) =>
(.join 6 (N9 t1 x3 t2 t4) (λ(t6:Bool)=>I6 t0 t1 x3 t2 t3 t4 x5 t5 t6) (λb6=>(.br 51 (t5.2 != 0) (.bk 6 b6 ((true):Bool) [0,1,2])
(.bk 6 b6 ((decide (0<((t5.1.map Wnt.v).length:Int))):Bool) [0,1,2]))) λ(t6:Bool) =>
(.br 3 t6 (.ret (false))
(.bk 4 b4 (t4.1,W (t4.2+1)) [0,1,2])))))
(.loop 7 (N8 t1 x3) (I7 t0 t1 x3 t2 t3 t4) (m7 t0 t1 x3 t2 t3 t4) (0,t2.2.1) [0,1,2] λ(t7:Int×Ovl) b7 =>
(.br 35 (decide (t7.1<5)) (.req 51 (pB t7.2 []) λh6 =>
(.callP (lU t7.2 [] h6)
(.bk 7 b7 (W (t7.1+1),(roundO t7.2 []).1) [0,1,2])))
(.loop 8 (N7 t1 x3 t7) (I8 t0 t1 x3 t2 t3 t4 t7) (m8 t0 t1 x3 t2 t3 t4 t7) (((t1.sites.map Sit.v).length:Int),0) [1,2] λ(t8:Int×Int) b8 =>
(.br 18 (decide (t8.2<t8.1)) (.elI 18 Sit.v t1.sites t8.2 λx7 =>
(.join 9 (N6 t1 x3 t7 t8 x7) (λ(t9:List Wnt×Int)=>t9=(((ofW (⟨x7.now,x7.list⟩:aJ)).1,(ofW (⟨x7.now,x7.list⟩:aJ)).2):List Wnt×Int)) (λb9=>(.callP (Ik (⟨x7.now,x7.list⟩:aJ))
(.bk 9 b9 ((ofW (⟨x7.now,x7.list⟩:aJ)).1,(ofW (⟨x7.now,x7.list⟩:aJ)).2) [0,1,50]))) λ(t9:List Wnt×Int) =>
(.join 10 (HH t1 x3 t7 t8 x7 t9) (λ(t10:List Wnt×Int)=>t10=(((bX t7.2 x3.router x7.router).1,(bX t7.2 x3.router x7.router).2):List Wnt×Int)) (λb10=>(.callP (De t7.2 x3.router x7.router)
(.bk 10 b10 ((bX t7.2 x3.router x7.router).1,(bX t7.2 x3.router x7.router).2) [0,1,2]))) λ(t10:List Wnt×Int) =>
(.join 11 (HG t1 x3 t7 t8) (λ(t11:Bool)=>I11 t0 t1 x3 t2 t3 t4 t7 t8 x7 t9 t10 t11) (λb11=>(.br 51 (t9.2 != 0) (.bk 11 b11 ((true):Bool) [0,1])
(.br 115 (t10.2 != 0) (.bk 11 b11 ((true):Bool) [0,1])
(.br 211 (x7.router != x3.router) (.callP (Nx t9.1 t10.1)
(.bk 11 b11 ((!(decide (t9.1=t10.1))):Bool) [0,1]))
(.bk 11 b11 ((false):Bool) [0,1]))))) λ(t11:Bool) =>
(.br 2 t11 (.ret (false))
(.bk 8 b8 (t8.1,W (t8.2+1)) [0,1]))))))
(.callP (DT )
(.ret (true)))))))))))))))))))
theorem R8(t:List Int):∃I3 I4 m4 I6 I7 m7 I8 m8 I11,(HE t I3 I4 m4 I6 I7 m7 I8 m8 I11).vp HI true:=by
 refine⟨λ_ _ _ _ b=>b=false,λ_ s _ _ _ t=>∃k:Nat,t.1=s.sites.length∧t.2=k∧k≤s.sites.length,λ_ s _ _ _ t=>s.sites.length-t.2.toNat,λ_ _ _ _ _ _ _ _ b=>b=false,
  λ_ s x _ _ _ t=>∃j:Nat,t.1=j∧j≤5∧t.2=rds (aB (fD s) x.router []).1 j,λ_ _ _ _ _ _ t=>5-t.1.toNat,
  λ_ s _ _ _ _ _ t=>∃k:Nat,t.1=s.sites.length∧t.2=k∧k≤s.sites.length,λ_ s _ _ _ _ _ t=>s.sites.length-t.2.toNat,λ_ _ _ _ _ _ _ _ _ _ _ b=>b=false,?_⟩
 dsimp only[HE,HF,Ax.vp,Ax.vc];simp only[vcU,rfU,f'];refine⟨trivial,?_⟩;rintro _ rfl;have hS0:ot (kl (t.take 2000) 0 5).1:=zk (by omega);refine⟨⟨by omega,hS0,trivial⟩,?_⟩;intro (s:Scn) hs;obtain⟨lw,hL,hlw⟩:=MY hS0;have hfl:=(MX hS0).2.1;have hsi:s.sites=(kl (t.take 2000) 0 5).1.sites:=by rw[hs];rfl
 have hlen:s.sites.length≤8:=by rw[hsi];exact hS0.len
 obtain⟨n,hn⟩:=hS0.now;rw[←hs]at hL hfl;rw[←hsi]at hL hn hlw;clear hs hsi hS0;refine⟨λ_=>trivial,λe=>?_⟩;have e:¬(s.sites.length:Int)=0:=by simpa using e
 have hm:=bt (x:=aj (t.take 2000) (kl (t.take 2000) 0 5).2) (show(1:Int)≤(s.sites.length:Int) by omega);refine⟨hm.1,hm.2,λx hx=>?_⟩;have hxm:=aq hx;have hr:x.router∈s.sites.map Sit.router:=aT' hxm;obtain⟨a1,a2,a3,a4,a5⟩:=R5 hL (hn x hxm) hr (by omega);have ho:(⟨s.sp,s.lsn,s.fl⟩:Ovl)=fD s:=rfl;rw[ho];have hfl':s.fl.length≤158529:=hfl;refine⟨⟨by omega,trivial⟩,?_⟩;rintro _ rfl;simp only[a1,a3];refine⟨by simp[jl],?_⟩;rintro _ rfl;refine⟨λq=>(by cases q),λ_=>⟨⟨0,by trivial,by trivial,aS' _⟩,?_⟩⟩;rintro⟨_,_⟩ ⟨k,rfl,rfl,hk⟩;simp only[Int.toNat_natCast]
 refine⟨λc=>⟨by omega,c,λy hy=>⟨trivial,?_⟩⟩,λc=>⟨⟨0,by trivial,by omega,by trivial⟩,?_⟩⟩
 ·have hkn:=a4 y.router (aT' (aq hy));rintro _ rfl;simp only[hkn];refine⟨by simp,?_⟩;rintro _ rfl;exact⟨λq=>(by cases q),λ_=>⟨⟨k+1,by trivial,ao (n:=s.sites.length) (by omega) (by omega),by omega⟩,by rw[ao (n:=s.sites.length) (by omega) (by omega)];omega⟩⟩
 rintro⟨_,z⟩ ⟨j,rfl,hj,hz⟩;simp only at hz ⊢;subst hz;simp only[Int.toNat_natCast];obtain⟨o1,o2⟩:=tL a2.oi j;rw[a5]at o2
 refine⟨λc=>⟨⟨?_,by simp⟩,?_⟩,λc=>?_⟩
 ·show(rds (aB (fD s) x.router []).1 j).fl.length≤400000;have:j * 14400≤5 * 14400:=ae' _ hj;omega
 ·rw[ao (n:=5) (by omega) (by omega)];refine⟨⟨j+1,by trivial,by omega,?_⟩,by omega⟩;have e:roundO (rds (aB (fD s) x.router []).1 j) []=(rds (aB (fD s) x.router []).1 (j+1),0):=o1.roundO_nil;rw[e]
 have e:j=5:=by omega
 subst e;have r5:=tM a2 5;have q5:=(rQ a2.oi).2.1;refine⟨⟨0,by trivial,by trivial,aS' _⟩,?_⟩;rintro⟨_,_⟩ ⟨b,rfl,rfl,hb⟩;simp only[Int.toNat_natCast];refine⟨λc2=>⟨by omega,c2,λy hy=>⟨trivial,?_⟩⟩,λ_=>trivial⟩;have hym:=aq hy;have hyr:y.router∈s.sites.map Sit.router:=aT' hym;have hof2:(ofW ⟨y.now,y.list⟩).2=0:=by rw[(fT (hn y hym).err (hn y hym).grp).1]
 have hkn:bX (rds (aB (fD s) x.router []).1 5) x.router y.router=(upW lw x.router [] y.router,0):=by
  rw[kD r5.oi q5 hyr hr];exact congrArg (·,0) (r5.wa y.router hyr)
 rintro _ rfl;simp only[hof2];refine⟨trivial,?_⟩;rintro _ rfl;simp only[hkn]
 refine⟨?_,?_⟩
 ·refine⟨λq=>by simp at q,λ_=>⟨λq=>by simp at q,λ_=>⟨λq=>?_,λq=>?_⟩⟩⟩
  ·have q:¬y.router=x.router:=by simpa using q
   have:upW lw x.router [] y.router=qV y:=by unfold upW;rw[u' q];exact hlw y hym
   rw[this];simp[qV]
  ·trivial
 rintro _ rfl;exact⟨λq=>(by cases q),λ_=>⟨⟨b+1,by trivial,ao (n:=s.sites.length) (by omega) (by omega),by omega⟩,by rw[ao (n:=s.sites.length) (by omega) (by omega)];omega⟩⟩
def R9(t:List Int):PC Tryz.prog:=pcO 4 [(.s 1)] [.sl 1 (t.map AV.int) false] .k HI true (λ_=>let ⟨I3,I4,m4,I6,I7,m7,I8,m8,I11,h⟩:=R8 t;⟨_,h,by kernel_rfl⟩) rfl (by kernel_rfl)
end Go.Proofs.YtiobpjoadkfhdaaGreatDoor
