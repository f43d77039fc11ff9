/- Texts joined: G35 G36 G41 G37 G38 G39 G42 G43 H2 U22 HS RQ1 RQ0 RQ2. -/
import Derived.Test.YtiobpjoadkfhdaaGreatDoorQR8
set_option linter.unusedVariables false
set_option linter.unusedSimpArgs false
set_option linter.unusedSectionVars false
namespace Go.Proofs.YtiobpjoadkfhdaaGreatDoor
open Go Go.Am
def rO(o:Ovl)(f:List Fau):Prop:=o.fl.length≤400000∧f.length≤1000
theorem bH.pos{R:List Int}{sp:List Spk}{ls:List Lsn}(h:bH R sp ls){r:Int}(hr:r∈R) :
  bi sp r<sp.length∧bi sp r<ls.length∧sp[bi sp r]?=some (atS sp r)∧ls[bi sp r]?=some (atL sp ls r):=by
 have h1:bi sp r<sp.length:=((mo (key:=Spk.router) (d:=eP) h.asc).mpr (mem_keys.mp (by rw[h.spr];exact hr))).1;have e1:=congrArg List.length h.spr;have e2:=congrArg List.length h.lsr;rw[f']at e1 e2
 refine⟨h1,by omega,?_,?_⟩
 ·unfold atS;rw[J',E' h1];rfl
 ·unfold atL;rw[J',E' (by omega)];rfl
theorem bH.lens{R:List Int}{sp:List Spk}{ls:List Lsn}(h:bH R sp ls):sp.length≤12∧ls.length≤12:=by
 have e1:=congrArg List.length h.spr;have e2:=congrArg List.length h.lsr;rw[f']at e1 e2;have:=h.len;omega
theorem flat_take{α β:Type}{f:α→List β}{l:List α}{k:Nat}{x:α}(hx:l[k]?=some x):(l.take (k+1)).flatMap f=(l.take k).flatMap f++f x:=by
 rw[al hx];simp
theorem C6{o:Ovl}(h:bF o){a b:Int}(ha:a∈aC o.sp)(hb:b∈aC o.sp):bi o.sp a=bi o.sp b↔a=b:=by
 refine⟨λe=>?_,λe=>by rw[e]⟩;have h1:=(h.1.s ha).2;have h2:=(h.1.s hb).2;unfold atS at h1 h2;rw[e]at h1;exact h1.symm.trans h2
def Ju(o:Ovl)(at_:Int)(of_:Int)(t0:Bool):NF:=⟨[rI 2 of_,rR 3 0,rI 8 (bi o.sp at_:Int),rI 10 (bi o.sp of_:Int),rB 27 t0],[.box (Ovl.v o)]⟩
@[reducible] def De:Nat→Type
 | 0=>Bool
 | _=>Unit
def Df(r:List Wnt×Int):AV:=.tup [.sl 3 (r.1.map Wnt.v) false,.int r.2]
def Dd(o:Ovl)(at_:Int)(of_:Int)(I0:Bool→Prop):Ax Tryz.prog De (List Wnt×Int):=
 (.callP (vh o)
(.br 96 (!(decide (bF o))) (.ret ([],1))
(.req 128 (o.sp.Pairwise λx y=>x.router<y.router) λh1 =>
(.req 128 (o.sp.length≤1000000) λh2 =>
(.callP (um o at_ h1 h2)
(.req 256 (o.sp.Pairwise λx y=>x.router<y.router) λh3 =>
(.req 256 (o.sp.length≤1000000) λh4 =>
(.callP (um o of_ h3 h4)
(.pass (.join 0 (Ju o at_ of_) (λ(t0:Bool)=>I0 t0) (λb0=>(.br 400 (!(decide (kU o.sp at_))) (.bk 0 b0 ((true):Bool) [0])
(.bk 0 b0 ((!(decide (kU o.sp of_))):Bool) [0]))) λ(t0:Bool) =>
(.br 1 t0 (.ret ([],4))
(.br 65 ((bi o.sp at_:Int)==(bi o.sp of_:Int)) (.elI 113 Spk.v o.sp (bi o.sp at_:Int) λx5 =>
(.callP (oQ x5.items)
(.ret (aq x5.items,0))))
(.elI 113 Lsn.v o.ls (bi o.sp at_:Int) λx6 =>
(.callP (Jz x6 of_)
(.ret (dS x6 of_,0))))))))))))))))
theorem OW(o:Ovl)(a b:Int):∃I0,(Dd o a b I0).vp Df (cF o a b):=by
 refine⟨λt=>t=decide (a ∉ aC o.sp∨b ∉ aC o.sp),?_⟩;dsimp only[Dd,De,Ax.vp,Ax.vc];simp only[vcU,rfU,f'];have hV:cF o a b=if ¬bF o then([],1)else if a ∉ aC o.sp∨b ∉ aC o.sp then([],4)else if a=b then(aq (atS o.sp b).items,0)else(dS (atL o.sp o.ls a) b,0):=rfl
 rw[hV];by_cases hv:bF o
 case neg=>simp[hv]
 have hL:=hv.1.lens;rw[u' (not_not_intro hv)]
 refine⟨λq=>absurd hv (by simpa using q),λ_=>⟨hv.1.asc,by omega,hv.1.asc,by omega,⟨λc=>?_,λc=>?_⟩,?_⟩⟩
 ·have c:a ∉ aC o.sp:=by rw[←iw hv];simpa using c
  simp[c]
 ·have c:a∈aC o.sp:=by rw[←iw hv];simpa using c
  have e2:decide (kU o.sp b)=decide (b∈aC o.sp):=decide_eq_decide.mpr (iw hv b);rw[e2];simp[c]
 ·rintro _ rfl
  refine⟨λc=>?_,λc=>?_⟩
  ·rw[if_pos (H' c)]
  have c:=ab' c;rw[u' c];have ha:a∈aC o.sp:=by simp only[not_or,X']at c;exact c.1
  have hb:b∈aC o.sp:=by simp only[not_or,X']at c;exact c.2
  obtain⟨p1,p2,p3,p4⟩:=hv.1.pos ha;simp only[Int.toNat_natCast]
  refine⟨λq=>⟨by omega,by omega,λx hx=>?_⟩,λq=>⟨by omega,by omega,λx hx=>?_⟩⟩
  ·have q:a=b:=(C6 hv ha hb).mp (by have:=eq_of_beq q;omega);cases p3.symm.trans hx;rw[if_pos q,q]
  ·have q:¬a=b:=λe=>by rw[e]at q;simp at q
   cases p4.symm.trans hx;rw[u' q]
def OX(o:Ovl)(at_:Int)(of_:Int):PC Tryz.prog:=pcO 51 [(.a [(.s 5),(.s 3),(.s 10)]),.k,.k] [Ovl.v o,.int at_,.int of_] (.a [(.s 3),.k]) Df (cF o at_ of_) (λ_=>let ⟨I0,h⟩:=OW o at_ of_;⟨_,h,by kernel_rfl⟩) rfl (by kernel_rfl)
def setAt(o:Ovl)(s:Spk)(p:Per):Prop:=agree s (atL o.sp o.ls p.router)∧p.epoch=(atL o.sp o.ls p.router).epoch∧p.acked=s.last
theorem EL(l:List Int):bF (eC l)↔okR l:=by
 have er:aC (eC l).sp=l:=by
  show(l.map (kg l)).map Spk.router=l;rw[aV'];exact cr' (λx=>rfl) l
 constructor
 ·rintro⟨h,_⟩;rw[er]at h;refine⟨h.len,λr hr=>?_,h.ascR⟩;have:=(h.spo (kg l r) (R'.mpr ⟨r,hr,rfl⟩)).1.1;exact this
 ·intro h;refine⟨?_,by simp[eC]⟩;rw[er];exact ik h
def Kt(L:List Int)(n:Int)(t0:Int×Nat×List Fau):NF:=⟨[rR 0 0,rI 1 n,rV 5 1,rI 6 t0.1],[.box (.agg [.sl 1 (L.map AV.int) false,.int t0.2.1]),vB 2 Fau.v t0.2.2 (λ_=>rfl)]⟩
@[reducible] def D3:Nat→Type
 | 0=>Int×Nat×List Fau
 | _=>Unit
def uf(r:Tap×List Fau):AV:=.sl 2 (r.2.map Fau.v) false
def ug(r:Tap×List Fau):List (Option Blk):=[some (.box (Tap.v r.1))]
def D2(L:List Int)(p:Nat)(n:Int)(I0:(Int×Nat×List Fau)→Prop)(m0:(Int×Nat×List Fau)→Nat):Ax Tryz.prog D3 (Tap×List Fau):=
 (.callH [0] (N_h L p 4) 49
(.cmdL (.nilT 5 2) (.loop 0 (Kt L n) I0 m0 (Mod (aj L p) 4,ab L p,[]) [0,81] λ(t0:Int×Nat×List Fau) b0 =>
(.br 34 (decide (0<t0.1)) (.callH [0] (fj L t0.2.1 0 5) 66
(.callH [0] (N_h L (ab L t0.2.1) (W (n+2))) 130
(.apX 178 Fau.v t0.2.2 [(⟨rng L t0.2.1 0 5,Mod (aj L (ab L t0.2.1)) (W (n+2))⟩:Fau)] (t0.2.2.length+1)
(.bk 0 b0 (W (t0.1-1),ab L (ab L t0.2.1),t0.2.2++[(⟨rng L t0.2.1 0 5,Mod (aj L (ab L t0.2.1)) (W (n+2))⟩:Fau)]) [0,178]))))
(.fz 1 Fau.v t0.2.2 (λ_=>rfl) (.retH ((⟨L,t0.2.1⟩:Tap),t0.2.2) ⟨[(4,.k,.sl 2 (t0.2.2.map Fau.v) false)],[.box (.agg [.sl 1 (L.map AV.int) false,.int t0.2.1])]⟩ [0]))))))
theorem Ps(L:List Int)(p:Nat)(n:Int)(h:0≤n∧n≤1000000):∃I m,(D2 L p n I m).vc uf ug ((⟨L,(bQ L n p).2⟩:Tap),(bQ L n p).1):=by
 have hm:=bw (x:=aj L p) (n:=4) (by omega);refine⟨λt=>∃k:Nat,t.1=k∧k≤4∧t.2.2.length+k≤4∧ka L n k t.2.2 t.2.1=bQ L n p,λt=>t.1.toNat,?_⟩;dsimp only[D2,D3,Ax.vp,Ax.vc];simp only[vcU,rfU,f'];refine⟨⟨(Mod (aj L p) 4).toNat,by omega,by omega,by simp;omega,rfl⟩,?_⟩;rintro⟨i,q,out⟩ ⟨k,hk,hk4,hl,hf⟩;simp only at hk hl hf;subst hk;simp only[Int.toNat_natCast]
 refine⟨λh1=>⟨by omega,?_,?_⟩,λh1=>?_⟩
 ·obtain⟨j,rfl⟩:∃j,k=j+1:=⟨k-1,by omega⟩
  rw[ci (by omega)];refine⟨j,by omega,by omega,by simp;omega,?_⟩;rw[ka]at hf;exact hf
 ·rw[ci (by omega)];omega
 ·have:k=0:=by omega
  subst this;rw[←hf];rfl
def D4(L:List Int)(p:Nat)(n:Int)(h:0≤n∧n≤1000000):HC Tryz.prog:=hcO 47 [.k,.k] [.ref 0 0,.int n] [.box (.agg [.sl 1 (L.map AV.int) false,.int p])] (.s 2) uf ug ((⟨L,(bQ L n p).2⟩:Tap),(bQ L n p).1) (λ_ _=>let ⟨I0,m0,h⟩:=Ps L p n h;⟨_,h,by kernel_rfl⟩) (by kernel_rfl) (by simp[hcB,bI,AV.belB,allB,cE,bW,uf,ug,Tap.v,ae (v:=AV.int) (λ_=>rfl),ae (v:=Fau.v) (λ_=>rfl)])
def rds(o:Ovl):Nat→Ovl
 | 0=>o
 | n+1=>round0 (rds o n)
theorem zl{R:List Int}{o:Ovl}(h:OI R o):∀n:Nat,OI R (rds o n)∧(rds o n).fl.length≤o.fl.length+n * 14400
 | 0=>⟨h,by simp[rds]⟩
 | n+1=>by
  obtain⟨h1,h2⟩:=zl h n;have e:=(h1.roundO []).2.len;rw[h1.roundO_nil]at e;simp only[aC']at e;refine⟨h1.round0,?_⟩;rw[rds];omega
theorem Ie{R:List Int}{o:Ovl}{k:Int}{lw:Int→List Wnt}(h:LW R o k lw):∀n:Nat,LW R (rds o n) k lw
 | 0=>h
 | n+1=>by
  have h1:=Ie h n;have:=(h1.roundO []).2;rw[h1.oi.roundO_nil]at this;exact this
theorem E9{R:List Int}{o:Ovl}(h:OI R o):iX (rds o 4)∧ic (rds o 5):=h.quiet
def Qh(faults:List Fau)(t0:Int×List Sig×List Sig):NF:=⟨[rV 6 0,rV 7 1,(15,.k,.sl 2 (faults.map Fau.v) false),rI 16 ((faults.map Fau.v).length:Int),rI 17 t0.1],[vB 10 Sig.v t0.2.1 (λ_=>rfl),vB 10 Sig.v t0.2.2 (λ_=>rfl)]⟩
def Qg(faults:List Fau)(t0:Int×List Sig×List Sig)(x1:Fau)(t1:Bool):NF:=⟨[rV 6 0,rV 7 1,rR 9 2,(15,.k,.sl 2 (faults.map Fau.v) false),rI 16 ((faults.map Fau.v).length:Int),rI 17 t0.1,rB 30 t1],[vB 10 Sig.v t0.2.1 (λ_=>rfl),vB 10 Sig.v t0.2.2 (λ_=>rfl),.box (Fau.v x1)]⟩
@[reducible] def LS:Nat→Type
 | 0=>Int×List Sig×List Sig
 | 1=>Bool
 | _=>Unit
def AN(r:List Sig×List Sig):AV:=.tup [.vec 0,.vec 1]
def AP(r:List Sig×List Sig):List (Option Blk):=[some (.vec 10 (r.1.map Sig.v)),some (.vec 10 (r.2.map Sig.v))]
def LR(l:List Sig)(faults:List Fau)(I0:(Int×List Sig×List Sig)→Prop)(m0:(Int×List Sig×List Sig)→Nat)(I1:Int×List Sig×List Sig→Fau→Bool→Prop):Ax Tryz.prog LS (List Sig×List Sig):=
 (.apX 64 Sig.v [] l (0+l.length)
(.cmdL (.nilT 7 10) (.loop 0 (Qh faults) I0 m0 (0,l,[]) [64,160] λ(t0:Int×List Sig×List Sig) b0 =>
(.br 18 (decide (t0.1<((faults.map Fau.v).length:Int))) (.elI 18 Fau.v faults t0.1 λx1 =>
(.pass (.join 1 (Qg faults t0 x1) (λ(t1:Bool)=>I1 t0 x1 t1) (λb1=>(.br 146 (decide (x1.pos<0)) (.bk 1 b1 ((true):Bool) [0,1,50])
(.bk 1 b1 ((decide (((t0.2.1.map Sig.v).length:Int)≤x1.pos)):Bool) [0,1,50]))) λ(t1:Bool) =>
(.br 3 t1 (.bk 0 b0 (W (t0.1+1),t0.2.1,t0.2.2) [0,1])
(.elJ 67 Sig.v t0.2.1 x1.pos λx2 =>
(.say (λR=>Rf (t0.2.1.map Sig.v) (ck (decide (0<t0.2.1.length))
R)) (.sub 195 Sig.v t0.2.1 false
(.say (λR=>ck (cg t0.2.1.length (W (x1.pos+1)) (t0.2.1.length:Int) (t0.2.1.length:Int))
((ck (decide ((W (x1.pos+1)).toNat+((t0.2.1.length:Int)-(W (x1.pos+1))).toNat≤(t0.2.1.map Sig.v).length))
(Rf (α:=List AV) [] (((((t0.2.1.map Sig.v).drop ((W (x1.pos+1)).toNat)).take (((t0.2.1.length:Int)-(W (x1.pos+1))).toNat))=((t0.2.1.drop ((W (x1.pos+1)).toNat)).take (((t0.2.1.length:Int)-(W (x1.pos+1))).toNat)).map Sig.v) ∧
(ck (decide (0+((t0.2.1.drop ((W (x1.pos+1)).toNat)).take (((t0.2.1.length:Int)-(W (x1.pos+1))).toNat)).length≤1048576))
R)))))) (.app 211 Sig.v [] ((t0.2.1.drop ((W (x1.pos+1)).toNat)).take (((t0.2.1.length:Int)-(W (x1.pos+1))).toNat))
(.br 307 (x1.kind==1) (.say (λR=>Rf (t0.2.1.map Sig.v) (ck (decide (0<t0.2.1.length))
R)) (.sub 387 Sig.v t0.2.1 false
(.say (λR=>ck (decide (x1.pos=x1.pos))
((ck (cg t0.2.1.length 0 x1.pos x1.pos)
((Rf (α:=List AV) ((t0.2.1.take x1.pos.toNat).map Sig.v) (Rf (α:=List AV) (((t0.2.1.drop ((W (x1.pos+1)).toNat)).take (((t0.2.1.length:Int)-(W (x1.pos+1))).toNat)).map Sig.v)
(ck (decide ((t0.2.1.take x1.pos.toNat).length+((t0.2.1.drop ((W (x1.pos+1)).toNat)).take (((t0.2.1.length:Int)-(W (x1.pos+1))).toNat)).length≤1048576))
R))))))) (.app 419 Sig.v (t0.2.1.take x1.pos.toNat) ((t0.2.1.drop ((W (x1.pos+1)).toNat)).take (((t0.2.1.length:Int)-(W (x1.pos+1))).toNat))
(.bk 0 b0 (W (t0.1+1),(t0.2.1.take x1.pos.toNat)++((t0.2.1.drop ((W (x1.pos+1)).toNat)).take (((t0.2.1.length:Int)-(W (x1.pos+1))).toNat)),t0.2.2) [419,1])))))
(.br 339 (x1.kind==2) (.say (λR=>Rf (t0.2.1.map Sig.v) (ck (decide (0<t0.2.1.length))
R)) (.sub 419 Sig.v t0.2.1 false
(.say (λR=>ck (decide (x1.pos=x1.pos))
((ck (cg t0.2.1.length 0 x1.pos x1.pos)
((Rf (α:=List AV) ((t0.2.1.take x1.pos.toNat).map Sig.v) (Rf (α:=List AV) [Sig.v x2,Sig.v x2]
(ck (decide ((t0.2.1.take x1.pos.toNat).length+2≤1048576))
R))))))) (.app 483 Sig.v (t0.2.1.take x1.pos.toNat) [x2,x2]
(.apX 515 Sig.v ((t0.2.1.take x1.pos.toNat)++[x2,x2]) ((t0.2.1.drop ((W (x1.pos+1)).toNat)).take (((t0.2.1.length:Int)-(W (x1.pos+1))).toNat)) (((t0.2.1.take x1.pos.toNat)++[x2,x2]).length+((t0.2.1.drop ((W (x1.pos+1)).toNat)).take (((t0.2.1.length:Int)-(W (x1.pos+1))).toNat)).length)
(.bk 0 b0 (W (t0.1+1),((t0.2.1.take x1.pos.toNat)++[x2,x2])++((t0.2.1.drop ((W (x1.pos+1)).toNat)).take (((t0.2.1.length:Int)-(W (x1.pos+1))).toNat)),t0.2.2) [515,1]))))))
(.br 371 (x1.kind==3) (.say (λR=>Rf (t0.2.1.map Sig.v) (ck (decide (0<t0.2.1.length))
R)) (.sub 451 Sig.v t0.2.1 false
(.say (λR=>ck (decide (x1.pos=x1.pos))
((ck (cg t0.2.1.length 0 x1.pos x1.pos)
((Rf (α:=List AV) ((t0.2.1.take x1.pos.toNat).map Sig.v) (Rf (α:=List AV) (((t0.2.1.drop ((W (x1.pos+1)).toNat)).take (((t0.2.1.length:Int)-(W (x1.pos+1))).toNat)).map Sig.v)
(ck (decide ((t0.2.1.take x1.pos.toNat).length+((t0.2.1.drop ((W (x1.pos+1)).toNat)).take (((t0.2.1.length:Int)-(W (x1.pos+1))).toNat)).length≤1048576))
R))))))) (.app 483 Sig.v (t0.2.1.take x1.pos.toNat) ((t0.2.1.drop ((W (x1.pos+1)).toNat)).take (((t0.2.1.length:Int)-(W (x1.pos+1))).toNat))
(.apX 563 Sig.v t0.2.2 [x2] (t0.2.2.length+1)
(.bk 0 b0 (W (t0.1+1),(t0.2.1.take x1.pos.toNat)++((t0.2.1.drop ((W (x1.pos+1)).toNat)).take (((t0.2.1.length:Int)-(W (x1.pos+1))).toNat)),t0.2.2++[x2]) [483,563]))))))
(.br 403 (x1.kind==4) (.br 499 (decide ((W (x1.pos+1))<((t0.2.1.map Sig.v).length:Int))) (.elJ 691 Sig.v t0.2.1 (W (x1.pos+1)) λx3 =>
(.stJ 739 Sig.v t0.2.1 x1.pos (λy4=>x3) λy4 =>
(.stJ 771 Sig.v (t0.2.1.set x1.pos.toNat x3) (W (x1.pos+1)) (λy5=>x2) λy5 =>
(.bk 0 b0 (W (t0.1+1),(t0.2.1.set x1.pos.toNat x3).set ((W (x1.pos+1)).toNat) x2,t0.2.2) [0,1]))))
(.bk 0 b0 (W (t0.1+1),t0.2.1,t0.2.2) [0,1]))
(.bk 0 b0 (W (t0.1+1),t0.2.1,t0.2.2) [0,1]))))))))))))))
(.retH (t0.2.1,t0.2.2) ⟨[rV 4 0,rV 5 1],[vB 10 Sig.v t0.2.1 (λ_=>rfl),vB 10 Sig.v t0.2.2 (λ_=>rfl)]⟩ [0,1])))))
theorem TK(l:List Sig)(f:List Fau)(h:CH l f):∃I0 m0 I1,(LR l f I0 m0 I1).vc AN AP (arr l f):=by
 obtain⟨h1,h2,h3⟩:=h
 refine⟨λt=>∃k:Nat,t=((k:Int),((f.take k).foldl g9 (l,[])).1,((f.take k).foldl g9 (l,[])).2)∧k≤f.length,λt=>f.length-t.1.toNat,
  λt0 x t=>t=decide (x.pos<0∨(t0.2.1.length:Int)≤x.pos),?_⟩
 dsimp only[LR,LS,Ax.vp,Ax.vc];simp only[vcU,rfU,f'];refine⟨by omega,⟨0,rfl,by omega⟩,?_⟩;rintro _ ⟨k,rfl,hk⟩;have hlen:=qI (f:=f.take k) (s:=(l,[]));have hst:∀x,f[k]?=some x→(f.take (k+1)).foldl g9 (l,[])=g9 ((f.take k).foldl g9 (l,[])) x:=λx hx=>by rw[al hx,aO'];rfl
 have hend:k=f.length→(f.take k).foldl g9 (l,[])=arr l f:=λe=>by rw[e,ai'];rfl
 generalize (f.take k).foldl g9 (l,[])=s at *
 obtain⟨now,late⟩:=s;rw[aa']at hlen;simp only[Int.toNat_natCast,aC']at hlen ⊢
 refine⟨λa1=>⟨by omega,by omega,λx hx=>⟨⟨λc=>?_,λc=>?_⟩,?_⟩⟩,λa1=>?_⟩
 ·simp[c]
 ·exact decide_eq_decide.mpr (by omega)
 ·have e1:=hst x hx;intro t1 ht1;rw[am (n:=f.length) (by omega) (by omega)]
  have fin:∀a b,g9 (now,late) x=(a,b)→(∃k_1:Nat,(((k+1:Nat):Int),a,b)=((k_1:Int),((f.take k_1).foldl g9 (l,[])).1,((f.take k_1).foldl g9 (l,[])).2)∧k_1≤f.length)∧f.length-((k+1:Nat):Int).toNat<f.length-k:=λa b e =>
   ⟨⟨k+1,by rw[e1,e],by omega⟩,by omega⟩
  refine⟨λe=>fin _ _ (if_pos (H' (ht1.symm.trans e))),λe=>?_⟩;have hb:¬(x.pos<0∨(now.length:Int)≤x.pos):=ab' (ht1.symm.trans e);have e2:g9 (now,late) x=rc now late x.kind x.pos.toNat (now.getD x.pos.toNat qS):=u' hb;obtain⟨n,hn⟩:∃n:Nat,x.pos=n:=⟨x.pos.toNat,by omega⟩
  rw[hn]at e2 hb ⊢;simp only[Int.toNat_natCast]at e2 ⊢;have hW:W ((n:Int)+1)=((n+1:Nat):Int):=by rw[ci (by omega)];omega
  rw[hW];simp only[Int.toNat_natCast];have hr:(now.drop (n+1)).take ((now.length:Int)-((n+1:Nat):Int)).toNat=now.drop (n+1):=G' (by simp;omega);have hdl:(now.drop (n+1)).length=now.length-(n+1):=bv' ..;have htl:(now.take n).length≤n:=List.length_take_le ..;rw[hr];have hbn:cg now.length 0 (n:Int) (n:Int)=true:=by simp[cg];omega
  refine⟨by simp;omega,by omega,λy hy=>?_⟩;rw[getD_some hy]at e2;refine⟨by omega,by simp[cg];omega,by omega,by rw[←hr,cf',List.map_drop],by omega,?_⟩
  refine⟨λc1=>⟨by omega,trivial,hbn,by omega,fin _ _ ?_⟩,λc1=>⟨λc2=>⟨by omega,trivial,hbn,by omega,by simp;omega,fin _ _ ?_⟩,λc2=>⟨λc3=>⟨by omega,trivial,hbn,by omega,by omega,fin _ _ ?_⟩,λc3=>⟨λc4=>⟨λd=>?_,λd=>fin _ _ ?_⟩,λc4=>fin _ _ ?_⟩⟩⟩⟩
  ·rw[e2,rc,if_pos (by simpa using c1)]
  ·rw[e2,rc,u' (by simpa using c1),if_pos (by simpa using c2)]
  ·rw[e2,rc,u' (by simpa using c1),u' (by simpa using c2),if_pos (by simpa using c3)]
  ·refine⟨by simp;omega,by omega,λz hz=>⟨by simp;omega,by omega,λu hu=>⟨by simp;omega,by simp;omega,λv hv=>fin _ _ ?_⟩⟩⟩;rw[e2,rc,u' (by simpa using c1),u' (by simpa using c2),u' (by simpa using c3),if_pos (by simpa using c4),if_pos (by omega),getD_some hz]
  ·rw[e2,rc,u' (by simpa using c1),u' (by simpa using c2),u' (by simpa using c3),if_pos (by simpa using c4),u' (by omega)]
  ·rw[e2,rc,u' (by simpa using c1),u' (by simpa using c2),u' (by simpa using c3),u' (by simpa using c4)]
 ·rw[←hend (by omega)]
def TL(l:List Sig)(faults:List Fau)(h:CH l faults):HC Tryz.prog:=hcO 59 [(.s 10),(.s 2)] [.sl 10 (l.map Sig.v) false,.sl 2 (faults.map Fau.v) false] [] .k AN AP (arr l faults) (λ_ _=>let ⟨I0,m0,I1,h⟩:=TK l faults h;⟨_,h,by kernel_rfl⟩) (by kernel_rfl) (by simp[hcB,bI,AV.belB,allB,cE,bW,AN,AP,ae (v:=Fau.v) (λ_=>rfl),ae (v:=Sig.v) (λ_=>rfl)])
def cB(l:List Spk)(r:Int):Int:=match l.findIdx? λp=>decide (p.router=r)with
 | some i=>i
 | none=>-1
theorem sg{l:List Spk}{r:Int}{i:Nat}{x:Spk}(hx:l[i]?=some x)(h:x.router=r)(hb:∀y∈l.take i,y.router≠r):cB l r=i:=by
 obtain⟨hi,hxi⟩:=I'.mp hx;have:l.findIdx? (λp=>decide (p.router=r))=some i:=by
  rw[bH'];refine⟨hi,by rw[hxi];simpa using h,λj hj=>?_⟩;have:=hb l[j] (ak' (i:=j) (by rw[am',if_pos hj,E' (by omega)]));simpa using this
 unfold cB;rw[this]
theorem si{l:List Spk}{r:Int}(hb:∀y∈l,y.router≠r):cB l r=-1:=by
 have:l.findIdx? (λp=>decide (p.router=r))=none:=by
  rw[cb'];intro x hx;simpa using hb x hx
 unfold cB;rw[this]
def Ds(o:Ovl)(router:Int):=okL [Ovl.v o,.int router]
def JH(o:Ovl)(router:Int)(t0:Int):NF:=⟨[rI 1 router,(8,.k,.sl 5 (o.sp.map Spk.v) false),rI 9 ((o.sp.map Spk.v).length:Int),rI 10 t0],[]⟩
@[reducible] def Dq:Nat→Type
 | 0=>Int
 | _=>Unit
def Dr(r:Int):AV:=.int r
def Dp(o:Ovl)(router:Int)(I0:Int→Prop)(m0:Int→Nat):Ax Tryz.prog Dq (Int):=
 (.loop 0 (JH o router) I0 m0 ((0):Int) [] λ(t0:Int) b0 =>
(.br 16 (decide (t0<((o.sp.map Spk.v).length:Int))) (.elI 32 Spk.v o.sp t0 λx1 =>
(.br 176 (x1.router==router) (.ret (t0))
(.bk 0 b0 ((W (t0+1)):Int) [])))
(.ret (-1))))
theorem Pd(o:Ovl)(r:Int)(ok:Ds o r):∃I m,(Dp o r I m).vp Dr (cB o.sp r):=by
 have hle:o.sp.length≤9223372036854775807:=by
  have h:=ok;simp only[Ds,Ovl.v,yQ,zF,yY,AV.ok,okL,f',cm]at h;omega
 refine⟨λt=>∃k:Nat,t=k∧k≤o.sp.length∧∀x∈o.sp.take k,x.router≠r,λt=>o.sp.length-t.toNat,?_⟩;dsimp only[Dp,Dq,Ax.vp,Ax.vc];simp only[vcU,rfU,f'];refine⟨⟨0,rfl,by omega,by simp⟩,?_⟩;rintro _ ⟨k,rfl,hk,hI⟩;simp only[Int.toNat_natCast]
 refine⟨λh1=>⟨by omega,by omega,λx hx=>⟨λe=>?_,λe=>?_⟩⟩,λh1=>?_⟩
 ·rw[sg hx (by simpa using e) hI]
 ·rw[am (n:=o.sp.length) (by omega) (by omega)];exact⟨⟨k+1,rfl,by omega,(bG hx).mpr ⟨hI,by simpa using e⟩⟩,by omega⟩
 ·rw[G' (by omega)]at hI;rw[si hI]
def mi(o:Ovl)(router:Int):PC Tryz.prog:=pcO 60 [(.a [(.s 5),(.s 3),(.s 10)]),.k] [Ovl.v o,.int router] .k Dr (cB o.sp router) (λok=>let ⟨I0,m0,h⟩:=Pd o router ok;⟨_,h,by kernel_rfl⟩) rfl (by kernel_rfl)
theorem wU{o:Ovl}(h:bF o)(r:Int):cB o.sp r=if r∈aC o.sp then(bi o.sp r:Int)else -1:=by
 by_cases hr:r∈aC o.sp
 ·rw[if_pos hr];obtain⟨p1,p2,p3,p4⟩:=h.1.pos hr;refine sg p3 (h.1.s hr).2 λy hy=>?_;obtain⟨i,hi,rfl⟩:=ad' hy;rw[aa']at hi;rw[bz'];have:=lT (key:=Spk.router) (l:=o.sp) (r:=r) (i:=i) (show i<bi o.sp r by omega) (by omega);omega
 ·rw[u' hr];exact si λy hy e=>hr (R'.mpr ⟨y,hy,e⟩)
def Ar(r:Ovl):AV:=.agg [.vec 0,.vec 1,.vec 2]
def As(r:Ovl):List (Option Blk):=[some (.vec 5 (r.sp.map Spk.v)),some (.vec 3 (r.ls.map Lsn.v)),some (.vec 10 (r.fl.map Sig.v))]
def Ap(o:Ovl):Ax Tryz.prog noS (Ovl):=
 (.apX 80 Spk.v [] o.sp (0+o.sp.length)
(.apX 144 Lsn.v [] o.ls (0+o.ls.length)
(.apX 208 Sig.v [] o.fl (0+o.fl.length)
(.retH o ⟨[rR 2 3],[vB 5 Spk.v o.sp (λ_=>rfl),vB 3 Lsn.v o.ls (λ_=>rfl),vB 10 Sig.v o.fl (λ_=>rfl),.box (.agg [.vec 0,.vec 1,.vec 2])]⟩ [80,144,208,16]))))
theorem To(o:Ovl)(h:o.sp.length≤1000000∧o.ls.length≤1000000∧o.fl.length≤1000000):(Ap o).vc Ar As o:=by
 dsimp only[Ap,noS,Ax.vp,Ax.vc];simp only[vcU,rfU,f'];exact⟨by omega,by omega,by omega,trivial⟩
def Aq(o:Ovl)(h:o.sp.length≤1000000∧o.ls.length≤1000000∧o.fl.length≤1000000):HC Tryz.prog:=hcO 58 [(.a [(.s 5),(.s 3),(.s 10)])] [Ovl.v o] [] .k Ar As o (λ_ _=>⟨(Ap o),To o h,by kernel_rfl⟩) (by kernel_rfl) (by simp[hcB,bI,AV.belB,allB,cE,bW,Ar,As,Ovl.v,yQ,zF,yY,ae (v:=Lsn.v) (λ_=>rfl),ae (v:=Sig.v) (λ_=>rfl),ae (v:=Spk.v) (λ_=>rfl)])
theorem fY{o:Ovl}(h:¬bF o):(1:Int)=gZ o:=(u' h).symm
structure RefK (R:List Int) (s:Spk) (l:Lsn):Prop where
  n:s.peers.length+1=R.length
  p:∀p∈s.peers,p.router∈R
  lo:bX l
  lr:l.router=s.router
  h:∀h∈l.heard,h.router∈R
theorem gJ{o:Ovl}:bF o↔(o.sp.length≤12∧o.ls.length=o.sp.length)∧(∀i s,o.sp[i]?=some s→aV s∧(0<i→∀y,o.sp[i-1]?=some y→y.router<s.router)) ∧
  (∀(i:Nat) s l,o.sp[i]?=some s→o.ls[i]?=some l→RefK (aC o.sp) s l)∧∀x∈o.fl,cS (aC o.sp) x:=by
 rw[dK];have hmem:∀{i:Nat} {s:Spk},o.sp[i]?=some s→s.router∈aC o.sp:=λhs=>R'.mpr ⟨_,ax hs,rfl⟩
 constructor
 ·rintro⟨h1,h2,h3,h4⟩;have hR:(aC o.sp).Pairwise (·<·):=(dK.mpr ⟨h1,h2,h3,h4⟩).1.ascR
  refine⟨⟨h1,h2⟩,λi s hs=>?_,λi s l hs hl=>?_,h4⟩
  ·obtain⟨l,hl⟩:∃l,o.ls[i]?=some l:=⟨_,E' (by have:=av hs;omega)⟩
   have d:=h3 i s l hs hl;exact⟨d.fs,λhi y hy=>d.fasc hi _ (lQ hy)⟩
  ·have d:=h3 i s l hs hl;obtain⟨q1,q2⟩:=(rJ hR d.fs (hmem hs)).mp d.fp;exact⟨q1,q2,d.fl,d.fr,d.fh⟩
 ·rintro⟨⟨h1,h2⟩,h3,h4,h5⟩;have hasc:∀k:Nat,k≤o.sp.length→(o.sp.take k).Pairwise λx y=>x.router<y.router:=by
   intro k
   induction k with
   | zero=>intro _;simp
   | succ k ih =>
    intro hk;have hs:o.sp[k]?=some o.sp[k]:=E' (by omega);exact(oB Spk.router hs).mpr ⟨ih (by omega),(h3 k _ hs).2⟩
  have ha:=hasc o.sp.length (V' _);rw[ai']at ha;have hR:(aC o.sp).Pairwise (·<·):=by unfold aC;rw[at'];exact ha
  refine⟨h1,h2,λi s l hs hl=>?_,h5⟩;obtain⟨a1,a2⟩:=h3 i s hs;have b:=h4 i s l hs hl;refine⟨a1,λhi y hy=>?_,(rJ hR a1 (hmem hs)).mpr ⟨b.n,b.p⟩,b.lo,b.lr,b.h⟩;unfold aC at hy;rw[S']at hy;cases hz:o.sp[i-1]? with
  | none=>rw[hz]at hy;simp at hy
  | some z =>
   rw[hz]at hy;have hy:z.router=y:=by simpa using hy
   rw[←hy];exact a2 hi z hz
def Bz(o:Ovl):=okL [Ovl.v o]
def GI(o:Ovl)(t0:Bool):NF:=⟨[rR 1 0,rB 27 t0],[.box (Ovl.v o)]⟩
def GH(o:Ovl)(t1:Int×List Int):NF:=⟨[rR 1 0,rV 3 1,(29,.k,.sl 5 (o.sp.map Spk.v) false),rI 30 ((o.sp.map Spk.v).length:Int),rI 31 t1.1],[.box (Ovl.v o),vB 1 AV.int t1.2 (λ_=>rfl)]⟩
def GG(o:Ovl)(t1:Int×List Int)(x1:Spk)(t2:Bool):NF:=⟨[rR 1 0,rV 3 1,rR 5 2,(29,.k,.sl 5 (o.sp.map Spk.v) false),rI 30 ((o.sp.map Spk.v).length:Int),rI 31 t1.1,rB 54 t2],[.box (Ovl.v o),vB 1 AV.int t1.2 (λ_=>rfl),.box (Spk.v x1)]⟩
def GF(o:Ovl)(t1:Int×List Int)(t3:Int):NF:=⟨[rR 1 0,rV 3 1,(62,.k,.sl 5 (o.sp.map Spk.v) false),rI 63 ((o.sp.map Spk.v).length:Int),rI 64 t3],[.box (Ovl.v o),vB 1 AV.int t1.2 (λ_=>rfl)]⟩
def GE(o:Ovl)(t1:Int×List Int)(t3:Int)(x3:Spk)(t4:Int):NF:=⟨[rR 1 0,rV 3 1,rI 6 t3,rR 7 2,(62,.k,.sl 5 (o.sp.map Spk.v) false),rI 63 ((o.sp.map Spk.v).length:Int),rI 64 t3,(77,.k,.sl 3 (x3.peers.map Per.v) false),rI 78 ((x3.peers.map Per.v).length:Int),rI 79 t4],[.box (Ovl.v o),vB 1 AV.int t1.2 (λ_=>rfl),.box (Spk.v x3)]⟩
def GD(o:Ovl)(t1:Int×List Int)(t3:Int)(x5:Lsn)(t5:Bool):NF:=⟨[rR 1 0,rV 3 1,rR 10 2,(62,.k,.sl 5 (o.sp.map Spk.v) false),rI 63 ((o.sp.map Spk.v).length:Int),rI 64 t3,rB 103 t5],[.box (Ovl.v o),vB 1 AV.int t1.2 (λ_=>rfl),.box (Lsn.v x5)]⟩
def GB(o:Ovl)(t1:Int×List Int)(t3:Int)(x5:Lsn)(t6:Int):NF:=⟨[rR 1 0,rV 3 1,(62,.k,.sl 5 (o.sp.map Spk.v) false),rI 63 ((o.sp.map Spk.v).length:Int),rI 64 t3,(105,.k,.sl 4 (x5.heard.map Hrd.v) false),rI 106 ((x5.heard.map Hrd.v).length:Int),rI 107 t6],[.box (Ovl.v o),vB 1 AV.int t1.2 (λ_=>rfl)]⟩
def GA(o:Ovl)(t1:Int×List Int)(t7:Int):NF:=⟨[rV 3 0,(119,.k,.sl 10 (o.fl.map Sig.v) false),rI 120 ((o.fl.map Sig.v).length:Int),rI 121 t7],[vB 1 AV.int t1.2 (λ_=>rfl)]⟩
def G9(o:Ovl)(t1:Int×List Int)(t7:Int)(t8:Bool):NF:=⟨[rV 3 0,(119,.k,.sl 10 (o.fl.map Sig.v) false),rI 120 ((o.fl.map Sig.v).length:Int),rI 121 t7,rB 141 t8],[vB 1 AV.int t1.2 (λ_=>rfl)]⟩
@[reducible] def Bx:Nat→Type
 | 0=>Bool
 | 1=>Int×List Int
 | 2=>Bool
 | 3=>Int
 | 4=>Int
 | 5=>Bool
 | 6=>Int
 | 7=>Int
 | 8=>Bool
 | _=>Unit
def By(r:Int):AV:=.int r
def Bw(o:Ovl)(I0:Bool→Prop)(I1:Bool→(Int×List Int)→Prop)(m1:Bool→(Int×List Int)→Nat)(I2:Bool→Int×List Int→Spk→Bool→Prop)(I3:Bool→Int×List Int→Int→Prop)(m3:Bool→Int×List Int→Int→Nat)(I4:Bool→Int×List Int→Int→Spk→Int→Prop)(m4:Bool→Int×List Int→Int→Spk→Int→Nat)(I5:Bool→Int×List Int→Int→Spk→Int→Lsn→Bool→Prop)(I6:Bool→Int×List Int→Int→Spk→Int→Lsn→Bool→Int→Prop)(m6:Bool→Int×List Int→Int→Spk→Int→Lsn→Bool→Int→Nat)(I7:Bool→Int×List Int→Int→Int→Prop)(m7:Bool→Int×List Int→Int→Int→Nat)(I8:Bool→Int×List Int→Int→Int→Sig→Bool→Prop):Ax Tryz.prog Bx (Int):=
 (.pass (.pass (.join 0 (GI o) (λ(t0:Bool)=>I0 t0) (λb0=>(.br 112 (decide (12<((o.sp.map Spk.v).length:Int))) (.bk 0 b0 ((true):Bool) [0])
(.bk 0 b0 ((((o.ls.map Lsn.v).length:Int) != ((o.sp.map Spk.v).length:Int)):Bool) [0]))) λ(t0:Bool) =>
(.br 1 t0 (.ret (1))
(.cmdL (.nilT 3 1) (.loop 1 (GH o) (I1 t0) (m1 t0) (0,[]) [0,81] λ(t1:Int×List Int) b1 =>
(.br 18 (decide (t1.1<((o.sp.map Spk.v).length:Int))) (.elI 34 Spk.v o.sp t1.1 λx1 =>
(.pass (.join 2 (GG o t1 x1) (λ(t2:Bool)=>I2 t0 t1 x1 t2) (λb2=>(.callP (jP x1)
(.br 178 ((dd x1) != 0) (.bk 2 b2 ((true):Bool) [0,1,66])
(.br 226 (decide (0<t1.1)) (.elI 290 Spk.v o.sp (W (t1.1-1)) λx2 =>
(.bk 2 b2 ((decide (x1.router≤x2.router)):Bool) [0,1,66]))
(.bk 2 b2 ((false):Bool) [0,1,66]))))) λ(t2:Bool) =>
(.br 3 t2 (.ret (1))
(.apX 67 AV.int t1.2 [x1.router] (t1.2.length+1)
(.bk 1 b1 (W (t1.1+1),t1.2++[x1.router]) [0,67]))))))
(.loop 3 (GF o t1) (I3 t0 t1) (m3 t0 t1) ((0):Int) [0,1] λ(t3:Int) b3 =>
(.br 18 (decide (t3<((o.sp.map Spk.v).length:Int))) (.elI 34 Spk.v o.sp t3 λx3 =>
(.br 226 (((x3.peers.map Per.v).length:Int) != (W (((t1.2.map AV.int).length:Int)-1))) (.ret (1))
(.loop 4 (GE o t1 t3 x3) (I4 t0 t1 t3 x3) (m4 t0 t1 t3 x3) ((0):Int) [0,1,66] λ(t4:Int) b4 =>
(.br 19 (decide (t4<((x3.peers.map Per.v).length:Int))) (.elI 19 Per.v x3.peers t4 λx4 =>
(.callP (yB t1.2 x4.router)
(.say (ck (c9 [(t1.2.map AV.int)])) (.br 163 (!(InI t1.2 x4.router)) (.ret (1))
(.bk 4 b4 ((W (t4+1)):Int) [0,1,2])))))
(.elI 67 Lsn.v o.ls t3 λx5 =>
(.pass (.join 5 (GD o t1 t3 x5) (λ(t5:Bool)=>I5 t0 t1 t3 x3 t4 x5 t5) (λb5=>(.callP (sY x5)
(.br 195 ((gB x5) != 0) (.bk 5 b5 ((true):Bool) [0,1,99])
(.bk 5 b5 ((x5.router != x3.router):Bool) [0,1,99])))) λ(t5:Bool) =>
(.br 3 t5 (.ret (1))
(.loop 6 (GB o t1 t3 x5) (I6 t0 t1 t3 x3 t4 x5 t5) (m6 t0 t1 t3 x3 t4 x5 t5) ((0):Int) [0,1] λ(t6:Int) b6 =>
(.br 18 (decide (t6<((x5.heard.map Hrd.v).length:Int))) (.elI 18 Hrd.v x5.heard t6 λx6 =>
(.callP (yB t1.2 x6.router)
(.say (ck (c9 [(t1.2.map AV.int)])) (.br 162 (!(InI t1.2 x6.router)) (.ret (1))
(.bk 6 b6 ((W (t6+1)):Int) [0,1])))))
(.bk 3 b3 ((W (t3+1)):Int) [0,1])))))))))))
(.loop 7 (GA o t1) (I7 t0 t1 t3) (m7 t0 t1 t3) ((0):Int) [1] λ(t7:Int) b7 =>
(.br 17 (decide (t7<((o.fl.map Sig.v).length:Int))) (.elI 17 Sig.v o.fl t7 λx7 =>
(.join 8 (G9 o t1 t7) (λ(t8:Bool)=>I8 t0 t1 t3 t7 x7 t8) (λb8=>(.callP (tn x7)
(.br 145 ((aF x7) != 0) (.bk 8 b8 ((true):Bool) [0])
(.callP (yB t1.2 x7.src)
(.say (ck (c9 [(t1.2.map AV.int)])) (.br 257 (!(InI t1.2 x7.src)) (.bk 8 b8 ((true):Bool) [0])
(.callP (yB t1.2 x7.dst)
(.say (ck (c9 [(t1.2.map AV.int)])) (.bk 8 b8 ((!(InI t1.2 x7.dst)):Bool) [0]))))))))) λ(t8:Bool) =>
(.br 1 t8 (.ret (1))
(.bk 7 b7 ((W (t7+1)):Int) [0]))))
(.ret (0)))))))))))))
theorem ME(o:Ovl)(ok:Bz o):∃I0 I1 m1 I2 I3 m3 I4 m4 I5 I6 m6 I7 m7 I8,(Bw o I0 I1 m1 I2 I3 m3 I4 m4 I5 I6 m6 I7 m7 I8).vp By (gZ o):=by
 unfold Bz at ok;obtain⟨l1,l2,l3⟩:=vQ ok
 refine⟨λt=>t=false↔(o.sp.length≤12∧o.ls.length=o.sp.length),
  λ_ t=>∃k:Nat,t=((k:Int),aC (o.sp.take k))∧k≤o.sp.length∧∀i s,i<k→o.sp[i]?=some s→aV s∧(0<i→∀y,o.sp[i-1]?=some y→y.router<s.router),λ_ t=>o.sp.length-t.1.toNat,
  λ_ t1 x t=>t=false↔(aV x∧(0<t1.1.toNat→∀y,o.sp[t1.1.toNat-1]?=some y→y.router<x.router)),
  λ_ _ t=>∃k:Nat,t=k∧k≤o.sp.length∧∀i s l,i<k→o.sp[i]?=some s→o.ls[i]?=some l→RefK (aC o.sp) s l,λ_ _ t=>o.sp.length-t.toNat,
  λ_ _ _ x t=>∃j:Nat,t=j∧j≤x.peers.length∧∀p∈x.peers.take j,p.router∈aC o.sp,λ_ _ _ x t=>x.peers.length-t.toNat,
  λ_ _ _ x _ y t=>t=false↔(bX y∧y.router=x.router),
  λ_ _ _ _ _ y _ t=>∃k:Nat,t=k∧k≤y.heard.length∧∀h∈y.heard.take k,h.router∈aC o.sp,λ_ _ _ _ _ y _ t=>y.heard.length-t.toNat,
  λ_ _ _ t=>∃k:Nat,t=k∧k≤o.fl.length∧∀x∈o.fl.take k,cS (aC o.sp) x,λ_ _ _ t=>o.fl.length-t.toNat,
  λ_ _ _ _ x t=>t=false↔cS (aC o.sp) x,?_⟩
 dsimp only[Bw,Bx,Ax.vp,Ax.vc];simp only[vcU,rfU,f'];refine⟨⟨λh1=>by simp;omega,λh1=>by simp;omega⟩,?_⟩;intro t0 h0
 refine⟨λe=>?_,λe=>?_⟩
 ·subst e;exact fY λq=>by have:=h0.mpr (gJ.mp q).1;simp at this
 obtain⟨n1,n2⟩:=h0.mp e;have hR:(aC o.sp).length=o.sp.length:=fm;refine⟨⟨0,rfl,by omega,λi s hi=>by omega⟩,?_⟩;rintro _ ⟨k,rfl,hk,hI⟩;simp only[Int.toNat_natCast]
 refine⟨λh1=>⟨by omega,by omega,λx hx=>⟨⟨λa1=>?_,λa1=>⟨λa2=>⟨?_,?_,λy hy=>?_⟩,λa2=>?_⟩⟩,?_⟩⟩,λh1=>⟨⟨0,rfl,by omega,λi s l hi=>by omega⟩,?_⟩⟩
 ·have a1:¬dd x=0:=by simpa using a1
  rw[mL]at a1;simp[a1]
 ·rw[ci (by omega)];omega
 ·rw[ci (by omega)];omega
 ·have a1:dd x=0:=by simpa using a1
  have e3:(W ((k:Int)-1)).toNat=k-1:=by rw[ci (by omega)];omega
  rw[e3]at hy;rw[mL]at a1;rw[hy];simp only[aL',forall_eq',decide_eq_false_iff_not];exact⟨λq=>⟨a1,λ_=>by omega⟩,λq=>by have:=q.2 (by omega);omega⟩
 ·have a1:dd x=0:=by simpa using a1
  rw[mL]at a1;simp only[true_iff];exact⟨a1,λq=>by omega⟩
 ·intro t2 h2
  refine⟨λe=>?_,λe=>⟨by rw[fm];simp;omega,⟨k+1,?_,by omega,λi s hi hs=>?_⟩,?_⟩⟩
  ·subst e;exact fY λq=>by
    have d:=(gJ.mp q).2.1 k x hx;have:=h2.mpr d;simp at this
  ·rw[am (n:=o.sp.length) (by omega) (by omega),al hx];simp[aC]
  ·by_cases ei:i=k
   ·subst ei;rw[hx]at hs;cases hs;exact h2.mp e
   ·exact hI i s (by omega) hs
  ·rw[am (n:=o.sp.length) (by omega) (by omega)];omega
 ·have hk:k=o.sp.length:=by omega
  have eR:aC (o.sp.take k)=aC o.sp:=by rw[hk,ai']
  rw[eR];have hI:∀i s,o.sp[i]?=some s→aV s∧(0<i→∀y,o.sp[i-1]?=some y→y.router<s.router):=λi s hs=>hI i s (by have:=av hs;omega) hs;have hL:c9 [(aC o.sp).map AV.int]=true:=nS (ae (λ_=>rfl) _);clear eR;rintro _ ⟨k,rfl,hk,hK⟩;simp only[Int.toNat_natCast,InI]
  refine⟨λb1=>⟨by omega,by omega,λx hx=>⟨λc1=>?_,λc1=>⟨⟨0,rfl,by omega,by simp⟩,?_⟩⟩⟩,λb1=>⟨⟨0,rfl,by omega,by simp⟩,?_⟩⟩
  ·obtain⟨l,hl⟩:∃l,o.ls[k]?=some l:=⟨_,E' (by omega)⟩
   refine fY λq=>?_;have d:=((gJ.mp q).2.2.1 k x l hx hl).n;rw[ci (by omega)]at c1;simp at c1;omega
  ·have hn:x.peers.length+1=(aC o.sp).length:=by
    rw[ci (by omega)]at c1;simp at c1;omega
   have hs:=hI k x hx;have hxp:=hs.1.2.2.2.2.1;rintro _ ⟨j,rfl,hj,hJ⟩;simp only[Int.toNat_natCast]
   refine⟨λd1=>⟨by omega,by omega,λp hp=>⟨hL,λd2=>?_,λd2=>?_⟩⟩,λd1=>⟨by omega,by omega,λy hy=>⟨⟨λf1=>?_,λf1=>?_⟩,?_⟩⟩⟩
   ·have d2:¬p.router∈aC o.sp:=by simpa using d2
    obtain⟨l,hl⟩:∃l,o.ls[k]?=some l:=⟨_,E' (by omega)⟩
    exact fY λq=>d2 (((gJ.mp q).2.2.1 k x l hx hl).p p (ax hp))
   ·rw[am (n:=x.peers.length) (by omega) (by omega)];exact⟨⟨j+1,rfl,by omega,jk hp hJ (by simpa using d2)⟩,by omega⟩
   ·have f1:¬gB y=0:=by simpa using f1
    rw[sX]at f1;simp[f1]
   ·have f1:gB y=0:=by simpa using f1
    rw[sX]at f1;simp[f1]
   ·intro t5 h5;have ej:j=x.peers.length:=by omega
    rw[ej,ai']at hJ
    refine⟨λe=>?_,λe=>⟨⟨0,rfl,by omega,by simp⟩,?_⟩⟩
    ·subst e;exact fY λq=>by
      have d:=(gJ.mp q).2.2.1 k x y hx hy;have:=h5.mpr ⟨d.lo,d.lr⟩;simp at this
    obtain⟨g1,g2⟩:=h5.mp e;have hh:=g1.2.2.1;rintro _ ⟨m,rfl,hm,hM⟩;simp only[Int.toNat_natCast]
    refine⟨λd1=>⟨by omega,by omega,λz hz=>⟨hL,λd2=>?_,λd2=>?_⟩⟩,λd1=>?_⟩
    ·have d2:¬z.router∈aC o.sp:=by simpa using d2
     exact fY λq=>d2 (((gJ.mp q).2.2.1 k x y hx hy).h z (ax hz))
    ·rw[am (n:=y.heard.length) (by omega) (by omega)];exact⟨⟨m+1,rfl,by omega,jk hz hM (by simpa using d2)⟩,by omega⟩
    ·have em:m=y.heard.length:=by omega
     rw[em,ai']at hM;rw[am (n:=o.sp.length) (by omega) (by omega)];refine⟨⟨k+1,rfl,by omega,λi s l hi hs' hl'=>?_⟩,by omega⟩
     by_cases ei:i=k
     ·subst ei;rw[hx]at hs';rw[hy]at hl';cases hs';cases hl';exact⟨hn,hJ,g1,g2,hM⟩
     ·exact hK i s l (by omega) hs' hl'
  ·rintro _ ⟨j,rfl,hj,hJ⟩;simp only[Int.toNat_natCast]
   refine⟨λc1=>⟨by omega,by omega,λx hx=>⟨⟨λa1=>?_,λa1=>⟨hL,λa2=>?_,λa2=>⟨hL,?_⟩⟩⟩,?_⟩⟩,λc1=>?_⟩
   ·have a1:¬aF x=0:=by simpa using a1
    simp[cS,a1]
   ·have a2:¬x.src∈aC o.sp:=by simpa using a2
    simp[cS,a2]
   ·have a1:aF x=0:=by simpa using a1
    have a2:x.src∈aC o.sp:=by simpa using a2
    simp[cS,a1,a2]
   ·intro t6 h6
    refine⟨λe=>?_,λe=>?_⟩
    ·subst e;exact fY λq=>by have:=h6.mpr ((gJ.mp q).2.2.2 x (ax hx));simp at this
    ·rw[am (n:=o.fl.length) (by omega) (by omega)];exact⟨⟨j+1,rfl,by omega,jk hx hJ (h6.mp e)⟩,by omega⟩
   ·have hj:j=o.fl.length:=by omega
    rw[hj,ai']at hJ;exact(if_pos (gJ.mpr ⟨⟨n1,n2⟩,hI,λi s l hs hl=>hK i s l (by have:=av hs;omega) hs hl,hJ⟩)).symm
def lG(o:Ovl):PC Tryz.prog:=pcO 57 [(.a [(.s 5),(.s 3),(.s 10)])] [Ovl.v o] .k By (gZ o) (λok=>let ⟨I0,I1,m1,I2,I3,m3,I4,m4,I5,I6,m6,I7,m7,I8,h⟩:=ME o ok;⟨_,h,by kernel_rfl⟩) rfl (by kernel_rfl)
theorem sW{o:Ovl}:gZ o=0↔bF o:=by
 unfold gZ;by_cases h:bF o<;>simp[h]
theorem pN{o:Ovl}(h:bF o){r:Int}(hr:r∈aC o.sp):cB o.sp r=(bi o.sp r:Int):=by rw[wU h,if_pos hr]
theorem iO{o:Ovl}(h:bF o){r:Int}:cB o.sp r<0↔r ∉ aC o.sp:=by
 rw[wU h]
 split
 ·rename_i hr;simp[hr]
 ·rename_i hr;simp[hr]
def DU(r:Ovl×Int):AV:=.tup [Ovl.v r.1,.int r.2]
def uA(o:Ovl)(router:Int)(wants:List Wnt):Ax Tryz.prog noS (Ovl×Int):=
 (.callP (lG o)
(.br 128 ((gZ o) != 0) (.ret ((⟨[],[],[]⟩:Ovl),gZ o))
(.callP (mi o router)
(.br 224 (decide ((cB o.sp router)<0)) (.ret ((⟨[],[],[]⟩:Ovl),4))
(.callP (oS wants)
(.br 304 ((aI false wants) != 0) (.ret ((⟨[],[],[]⟩:Ovl),aI false wants))
(.elI 352 Spk.v o.sp (cB o.sp router) λx1 =>
(.callP (oP x1.items)
(.callP (PF (aq x1.items) wants)
(.br 560 (((ah (aq x1.items) wants).2) != 0) (.ret ((⟨[],[],[]⟩:Ovl),(ah (aq x1.items) wants).2))
(.elI 608 Spk.v o.sp (cB o.sp router) λx2 =>
(.callP (FN x2 ((ah (aq x1.items) wants).1))
(.br 800 (((change x2 ((ah (aq x1.items) wants).1)).2) != 0) (.ret ((⟨[],[],[]⟩:Ovl),(change x2 ((ah (aq x1.items) wants).1)).2))
(.req 816 (o.sp.length≤1000000∧o.ls.length≤1000000∧o.fl.length≤1000000) λh3 =>
(.callH [] (Aq o h3) 816
(.stJ 944 Spk.v o.sp (cB o.sp router) (λy4=>((change x2 ((ah (aq x1.items) wants).1)).1)) λy4 =>
(.fz 818 Sig.v o.fl (λ_=>rfl) (.fz 817 Lsn.v o.ls (λ_=>rfl) (.fz 816 Spk.v (o.sp.set ((cB o.sp router).toNat) ((change x2 ((ah (aq x1.items) wants).1)).1)) (λ_=>rfl) (.ret ((⟨o.sp.set ((cB o.sp router).toNat) ((change x2 ((ah (aq x1.items) wants).1)).1),o.ls,o.fl⟩:Ovl),0)))))))))))))))))))))
theorem PL(o:Ovl)(r:Int)(w:List Wnt)(h:o.fl.length≤1000000):(uA o r w).vp DU (aS o r w):=by
 dsimp only[uA,noS,Ax.vp,Ax.vc];simp only[vcU,rfU,f'];unfold aS;by_cases h1:bF o
 case neg =>
  have:gZ o=1:=u' h1;rw[if_pos h1,this];simp[je]
 rw[u' (not_not_intro h1),sW.mpr h1];have hL:=h1.1.lens
 refine⟨λq=>by simp at q,λ_=>⟨λq=>?_,λq=>?_⟩⟩
 ·rw[if_pos ((iO h1).mp q)];rfl
 have h2:r∈aC o.sp:=X'.mp λc=>q ((iO h1).mpr c);obtain⟨p1,p2,p3,p4⟩:=tG h1 h2;rw[u' (not_not_intro h2),pN h1 h2];simp only[Int.toNat_natCast]
 refine⟨λc=>?_,λc=>⟨by omega,by omega,λx hx=>?_⟩⟩
 ·rw[if_pos (by simpa using c)];rfl
 rw[u' (by simpa using c)];cases p3.symm.trans hx
 refine⟨λc=>?_,λc=>⟨by omega,by omega,λy hy=>?_⟩⟩
 ·rw[if_pos (by simpa using c)];rfl
 rw[u' (by simpa using c)];cases p3.symm.trans hy
 refine⟨λd=>?_,λd=>?_⟩
 ·rw[if_pos (by simpa using d)];rfl
 rw[u' (by simpa using d)];exact⟨⟨by omega,by omega,h⟩,by simp;omega,by omega,λz hz=>rfl⟩
def DV(o:Ovl)(router:Int)(wants:List Wnt)(h:o.fl.length≤1000000):PC Tryz.prog:=pcO 46 [(.a [(.s 5),(.s 3),(.s 10)]),.k,(.s 3)] [Ovl.v o,.int router,.sl 3 (wants.map Wnt.v) false] (.a [(.a [(.s 5),(.s 3),(.s 10)]),.k]) DU (aS o router wants) (λ_=>⟨(uA o router wants),PL o router wants h,by kernel_rfl⟩) rfl (by kernel_rfl)
def C2(r:Ovl×Int):AV:=.tup [Ovl.v r.1,.int r.2]
def tz(o:Ovl)(router:Int)(wants:List Wnt):Ax Tryz.prog noS (Ovl×Int):=
 (.callP (lG o)
(.br 128 ((gZ o) != 0) (.ret ((⟨[],[],[]⟩:Ovl),gZ o))
(.callP (mi o router)
(.br 224 (decide ((cB o.sp router)<0)) (.ret ((⟨[],[],[]⟩:Ovl),4))
(.elI 272 Spk.v o.sp (cB o.sp router) λx1 =>
(.callP (zk x1 wants)
(.br 464 (((restart x1 wants).2) != 0) (.ret ((⟨[],[],[]⟩:Ovl),(restart x1 wants).2))
(.elI 512 Lsn.v o.ls (cB o.sp router) λx2 =>
(.br 576 (decide (1000000≤x2.epoch)) (.ret ((⟨[],[],[]⟩:Ovl),3))
(.req 592 (o.sp.length≤1000000∧o.ls.length≤1000000∧o.fl.length≤1000000) λh3 =>
(.callH [] (Aq o h3) 592
(.stJ 720 Spk.v o.sp (cB o.sp router) (λy4=>((restart x1 wants).1)) λy4 =>
(.elI 848 Lsn.v o.ls (cB o.sp router) λx5 =>
(.say (ck (cond (decide (0≤(cB o.sp router))) (decide ((cB o.sp router)<((o.ls.map Lsn.v).length:Int))) false)) (.stI 944 Lsn.v o.ls (λR=>Rf (o.ls.map Lsn.v) (ck (decide ((cB o.sp router).toNat<o.ls.length))
(∀y6,o.ls[(cB o.sp router).toNat]?=some y6 →
((R y6))))) λy6 =>
(.say (λR=>Rf (α:=List AV) ((o.ls.map Lsn.v).set ((cB o.sp router).toNat) (.agg [.int router,.int (W (x5.epoch+1)),.sl 0 [] true])) (Rf (Lsn.v (⟨router,W (x5.epoch+1),[]⟩:Lsn))
R)) (.cmd (.wkS 593 ((cB o.sp router).toNat) (.a [.k,.k,(.s 4)]) Lsn.v o.ls (.agg [.int router,.int (W (x5.epoch+1)),.sl 0 [] true]) (⟨router,W (x5.epoch+1),[]⟩:Lsn)) (.fz 594 Sig.v o.fl (λ_=>rfl) (.fz 593 Lsn.v (o.ls.set ((cB o.sp router).toNat) (⟨router,W (x5.epoch+1),[]⟩:Lsn)) (λ_=>rfl) (.fz 592 Spk.v (o.sp.set ((cB o.sp router).toNat) ((restart x1 wants).1)) (λ_=>rfl) (.ret ((⟨o.sp.set ((cB o.sp router).toNat) ((restart x1 wants).1),o.ls.set ((cB o.sp router).toNat) (⟨router,W (x5.epoch+1),[]⟩:Lsn),o.fl⟩:Ovl),0))))))))))))))))))))))
theorem NZ(o:Ovl)(r:Int)(w:List Wnt)(h:o.fl.length≤1000000):(tz o r w).vp C2 (bE o r w):=by
 dsimp only[tz,noS,Ax.vp,Ax.vc];simp only[vcU,rfU,f'];unfold bE;by_cases h1:bF o
 case neg =>
  have:gZ o=1:=u' h1;rw[if_pos h1,this];simp[je]
 rw[u' (not_not_intro h1),sW.mpr h1];have hL:=h1.1.lens
 refine⟨λq=>by simp at q,λ_=>⟨λq=>?_,λq=>?_⟩⟩
 ·rw[if_pos ((iO h1).mp q)];rfl
 have h2:r∈aC o.sp:=X'.mp λc=>q ((iO h1).mpr c);obtain⟨p1,p2,p3,p4⟩:=tG h1 h2;have he:=(h1.1.lso _ (ax p4)).1.2.1;rw[u' (not_not_intro h2),pN h1 h2];simp only[Int.toNat_natCast];refine⟨by omega,by omega,λx hx=>?_⟩;cases p3.symm.trans hx
 refine⟨λc=>?_,λc=>⟨by omega,by omega,λy hy=>?_⟩⟩
 ·rw[if_pos (by simpa using c)];rfl
 rw[u' (by simpa using c)];cases p4.symm.trans hy
 refine⟨λd=>?_,λd=>?_⟩
 ·rw[if_pos (by omega)];rfl
 rw[u' (by omega)];refine⟨⟨by omega,by omega,h⟩,by simp;omega,by omega,λz hz=>⟨by omega,by omega,λu hu=>⟨by simp;omega,by omega,λv hv=>?_⟩⟩⟩;cases p4.symm.trans hu;rw[ci (by omega)]
def Oa(o:Ovl)(router:Int)(wants:List Wnt)(h:o.fl.length≤1000000):PC Tryz.prog:=pcO 133 [(.a [(.s 5),(.s 3),(.s 10)]),.k,(.s 3)] [Ovl.v o,.int router,.sl 3 (wants.map Wnt.v) false] (.a [(.a [(.s 5),(.s 3),(.s 10)]),.k]) C2 (bE o router wants) (λ_=>⟨(tz o router wants),NZ o router wants h,by kernel_rfl⟩) rfl (by kernel_rfl)
theorem Sb{R:List Int}{sp sp':List Spk}{ls ls':List Lsn}(h:bH R sp ls)(h':bH R sp' ls')(r:Int):bi sp r=bi sp' r:=
 eZ (key:=Spk.router) (key':=Spk.router) (h.spr.trans h'.spr.symm) r
def HY(o:Ovl)(faults:List Fau)(t0:Int×List Spk×List Sig×List Lsn):NF:=⟨[rR 2 0,rR 4 1,rR 7 2,rV 41 6,rI 42 ((((arr o.fl faults).1).map Sig.v).length:Int),rI 43 t0.1],[.box (Ovl.v o),.box (.agg [.sl 0 [] true,.sl 0 [] true,.sl 0 [] true]),.box (.agg [.vec 3,.vec 4,.vec 5]),vB 5 Spk.v t0.2.1 (λ_=>rfl),vB 3 Lsn.v t0.2.2.2 (λ_=>rfl),vB 10 Sig.v t0.2.2.1 (λ_=>rfl),vB 10 Sig.v ((arr o.fl faults).1) (λ_=>rfl)]⟩
def HX(t0:Int×List Spk×List Sig×List Lsn)(t1:Int×List Sig):NF:=⟨[rR 4 0,rR 7 1,rV 97 2,rI 98 ((t0.2.1.map Spk.v).length:Int),rI 99 t1.1],[.box (.agg [.sl 0 [] true,.sl 0 [] true,.sl 0 [] true]),.box (.agg [.vec 2,.vec 3,.vec 4]),vB 5 Spk.v t0.2.1 (λ_=>rfl),vB 3 Lsn.v t0.2.2.2 (λ_=>rfl),vB 10 Sig.v t1.2 (λ_=>rfl)]⟩
def HW(t0:Int×List Spk×List Sig×List Lsn)(t1:Int×List Sig)(x8:Spk)(t2:Int×List Sig):NF:=⟨[rR 4 0,rR 7 1,rR 19 5,rV 97 2,rI 98 ((t0.2.1.map Spk.v).length:Int),rI 99 t1.1,(104,.k,.sl 3 (x8.peers.map Per.v) false),rI 105 ((x8.peers.map Per.v).length:Int),rI 106 t2.1],[.box (.agg [.sl 0 [] true,.sl 0 [] true,.sl 0 [] true]),.box (.agg [.vec 2,.vec 3,.vec 4]),vB 5 Spk.v t0.2.1 (λ_=>rfl),vB 3 Lsn.v t0.2.2.2 (λ_=>rfl),vB 10 Sig.v t2.2 (λ_=>rfl),.box (Spk.v x8)]⟩
@[reducible] def tB:Nat→Type
 | 0=>Int×List Spk×List Sig×List Lsn
 | 1=>Int×List Sig
 | 2=>Int×List Sig
 | _=>Unit
def C3(r:Ovl×Int):AV:=.tup [Ovl.v r.1,.int r.2]
def tA(o:Ovl)(faults:List Fau)(I0:(Int×List Spk×List Sig×List Lsn)→Prop)(m0:(Int×List Spk×List Sig×List Lsn)→Nat)(I1:Int×List Spk×List Sig×List Lsn→(Int×List Sig)→Prop)(m1:Int×List Spk×List Sig×List Lsn→(Int×List Sig)→Nat)(I2:Int×List Spk×List Sig×List Lsn→Int×List Sig→Spk→(Int×List Sig)→Prop)(m2:Int×List Spk×List Sig×List Lsn→Int×List Sig→Spk→(Int×List Sig)→Nat):Ax Tryz.prog tB (Ovl×Int):=
 (.callP (lG o)
(.br 128 ((gZ o) != 0) (.ret ((⟨[],[],[]⟩:Ovl),gZ o))
(.req 144 (o.sp.length≤1000000∧o.ls.length≤1000000∧o.fl.length≤1000000) λh1 =>
(.callH [] (Aq o h1) 144
(.req 240 (CH o.fl faults) λh2 =>
(.callH [] (TL o.fl faults h2) 240
(.loop 0 (HY o faults) I0 m0 (0,o.sp,(arr o.fl faults).2,o.ls) [0,16,160,144,145,241,240] λ(t0:Int×List Spk×List Sig×List Lsn) b0 =>
(.br 23 (decide (t0.1<((((arr o.fl faults).1).map Sig.v).length:Int))) (.elJ 39 Sig.v ((arr o.fl faults).1) t0.1 λx3 =>
(.callP (mi o x3.dst)
(.br 215 (x3.kind==3) (.elJ 279 Spk.v t0.2.1 (cB o.sp x3.dst) λx4 =>
(.callP (TY x4 x3)
(.br 455 (((ack x4 x3).2)==0) (.stJ 535 Spk.v t0.2.1 (cB o.sp x3.dst) (λy5=>((ack x4 x3).1)) λy5 =>
(.bk 0 b0 (W (t0.1+1),t0.2.1.set ((cB o.sp x3.dst).toNat) ((ack x4 x3).1),t0.2.2.1,t0.2.2.2) [0,1,2,3,4,5,6]))
(.bk 0 b0 (W (t0.1+1),t0.2.1,t0.2.2.1,t0.2.2.2) [0,1,2,3,4,5,6]))))
(.elJ 279 Lsn.v t0.2.2.2 (cB o.sp x3.dst) λx6 =>
(.callP (Pk x6 x3)
(.br 503 (((hear x6 x3).2)==0) (.stJ 583 Lsn.v t0.2.2.2 (cB o.sp x3.dst) (λy7=>((hear x6 x3).1.1)) λy7 =>
(.apX 663 Sig.v t0.2.2.1 [(hear x6 x3).1.2] (t0.2.2.1.length+1)
(.bk 0 b0 (W (t0.1+1),t0.2.1,t0.2.2.1++[(hear x6 x3).1.2],t0.2.2.2.set ((cB o.sp x3.dst).toNat) ((hear x6 x3).1.1)) [0,1,2,3,4,663,6])))
(.bk 0 b0 (W (t0.1+1),t0.2.1,t0.2.2.1,t0.2.2.2) [0,1,2,3,4,5,6])))))))
(.loop 1 (HX t0) (I1 t0) (m1 t0) (0,t0.2.2.1) [1,2,3,4,5] λ(t1:Int×List Sig) b1 =>
(.br 21 (decide (t1.1<((t0.2.1.map Spk.v).length:Int))) (.elJ 37 Spk.v t0.2.1 t1.1 λx8 =>
(.loop 2 (HW t0 t1 x8) (I2 t0 t1 x8) (m2 t0 t1 x8) (0,t1.2) [0,1,2,3,4,53] λ(t2:Int×List Sig) b2 =>
(.br 22 (decide (t2.1<((x8.peers.map Per.v).length:Int))) (.elI 22 Per.v x8.peers t2.1 λx9 =>
(.callP (Nu x8 x9.router)
(.apX 278 Sig.v t2.2 ((send x8 x9.router).1) (t2.2.length+((send x8 x9.router).1).length)
(.bk 2 b2 (W (t2.1+1),t2.2++((send x8 x9.router).1)) [0,1,2,3,278,5]))))
(.bk 1 b1 (W (t1.1+1),t2.2) [0,1,2,3,4]))))
(.fz 4 Sig.v t1.2 (λ_=>rfl) (.fz 3 Lsn.v t0.2.2.2 (λ_=>rfl) (.fz 2 Spk.v t0.2.1 (λ_=>rfl) (.ret ((⟨t0.2.1,t0.2.2.2,t1.2⟩:Ovl),0)))))))))))))))
theorem Ob(o:Ovl)(f:List Fau)(h:rO o f):∃I0 m0 I1 m1 I2 m2,(tA o f I0 m0 I1 m1 I2 m2).vp C3 (roundO o f):=by
 obtain⟨h1,h2⟩:=h;by_cases hv:bF o
 case neg =>
  refine⟨λ_=>True,λ_=>0,λ_ _=>True,λ_ _=>0,λ_ _ _ _=>True,λ_ _ _ _=>0,?_⟩;have e:roundO o f=(je,1):=if_pos hv;have e2:gZ o=1:=u' hv;rw[e];dsimp only[tA,tB,Ax.vp,Ax.vc];simp only[vcU,rfU,f'];simp[e2,je]
 have hn:=hv.1;obtain⟨hnow,hlate⟩:=uE (P:=cS (aC o.sp)) (f:=f) hv.2;have hlen:=uF (l:=o.fl) (f:=f);have e:roundO o f=(eY o (arr o.fl f).1 (arr o.fl f).2,0):=u' (not_not_intro hv);rw[e];have hA:CH o.fl f:=⟨by omega,h2,λx hx=>vr (hv.2 x hx).1⟩
 refine⟨λt=>∃k:Nat,t=((k:Int),(((arr o.fl f).1.take k).foldl aR ((o.sp,o.ls),(arr o.fl f).2)).1.1,(((arr o.fl f).1.take k).foldl aR ((o.sp,o.ls),(arr o.fl f).2)).2,(((arr o.fl f).1.take k).foldl aR ((o.sp,o.ls),(arr o.fl f).2)).1.2)∧k≤(arr o.fl f).1.length,
  λt=>(arr o.fl f).1.length-t.1.toNat,
  λt0 t=>∃j:Nat,t=((j:Int),t0.2.2.1++(t0.2.1.take j).flatMap jm)∧j≤t0.2.1.length,λt0 t=>t0.2.1.length-t.1.toNat,
  λt0 t1 x t=>∃i:Nat,t=((i:Int),t1.2++(x.peers.take i).flatMap λp=>(send x p.router).1)∧i≤x.peers.length,λt0 t1 x t=>x.peers.length-t.1.toNat,?_⟩
 dsimp only[tA,tB,Ax.vp,Ax.vc];simp only[vcU,rfU,f'];generalize (arr o.fl f).1=now at *
 generalize (arr o.fl f).2=late at *
 have hLo:=hn.lens;refine⟨λq=>by rw[sW.mpr hv]at q;simp at q,λ_=>⟨⟨by omega,by omega,by omega⟩,hA,⟨0,rfl,by omega⟩,?_⟩⟩;rintro _ ⟨k,rfl,hk⟩;have d:=j6 (l:=now.take k) (s:=((o.sp,o.ls),late)) hn λx hx=>hnow x (T' hx);have dl:=fO (l:=now.take k) (s:=((o.sp,o.ls),late));have hst:∀x,now[k]?=some x→(now.take (k+1)).foldl aR ((o.sp,o.ls),late)=aR ((now.take k).foldl aR ((o.sp,o.ls),late)) x:=λx hx=>by rw[al hx,aO'];rfl
 have hend:k=now.length→eY o now late=⟨((now.take k).foldl aR ((o.sp,o.ls),late)).1.1,((now.take k).foldl aR ((o.sp,o.ls),late)).1.2,((now.take k).foldl aR ((o.sp,o.ls),late)).2++k8 ((now.take k).foldl aR ((o.sp,o.ls),late)).1.1⟩:=λe=>by rw[e,ai'];rfl
 generalize (now.take k).foldl aR ((o.sp,o.ls),late)=s at *
 obtain⟨⟨sp,ls⟩,out⟩:=s;have dn:=d.net;simp only at dn;obtain⟨n1,n2⟩:=dn.lens;rw[aa']at dl;simp only[Int.toNat_natCast]at dl ⊢
 refine⟨λa1=>⟨by simp;omega,by omega,λx hx=>?_⟩,λa1=>⟨⟨0,by simp,by omega⟩,?_⟩⟩
 ·have e1:=hst x hx;have hxi:=(hnow x (ax hx)).2.2;obtain⟨p1,p2,p3,p4⟩:=dn.pos hxi;rw[am (n:=now.length) (by omega) (by omega),pN hv hxi,Sb hn dn];simp only[Int.toNat_natCast]
  have fin:∀a b c,aR ((sp,ls),out) x=((a,c),b)→(∃k_1:Nat,(((k+1:Nat):Int),a,b,c)=((k_1:Int),((now.take k_1).foldl aR ((o.sp,o.ls),late)).1.1,((now.take k_1).foldl aR ((o.sp,o.ls),late)).2,((now.take k_1).foldl aR ((o.sp,o.ls),late)).1.2)∧k_1≤now.length)∧now.length-((k+1:Nat):Int).toNat<now.length-k:=λa b c e =>
   ⟨⟨k+1,by rw[e1,e],by omega⟩,by omega⟩
  refine⟨λc1=>⟨by simp;omega,by omega,λy hy=>⟨λc2=>⟨by simp;omega,by omega,λz hz=>fin _ _ _ ?_⟩,λc2=>fin _ _ _ ?_⟩⟩,λc1=>⟨by simp;omega,by omega,λy hy=>⟨λc2=>⟨by simp;omega,by omega,λz hz=>⟨by omega,fin _ _ _ ?_⟩⟩,λc2=>fin _ _ _ ?_⟩⟩⟩
  ·cases p3.symm.trans hy;unfold aR;rw[if_pos (by simpa using c1),if_pos (by simpa using c2)]
  ·cases p3.symm.trans hy;unfold aR;rw[if_pos (by simpa using c1),u' (by simpa using c2)]
  ·cases p4.symm.trans hy;unfold aR;rw[u' (by simpa using c1),if_pos (by simpa using c2)]
  ·cases p4.symm.trans hy;unfold aR;rw[u' (by simpa using c1),u' (by simpa using c2)]
 ·have he:=hend (by omega);rintro _ ⟨j,rfl,hj⟩;have hsj:((sp.take j).flatMap jm).length≤14400:=by
   have:((sp.take j).flatMap jm).length≤(sp.take j).length * 1200:=flat_len λs hs=>by
    have:(jm s).length≤s.peers.length * 100:=flat_len λp _=>o7;have:=(dn.spo s (T' hs)).1.2.2.2.2.1;omega
   rw[aa']at this;omega
  simp only[Int.toNat_natCast]
  refine⟨λb1=>⟨by simp;omega,by omega,λx hx=>⟨⟨0,by simp,by omega⟩,?_⟩⟩,λb1=>?_⟩
  ·have hxp:=(dn.spo x (ax hx)).1.2.2.2.2.1;rintro _ ⟨i,rfl,hi⟩;have hpi:((x.peers.take i).flatMap λp=>(send x p.router).1).length≤1200:=by
    have:((x.peers.take i).flatMap λp=>(send x p.router).1).length≤(x.peers.take i).length * 100:=flat_len λp _=>o7;rw[aa']at this;omega
   simp only[Int.toNat_natCast]
   refine⟨λc1=>⟨by omega,by omega,λp hp=>⟨?_,⟨i+1,?_,by omega⟩,?_⟩⟩,λc1=>⟨⟨j+1,?_,by omega⟩,?_⟩⟩
   ·have:=o7 (s:=x) (to:=p.router);simp only[Y'];omega
   ·rw[am (n:=x.peers.length) (by omega) (by omega),flat_take hp];simp
   ·rw[am (n:=x.peers.length) (by omega) (by omega)];omega
   ·have ei:i=x.peers.length:=by omega
    rw[am (n:=sp.length) (by omega) (by omega),flat_take hx,ei,ai'];simp[jm]
   ·rw[am (n:=sp.length) (by omega) (by omega)];omega
  ·have ej:j=sp.length:=by omega
   rw[ej,ai',he];rfl
def oA(o:Ovl)(faults:List Fau)(h:rO o faults):PC Tryz.prog:=pcO 13 [(.a [(.s 5),(.s 3),(.s 10)]),(.s 2)] [Ovl.v o,.sl 2 (faults.map Fau.v) false] (.a [(.a [(.s 5),(.s 3),(.s 10)]),.k]) C3 (roundO o faults) (λ_=>let ⟨I0,m0,I1,m1,I2,m2,h⟩:=Ob o faults h;⟨_,h,by kernel_rfl⟩) rfl (by kernel_rfl)
def Jv(o:Ovl)(at_:Int)(of_:Int)(t0:Bool):NF:=⟨[rI 2 of_,rR 3 0,rI 9 (cB o.sp at_),rI 10 (cB o.sp of_),rB 27 t0],[.box (Ovl.v o)]⟩
@[reducible] def Dh:Nat→Type
 | 0=>Bool
 | _=>Unit
def Di(r:List Wnt×Int):AV:=.tup [.sl 3 (r.1.map Wnt.v) false,.int r.2]
def Dg(o:Ovl)(at_:Int)(of_:Int)(I0:Bool→Prop):Ax Tryz.prog Dh (List Wnt×Int):=
 (.callP (lG o)
(.br 128 ((gZ o) != 0) (.ret ([],gZ o))
(.callP (mi o at_)
(.callP (mi o of_)
(.pass (.join 0 (Jv o at_ of_) (λ(t0:Bool)=>I0 t0) (λb0=>(.br 304 (decide ((cB o.sp at_)<0)) (.bk 0 b0 ((true):Bool) [0])
(.bk 0 b0 ((decide ((cB o.sp of_)<0)):Bool) [0]))) λ(t0:Bool) =>
(.br 1 t0 (.ret ([],4))
(.br 49 ((cB o.sp at_)==(cB o.sp of_)) (.elI 97 Spk.v o.sp (cB o.sp of_) λx1 =>
(.callP (oP x1.items)
(.ret (aq x1.items,0))))
(.elI 97 Lsn.v o.ls (cB o.sp at_) λx2 =>
(.callP (Jx x2 of_)
(.ret (dS x2 of_,0))))))))))))
theorem OY(o:Ovl)(a b:Int):∃I0,(Dg o a b I0).vp Di (cF o a b):=by
 refine⟨λt=>t=decide (a ∉ aC o.sp∨b ∉ aC o.sp),?_⟩;dsimp only[Dg,Dh,Ax.vp,Ax.vc];simp only[vcU,rfU,f'];have hV:cF o a b=if ¬bF o then([],1)else if a ∉ aC o.sp∨b ∉ aC o.sp then([],4)else if a=b then(aq (atS o.sp b).items,0)else(dS (atL o.sp o.ls a) b,0):=rfl
 rw[hV];by_cases hv:bF o
 case neg =>
  have e2:gZ o=1:=u' hv;simp[hv,e2]
 have hL:=hv.1.lens;rw[u' (not_not_intro hv),sW.mpr hv]
 refine⟨λq=>by simp at q,λ_=>⟨⟨λc=>?_,λc=>?_⟩,?_⟩⟩
 ·have c:=(iO hv).mp c;simp[c]
 ·have c:a∈aC o.sp:=X'.mp λq=>c ((iO hv).mpr q);refine decide_eq_decide.mpr ?_;rw[iO hv];simp[c]
 ·rintro _ rfl
  refine⟨λc=>?_,λc=>?_⟩
  ·rw[if_pos (H' c)]
  have c:=ab' c;rw[u' c];have ha:a∈aC o.sp:=by simp only[not_or,X']at c;exact c.1
  have hb:b∈aC o.sp:=by simp only[not_or,X']at c;exact c.2
  obtain⟨p1,p2,p3,p4⟩:=hv.1.pos ha;obtain⟨u1,u2,u3,u4⟩:=hv.1.pos hb;rw[pN hv ha,pN hv hb];simp only[Int.toNat_natCast]
  refine⟨λq=>⟨by omega,by omega,λx hx=>?_⟩,λq=>⟨by omega,by omega,λx hx=>?_⟩⟩
  ·have q:a=b:=(C6 hv ha hb).mp (by have:=eq_of_beq q;omega);cases u3.symm.trans hx;rw[if_pos q]
  ·have q:¬a=b:=λe=>by rw[e]at q;simp at q
   cases p4.symm.trans hx;rw[u' q]
def OZ(o:Ovl)(at_:Int)(of_:Int):PC Tryz.prog:=pcO 15 [(.a [(.s 5),(.s 3),(.s 10)]),.k,.k] [Ovl.v o,.int at_,.int of_] (.a [(.s 3),.k]) Di (cF o at_ of_) (λ_=>let ⟨I0,h⟩:=OY o at_ of_;⟨_,h,by kernel_rfl⟩) rfl (by kernel_rfl)
def qh(l:List Int)(i:Nat):List Int:=l.take i++l.drop (i+1)
def jd(l:List Int)(i:Nat)(r:Int):Spk:=⟨r,1,0,[],(qh l i).map λx=>⟨x,0,0⟩⟩
theorem Fv{l:List Int}(h:l.Pairwise (·<·)){i:Nat}{r:Int}(hr:l[i]?=some r):qh l i=dj l r:=by
 obtain⟨hi,e⟩:=I'.mp hr;have hl:l=l.take i++r::l.drop (i+1):=by
  rw[←e,List.getElem_cons_drop,bf']
 have h1:∀x∈l.take i,x≠r:=λx hx q=>by
  rw[hl,af']at h;have:=h.2.2 x hx r (by simp);omega
 have h2:∀x∈l.drop (i+1),x≠r:=λx hx q=>by
  rw[hl,af',an']at h;have:=h.2.1.1 x hx;omega
 unfold qh dj
 conv=>rhs;rw[hl]
 rw[aQ',List.filter_cons_of_neg (by simp),bE'.mpr λx hx=>by simpa using h1 x hx,bE'.mpr λx hx=>by simpa using h2 x hx]
theorem BJ{l:List Int}(h:okR l){i:Nat}{r:Int}(hr:l[i]?=some r):jd l i r=kg l r:=by
 unfold jd kg;rw[Fv h.2.2 hr];rfl
theorem CQ{l:List Int}(h:okR l):(⟨l.mapIdx (jd l),l.map kR,[]⟩:Ovl)=eC l:=by
 have:l.mapIdx (jd l)=l.map (kg l):=by
  refine bc' (by simp) λi h1 h2=>?_;rw[List.getElem_mapIdx,cp'];exact BJ h (E' (by simpa using h1))
 rw[this];rfl
theorem IL(l:List Int):bF ⟨l.mapIdx (jd l),l.map kR,[]⟩↔okR l:=by
 have er:aC (l.mapIdx (jd l))=l:=by
  unfold aC;refine bc' (by simp) λi h1 h2=>?_;simp[jd]
 constructor
 ·rintro⟨h,_⟩;simp only[er]at h;refine⟨h.len,λr hr=>?_,h.ascR⟩;obtain⟨i,hi,rfl⟩:=ad' hr;have:=(h.spo (jd l i l[i]) (List.mem_mapIdx.mpr ⟨i,hi,rfl⟩)).1.1;exact this
 ·intro h;rw[CQ h];exact(EL l).mpr h
theorem new_M(l:List Int)(i:Nat)(r:Int):new r 1 (qh l i)=if aV (jd l i r)then(jd l i r,0)else(eP,1):=rfl
abbrev ee(routers:List Int):=(routers.take ((routers.length:Int).toNat))
def IK(routers:List Int)(t0:Int×List Lsn×List Spk):NF:=⟨[(0,.k,.sl 1 (routers.map AV.int) false),rR 2 0,rR 4 1,(14,.k,.sl 1 (routers.map AV.int) false),rI 15 ((routers.map AV.int).length:Int),rI 16 t0.1],[.box (.agg [.sl 0 [] true,.sl 0 [] true,.sl 0 [] true]),.box (.agg [.vec 2,.vec 3,.sl 0 [] true]),vB 5 Spk.v t0.2.2 (λ_=>rfl),vB 3 Lsn.v t0.2.1 (λ_=>rfl)]⟩
@[reducible] def CM:Nat→Type
 | 0=>Int×List Lsn×List Spk
 | _=>Unit
def CN(r:Ovl×Int):AV:=.tup [Ovl.v r.1,.int r.2]
def CL(routers:List Int)(I0:(Int×List Lsn×List Spk)→Prop)(m0:(Int×List Lsn×List Spk)→Nat):Ax Tryz.prog CM (Ovl×Int):=
 (.br 96 (decide (12<((routers.map AV.int).length:Int))) (.ret ((⟨[],[],[]⟩:Ovl),1))
(.cmdL (.nilB 32 0 5) (.cmdL (.nilB 32 1 3) (.loop 0 (IK routers) I0 m0 (0,[],[]) [0,32,144,145] λ(t0:Int×List Lsn×List Spk) b0 =>
(.br 20 (decide (t0.1<((routers.map AV.int).length:Int))) (.elI 36 AV.int routers t0.1 λx1 =>
(.say (λR=>Rf (α:=List AV) (routers.map AV.int) (ck (cg routers.length 0 t0.1 (routers.length:Int))
R)) (.sub 164 AV.int routers false
(.apX 180 AV.int [] ((routers.take t0.1.toNat).drop 0) (0+((routers.take t0.1.toNat).drop 0).length)
(.say (λR=>Rf (α:=List AV) (routers.map AV.int) (ck (cg routers.length (W (t0.1+1)) (routers.length:Int) (routers.length:Int))
R)) (.sub 244 AV.int routers false
(.apX 260 AV.int ((routers.take t0.1.toNat).drop 0) ((ee routers).drop ((W (t0.1+1)).toNat)) (((routers.take t0.1.toNat).drop 0).length+((ee routers).drop ((W (t0.1+1)).toNat)).length)
(.say (Rf ((((routers.take t0.1.toNat).drop 0)++((ee routers).drop ((W (t0.1+1)).toNat))).map AV.int)) (.cmd (.frzE 260 ((((routers.take t0.1.toNat).drop 0)++((ee routers).drop ((W (t0.1+1)).toNat))).map AV.int) (ae (λ_=>rfl) (((routers.take t0.1.toNat).drop 0)++((ee routers).drop ((W (t0.1+1)).toNat))))) (.callP (S0 x1 1 (((routers.take t0.1.toNat).drop 0)++((ee routers).drop ((W (t0.1+1)).toNat))))
(.br 468 (((new x1 1 (((routers.take t0.1.toNat).drop 0)++((ee routers).drop ((W (t0.1+1)).toNat)))).2) != 0) (.ret ((⟨[],[],[]⟩:Ovl),1))
(.apX 532 Spk.v t0.2.2 [(new x1 1 (((routers.take t0.1.toNat).drop 0)++((ee routers).drop ((W (t0.1+1)).toNat)))).1] (t0.2.2.length+1)
(.say (λR=>Idt (t0.2.1.map Lsn.v) (Rf (α:=List AV) [.agg [.int x1,.int 1,.sl 0 [] true]]
(ck (decide ((t0.2.1.map Lsn.v).length+1≤1048576))
R))) (.app 660 (λy:AV=>y) (t0.2.1.map Lsn.v) [.agg [.int x1,.int 1,.sl 0 [] true]]
(.say (λR=>Ui (.a [.k,.k,(.s 4)]) Lsn.v t0.2.1 [(⟨x1,1,[]⟩:Lsn)] [.agg [.int x1,.int 1,.sl 0 [] true]] ∧
R) (.cmd (.wkV 660 (.a [.k,.k,(.s 4)]) Lsn.v (t0.2.1++[(⟨x1,1,[]⟩:Lsn)])) (.bk 0 b0 (W (t0.1+1),t0.2.1++[(⟨x1,1,[]⟩:Lsn)],t0.2.2++[(new x1 1 (((routers.take t0.1.toNat).drop 0)++((ee routers).drop ((W (t0.1+1)).toNat)))).1]) [0,1,532,660])))))))))))))))))
(.callP (lG (⟨t0.2.2,t0.2.1,[]⟩:Ovl))
(.say (ck (c9 [(t0.2.2.map Spk.v),(t0.2.1.map Lsn.v)])) (.br 68 ((gZ (⟨t0.2.2,t0.2.1,[]⟩:Ovl)) != 0) (.ret ((⟨[],[],[]⟩:Ovl),1))
(.fz 3 Lsn.v t0.2.1 (λ_=>rfl) (.fz 2 Spk.v t0.2.2 (λ_=>rfl) (.ret ((⟨t0.2.2,t0.2.1,[]⟩:Ovl),0))))))))))))
theorem O1(l:List Int)(h:l.length≤1000):∃I m,(CL l I m).vp CN (ez l):=by
 refine⟨λt=>∃k:Nat,t=((k:Int),(l.take k).map kR,(l.mapIdx (jd l)).take k)∧k≤l.length,λt=>l.length-t.1.toNat,?_⟩;dsimp only[CL,CM,ee,Ax.vp,Ax.vc];simp only[vcU,rfU,f'];have hN:ez l=if okR l then(eC l,0)else(je,1):=rfl
 rw[hN]
 refine⟨λq=>?_,λq=>⟨⟨0,rfl,by omega⟩,?_⟩⟩
 ·have:¬okR l:=λe=>by have:=e.1;omega
  rw[u' this];rfl
 rintro _ ⟨k,rfl,hk⟩;simp only[Int.toNat_natCast]
 refine⟨λa1=>⟨by omega,by omega,λx hx=>?_⟩,λa1=>?_⟩
 ·rw[am (n:=l.length) (by omega) (by omega)];simp only[Int.toNat_natCast,ai',be'];have hdr:l.take k++l.drop (k+1)=qh l k:=rfl;have hdl:(l.take k).length+(l.drop (k+1)).length≤1000:=by rw[aa',bv'];omega
  have hb1:cg l.length 0 (k:Int) (l.length:Int)=true:=by simp[cg];omega
  have hb2:cg l.length ((k+1:Nat):Int) (l.length:Int) (l.length:Int)=true:=by simp[cg];omega
  rw[hdr,new_M]
  refine⟨hb1,by omega,hb2,by omega,λc=>?_,λc=>?_⟩
  ·have c:¬aV (jd l k x):=λe=>by rw[if_pos e]at c;simp at c
   have:¬okR l:=λe=>c (by rw[BJ e hx];exact(ti e (ax hx)).1);rw[u' this];rfl
  ·have c:aV (jd l k x):=by
    by_cases e:aV (jd l k x)
    ·exact e
    ·rw[u' e]at c;simp at c
   rw[if_pos c];have hm:(l.mapIdx (jd l))[k]?=some (jd l k x):=by rw[List.getElem?_mapIdx,hx];rfl
   refine⟨by simp;omega,by simp;omega,Kw (λ_=>rfl) rfl,⟨k+1,?_,by omega⟩,by omega⟩;rw[al hx,al hm,List.map_append];rfl
 ·rw[G' (by simp;omega),G' (by omega)];have hz:gZ (⟨l.mapIdx (jd l),l.map kR,[]⟩:Ovl)=if okR l then 0 else 1:=by
   unfold gZ;simp only[IL]
  refine⟨by generalize l.mapIdx (jd l)=A;generalize l.map kR=B;simp[c9,ae (v:=Spk.v) (λ_=>rfl),ae (v:=Lsn.v) (λ_=>rfl)],λq=>?_,λq=>?_⟩
  ·rw[hz]at q
   by_cases e:okR l
   ·rw[if_pos e]at q;simp at q
   ·rw[u' e];rfl
  ·rw[hz]at q
   by_cases e:okR l
   ·rw[if_pos e,CQ e]
   ·rw[u' e]at q;simp at q
def CO(routers:List Int)(h:routers.length≤1000):PC Tryz.prog:=pcO 44 [(.s 1)] [.sl 1 (routers.map AV.int) false] (.a [(.a [(.s 5),(.s 3),(.s 10)]),.k]) CN (ez routers) (λ_=>let ⟨I0,m0,h⟩:=O1 routers h;⟨_,h,by kernel_rfl⟩) rfl (by kernel_rfl)
theorem O2{a b:Int}:gW a b=min a b:=by unfold gW;split<;>omega
def Pe(L:List Int)(t0:Int×Nat×List Fau):NF:=⟨[rR 0 0,rV 5 1,rI 6 t0.1],[.box (.agg [.sl 1 (L.map AV.int) false,.int t0.2.1]),vB 2 Fau.v t0.2.2 (λ_=>rfl)]⟩
@[reducible] def JK:Nat→Type
 | 0=>Int×Nat×List Fau
 | _=>Unit
def zR(r:Tap×List Fau):AV:=.sl 2 (r.2.map Fau.v) false
def zS(r:Tap×List Fau):List (Option Blk):=[some (.box (Tap.v r.1))]
def JJ(L:List Int)(p:Nat)(n:Int)(I0:(Int×Nat×List Fau)→Prop)(m0:(Int×Nat×List Fau)→Nat):Ax Tryz.prog JK (Tap×List Fau):=
 (.cmdL (.nilT 5 2) (.loop 0 (Pe L) I0 m0 (W (n-1),p,[]) [0,81] λ(t0:Int×Nat×List Fau) b0 =>
(.br 34 (decide (0≤t0.1)) (.callH [0] (N_h L t0.2.1 3) 50
(.br 82 (decide (0<(Mod (aj L t0.2.1) 3))) (.req 130 ([1,1,2,3,4]≠[]) λh1 =>
(.callH [0] (fJ L (ab L t0.2.1) [1,1,2,3,4] h1) 130
(.apX 194 Fau.v t0.2.2 [(⟨ay [1,1,2,3,4] (aj L (ab L t0.2.1)),t0.1⟩:Fau)] (t0.2.2.length+1)
(.bk 0 b0 (W (t0.1-1),ab L (ab L t0.2.1),t0.2.2++[(⟨ay [1,1,2,3,4] (aj L (ab L t0.2.1)),t0.1⟩:Fau)]) [0,194]))))
(.bk 0 b0 (W (t0.1-1),ab L t0.2.1,t0.2.2) [0,1])))
(.fz 1 Fau.v t0.2.2 (λ_=>rfl) (.retH ((⟨L,t0.2.1⟩:Tap),t0.2.2) ⟨[(4,.k,.sl 2 (t0.2.2.map Fau.v) false)],[.box (.agg [.sl 1 (L.map AV.int) false,.int t0.2.1])]⟩ [0])))))
theorem SJ(L:List Int)(p:Nat)(n:Int)(h:0≤n∧n≤100000):∃I m,(JJ L p n I m).vc zR zS ((⟨L,(dT L n p).2⟩:Tap),(dT L n p).1):=by
 refine⟨λt=>∃k:Nat,t.1=(k:Int)-1∧k≤100000∧t.2.2.length+k≤100000∧kX L k t.2.2 t.2.1=dT L n p,λt=>(t.1+1).toNat,?_⟩;dsimp only[JJ,JK,Ax.vp,Ax.vc];simp only[vcU,rfU,f'];refine⟨⟨n.toNat,by rw[ci (by omega)];omega,by omega,by simp;omega,rfl⟩,?_⟩;rintro⟨i,q,out⟩ ⟨k,hk,hk4,hl,hf⟩;simp only at hk hl hf;subst hk;simp only
 refine⟨λh1=>?_,λh1=>?_⟩
 ·obtain⟨j,rfl⟩:∃j,k=j+1:=⟨k-1,by omega⟩
  have e:((j+1:Nat):Int)-1=j:=by omega
  rw[e,ci (by omega)];rw[kX]at hf
  refine⟨λc=>⟨by simp,by omega,⟨j,rfl,by omega,by simp;omega,?_⟩,by omega⟩,λc=>⟨⟨j,rfl,by omega,by omega,?_⟩,by omega⟩⟩
  ·rw[if_pos c]at hf;exact hf
  ·rw[u' c]at hf;exact hf
 ·have:k=0:=by omega
  subst this;rw[←hf];rfl
def SK(L:List Int)(p:Nat)(n:Int)(h:0≤n∧n≤100000):HC Tryz.prog:=hcO 134 [.k,.k] [.ref 0 0,.int n] [.box (.agg [.sl 1 (L.map AV.int) false,.int p])] (.s 2) zR zS ((⟨L,(dT L n p).2⟩:Tap),(dT L n p).1) (λ_ _=>let ⟨I0,m0,h⟩:=SJ L p n h;⟨_,h,by kernel_rfl⟩) (by kernel_rfl) (by simp[hcB,bI,AV.belB,allB,cE,bW,zR,zS,Tap.v,ae (v:=AV.int) (λ_=>rfl),ae (v:=Fau.v) (λ_=>rfl)])
def Iz(o:Ovl):Prop:=0<o.sp.length∧o.fl.length≤300000
abbrev fQ(o:Ovl):=(gW ((o.fl.map Sig.v).length:Int) 40)
abbrev kd(L:List Int)(p:Nat)(o:Ovl):=(bQ L ((o.fl.map Sig.v).length:Int) (ab L (ab L p)))
def Ql(L:List Int)(o:Ovl)(t0:Int×Ovl×Nat):NF:=⟨[rR 3 1,rR 4 2,rR 6 3,rI 7 t0.1],[.box (.agg [.sl 1 (L.map AV.int) false,.int t0.2.2]),.box (Ovl.v o),.box (.agg [.sl 0 [] true,.sl 0 [] true,.sl 0 [] true]),.box (Ovl.v t0.2.1)]⟩
def Qk(L:List Int)(p:Nat)(o:Ovl)(x1:Spk)(t1:Bool):NF:=⟨[rR 0 0,rR 3 1,rR 4 2,rI 5 x1.router,rR 6 3,rI 20 (Mod (aj L (ab L p)) 6),rB 31 t1],[.box (.agg [.sl 1 (L.map AV.int) false,.int (((ab L (ab L p)):Nat):Int)]),.box (Ovl.v o),.box (.agg [.sl 0 [] true,.sl 0 [] true,.sl 0 [] true]),.box (Ovl.v o)]⟩
@[reducible] def Mf:Nat→Type
 | 0=>Int×Ovl×Nat
 | 1=>Bool
 | _=>Unit
def Bi(r:Tap×Ovl):AV:=Ovl.v r.2
def Bl(r:Tap×Ovl):List (Option Blk):=[some (.box (Tap.v r.1))]
def Me(L:List Int)(p:Nat)(o:Ovl)(I0:Spk→(Int×Ovl×Nat)→Prop)(I1:Spk→Bool→Prop):Ax Tryz.prog Mf (Tap×Ovl):=
 (.callH [0] (N_h L p ((o.sp.map Spk.v).length:Int)) 129
(.elI 145 Spk.v o.sp (Mod (aj L p) ((o.sp.map Spk.v).length:Int)) λx1 =>
(.pass (.join 0 (Ql L o) (λ(t0:Int×Ovl×Nat)=>I0 x1 t0) (λb0=>(.callH [0] (N_h L (ab L p) 6) 289
(.join 1 (Qk L p o x1) (λ(t1:Bool)=>I1 x1 t1) (λb1=>(.br 337 ((Mod (aj L (ab L p)) 6)==0) (.bk 1 b1 ((true):Bool) [0,1,17,225])
(.bk 1 b1 (((Mod (aj L (ab L p)) 6)==1):Bool) [0,1,17,225]))) λ(t1:Bool) =>
(.br 4 t1 (.callH [0] (uT L (ab L (ab L p))) 52
(.req 68 (o.fl.length≤1000000) λh2 =>
(.callP (DV o x1.router ((dc L (ab L (ab L p))).1) h2)
(.bk 0 b0 ((aS o x1.router ((dc L (ab L (ab L p))).1)).2,(aS o x1.router ((dc L (ab L (ab L p))).1)).1,(dc L (ab L (ab L p))).2) [0,1,2,3]))))
(.br 36 ((Mod (aj L (ab L p)) 6)==2) (.callH [0] (uT L (ab L (ab L p))) 84
(.req 100 (o.fl.length≤1000000) λh3 =>
(.callP (Oa o x1.router ((dc L (ab L (ab L p))).1) h3)
(.bk 0 b0 ((bE o x1.router ((dc L (ab L (ab L p))).1)).2,(bE o x1.router ((dc L (ab L (ab L p))).1)).1,(dc L (ab L (ab L p))).2) [0,1,2,3]))))
(.br 68 ((Mod (aj L (ab L p)) 6)==3) (.req 164 (0≤(fQ o)∧(fQ o)≤100000) λh4 =>
(.callH [0] (SK L (ab L (ab L p)) (fQ o) h4) 164
(.req 180 (rO o ((dT L (fQ o) (ab L (ab L p))).1)) λh5 =>
(.callP (oA o ((dT L (fQ o) (ab L (ab L p))).1) h5)
(.bk 0 b0 ((roundO o ((dT L (fQ o) (ab L (ab L p))).1)).2,(roundO o ((dT L (fQ o) (ab L (ab L p))).1)).1,(dT L (fQ o) (ab L (ab L p))).2) [0,1,2,3])))))
(.req 148 (0≤((o.fl.map Sig.v).length:Int)∧((o.fl.map Sig.v).length:Int)≤1000000) λh6 =>
(.callH [0] (D4 L (ab L (ab L p)) ((o.fl.map Sig.v).length:Int) h6) 148
(.req 164 (rO o ((kd L p o).1)) λh7 =>
(.callP (oA o ((kd L p o).1) h7)
(.bk 0 b0 ((roundO o ((kd L p o).1)).2,(roundO o ((kd L p o).1)).1,(kd L p o).2) [0,1,2,3]))))))))))) λ(t0:Int×Ovl×Nat) =>
(.br 36 (t0.1 != 0) (.retH ((⟨L,t0.2.2⟩:Tap),o) ⟨[rR 4 1],[.box (.agg [.sl 1 (L.map AV.int) false,.int t0.2.2]),.box (Ovl.v o)]⟩ [0,2])
(.retH ((⟨L,t0.2.2⟩:Tap),t0.2.1) ⟨[rR 4 1],[.box (.agg [.sl 1 (L.map AV.int) false,.int t0.2.2]),.box (Ovl.v t0.2.1)]⟩ [0,2]))))))
theorem TV(L:List Int)(p:Nat)(o:Ovl)(h:Iz o):∃I0 I1,(Me L p o I0 I1).vc Bi Bl ((⟨L,(gE L p o).2⟩:Tap),(gE L p o).1):=by
 obtain⟨hs,hf⟩:=h;refine⟨λ_ t=>(orO o (t.2.1,t.1),t.2.2)=gE L p o,λ_ x=>x=decide (Mod (aj L (ab L p)) 6=0∨Mod (aj L (ab L p)) 6=1),?_⟩;have hm:=bw (x:=aj L p) (n:=(o.sp.length:Int)) (by omega);have hmin:gW (o.fl.length:Int) 40=min (o.fl.length:Int) 40:=O2;dsimp only[Me,Mf,fQ,kd,Ax.vp,Ax.vc];simp only[vcU,rfU,f'];simp only[hmin]
 refine⟨by omega,by omega,λx hx=>⟨⟨⟨λc=>by simp[eq_of_beq c],λc=>?_⟩,?_⟩,?_⟩⟩
 ·have c:¬Mod (aj L (ab L p)) 6=0:=by simpa using c
  rw[cj',bT',aE'];omega
 all_goals have hx:o.sp.getD (Mod (aj L p) o.sp.length).toNat eP=x:=by rw[J',hx];rfl
 rotate_left
 ·rintro⟨e,o2,q⟩ h2;simp only at h2 ⊢
  refine⟨λc=>?_,λc=>?_⟩
  ·have c:e≠0:=by simpa using c
   rw[←h2,orO,if_pos c]
  ·have c:¬e≠0:=by simpa using c
   rw[←h2,orO,u' c]
 have hF1:=kV (L:=L) (n:=min (o.fl.length:Int) 40) (p:=ab L (ab L p));have hF2:=eF (L:=L) (n:=o.fl.length) (p:=ab L (ab L p));rintro _ rfl
 refine⟨λc=>⟨by omega,?_⟩,λc=>⟨λd=>⟨by omega,?_⟩,λd=>⟨λe=>⟨by omega,⟨by omega,by omega⟩,?_⟩,λe=>⟨by omega,⟨by omega,by omega⟩,?_⟩⟩⟩⟩
 ·have c:=H' c;rw[gE,if_pos c,hx]
 ·have c:=ab' c;have d:=eq_of_beq d;rw[gE,u' c,if_pos d,hx]
 ·have c:=ab' c;have d:¬Mod (aj L (ab L p)) 6=2:=by simpa using d
  have e:=eq_of_beq e;rw[gE,u' c,u' d,if_pos e]
 ·have c:=ab' c;have d:¬Mod (aj L (ab L p)) 6=2:=by simpa using d
  have e:¬Mod (aj L (ab L p)) 6=3:=by simpa using e
  rw[gE,u' c,u' d,u' e]
def TW(L:List Int)(p:Nat)(o:Ovl)(h:Iz o):HC Tryz.prog:=hcO 45 [.k,(.a [(.s 5),(.s 3),(.s 10)])] [.ref 0 0,Ovl.v o] [.box (.agg [.sl 1 (L.map AV.int) false,.int p])] (.a [(.s 5),(.s 3),(.s 10)]) Bi Bl ((⟨L,(gE L p o).2⟩:Tap),(gE L p o).1) (λ_ _=>let ⟨I0,I1,h⟩:=TV L p o h;⟨_,h,by kernel_rfl⟩) (by kernel_rfl) (by simp[hcB,bI,AV.belB,allB,cE,bW,Bi,Bl,Ovl.v,Tap.v,yQ,zF,yY,ae (v:=AV.int) (λ_=>rfl),ae (v:=Lsn.v) (λ_=>rfl),ae (v:=Sig.v) (λ_=>rfl),ae (v:=Spk.v) (λ_=>rfl)])
theorem Ovl.eq_iff{x y:Ovl}:x=y↔x.sp=y.sp∧x.ls=y.ls∧x.fl=y.fl:=by cases x;cases y;simp
def Cj(a:Ovl)(b:Ovl):=okL [Ovl.v a,Ovl.v b]
def HE(a:Ovl)(b:Ovl)(t0:Bool):NF:=⟨[rR 2 0,rR 3 1,rB 30 t0],[.box (Ovl.v a),.box (Ovl.v b)]⟩
def HD(a:Ovl)(b:Ovl)(t1:Int):NF:=⟨[rR 2 0,rR 3 1,rI 33 ((a.sp.map Spk.v).length:Int),rI 34 t1],[.box (Ovl.v a),.box (Ovl.v b)]⟩
def HB(a:Ovl)(b:Ovl)(t2:Int):NF:=⟨[rR 2 0,rR 3 1,rI 52 ((a.ls.map Lsn.v).length:Int),rI 53 t2],[.box (Ovl.v a),.box (Ovl.v b)]⟩
@[reducible] def Cg:Nat→Type
 | 0=>Bool
 | 1=>Int
 | 2=>Int
 | _=>Unit
def Ci(r:Bool):AV:=.bool r
def Cf(a:Ovl)(b:Ovl)(I0:Bool→Prop)(I1:Bool→Int→Prop)(m1:Bool→Int→Nat)(I2:Bool→Int→Int→Prop)(m2:Bool→Int→Int→Nat):Ax Tryz.prog Cg (Bool):=
 (.pass (.pass (.join 0 (HE a b) (λ(t0:Bool)=>I0 t0) (λb0=>(.br 176 (((a.sp.map Spk.v).length:Int) != ((b.sp.map Spk.v).length:Int)) (.bk 0 b0 ((true):Bool) [0,16])
(.br 320 (((a.ls.map Lsn.v).length:Int) != ((b.ls.map Lsn.v).length:Int)) (.bk 0 b0 ((true):Bool) [0,16])
(.callP (HK a.fl b.fl)
(.bk 0 b0 ((!(decide (a.fl=b.fl))):Bool) [0,16]))))) λ(t0:Bool) =>
(.br 2 t0 (.ret (false))
(.loop 1 (HD a b) (I1 t0) (m1 t0) ((0):Int) [0,1] λ(t1:Int) b1 =>
(.br 18 (decide (t1<((a.sp.map Spk.v).length:Int))) (.elI 98 Spk.v a.sp t1 λx1 =>
(.elI 178 Spk.v b.sp t1 λx2 =>
(.callP (NC x1 x2)
(.br 242 (!(decide (x1=x2))) (.ret (false))
(.bk 1 b1 ((W (t1+1)):Int) [0,1])))))
(.loop 2 (HB a b) (I2 t0 t1) (m2 t0 t1) ((0):Int) [0,1] λ(t2:Int) b2 =>
(.br 18 (decide (t2<((a.ls.map Lsn.v).length:Int))) (.elI 98 Lsn.v a.ls t2 λx3 =>
(.elI 178 Lsn.v b.ls t2 λx4 =>
(.callP (NH x3 x4)
(.br 242 (!(decide (x3=x4))) (.ret (false))
(.bk 2 b2 ((W (t2+1)):Int) [0,1])))))
(.ret (true))))))))))
theorem ND(a b:Ovl)(ok:Cj a b):∃I0 I1 m1 I2 m2,(Cf a b I0 I1 m1 I2 m2).vp Ci (decide (a=b)):=by
 unfold Cj at ok;have hle:a.sp.length≤9223372036854775807∧a.ls.length≤9223372036854775807:=by
  have h:=ok;simp only[Ovl.v,yQ,zF,yY,AV.ok,okL,f',cm]at h;omega
 refine⟨λt=>t=false↔a.sp.length=b.sp.length∧a.ls.length=b.ls.length∧a.fl=b.fl,
  λ_ t=>∃k:Nat,t=k∧k≤a.sp.length∧a.sp.take k=b.sp.take k,λ_ t=>a.sp.length-t.toNat,
  λ_ t1 t=>∃k:Nat,t=k∧k≤a.ls.length∧a.ls.take k=b.ls.take k∧a.sp=b.sp,λ_ _ t=>a.ls.length-t.toNat,?_⟩
 dsimp only[Cf,Cg,Ax.vp,Ax.vc];simp only[vcU,rfU,f'];have t:∀{q:Prop},¬q→(true=false↔q):=λh=>⟨λe=>Bool.noConfusion e,λe=>absurd e h⟩
 refine⟨⟨λe1=>t λq=>?_,λe1=>⟨λe2=>t λq=>?_,λe2=>?_⟩⟩,λb0 hb=>⟨λe=>?_,λe=>⟨⟨0,rfl,by omega,rfl⟩,?_⟩⟩⟩
 ·simp[q.1]at e1
 ·simp[q.2.1]at e2
 ·simp only[bne_eq_false_iff_eq,bk',aE']at e1 e2 ⊢
  constructor
  ·intro q;exact⟨by omega,by omega,q⟩
  ·intro q;exact q.2.2
 ·subst e;exact ed λq=>by subst q;exact Bool.noConfusion (hb.mpr ⟨rfl,rfl,rfl⟩)
 ·obtain⟨q1,q2,q3⟩:=hb.mp e;rintro _ ⟨k,rfl,hk,h⟩;simp only[Int.toNat_natCast]
  refine⟨λh1=>⟨by omega,by omega,λx hx=>⟨by omega,by omega,λy hy=>⟨λc=>?_,λc=>?_⟩⟩⟩,λh1=>?_⟩
  ·refine ed λq=>il hx hy (λw=>?_) (Ovl.eq_iff.mp q).1;subst w;simp at c
  ·rw[am (n:=a.sp.length) (by omega) (by omega)];exact⟨⟨k+1,rfl,by omega,mz hx hy h (by simpa using c)⟩,by omega⟩
  ·rw[G' (by omega),G' (by omega)]at h;refine⟨⟨0,rfl,by omega,rfl,h⟩,?_⟩;rintro _ ⟨j,rfl,hj,g,_⟩;simp only[Int.toNat_natCast]
   refine⟨λh1=>⟨by omega,by omega,λx hx=>⟨by omega,by omega,λy hy=>⟨λc=>?_,λc=>?_⟩⟩⟩,λh1=>?_⟩
   ·refine ed λq=>il hx hy (λw=>?_) (Ovl.eq_iff.mp q).2.1;subst w;simp at c
   ·rw[am (n:=a.ls.length) (by omega) (by omega)];exact⟨⟨j+1,rfl,by omega,mz hx hy g (by simpa using c),h⟩,by omega⟩
   ·rw[G' (by omega),G' (by omega)]at g;exact(decide_eq_true (Ovl.eq_iff.mpr ⟨h,g,q3⟩)).symm
def NE(a:Ovl)(b:Ovl):PC Tryz.prog:=pcO 12 [(.a [(.s 5),(.s 3),(.s 10)]),(.a [(.s 5),(.s 3),(.s 10)])] [Ovl.v a,Ovl.v b] .k Ci (decide (a=b)) (λok=>let ⟨I0,I1,m1,I2,m2,h⟩:=ND a b ok;⟨_,h,by kernel_rfl⟩) rfl (by kernel_rfl)
theorem Nr{α:Type}{l:List α}{f:α→α}{j:Nat}(h:j<l.length):((l.take j).map f++l.drop j).set j (f l[j])=(l.take (j+1)).map f++l.drop (j+1):=by
 have e:((l.take j).map f).length=j:=by simp;omega
 rw[bK' _ _ (by omega),e,ce',ar' h,List.set_cons_zero,al (E' h),List.map_append,bo'];rfl
theorem Po{α:Type}{l:List α}{f:α→α}{j:Nat}(h:j<l.length):((l.take j).map f++l.drop j)[j]?=some l[j]:=by
 have e:((l.take j).map f).length=j:=by simp;omega
 rw[aU' (by omega),e,ce',ar' h,List.getElem?_cons_zero]
theorem NI.spl{R:List Int}{o:Ovl}(h:NI R o):o.sp.length=R.length:=by
 have:=congrArg List.length h.net.spr;simpa[aC]using this
abbrev aJ(L:List Int)(p:Nat)(most:Int):=(lU L ((bK L p most).2) ((bK L p most).1))
def N2(L:List Int)(p:Nat)(most:Int)(t0:List Int×Int):NF:=⟨[rR 0 0,rR 4 1,rR 5 2,(6,(.s 1),.sl 1 (t0.1.map AV.int) false),(33,.k,.sl 2 ((((aJ L p most).1).es).map Edg.v) false),rI 34 (((((aJ L p most).1).es).map Edg.v).length:Int),rI 35 t0.2],[.box (.agg [.sl 1 (L.map AV.int) false,.int ((((aJ L p most).2):Nat):Int)]),.box (.agg [.sl 0 [] true,.sl 0 [] true,.int 0,.int 0,.sl 0 [] true,.sl 0 [] true,.sl 0 [] true,.sl 0 [] true,.sl 0 [] true]),.box (.agg [.sl 2 ((((bK L p most).1).rs).map Rtr.v) false,.sl 5 ((((bK L p most).1).ls).map Lnk.v) false,.int (((aJ L p most).1).sub),.int (((aJ L p most).1).len),.sl 2 ((((aJ L p most).1).es).map Edg.v) false,.sl 0 [] true,.sl 0 [] true,.sl 0 [] true,.sl 0 [] true])]⟩
def N1(L:List Int)(p:Nat)(most:Int)(t0:List Int×Int)(t1:Int×Nat×List Sit):NF:=⟨[rR 0 0,rR 4 1,rR 5 2,(6,.k,.sl 1 (t0.1.map AV.int) false),rI 9 (ay [0,100] (aj L ((aJ L p most).2))),(47,.k,.sl 1 (t0.1.map AV.int) false),rI 48 ((t0.1.map AV.int).length:Int),rI 49 t1.1],[.box (.agg [.sl 1 (L.map AV.int) false,.int t1.2.1]),.box (.agg [.sl 0 [] true,.sl 0 [] true,.int 0,.int 0,.sl 0 [] true,.sl 0 [] true,.sl 0 [] true,.sl 0 [] true,.sl 0 [] true]),.box (.agg [.sl 2 ((((bK L p most).1).rs).map Rtr.v) false,.sl 5 ((((bK L p most).1).ls).map Lnk.v) false,.int (((aJ L p most).1).sub),.int (((aJ L p most).1).len),.sl 2 ((((aJ L p most).1).es).map Edg.v) false,.vec 3,.sl 0 [] true,.sl 0 [] true,.sl 0 [] true]),vB 3 Sit.v t1.2.2 (λ_=>rfl)]⟩
def N0(L:List Int)(p:Nat)(most:Int)(t0:List Int×Int)(t1:Int×Nat×List Sit)(x6:Int)(t2:Int×List Mem):NF:=⟨[rR 0 0,rR 4 1,rR 5 2,(6,.k,.sl 1 (t0.1.map AV.int) false),rI 9 (ay [0,100] (aj L ((aJ L p most).2))),rI 11 x6,rR 12 4,(47,.k,.sl 1 (t0.1.map AV.int) false),rI 48 ((t0.1.map AV.int).length:Int),rI 49 t1.1,rI 57 (((((bx L 4 t1.2.1).1).list).map Mem.v).length:Int),rI 58 t2.1],[.box (.agg [.sl 1 (L.map AV.int) false,.int ((((bx L 4 t1.2.1).2):Nat):Int)]),.box (.agg [.sl 0 [] true,.sl 0 [] true,.int 0,.int 0,.sl 0 [] true,.sl 0 [] true,.sl 0 [] true,.sl 0 [] true,.sl 0 [] true]),.box (.agg [.sl 2 ((((bK L p most).1).rs).map Rtr.v) false,.sl 5 ((((bK L p most).1).ls).map Lnk.v) false,.int (((aJ L p most).1).sub),.int (((aJ L p most).1).len),.sl 2 ((((aJ L p most).1).es).map Edg.v) false,.vec 3,.sl 0 [] true,.sl 0 [] true,.sl 0 [] true]),vB 3 Sit.v t1.2.2 (λ_=>rfl),.box (.agg [.int (((bx L 4 t1.2.1).1).now),.vec 5]),vB 5 Mem.v t2.2 (λ_=>rfl)]⟩
def Nz(L:List Int)(p:Nat)(most:Int)(t0:List Int×Int)(t1:Int×Nat×List Sit)(t3:Int×List Spk×List Lsn×List Sig×Nat):NF:=⟨[rR 0 0,rR 4 1,rR 5 2,(6,.k,.sl 1 (t0.1.map AV.int) false),rI 14 t3.1],[.box (.agg [.sl 1 (L.map AV.int) false,.int t3.2.2.2.2]),.box (.agg [.sl 0 [] true,.sl 0 [] true,.int 0,.int 0,.sl 0 [] true,.sl 0 [] true,.sl 0 [] true,.sl 0 [] true,.sl 0 [] true]),.box (.agg [.sl 2 ((((bK L p most).1).rs).map Rtr.v) false,.sl 5 ((((bK L p most).1).ls).map Lnk.v) false,.int (((aJ L p most).1).sub),.int (((aJ L p most).1).len),.sl 2 ((((aJ L p most).1).es).map Edg.v) false,.vec 3,.sl 5 (t3.2.1.map Spk.v) false,.sl 3 (t3.2.2.1.map Lsn.v) false,.sl 10 (t3.2.2.2.1.map Sig.v) false]),vB 3 Sit.v t1.2.2 (λ_=>rfl)]⟩
def Ny(L:List Int)(p:Nat)(most:Int)(t1:Int×Nat×List Sit)(t4:Int×List Spk×List Lsn×List Sig×Nat):NF:=⟨[rR 0 0,rR 4 1,rR 5 2,rV 123 3,rI 124 ((t1.2.2.map Sit.v).length:Int),rI 125 t4.1],[.box (.agg [.sl 1 (L.map AV.int) false,.int t4.2.2.2.2]),.box (.agg [.sl 0 [] true,.sl 0 [] true,.int 0,.int 0,.sl 0 [] true,.sl 0 [] true,.sl 0 [] true,.sl 0 [] true,.sl 0 [] true]),.box (.agg [.sl 2 ((((bK L p most).1).rs).map Rtr.v) false,.sl 5 ((((bK L p most).1).ls).map Lnk.v) false,.int (((aJ L p most).1).sub),.int (((aJ L p most).1).len),.sl 2 ((((aJ L p most).1).es).map Edg.v) false,.vec 3,.sl 5 (t4.2.1.map Spk.v) false,.sl 3 (t4.2.2.1.map Lsn.v) false,.sl 10 (t4.2.2.2.1.map Sig.v) false]),vB 3 Sit.v t1.2.2 (λ_=>rfl)]⟩
def Nx(L:List Int)(p:Nat)(most:Int)(t1:Int×Nat×List Sit)(t4:Int×List Spk×List Lsn×List Sig×Nat)(x14:Sit)(t5:Bool×Nat):NF:=⟨[rR 0 0,rR 4 1,rR 5 2,rR 16 4,(17,.k,.sl 3 (((ofW (⟨x14.now,x14.list⟩:aK)).1).map Wnt.v) false),rV 123 3,rI 124 ((t1.2.2.map Sit.v).length:Int),rI 125 t4.1,rB 141 t5.1],[.box (.agg [.sl 1 (L.map AV.int) false,.int t5.2]),.box (.agg [.sl 0 [] true,.sl 0 [] true,.int 0,.int 0,.sl 0 [] true,.sl 0 [] true,.sl 0 [] true,.sl 0 [] true,.sl 0 [] true]),.box (.agg [.sl 2 ((((bK L p most).1).rs).map Rtr.v) false,.sl 5 ((((bK L p most).1).ls).map Lnk.v) false,.int (((aJ L p most).1).sub),.int (((aJ L p most).1).len),.sl 2 ((((aJ L p most).1).es).map Edg.v) false,.vec 3,.sl 5 (t4.2.1.map Spk.v) false,.sl 3 (t4.2.2.1.map Lsn.v) false,.sl 10 (t4.2.2.2.1.map Sig.v) false]),vB 3 Sit.v t1.2.2 (λ_=>rfl),.box (Sit.v x14)]⟩
def Nw(L:List Int)(p:Nat)(most:Int)(t1:Int×Nat×List Sit)(t6:Int×List Spk×List Lsn×List Sig×Nat):NF:=⟨[rR 0 0,rR 4 1,rR 5 2,rI 21 t6.1],[.box (.agg [.sl 1 (L.map AV.int) false,.int t6.2.2.2.2]),.box (.agg [.sl 0 [] true,.sl 0 [] true,.int 0,.int 0,.sl 0 [] true,.sl 0 [] true,.sl 0 [] true,.sl 0 [] true,.sl 0 [] true]),.box (.agg [.sl 2 ((((bK L p most).1).rs).map Rtr.v) false,.sl 5 ((((bK L p most).1).ls).map Lnk.v) false,.int (((aJ L p most).1).sub),.int (((aJ L p most).1).len),.sl 2 ((((aJ L p most).1).es).map Edg.v) false,.vec 3,.sl 5 (t6.2.1.map Spk.v) false,.sl 3 (t6.2.2.1.map Lsn.v) false,.sl 10 (t6.2.2.2.1.map Sig.v) false]),vB 3 Sit.v t1.2.2 (λ_=>rfl)]⟩
@[reducible] def H7:Nat→Type
 | 0=>(List Int)×Int
 | 1=>Int×Nat×List Sit
 | 2=>Int×List Mem
 | 3=>Int×List Spk×List Lsn×List Sig×Nat
 | 4=>Int×List Spk×List Lsn×List Sig×Nat
 | 5=>Bool×Nat
 | 6=>Int×List Spk×List Lsn×List Sig×Nat
 | _=>Unit
def zc(r:Tap×Scn):AV:=Scn.v r.2
def zd(r:Tap×Scn):List (Option Blk):=[some (.box (Tap.v r.1))]
def H6(L:List Int)(p:Nat)(most:Int)(I0:(List Int×Int)→Prop)(m0:(List Int×Int)→Nat)(I1:List Int×Int→(Int×Nat×List Sit)→Prop)(m1:List Int×Int→(Int×Nat×List Sit)→Nat)(I2:List Int×Int→Int×Nat×List Sit→Int→(Int×List Mem)→Prop)(m2:List Int×Int→Int×Nat×List Sit→Int→(Int×List Mem)→Nat)(I3:List Int×Int→Int×Nat×List Sit→(Int×List Spk×List Lsn×List Sig×Nat)→Prop)(m3:List Int×Int→Int×Nat×List Sit→(Int×List Spk×List Lsn×List Sig×Nat)→Nat)(I4:List Int×Int→Int×Nat×List Sit→Int×List Spk×List Lsn×List Sig×Nat→(Int×List Spk×List Lsn×List Sig×Nat)→Prop)(m4:List Int×Int→Int×Nat×List Sit→Int×List Spk×List Lsn×List Sig×Nat→(Int×List Spk×List Lsn×List Sig×Nat)→Nat)(I5:List Int×Int→Int×Nat×List Sit→Int×List Spk×List Lsn×List Sig×Nat→Int×List Spk×List Lsn×List Sig×Nat→Sit→(Bool×Nat)→Prop)(I6:List Int×Int→Int×Nat×List Sit→Int×List Spk×List Lsn×List Sig×Nat→Int×List Spk×List Lsn×List Sig×Nat→(Int×List Spk×List Lsn×List Sig×Nat)→Prop)(m6:List Int×Int→Int×Nat×List Sit→Int×List Spk×List Lsn×List Sig×Nat→Int×List Spk×List Lsn×List Sig×Nat→(Int×List Spk×List Lsn×List Sig×Nat)→Nat):Ax Tryz.prog H7 (Tap×Scn):=
 (.req 65 (1≤most∧most≤100) λh1 =>
(.callH [0] (MO L p most h1) 65
(.req 161 (((bK L p most).1).rs.length≤1000) λh2 =>
(.callH [0] (Sd L ((bK L p most).2) ((bK L p most).1) h2) 161
(.loop 0 (N2 L p most) I0 m0 ([],0) [0,1,17] λ(t0:List Int×Int) b0 =>
(.br 19 (decide (t0.2<(((((aJ L p most).1).es).map Edg.v).length:Int))) (.elI 19 Edg.v (((aJ L p most).1).es) t0.2 λx3 =>
(.req 131 (t0.1.length≤900000) λh4 =>
(.callP (Ih t0.1 x3.router h4)
(.bk 0 b0 (put t0.1 x3.router,W (t0.2+1)) [0,1,2]))))
(.req 51 ([0,100]≠[]) λh5 =>
(.callH [0] (fJ L ((aJ L p most).2) [0,100] h5) 51
(.cmdL (.nilB 2 5 3) (.loop 1 (N1 L p most t0) (I1 t0) (m1 t0) (0,ab L ((aJ L p most).2),[]) [0,1,2,131] λ(t1:Int×Nat×List Sit) b1 =>
(.br 20 (decide (t1.1<((t0.1.map AV.int).length:Int))) (.elI 20 AV.int t0.1 t1.1 λx6 =>
(.req 84 (0≤4∧4≤1000) λh7 =>
(.callH [0] (OA L t1.2.1 4 h7) 84
(.loop 2 (N0 L p most t0 t1 x6) (I2 t0 t1 x6) (m2 t0 t1 x6) (0,((bx L 4 t1.2.1).1).list) [0,1,2,3,100,84] λ(t2:Int×List Mem) b2 =>
(.br 22 (decide (t2.1<(((((bx L 4 t1.2.1).1).list).map Mem.v).length:Int))) (.elJ 134 Mem.v t2.2 t2.1 λx8 =>
(.stJ 262 Mem.v t2.2 t2.1 (λy9=>(⟨y9.host,y9.grp,y9.mode,y9.srcs,W (x8.til+(W ((ay [0,100] (aj L ((aJ L p most).2)))-((bx L 4 t1.2.1).1).now)))⟩:Mem)) λy9 =>
(.elJ 470 Mem.v (t2.2.set t2.1.toNat (⟨y9.host,y9.grp,y9.mode,y9.srcs,W (x8.til+(W ((ay [0,100] (aj L ((aJ L p most).2)))-((bx L 4 t1.2.1).1).now)))⟩:Mem)) t2.1 λx10 =>
(.stJ 534 Mem.v (t2.2.set t2.1.toNat (⟨y9.host,y9.grp,y9.mode,y9.srcs,W (x8.til+(W ((ay [0,100] (aj L ((aJ L p most).2)))-((bx L 4 t1.2.1).1).now)))⟩:Mem)) t2.1 (λy11=>(⟨W ((W (10 * ((t1.2.2.map Sit.v).length:Int)))+x10.host),y11.grp,y11.mode,y11.srcs,y11.til⟩:Mem)) λy11 =>
(.bk 2 b2 (W (t2.1+1),(t2.2.set t2.1.toNat (⟨y9.host,y9.grp,y9.mode,y9.srcs,W (x8.til+(W ((ay [0,100] (aj L ((aJ L p most).2)))-((bx L 4 t1.2.1).1).now)))⟩:Mem)).set t2.1.toNat (⟨W ((W (10 * ((t1.2.2.map Sit.v).length:Int)))+x10.host),y11.grp,y11.mode,y11.srcs,y11.til⟩:Mem)) [0,1,2,3,4,5])))))
(.wait (.say (Rf (t2.2.map Mem.v)) (.cmd (.frzE 5 (t2.2.map Mem.v) (ae (λ_=>rfl) t2.2)) (.apX 166 Sit.v t1.2.2 [(⟨x6,ay [0,100] (aj L ((aJ L p most).2)),t2.2⟩:Sit)] (t1.2.2.length+1)
(.bk 1 b1 (W (t1.1+1),(bx L 4 t1.2.1).2,t1.2.2++[(⟨x6,ay [0,100] (aj L ((aJ L p most).2)),t2.2⟩:Sit)]) [0,1,2,166]))))))))))
(.req 36 (t0.1.length≤1000) λh12 =>
(.callP (CO t0.1 h12)
(.callH [0] (N_h L t1.2.1 4) 148
(.loop 3 (Nz L p most t0 t1) (I3 t0 t1) (m3 t0 t1) (Mod (aj L t1.2.1) 4,((ez t0.1).1).sp,((ez t0.1).1).ls,((ez t0.1).1).fl,ab L t1.2.1) [0,1,2,3] λ(t3:Int×List Spk×List Lsn×List Sig×Nat) b3 =>
(.br 36 (decide (0<t3.1)) (.br 84 (decide (0<((t0.1.map AV.int).length:Int))) (.req 132 (Iz (⟨t3.2.1,t3.2.2.1,t3.2.2.2.1⟩:Ovl)) λh13 =>
(.callH [0] (TW L t3.2.2.2.2 (⟨t3.2.1,t3.2.2.1,t3.2.2.2.1⟩:Ovl) h13) 132
(.bk 3 b3 (W (t3.1-1),((gE L t3.2.2.2.2 (⟨t3.2.1,t3.2.2.1,t3.2.2.2.1⟩:Ovl)).1).sp,((gE L t3.2.2.2.2 (⟨t3.2.1,t3.2.2.1,t3.2.2.2.1⟩:Ovl)).1).ls,((gE L t3.2.2.2.2 (⟨t3.2.1,t3.2.2.1,t3.2.2.2.1⟩:Ovl)).1).fl,(gE L t3.2.2.2.2 (⟨t3.2.1,t3.2.2.1,t3.2.2.2.1⟩:Ovl)).2) [0,1,2,3])))
(.bk 3 b3 (W (t3.1-1),t3.2.1,t3.2.2.1,t3.2.2.2.1,t3.2.2.2.2) [0,1,2,3]))
(.loop 4 (Ny L p most t1) (I4 t0 t1 t3) (m4 t0 t1 t3) (0,t3.2.1,t3.2.2.1,t3.2.2.2.1,t3.2.2.2.2) [0,1,2,3] λ(t4:Int×List Spk×List Lsn×List Sig×Nat) b4 =>
(.br 20 (decide (t4.1<((t1.2.2.map Sit.v).length:Int))) (.elJ 36 Sit.v t1.2.2 t4.1 λx14 =>
(.callP (QR (⟨x14.now,x14.list⟩:aK))
(.join 5 (Nx L p most t1 t4 x14) (λ(t5:Bool×Nat)=>I5 t0 t1 t3 t4 x14 t5) (λb5=>(.br 260 (((ofW (⟨x14.now,x14.list⟩:aK)).2)==0) (.callH [0] (N_h L t4.2.2.2.2 6) 276
(.bk 5 b5 (decide (0<(Mod (aj L t4.2.2.2.2) 6)),ab L t4.2.2.2.2) [0,1,2,3,52]))
(.bk 5 b5 (false,t4.2.2.2.2) [0,1,2,3,52]))) λ(t5:Bool×Nat) =>
(.br 5 t5.1 (.req 85 ((⟨t4.2.1,t4.2.2.1,t4.2.2.2.1⟩:Ovl).fl.length≤1000000) λh15 =>
(.callP (DV (⟨t4.2.1,t4.2.2.1,t4.2.2.2.1⟩:Ovl) x14.router ((ofW (⟨x14.now,x14.list⟩:aK)).1) h15)
(.br 229 (((aS (⟨t4.2.1,t4.2.2.1,t4.2.2.2.1⟩:Ovl) x14.router ((ofW (⟨x14.now,x14.list⟩:aK)).1)).2)==0) (.bk 4 b4 (W (t4.1+1),((aS (⟨t4.2.1,t4.2.2.1,t4.2.2.2.1⟩:Ovl) x14.router ((ofW (⟨x14.now,x14.list⟩:aK)).1)).1).sp,((aS (⟨t4.2.1,t4.2.2.1,t4.2.2.2.1⟩:Ovl) x14.router ((ofW (⟨x14.now,x14.list⟩:aK)).1)).1).ls,((aS (⟨t4.2.1,t4.2.2.1,t4.2.2.2.1⟩:Ovl) x14.router ((ofW (⟨x14.now,x14.list⟩:aK)).1)).1).fl,t5.2) [0,1,2,3])
(.bk 4 b4 (W (t4.1+1),t4.2.1,t4.2.2.1,t4.2.2.2.1,t5.2) [0,1,2,3]))))
(.bk 4 b4 (W (t4.1+1),t4.2.1,t4.2.2.1,t4.2.2.2.1,t5.2) [0,1,2,3])))))
(.callH [0] (N_h L t4.2.2.2.2 4) 36
(.loop 6 (Nw L p most t1) (I6 t0 t1 t3 t4) (m6 t0 t1 t3 t4) (Mod (aj L t4.2.2.2.2) 4,t4.2.1,t4.2.2.1,t4.2.2.2.1,ab L t4.2.2.2.2) [0,1,2,3] λ(t6:Int×List Spk×List Lsn×List Sig×Nat) b6 =>
(.br 36 (decide (0<t6.1)) (.req 148 (0≤((t6.2.2.2.1.map Sig.v).length:Int)∧((t6.2.2.2.1.map Sig.v).length:Int)≤1000000) λh16 =>
(.callH [0] (D4 L t6.2.2.2.2 ((t6.2.2.2.1.map Sig.v).length:Int) h16) 148
(.req 164 (rO (⟨t6.2.1,t6.2.2.1,t6.2.2.2.1⟩:Ovl) ((bQ L ((t6.2.2.2.1.map Sig.v).length:Int) t6.2.2.2.2).1)) λh17 =>
(.callP (oA (⟨t6.2.1,t6.2.2.1,t6.2.2.2.1⟩:Ovl) ((bQ L ((t6.2.2.2.1.map Sig.v).length:Int) t6.2.2.2.2).1) h17)
(.bk 6 b6 (W (t6.1-1),((roundO (⟨t6.2.1,t6.2.2.1,t6.2.2.2.1⟩:Ovl) ((bQ L ((t6.2.2.2.1.map Sig.v).length:Int) t6.2.2.2.2).1)).1).sp,((roundO (⟨t6.2.1,t6.2.2.1,t6.2.2.2.1⟩:Ovl) ((bQ L ((t6.2.2.2.1.map Sig.v).length:Int) t6.2.2.2.2).1)).1).ls,((roundO (⟨t6.2.1,t6.2.2.1,t6.2.2.2.1⟩:Ovl) ((bQ L ((t6.2.2.2.1.map Sig.v).length:Int) t6.2.2.2.2).1)).1).fl,(bQ L ((t6.2.2.2.1.map Sig.v).length:Int) t6.2.2.2.2).2) [0,1,2,3])))))
(.fz 3 Sit.v t1.2.2 (λ_=>rfl) (.retH ((⟨L,t6.2.2.2.2⟩:Tap),(⟨((bK L p most).1).rs,((bK L p most).1).ls,((aJ L p most).1).sub,((aJ L p most).1).len,((aJ L p most).1).es,t1.2.2,t6.2.1,t6.2.2.1,t6.2.2.2.1⟩:Scn)) ⟨[rR 4 1],[.box (.agg [.sl 1 (L.map AV.int) false,.int t6.2.2.2.2]),.box (Scn.v (⟨((bK L p most).1).rs,((bK L p most).1).ls,((aJ L p most).1).sub,((aJ L p most).1).len,((aJ L p most).1).es,t1.2.2,t6.2.1,t6.2.2.1,t6.2.2.2.1⟩:Scn))]⟩ [0,1])))))))))))))))))))))))
set_option maxHeartbeats 1000000 in
theorem RS(L:List Int)(p:Nat)(most:Int)(h:1≤most∧most≤8):∃I0 m0 I1 m1 I2 m2 I3 m3 I4 m4 I5 I6 m6,(H6 L p most I0 m0 I1 m1 I2 m2 I3 m3 I4 m4 I5 I6 m6).vc zc zd ((⟨L,(vw L p most).2⟩:Tap),(vw L p most).1):=by
 refine⟨λt=>jN (kK L p most).1.es (λout e=>put out e.router) [] t.2 t.1,λt=>(kK L p most).1.es.length-t.2.toNat,
  λ_ t=>∃k:Nat,t.1=k∧k≤(cT L p most).length∧t.2.2.length=k∧lL L (ow L p most) ((cT L p most).drop k) t.2.2 t.2.1=eu L p most,λ_ t=>(cT L p most).length-t.1.toNat,
  λ_ s _ t=>∃j:Nat,t.1=j∧j≤(bx L 4 s.2.1).1.list.length∧t.2=((bx L 4 s.2.1).1.list.take j).map (shM (ow L p most-(bx L 4 s.2.1).1.now) (10 * s.2.2.length))++(bx L 4 s.2.1).1.list.drop j,λ_ s _ t=>(bx L 4 s.2.1).1.list.length-t.1.toNat,
  λ_ _ t=>∃k:Nat,t.1=k∧k≤3∧NIB (cT L p most) ⟨t.2.1,t.2.2.1,t.2.2.2.1⟩ (14440 * (3-k))∧jH L (decide (0<(cT L p most).length)) k (⟨t.2.1,t.2.2.1,t.2.2.2.1⟩,t.2.2.2.2)=tu L p most,λ_ _ t=>t.1.toNat,
  λ_ _ _ t=>∃k:Nat,t.1=k∧k≤(eu L p most).1.length∧NIB (cT L p most) ⟨t.2.1,t.2.2.1,t.2.2.2.1⟩ 43320∧kD L ((eu L p most).1.drop k) (⟨t.2.1,t.2.2.1,t.2.2.2.1⟩,t.2.2.2.2)=mR L p most,λ_ _ _ t=>(eu L p most).1.length-t.1.toNat,
  λ_ _ _ s x b=>b=if(ofW ⟨x.now,x.list⟩).2=0 then(decide (0<Mod (aj L s.2.2.2.2) 6),ab L s.2.2.2.2)else(false,s.2.2.2.2),
  λ_ _ _ _ t=>∃k:Nat,t.1=k∧k≤3∧NIB (cT L p most) ⟨t.2.1,t.2.2.1,t.2.2.2.1⟩ (43320+14403 * (3-k))∧ph L k (⟨t.2.1,t.2.2.1,t.2.2.2.1⟩,t.2.2.2.2)=za L p most,λ_ _ _ _ t=>t.1.toNat,?_⟩
 dsimp only[H6,H7,aJ,Ax.vp,Ax.vc];simp only[vcU,rfU,f'];obtain⟨t1,t2,t3⟩:=oU (L:=L) (p:=p) (most:=most) (by omega);have hP:lU L (bK L p most).2 (bK L p most).1=kK L p most:=rfl;have hN:ay [0,100] (aj L (kK L p most).2)=ow L p most:=rfl;have hp:=BU (L:=L) (p:=p) h;have hes:=hp.es;obtain⟨hR,hR8⟩:=jS (L:=L) (p:=p) h;have hnow:=BV (L:=L) (p:=p) (most:=most);obtain⟨hS,hSr⟩:=o8 (L:=L) (p:=p) h;have hS8:=pc (L:=L) (p:=p) h;rw[hP,hN];refine⟨by omega,by omega,jN.zero,?_⟩;rintro⟨rts,i⟩ h0;simp only at h0 ⊢;have hlen:=h0.len (f:=List.length) (a:=0) (b:=1) (by simp) λs x _=>gb s x.router
 refine⟨λc=>⟨h0.idx,c,λx hx=>⟨?_,h0.step (by omega) hx rfl⟩⟩,λc=>?_⟩
 ·have:=av hx;omega
 have e:rts=cT L p most:=h0.done c;subst e;clear h0 hlen;refine⟨by simp,⟨0,rfl,by omega,rfl,rfl⟩,?_⟩;rintro⟨i1,q1,sits⟩ ⟨k1,hi1,hk1,hl1,hr1⟩;simp only at hi1 hl1 hr1 ⊢;subst hi1;simp only[Int.toNat_natCast]
 refine⟨λc1=>⟨by omega,by omega,λr hr=>⟨by omega,⟨0,rfl,by omega,by simp⟩,?_⟩⟩,λc1=>?_⟩
 ·have hk1':k1<(cT L p most).length:=by omega
  obtain⟨m1,m2,m3,m4⟩:=we L (n:=4) q1 (by omega);rintro⟨j,ml⟩ ⟨k2,hj,hk2,hml⟩;simp only at hj hml ⊢;subst hj;simp only[Int.toNat_natCast];generalize hM:bx L 4 q1=M at *
  have hmll:ml.length=M.1.list.length:=by rw[hml];simp;omega
  refine⟨λc2=>?_,λc2=>?_⟩
  ·have hk2':k2<M.1.list.length:=by omega
   have hb:(bif decide ((0:Int)≤(k2:Int))then decide ((k2:Int)<ml.length)else false)=true:=kN (by omega) (by omega);have hg:ml[k2]?=some M.1.list[k2]:=by rw[hml];exact Po hk2'
   have hmk:=m2 _ (ay' hk2');have t1:=hmk.til;have t2:=hmk.host
   generalize hx0:M.1.list[k2]=x0 at *
   refine⟨hb,by omega,λx8 e8=>⟨hb,by omega,λx9 e9=>?_⟩⟩;rw[hg]at e8 e9;cases e8;cases e9;refine⟨kN (by omega) (by rw[List.length_set];omega),by rw[List.length_set];omega,λx10 e10=>⟨kN (by omega) (by rw[List.length_set];omega),by rw[List.length_set];omega,λx11 e11=>?_⟩⟩;rw[List.getElem?_set_self (by omega)]at e10 e11;cases e10;cases e11;have w1:W (ow L p most-M.1.now)=ow L p most-M.1.now:=ci (by omega);have w2:W (x0.til+(ow L p most-M.1.now))=x0.til+(ow L p most-M.1.now):=ci (by omega);have w3:W (10 * (sits.length:Int))=10 * (sits.length:Int):=ci (by omega);have w4:W (10 * (sits.length:Int)+x0.host)=10 * (sits.length:Int)+x0.host:=ci (by omega);rw[w1,w2,w3,w4,am (n:=M.1.list.length) hk2' (by omega),List.set_set];refine⟨⟨k2+1,rfl,by omega,?_⟩,by omega⟩;rw[hml,←Nr hk2',hx0];rfl
  ·have:k2=M.1.list.length:=by omega
   subst this;rw[G' (V' _),aJ' (V' _),az']at hml;rw[am (n:=(cT L p most).length) hk1' (by omega)];refine⟨by omega,⟨k1+1,rfl,by omega,by simp[hl1],?_⟩,by omega⟩;have hd:=ar' hk1';have hre:(cT L p most)[k1]=r:=by rw[E' hk1']at hr;exact ao' hr
   rw[hd,hre,lL,hM]at hr1;rw[hml];exact hr1
 have:k1=(cT L p most).length:=by omega
 subst this;rw[aJ' (V' _),lL]at hr1;have hs1:sits=(eu L p most).1:=congrArg Prod.fst hr1;have hs2:q1=(eu L p most).2:=congrArg Prod.snd hr1;subst hs1;subst hs2;clear hr1;have h4:=bw (x:=aj L (eu L p most).2) (n:=4) (by decide);have z0:=BW (L:=L) (p:=p) h;have hA:tu L p most=jH L (decide (0<(cT L p most).length)) (Mod (aj L (eu L p most).2) 4).toNat ((ez (cT L p most)).1,ab L (eu L p most).2):=rfl;generalize (ez (cT L p most)).1=o0 at hA z0 ⊢
 refine⟨by omega,⟨(Mod (aj L (eu L p most).2) 4).toNat,by omega,by omega,?_,hA.symm⟩,?_⟩
 ·exact z0.more (by omega)
 rintro⟨c3,sp3,ls3,fl3,q3⟩ ⟨k3,hc3,hk3,hw3,hr3⟩;simp only at hc3 hw3 hr3 ⊢;subst hc3;have hfl3:=hw3.2;simp only at hfl3
 refine⟨λd=>⟨λe=>⟨⟨?_,by show fl3.length≤300000;omega⟩,?_⟩,λe=>?_⟩,λd=>?_⟩
 ·have:=hw3.1.spl;show 0<sp3.length;simp only at this;omega
 ·rw[dW (by omega) (by omega)];obtain⟨k',rfl⟩:∃k',k3=k'+1:=⟨k3-1,by omega⟩
  rw[jH,decide_eq_true (by omega),if_pos rfl]at hr3;simp only[bu']
  refine⟨⟨k',rfl,by omega,?_,?_⟩,by omega⟩
  ·exact(hw3.act (L:=L) (p:=q3)).more (by omega)
  ·rw[decide_eq_true (by omega)];exact hr3
 ·rw[dW (by omega) (by omega)];obtain⟨k',rfl⟩:∃k',k3=k'+1:=⟨k3-1,by omega⟩
  rw[jH,decide_eq_false (by omega),u' (by simp)]at hr3;simp only[bu'];refine⟨⟨k',rfl,by omega,hw3.more (by omega),?_⟩,by omega⟩;rw[decide_eq_false (by omega)];exact hr3
 have:k3=0:=by omega
 subst this;rw[jH]at hr3
 refine⟨⟨0,rfl,by omega,?_,?_⟩,?_⟩
 ·exact hw3.more (by omega)
 ·rw[be',hr3];rfl
 clear hw3 hr3 hfl3;rintro⟨i4,sp4,ls4,fl4,q4⟩ ⟨k4,hi4,hk4,hw4,hr4⟩;simp only at hi4 hw4 hr4 ⊢;subst hi4;simp only[Int.toNat_natCast];have hfl4:=hw4.2;simp only at hfl4
 refine⟨λd=>⟨kN (by omega) d,by omega,λx hx=>⟨⟨λe=>?_,λe=>?_⟩,?_⟩⟩,λd=>?_⟩
 ·rw[if_pos (eq_of_beq e)]
 ·rw[u' (by simpa using e)]
 ·have hk4':=av hx;have hxe:(eu L p most).1[k4]=x:=by rw[E' hk4']at hx;exact ao' hx
  have hd:=ar' hk4';rw[hd,hxe,kD]at hr4;have hw5:=xT (L:=L) (x:=x) (s:=(⟨sp4,ls4,fl4⟩,q4)) hw4;rw[am (n:=(eu L p most).1.length) hk4' (by omega)]
  have fin:∀{o:Ovl} {q:Nat},kE L x (⟨sp4,ls4,fl4⟩,q4)=(o,q)→(∃k:Nat,((k4+1:Nat):Int)=k∧k≤(eu L p most).1.length∧NIB (cT L p most) ⟨o.sp,o.ls,o.fl⟩ 43320∧kD L ((eu L p most).1.drop k) (⟨o.sp,o.ls,o.fl⟩,q)=mR L p most) ∧
    (eu L p most).1.length-(((k4+1:Nat):Int)).toNat<(eu L p most).1.length-k4:=by
   intro o q e;rw[e]at hr4 hw5;exact⟨⟨k4+1,rfl,by omega,hw5.more (by omega),hr4⟩,by omega⟩
  rintro⟨b5,q5⟩ hb5;simp only at hb5 ⊢
  by_cases e1:(ofW ⟨x.now,x.list⟩).2=0
  ·rw[if_pos e1]at hb5;simp only[Prod.mk.injEq]at hb5;obtain⟨rfl,rfl⟩:=hb5
   refine⟨λe2=>⟨by omega,λe3=>fin ?_,λe3=>fin (o:=⟨sp4,ls4,fl4⟩) ?_⟩,λe2=>fin (o:=⟨sp4,ls4,fl4⟩) ?_⟩
   ·rw[kE,if_pos e1,if_pos (H' e2),orO,u' (not_not_intro (eq_of_beq e3))]
   ·rw[kE,if_pos e1,if_pos (H' e2),orO,if_pos (by simpa using e3)]
   ·rw[kE,if_pos e1,u' (ab' e2)]
  ·rw[u' e1]at hb5;simp only[Prod.mk.injEq]at hb5;obtain⟨rfl,rfl⟩:=hb5;refine⟨λe2=>by simp at e2,λe2=>fin (o:=⟨sp4,ls4,fl4⟩) ?_⟩;rw[kE,u' e1]
 have:k4=(eu L p most).1.length:=by omega
 subst this;rw[aJ' (V' _),kD]at hr4;have hz:(⟨sp4,ls4,fl4⟩:Ovl)=(mR L p most).1:=congrArg Prod.fst hr4;have hq:q4=(mR L p most).2:=congrArg Prod.snd hr4;have z5:=N4 (L:=L) (p:=p) h;rw[←hz]at z5;have h6:=bw (x:=aj L q4) (n:=4) (by decide)
 refine⟨⟨(Mod (aj L q4) 4).toNat,by omega,by omega,z5.more (by omega),?_⟩,?_⟩
 ·rw[hz,hq];rfl
 rintro⟨c6,sp6,ls6,fl6,q6⟩ ⟨k6,hc6,hk6,hw6,hr6⟩;simp only at hc6 hw6 hr6 ⊢;subst hc6;have hfl6:=hw6.2;simp only at hfl6
 refine⟨λd=>⟨by omega,⟨by show fl6.length≤400000;omega,?_⟩,?_⟩,λd=>?_⟩
 ·have:=eF (L:=L) (n:=fl6.length) (p:=q6);omega
 ·rw[dW (by omega) (by omega)];obtain⟨k',rfl⟩:∃k',k6=k'+1:=⟨k6-1,by omega⟩
  rw[ph]at hr6;simp only[bu'];have hf:=eF (L:=L) (n:=fl6.length) (p:=q6);exact⟨⟨k',rfl,by omega,((hw6.round _).2).more (by omega),hr6⟩,by omega⟩
 ·have:k6=0:=by omega
  subst this;rw[ph]at hr6;rw[vw,←hr6]
def RT(L:List Int)(p:Nat)(most:Int)(h:1≤most∧most≤8):HC Tryz.prog:=hcO 9 [.k,.k] [.ref 0 0,.int most] [.box (.agg [.sl 1 (L.map AV.int) false,.int p])] (.a [(.s 2),(.s 5),.k,.k,(.s 2),(.s 3),(.s 5),(.s 3),(.s 10)]) zc zd ((⟨L,(vw L p most).2⟩:Tap),(vw L p most).1) (λ_ _=>let ⟨I0,m0,I1,m1,I2,m2,I3,m3,I4,m4,I5,I6,m6,h⟩:=RS L p most h;⟨_,h,by kernel_rfl⟩) (by kernel_rfl) (by simp[hcB,bI,AV.belB,allB,cE,bW,zc,zd,Scn.v,Tap.v,ae (v:=AV.int) (λ_=>rfl),ae (v:=Edg.v) (λ_=>rfl),ae (v:=Lnk.v) (λ_=>rfl),ae (v:=Lsn.v) (λ_=>rfl),ae (v:=Rtr.v) (λ_=>rfl),ae (v:=Sig.v) (λ_=>rfl),ae (v:=Sit.v) (λ_=>rfl),ae (v:=Spk.v) (λ_=>rfl)])
def LWB(R:List Int)(o:Ovl)(k:Int)(B:Nat):Prop:=(∃lw,LW R o k lw)∧o.fl.length≤B
theorem LWB.oi{R:List Int}{o:Ovl}{k:Int}{B:Nat}(h:LWB R o k B):OI R o:=by obtain⟨⟨lw,h⟩,_⟩:=h;exact h.oi
theorem LWB.or{R:List Int}{o:Ovl}{k:Int}{B:Nat}{x:Ovl×Int}(h:LWB R o k B)(hx:x.2=0→LWB R x.1 (k+1) B):LWB R (orO o x) (k+1) B:=by
 unfold orO
 by_cases e:x.2≠0
 ·rw[if_pos e];obtain⟨⟨lw,h⟩,hb⟩:=h;exact⟨⟨lw,h.more (by omega)⟩,hb⟩
 ·rw[u' e];exact hx (X'.mp e)
theorem LWB.more{R:List Int}{o:Ovl}{k k':Int}{B B':Nat}(h:LWB R o k B)(hk:k≤k')(hB:B≤B'):LWB R o k' B':=by
 obtain⟨⟨lw,h⟩,hb⟩:=h;exact⟨⟨lw,h.more hk⟩,by omega⟩
theorem LWB.change{R:List Int}{o:Ovl}{k:Int}{B:Nat}{r:Int}{w:List Wnt}(h:LWB R o k B)(hw:WOk 7 w)(hk:0≤k∧k≤1000)(q:(aS o r w).2=0):LWB R (aS o r w).1 (k+1) B:=by
 obtain⟨⟨lw,h⟩,hb⟩:=h;obtain⟨hr,c⟩:=qD h.oi q;exact⟨⟨_,(h.change hr hw hk).2⟩,by rw[c.fl];exact hb⟩
theorem LWB.restart{R:List Int}{o:Ovl}{k:Int}{B:Nat}{r:Int}{w:List Wnt}(h:LWB R o k B)(hw:WOk 7 w)(hk:0≤k∧k≤1000)(q:(bE o r w).2=0):LWB R (bE o r w).1 (k+1) B:=by
 obtain⟨⟨lw,h⟩,hb⟩:=h;obtain⟨hr,c⟩:=nR h.oi q;exact⟨⟨_,(h.restart hr hw hk).2⟩,by rw[c.fl];exact hb⟩
theorem LWB.round{R:List Int}{o:Ovl}{k:Int}{B:Nat}(h:LWB R o k B)(f:List Fau):(roundO o f).2=0∧LWB R (roundO o f).1 k (B+f.length+14400):=by
 obtain⟨⟨lw,h⟩,hb⟩:=h;have:=(h.oi.roundO f).2.len;exact⟨(h.roundO f).1,⟨lw,(h.roundO f).2⟩,by omega⟩
theorem LWB.act{R:List Int}{o:Ovl}{k:Int}{B:Nat}{L:List Int}{p:Nat}(h:LWB R o k B)(hk:0≤k∧k≤1000):LWB R (gE L p o).1 (k+1) (B+14440):=by
 have h':LWB R o k (B+14440):=h.more (by omega) (by omega);unfold gE
 split
 ·exact h'.or λq=>h'.change (rh _ _) hk q
 split
 ·exact h'.or λq=>h'.restart (rh _ _) hk q
 split
 ·refine h'.or λq=>?_;have k':=(h.round (dT L (min o.fl.length 40) (ab L (ab L p))).1).2;have:=kV (L:=L) (n:=min o.fl.length 40) (p:=ab L (ab L p));exact k'.more (by omega) (by omega)
 ·refine h'.or λq=>?_;have k':=(h.round (bQ L o.fl.length (ab L (ab L p))).1).2;have:=eF (L:=L) (n:=o.fl.length) (p:=ab L (ab L p));exact k'.more (by omega) (by omega)
theorem yp{R:List Int}{L:List Int}{b:Bool}:∀{n:Nat} {s:Ovl×Nat} {k:Int} {B:Nat},LWB R s.1 k B→0≤k→k+n≤1000→LWB R (jH L b n s).1 (k+n) (B+14440 * n)
 | 0,s,k,B,h,h0,h1=>h.more (by omega) (by omega)
 | n+1,s,k,B,h,h0,h1=>by
  rw[jH];have:LWB R (if b=true then gE L s.2 s.1 else s).1 (k+1) (B+14440):=by
   split
   ·exact h.act (by omega)
   ·exact h.more (by omega) (by omega)
  exact(yp (n:=n) this (by omega) (by omega)).more (by omega) (by omega)
theorem Lt{R:List Int}{L:List Int}{now:Int}{x:Sit}{s:Ovl×Nat}{k:Int}{B:Nat}(hx:jb now x)(h:LWB R s.1 k B)(hk:0≤k∧k≤1000):LWB R (kE L x s).1 (k+1) B:=by
 obtain⟨o1,o2⟩:=fU hx.err hx.grp;rw[kE,o1,if_pos rfl]
 split
 ·exact h.or λq=>h.change o2 hk q
 ·exact h.more (by omega) (by omega)
theorem xQ{R:List Int}{L:List Int}{now:Int}:∀{l:List Sit} {s:Ovl×Nat} {k:Int} {B:Nat},(∀x∈l,jb now x)→LWB R s.1 k B→0≤k→k+l.length≤1000→LWB R (kD L l s).1 (k+l.length) B
 | [],s,k,B,_,h,h0,h1=>h.more (by simp) (by omega)
 | x::l,s,k,B,hl,h,h0,h1=>by
  simp only[Z']at h1 ⊢;rw[kD];exact(xQ (l:=l) (λy hy=>hl y (by simp[hy])) (Lt (L:=L) (hl x (by simp)) h (by omega)) (by omega) (by omega)).more (by omega) (by omega)
theorem vC{R:List Int}{L:List Int}:∀{n:Nat} {s:Ovl×Nat} {k:Int} {B:Nat},LWB R s.1 k B→LWB R (ph L n s).1 k (B+14403 * n)
 | 0,s,k,B,h=>h.more (by omega) (by omega)
 | n+1,s,k,B,h=>by
  rw[ph];have h1:=(h.round (bQ L s.1.fl.length s.2).1).2;have:=eF (L:=L) (n:=s.1.fl.length) (p:=s.2);exact(vC (n:=n) (s:=((roundO s.1 (bQ L s.1.fl.length s.2).1).1,(bQ L s.1.fl.length s.2).2)) h1).more (by omega) (by omega)
section
variable {L : List Int} {p : Nat} {most : Int}
theorem N7(h:1≤most∧most≤8):LWB (cT L p most) (ez (cT L p most)).1 0 0:=by
 have hr:=(jS (L:=L) (p:=p) h).1;rw[ez,if_pos hr];exact⟨⟨_,LW.new hr⟩,by simp[eC]⟩
theorem N5(h:1≤most∧most≤8):LWB (cT L p most) (tu L p most).1 3 43320:=by
 have z:=N7 (L:=L) (p:=p) h;have h4:=S5 (aj L (eu L p most).2);unfold tu;generalize (ez (cT L p most)).1=o0 at z ⊢;generalize (Mod (aj L (eu L p most).2) 4).toNat=n at h4 ⊢;exact(yp (L:=L) (b:=decide (0<(cT L p most).length)) (n:=n) (s:=(o0,ab L (eu L p most).2)) z (by omega) (by omega)).more (by omega) (by omega)
theorem N3(h:1≤most∧most≤8):LWB (cT L p most) (mR L p most).1 11 43320:=by
 have z:=N5 (L:=L) (p:=p) h;have hl:=pc (L:=L) (p:=p) h;have hs:=(o8 (L:=L) (p:=p) h).1;unfold mR;generalize tu L p most=A at z ⊢;exact(xQ (L:=L) hs z (by omega) (by omega)).more (by omega) (by omega)
theorem Nv(h:1≤most∧most≤8):LWB (cT L p most) (za L p most).1 11 86529:=by
 have z:=N3 (L:=L) (p:=p) h;have h4:=S5 (aj L (mR L p most).2);unfold za;generalize mR L p most=C at z h4 ⊢;generalize (Mod (aj L C.2) 4).toNat=n at h4 ⊢;exact(vC (L:=L) (n:=n) (s:=(C.1,ab L C.2)) z).more (by omega) (by omega)
end
def ko(s:Scn):Ovl:=⟨s.sp,s.lsn,s.fl⟩
def withO(s:Scn)(o:Ovl):Scn:=⟨s.rs,s.ls,s.sub,s.len,s.es,s.sites,o.sp,o.ls,o.fl⟩
def jc(x:Sit):List Wnt:=(ofW ⟨x.now,x.list⟩).1
def chgS(o:Ovl)(x:Sit):Ovl:=(aS o x.router (jc x)).1
def vt(s:Scn):Scn:=withO s (rds (s.sites.foldl chgS (ko s)) 5)
structure Ec (s:Scn):Prop where
  now:∃n,∀x∈s.sites,jb n x
  lwb:LWB (s.sites.map Sit.router) (ko s) 11 86529
  nd:(s.sites.map Sit.router).Nodup
  len:s.sites.length≤8
def mkScn(T:Tpl)(P:Pln)(S:List Sit)(o:Ovl):Scn:=⟨T.rs,T.ls,P.sub,P.len,P.es,S,o.sp,o.ls,o.fl⟩
theorem IR{T:Tpl}{P:Pln}{S:List Sit}{o:Ovl}{n:Int}{R:List Int}(h1:∀x∈S,jb n x)(h2:S.map Sit.router=R)(h3:LWB R o 11 86529)(h4:R.Pairwise (·<·))(h5:S.length≤8):Ec (mkScn T P S o):=by
 subst h2;exact⟨⟨_,h1⟩,h3,h4.imp λq=>by omega,h5⟩
theorem zb{L:List Int}{p:Nat}{most:Int}(h:1≤most∧most≤8):Ec (vw L p most).1:=by
 obtain⟨a,b⟩:=o8 (L:=L) (p:=p) h;exact IR (T:=(bK L p most).1) (P:=(kK L p most).1) a b (Nv (L:=L) (p:=p) h) (jS (L:=L) (p:=p) h).1.2.2 (pc h)
theorem LWB.chgS{R:List Int}{o:Ovl}{k:Int}{B:Nat}{n:Int}{x:Sit}(h:LWB R o k B)(hx:jb n x)(hr:x.router∈R)(hk:0≤k∧k≤1000):LWB R (chgS o x) (k+1) B:=by
 obtain⟨o1,o2⟩:=fU hx.err hx.grp;have hw:WOk 7 (jc x):=by unfold jc;rw[o1];exact o2
 refine h.change hw hk ?_;obtain⟨⟨lw,h⟩,_⟩:=h;exact(h.change hr hw hk).1
theorem DS{R:List Int}{n:Int}:∀{l:List Sit} {o:Ovl} {k:Int} {lw:Int→List Wnt},LW R o k lw→(∀x∈l,jb n x∧x.router∈R)→(l.map Sit.router).Nodup→0≤k→k+l.length≤1000 →
  ∃lw',LW R (l.foldl chgS o) (k+l.length) lw'∧(∀x∈l,lw' x.router=jc x)∧∀r,r ∉ l.map Sit.router→lw' r=lw r
 | [],o,k,lw,h,_,_,_,_=>⟨lw,by simpa using h,by simp,λ_ _=>rfl⟩
 | x::l,o,k,lw,h,hl,hn,h0,h1=>by
  simp only[Z']at h1 ⊢;obtain⟨hx,hr⟩:=hl x (by simp);obtain⟨o1,o2⟩:=fU hx.err hx.grp;have hw:WOk 7 (jc x):=by unfold jc;rw[o1];exact o2
  rw[au',bq']at hn;obtain⟨lw',a,b,c⟩:=DS (l:=l) (h.change hr hw (by omega)).2 (λy hy=>hl y (by simp[hy])) hn.2 (by omega) (by omega)
  refine⟨lw',a.more (by omega),λy hy=>?_,λr hr'=>?_⟩
  ·rcases P'.mp hy with rfl|hy
   ·rw[c _ hn.1];unfold upW;rw[if_pos rfl]
   ·exact b y hy
  ·simp only[au',P',not_or]at hr';rw[c r hr'.2];unfold upW;rw[u' hr'.1]
theorem Nq{s:Scn}(h:Ec s):OI (s.sites.map Sit.router) (ko (vt s))∧(ko (vt s)).fl.length≤158529∧∀a∈s.sites,∀x∈s.sites,cF (ko (vt s)) a.router x.router=(jc x,0):=by
 obtain⟨n,hn⟩:=h.now;obtain⟨lw,h1⟩:=h.lwb.1;have hm:∀x∈s.sites,x.router∈s.sites.map Sit.router:=λx hx=>bD' hx;obtain⟨lw',a,b,c⟩:=DS (l:=s.sites) h1 (λx hx=>⟨hn x hx,hm x hx⟩) h.nd (by omega) (by have:=h.len;omega);have e:ko (vt s)=rds (s.sites.foldl chgS (ko s)) 5:=rfl;rw[e];have r5:=Ie a 5;have q5:=E9 a.oi;have hb:∀(l:List Sit) (o:Ovl),(∀x∈l,jb n x∧x.router∈s.sites.map Sit.router)→∀k:Int,0≤k→k+l.length≤1000→LWB (s.sites.map Sit.router) o k 86529→(l.foldl chgS o).fl.length≤86529:=by
  intro l
  induction l with
  | nil=>intro o _ k _ _ h;exact h.2
  | cons x l ih =>
   intro o hl k h0 h2 h;simp only[Z']at h2;exact ih (chgS o x) (λy hy=>hl y (by simp[hy])) (k+1) (by omega) (by omega) (h.chgS (hl x (by simp)).1 (hl x (by simp)).2 (by omega))
 have f5:=(zl a.oi 5).2;have f0:=hb s.sites (ko s) (λx hx=>⟨hn x hx,hm x hx⟩) 11 (by omega) (by have:=h.len;omega) h.lwb;refine⟨r5.oi,by omega,λy hy x hx=>?_⟩;rw[rb r5.oi q5.2.1 (hm x hx) (hm y hy)];have:=r5.wa x.router (hm x hx);rw[b x hx]at this;exact congrArg (·,0) this
def tT(x:Sit):aK:=⟨x.now,x.list⟩
def eX(x:Sit):Int:=if x.router<1∨99<x.router then 2 else aZ (tT x)
def Nj(s:Sit)(t0:Bool):NF:=⟨[rR 1 0,rB 10 t0],[.box (Sit.v s)]⟩
@[reducible] def Ho:Nat→Type
 | 0=>Bool
 | _=>Unit
def Hq(r:Int):AV:=.int r
def Hn(s:Sit)(I0:Bool→Prop):Ax Tryz.prog Ho (Int):=
 (.pass (.pass (.join 0 (Nj s) (λ(t0:Bool)=>I0 t0) (λb0=>(.br 96 (decide (s.router<1)) (.bk 0 b0 ((true):Bool) [0])
(.bk 0 b0 ((decide (99<s.router)):Bool) [0]))) λ(t0:Bool) =>
(.br 1 t0 (.ret (2))
(.callP (zC (⟨s.now,s.list⟩:aK))
(.ret (aZ (⟨s.now,s.list⟩:aK))))))))
theorem RO(s:Sit):∃I,(Hn s I).vp Hq (eX s):=by
 refine⟨λb=>b=decide (s.router<1∨99<s.router),?_⟩;dsimp only[Hn,Ho,Ax.vp,Ax.vc];simp only[vcU,rfU,f']
 refine⟨⟨λc=>?_,λc=>?_⟩,?_⟩
 ·simp[c]
 ·rw[decide_eq_decide];omega
 rintro _ rfl
 refine⟨λc=>?_,λc=>?_⟩
 ·rw[eX,if_pos (H' c)]
 ·rw[eX,u' (ab' c)];rfl
def Hr(s:Sit):PC Tryz.prog:=pcO 48 [(.a [.k,.k,(.s 5)])] [Sit.v s] .k Hq (eX s) (λ_=>let ⟨I0,h⟩:=RO s;⟨_,h,by kernel_rfl⟩) rfl (by kernel_rfl)
def iC(o:Ovl)(s:Sit):Ovl×Int:=
 if eX s≠0 then(⟨[],[],[]⟩,eX s)else if(ofW (tT s)).2≠0 then(⟨[],[],[]⟩,(ofW (tT s)).2)else aS o s.router (ofW (tT s)).1
def Md(r:Ovl×Int):AV:=.tup [Ovl.v r.1,.int r.2]
def Bf(o:Ovl)(s:Sit):Ax Tryz.prog noS (Ovl×Int):=
 (.callP (Hr s)
(.br 144 ((eX s) != 0) (.ret ((⟨[],[],[]⟩:Ovl),eX s))
(.callP (QV (⟨s.now,s.list⟩:aK))
(.br 304 (((ofW (⟨s.now,s.list⟩:aK)).2) != 0) (.ret ((⟨[],[],[]⟩:Ovl),(ofW (⟨s.now,s.list⟩:aK)).2))
(.req 368 (o.fl.length≤1000000) λh1 =>
(.callP (PK o s.router ((ofW (⟨s.now,s.list⟩:aK)).1) h1)
(.ret ((aS o s.router ((ofW (⟨s.now,s.list⟩:aK)).1)).1,(aS o s.router ((ofW (⟨s.now,s.list⟩:aK)).1)).2))))))))
theorem TU(o:Ovl)(s:Sit)(h:o.fl.length≤1000000):(Bf o s).vp Md (iC o s):=by
 dsimp only[Bf,noS,Ax.vp,Ax.vc];simp only[vcU,rfU,f'];unfold iC tT
 refine⟨λc=>?_,λc=>⟨λd=>?_,λd=>⟨h,?_⟩⟩⟩
 ·rw[if_pos (by simpa using c)]
 ·rw[u' (by simpa using c),if_pos (by simpa using d)]
 ·rw[u' (by simpa using c),u' (by simpa using d)]
def Bg(o:Ovl)(s:Sit)(h:o.fl.length≤1000000):PC Tryz.prog:=pcO 10 [(.a [(.s 5),(.s 3),(.s 10)]),(.a [.k,.k,(.s 5)])] [Ovl.v o,Sit.v s] (.a [(.a [(.s 5),(.s 3),(.s 10)]),.k]) Md (iC o s) (λ_=>⟨(Bf o s),TU o s h,by kernel_rfl⟩) rfl (by kernel_rfl)
def ot(o:Ovl)(s:Sit):Bool:=decide (orI [eX s,(cF o s.router s.router).2,(ofW (tT s)).2]=0) && decide ((cF o s.router s.router).1=(ofW (tT s)).1)
def Hc(r:Bool):AV:=.bool r
def yL(o:Ovl)(s:Sit):Ax Tryz.prog noS (Bool):=
 (.callP (OX o s.router s.router)
(.callP (QV (⟨s.now,s.list⟩:aK))
(.callP (Hr s)
(.callP (CD [eX s,(cF o s.router s.router).2,(ofW (⟨s.now,s.list⟩:aK)).2])
(.br 480 ((orI [eX s,(cF o s.router s.router).2,(ofW (⟨s.now,s.list⟩:aK)).2])==0) (.callP (RL ((cF o s.router s.router).1) ((ofW (⟨s.now,s.list⟩:aK)).1))
(.ret (decide (((cF o s.router s.router).1)=((ofW (⟨s.now,s.list⟩:aK)).1)))))
(.ret (false)))))))
theorem RD(o:Ovl)(s:Sit):(yL o s).vp Hc (ot o s):=by
 dsimp only[yL,noS,Ax.vp,Ax.vc];simp only[vcU,rfU,f'];unfold ot tT
 refine⟨λc=>?_,λc=>?_⟩
 ·rw[decide_eq_true (eq_of_beq c)];rfl
 ·rw[decide_eq_false (by simpa using c)];rfl
def tf(o:Ovl)(s:Sit):PC Tryz.prog:=pcO 11 [(.a [(.s 5),(.s 3),(.s 10)]),(.a [.k,.k,(.s 5)])] [Ovl.v o,Sit.v s] .k Hc (ot o s) (λ_=>⟨(yL o s),RD o s,by kernel_rfl⟩) rfl (by kernel_rfl)
def DX(r:Bool):AV:=.bool r
def uC:Ax Tryz.prog noS (Bool):=
 (.req 32 ([1,2].length≤1000) λh1 =>
(.callP (CO [1,2] h1)
(.callP (tf ((ez [1,2]).1) (⟨2,0,[]⟩:Sit))
(.callP ((tf ((ez [1,2]).1) (⟨2,0,[(⟨3,4,2,[],9⟩:Mem)]⟩:Sit)).wsh [.a [(.s 5),(.s 3),(.s 10)],.a [.k,.k,.v (.a [.k,.k,.k,(.s 1),.k])]])
(.req 448 (((ez [1,2]).1).fl.length≤1000000) λh2 =>
(.callP ((Bg ((ez [1,2]).1) (⟨2,0,[(⟨3,4,2,[],9⟩:Mem)]⟩:Sit) h2).wsh [.a [(.s 5),(.s 3),(.s 10)],.a [.k,.k,.v (.a [.k,.k,.k,(.s 1),.k])]])
(.br 592 (((ez [1,2]).2)==0) (.br 656 (((iC ((ez [1,2]).1) (⟨2,0,[(⟨3,4,2,[],9⟩:Mem)]⟩:Sit)).2)==0) (.br 704 (ot ((ez [1,2]).1) (⟨2,0,[]⟩:Sit)) (.br 768 (!(ot ((ez [1,2]).1) (⟨2,0,[(⟨3,4,2,[],9⟩:Mem)]⟩:Sit))) (.callP ((tf ((iC ((ez [1,2]).1) (⟨2,0,[(⟨3,4,2,[],9⟩:Mem)]⟩:Sit)).1) (⟨2,0,[(⟨3,4,2,[],9⟩:Mem)]⟩:Sit)).wsh [.a [(.s 5),(.s 3),(.s 10)],.a [.k,.k,.v (.a [.k,.k,.k,(.s 1),.k])]])
(.ret (ot ((iC ((ez [1,2]).1) (⟨2,0,[(⟨3,4,2,[],9⟩:Mem)]⟩:Sit)).1) (⟨2,0,[(⟨3,4,2,[],9⟩:Mem)]⟩:Sit))))
(.ret (false)))
(.ret (false)))
(.ret (false)))
(.ret (false)))))))))
def sA38:Sit:=⟨2,0,[]⟩
def HL:Sit:=⟨2,0,[⟨3,4,2,[],9⟩]⟩
theorem DY:(ez [1,2]).2=0∧(ez [1,2]).1.fl.length≤1000000:=by decide +kernel
theorem Qb:(iC (ez [1,2]).1 HL).2=0:=by decide +kernel
theorem Qa:ot (ez [1,2]).1 sA38=true:=by decide +kernel
theorem PZ:ot (ez [1,2]).1 HL=false:=by decide +kernel
theorem PY:ot (iC (ez [1,2]).1 HL).1 HL=true:=by decide +kernel
theorem PW:uC.vp DX true:=by
 dsimp only[uC,noS,Ax.vp,Ax.vc];simp only[vcU,rfU,f'];have e3:=Qa;have e4:=PZ;have e5:=PY;have e2:=Qb;unfold sA38 HL at *
 rw[DY.1,e2,e3,e4,e5]
 refine⟨?_,DY.2,?_⟩
 ·first|decide|simp|exact trivial
 ·simp
def PX:PC Tryz.prog:=pcO 17 [] [] .k DX true (λ_=>⟨(uC),PW,by kernel_rfl⟩) rfl (by kernel_rfl)
theorem og(w:List Wnt):∀n,bU w w n=[]
 | 0=>rfl
 | n+1=>by rw[bU,og w n,mB,if_pos rfl];rfl
theorem AH{s:Spk}(h:aV s)(hl:s.last≤1000000):Go.Proofs.YtiobpjoadkfhdaaGreatDoor.change s []=(s,0):=by
 unfold Go.Proofs.YtiobpjoadkfhdaaGreatDoor.change;rw[u' (not_not_intro h),u' (by decide),u' (by simp;omega)];rfl
theorem E5{α:Type}{l:List α}{j:Nat}{x:α}{z:α}(h:l[j]?=some x):l.set j ((some x).getD z)=l:=by
 obtain⟨h1,h2⟩:=I'.mp h;rw[bS',←h2];exact List.set_getElem_self h1
theorem LW.again{R:List Int}{o:Ovl}{k:Int}{lw:Int→List Wnt}{r:Int}(h:LW R o k lw)(hr:r∈R)(hk:0≤k∧k≤1000):aS o r (lw r)=(o,0):=by
 obtain⟨q1,q2⟩:=h.oi.net.s hr;obtain⟨k1,k2⟩:=h.oi.net.spo _ q1;have ew:aq (atS o.sp r).items=lw r:=h.wa r hr;have he:=(h.wk r hr).err (by omega);have hl:(atS o.sp r).last≤6 * k:=h.bl r hr;have hc:ah (lw r) (lw r)=([],0):=by
  unfold ah;rw[u' (not_not_intro he),u' (not_not_intro he),og,u' (by simp)]
 unfold aS;rw[u' (not_not_intro h.oi.ok),u' (by rw[h.oi.rt];exact not_not_intro hr),u' (not_not_intro he),ew,hc];simp only[AH k1 (by omega)];rw[u' (by simp),u' (by simp)];have:o.sp.set (bi o.sp r) (atS o.sp r)=o.sp:=by
  unfold atS;rw[J'];cases e:o.sp[bi o.sp r]? with
  | none=>rw[List.set_eq_of_length_le (List.getElem?_eq_none_iff.mp e)]
  | some y=>exact E5 e
 rw[this]
theorem LW.router{R:List Int}{o:Ovl}{k:Int}{lw:Int→List Wnt}{r:Int}(h:LW R o k lw)(hr:r∈R):1≤r∧r≤99:=by
 obtain⟨q1,q2⟩:=h.oi.net.s hr;obtain⟨k1,k2⟩:=h.oi.net.spo _ q1;have:=k1.1;rw[q2]at this;exact this
theorem Ni{R:List Int}{o:Ovl}{k:Int}{lw:Int→List Wnt}{n:Int}{x:Sit}(h:LW R o k lw)(hx:jb n x)(hr:x.router∈R):eX x=0∧(ofW (tT x)).2=0:=by
 have:=h.router hr;exact⟨by rw[eX,u' (by omega)];exact hx.err,by have:=(fU hx.err hx.grp).1;show(ofW ⟨x.now,x.list⟩).2=0;rw[this]⟩
theorem TT{R:List Int}{o:Ovl}{k:Int}{lw:Int→List Wnt}{n:Int}{x:Sit}(h:LW R o k lw)(hx:jb n x)(hr:x.router∈R)(hk:0≤k∧k≤900) :
  iC o x=(chgS o x,0)∧iC (chgS o x) x=(chgS o x,0)∧ot (chgS o x) x=true∧LW R (chgS o x) (k+1) (upW lw x.router (jc x)):=by
 obtain⟨e1,e2⟩:=Ni h hx hr;obtain⟨o1,o2⟩:=fU hx.err hx.grp;have hw:WOk 7 (jc x):=by unfold jc;rw[o1];exact o2
 obtain⟨c1,c2⟩:=h.change hr hw (by omega);have c2:LW R (chgS o x) (k+1) (upW lw x.router (jc x)):=c2;have hl:upW lw x.router (jc x) x.router=jc x:=by unfold upW;rw[if_pos rfl]
 have ha:=c2.again hr (by omega);rw[hl]at ha;have hs:∀o',iC o' x=aS o' x.router (jc x):=λo'=>by
  rw[iC,u' (not_not_intro e1),u' (not_not_intro e2)];rfl
 refine⟨by rw[hs];exact Prod.ext rfl c1,by rw[hs];exact ha,?_,c2⟩;have hk':cF (chgS o x) x.router x.router=(jc x,0):=by
  unfold cF;rw[u' (not_not_intro c2.oi.ok),c2.oi.rt,u' (by simp[hr]),if_pos rfl];have:=c2.wa x.router hr;rw[hl]at this;exact congrArg (·,0) this
 unfold ot;rw[hk',e1,e2];show(decide (orI [0,0,0]=0) && decide (jc x=jc x))=true;simp[orI]
def NY(t0:Tap):NF:=⟨[rR 3 0],[.box (Tap.v t0)]⟩
def NX(t1:Scn):NF:=⟨[rR 4 0],[.box (Scn.v t1)]⟩
def NW(t1:Scn)(t2:Int×Int×Ovl):NF:=⟨[rR 4 0,rR 5 1,(28,.k,.sl 3 (t1.sites.map Sit.v) false),rI 29 t2.1,rI 30 t2.2.1],[.box (Scn.v t1),.box (Ovl.v t2.2.2)]⟩
def NV(t1:Scn)(t2:Int×Int×Ovl)(x2:Sit)(t3:Int×Ovl):NF:=⟨[rR 4 0,rR 5 1,rR 7 2,rR 8 3,rI 9 t3.1,(28,.k,.sl 3 (t1.sites.map Sit.v) false),rI 29 t2.1,rI 30 t2.2.1],[.box (Scn.v t1),.box (Ovl.v t2.2.2),.box (Sit.v x2),.box (Ovl.v t3.2)]⟩
def NU(t1:Scn)(t2:Int×Int×Ovl)(x2:Sit)(t3:Int×Ovl)(t4:Int×Ovl):NF:=⟨[rR 4 0,rR 5 1,rR 7 2,rR 8 3,rI 9 t3.1,rR 10 4,rI 11 t4.1,(28,.k,.sl 3 (t1.sites.map Sit.v) false),rI 29 t2.1,rI 30 t2.2.1],[.box (Scn.v t1),.box (Ovl.v t2.2.2),.box (Sit.v x2),.box (Ovl.v t3.2),.box (Ovl.v t4.2)]⟩
def NT(t1:Scn)(t2:Int×Int×Ovl)(t3:Int×Ovl)(t5:Bool):NF:=⟨[rR 4 0,rR 5 1,rR 8 2,(28,.k,.sl 3 (t1.sites.map Sit.v) false),rI 29 t2.1,rI 30 t2.2.1,rB 63 t5],[.box (Scn.v t1),.box (Ovl.v t2.2.2),.box (Ovl.v t3.2)]⟩
def NS(t1:Scn)(t6:Int×Ovl):NF:=⟨[rR 4 0,rR 5 1,rI 12 t6.1],[.box (Scn.v t1),.box (Ovl.v t6.2)]⟩
def NR(t1:Scn)(t6:Int×Ovl)(t7:Int×Int):NF:=⟨[rR 4 0,rR 5 1,(76,.k,.sl 3 (t1.sites.map Sit.v) false),rI 77 t7.1,rI 78 t7.2],[.box (Scn.v t1),.box (Ovl.v t6.2)]⟩
def NQ(t1:Scn)(t6:Int×Ovl)(t7:Int×Int)(x6:Sit)(t8:List Wnt×Int):NF:=⟨[rR 4 0,rR 5 1,rR 14 2,(15,(.s 3),.sl 3 (t8.1.map Wnt.v) false),rI 16 t8.2,(76,.k,.sl 3 (t1.sites.map Sit.v) false),rI 77 t7.1,rI 78 t7.2],[.box (Scn.v t1),.box (Ovl.v t6.2),.box (Sit.v x6)]⟩
def NP(t1:Scn)(t6:Int×Ovl)(t7:Int×Int)(x6:Sit)(t8:List Wnt×Int)(t9:Int×Int):NF:=⟨[rR 4 0,rR 5 1,rR 14 2,(15,.k,.sl 3 (t8.1.map Wnt.v) false),rI 16 t8.2,(76,.k,.sl 3 (t1.sites.map Sit.v) false),rI 77 t7.1,rI 78 t7.2,(89,.k,.sl 3 (t1.sites.map Sit.v) false),rI 90 t9.1,rI 91 t9.2],[.box (Scn.v t1),.box (Ovl.v t6.2),.box (Sit.v x6)]⟩
def HT(t1:Scn)(t6:Int×Ovl)(t7:Int×Int)(x6:Sit)(t8:List Wnt×Int)(t9:Int×Int)(t10:List Wnt×Int):NF:=⟨[rR 4 0,rR 5 1,rR 14 2,(15,.k,.sl 3 (t8.1.map Wnt.v) false),rI 16 t8.2,(19,(.s 3),.sl 3 (t10.1.map Wnt.v) false),rI 20 t10.2,(76,.k,.sl 3 (t1.sites.map Sit.v) false),rI 77 t7.1,rI 78 t7.2,(89,.k,.sl 3 (t1.sites.map Sit.v) false),rI 90 t9.1,rI 91 t9.2],[.box (Scn.v t1),.box (Ovl.v t6.2),.box (Sit.v x6)]⟩
def HQ(t1:Scn)(t6:Int×Ovl)(t7:Int×Int)(x6:Sit)(t8:List Wnt×Int)(t9:Int×Int)(t11:Bool):NF:=⟨[rR 4 0,rR 5 1,rR 14 2,(15,.k,.sl 3 (t8.1.map Wnt.v) false),rI 16 t8.2,(76,.k,.sl 3 (t1.sites.map Sit.v) false),rI 77 t7.1,rI 78 t7.2,(89,.k,.sl 3 (t1.sites.map Sit.v) false),rI 90 t9.1,rI 91 t9.2,rB 115 t11],[.box (Scn.v t1),.box (Ovl.v t6.2),.box (Sit.v x6)]⟩
@[reducible] def HP:Nat→Type
 | 0=>Tap
 | 1=>Scn
 | 2=>Int×Int×Ovl
 | 3=>Int×Ovl
 | 4=>Int×Ovl
 | 5=>Bool
 | 6=>Int×Ovl
 | 7=>Int×Int
 | 8=>(List Wnt)×Int
 | 9=>Int×Int
 | 10=>(List Wnt)×Int
 | 11=>Bool
 | _=>Unit
def HU(r:Bool):AV:=.bool r
def HO(t:List Int)(I2:Tap→Scn→(Int×Int×Ovl)→Prop)(m2:Tap→Scn→(Int×Int×Ovl)→Nat)(I5:Tap→Scn→Int×Int×Ovl→Sit→Int×Ovl→Int×Ovl→Bool→Prop)(I6:Tap→Scn→Int×Int×Ovl→(Int×Ovl)→Prop)(m6:Tap→Scn→Int×Int×Ovl→(Int×Ovl)→Nat)(I7:Tap→Scn→Int×Int×Ovl→Int×Ovl→(Int×Int)→Prop)(m7:Tap→Scn→Int×Int×Ovl→Int×Ovl→(Int×Int)→Nat)(I9:Tap→Scn→Int×Int×Ovl→Int×Ovl→Int×Int→Sit→(List Wnt)×Int→(Int×Int)→Prop)(m9:Tap→Scn→Int×Int×Ovl→Int×Ovl→Int×Int→Sit→(List Wnt)×Int→(Int×Int)→Nat)(I11:Tap→Scn→Int×Int×Ovl→Int×Ovl→Int×Int→Sit→(List Wnt)×Int→Int×Int→Sit→(List Wnt)×Int→Bool→Prop):Ax Tryz.prog HP (Bool):=
 (.pass (.join 0 (NY) (λ(t0:Tap)=>t0=(((⟨t.take 2000,0⟩:Tap)):Tap)) (λb0=>(.callH [] (New_h t) 32
(.bk 0 b0 (((⟨t.take 2000,0⟩:Tap)):Tap) [32]))) λ(t0:Tap) =>
(.join 1 (NX) (λ(t1:Scn)=>t1=(((vw t0.L t0.p 5).1):Scn)) (λb1=>(.req 17 (1≤5∧5≤8) λh1 =>
(.callH [0] (RT t0.L t0.p 5 h1) 17
(.bk 1 b1 (((vw t0.L t0.p 5).1):Scn) [33])))) λ(t1:Scn) =>
(.loop 2 (NW t1) (I2 t0 t1) (m2 t0 t1) (((t1.sites.map Sit.v).length:Int),0,(⟨t1.sp,t1.lsn,t1.fl⟩:Ovl)) [0,33] λ(t2:Int×Int×Ovl) b2 =>
(.br 18 (decide (t2.2.1<t2.1)) (.elI 18 Sit.v t1.sites t2.2.1 λx2 =>
(.join 3 (NV t1 t2 x2) (λ(t3:Int×Ovl)=>t3=(((iC t2.2.2 x2).2,(iC t2.2.2 x2).1):Int×Ovl)) (λb3=>(.req 114 (t2.2.2.fl.length≤1000000) λh3 =>
(.callP (Bg t2.2.2 x2 h3)
(.bk 3 b3 ((iC t2.2.2 x2).2,(iC t2.2.2 x2).1) [0,1,50,178])))) λ(t3:Int×Ovl) =>
(.join 4 (NU t1 t2 x2 t3) (λ(t4:Int×Ovl)=>t4=(((iC t3.2 x2).2,(iC t3.2 x2).1):Int×Ovl)) (λb4=>(.req 36 (t3.2.fl.length≤1000000) λh4 =>
(.callP (Bg t3.2 x2 h4)
(.bk 4 b4 ((iC t3.2 x2).2,(iC t3.2 x2).1) [0,1,2,3,100])))) λ(t4:Int×Ovl) =>
(.pass (.join 5 (NT t1 t2 t3) (λ(t5:Bool)=>I5 t0 t1 t2 x2 t3 t4 t5) (λb5=>(.br 53 (t3.1 != 0) (.bk 5 b5 ((true):Bool) [0,1,3])
(.br 117 (t4.1 != 0) (.bk 5 b5 ((true):Bool) [0,1,3])
(.callP (tf t3.2 x2)
(.br 213 (!(ot t3.2 x2)) (.bk 5 b5 ((true):Bool) [0,1,3])
(.callP (NE t3.2 t4.2)
(.bk 5 b5 ((!(decide (t3.2=t4.2))):Bool) [0,1,3]))))))) λ(t5:Bool) =>
(.br 3 t5 (.ret (false))
(.bk 2 b2 (t2.1,W (t2.2.1+1),t3.2) [0,1])))))))
(.loop 6 (NS t1) (I6 t0 t1 t2) (m6 t0 t1 t2) (0,t2.2.2) [0,1] λ(t6:Int×Ovl) b6 =>
(.br 34 (decide (t6.1<5)) (.req 50 (rO t6.2 []) λh5 =>
(.callP (oA t6.2 [] h5)
(.bk 6 b6 (W (t6.1+1),(roundO t6.2 []).1) [0,1])))
(.loop 7 (NR t1 t6) (I7 t0 t1 t2 t6) (m7 t0 t1 t2 t6) (((t1.sites.map Sit.v).length:Int),0) [0,1] λ(t7:Int×Int) b7 =>
(.br 18 (decide (t7.2<t7.1)) (.elI 18 Sit.v t1.sites t7.2 λx6 =>
(.join 8 (NQ t1 t6 t7 x6) (λ(t8:List Wnt×Int)=>t8=(((ofW (⟨x6.now,x6.list⟩:aK)).1,(ofW (⟨x6.now,x6.list⟩:aK)).2):List Wnt×Int)) (λb8=>(.callP (QR (⟨x6.now,x6.list⟩:aK))
(.bk 8 b8 ((ofW (⟨x6.now,x6.list⟩:aK)).1,(ofW (⟨x6.now,x6.list⟩:aK)).2) [0,1,50]))) λ(t8:List Wnt×Int) =>
(.loop 9 (NP t1 t6 t7 x6 t8) (I9 t0 t1 t2 t6 t7 x6 t8) (m9 t0 t1 t2 t6 t7 x6 t8) (((t1.sites.map Sit.v).length:Int),0) [0,1,2] λ(t9:Int×Int) b9 =>
(.br 19 (decide (t9.2<t9.1)) (.elI 19 Sit.v t1.sites t9.2 λx7 =>
(.join 10 (HT t1 t6 t7 x6 t8 t9) (λ(t10:List Wnt×Int)=>t10=(((cF t6.2 x7.router x6.router).1,(cF t6.2 x7.router x6.router).2):List Wnt×Int)) (λb10=>(.callP (OZ t6.2 x7.router x6.router)
(.bk 10 b10 ((cF t6.2 x7.router x6.router).1,(cF t6.2 x7.router x6.router).2) [0,1,2]))) λ(t10:List Wnt×Int) =>
(.join 11 (HQ t1 t6 t7 x6 t8 t9) (λ(t11:Bool)=>I11 t0 t1 t2 t6 t7 x6 t8 t9 x7 t10 t11) (λb11=>(.br 51 (t8.2 != 0) (.bk 11 b11 ((true):Bool) [0,1,2])
(.br 115 (t10.2 != 0) (.bk 11 b11 ((true):Bool) [0,1,2])
(.callP (NA t8.1 t10.1)
(.bk 11 b11 ((!(decide (t8.1=t10.1))):Bool) [0,1,2]))))) λ(t11:Bool) =>
(.br 3 t11 (.ret (false))
(.bk 9 b9 (t9.1,W (t9.2+1)) [0,1,2])))))
(.bk 7 b7 (t7.1,W (t7.2+1)) [0,1])))))
(.callP (PX )
(.ret (true))))))))))))
theorem RU(t:List Int):∃I2 m2 I5 I6 m6 I7 m7 I9 m9 I11,(HO t I2 m2 I5 I6 m6 I7 m7 I9 m9 I11).vp HU true:=by
 refine⟨λ_ s t=>∃k:Nat,t.1=s.sites.length∧t.2.1=k∧k≤s.sites.length∧t.2.2=(s.sites.take k).foldl chgS (ko s)∧LWB (s.sites.map Sit.router) ((s.sites.take k).foldl chgS (ko s)) (11+k) 86529,λ_ s t=>s.sites.length-t.2.1.toNat,
  λ_ _ _ _ _ _ b=>b=false,λ_ s _ t=>∃j:Nat,t.1=j∧j≤5∧t.2=rds (s.sites.foldl chgS (ko s)) j,λ_ _ _ t=>5-t.1.toNat,
  λ_ s _ _ t=>∃k:Nat,t.1=s.sites.length∧t.2=k∧k≤s.sites.length,λ_ s _ _ t=>s.sites.length-t.2.toNat,
  λ_ s _ _ _ _ _ t=>∃k:Nat,t.1=s.sites.length∧t.2=k∧k≤s.sites.length,λ_ s _ _ _ _ _ t=>s.sites.length-t.2.toNat,λ_ _ _ _ _ _ _ _ _ _ b=>b=false,?_⟩
 dsimp only[HO,HP,Ax.vp,Ax.vc];simp only[vcU,rfU,f'];refine⟨trivial,?_⟩;rintro _ rfl;refine⟨⟨by omega,trivial⟩,?_⟩;intro (s:Scn) hs;have hS:Ec s:=by rw[hs];exact zb (by omega)
 clear hs;obtain⟨n,hn⟩:=hS.now;have hlen:=hS.len;refine⟨⟨0,by trivial,by trivial,aP' _,by trivial,hS.lwb.more (by omega) (by omega)⟩,?_⟩;rintro⟨_,_,o⟩ ⟨k,rfl,rfl,hk,ho,hw⟩;simp only at ho ⊢;have hfl:=hw.2;rw[←ho]at hw hfl;simp only[Int.toNat_natCast]
 refine⟨λc=>⟨by omega,c,λx hx=>⟨⟨by omega,trivial⟩,?_⟩⟩,λc=>?_⟩
 ·have hk':=av hx;have hxm:=ax hx;have hr:x.router∈s.sites.map Sit.router:=bD' hxm;obtain⟨⟨lw,hl⟩,_⟩:=hw;obtain⟨a1,a2,a3,a4⟩:=TT hl (hn x hxm) hr (by omega);rintro _ rfl;simp only[a1];have hfl2:(chgS o x).fl.length≤1000000:=by
   have:=(LWB.chgS ⟨⟨lw,hl⟩,hfl⟩ (hn x hxm) hr (by omega)).2;omega
  refine⟨⟨hfl2,trivial⟩,?_⟩;rintro _ rfl;simp only[a2,a3];refine⟨by simp,?_⟩;rintro _ rfl
  refine⟨λq=>(by cases q),λ_=>⟨⟨k+1,by trivial,am (n:=s.sites.length) hk' (by omega),hk',?_,?_⟩,?_⟩⟩
  ·rw[al hx,aO',←ho];rfl
  ·rw[al hx,aO',←ho];exact(LWB.chgS ⟨⟨lw,hl⟩,hfl⟩ (hn x hxm) hr (by omega)).more (by omega) (by omega)
  ·rw[am (n:=s.sites.length) hk' (by omega)];omega
 have e:k=s.sites.length:=by omega
 subst e;rw[G' (V' _)]at ho;subst ho;refine⟨⟨0,by trivial,by omega,by trivial⟩,?_⟩;rintro⟨_,z⟩ ⟨j,rfl,hj,hz⟩;simp only at hz ⊢;subst hz;simp only[Int.toNat_natCast];obtain⟨o1,o2⟩:=zl hw.oi j
 refine⟨λc=>⟨⟨?_,by simp⟩,?_⟩,λc=>?_⟩
 ·show(rds (s.sites.foldl chgS (ko s)) j).fl.length≤400000;have:j * 14400≤5 * 14400:=al' _ hj;omega
 ·rw[am (n:=5) (by omega) (by omega)];refine⟨⟨j+1,by trivial,by omega,?_⟩,by omega⟩;have e:roundO (rds (s.sites.foldl chgS (ko s)) j) []=(rds (s.sites.foldl chgS (ko s)) (j+1),0):=o1.roundO_nil;rw[e]
 have e:j=5:=by omega
 subst e;have hset:=(Nq hS).2.2;have hse:ko (vt s)=rds (s.sites.foldl chgS (ko s)) 5:=rfl;rw[hse]at hset;refine⟨⟨0,by trivial,by trivial,aP' _⟩,?_⟩;rintro⟨_,_⟩ ⟨a,rfl,rfl,ha⟩;simp only[Int.toNat_natCast];refine⟨λc=>⟨by omega,c,λx hx=>⟨trivial,?_⟩⟩,λ_=>trivial⟩;have hxm:=ax hx;have hof:=(fU (hn x hxm).err (hn x hxm).grp).1;have hof2:(ofW ⟨x.now,x.list⟩).2=0:=by rw[hof]
 rintro _ rfl;simp only[hof2];refine⟨⟨0,by trivial,by trivial,aP' _⟩,?_⟩;rintro⟨_,_⟩ ⟨b,rfl,rfl,hb⟩;simp only[Int.toNat_natCast];refine⟨λc2=>⟨by omega,c2,λy hy=>⟨trivial,?_⟩⟩,λc2=>⟨⟨a+1,by trivial,am (n:=s.sites.length) (by omega) (by omega),by omega⟩,by rw[am (n:=s.sites.length) (by omega) (by omega)];omega⟩⟩;have hkn:=hset y (ax hy) x hxm;rintro _ rfl;simp only[hkn];refine⟨by simp[jc],?_⟩;rintro _ rfl;exact⟨λq=>(by cases q),λ_=>⟨⟨b+1,by trivial,am (n:=s.sites.length) (by omega) (by omega),by omega⟩,by rw[am (n:=s.sites.length) (by omega) (by omega)];omega⟩⟩
def RW(t:List Int):PC Tryz.prog:=pcO 3 [(.s 1)] [.sl 1 (t.map AV.int) false] .k HU true (λ_=>let ⟨I2,m2,I5,I6,m6,I7,m7,I9,m9,I11,h⟩:=RU t;⟨_,h,by kernel_rfl⟩) rfl (by kernel_rfl)
end Go.Proofs.YtiobpjoadkfhdaaGreatDoor
