/- Texts joined: KM3 KM4 AL1 AL2 W1 TA0 TA1 TA2 TA3 TE FA TU CK1. -/
import Derived.Test.YtiobpjoadkfhdaaGreatMM6
set_option linter.unusedVariables false
set_option linter.unusedSimpArgs false
set_option linter.unusedSectionVars false
namespace Go.Proofs.YtiobpjoadkfhdaaGreat
open Go Go.Am
def mP(k:Nat):List Rtr:=(List.range k).map λi=>⟨((i+1:Nat):Int),true⟩
def cnM(L:List Int)(a tree:Int)(skip:Bool)(p:Nat):Bool×Nat:=if(a==tree)=true∧skip=false then(true,p)else(dl L p 3,ab L p)
def lkM1(L:List Int)(cost a b:Int)(p:Nat):Lnk:=⟨a,b,rng L p 1 cost,rng L (ab L p) 1 cost,Mod (al L (ab L (ab L p))) 4⟩
def inM(L:List Int)(cost b tree:Int)(skip:Bool):Nat→Int→List Lnk→Nat→List Lnk×Nat
 | 0,_,ls,p=>(ls,p)
 | f+1,a,ls,p=>if(cnM L a tree skip p).1=true then inM L cost b tree skip f (a+1) (ls++[lkM1 L cost a b (cnM L a tree skip p).2]) (ab L (ab L (ab L (cnM L a tree skip p).2)))
  else inM L cost b tree skip f (a+1) ls (cnM L a tree skip p).2
def inR(L:List Int)(cost b:Int)(ls:List Lnk)(p:Nat):List Lnk×Nat:=inM L cost b (rng L p 1 (W (b-1))) (dl L (ab L p) 9) (b-1).toNat 1 ls (ab L (ab L p))
def ouM(L:List Int)(cost:Int):Nat→Int→List Lnk→Nat→List Lnk×Nat
 | 0,_,ls,p=>(ls,p)
 | f+1,b,ls,p=>ouM L cost f (b+1) (inR L cost b ls p).1 (inR L cost b ls p).2
def qe(j:Nat):List Rtr:=(List.range j).map λi=>⟨((50+i:Nat):Int),false⟩
def ixM(L:List Int)(p:Nat)(g:Tpl):Nat:=(Mod (al L p) g.ls.length).toNat
def IR(L:List Int)(p:Nat)(g:Tpl):Tpl×Nat:=
 if Mod (al L p) 7=0 then(⟨g.rs++[⟨aR [0,1,99,100,-1] (al L (ab L p)),false⟩],g.ls⟩,ab L (ab L p))
 else if Mod (al L p) 7=1 then(⟨g.rs,g.ls++[⟨Mod (al L (ab L p)) 4,Mod (al L (ab L (ab L p))) 4,1,1,0⟩]⟩,ab L (ab L (ab L p)))
 else if Mod (al L p) 7=2 then(match g.ls[ixM L (ab L p) g]? with
  | some y=>(⟨g.rs,g.ls.set (ixM L (ab L p) g) ⟨y.a,y.b,eJ L (ab L (ab L p)),y.cb,y.w⟩⟩,ab L (ab L (ab L p)))
  | none=>(g,ab L p))
 else if Mod (al L p) 7=3 then(match g.ls[ixM L (ab L p) g]? with
  | some y=>(⟨g.rs,g.ls.set (ixM L (ab L p) g) ⟨y.a,y.b,y.ca,eJ L (ab L (ab L p)),y.w⟩⟩,ab L (ab L (ab L p)))
  | none=>(g,ab L p))
 else if Mod (al L p) 7=4 then(match g.ls[ixM L (ab L p) g]? with
  | some y=>(⟨g.rs,g.ls.set (ixM L (ab L p) g) ⟨y.a,y.b,y.ca,y.cb,eJ L (ab L (ab L p))⟩⟩,ab L (ab L (ab L p)))
  | none=>(g,ab L p))
 else if Mod (al L p) 7=5 then(match g.ls[ixM L (ab L p) g]? with
  | some y=>(⟨g.rs,g.ls++[y]⟩,ab L (ab L p))
  | none=>(g,ab L p))
 else(⟨g.rs++qe 25,g.ls⟩,ab L p)
def Lm(L:List Int)(p:Nat):Int:=aR [1,2,2,5] (al L (ab L p))
def rh(L:List Int)(p:Nat)(most:Int):List Lnk×Nat:=ouM L (Lm L p) ((rng L p 1 most)-1).toNat 2 [] (ab L (ab L p))
def po(L:List Int)(p:Nat)(most:Int):Tpl:=⟨mP (rng L p 1 most).toNat,bg (rh L p most).1 []⟩
def aW(L:List Int)(p:Nat)(most n:Int):Tpl×Nat:=
 if 0<n∧dl L (rh L p most).2 n=true then IR L (ab L (rh L p most).2) (po L p most)else(po L p most,if 0<n then ab L (rh L p most).2 else(rh L p most).2)
theorem J4(out:List Lnk)(x:Lnk):CZ out x≤out.length:=List.findIdx_le_length
theorem rT:∀(l out:List Lnk),(bg l out).length=l.length+out.length
 | [],out=>by simp[bg]
 | x::l,out=>by rw[bg,rT l,gJ _ _ _ (J4 _ _),Y'];omega
theorem iP(k:Nat):(mP k).length=k:=by simp[mP]
theorem Ar(k:Nat):mP (k+1)=mP k++[⟨((k+1:Nat):Int),true⟩]:=by simp[mP,bT']
theorem AP(k:Nat):qe (k+1)=qe k++[⟨((50+k:Nat):Int),false⟩]:=by simp[qe,bT']
theorem Fw(k:Nat):(qe k).length=k:=by simp[qe]
theorem xP{L:List Int}{p:Nat}{m:Int}(h:1≤m∧m≤1000):1≤rng L p 1 m∧rng L p 1 m≤m:=by
 have hm:=dF (x:=al L p) h.1;unfold rng;rw[eF (n:=m-1) (by omega),eF (n:=m-1+1) (by omega),show m-1+1=m by omega,eF (by omega)];omega
def Iy(L:List Int)(p:Nat)(most:Int)(n:Int)(t0:Int×List Rtr):NF:=⟨[rR 0 0,rI 2 n,rR 6 1,rR 7 2,rI 8 (rng L p 1 most),rI 9 t0.1],[.box (.agg [.sl 1 (L.map AV.int) false,.int (ab L p)]),.box (.agg [.sl 0 [] true,.sl 0 [] true]),.box (.agg [.vec 3,.sl 0 [] true]),vB 2 Rtr.v t0.2 (λ_=>rfl)]⟩
def Ix(L:List Int)(p:Nat)(most:Int)(n:Int)(t0:Int×List Rtr)(t1:Int×Nat×List Lnk):NF:=⟨[rR 0 0,rI 2 n,rR 6 1,rR 7 2,rI 8 (rng L p 1 most),rI 10 (aR [1,2,2,5] (al L (ab L p))),rI 11 t1.1],[.box (.agg [.sl 1 (L.map AV.int) false,.int t1.2.1]),.box (.agg [.sl 0 [] true,.sl 0 [] true]),.box (.agg [.vec 3,.vec 4]),vB 2 Rtr.v t0.2 (λ_=>rfl),vB 5 Lnk.v t1.2.2 (λ_=>rfl)]⟩
def Iw(L:List Int)(p:Nat)(most:Int)(n:Int)(t0:Int×List Rtr)(t1:Int×Nat×List Lnk)(t2:Int×List Lnk×Nat):NF:=⟨[rR 0 0,rI 2 n,rR 6 1,rR 7 2,rI 8 (rng L p 1 most),rI 10 (aR [1,2,2,5] (al L (ab L p))),rI 11 t1.1,rI 12 (rng L t1.2.1 1 (W (t1.1-1))),rB 13 (dl L (ab L t1.2.1) 9),rI 14 t2.1],[.box (.agg [.sl 1 (L.map AV.int) false,.int t2.2.2]),.box (.agg [.sl 0 [] true,.sl 0 [] true]),.box (.agg [.vec 3,.vec 4]),vB 2 Rtr.v t0.2 (λ_=>rfl),vB 5 Lnk.v t2.2.1 (λ_=>rfl)]⟩
def Iv(L:List Int)(p:Nat)(most:Int)(n:Int)(t0:Int×List Rtr)(t1:Int×Nat×List Lnk)(t2:Int×List Lnk×Nat)(t3:Bool×Nat):NF:=⟨[rR 0 0,rI 2 n,rR 6 1,rR 7 2,rI 8 (rng L p 1 most),rI 10 (aR [1,2,2,5] (al L (ab L p))),rI 11 t1.1,rI 12 (rng L t1.2.1 1 (W (t1.1-1))),rB 13 (dl L (ab L t1.2.1) 9),rI 14 t2.1,rB 60 t3.1],[.box (.agg [.sl 1 (L.map AV.int) false,.int t3.2]),.box (.agg [.sl 0 [] true,.sl 0 [] true]),.box (.agg [.vec 3,.vec 4]),vB 2 Rtr.v t0.2 (λ_=>rfl),vB 5 Lnk.v t2.2.1 (λ_=>rfl)]⟩
def Iu(L:List Int)(t0:Int×List Rtr)(t1:Int×Nat×List Lnk)(t4:Bool×Nat):NF:=⟨[rR 0 0,rR 6 1,rR 7 2,rB 87 t4.1],[.box (.agg [.sl 1 (L.map AV.int) false,.int t4.2]),.box (.agg [.sl 0 [] true,.sl 0 [] true]),.box (.agg [.vec 3,.vec 4]),vB 2 Rtr.v t0.2 (λ_=>rfl),vB 5 Lnk.v (bg t1.2.2 []) (λ_=>rfl)]⟩
def It(L:List Int)(t1:Int×Nat×List Lnk)(t4:Bool×Nat)(t5:Int×List Rtr):NF:=⟨[rR 6 1,rR 7 2,rI 15 t5.1],[.box (.agg [.sl 1 (L.map AV.int) false,.int (ab L t4.2)]),.box (.agg [.sl 0 [] true,.sl 0 [] true]),.box (.agg [.vec 3,.vec 4]),vB 2 Rtr.v t5.2 (λ_=>rfl),vB 5 Lnk.v (bg t1.2.2 []) (λ_=>rfl)]⟩
@[reducible] def BJ:Nat→Type
 | 0=>Int×List Rtr
 | 1=>Int×Nat×List Lnk
 | 2=>Int×List Lnk×Nat
 | 3=>Bool×Nat
 | 4=>Bool×Nat
 | 5=>Int×List Rtr
 | _=>Unit
def ug(r:Tap×Tpl):AV:=.agg [.vec 1,.vec 2]
def uh(r:Tap×Tpl):List (Option Blk):=[some (.box (Tap.v r.1)),some (.vec 2 (r.2.rs.map Rtr.v)),some (.vec 5 (r.2.ls.map Lnk.v))]
def BI(L:List Int)(p:Nat)(most:Int)(n:Int)(I0:(Int×List Rtr)→Prop)(m0:(Int×List Rtr)→Nat)(I1:Int×List Rtr→(Int×Nat×List Lnk)→Prop)(m1:Int×List Rtr→(Int×Nat×List Lnk)→Nat)(I2:Int×List Rtr→Int×Nat×List Lnk→(Int×List Lnk×Nat)→Prop)(m2:Int×List Rtr→Int×Nat×List Lnk→(Int×List Lnk×Nat)→Nat)(I3:Int×List Rtr→Int×Nat×List Lnk→Int×List Lnk×Nat→(Bool×Nat)→Prop)(I4:Int×List Rtr→Int×Nat×List Lnk→(Bool×Nat)→Prop)(I5:Int×List Rtr→Int×Nat×List Lnk→Bool×Nat→(Int×List Rtr)→Prop)(m5:Int×List Rtr→Int×Nat×List Lnk→Bool×Nat→(Int×List Rtr)→Nat):Ax Tryz.prog BJ (Tap×Tpl):=
 (.callH [0] (dX L p 1 most) 65
(.cmdL (.nilB 17 0 2) (.loop 0 (Iy L p most n) I0 m0 (1,[]) [0,1,17,113] λ(t0:Int×List Rtr) b0 =>
(.br 52 (decide (t0.1≤(rng L p 1 most))) (.apX 132 Rtr.v t0.2 [(⟨t0.1,true⟩:Rtr)] (t0.2.length+1)
(.bk 0 b0 (W (t0.1+1),t0.2++[(⟨t0.1,true⟩:Rtr)]) [0,1,2,132]))
(.req 84 ([1,2,2,5]≠[]) λh1 =>
(.callH [0] (ib L (ab L p) [1,2,2,5] h1) 84
(.cmdL (.nilB 2 1 5) (.loop 1 (Ix L p most n t0) (I1 t0) (m1 t0) (2,ab L (ab L p),[]) [0,1,2,3,132] λ(t1:Int×Nat×List Lnk) b1 =>
(.br 53 (decide (t1.1≤(rng L p 1 most))) (.callH [0] (dX L t1.2.1 1 (W (t1.1-1))) 101
(.callH [0] (fp L (ab L t1.2.1) 9) 149
(.loop 2 (Iw L p most n t0 t1) (I2 t0 t1) (m2 t0 t1) (1,t1.2.2,ab L (ab L t1.2.1)) [0,1,2,3,4] λ(t2:Int×List Lnk×Nat) b2 =>
(.br 53 (decide (t2.1<t1.1)) (.pass (.join 3 (Iv L p most n t0 t1 t2) (λ(t3:Bool×Nat)=>I3 t0 t1 t2 t3) (λb3=>(.br 117 (t2.1==(rng L t1.2.1 1 (W (t1.1-1)))) (.br 181 (!(dl L (ab L t1.2.1) 9)) (.bk 3 b3 (true,t2.2.2) [0,1,2,3,4])
(.callH [0] (fp L t2.2.2 3) 197
(.bk 3 b3 (dl L t2.2.2 3,ab L t2.2.2) [0,1,2,3,4])))
(.callH [0] (fp L t2.2.2 3) 197
(.bk 3 b3 (dl L t2.2.2 3,ab L t2.2.2) [0,1,2,3,4])))) λ(t3:Bool×Nat) =>
(.br 5 t3.1 (.callH [0] (dX L t3.2 1 (aR [1,2,2,5] (al L (ab L p)))) 101
(.callH [0] (dX L (ab L t3.2) 1 (aR [1,2,2,5] (al L (ab L p)))) 149
(.callH [0] (bB L (ab L (ab L t3.2)) 4) 181
(.apX 229 Lnk.v t2.2.1 [(⟨t2.1,t1.1,rng L t3.2 1 (aR [1,2,2,5] (al L (ab L p))),rng L (ab L t3.2) 1 (aR [1,2,2,5] (al L (ab L p))),Mod (al L (ab L (ab L t3.2))) 4⟩:Lnk)] (t2.2.1.length+1)
(.bk 2 b2 (W (t2.1+1),t2.2.1++[(⟨t2.1,t1.1,rng L t3.2 1 (aR [1,2,2,5] (al L (ab L p))),rng L (ab L t3.2) 1 (aR [1,2,2,5] (al L (ab L p))),Mod (al L (ab L (ab L t3.2))) 4⟩:Lnk)],ab L (ab L (ab L t3.2))) [0,1,2,3,229])))))
(.bk 2 b2 (W (t2.1+1),t2.2.1,t3.2) [0,1,2,3,4]))))
(.bk 1 b1 (W (t1.1+1),t2.2.2,t2.2.1) [0,1,2,3,4])))))
(.say (Rf (t1.2.2.map Lnk.v)) (.cmd (.frzE 4 (t1.2.2.map Lnk.v) (ae (λ_=>rfl) t1.2.2)) (.req 85 (t1.2.2.length≤1000) λh2 =>
(.callH [] (OB t1.2.2 h2) 85
(.pass (.join 4 (Iu L t0 t1) (λ(t4:Bool×Nat)=>I4 t0 t1 t4) (λb4=>(.br 181 (decide (0<n)) (.callH [0] (fp L t1.2.1 n) 213
(.bk 4 b4 (dl L t1.2.1 n,ab L t1.2.1) [0,1,2,3,85]))
(.bk 4 b4 (false,t1.2.1) [0,1,2,3,85]))) λ(t4:Bool×Nat) =>
(.br 5 t4.1 (.callH [0] (bB L t4.2 7) 21
(.br 69 ((Mod (al L t4.2) 7)==0) (.req 133 ([0,1,99,100,-1]≠[]) λh3 =>
(.callH [0] (ib L (ab L t4.2) [0,1,99,100,-1] h3) 133
(.apX 181 Rtr.v t0.2 [(⟨aR [0,1,99,100,-1] (al L (ab L t4.2)),false⟩:Rtr)] (t0.2.length+1)
(.retH ((⟨L,ab L (ab L t4.2)⟩:Tap),(⟨t0.2++[(⟨aR [0,1,99,100,-1] (al L (ab L t4.2)),false⟩:Rtr)],bg t1.2.2 []⟩:Tpl)) ⟨[rR 6 3],[.box (.agg [.sl 1 (L.map AV.int) false,.int (((ab L (ab L t4.2)):Nat):Int)]),vB 2 Rtr.v (t0.2++[(⟨aR [0,1,99,100,-1] (al L (ab L t4.2)),false⟩:Rtr)]) (λ_=>rfl),vB 5 Lnk.v (bg t1.2.2 []) (λ_=>rfl),.box (.agg [.vec 1,.vec 2])]⟩ [0,181,4,1]))))
(.br 101 ((Mod (al L t4.2) 7)==1) (.callH [0] (bB L (ab L t4.2) 4) 149
(.callH [0] (bB L (ab L (ab L t4.2)) 4) 181
(.apX 229 Lnk.v (bg t1.2.2 []) [(⟨Mod (al L (ab L t4.2)) 4,Mod (al L (ab L (ab L t4.2))) 4,1,1,0⟩:Lnk)] ((bg t1.2.2 []).length+1)
(.retH ((⟨L,ab L (ab L (ab L t4.2))⟩:Tap),(⟨t0.2,(bg t1.2.2 [])++[(⟨Mod (al L (ab L t4.2)) 4,Mod (al L (ab L (ab L t4.2))) 4,1,1,0⟩:Lnk)]⟩:Tpl)) ⟨[rR 6 3],[.box (.agg [.sl 1 (L.map AV.int) false,.int (((ab L (ab L (ab L t4.2))):Nat):Int)]),vB 2 Rtr.v t0.2 (λ_=>rfl),vB 5 Lnk.v ((bg t1.2.2 [])++[(⟨Mod (al L (ab L t4.2)) 4,Mod (al L (ab L (ab L t4.2))) 4,1,1,0⟩:Lnk)]) (λ_=>rfl),.box (.agg [.vec 1,.vec 2])]⟩ [0,3,229,1]))))
(.br 133 ((Mod (al L t4.2) 7)==2) (.br 197 (decide (0<(((bg t1.2.2 []).map Lnk.v).length:Int))) (.callH [0] (bB L (ab L t4.2) (((bg t1.2.2 []).map Lnk.v).length:Int)) 293
(.callH [0] (jL L (ab L (ab L t4.2))) 325
(.stJ 373 Lnk.v (bg t1.2.2 []) (Mod (al L (ab L t4.2)) (((bg t1.2.2 []).map Lnk.v).length:Int)) (λy4=>(⟨y4.a,y4.b,eJ L (ab L (ab L t4.2)),y4.cb,y4.w⟩:Lnk)) λy4 =>
(.retH ((⟨L,ab L (ab L (ab L t4.2))⟩:Tap),(⟨t0.2,(bg t1.2.2 []).set ((Mod (al L (ab L t4.2)) (((bg t1.2.2 []).map Lnk.v).length:Int)).toNat) (⟨y4.a,y4.b,eJ L (ab L (ab L t4.2)),y4.cb,y4.w⟩:Lnk)⟩:Tpl)) ⟨[rR 6 3],[.box (.agg [.sl 1 (L.map AV.int) false,.int (((ab L (ab L (ab L t4.2))):Nat):Int)]),vB 2 Rtr.v t0.2 (λ_=>rfl),vB 5 Lnk.v ((bg t1.2.2 []).set ((Mod (al L (ab L t4.2)) (((bg t1.2.2 []).map Lnk.v).length:Int)).toNat) (⟨y4.a,y4.b,eJ L (ab L (ab L t4.2)),y4.cb,y4.w⟩:Lnk)) (λ_=>rfl),.box (.agg [.vec 1,.vec 2])]⟩ [0,3,4,1]))))
(.retH ((⟨L,ab L t4.2⟩:Tap),(⟨t0.2,bg t1.2.2 []⟩:Tpl)) ⟨[rR 6 3],[.box (.agg [.sl 1 (L.map AV.int) false,.int (ab L t4.2)]),vB 2 Rtr.v t0.2 (λ_=>rfl),vB 5 Lnk.v (bg t1.2.2 []) (λ_=>rfl),.box (.agg [.vec 1,.vec 2])]⟩ [0,3,4,1]))
(.br 165 ((Mod (al L t4.2) 7)==3) (.br 229 (decide (0<(((bg t1.2.2 []).map Lnk.v).length:Int))) (.callH [0] (bB L (ab L t4.2) (((bg t1.2.2 []).map Lnk.v).length:Int)) 325
(.callH [0] (jL L (ab L (ab L t4.2))) 357
(.stJ 405 Lnk.v (bg t1.2.2 []) (Mod (al L (ab L t4.2)) (((bg t1.2.2 []).map Lnk.v).length:Int)) (λy5=>(⟨y5.a,y5.b,y5.ca,eJ L (ab L (ab L t4.2)),y5.w⟩:Lnk)) λy5 =>
(.retH ((⟨L,ab L (ab L (ab L t4.2))⟩:Tap),(⟨t0.2,(bg t1.2.2 []).set ((Mod (al L (ab L t4.2)) (((bg t1.2.2 []).map Lnk.v).length:Int)).toNat) (⟨y5.a,y5.b,y5.ca,eJ L (ab L (ab L t4.2)),y5.w⟩:Lnk)⟩:Tpl)) ⟨[rR 6 3],[.box (.agg [.sl 1 (L.map AV.int) false,.int (((ab L (ab L (ab L t4.2))):Nat):Int)]),vB 2 Rtr.v t0.2 (λ_=>rfl),vB 5 Lnk.v ((bg t1.2.2 []).set ((Mod (al L (ab L t4.2)) (((bg t1.2.2 []).map Lnk.v).length:Int)).toNat) (⟨y5.a,y5.b,y5.ca,eJ L (ab L (ab L t4.2)),y5.w⟩:Lnk)) (λ_=>rfl),.box (.agg [.vec 1,.vec 2])]⟩ [0,3,4,1]))))
(.retH ((⟨L,ab L t4.2⟩:Tap),(⟨t0.2,bg t1.2.2 []⟩:Tpl)) ⟨[rR 6 3],[.box (.agg [.sl 1 (L.map AV.int) false,.int (ab L t4.2)]),vB 2 Rtr.v t0.2 (λ_=>rfl),vB 5 Lnk.v (bg t1.2.2 []) (λ_=>rfl),.box (.agg [.vec 1,.vec 2])]⟩ [0,3,4,1]))
(.br 197 ((Mod (al L t4.2) 7)==4) (.br 261 (decide (0<(((bg t1.2.2 []).map Lnk.v).length:Int))) (.callH [0] (bB L (ab L t4.2) (((bg t1.2.2 []).map Lnk.v).length:Int)) 357
(.callH [0] (jL L (ab L (ab L t4.2))) 389
(.stJ 437 Lnk.v (bg t1.2.2 []) (Mod (al L (ab L t4.2)) (((bg t1.2.2 []).map Lnk.v).length:Int)) (λy6=>(⟨y6.a,y6.b,y6.ca,y6.cb,eJ L (ab L (ab L t4.2))⟩:Lnk)) λy6 =>
(.retH ((⟨L,ab L (ab L (ab L t4.2))⟩:Tap),(⟨t0.2,(bg t1.2.2 []).set ((Mod (al L (ab L t4.2)) (((bg t1.2.2 []).map Lnk.v).length:Int)).toNat) (⟨y6.a,y6.b,y6.ca,y6.cb,eJ L (ab L (ab L t4.2))⟩:Lnk)⟩:Tpl)) ⟨[rR 6 3],[.box (.agg [.sl 1 (L.map AV.int) false,.int (((ab L (ab L (ab L t4.2))):Nat):Int)]),vB 2 Rtr.v t0.2 (λ_=>rfl),vB 5 Lnk.v ((bg t1.2.2 []).set ((Mod (al L (ab L t4.2)) (((bg t1.2.2 []).map Lnk.v).length:Int)).toNat) (⟨y6.a,y6.b,y6.ca,y6.cb,eJ L (ab L (ab L t4.2))⟩:Lnk)) (λ_=>rfl),.box (.agg [.vec 1,.vec 2])]⟩ [0,3,4,1]))))
(.retH ((⟨L,ab L t4.2⟩:Tap),(⟨t0.2,bg t1.2.2 []⟩:Tpl)) ⟨[rR 6 3],[.box (.agg [.sl 1 (L.map AV.int) false,.int (ab L t4.2)]),vB 2 Rtr.v t0.2 (λ_=>rfl),vB 5 Lnk.v (bg t1.2.2 []) (λ_=>rfl),.box (.agg [.vec 1,.vec 2])]⟩ [0,3,4,1]))
(.br 229 ((Mod (al L t4.2) 7)==5) (.br 293 (decide (0<(((bg t1.2.2 []).map Lnk.v).length:Int))) (.callH [0] (bB L (ab L t4.2) (((bg t1.2.2 []).map Lnk.v).length:Int)) 421
(.elJ 453 Lnk.v (bg t1.2.2 []) (Mod (al L (ab L t4.2)) (((bg t1.2.2 []).map Lnk.v).length:Int)) λx7 =>
(.apX 485 Lnk.v (bg t1.2.2 []) [x7] ((bg t1.2.2 []).length+1)
(.retH ((⟨L,ab L (ab L t4.2)⟩:Tap),(⟨t0.2,(bg t1.2.2 [])++[x7]⟩:Tpl)) ⟨[rR 6 3],[.box (.agg [.sl 1 (L.map AV.int) false,.int (((ab L (ab L t4.2)):Nat):Int)]),vB 2 Rtr.v t0.2 (λ_=>rfl),vB 5 Lnk.v ((bg t1.2.2 [])++[x7]) (λ_=>rfl),.box (.agg [.vec 1,.vec 2])]⟩ [0,3,485,1]))))
(.retH ((⟨L,ab L t4.2⟩:Tap),(⟨t0.2,bg t1.2.2 []⟩:Tpl)) ⟨[rR 6 3],[.box (.agg [.sl 1 (L.map AV.int) false,.int (ab L t4.2)]),vB 2 Rtr.v t0.2 (λ_=>rfl),vB 5 Lnk.v (bg t1.2.2 []) (λ_=>rfl),.box (.agg [.vec 1,.vec 2])]⟩ [0,3,4,1]))
(.loop 5 (It L t1 t4) (I5 t0 t1 t4) (m5 t0 t1 t4) (50,t0.2) [0,1,2,3,4] λ(t5:Int×List Rtr) b5 =>
(.br 37 (decide (t5.1<75)) (.apX 117 Rtr.v t5.2 [(⟨t5.1,false⟩:Rtr)] (t5.2.length+1)
(.bk 5 b5 (W (t5.1+1),t5.2++[(⟨t5.1,false⟩:Rtr)]) [0,1,2,117,4]))
(.retH ((⟨L,ab L t4.2⟩:Tap),(⟨t5.2,bg t1.2.2 []⟩:Tpl)) ⟨[rR 6 3],[.box (.agg [.sl 1 (L.map AV.int) false,.int (ab L t4.2)]),vB 2 Rtr.v t5.2 (λ_=>rfl),vB 5 Lnk.v (bg t1.2.2 []) (λ_=>rfl),.box (.agg [.vec 1,.vec 2])]⟩ [0,3,4,1]))))))))))
(.retH ((⟨L,t4.2⟩:Tap),(⟨t0.2,bg t1.2.2 []⟩:Tpl)) ⟨[rR 6 3],[.box (.agg [.sl 1 (L.map AV.int) false,.int t4.2]),vB 2 Rtr.v t0.2 (λ_=>rfl),vB 5 Lnk.v (bg t1.2.2 []) (λ_=>rfl),.box (.agg [.vec 1,.vec 2])]⟩ [0,3,4,1])))))))))))))))))
theorem NQ(L:List Int)(p:Nat)(most n:Int)(h:1≤most∧most≤20):∃I0 m0 I1 m1 I2 m2 I3 I4 I5 m5,(BI L p most n I0 m0 I1 m1 I2 m2 I3 I4 I5 m5).vc ug uh ((⟨L,(aW L p most n).2⟩:Tap),(aW L p most n).1):=by
 have hk:=xP (L:=L) (p:=p) (m:=most) (by omega)
 refine⟨λs=>∃j:Nat,s.1=((j+1:Nat):Int)∧j≤(rng L p 1 most).toNat∧s.2=mP j,λs=>(rng L p 1 most).toNat+1-s.1.toNat,
  λ_ s=>∃j:Nat,s.1=((j+2:Nat):Int)∧j≤(rng L p 1 most-1).toNat∧s.2.2.length≤20 * j∧ouM L (Lm L p) ((rng L p 1 most-1).toNat-j) s.1 s.2.2 s.2.1=rh L p most,λ_ s=>(rng L p 1 most).toNat+1-s.1.toNat,
  λ_ s1 s=>∃j:Nat,s.1=((j+1:Nat):Int)∧j≤(s1.1-1).toNat∧s.2.1.length≤s1.2.2.length+j∧inM L (Lm L p) s1.1 (rng L s1.2.1 1 (W (s1.1-1))) (dl L (ab L s1.2.1) 9) ((s1.1-1).toNat-j) s.1 s.2.1 s.2.2=inR L (Lm L p) s1.1 s1.2.2 s1.2.1,λ_ s1 s=>s1.1.toNat-s.1.toNat,
  λ_ s1 s2 s=>s=cnM L s2.1 (rng L s1.2.1 1 (W (s1.1-1))) (dl L (ab L s1.2.1) 9) s2.2.2,
  λ_ s1 s=>s=(decide (0<n∧dl L s1.2.1 n=true),if 0<n then ab L s1.2.1 else s1.2.1),
  λ_ _ _ s=>∃j:Nat,s.1=((50+j:Nat):Int)∧j≤25∧s.2=mP (rng L p 1 most).toNat++qe j,λ_ _ _ s=>75-s.1.toNat,?_⟩
 dsimp only[BI,BJ,Ax.vp,Ax.vc];simp only[vcU,rfU,u'];generalize hK:rng L p 1 most=K at hk ⊢;have hK0:po L p most=⟨mP K.toNat,bg (rh L p most).1 []⟩:=by unfold po;rw[hK]
 refine⟨⟨0,rfl,am' _,rfl⟩,?_⟩;rintro⟨i,rs⟩ ⟨j,hi,hj,hr⟩;simp only at hi hr ⊢;subst hi;subst hr;rw[iP];refine⟨λc=>⟨by omega,⟨j+1,by rw[eF (by omega)];omega,by omega,(Ar j).symm⟩,by rw[eF (by omega)];omega⟩,λc=>⟨by simp,?_⟩⟩;obtain rfl:j=K.toNat:=by omega
 refine⟨⟨0,rfl,am' _,by simp,by rw[rh,hK];rfl⟩,?_⟩;rintro⟨b,q,ls⟩ ⟨jb,hb,hjb,hlb,hob⟩;simp only at hb hlb hob ⊢
 refine⟨λc1=>?_,λc1=>?_⟩
 ·refine⟨⟨0,rfl,am' _,by simp,by rw[Nat.sub_zero];rfl⟩,?_⟩;rintro⟨a,l2,p2⟩ ⟨ja,ha,hja,hla,hoa⟩;simp only at ha hla hoa ⊢
  refine⟨λc2=>⟨⟨λe=>⟨λe2=>?_,λe2=>?_⟩,λe=>?_⟩,?_⟩,λc2=>?_⟩
  ·rw[cnM,F' ⟨e,by simpa using e2⟩]
  ·rw[cnM,E' (λq=>by rw[q.2]at e2;cases e2)]
  ·rw[cnM,E' (λq=>by rw[q.1]at e;cases e)]
  ·rintro _ rfl;have hst:(b-1).toNat-ja=((b-1).toNat-(ja+1))+1:=by omega
   rw[hst,inM]at hoa;have hw:W (a+1)=((ja+1+1:Nat):Int):=by rw[eF (by omega)];omega
   refine⟨λe=>?_,λe=>?_⟩
   ·rw[F' e]at hoa;refine⟨by omega,⟨ja+1,hw,by omega,by simp;omega,?_⟩,by rw[hw];omega⟩;rw[hw,show((ja+1+1:Nat):Int)=a+1 by omega];exact hoa
   ·rw[E' (by rw[e];simp)]at hoa;refine⟨⟨ja+1,hw,by omega,by omega,?_⟩,by rw[hw];omega⟩;rw[hw,show((ja+1+1:Nat):Int)=a+1 by omega];exact hoa
  ·have e1:(b-1).toNat-ja=0:=by omega
   rw[e1,inM]at hoa;have e2:(K-1).toNat-jb=((K-1).toNat-(jb+1))+1:=by omega
   rw[e2,ouM,←hoa]at hob;have hw:W (b+1)=((jb+1+2:Nat):Int):=by rw[eF (by omega)];omega
   refine⟨⟨jb+1,hw,by omega,by omega,?_⟩,by rw[hw];omega⟩;rw[hw,show((jb+1+2:Nat):Int)=b+1 by omega];exact hob
 ·have e1:(K-1).toNat-jb=0:=by omega
  rw[e1,ouM]at hob;have hT:aW L p most n=if 0<n∧dl L q n=true then IR L (ab L q) ⟨mP K.toNat,bg ls []⟩else(⟨mP K.toNat,bg ls []⟩,if 0<n then ab L q else q):=by
   unfold aW;rw[hK0,←hob]
  have hol:(bg ls []).length≤400:=by rw[rT];simp;omega
  generalize bg ls []=ol at hT hol ⊢
  refine⟨by omega,⟨λc2=>?_,λc2=>?_⟩,?_⟩
  ·rw[F' c2];refine Prod.ext ?_ rfl;rw[ag'];simp[c2]
  ·rw[E' c2];refine Prod.ext ?_ rfl;rw[ag'];simp[c2]
  rintro _ rfl;simp only;refine⟨λe=>?_,λe=>by rw[hT,E' (S' e)]⟩;have e:=G' e;rw[hT,F' e,F' e.1];generalize ab L q=q1;have hix:∀{m:Nat},0<(m:Int)→(bif decide (0≤Mod (al L (ab L q1)) m)then decide (Mod (al L (ab L q1)) m<m)else false)=true∧(Mod (al L (ab L q1)) m).toNat<m:=λ{m} hm=>by
   have:=dF (x:=al L (ab L q1)) (show 1≤(m:Int) by omega);exact⟨cY this.1 this.2,by omega⟩
  have hno:¬0<(ol.length:Int)→∀i:Nat,ol[i]?=none:=λh i=>af' (by omega);unfold IR ixM;simp only
  refine⟨λs0=>?_,λs0=>⟨λs1=>?_,λs1=>⟨λs2=>?_,λs2=>⟨λs3=>?_,λs3=>⟨λs4=>?_,λs4=>⟨λs5=>?_,λs5=>?_⟩⟩⟩⟩⟩⟩
  ·rw[F' (eq_of_beq s0)];exact⟨by simp,by omega,rfl⟩
  all_goals
   have s0:¬Mod (al L q1) 7=0:=by simpa using s0
   rw[E' s0]
  ·rw[F' (eq_of_beq s1)];exact⟨by omega,rfl⟩
  all_goals
   have s1:¬Mod (al L q1) 7=1:=by simpa using s1
   rw[E' s1]
  ·rw[F' (eq_of_beq s2)];exact⟨λh=>⟨(hix h).1,(hix h).2,λy hy=>by rw[hy]⟩,λh=>by rw[hno h]⟩
  all_goals
   have s2:¬Mod (al L q1) 7=2:=by simpa using s2
   rw[E' s2]
  ·rw[F' (eq_of_beq s3)];exact⟨λh=>⟨(hix h).1,(hix h).2,λy hy=>by rw[hy]⟩,λh=>by rw[hno h]⟩
  all_goals
   have s3:¬Mod (al L q1) 7=3:=by simpa using s3
   rw[E' s3]
  ·rw[F' (eq_of_beq s4)];exact⟨λh=>⟨(hix h).1,(hix h).2,λy hy=>by rw[hy]⟩,λh=>by rw[hno h]⟩
  all_goals
   have s4:¬Mod (al L q1) 7=4:=by simpa using s4
   rw[E' s4]
  ·rw[F' (eq_of_beq s5)];exact⟨λh=>⟨(hix h).1,(hix h).2,λy hy=>by rw[hy];exact⟨by omega,rfl⟩⟩,λh=>by rw[hno h]⟩
  have s5:¬Mod (al L q1) 7=5:=by simpa using s5
  rw[E' s5];refine⟨⟨0,rfl,by omega,by simp[qe]⟩,?_⟩;rintro⟨i,rs⟩ ⟨j,hi,hj,hr⟩;simp only at hi hr ⊢;subst hi;subst hr;refine⟨λf=>⟨by rw[List.length_append,iP,Fw];omega,⟨j+1,by rw[eF (by omega)];omega,by omega,by rw[AP,bl']⟩,by rw[eF (by omega)];omega⟩,λf=>?_⟩;obtain rfl:j=25:=by omega
  rfl
def BK(L:List Int)(p:Nat)(most:Int)(n:Int)(h:1≤most∧most≤20):HC Tryz.prog:=hcO 35 [.k,.k,.k] [.ref 0 0,.int most,.int n] [.box (.agg [.sl 1 (L.map AV.int) false,.int p])] .k ug uh ((⟨L,(aW L p most n).2⟩:Tap),(aW L p most n).1) (λ_ _=>let ⟨I0,m0,I1,m1,I2,m2,I3,I4,I5,m5,h⟩:=NQ L p most n h;⟨_,h,by kernel_rfl⟩) (by kernel_rfl) (by simp[hcB,cC,AV.belB,allB,ez,dv,ug,uh,Tap.v,ae (v:=AV.int) (λ_=>rfl),ae (v:=Lnk.v) (λ_=>rfl),ae (v:=Rtr.v) (λ_=>rfl)])
def vx(L:List Int):Nat→Nat→List Rtr→Nat→List Rtr×Nat
 | 0,_,rs,p=>(rs,p)
 | f+1,i,rs,p=>match rs[i]? with
  | some y=>vx L f (i+1) (rs.set i ⟨y.id,!dl L p 3⟩) (ab L p)
  | none=>(rs,p)
def JX(L:List Int)(g:Tpl×Nat):List Rtr×Nat:=vx L g.1.rs.length 0 g.1.rs g.2
def bG(L:List Int)(p:Nat)(most:Int):Tpl×Nat:=(⟨(JX L (aW L p most 0)).1,(aW L p most 0).1.ls⟩,(JX L (aW L p most 0)).2)
def Ka(L:List Int)(p:Nat)(most:Int)(t0:Int×List Rtr×Nat):NF:=⟨[rR 0 0,rR 4 1,rR 5 2,rI 6 t0.1],[.box (.agg [.sl 1 (L.map AV.int) false,.int t0.2.2]),.box (.agg [.sl 0 [] true,.sl 0 [] true]),.box (.agg [.vec 3,.vec 4]),vB 2 Rtr.v t0.2.1 (λ_=>rfl),vB 5 Lnk.v (((aW L p most 0).1).ls) (λ_=>rfl)]⟩
@[reducible] def DL:Nat→Type
 | 0=>Int×List Rtr×Nat
 | _=>Unit
def vu(r:Tap×Tpl):AV:=.agg [.vec 1,.vec 2]
def vw(r:Tap×Tpl):List (Option Blk):=[some (.box (Tap.v r.1)),some (.vec 2 (r.2.rs.map Rtr.v)),some (.vec 5 (r.2.ls.map Lnk.v))]
def DK(L:List Int)(p:Nat)(most:Int)(I0:(Int×List Rtr×Nat)→Prop)(m0:(Int×List Rtr×Nat)→Nat):Ax Tryz.prog DL (Tap×Tpl):=
 (.req 49 (1≤most∧most≤20) λh1 =>
(.callH [0] (BK L p most 0 h1) 49
(.loop 0 (Ka L p most) I0 m0 (0,((aW L p most 0).1).rs,(aW L p most 0).2) [0,1,65,49,50] λ(t0:Int×List Rtr×Nat) b0 =>
(.br 85 (decide (t0.1<((t0.2.1.map Rtr.v).length:Int))) (.callH [0] (fp L t0.2.2 3) 149
(.stJ 213 Rtr.v t0.2.1 t0.1 (λy2=>(⟨y2.id,!(dl L t0.2.2 3)⟩:Rtr)) λy2 =>
(.bk 0 b0 (W (t0.1+1),t0.2.1.set t0.1.toNat (⟨y2.id,!(dl L t0.2.2 3)⟩:Rtr),ab L t0.2.2) [0,1,2,3,4])))
(.retH ((⟨L,t0.2.2⟩:Tap),(⟨t0.2.1,((aW L p most 0).1).ls⟩:Tpl)) ⟨[rR 4 3],[.box (.agg [.sl 1 (L.map AV.int) false,.int t0.2.2]),vB 2 Rtr.v t0.2.1 (λ_=>rfl),vB 5 Lnk.v (((aW L p most 0).1).ls) (λ_=>rfl),.box (.agg [.vec 1,.vec 2])]⟩ [0,3,4,1])))))
theorem OZ(L:List Int)(p:Nat)(most:Int)(h:1≤most∧most≤20):∃I0 m0,(DK L p most I0 m0).vc vu vw ((⟨L,(bG L p most).2⟩:Tap),(bG L p most).1):=by
 refine⟨λs=>∃j:Nat,s.1=j∧j≤(aW L p most 0).1.rs.length∧s.2.1.length=(aW L p most 0).1.rs.length∧vx L ((aW L p most 0).1.rs.length-j) j s.2.1 s.2.2=JX L (aW L p most 0),λs=>(aW L p most 0).1.rs.length-s.1.toNat,?_⟩;dsimp only[DK,DL,Ax.vp,Ax.vc];simp only[vcU,rfU,u'];have hl:(aW L p most 0).1.rs.length≤20:=by
  have hk:=xP (L:=L) (p:=p) (m:=most) (by omega);unfold aW;rw[E' (λq=>by have:=q.1;omega)];unfold po;simp only[iP];omega
 unfold bG;generalize aW L p most 0=G at hl ⊢;refine⟨by omega,⟨0,rfl,am' _,trivial,rfl⟩,?_⟩;rintro⟨i,rs,q⟩ ⟨j,hi,hj,hr,hm⟩;simp only at hi hr hm ⊢;subst hi
 refine⟨λc=>⟨cY (by omega) c,by rw[Int.toNat_natCast];omega,λy hy=>?_⟩,λc=>?_⟩
 ·rw[Int.toNat_natCast]at hy ⊢;have e:G.1.rs.length-j=(G.1.rs.length-(j+1))+1:=by omega
  rw[e,vx,hy]at hm;rw[aQ (n:=rs.length) (by omega) (by omega)];exact⟨⟨j+1,rfl,by omega,by rw[aX'];exact hr,hm⟩,by omega⟩
 ·have e:G.1.rs.length-j=0:=by omega
  rw[e,vx]at hm;rw[←hm]
def Pa(L:List Int)(p:Nat)(most:Int)(h:1≤most∧most≤20):HC Tryz.prog:=hcO 46 [.k,.k] [.ref 0 0,.int most] [.box (.agg [.sl 1 (L.map AV.int) false,.int p])] .k vu vw ((⟨L,(bG L p most).2⟩:Tap),(bG L p most).1) (λ_ _=>let ⟨I0,m0,h⟩:=OZ L p most h;⟨_,h,by kernel_rfl⟩) (by kernel_rfl) (by simp[hcB,cC,AV.belB,allB,ez,dv,vu,vw,Tap.v,ae (v:=AV.int) (λ_=>rfl),ae (v:=Lnk.v) (λ_=>rfl),ae (v:=Rtr.v) (λ_=>rfl)])
theorem rS{L:List Int}:∀{n:Nat} {i:Int} {out:List Int} {p:Nat},(ow L n i out p).1.length=out.length+n
 | 0,i,out,p=>rfl
 | n+1,i,out,p=>by
  have hm:=dF (x:=al L p) (show 1≤(out.length:Int)+1 by omega);rw[ow,rS,gJ _ _ _ (by omega)];omega
def uL(L:List Int)(c:Int)(rs:List Rtr):List Int→Int→List Edg→Nat→(Int×List Edg)×Nat
 | [],id,es,p=>((id,es),p)
 | o::l,id,es,p =>
  if Mod (al L p) 4=0 then uL L c rs l id es (ab L p)
  else if W (id+aR [1,1,1,2,c] (al L (ab L p)))≤256 then(match rs[o.toNat]? with
   | some r=>uL L c rs l (W (id+aR [1,1,1,2,c] (al L (ab L p)))) (es++[⟨r.id,W (id+aR [1,1,1,2,c] (al L (ab L p)))⟩]) (ab L (ab L p))
   | none=>((id,es),p))
  else uL L c rs l (W (id+aR [1,1,1,2,c] (al L (ab L p)))) es (ab L (ab L p))
def rL(L:List Int)(p:Nat)(g:Tpl):(Int×List Edg)×Nat:=uL L (W (eL L (ab L p)-1)) g.rs (ic L g.rs.length (ab L (ab L p))).1 0 [] (ic L g.rs.length (ab L (ab L p))).2
def plaS(L:List Int)(p:Nat)(sub len:Int)(q:Int×List Edg):Pln×Nat:=
 if Mod (al L p) 5=0 then(⟨eJ L (ab L p),len,q.2⟩,ab L (ab L p))
 else if Mod (al L p) 5=1 then(⟨sub,aR [0,8,24,64,128] (al L (ab L p)),q.2⟩,ab L (ab L p))
 else if Mod (al L p) 5=2 then(⟨sub,len,q.2++[⟨aR [0,1,99,100] (al L (ab L p)),aR [0,1,256,257] (al L (ab L (ab L p)))⟩]⟩,ab L (ab L (ab L p)))
 else if Mod (al L p) 5=3 then(match q.2[0]? with
  | some y=>(⟨sub,len,q.2.set 0 ⟨y.router,eJ L (ab L p)⟩⟩,ab L (ab L p))
  | none=>(⟨sub,len,q.2⟩,ab L p))
 else(⟨sub,len,q.2++[⟨50,W (q.1+1)⟩]⟩,ab L p)
def dH(L:List Int)(p:Nat)(g:Tpl)(n:Int):Pln×Nat:=
 if 0<n∧dl L (rL L p g).2 n=true then plaS L (ab L (rL L p g).2) (Mod (al L p) 3) (eL L (ab L p)) (rL L p g).1
 else(⟨Mod (al L p) 3,eL L (ab L p),(rL L p g).1.2⟩,if 0<n then ab L (rL L p g).2 else(rL L p g).2)
def J8(L:List Int)(p:Nat)(g:Tpl)(n:Int)(t0:Int×Nat×Int×List Edg):NF:=⟨[rR 0 0,rI 2 n,rR 4 1,rR 6 2,rR 7 3,rI 8 t0.2.2.1,(9,.k,.sl 1 (((ic L ((g.rs.map Rtr.v).length:Int) (ab L (ab L p))).1).map AV.int) false),rI 10 t0.1],[.box (.agg [.sl 1 (L.map AV.int) false,.int t0.2.1]),.box (Tpl.v g),.box (.agg [.int 0,.int 0,.sl 0 [] true]),.box (.agg [.int (Mod (al L p) 3),.int (eL L (ab L p)),.vec 4]),vB 2 Edg.v t0.2.2.2 (λ_=>rfl)]⟩
def J7(L:List Int)(p:Nat)(t0:Int×Nat×Int×List Edg)(t1:Bool×Nat):NF:=⟨[rR 0 0,rR 6 1,rR 7 2,rI 8 t0.2.2.1,rB 62 t1.1],[.box (.agg [.sl 1 (L.map AV.int) false,.int t1.2]),.box (.agg [.int 0,.int 0,.sl 0 [] true]),.box (.agg [.int (Mod (al L p) 3),.int (eL L (ab L p)),.vec 3]),vB 2 Edg.v t0.2.2.2 (λ_=>rfl)]⟩
@[reducible] def Dh:Nat→Type
 | 0=>Int×Nat×Int×List Edg
 | 1=>Bool×Nat
 | _=>Unit
def uJ(r:Tap×Pln):AV:=Pln.v r.2
def uK(r:Tap×Pln):List (Option Blk):=[some (.box (Tap.v r.1))]
def Dg(L:List Int)(p:Nat)(g:Tpl)(n:Int)(I0:(Int×Nat×Int×List Edg)→Prop)(m0:(Int×Nat×Int×List Edg)→Nat)(I1:Int×Nat×Int×List Edg→(Bool×Nat)→Prop):Ax Tryz.prog Dh (Tap×Pln):=
 (.callH [0] (bB L p 3) 49
(.callH [0] (Pk L (ab L p)) 81
(.req 225 (((g.rs.map Rtr.v).length:Int)≤1000) λh1 =>
(.callH [0] (OD L (ab L (ab L p)) ((g.rs.map Rtr.v).length:Int) h1) 225
(.cmdL (.nilB 113 2 2) (.loop 0 (J8 L p g n) I0 m0 (0,(ic L ((g.rs.map Rtr.v).length:Int) (ab L (ab L p))).2,0,[]) [0,1,17,113,273] λ(t0:Int×Nat×Int×List Edg) b0 =>
(.br 69 (decide (t0.1<((((ic L ((g.rs.map Rtr.v).length:Int) (ab L (ab L p))).1).map AV.int).length:Int))) (.callH [0] (bB L t0.2.1 4) 85
(.br 117 ((Mod (al L t0.2.1) 4)==0) (.bk 0 b0 (W (t0.1+1),ab L t0.2.1,t0.2.2.1,t0.2.2.2) [0,1,2,3,4])
(.req 213 ([1,1,1,2,W ((eL L (ab L p))-1)]≠[]) λh2 =>
(.callH [0] (ib L (ab L t0.2.1) [1,1,1,2,W ((eL L (ab L p))-1)] h2) 213
(.br 293 (decide ((W (t0.2.2.1+(aR [1,1,1,2,W ((eL L (ab L p))-1)] (al L (ab L t0.2.1)))))≤256)) (.elI 389 AV.int ((ic L ((g.rs.map Rtr.v).length:Int) (ab L (ab L p))).1) t0.1 λx3 =>
(.elI 421 Rtr.v g.rs x3 λx4 =>
(.apX 517 Edg.v t0.2.2.2 [(⟨x4.id,W (t0.2.2.1+(aR [1,1,1,2,W ((eL L (ab L p))-1)] (al L (ab L t0.2.1))))⟩:Edg)] (t0.2.2.2.length+1)
(.bk 0 b0 (W (t0.1+1),ab L (ab L t0.2.1),W (t0.2.2.1+(aR [1,1,1,2,W ((eL L (ab L p))-1)] (al L (ab L t0.2.1)))),t0.2.2.2++[(⟨x4.id,W (t0.2.2.1+(aR [1,1,1,2,W ((eL L (ab L p))-1)] (al L (ab L t0.2.1))))⟩:Edg)]) [0,1,2,3,517]))))
(.bk 0 b0 (W (t0.1+1),ab L (ab L t0.2.1),W (t0.2.2.1+(aR [1,1,1,2,W ((eL L (ab L p))-1)] (al L (ab L t0.2.1)))),t0.2.2.2) [0,1,2,3,4]))))))
(.pass (.join 1 (J7 L p t0) (λ(t1:Bool×Nat)=>I1 t0 t1) (λb1=>(.br 117 (decide (0<n)) (.callH [0] (fp L t0.2.1 n) 149
(.bk 1 b1 (dl L t0.2.1 n,ab L t0.2.1) [0,2,3,4]))
(.bk 1 b1 (false,t0.2.1) [0,2,3,4]))) λ(t1:Bool×Nat) =>
(.br 4 t1.1 (.callH [0] (bB L t1.2 5) 20
(.br 68 ((Mod (al L t1.2) 5)==0) (.callH [0] (jL L (ab L t1.2)) 84
(.fz 3 Edg.v t0.2.2.2 (λ_=>rfl) (.retH ((⟨L,ab L (ab L t1.2)⟩:Tap),(⟨eJ L (ab L t1.2),eL L (ab L p),t0.2.2.2⟩:Pln)) ⟨[rR 6 1],[.box (.agg [.sl 1 (L.map AV.int) false,.int (((ab L (ab L t1.2)):Nat):Int)]),.box (Pln.v (⟨eJ L (ab L t1.2),eL L (ab L p),t0.2.2.2⟩:Pln))]⟩ [0,1])))
(.br 100 ((Mod (al L t1.2) 5)==1) (.req 132 ([0,8,24,64,128]≠[]) λh5 =>
(.callH [0] (ib L (ab L t1.2) [0,8,24,64,128] h5) 132
(.fz 3 Edg.v t0.2.2.2 (λ_=>rfl) (.retH ((⟨L,ab L (ab L t1.2)⟩:Tap),(⟨Mod (al L p) 3,aR [0,8,24,64,128] (al L (ab L t1.2)),t0.2.2.2⟩:Pln)) ⟨[rR 6 1],[.box (.agg [.sl 1 (L.map AV.int) false,.int (((ab L (ab L t1.2)):Nat):Int)]),.box (Pln.v (⟨Mod (al L p) 3,aR [0,8,24,64,128] (al L (ab L t1.2)),t0.2.2.2⟩:Pln))]⟩ [0,1]))))
(.br 132 ((Mod (al L t1.2) 5)==2) (.req 196 ([0,1,99,100]≠[]) λh6 =>
(.callH [0] (ib L (ab L t1.2) [0,1,99,100] h6) 196
(.req 244 ([0,1,256,257]≠[]) λh7 =>
(.callH [0] (ib L (ab L (ab L t1.2)) [0,1,256,257] h7) 244
(.apX 292 Edg.v t0.2.2.2 [(⟨aR [0,1,99,100] (al L (ab L t1.2)),aR [0,1,256,257] (al L (ab L (ab L t1.2)))⟩:Edg)] (t0.2.2.2.length+1)
(.fz 292 Edg.v (t0.2.2.2++[(⟨aR [0,1,99,100] (al L (ab L t1.2)),aR [0,1,256,257] (al L (ab L (ab L t1.2)))⟩:Edg)]) (λ_=>rfl) (.retH ((⟨L,ab L (ab L (ab L t1.2))⟩:Tap),(⟨Mod (al L p) 3,eL L (ab L p),t0.2.2.2++[(⟨aR [0,1,99,100] (al L (ab L t1.2)),aR [0,1,256,257] (al L (ab L (ab L t1.2)))⟩:Edg)]⟩:Pln)) ⟨[rR 6 1],[.box (.agg [.sl 1 (L.map AV.int) false,.int (((ab L (ab L (ab L t1.2))):Nat):Int)]),.box (Pln.v (⟨Mod (al L p) 3,eL L (ab L p),t0.2.2.2++[(⟨aR [0,1,99,100] (al L (ab L t1.2)),aR [0,1,256,257] (al L (ab L (ab L t1.2)))⟩:Edg)]⟩:Pln))]⟩ [0,1])))))))
(.br 164 ((Mod (al L t1.2) 5)==3) (.br 228 (decide (0<((t0.2.2.2.map Edg.v).length:Int))) (.callH [0] (jL L (ab L t1.2)) 276
(.say (ck (decide (0<((t0.2.2.2.map Edg.v).length:Int)))) (.stX 324 Edg.v t0.2.2.2 0 (λy8=>(⟨y8.router,eJ L (ab L t1.2)⟩:Edg)) λy8 =>
(.fz 3 Edg.v (t0.2.2.2.set 0 (⟨y8.router,eJ L (ab L t1.2)⟩:Edg)) (λ_=>rfl) (.retH ((⟨L,ab L (ab L t1.2)⟩:Tap),(⟨Mod (al L p) 3,eL L (ab L p),t0.2.2.2.set 0 (⟨y8.router,eJ L (ab L t1.2)⟩:Edg)⟩:Pln)) ⟨[rR 6 1],[.box (.agg [.sl 1 (L.map AV.int) false,.int (((ab L (ab L t1.2)):Nat):Int)]),.box (Pln.v (⟨Mod (al L p) 3,eL L (ab L p),t0.2.2.2.set 0 (⟨y8.router,eJ L (ab L t1.2)⟩:Edg)⟩:Pln))]⟩ [0,1])))))
(.fz 3 Edg.v t0.2.2.2 (λ_=>rfl) (.retH ((⟨L,ab L t1.2⟩:Tap),(⟨Mod (al L p) 3,eL L (ab L p),t0.2.2.2⟩:Pln)) ⟨[rR 6 1],[.box (.agg [.sl 1 (L.map AV.int) false,.int (ab L t1.2)]),.box (Pln.v (⟨Mod (al L p) 3,eL L (ab L p),t0.2.2.2⟩:Pln))]⟩ [0,1])))
(.apX 260 Edg.v t0.2.2.2 [(⟨50,W (t0.2.2.1+1)⟩:Edg)] (t0.2.2.2.length+1)
(.fz 260 Edg.v (t0.2.2.2++[(⟨50,W (t0.2.2.1+1)⟩:Edg)]) (λ_=>rfl) (.retH ((⟨L,ab L t1.2⟩:Tap),(⟨Mod (al L p) 3,eL L (ab L p),t0.2.2.2++[(⟨50,W (t0.2.2.1+1)⟩:Edg)]⟩:Pln)) ⟨[rR 6 1],[.box (.agg [.sl 1 (L.map AV.int) false,.int (ab L t1.2)]),.box (Pln.v (⟨Mod (al L p) 3,eL L (ab L p),t0.2.2.2++[(⟨50,W (t0.2.2.1+1)⟩:Edg)]⟩:Pln))]⟩ [0,1]))))))))
(.fz 3 Edg.v t0.2.2.2 (λ_=>rfl) (.retH ((⟨L,t1.2⟩:Tap),(⟨Mod (al L p) 3,eL L (ab L p),t0.2.2.2⟩:Pln)) ⟨[rR 6 1],[.box (.agg [.sl 1 (L.map AV.int) false,.int t1.2]),.box (Pln.v (⟨Mod (al L p) 3,eL L (ab L p),t0.2.2.2⟩:Pln))]⟩ [0,1]))))))))))))
theorem O4(L:List Int)(p:Nat)(g:Tpl)(n:Int)(h:g.rs.length≤100):∃I0 m0 I1,(Dg L p g n I0 m0 I1).vc uJ uK ((⟨L,(dH L p g n).2⟩:Tap),(dH L p g n).1):=by
 refine⟨λs=>∃j:Nat,s.1=j∧j≤(ic L g.rs.length (ab L (ab L p))).1.length∧s.2.2.2.length≤j∧uL L (W (eL L (ab L p)-1)) g.rs ((ic L g.rs.length (ab L (ab L p))).1.drop j) s.2.2.1 s.2.2.2 s.2.1=rL L p g,
  λs=>(ic L g.rs.length (ab L (ab L p))).1.length-s.1.toNat,λs b=>b=(decide (0<n∧dl L s.2.1 n=true),if 0<n then ab L s.2.1 else s.2.1),?_⟩
 dsimp only[Dg,Dh,Ax.vp,Ax.vc];simp only[vcU,rfU,u'];obtain⟨f1,f2⟩:=uV (L:=L) (n:=(g.rs.length:Int)) (p:=ab L (ab L p)) (by omega);have f3:(ic L (g.rs.length:Int) (ab L (ab L p))).1.length=g.rs.length:=by
  unfold ic;rw[rS];simp
 refine⟨by omega,⟨0,rfl,am' _,by simp,rfl⟩,?_⟩;unfold dH;generalize rL L p g=R;generalize (ic L (g.rs.length:Int) (ab L (ab L p))).1=o at f1 f2 f3 ⊢;rintro⟨i,q,id,es⟩ ⟨j,hi,hj,hle,hr⟩;simp only at hi hle hr ⊢;subst hi
 refine⟨λc=>?_,λc=>?_⟩
 ·have hx:=f' (show j<o.length by omega);have hd:o.drop j=o[j]'(by omega)::o.drop (j+1):=aP' (by omega);have hm:=f2 (o[j]'(by omega)) (aR' _);generalize o[j]'(by omega)=x at hx hd hm;rw[hd,uL]at hr;rw[aQ (n:=o.length) (by omega) (by omega)]
  refine⟨λe=>?_,λe=>⟨by simp,λe2=>?_,λe2=>?_⟩⟩
  ·rw[F' (eq_of_beq e)]at hr;exact⟨⟨j+1,rfl,by omega,by omega,hr⟩,by omega⟩
  ·rw[E' (by simpa using e),F' e2]at hr;refine⟨by omega,c,λx3 h3=>?_⟩;rw[Int.toNat_natCast,hx]at h3;cases h3;refine⟨hm.1,hm.2,λr h4=>?_⟩;rw[h4]at hr;exact⟨by omega,⟨j+1,rfl,by omega,by simp;omega,hr⟩,by omega⟩
  ·rw[E' (by simpa using e),E' e2]at hr;exact⟨⟨j+1,rfl,by omega,by omega,hr⟩,by omega⟩
 ·have e1:o.drop j=[]:=cg' (by omega);rw[e1,uL]at hr;rw[←hr];have hle2:es.length≤1000:=by omega
  refine⟨⟨λc2=>?_,λc2=>?_⟩,?_⟩
  ·rw[F' c2];refine Prod.ext ?_ rfl;rw[ag'];simp[c2]
  ·rw[E' c2];refine Prod.ext ?_ rfl;rw[ag'];simp[c2]
  rintro _ rfl;simp only;refine⟨λe=>?_,λe=>by rw[E' (S' e)]⟩;have e:=G' e;rw[F' e,F' e.1];generalize ab L q=q1;unfold plaS;simp only;refine⟨λs0=>by rw[F' (eq_of_beq s0)],λs0=>?_⟩;rw[E' (by simpa using s0)];refine⟨λs1=>by rw[F' (eq_of_beq s1)];exact⟨by simp,rfl⟩,λs1=>?_⟩;rw[E' (by simpa using s1)];refine⟨λs2=>by rw[F' (eq_of_beq s2)];exact⟨by simp,by simp,by omega,rfl⟩,λs2=>?_⟩;rw[E' (by simpa using s2)]
  refine⟨λs3=>?_,λs3=>?_⟩
  ·rw[F' (eq_of_beq s3)];refine⟨λh=>⟨h,by omega,λy hy=>by rw[hy]⟩,λh=>by rw[af' (by omega)]⟩
  ·rw[E' (by simpa using s3)];exact⟨by omega,rfl⟩
def Di(L:List Int)(p:Nat)(g:Tpl)(n:Int)(h:g.rs.length≤100):HC Tryz.prog:=hcO 36 [.k,(.a [(.s 2),(.s 5)]),.k] [.ref 0 0,Tpl.v g,.int n] [.box (.agg [.sl 1 (L.map AV.int) false,.int p])] (.a [.k,.k,(.s 2)]) uJ uK ((⟨L,(dH L p g n).2⟩:Tap),(dH L p g n).1) (λ_ _=>let ⟨I0,m0,I1,h⟩:=O4 L p g n h;⟨_,h,by kernel_rfl⟩) (by kernel_rfl) (by simp[hcB,cC,AV.belB,allB,ez,dv,uJ,uK,Pln.v,Tap.v,Tpl.v,ae (v:=AV.int) (λ_=>rfl),ae (v:=Edg.v) (λ_=>rfl),ae (v:=Lnk.v) (λ_=>rfl),ae (v:=Rtr.v) (λ_=>rfl)])
def wq(t:Tpl)(r:Int):Bool:=(aC t==0) && (match t.rs.find? (isR r)with
 | some x=>x.cap
 | none=>false)
def Ge(t:Tpl)(r:Int):=okL [Tpl.v t,.int r]
def Ls(t:Tpl)(r:Int)(t0:Int):NF:=⟨[rI 1 r,rR 2 0,rI 5 t0],[.box (Tpl.v t)]⟩
@[reducible] def Gb:Nat→Type
 | 0=>Int
 | _=>Unit
def Gc(r:Bool):AV:=.bool r
def Ga(t:Tpl)(r:Int)(I0:Int→Prop)(m0:Int→Nat):Ax Tryz.prog Gb (Bool):=
 (.callP (lD t)
(.br 80 ((aC t) != 0) (.ret (false))
(.loop 0 (Ls t r) I0 m0 ((0):Int) [0] λ(t0:Int) b0 =>
(.br 81 (decide (t0<((t.rs.map Rtr.v).length:Int))) (.elI 129 Rtr.v t.rs t0 λx1 =>
(.br 209 (x1.id==r) (.elI 257 Rtr.v t.rs t0 λx2 =>
(.ret (x2.cap)))
(.bk 0 b0 ((W (t0+1)):Int) [0])))
(.ret (false))))))
theorem Qm(t:Tpl)(r:Int)(ok:Ge t r):∃I0 m0,(Ga t r I0 m0).vp Gc (wq t r):=by
 refine⟨λi=>aM t.rs (λx=>isR r x=false) i,λi=>t.rs.length-i.toNat,?_⟩;simp only[Ge,Tpl.v,okU,Blk.ok,az,u']at ok;dsimp only[Ga,Gb,Ax.vp,Ax.vc];simp only[vcU,rfU,u'];unfold wq;by_cases hc:aC t=0
 case neg=>exact⟨λ_=>by rw[beq_eq_false_iff_ne.mpr hc];rfl,λh=>by simp[hc]at h⟩
 refine⟨λh=>by simp[hc]at h,λ_=>⟨aM.zero,λi h=>⟨λc=>⟨h.idx,c,λx hx=>⟨λq=>⟨h.idx,c,λy hy=>?_⟩,λq=>h.step (by omega) hx q⟩⟩,λc=>?_⟩⟩⟩
 ·rw[hx]at hy;cases hy;rw[kR h hx q,hc];simp
 ·rw[mA h c,hc];rfl
def Gd(t:Tpl)(r:Int):PC Tryz.prog:=pcO 88 [(.a [(.s 2),(.s 5)]),.k] [Tpl.v t,.int r] .k Gc (wq t r) (λok=>let ⟨I0,m0,h⟩:=Qm t r ok;⟨_,h,by kernel_rfl⟩) rfl (by kernel_rfl)
def gn(l:List Int)(n:Int):Nat:=l.findIdx λx=>!decide (x<n)
def me(l:List Int)(n:Int):List Int:=if l[gn l n]?=some n then l else bO l (gn l n) n
def K8(l:List Int)(n:Int)(t0:Int):NF:=⟨[(0,.k,.sl 1 (l.map AV.int) false),rI 1 n,rI 5 t0],[]⟩
def K7(l:List Int)(n:Int)(t0:Int)(t1:Bool):NF:=⟨[(0,.k,.sl 1 (l.map AV.int) false),rI 1 n,rI 5 t0,rB 18 t1],[]⟩
def K6(l:List Int)(n:Int)(t0:Int)(t2:Bool):NF:=⟨[(0,.k,.sl 1 (l.map AV.int) false),rI 1 n,rI 5 t0,rB 32 t2],[]⟩
@[reducible] def E9:Nat→Type
 | 0=>Int
 | 1=>Bool
 | 2=>Bool
 | _=>Unit
def EA(r:List Int):AV:=.sl 1 (r.map AV.int) false
def E8(l:List Int)(n:Int)(I0:Int→Prop)(m0:Int→Nat)(I1:Int→Bool→Prop)(I2:Int→Bool→Bool→Prop):Ax Tryz.prog E9 ((List Int)):=
 (.loop 0 (K8 l n) I0 m0 ((0):Int) [] λ(t0:Int) b0 =>
(.pass (.join 1 (K7 l n t0) (λ(t1:Bool)=>I1 t0 t1) (λb1=>(.br 80 (decide (t0<((l.map AV.int).length:Int))) (.elI 112 AV.int l t0 λx1 =>
(.bk 1 b1 ((decide (x1<n)):Bool) []))
(.bk 1 b1 ((false):Bool) []))) λ(t1:Bool) =>
(.br 0 t1 (.bk 0 b0 ((W (t0+1)):Int) [])
(.pass (.join 2 (K6 l n t0) (λ(t2:Bool)=>I2 t0 t1 t2) (λb2=>(.br 80 (decide (t0<((l.map AV.int).length:Int))) (.elI 112 AV.int l t0 λx2 =>
(.bk 2 b2 ((x2==n):Bool) []))
(.bk 2 b2 ((false):Bool) []))) λ(t2:Bool) =>
(.br 0 t2 (.ret (l))
(.say (λR=>Rf (α:=List AV) (l.map AV.int) (ck (gV l.length 0 t0 (l.length:Int))
R)) (.sub 64 AV.int l false
(.apX 80 AV.int [] ((l.take t0.toNat).drop 0) (0+((l.take t0.toNat).drop 0).length)
(.apX 160 AV.int ((l.take t0.toNat).drop 0) [n] (((l.take t0.toNat).drop 0).length+1)
(.say (λR=>Rf (α:=List AV) (l.map AV.int) (ck (gV l.length t0 (l.length:Int) (l.length:Int))
R)) (.sub 240 AV.int l false
(.apX 256 AV.int (((l.take t0.toNat).drop 0)++[n]) ((l.take ((l.length:Int).toNat)).drop t0.toNat) ((((l.take t0.toNat).drop 0)++[n]).length+((l.take ((l.length:Int).toNat)).drop t0.toNat).length)
(.fz 256 AV.int ((((l.take t0.toNat).drop 0)++[n])++((l.take ((l.length:Int).toNat)).drop t0.toNat)) (λ_=>rfl) (.ret ((((l.take t0.toNat).drop 0)++[n])++((l.take ((l.length:Int).toNat)).drop t0.toNat))))))))))))))))))
theorem Pp(l:List Int)(n:Int)(h:l.length≤100000):∃I0 m0 I1 I2,(E8 l n I0 m0 I1 I2).vp EA (me l n):=by
 refine⟨λi=>aM l (λx=>x<n) i,λi=>l.length-i.toNat,λi b=>b=true↔∃x,l[i.toNat]?=some x∧x<n,λi _ b=>b=true↔l[i.toNat]?=some n,?_⟩;dsimp only[E8,E9,Ax.vp,Ax.vc];simp only[vcU,rfU,u'];refine⟨aM.zero,λt hI=>?_⟩;obtain⟨j,rfl,hj,ha⟩:=hI;have hI:aM l (λx=>x<n) ((j:Nat):Int):=⟨j,rfl,hj,ha⟩
 simp only[Int.toNat_natCast]
 refine⟨⟨λc=>⟨by omega,c,λx hx=>⟨λq=>⟨x,hx,q⟩,λ⟨y,hy,q⟩=>by rw[hx]at hy;cases hy;exact q⟩⟩,λc=>⟨nofun,λ⟨y,hy,_⟩=>by have:=am hy;omega⟩⟩,λb hb=>⟨λe=>?_,λe=>?_⟩⟩
 ·obtain⟨x,hx,q⟩:=hb.mp e;exact hI.step (by omega) (by rw[Int.toNat_natCast];exact hx) q
 ·have hp:gn l n=j:=by
   unfold gn
   by_cases ee:j=l.length
   ·subst ee;rw[List.take_length]at ha;rw[List.findIdx_eq_length];intro y hy;simp[ha y hy]
   ·rw[List.findIdx_eq (by omega)]
    refine⟨?_,λi hi=>?_⟩
    ·have:¬l[j]'(by omega)<n:=λq=>by
      have:=hb.mpr ⟨_,f' (by omega),q⟩;rw[e]at this;cases this
     simpa using this
    ·have:=ha (l[i]'(by omega)) (aD'.mpr ⟨i,by omega,rfl⟩);simp[this]
  refine⟨⟨λc=>⟨by omega,c,λx hx=>?_⟩,λc=>⟨nofun,λq=>by have:=am q;omega⟩⟩,λb2 hb2=>⟨λe2=>?_,λe2=>?_⟩⟩
  ·rw[hx,aV'];exact⟨λq=>by rw[q],λq=>Z' q⟩
  ·rw[me,hp,F' (hb2.mp e2)]
  ·have h2:¬l[j]?=some n:=λq=>by rw[hb2.mpr q]at e2;cases e2
   have hi:(((l.take j).drop 0)++[n])++((l.take l.length).drop j)=bO l j n:=by have:=l4 (l:=l) (k:=j) (x:=n);rwa [Int.toNat_natCast]at this
   rw[hi,me,hp,E' h2];exact⟨by simp[gV];omega,by simp;omega,by simp;omega,by simp[gV];omega,by simp;omega,rfl⟩
def EB(l:List Int)(n:Int)(h:l.length≤100000):PC Tryz.prog:=pcO 56 [(.s 1),.k] [.sl 1 (l.map AV.int) false,.int n] (.s 1) EA (me l n) (λ_=>let ⟨I0,m0,I1,I2,h⟩:=Pp l n h;⟨_,h,by kernel_rfl⟩) rfl (by kernel_rfl)
theorem nB(l:List Int)(n:Int):(me l n).length≤l.length+1:=by
 unfold me
 split
 ·omega
 ·rw[gJ _ _ _ (show gn l n≤l.length from List.findIdx_le_length)];exact X' _
def gM(t:Tpl)(s:List Int×List Int)(q:Int):List Int×List Int:=if wq t q=true then(s.1,me s.2 q)else if q∈s.1 then s else(s.1++[q],s.2)
def sI(t:Tpl)(d:List Int):Nat→Nat→List Int→List Int→List Int
 | 0,_,_,out=>out
 | f+1,i,seen,out=>match seen[i]? with
  | some x=>sI t d f (i+1) ((eW t d x).foldl (gM t) (seen,out)).1 ((eW t d x).foldl (gM t) (seen,out)).2
  | none=>out
def jI(t:Tpl)(f g:Int):List Int:=if hs5 t f=false∨hs5 t g=false∨f=g then []else sI t (to6 t g) 25 0 [f] []
def KD(t:Tpl)(from_:Int)(to_:Int)(t0:Bool):NF:=⟨[rI 1 from_,rI 2 to_,rR 3 0,rB 27 t0],[.box (Tpl.v t)]⟩
def KB(t:Tpl)(to_:Int)(t1:List Int×Int×List Int):NF:=⟨[rR 3 0,(7,.k,.sl 1 ((to6 t to_).map AV.int) false),rV 8 1,(9,(.s 1),.sl 1 (t1.1.map AV.int) false),rI 10 t1.2.1],[.box (Tpl.v t),vB 1 AV.int t1.2.2 (λ_=>rfl)]⟩
def KA(t:Tpl)(to_:Int)(t1:List Int×Int×List Int)(x2:Int)(t2:List Int×Int×List Int):NF:=⟨[rR 3 0,(7,.k,.sl 1 ((to6 t to_).map AV.int) false),rV 8 1,(9,(.s 1),.sl 1 (t2.1.map AV.int) false),rI 10 t1.2.1,(11,.k,.sl 1 ((eW t (to6 t to_) x2).map AV.int) false),rI 12 t2.2.1],[.box (Tpl.v t),vB 1 AV.int t2.2.2 (λ_=>rfl)]⟩
@[reducible] def EM:Nat→Type
 | 0=>Bool
 | 1=>(List Int)×Int×List Int
 | 2=>(List Int)×Int×List Int
 | _=>Unit
def EN(r:List Int):AV:=.sl 1 (r.map AV.int) false
def EL(t:Tpl)(from_:Int)(to_:Int)(I0:Bool→Prop)(I1:Bool→(List Int×Int×List Int)→Prop)(m1:Bool→(List Int×Int×List Int)→Nat)(I2:Bool→(List Int)×Int×List Int→Int→(List Int×Int×List Int)→Prop)(m2:Bool→(List Int)×Int×List Int→Int→(List Int×Int×List Int)→Nat):Ax Tryz.prog EM ((List Int)):=
 (.pass (.pass (.join 0 (KD t from_ to_) (λ(t0:Bool)=>I0 t0) (λb0=>(.callP (Nv t from_)
(.br 112 (!(hs5 t from_)) (.bk 0 b0 ((true):Bool) [0])
(.callP (Nv t to_)
(.br 208 (!(hs5 t to_)) (.bk 0 b0 ((true):Bool) [0])
(.bk 0 b0 ((from_==to_):Bool) [0])))))) λ(t0:Bool) =>
(.br 1 t0 (.ret ([]))
(.req 33 (aC t=0) λh1 =>
(.callP (to6_c t to_ h1)
(.own 81 (.loop 1 (KB t to_) (I1 t0) (m1 t0) ([],0,[from_]) [0,81] λ(t1:List Int×Int×List Int) b1 =>
(.br 66 (decide (t1.2.1<((t1.2.2.map AV.int).length:Int))) (.elJ 146 AV.int t1.2.2 t1.2.1 λx2 =>
(.req 162 (okD t (to6 t to_)) λh3 =>
(.callP (Ob t (to6 t to_) x2 h3)
(.loop 2 (KA t to_ t1 x2) (I2 t0 t1 x2) (m2 t0 t1 x2) (t1.1,0,t1.2.2) [0,1] λ(t2:List Int×Int×List Int) b2 =>
(.br 66 (decide (t2.2.1<(((eW t (to6 t to_) x2).map AV.int).length:Int))) (.elI 114 AV.int (eW t (to6 t to_) x2) t2.2.1 λx4 =>
(.callP (Gd t x4)
(.br 162 (wq t x4) (.elI 210 AV.int (eW t (to6 t to_) x2) t2.2.1 λx5 =>
(.req 242 (t2.1.length≤100000) λh6 =>
(.callP (EB t2.1 x5 h6)
(.bk 2 b2 (me t2.1 x5,W (t2.2.1+1),t2.2.2) [0,1]))))
(.elI 210 AV.int (eW t (to6 t to_) x2) t2.2.1 λx7 =>
(.callP (l7 t2.2.2 x7)
(.say (ck (dB [(t2.2.2.map AV.int)])) (.br 274 (!(decide (x7∈t2.2.2))) (.elI 322 AV.int (eW t (to6 t to_) x2) t2.2.1 λx8 =>
(.own 354 (.apX 370 AV.int t2.2.2 [x8] (t2.2.2.length+1)
(.bk 2 b2 (t2.1,W (t2.2.1+1),t2.2.2++[x8]) [0,370]))))
(.bk 2 b2 (t2.1,W (t2.2.1+1),t2.2.2) [0,1]))))))))
(.bk 1 b1 (t2.1,W (t1.2.1+1),t2.2.2) [0,1]))))))
(.ret (t1.1)))))))))))
structure ot (t:Tpl) (b:Nat) (s:List Int×List Int):Prop where
  nd:s.1.Nodup
  ha:∀x∈s.1,aJ t x=true
  le:s.2.length≤b
theorem ot.len{t:Tpl}{b:Nat}{s:List Int×List Int}(h:ot t b s):s.1.length≤t.rs.length:=by
 have:=List.Nodup.length_le_of_subset h.nd (l₂:=t.rs.map (·.id)) λx hx=>bz.mpr (h.ha x hx)
 rwa [u']at this
theorem ot.one{t:Tpl}{b:Nat}{s:List Int×List Int}(h:ot t b s){q:Int}(hq:aJ t q=true):ot t (b+1) (gM t s q):=by
 unfold gM
 split
 ·exact⟨h.nd,h.ha,aF' (nB _ _) (by have:=h.le;omega)⟩
 ·split
  ·exact⟨h.nd,h.ha,by have:=h.le;omega⟩
  ·rename_i hn;refine⟨bg'.mpr ⟨h.nd,by simp,λa ha b hb=>by rw[L'.mp hb];rintro rfl;exact hn ha⟩,λx hx=>?_,by have:=h.le;simp only;omega⟩
   rcases ab'.mp hx with hx|hx
   ·exact h.ha x hx
   ·rw[L'.mp hx];exact hq
theorem ot.fold{t:Tpl}:∀{l:List Int} {b:Nat} {s:List Int×List Int},ot t b s→(∀q∈l,aJ t q=true)→ot t (b+l.length) (l.foldl (gM t) s)
 | [],b,s,h,_=>h
 | q::l,b,s,h,hs=>by
  have:=ot.fold (l:=l) (h.one (hs q (by simp))) λx hx=>hs x (by simp[hx]);rw[aN',Y',show b+(l.length+1)=b+1+l.length by omega];exact this
theorem BQ{t:Tpl}(hc:aC t=0){g f q:Int}(h:q∈eW t (to6 t g) f):aJ t q=true:=by
 obtain⟨_,x,hx,e⟩:=II hc (NR hc) h;exact fc.mpr ⟨x,hx,e⟩
theorem rk(t:Tpl)(d:List Int)(f:Int):(eW t d f).length≤t.rs.length:=by
 unfold eW;split
 ·simp
 ·exact aF' (bU' _ _) rZ
theorem Pw(t:Tpl)(f g:Int):∃I0 I1 m1 I2 m2,(EL t f g I0 I1 m1 I2 m2).vp EN (jI t f g):=by
  refine⟨λb=>b=decide (hs5 t f=false∨hs5 t g=false∨f=g),λ_ s=>∃k:Nat,s.2.1=k∧k≤s.2.2.length∧ot t (30 * k) (s.2.2,s.1)∧sI t (to6 t g) (25-k) k s.2.2 s.1=jI t f g,λ_ s=>25-s.2.1.toNat,
    λ_ s0 x s=>∃j:Nat,s.2.1=j∧j≤(eW t (to6 t g) x).length∧(s.2.2,s.1)=((eW t (to6 t g) x).take j).foldl (gM t) (s0.2.2,s0.1),λ_ _ x s=>(eW t (to6 t g) x).length-s.2.1.toNat,?_⟩
  dsimp only[EL,EM,Ax.vp,Ax.vc];simp only[vcU,rfU,u']
  refine ⟨⟨fun c => by have c : hs5 t f = false := by simpa using c
                       simp [c], fun c => ⟨fun d => by have d : hs5 t g = false := by simpa using d
                                                       simp[d],λd=>?_⟩⟩,?_⟩
  · have c:hs5 t f=true:=by simpa using c
    have d:hs5 t g=true:=by simpa using d
    rw[ag'];simp[c,d]
  rintro _ rfl;refine⟨λc=>by rw[jI,F' (G' c)],λc=>?_⟩;have c:=S' c;have hf:hs5 t f=true:=by
    cases q:hs5 t f
    · exact absurd (.inl q) c
    · rfl
  have hc:=(fE.mp hf).1;have hR:=(ax hc).nr;have hD:okD t (to6 t g):=⟨Iz,by omega⟩
  refine⟨hc,⟨0,rfl,by simp,⟨by simp,by simp;exact(fE.mp hf).2,by simp⟩,by rw[jI,E' c]⟩,?_⟩;rintro⟨out,i,seen⟩ ⟨k,hi,hk,hI,hO⟩;simp only at hi hk hO ⊢;subst hi;have hsl:=hI.len;simp only at hsl
  refine⟨λd=>?_,λd=>?_⟩
  · rw[Int.toNat_natCast]
    refine⟨cY (by omega) d,by omega,λx hx=>⟨hD,⟨0,rfl,by omega,rfl⟩,?_⟩⟩;have hnl:=rk t (to6 t g) x;have hnh:=λq (h:q∈eW t (to6 t g) x)=>BQ hc h;have e:25-k=(25-(k+1))+1:=by omega
    rw[e,sI,hx]at hO;simp only at hO;generalize eW t (to6 t g) x=n at hnl hnh hO ⊢;rintro⟨o2,j0,s2⟩ ⟨j,hj0,hj,hs⟩;simp only at hj0 hs ⊢;subst hj0;have hI2:ot t (30 * k+j) (s2,o2):=by
      have:=hI.fold (l:=n.take j) λq hq=>hnh q (ad' hq);rw[←hs,ar',bv' hj]at this;exact this
    have hle:=hI2.le;have hsl2:=hI2.len;simp only at hle hsl2
    refine⟨λd2=>⟨by omega,d2,λy hy=>?_⟩,λd2=>?_⟩
    · have hw:W ((j:Int)+1)=((j+1:Nat):Int):=aQ (n:=n.length) (by omega) (by omega)
      rw[hw];rw[Int.toNat_natCast]at hy;have hst:(n.take (j+1)).foldl (gM t) (seen,out)=gM t (s2,o2) y:=by rw[aB hy,be',←hs];rfl
      refine⟨λe1=>⟨by omega,d2,λz hz=>?_⟩,λe1=>⟨by omega,d2,λz hz=>⟨iS (ae (λ_=>rfl) _),λe2=>⟨by omega,d2,λu hu=>?_⟩,λe2=>?_⟩⟩⟩
      · rw[Int.toNat_natCast,hy]at hz;cases hz
        refine⟨by omega,⟨j+1,rfl,by omega,?_⟩,by omega⟩;rw[hst,gM,F' e1]
      · rw[Int.toNat_natCast,hy]at hz hu;cases hz;cases hu
        refine⟨by omega,⟨j+1,rfl,by omega,?_⟩,by omega⟩;have e2:¬y∈s2:=by simpa using e2
        rw[hst,gM,E' (by rw[e1];simp),E' e2]
      · rw[Int.toNat_natCast,hy]at hz;cases hz
        refine⟨⟨j+1,rfl,by omega,?_⟩,by omega⟩;have e2:y∈s2:=by simpa using e2
        rw[hst,gM,E' (by rw[e1];simp),F' e2]
    · have hjn:j=n.length:=by omega
      rw[hjn,List.take_length]at hs;rw[←hs]at hO;have hw:W ((k:Int)+1)=((k+1:Nat):Int):=aQ (n:=25) (by omega) (by omega);rw[hw];have hpre:seen.length≤s2.length:=by
        have key:∀(l:List Int) (s:List Int×List Int),s.1.length≤(l.foldl (gM t) s).1.length:=λl=>by
          induction l with
          | nil=>intro s;exact X' _
          | cons q l ih =>
            intro s;refine aF' ?_ (ih (gM t s q));unfold gM
            split
            · exact X' _
            · split
              · exact X' _
              · simp
        have:=key n (seen,out);rw[←hs]at this;exact this
      refine⟨⟨k+1,rfl,by omega,⟨hI2.nd,hI2.ha,by simp only;omega⟩,hO⟩,by omega⟩
  · have e:seen[k]?=none:=af' (by omega)
    have e2:25-k=(25-(k+1))+1:=by omega
    rw[e2,sI,e]at hO;exact hO
def Px(t:Tpl)(from_:Int)(to_:Int):PC Tryz.prog:=pcO 89 [(.a [(.s 2),(.s 5)]),.k,.k] [Tpl.v t,.int from_,.int to_] (.s 1) EN (jI t from_ to_) (λ_=>let ⟨I0,I1,m1,I2,m2,h⟩:=Pw t from_ to_;⟨_,h,by kernel_rfl⟩) rfl (by kernel_rfl)
structure Rw where
  id:Int
  nx:List Int
def Rw.v(x:Rw):AV:=.agg [.int x.id,.sl 1 (x.nx.map AV.int) false]
structure Tbl where
  router:Int
  sub:Int
  len:Int
  rows:List Rw
def Tbl.v(x:Tbl):AV:=.agg [.int x.router,.int x.sub,.int x.len,.sl 2 (x.rows.map Rw.v) false]
def qF(t:Tpl)(r:Int)(e:Edg):Rw:=⟨e.id,if e.router=r then [r]else if wq t e.router=true then jI t r e.router else []⟩
def jX(t:Tpl)(p:Pln)(r:Int):Tbl:=⟨r,p.sub,p.len,p.es.map (qF t r)⟩
def Mq(t:Tpl)(p:Pln)(router:Int)(t0:Int×List Rw):NF:=⟨[rI 2 router,rR 3 0,rR 4 1,rR 6 2,rR 7 3,rI 8 t0.1],[.box (Tpl.v t),.box (Pln.v p),.box (.agg [.int 0,.int 0,.int 0,.sl 0 [] true]),.box (.agg [.int router,.int p.sub,.int p.len,.vec 4]),vB 2 Rw.v t0.2 (λ_=>rfl)]⟩
@[reducible] def He:Nat→Type
 | 0=>Int×List Rw
 | _=>Unit
def Hf(r:Tbl):AV:=Tbl.v r
def Hc(t:Tpl)(p:Pln)(router:Int)(I0:(Int×List Rw)→Prop)(m0:(Int×List Rw)→Nat):Ax Tryz.prog He (Tbl):=
 (.cmdL (.nilB 144 3 2) (.loop 0 (Mq t p router) I0 m0 (0,[]) [0,16,32,144,192] λ(t0:Int×List Rw) b0 =>
(.br 85 (decide (t0.1<((p.es.map Edg.v).length:Int))) (.elI 133 Edg.v p.es t0.1 λx1 =>
(.elI 277 Edg.v p.es t0.1 λx2 =>
(.br 357 (x2.router==router) (.say (λR=>Idt (t0.2.map Rw.v) (Rf (α:=List AV) [.agg [.int x1.id,.sl 1 [.int router] true]]
(ck (decide ((t0.2.map Rw.v).length+1≤1048576))
R))) (.app 485 (λy:AV=>y) (t0.2.map Rw.v) [.agg [.int x1.id,.sl 1 [.int router] true]]
(.say (λR=>Nb (.a [.k,(.s 1)]) Rw.v t0.2 [(⟨x1.id,[router]⟩:Rw)] [.agg [.int x1.id,.sl 1 [.int router] true]] ∧
R) (.cmd (.wkV 485 (.a [.k,(.s 1)]) Rw.v (t0.2++[(⟨x1.id,[router]⟩:Rw)])) (.bk 0 b0 (W (t0.1+1),t0.2++[(⟨x1.id,[router]⟩:Rw)]) [0,1,2,3,485])))))
(.elI 421 Edg.v p.es t0.1 λx3 =>
(.callP (Gd t x3.router)
(.br 485 (wq t x3.router) (.elI 565 Edg.v p.es t0.1 λx4 =>
(.callP (Px t router x4.router)
(.apX 725 Rw.v t0.2 [(⟨x1.id,jI t router x4.router⟩:Rw)] (t0.2.length+1)
(.bk 0 b0 (W (t0.1+1),t0.2++[(⟨x1.id,jI t router x4.router⟩:Rw)]) [0,1,2,3,725]))))
(.say (λR=>Idt (t0.2.map Rw.v) (Rf (α:=List AV) [.agg [.int x1.id,.sl 0 [] true]]
(ck (decide ((t0.2.map Rw.v).length+1≤1048576))
R))) (.app 549 (λy:AV=>y) (t0.2.map Rw.v) [.agg [.int x1.id,.sl 0 [] true]]
(.say (λR=>Nb (.a [.k,(.s 1)]) Rw.v t0.2 [(⟨x1.id,[]⟩:Rw)] [.agg [.int x1.id,.sl 0 [] true]] ∧
R) (.cmd (.wkV 549 (.a [.k,(.s 1)]) Rw.v (t0.2++[(⟨x1.id,[]⟩:Rw)])) (.bk 0 b0 (W (t0.1+1),t0.2++[(⟨x1.id,[]⟩:Rw)]) [0,1,2,3,549])))))))))))
(.fz 4 Rw.v t0.2 (λ_=>rfl) (.ret ((⟨router,p.sub,p.len,t0.2⟩:Tbl)))))))
theorem QJ(t:Tpl)(p:Pln)(r:Int)(hc:aC t=0)(h:p.es.length≤100):∃I0 m0,(Hc t p r I0 m0).vp Hf (jX t p r):=by
 refine⟨λs=>dY p.es (λe=>[qF t r e]) s.1 s.2,λs=>p.es.length-s.1.toNat,?_⟩;dsimp only[Hc,He,Ax.vp,Ax.vc];simp only[vcU,rfU,u'];refine⟨dY.zero,?_⟩;rintro⟨i,out⟩ hX;simp only at hX ⊢;have hlen:=hX.len (b:=1) λx _=>by simp
 refine⟨λc=>⟨hX.idx,c,λx hx=>⟨hX.idx,c,λx2 h2=>?_⟩⟩,λc=>?_⟩
 ·rw[hx]at h2;cases h2
  refine⟨λe=>⟨by omega,sT (λ_=>rfl) rfl,hX.step (by omega) hx ?_⟩,λe=>⟨hX.idx,c,λx3 h3=>?_⟩⟩
  ·rw[qF,F' (eq_of_beq e)]
  rw[hx]at h3;cases h3
  refine⟨λe2=>⟨hX.idx,c,λx4 h4=>?_⟩,λe2=>⟨by omega,sT (λ_=>rfl) rfl,hX.step (by omega) hx ?_⟩⟩
  ·rw[hx]at h4;cases h4;exact⟨by omega,hX.step (by omega) hx (by rw[qF,E' (by simpa using e),F' e2])⟩
  ·rw[qF,E' (by simpa using e),E' (by rw[e2];simp)]
 ·have:(p.es.flatMap λe=>[qF t r e])=p.es.map (qF t r):=List.map_eq_flatMap.symm;rw[hX.done c,this];rfl
def Hg(t:Tpl)(p:Pln)(router:Int)(hc:aC t=0)(h:p.es.length≤100):PC Tryz.prog:=pcO 44 [(.a [(.s 2),(.s 5)]),(.a [.k,.k,(.s 2)]),.k] [Tpl.v t,Pln.v p,.int router] (.a [.k,.k,.k,(.s 2)]) Hf (jX t p router) (λ_=>let ⟨I0,m0,h⟩:=QJ t p router hc h;⟨_,h,by kernel_rfl⟩) rfl (by kernel_rfl)
def fG(t:Tpl)(p:Pln):List Tbl×Int:=if aC t≠0∨bZ p=false then([],1)else(t.rs.flatMap λx=>if x.cap=true then [jX t p x.id]else [],0)
def MQ(t:Tpl)(p:Pln)(t0:Bool):NF:=⟨[rR 2 0,rR 3 1,rB 15 t0],[.box (Tpl.v t),.box (Pln.v p)]⟩
def MP(t:Tpl)(p:Pln)(t1:Int×List Tbl):NF:=⟨[rR 2 0,rR 3 1,rV 6 2,rI 7 t1.1],[.box (Tpl.v t),.box (Pln.v p),vB 4 Tbl.v t1.2 (λ_=>rfl)]⟩
@[reducible] def HL:Nat→Type
 | 0=>Bool
 | 1=>Int×List Tbl
 | _=>Unit
def HM(r:List Tbl×Int):AV:=.tup [.sl 4 (r.1.map Tbl.v) false,.int r.2]
def HK(t:Tpl)(p:Pln)(I0:Bool→Prop)(I1:Bool→(Int×List Tbl)→Prop)(m1:Bool→(Int×List Tbl)→Nat):Ax Tryz.prog HL (List Tbl×Int):=
 (.pass (.pass (.join 0 (MQ t p) (λ(t0:Bool)=>I0 t0) (λb0=>(.callP (lD t)
(.br 128 ((aC t) != 0) (.bk 0 b0 ((true):Bool) [0,16])
(.callP (wY p)
(.bk 0 b0 ((!(bZ p)):Bool) [0,16]))))) λ(t0:Bool) =>
(.br 2 t0 (.ret ([],1))
(.cmdL (.nilT 6 4) (.loop 1 (MP t p) (I1 t0) (m1 t0) (0,[]) [0,1,34] λ(t1:Int×List Tbl) b1 =>
(.br 83 (decide (t1.1<((t.rs.map Rtr.v).length:Int))) (.elI 131 Rtr.v t.rs t1.1 λx1 =>
(.br 179 x1.cap (.elI 275 Rtr.v t.rs t1.1 λx2 =>
(.req 323 (aC t=0) λh3 =>
(.req 323 (p.es.length≤100) λh4 =>
(.callP (Hg t p x2.id h3 h4)
(.apX 355 Tbl.v t1.2 [jX t p x2.id] (t1.2.length+1)
(.bk 1 b1 (W (t1.1+1),t1.2++[jX t p x2.id]) [0,1,355]))))))
(.bk 1 b1 (W (t1.1+1),t1.2) [0,1,2])))
(.fz 2 Tbl.v t1.2 (λ_=>rfl) (.ret (t1.2,0))))))))))
theorem QX(t:Tpl)(p:Pln):∃I0 I1 m1,(HK t p I0 I1 m1).vp HM (fG t p):=by
 refine⟨λb=>b=(decide (aC t≠0) || !bZ p),λ_ s=>dY t.rs (λx=>if x.cap=true then [jX t p x.id]else []) s.1 s.2,λ_ s=>t.rs.length-s.1.toNat,?_⟩;dsimp only[HK,HL,Ax.vp,Ax.vc];simp only[vcU,rfU,u'];refine⟨⟨λc=>by simp at c;simp[c],λc=>by simp at c;simp[c]⟩,?_⟩;rintro _ rfl;unfold fG;refine⟨λc=>by rw[F' (by simpa using c)],λc=>?_⟩;have c:¬(aC t≠0∨bZ p=false):=by simp at c;simp[c]
 have hc:aC t=0:=by simp at c;exact c.1
 have hn:=(ax hc).nr;have hpl:p.es.length≤24:=by
  have hp:bZ p=true:=by
   cases q:bZ p
   ·exact absurd (.inr q) c
   ·rfl
  unfold bZ at hp;rw[ae',R']at hp;exact hp.1.2.2
 rw[E' c];refine⟨dY.zero,?_⟩;rintro⟨i,out⟩ hX;simp only at hX ⊢;have hlen:=hX.len (b:=1) λx _=>by split<;>simp
 refine⟨λd=>⟨hX.idx,d,λx hx=>⟨λe=>⟨hX.idx,d,λy hy=>?_⟩,λe=>hX.step (by omega) hx (by rw[E' (by rw[e];simp)];simp)⟩⟩,λd=>by rw[hX.done d]⟩;rw[hx]at hy;cases hy;exact⟨hc,by omega,by omega,hX.step (by omega) hx (by rw[F' e])⟩
def HN(t:Tpl)(p:Pln):PC Tryz.prog:=pcO 10 [(.a [(.s 2),(.s 5)]),(.a [.k,.k,(.s 2)])] [Tpl.v t,Pln.v p] (.a [(.s 4),.k]) HM (fG t p) (λ_=>let ⟨I0,I1,m1,h⟩:=QX t p;⟨_,h,by kernel_rfl⟩) rfl (by kernel_rfl)
def gR(L:List Int)(p:Nat)(most:Int):(Tpl×Pln×List Tbl)×Nat:=
 (((aW L p most 0).1,(dH L (aW L p most 0).2 (aW L p most 0).1 0).1,(fG (aW L p most 0).1 (dH L (aW L p most 0).2 (aW L p most 0).1 0).1).1),(dH L (aW L p most 0).2 (aW L p most 0).1 0).2)
def okT(b:Tbl):Prop:=b.rows.length≤1000∧∀r∈b.rows,r.nx.length≤100000
def Lr(b:Tbl)(t0:Int×List Rw):NF:=⟨[rR 1 0,rR 2 1,rV 3 2,rI 4 t0.1],[.box (Tbl.v b),.box (.agg [.int 0,.int 0,.int 0,.sl 0 [] true]),vB 2 Rw.v t0.2 (λ_=>rfl)]⟩
@[reducible] def FY:Nat→Type
 | 0=>Int×List Rw
 | _=>Unit
def wn(r:Tbl):AV:=.agg [.int r.router,.int r.sub,.int r.len,.vec 0]
def wo(r:Tbl):List (Option Blk):=[some (.vec 2 (r.rows.map Rw.v))]
def FX(b:Tbl)(I0:(Int×List Rw)→Prop)(m0:(Int×List Rw)→Nat):Ax Tryz.prog FY (Tbl):=
 (.cmdL (.nilT 3 2) (.loop 0 (Lr b) I0 m0 (0,[]) [0,16,64] λ(t0:Int×List Rw) b0 =>
(.br 83 (decide (t0.1<((b.rows.map Rw.v).length:Int))) (.elI 147 Rw.v b.rows t0.1 λx1 =>
(.elI 259 Rw.v b.rows t0.1 λx2 =>
(.apX 307 AV.int [] x2.nx (0+x2.nx.length)
(.own 339 (.say (λR=>Idt (t0.2.map Rw.v) (Rf (α:=List AV) [.agg [.int x1.id,.vec 307]]
(ck (decide ((t0.2.map Rw.v).length+1≤1048576))
R))) (.app 355 (λy:AV=>y) (t0.2.map Rw.v) [.agg [.int x1.id,.vec 307]]
(.say (λR=>Rf (α:=List AV) (x2.nx.map AV.int) (Bu Rw.v t0.2 (⟨x1.id,x2.nx⟩:Rw) (t0.2.map Rw.v) (.agg [.int x1.id,.vec 307])∧Rf (Rw.v (⟨x1.id,x2.nx⟩:Rw))
R)) (.cmd (.frzV 307 355 t0.2.length Rw.v (t0.2++[(⟨x1.id,x2.nx⟩:Rw)]) (.agg [.int x1.id,.vec 307]) (⟨x1.id,x2.nx⟩:Rw) (x2.nx.map AV.int) (ae (λ_=>rfl) x2.nx)) (.bk 0 b0 (W (t0.1+1),xx t0.2 (⟨x1.id,x2.nx⟩:Rw)) [0,1,355])))))))))
(.retH (⟨b.router,b.sub,b.len,t0.2⟩:Tbl) ⟨[rR 2 1],[vB 2 Rw.v t0.2 (λ_=>rfl),.box (.agg [.int b.router,.int b.sub,.int b.len,.vec 0])]⟩ [2,1]))))
theorem Ql(b:Tbl)(h:okT b):∃I m,(FX b I m).vc wn wo b:=by
 refine⟨λs=>∃k:Nat,s.1=k∧k≤b.rows.length∧s.2=b.rows.take k,λs=>b.rows.length-s.1.toNat,?_⟩;dsimp only[FX,FY,Ax.vp,Ax.vc];simp only[vcU,rfU,u'];refine⟨⟨0,rfl,by omega,by simp⟩,?_⟩;rintro⟨i,out⟩ ⟨k,hi,hk,ho⟩;simp only at hi ho ⊢;subst hi;subst ho;have h1:=h.1
 refine⟨λc=>⟨by omega,c,λx hx=>⟨by omega,c,λy hy=>?_⟩⟩,λc=>?_⟩
 ·rw[hx]at hy;cases hy;rw[Int.toNat_natCast]at hx;have:=h.2 x (be hx);rw[aQ (n:=b.rows.length) (by omega) (by omega)];exact⟨by omega,by rw[ar'];omega,trivial,⟨k+1,rfl,by omega,(aB hx).symm⟩,by omega⟩
 ·rw[V' (by omega)]
def FZ(b:Tbl)(h:okT b):HC Tryz.prog:=hcO 45 [(.a [.k,.k,.k,(.s 2)])] [Tbl.v b] [] .k wn wo b (λ_ _=>let ⟨I0,m0,h⟩:=Ql b h;⟨_,h,by kernel_rfl⟩) (by kernel_rfl) (by simp[hcB,cC,AV.belB,allB,ez,dv,wn,wo,Tbl.v,ae (v:=Rw.v) (λ_=>rfl)])
def gX(L:List Int)(n r:Int)(x:Rw)(p:Nat):Rw×Nat:=
 if dl L p 3=false then(x,ab L p)
 else if Mod (al L (ab L p)) 4=0 then(⟨x.id,[]⟩,ab L (ab L p))
 else if Mod (al L (ab L p)) 4=1 then(⟨x.id,[r]⟩,ab L (ab L p))
 else(⟨x.id,(if W (1+Mod (al L (ab L (ab L p))) (W (n+1)))<W (1+Mod (al L (ab L (ab L (ab L p)))) n)∧W (1+Mod (al L (ab L (ab L p))) (W (n+1)))≠r∧W (1+Mod (al L (ab L (ab L (ab L p)))) n)≠r
   then [W (1+Mod (al L (ab L (ab L p))) (W (n+1))),W (1+Mod (al L (ab L (ab L (ab L p)))) n)]
   else if W (1+Mod (al L (ab L (ab L p))) (W (n+1)))≠r then [W (1+Mod (al L (ab L (ab L p))) (W (n+1)))]else x.nx)⟩,ab L (ab L (ab L (ab L p))))
def lh(L:List Int)(n r:Int):List Rw→Nat→List Rw×Nat
 | [],p=>([],p)
 | x::l,p=>((gX L n r x p).1::(lh L n r l (gX L n r x p).2).1,(lh L n r l (gX L n r x p).2).2)
def Ag(L:List Int)(n:Int)(b:Tbl)(p:Nat):Tbl×Nat:=(⟨b.router,b.sub,b.len,(lh L n b.router b.rows p).1⟩,(lh L n b.router b.rows p).2)
def i7(L:List Int)(n:Int):List Tbl→Nat→List Tbl×Nat
 | [],p=>([],p)
 | b::l,p=>((Ag L n b p).1::(i7 L n l (Ag L n b p).2).1,(i7 L n l (Ag L n b p).2).2)
def eZ(l:List Tbl):Prop:=l.length≤1000∧∀b∈l,okT b
structure qO (L:List Int) (n r:Int) (rows:List Rw) (p:Nat) (j:Nat) (q:Nat) (rs:List Rw):Prop where
  le:j≤rows.length
  ex:∃D:List Rw,D.length=j∧rs=D++rows.drop j∧(D++(lh L n r (rows.drop j) q).1,(lh L n r (rows.drop j) q).2)=lh L n r rows p
theorem qO.len{L:List Int}{n r:Int}{rows:List Rw}{p j q:Nat}{rs:List Rw}(h:qO L n r rows p j q rs):rs.length=rows.length:=by
 obtain⟨D,h1,rfl,_⟩:=h.ex;have:=h.le;rw[List.length_append,bd'];omega
theorem qO.at{L:List Int}{n r:Int}{rows:List Rw}{p j q:Nat}{rs:List Rw}(h:qO L n r rows p j q rs)(hj:j<rows.length):rs[j]?=some (rows[j]'hj):=by
 obtain⟨D,h1,rfl,_⟩:=h.ex;rw[aL' (by omega),h1,ba',aA',bx',f' hj]
theorem qO.step{L:List Int}{n r:Int}{rows:List Rw}{p j q:Nat}{rs:List Rw}(h:qO L n r rows p j q rs){x:Rw}(hx:rs[j]?=some x)(hj:j<rows.length){rs':List Rw}{q':Nat}(e1:rs'=rs.set j (gX L n r x q).1)(e2:q'=(gX L n r x q).2):qO L n r rows p (j+1) q' rs':=by
 have hx2:=h.at hj;rw[hx]at hx2;have hx2:=Z' hx2;obtain⟨D,h1,rfl,h3⟩:=h.ex;have hd:rows.drop j=x::rows.drop (j+1):=by rw[aP' hj,hx2]
 rw[hd]at h3 e1
 refine⟨hj,D++[(gX L n r x q).1],by simp[h1],?_,?_⟩
 ·rw[e1,bw' _ _ (by omega),h1,ba',cb'];simp
 ·rw[←h3,lh,e2];simp
theorem ro{α:Type}{l:List α}{j:Nat}{x:α}(h:l[j]?=some x):l.set j x=l:=by
 obtain⟨h1,h2⟩:=P'.mp h;rw[←h2];exact List.set_getElem_self h1
theorem gQ{k n:Nat}{res:List AR}{r:AV}{h':List (Option Blk)}{s s1:S3}(hw:ao k n s s1)(h:fin k n res r h' .ret s1):fin k n res r h' .ret s:=by
 obtain⟨s',g1,g2⟩:=h;exact⟨s',hw.trans g1,g2⟩
theorem ia{xs ys:List AV}(h:aD xs)(h':aD ys):aD (xs++ys):=by
 rw[jx]at *
 intro x hx
 rcases ab'.mp hx with hx|hx
 ·exact h x hx
 ·exact h' x hx
theorem mS{xs:List AV}(h:aD xs)(n:Nat):aD (xs.take n):=by
 rw[jx]at *;exact λx hx=>h x (ad' hx)
theorem mU{xs:List AV}(h:aD xs)(n:Nat):aD (xs.drop n):=by
 rw[jx]at *;exact λx hx=>h x (aC' hx)
theorem ed{es:List AV}{x:AV}(h:aD es)(hx:x.pure)(i:Nat):aD (bO es i x):=ia (ia (mS h i) ⟨hx,trivial⟩) (mU h i)
theorem eR{k m:Nat}{es:List AV}{π:Nat→Nat}(h:aD es):(Blk.vec k es).ren π=.vec k es∧(Blk.vec k es).bel m:=⟨by rw[Blk.ren,aK _ h],aG h⟩
theorem A9{α β:Type}(f:α→β)(l:List α)(i:Nat)(x:α):bO (l.map f) i (f x)=(bO l i x).map f:=by
 simp[bO]
def tB:AF:=
 ⟨95,3,[.tmp 6],
 .seq (.reg [⟨(some 6),.move (.c (.sl 0 [] true)),none⟩])
 (.seq (.reg [⟨(some 10),.move (.t 0),none⟩,⟨(some 11),.move (.t 1),none⟩,⟨(some 12),.slice 5 (.t 10) (some (.t 11)) none none,none⟩])
 (.seq (.reg [⟨(some 13),.move (.t 2),none⟩,⟨(some 14),.len (.t 13),none⟩,⟨(some 7),.move (.t 14),none⟩])
 (.seq (.seq (.reg [⟨(some 15),.move (.t 7),none⟩,⟨(some 16),.bin .eql (.t 15) (.c (.val (.int .i64 0))),none⟩])
 (.cond (.t 16) (.seq (.reg [⟨(some 17),.move (.t 0),none⟩,⟨(some 6),.move (.t 17),none⟩])
 (.ret)) (.skip)))
 (.seq (.reg [⟨(some 18),.move (.t 0),none⟩,⟨(some 19),.len (.t 18),none⟩,⟨(some 8),.move (.t 19),none⟩])
 (.seq (.seq (.reg [⟨(some 20),.move (.t 1),none⟩,⟨(some 21),.move (.t 8),none⟩,⟨(some 22),.bin .eql (.t 20) (.t 21),none⟩])
 (.cond (.t 22) (.seq (.reg [⟨(some 23),.move (.t 0),none⟩,⟨(some 24),.move (.t 2),none⟩,⟨(some 25),.append 5 40 (.t 23) (.t 24),none⟩,⟨(some 6),.move (.t 25),none⟩])
 (.ret)) (.skip)))
 (.seq (.seq (.reg [⟨(some 26),.move (.t 8),none⟩,⟨(some 27),.move (.t 7),none⟩,⟨(some 28),.bin .add (.t 26) (.t 27),none⟩,⟨(some 29),.move (.t 0),none⟩,⟨(some 30),.cap (.t 29),none⟩,⟨(some 31),.bin .gtr (.t 28) (.t 30),none⟩])
 (.cond (.t 31) (.seq (.reg [⟨(some 32),.move (.t 0),none⟩,⟨(some 33),.move (.t 1),none⟩,⟨(some 34),.slice 5 (.t 32) none (some (.t 33)) none,none⟩,⟨(some 35),.move (.t 8),none⟩,⟨(some 36),.move (.t 7),none⟩,⟨(some 37),.bin .add (.t 35) (.t 36),none⟩,⟨(some 38),.move (.t 1),none⟩,⟨(some 39),.bin .sub (.t 37) (.t 38),none⟩,⟨(some 40),.appendZ 5 40 ((.agg [(.val (.int .i64 0)),(.val (.int .i64 0)),(.val (.int .i64 0)),(.val (.int .i64 0)),(.val (.int .i64 0))])) (.t 34) (.t 39),none⟩,⟨(some 9),.move (.t 40),none⟩])
 (.seq (.reg [⟨(some 41),.move (.t 9),none⟩,⟨(some 42),.move (.t 1),none⟩,⟨(some 43),.slice 5 (.t 41) (some (.t 42)) none none,none⟩,⟨(some 44),.move (.t 2),none⟩,⟨(some 45),.copy 5 (.t 43) (.t 44),none⟩])
 (.seq (.dreg [⟨(some 46),.move (.t 9),none⟩,⟨(some 47),.move (.t 1),none⟩,⟨(some 48),.move (.t 7),none⟩,⟨(some 49),.bin .add (.t 47) (.t 48),none⟩,⟨(some 50),.slice 5 (.t 46) (some (.t 49)) none none,none⟩,⟨(some 51),.move (.t 0),none⟩,⟨(some 52),.move (.t 1),none⟩,⟨(some 53),.slice 5 (.t 51) (some (.t 52)) none none,none⟩,⟨(some 54),.copy 5 (.t 50) (.t 53),none⟩] [(4,7)])
 (.seq (.reg [⟨(some 55),.move (.t 9),none⟩,⟨(some 6),.move (.t 55),none⟩])
 (.ret))))) (.skip)))
 (.seq (.reg [⟨(some 56),.move (.t 0),none⟩,⟨(some 57),.move (.t 8),none⟩,⟨(some 58),.move (.t 7),none⟩,⟨(some 59),.bin .add (.t 57) (.t 58),none⟩,⟨(some 60),.slice 5 (.t 56) none (some (.t 59)) none,none⟩,⟨(some 0),.move (.t 60),none⟩])
 (.seq (.seq (.reg [⟨(some 61),.move (.t 2),none⟩,⟨(some 62),.move (.t 0),none⟩,⟨(some 63),.move (.t 1),none⟩,⟨(some 64),.move (.t 7),none⟩,⟨(some 65),.bin .add (.t 63) (.t 64),none⟩,⟨(some 66),.slice 5 (.t 62) (some (.t 65)) none none,none⟩,⟨(some 67),.call (.c (.func 189 [])) [(.t 61),(.t 66)],none⟩,⟨(some 68),.un .not (.t 67),none⟩])
 (.cond (.t 68) (.seq (.dreg [⟨(some 69),.move (.t 0),none⟩,⟨(some 70),.move (.t 1),none⟩,⟨(some 71),.move (.t 7),none⟩,⟨(some 72),.bin .add (.t 70) (.t 71),none⟩,⟨(some 73),.slice 5 (.t 69) (some (.t 72)) none none,none⟩,⟨(some 74),.move (.t 0),none⟩,⟨(some 75),.move (.t 1),none⟩,⟨(some 76),.slice 5 (.t 74) (some (.t 75)) none none,none⟩,⟨(some 77),.copy 5 (.t 73) (.t 76),none⟩] [(4,7)])
 (.seq (.reg [⟨(some 78),.move (.t 0),none⟩,⟨(some 79),.move (.t 1),none⟩,⟨(some 80),.slice 5 (.t 78) (some (.t 79)) none none,none⟩,⟨(some 81),.move (.t 2),none⟩,⟨(some 82),.copy 5 (.t 80) (.t 81),none⟩])
 (.seq (.reg [⟨(some 83),.move (.t 0),none⟩,⟨(some 6),.move (.t 83),none⟩])
 (.ret)))) (.skip)))
 (.seq (.reg [⟨(some 84),.move (.t 0),none⟩,⟨(some 85),.move (.t 8),none⟩,⟨(some 86),.slice 5 (.t 84) (some (.t 85)) none none,none⟩,⟨(some 87),.move (.t 2),none⟩,⟨(some 88),.copy 5 (.t 86) (.t 87),none⟩])
 (.seq (.reg [⟨(some 89),.move (.t 0),none⟩,⟨(some 90),.move (.t 1),none⟩,⟨(some 91),.slice 5 (.t 89) (some (.t 90)) none none,none⟩,⟨(some 92),.move (.t 7),none⟩,⟨(some 93),.call (.c (.func 190 [])) [(.t 91),(.t 92)],none⟩])
 (.seq (.reg [⟨(some 94),.move (.t 0),none⟩,⟨(some 6),.move (.t 94),none⟩])
 (.ret))))))))))))⟩
theorem tA:eH Tryz.prog Tryz.f174=some tB:=by kernel_rfl
theorem iU : (Tryz.f189.name == "runtime.NumGoroutine") = false ∧ Tryz.f189.body.isNone = true := ⟨by kernel_rfl, by kernel_rfl⟩
theorem na:Extern.findNext Tryz.f189=none:=by kernel_rfl
theorem nb:Extern.find Tryz.f189=some (Extern.SlicesOverlaps.overlaps #[26,26] #[4]):=by kernel_rfl
theorem mZ:sizeOf? Tryz.prog 92=some 5:=by kernel_rfl
theorem pE:Program.underlying Tryz.prog 26=some (.slice 92):=by kernel_rfl
theorem tP(es:List AV)(x:AV)(i cap:Nat)(hi:i≤es.length)(hx:x.solid=true)(h1:es.length≤cap)(h2:cap≤maxLen)(hs:es.length≤1000000)(hp:aD es∧x.pure) :
  aF Tryz.prog 174 [.vec 0,.int i,.vec 1] [.row 5 es es.length cap,.vec 5 [x]] (.vec 2) [none,none,some (.vec 5 (bO es i x))]:=by
 have hml:=aU;refine aF.walk Tryz.func174 tA (by simp[tB]) ?_;unfold tB;simp only[ei,eC,Y',al'];refine AWP.seq' ?_;refine AWP.reg' λK hK=>?_
 try simp only[ag,seval]
 refine hK _ _ _ ?_;clear hK K;refine AWP.seq' ?_;refine AWP.reg' λK hK=>?_
 try simp only[ag,seval]
 repeat (refine B' (by omega) ?_)
 refine hK _ _ _ ?_;clear hK K;refine AWP.seq' ?_;refine AWP.reg' λK hK=>?_
 try simp only[ag,seval]
 refine hK _ _ _ ?_;clear hK K;refine AWP.seq' (AWP.seq' ?_);refine AWP.reg' λK hK=>?_
 try simp only[ag,seval]
 refine hK _ _ _ ?_;clear hK K;refine AWP.cond (b:=false) rfl (λh=>by cases h) (λ_=>?_);refine AWP.skip ?_;refine AWP.seq' ?_;refine AWP.reg' λK hK=>?_
 try simp only[ag,seval]
 refine hK _ _ _ ?_;clear hK K;refine AWP.seq' (AWP.seq' ?_);refine AWP.reg' λK hK=>?_
 try simp only[ag,seval]
 refine hK _ _ _ ?_;clear hK K
 refine AWP.cond (b:=((i:Int)==(es.length:Int))) rfl (λh=>?_) (λh=>?_)
 ·have h:i=es.length:=by have:=eq_of_beq h;omega
  refine AWP.seq' ?_;refine AWP.reg' λK hK=>?_
  try simp only[ag,seval,aS,dj]
  repeat (refine B' (by omega) ?_)
  refine hK _ _ _ ?_;clear hK K
  refine AWP.ret (ik [0,1,274] [(6,.vec 2)] rfl rfl ?_ ?_ rfl (by simp) ?_ (by simp))
  ·simp only[L',forall_eq];exact⟨rfl,show(2:Nat)<3 by omega⟩
  ·refine⟨⟨?_,?_⟩,trivial⟩
   ·rw[(eR (m:=0) (ed hp.1 hp.2 i)).1];show some (Blk.vec 5 (es++[x]))=_;rw[bO,h,List.take_length,cm',bc']
   ·exact(eR (π:=id) (ed hp.1 hp.2 i)).2
  ·intro b hb
   match b,hb with
   | 0,_=>rfl
   | 1,_=>rfl
 have h:¬i=es.length:=by intro e;subst e;simp at h
 refine AWP.skip ?_;refine AWP.seq' (AWP.seq' ?_);have w1:IntKind.i64.wrap ((es.length:Int)+1)=es.length+1:=mI (by omega);refine AWP.reg' λK hK=>?_
 try simp only[ag,seval,w1]
 refine hK _ _ _ ?_;clear hK K
 refine AWP.cond (b:=decide ((cap:Int)<(es.length:Int)+1)) rfl (λh3=>?_) (λh3=>?_)
 ·have h3:cap=es.length:=by have:=G' h3;omega
  refine AWP.seq' ?_;have w2:IntKind.i64.wrap ((es.length:Int)+1-i)=es.length+1-i:=mI (by omega);have hlt:¬((es.length:Int)<(i:Int)):=by omega
  refine AWP.reg' λK hK=>?_
  try simp only[ag,seval,w1,w2,fh,Int.toNat_natCast,hlt]
  repeat (refine B' (by omega) ?_)
  refine hK _ _ _ ?_;clear hK K;have hn:((es.length:Int)+1-i).toNat=es.length+1-i:=by omega
  rw[hn];generalize hL:es.take i++List.replicate (es.length+1-i) (AV.agg [AV.val (Value.int IntKind.i64 0),AV.val (Value.int IntKind.i64 0),AV.val (Value.int IntKind.i64 0),AV.val (Value.int IntKind.i64 0),AV.val (Value.int IntKind.i64 0)])=L;have hLl:L.length=es.length+1:=by rw[←hL];simp;omega
  refine AWP.seq' ?_;have hpos:0<es.length+1:=by omega
  have hsub:(((es.length+1:Nat):Int)-(i:Int)).toNat=es.length+1-i:=by omega
  have hmin:Nat.min 1 (es.length+1-i)=1:=bv' (by omega);refine AWP.reg' λK hK=>?_
  try simp only[ag,seval,hLl,ji,lk,dj,Int.toNat_natCast,hpos,hsub,hmin]
  repeat (refine B' (by omega) ?_)
  refine hK _ _ _ ?_;clear hK K;have ht1:List.take 1 [x]=[x]:=rfl;have w3:IntKind.i64.wrap ((i:Int)+1)=i+1:=mI (by omega);generalize hM:over L i [x]=M;have hMl:M.length=es.length+1:=by rw[←hM,iV (by omega),cp'];split<;>simp at *<;>omega
  refine AWP.seq' ?_;have ha:((es.length:Int)-(i:Int)).toNat=es.length-i:=by omega
  have hb:(((es.length+1:Nat):Int)-((i:Int)+1)).toNat=es.length-i:=by omega
  have hc:((i:Int)+1).toNat=i+1:=by omega
  have hd:Nat.min (es.length-i) (es.length-i)=es.length-i:=Nat.min_self _;have he:(es.drop i).take (es.length-i)=es.drop i:=V' (by simp);have hf:(es.drop i).length=es.length-i:=bd' ..;refine AWP.dreg' λK hK=>?_
  try simp only[ag,seval,hMl,ji,lk,dj,Int.toNat_natCast,hpos,w3,ha,hb,hc,hd,he,hf]
  repeat (refine B' (by omega) ?_)
  refine⟨by rfl,hK _ _ _ ?_⟩;clear hK K;refine AWP.seq' ?_;refine AWP.reg' λK hK=>?_
  try simp only[ag,seval]
  refine hK _ _ _ ?_;clear hK K;have hfin:over M (i+1) (es.drop i)=bO es i x:=by
   have hLi:L.take i=es.take i:=by
    rw[←hL,bM' (by simp;omega),List.take_take,Nat.min_self]
   have hMi:M.take (i+1)=es.take i++[x]:=by
    have e1:(es.take i++[x]).length=i+1:=by simp;omega
    rw[←hM,over,hLi,←e1];exact List.take_left
   have hMd:M.drop (i+1+(es.drop i).length)=[]:=bo' (by rw[hMl,hf];omega);unfold over bO;rw[hMi,hMd,bc']
  refine AWP.ret (ik [0,1,466] [(6,.vec 2)] rfl rfl ?_ ?_ rfl (by simp) ?_ (by simp))
  ·simp only[L',forall_eq];exact⟨rfl,show(2:Nat)<3 by omega⟩
  ·refine⟨⟨?_,?_⟩,trivial⟩
   ·rw[(eR (m:=0) (ed hp.1 hp.2 i)).1,←hfin];rfl
   ·exact(eR (π:=id) (ed hp.1 hp.2 i)).2
  ·intro b hb
   match b,hb with
   | 0,_=>rfl
   | 1,_=>rfl
 have h3:es.length+1≤cap:=by have:=S' h3;omega
 refine AWP.skip ?_;refine AWP.seq' ?_;have hgt:((es.length:Int)<(es.length:Int)+1):=by omega
 refine AWP.reg' λK hK=>?_
 try simp only[ag,seval,w1,hgt]
 repeat (refine B' (by omega) ?_)
 refine hK _ _ _ ?_;clear hK K;have w3:IntKind.i64.wrap ((i:Int)+1)=i+1:=mI (by omega);refine AWP.seq' (AWP.seq' ?_);have hn1:((es.length:Int)+1).toNat=es.length+1:=by omega
 refine AWP.reg' λK hK=>?_
 try simp only[ag,seval,w3,Int.toNat_natCast,hn1]
 repeat (refine B' (by omega) ?_)
 refine KP rfl rfl (qf Tryz.func189 iU.1 iU.2 na nb pE mZ (by omega) rfl rfl (by omega) (by simp) (by omega)) ?_
 try simp only[ag,seval,w3]
 refine hK _ _ _ ?_;clear hK K;refine AWP.cond (b:=true) rfl (λ_=>?_) (λh=>by cases h);refine AWP.seq' ?_;have hb:(((es.length+1:Nat):Int)-((i:Int)+1)).toNat=es.length-i:=by omega
 have hc:((i:Int)+1).toNat=i+1:=by omega
 have hsub:(((es.length+1:Nat):Int)-(i:Int)).toNat=es.length+1-i:=by omega
 have hd:Nat.min (es.length+1-i) (es.length-i)=es.length-i:=Nat.min_eq_right (by omega);have he:(es.drop i).take (es.length+1-i)=es.drop i:=V' (by simp;omega);have he2:(es.drop i).take (es.length-i)=es.drop i:=V' (by simp);have hf:(es.drop i).length=es.length-i:=bd' ..;refine AWP.dreg' λK hK=>?_
 try simp only[ag,seval,w3,ji,lk,dj,Int.toNat_natCast,hb,hc,hsub,hd,he,he2,hf]
 repeat (refine B' (by omega) ?_)
 refine⟨by rfl,hK _ _ _ ?_⟩;clear hK K;have hMl:(over es (i+1) (es.drop i)).length=es.length+1:=by simp[over];omega
 have hMt:(over es (i+1) (es.drop i)).take i=es.take i:=by
  unfold over;rw[bl',bM' (by simp;omega),List.take_take,bv' (by omega)]
 have hMd:(over es (i+1) (es.drop i)).drop (i+1)=es.drop i:=by
  unfold over;have e1:(es.take (i+1)).length=i+1:=by simp;omega
  have e2:es.drop (i+1+(es.drop i).length)=[]:=bo' (by simp;omega);rw[e2,bc'];have e3:=List.drop_left (l₁:=es.take (i+1)) (l₂:=es.drop i);rw[e1]at e3;exact e3
 generalize hM:over es (i+1) (es.drop i)=M at *
 refine AWP.seq' ?_;have hsub:(((es.length+1:Nat):Int)-(i:Int)).toNat=es.length+1-i:=by omega
 have hmin:Nat.min 1 (es.length+1-i)=1:=bv' (by omega);have ht1:List.take 1 [x]=[x]:=rfl;refine AWP.reg' λK hK=>?_
 try simp only[ag,seval,hMl,ji,lk,dj,Int.toNat_natCast,hsub,hmin]
 repeat (refine B' (by omega) ?_)
 refine hK _ _ _ ?_;clear hK K;refine AWP.seq' ?_;refine AWP.reg' λK hK=>?_
 try simp only[ag,seval]
 refine hK _ _ _ ?_;clear hK K;have hfin:over M i [x]=bO es i x:=by
  unfold over bO;rw[hMt,show i+[x].length=i+1 from rfl,hMd]
 have hfl:(bO es i x).length=es.length+1:=by unfold bO;simp;omega
 rw[hfin]
 refine AWP.ret (gQ (ao.row (b:=402) (cap:=cap) (k:=5) (es:=bO es i x) (by rw[hfl];rfl)) (ik [0,1,402] [(6,.vec 2)] rfl rfl ?_ ?_ rfl (by simp) ?_ (by simp)))
 ·simp only[L',forall_eq];exact⟨rfl,show(2:Nat)<3 by omega⟩
 ·refine⟨⟨?_,?_⟩,trivial⟩
  ·rw[(eR (m:=0) (ed hp.1 hp.2 i)).1];rfl
  ·exact(eR (π:=id) (ed hp.1 hp.2 i)).2
 ·intro b hb
  match b,hb with
  | 0,_=>rfl
  | 1,_=>rfl
theorem tQ(x:AV)(hx:x.solid=true)(hp:x.pure) :
  aF Tryz.prog 174 [.vec 0,.int 0,.vec 1] [.vec 5 [],.vec 5 [x]] (.vec 2) [none,none,some (.vec 5 [x])]:=by
 have hml:=aU;refine aF.walk Tryz.func174 tA (by simp[tB]) ?_;unfold tB;simp only[ei,eC,Y',al'];refine AWP.seq' ?_;refine AWP.reg' λK hK=>?_
 try simp only[ag,seval]
 refine hK _ _ _ ?_;clear hK K;refine AWP.seq' ?_;refine AWP.reg' λK hK=>?_
 try simp only[ag,seval]
 refine hK _ _ _ ?_;clear hK K;refine AWP.seq' ?_;refine AWP.reg' λK hK=>?_
 try simp only[ag,seval]
 refine hK _ _ _ ?_;clear hK K;refine AWP.seq' (AWP.seq' ?_);refine AWP.reg' λK hK=>?_
 try simp only[ag,seval]
 refine hK _ _ _ ?_;clear hK K;refine AWP.cond (b:=false) rfl (λh=>by cases h) (λ_=>?_);refine AWP.skip ?_;refine AWP.seq' ?_;refine AWP.reg' λK hK=>?_
 try simp only[ag,seval]
 refine hK _ _ _ ?_;clear hK K;refine AWP.seq' (AWP.seq' ?_);refine AWP.reg' λK hK=>?_
 try simp only[ag,seval]
 refine hK _ _ _ ?_;clear hK K;refine AWP.cond (b:=true) rfl (λh=>?_) (λh=>by cases h);refine AWP.seq' ?_;refine AWP.reg' λK hK=>?_
 try simp only[ag,seval,aS,dj]
 repeat (refine B' (by omega) ?_)
 refine hK _ _ _ ?_;clear hK K
 refine AWP.ret (ik [0,1,274] [(6,.vec 2)] rfl rfl ?_ ?_ rfl (by simp) ?_ (by simp))
 ·simp only[L',forall_eq];exact⟨rfl,show(2:Nat)<3 by omega⟩
 ·have hp':aD [x]:=⟨hp,trivial⟩
  refine⟨⟨?_,?_⟩,trivial⟩
  ·rw[(eR (m:=0) hp').1];rfl
  ·exact(eR (π:=id) hp').2
 ·intro b hb
  match b,hb with
  | 0,_=>rfl
  | 1,_=>rfl
theorem qS(es:List AV)(x:AV)(i:Nat)(hi:i≤es.length)(hx:x.solid=true)(hs:es.length≤1000000)(hp:aD es∧x.pure) :
  aF Tryz.prog 174 [.vec 0,.int i,.vec 1] [.vec 5 es,.vec 5 [x]] (.vec 2) [none,none,some (.vec 5 (bO es i x))]:=by
 refine aF.of_row (λcap h1 h2=>tP es x i cap hi hx h1 h2 hs hp) (λh=>?_);subst h;have:i=0:=by simpa using hi
 subst this;exact tQ x hx hp.2
theorem wQ:iK Tryz.prog 174:=bx (by kernel_rfl)
def GO:AF:=
 ⟨33,3,[.tmp 6],
 .seq (.reg [⟨(some 6),.move (.c (.sl 0 [] true)),none⟩])
 (.seq (.reg [⟨(some 8),.move (.t 0),none⟩,⟨(some 9),.move (.t 1),none⟩,⟨(some 10),.move (.t 2),none⟩,⟨(some 11),.move (.t 0),none⟩,⟨(some 12),.len (.t 11),none⟩,⟨(some 13),.slice 5 (.t 8) (some (.t 9)) (some (.t 10)) (some (.t 12)),none⟩])
 (.seq (.seq (.reg [⟨(some 14),.move (.t 1),none⟩,⟨(some 15),.move (.t 2),none⟩,⟨(some 16),.bin .eql (.t 14) (.t 15),none⟩])
 (.cond (.t 16) (.seq (.reg [⟨(some 17),.move (.t 0),none⟩,⟨(some 6),.move (.t 17),none⟩])
 (.ret)) (.skip)))
 (.seq (.reg [⟨(some 18),.move (.t 0),none⟩,⟨(some 19),.len (.t 18),none⟩,⟨(some 7),.move (.t 19),none⟩])
 (.seq (.dreg [⟨(some 20),.move (.t 0),none⟩,⟨(some 21),.move (.t 1),none⟩,⟨(some 22),.slice 5 (.t 20) none (some (.t 21)) none,none⟩,⟨(some 23),.move (.t 0),none⟩,⟨(some 24),.move (.t 2),none⟩,⟨(some 25),.slice 5 (.t 23) (some (.t 24)) none none,none⟩,⟨(some 26),.append 5 40 (.t 22) (.t 25),none⟩,⟨(some 0),.move (.t 26),none⟩] [(2,5)])
 (.seq (.reg [⟨(some 27),.move (.t 0),none⟩,⟨(some 28),.move (.t 0),none⟩,⟨(some 29),.len (.t 28),none⟩,⟨(some 30),.move (.t 7),none⟩,⟨(some 31),.slice 5 (.t 27) (some (.t 29)) (some (.t 30)) none,none⟩,⟨none,.clear 5 ((.agg [(.val (.int .i64 0)),(.val (.int .i64 0)),(.val (.int .i64 0)),(.val (.int .i64 0)),(.val (.int .i64 0))])) (.t 31),none⟩])
 (.seq (.reg [⟨(some 32),.move (.t 0),none⟩,⟨(some 6),.move (.t 32),none⟩])
 (.ret)))))))⟩
theorem GN:eH Tryz.prog Tryz.f173=some GO:=by kernel_rfl
theorem wS:iK Tryz.prog 173:=bx (by kernel_rfl)
def fR{α:Type}(es:List α)(i:Nat):List α:=es.take i++es.drop (i+1)
theorem lM{es:List AV}(h:aD es)(i:Nat):aD (fR es i):=ia (mS h i) (mU h (i+1))
theorem qW(es:List AV)(i:Nat)(hi:i<es.length)(hs:es.length≤1000000)(hp:aD es) :
  aF Tryz.prog 173 [.vec 0,.int i,.int ((i+1:Nat):Int)] [.vec 5 es] (.vec 1) [none,some (.vec 5 (fR es i))]:=by
 refine aF.of_row (λcap h1 h2=>?_) (λh=>by subst h;simp at hi);have hml:=aU;refine aF.walk Tryz.func173 GN (by simp[GO]) ?_;unfold GO;simp only[ei,eC,Y',al'];have e1:((i:Int)==((i+1:Nat):Int))=false:=by simp;omega
 repeat (first
  | refine AWP.seq' ?_
  | refine AWP.skip ?_
  | (refine AWP.reg' λK hK=>?_;simp only[ag,seval,e1];(repeat (refine B' (by omega) ?_));refine hK _ _ _ ?_;clear hK K))
 refine AWP.cond (b:=false) rfl (λh=>by cases h) (λh=>?_)
 repeat (first
  | refine AWP.seq' ?_
  | refine AWP.skip ?_
  | (refine AWP.reg' λK hK=>?_;simp only[ag,seval];(repeat (refine B' (by omega) ?_));refine hK _ _ _ ?_;clear hK K))
 have g1:((es.length:Int)-((i+1:Nat):Int)).toNat=es.length-(i+1):=by omega
 have g2:((i:Int)-0).toNat=i:=by omega
 have g3:(es.drop (i+1)).take (es.length-(i+1))=es.drop (i+1):=V' (by simp);have g4:(es.drop (i+1)).length=es.length-(i+1):=bd' ..;have g5:i+(es.length-(i+1))=es.length-1:=by omega
 have g6:¬((es.length:Int)<(i:Int)):=by omega
 have g7:i+1+(es.length-(i+1))≤es.length:=by omega
 refine AWP.dreg' λK hK=>?_
 try simp only[ag,seval,aS,dj,g1,g2,g3,g4,g5,g6,g7]
 repeat (refine B' (by omega) ?_)
 refine⟨by rfl,hK _ _ _ ?_⟩;clear hK K;have hd:es.take i++es.drop (i+1)=fR es i:=rfl;have hdl:(fR es i).length=es.length-1:=by unfold fR;simp;omega
 refine AWP.seq' ?_;have g8:((es.length:Int)-((es.length-1:Nat):Int)).toNat=1:=by omega
 refine AWP.reg' λK hK=>?_
 try simp only[ag,seval,hd,hdl,g8,jk]
 repeat (refine B' (by omega) ?_)
 refine hK _ _ _ ?_;clear hK K
 repeat (first
  | refine AWP.seq' ?_
  | refine AWP.skip ?_
  | (refine AWP.reg' λK hK=>?_;simp only[ag,seval];(repeat (refine B' (by omega) ?_));refine hK _ _ _ ?_;clear hK K))
 refine AWP.ret (gQ (ao.row (b:=305) (cap:=cap) (k:=5) (es:=fR es i) (by rw[hdl];rfl)) (ik [0,305] [(6,.vec 1)] rfl rfl ?_ ?_ rfl (by simp) ?_ (by simp)))
 ·simp only[L',forall_eq];exact⟨rfl,show(1:Nat)<2 by omega⟩
 ·refine⟨⟨?_,?_⟩,trivial⟩
  ·rw[(eR (m:=0) (lM hp i)).1];rfl
  ·exact(eR (π:=id) (lM hp i)).2
 ·intro b hb
  match b,hb with
  | 0,_=>rfl
theorem Bl{α β:Type}(f:α→β)(l:List α)(i:Nat):fR (l.map f) i=(fR l i).map f:=by simp[fR]
def Qf(l:List Lnk)(i j:Int)(hi:(0≤i∧i<l.length)∧j=i+1)(hl:l.length≤1000000):HC Tryz.prog:=
 ⟨173,[.k,.k,.k],[.vec 0,.int i,.int j],[.vec 5 (l.map Lnk.v)],.vec 1,[none,some (.vec 5 ((fR l i.toNat).map Lnk.v))],by
  have h:=qW (l.map Lnk.v) i.toNat (by rw[u'];omega) (by simpa using hl) (au (ae (λ_=>rfl) l))
  rw[Bl]at h;have e1:((i.toNat:Nat):Int)=i:=by omega
  have e2:((i.toNat+1:Nat):Int)=j:=by omega
  rw[e1,e2]at h;exact h,wS,qT.of (by simp[hcB,cC,AV.belB,allB,ez,dv,ae (v:=Lnk.v) (λ_=>rfl),bv,AV.pureB])⟩
def Pq(l:List Lnk)(x:Lnk)(i:Int)(hi:0≤i∧i≤l.length)(hl:l.length≤1000000):HC Tryz.prog:=
 ⟨174,[.k,.k,.k],[.vec 0,.int i,.vec 1],[.vec 5 (l.map Lnk.v),.vec 5 [x.v]],.vec 2,[none,none,some (.vec 5 ((bO l i.toNat x).map Lnk.v))],by
  have h:=qS (l.map Lnk.v) (Lnk.v x) i.toNat (by rw[u'];omega) rfl (by simpa using hl) ⟨au (ae (λ_=>rfl) l),AV.pureB_ok rfl⟩;rw[A9]at h;have e1:((i.toNat:Nat):Int)=i:=by omega
  rw[e1]at h;exact h,wQ,qT.of (by have e:x.v.pureB=true:=rfl;simp[e,hcB,cC,AV.belB,allB,ez,dv,ae (v:=Lnk.v) (λ_=>rfl),bv,AV.pureB])⟩
def wB(r:List Lnk):AV:=.vec 0
def wC(r:List Lnk):List (Option Blk):=[some (.vec 5 (r.map Lnk.v))]
def wA(s:List Lnk):Ax Tryz.prog noS ((List Lnk)):=
 (.allB (λb1=>((s.map Lnk.v)≠[]→b1=false)) λb1 =>
(.br 48 (b1 != false) (.cmdL (.nilT 2 5) (.retH [] ⟨[rV 2 0],[.vec 5 [] rfl]⟩ [64]))
(.apX 80 Lnk.v [] s (0+s.length)
(.retH s ⟨[rV 2 0],[vB 5 Lnk.v s (λ_=>rfl)]⟩ [80]))))
theorem Qy(s:List Lnk)(h:s.length≤1000000):(wA s).vc wB wC s:=by
 dsimp only[wA,noS,Ax.vp,Ax.vc];simp only[vcU,rfU,u'];intro b hb;refine⟨λh1=>?_,λ_=>by first|omega|exact⟨by omega,trivial⟩|(trace_state;simpa using h)⟩;cases s with
 | nil=>rfl
 | cons x s=>simp at hb;simp[hb]at h1
def Qz(s:List Lnk)(h:s.length≤1000000):HC Tryz.prog:=hcO 172 [(.s 5)] [.sl 5 (s.map Lnk.v) false] [] .k wB wC s (λ_ _=>⟨(wA s),Qy s h,by kernel_rfl⟩) (by kernel_rfl) (by simp[hcB,cC,AV.belB,allB,ez,dv,wB,wC,ae (v:=Lnk.v) (λ_=>rfl)])
def Gp(r:List Rtr):AV:=.sl 2 (r.map Rtr.v) false
def w9(s:List Rtr):Ax Tryz.prog noS ((List Rtr)):=
 (.allB (λb1=>((s.map Rtr.v)≠[]→b1=false)) λb1 =>
(.br 48 (b1 != false) (.ret ([]))
(.apX 80 Rtr.v [] s (0+s.length)
(.fz 80 Rtr.v s (λ_=>rfl) (.ret (s))))))
theorem Qw(s:List Rtr)(h:s.length≤1000000):(w9 s).vp Gp s:=by
 dsimp only[w9,noS,Ax.vp,Ax.vc];simp only[vcU,rfU,u'];intro b hb;refine⟨λh1=>?_,λ_=>by first|omega|exact⟨by omega,trivial⟩|(trace_state;simpa using h)⟩;cases s with
 | nil=>rfl
 | cons x s=>simp at hb;simp[hb]at h1
def Qx(s:List Rtr)(h:s.length≤1000000):PC Tryz.prog:=pcO 171 [(.s 2)] [.sl 2 (s.map Rtr.v) false] (.s 2) Gp s (λ_=>⟨(w9 s),Qw s h,by kernel_rfl⟩) rfl (by kernel_rfl)
def AJ(t:Tpl)(r:Int):Rtr×Bool:=if mf t.rs r=true then(t.rs.getD (pB t.rs r) ⟨0,false⟩,true)else(⟨0,false⟩,false)
def Fk(r:Rtr×Bool):AV:=.tup [Rtr.v r.1,.bool r.2]
def vT(t:Tpl)(router:Int):Ax Tryz.prog noS (Rtr×Bool):=
 (.req 96 (t.rs.length≤1000000) λh1 =>
(.callP (N2 t.rs router h1)
(.br 224 (!(mf t.rs router)) (.ret ((⟨0,false⟩:Rtr),false))
(.elI 272 Rtr.v t.rs (pB t.rs router:Int) λx2 =>
(.ret (x2,true))))))
theorem PD(t:Tpl)(r:Int)(h:t.rs.length≤1000000):(vT t r).vp Fk (AJ t r):=by
 dsimp only[vT,noS,Ax.vp,Ax.vc];simp only[vcU,rfU,u'];unfold AJ;refine⟨h,λc=>by rw[E' (by simpa using c)],λc=>?_⟩;have c:mf t.rs r=true:=by simpa using c
 have hp:pB t.rs r<t.rs.length:=by
  refine U' λq=>?_;unfold mf bsH at c;rw[af' (by unfold pB at q;omega)]at c;cases c
 refine⟨by omega,by omega,λx hx=>?_⟩;rw[Int.toNat_natCast]at hx;rw[F' c,H',hx];rfl
def PE(t:Tpl)(router:Int)(h:t.rs.length≤1000000):PC Tryz.prog:=pcO 143 [(.a [(.s 2),(.s 5)]),.k] [Tpl.v t,.int router] .k Fk (AJ t router) (λ_=>⟨(vT t router),PD t router h,by kernel_rfl⟩) rfl (by kernel_rfl)
def ET(r:Bool):AV:=.bool r
def vP(t:Tpl)(router:Int):Ax Tryz.prog noS (Bool):=
 (.req 64 (t.rs.length≤1000000) λh1 =>
(.callP (PE t router h1)
(.callP (uc t)
(.br 224 (iM t) (.ret ((AJ t router).2))
(.ret (false))))))
theorem P4(t:Tpl)(r:Int)(h:t.rs.length≤1000000):(vP t r).vp ET (hs5 t r):=by
 dsimp only[vP,noS,Ax.vp,Ax.vc];simp only[vcU,rfU,u']
 refine⟨h,λc=>?_,λc=>?_⟩
 ·have hc:aC t=0:=by unfold iM at c;exact eq_of_beq c
  have e:(AJ t r).2=mf t.rs r:=by
   unfold AJ;split
   ·rename_i q;rw[q]
   ·rename_i q;simpa using q
  rw[e,(nI (ax hc).asc r).1];unfold hs5 aJ;rw[hc];rfl
 ·unfold iM at c;unfold hs5;rw[c];rfl
def EU(t:Tpl)(router:Int)(h:t.rs.length≤1000000):PC Tryz.prog:=pcO 107 [(.a [(.s 2),(.s 5)]),.k] [Tpl.v t,.int router] .k ET (hs5 t router) (λ_=>⟨(vP t router),P4 t router h,by kernel_rfl⟩) rfl (by kernel_rfl)
structure Chg where
  a:Int
  b:Int
  ca:Int
  cb:Int
  deriving DecidableEq
def Chg.v(c:Chg):AV:=.agg [.int c.a,.int c.b,.int c.ca,.int c.cb]
structure Rnk where
  r:Int
  n:Int
  deriving DecidableEq
def Rnk.v(c:Rnk):AV:=.agg [.int c.r,.int c.n]
def fO(c:Chg):Bool:=c.ca==0 && c.cb==0
def bD(c:Chg):Lnk:=if c.b<c.a then⟨c.b,c.a,c.cb,c.ca,0⟩else⟨c.a,c.b,c.ca,c.cb,0⟩
def ce(t:Tpl)(c:Chg):Tpl×Int:=
 if ¬aC t=0 then(⟨[],[]⟩,1)
 else if hs5 t c.a=false∨hs5 t c.b=false then(⟨[],[]⟩,4)
 else if c.a=c.b then(⟨[],[]⟩,8)
 else if fO c=false∧(fv c.ca=false∨fv c.cb=false)then(⟨[],[]⟩,2)
 else if fO c=true∧cN t.ls (bD c)=false then(⟨[],[]⟩,9)
 else if cN t.ls (bD c)=false∧t.ls.length=60 then(⟨[],[]⟩,3)
 else if fO c=true then(⟨t.rs,fR t.ls (aV t.ls (bD c))⟩,0)
 else if cN t.ls (bD c)=true then(⟨t.rs,t.ls.set (aV t.ls (bD c)) { bD c with w:=(t.ls.getD (aV t.ls (bD c)) ⟨0,0,0,0,0⟩).w }⟩,0)
 else(⟨t.rs,bO t.ls (aV t.ls (bD c)) (bD c)⟩,0)
theorem wG{α:Type}{lt:α→Bool}{l:List α}:∀{f i j:Nat},i≤j→bsI lt l f i j≤j
 | 0,i,j,h=>h
 | f+1,i,j,h=>by
  unfold bsI
  split
  ·split
   ·split
    ·exact wG (by omega)
    ·have:=@wG α lt l f i ((i+j) / 2) (by omega);omega
   ·exact h
  ·exact h
theorem J3(l:List Lnk)(y:Lnk):aV l y≤l.length:=wG (am' _)
def H7(t:Tpl)(c:Chg):=okL [Tpl.v t,Chg.v c]
def M8(t:Tpl)(c:Chg)(t0:Lnk):NF:=⟨[rR 2 0,rR 3 1,rR 4 2,rR 6 3],[.box (Tpl.v t),.box (Chg.v c),.box (.agg [.sl 0 [] true,.sl 0 [] true]),.box (Lnk.v t0)]⟩
def M7(t:Tpl)(c:Chg)(t0:Lnk)(t1:Bool):NF:=⟨[rR 2 0,rR 3 1,rR 4 2,rR 6 3,rB 7 t1],[.box (Tpl.v t),.box (Chg.v c),.box (.agg [.sl 0 [] true,.sl 0 [] true]),.box (Lnk.v t0)]⟩
def M6(t:Tpl)(c:Chg)(t0:Lnk)(t1:Bool)(t2:Bool):NF:=⟨[rR 2 0,rR 3 1,rR 4 2,rR 6 3,rB 7 t1,rI 8 (aV t.ls t0:Int),rB 9 (cN t.ls t0),rB 53 t2],[.box (Tpl.v t),.box (Chg.v c),.box (.agg [.sl 0 [] true,.sl 0 [] true]),.box (Lnk.v t0)]⟩
def M5(t:Tpl)(t0:Lnk)(t1:Bool)(t3:Bool):NF:=⟨[rR 2 0,rR 4 1,rR 6 2,rB 7 t1,rI 8 (aV t.ls t0:Int),rB 9 (cN t.ls t0),rB 74 t3],[.box (Tpl.v t),.box (.agg [.sl 0 [] true,.sl 0 [] true]),.box (Lnk.v t0)]⟩
def M4(t:Tpl)(t0:Lnk)(t1:Bool)(t4:Bool):NF:=⟨[rR 2 0,rR 4 1,rR 6 2,rB 7 t1,rI 8 (aV t.ls t0:Int),rB 9 (cN t.ls t0),rB 90 t4],[.box (Tpl.v t),.box (.agg [.sl 0 [] true,.sl 0 [] true]),.box (Lnk.v t0)]⟩
def M3(t:Tpl)(t0:Lnk)(t1:Bool)(t5:Bool):NF:=⟨[rR 2 0,rR 4 1,rR 6 2,rB 7 t1,rI 8 (aV t.ls t0:Int),rB 9 (cN t.ls t0),rB 97 t5],[.box (Tpl.v t),.box (.agg [.sl 0 [] true,.sl 0 [] true]),.box (Lnk.v t0)]⟩
@[reducible] def H5:Nat→Type
 | 0=>Lnk
 | 1=>Bool
 | 2=>Bool
 | 3=>Bool
 | 4=>Bool
 | 5=>Bool
 | _=>Unit
def H6(r:Tpl×Int):AV:=.tup [Tpl.v r.1,.int r.2]
def H4(t:Tpl)(c:Chg)(I0:Lnk→Prop)(I1:Lnk→Bool→Prop)(I2:Lnk→Bool→Bool→Prop)(I3:Lnk→Bool→Bool→Bool→Prop)(I4:Lnk→Bool→Bool→Bool→Bool→Prop)(I5:Lnk→Bool→Bool→Bool→Bool→Bool→Prop):Ax Tryz.prog H5 (Tpl×Int):=
 (.callP (uc t)
(.br 112 (!(iM t)) (.ret ((⟨[],[]⟩:Tpl),1))
(.pass (.join 0 (M8 t c) (λ(t0:Lnk)=>I0 t0) (λb0=>(.br 368 (decide (c.b<c.a)) (.bk 0 b0 (((⟨c.b,c.a,c.cb,c.ca,0⟩:Lnk)):Lnk) [0,16,32,256])
(.bk 0 b0 (((⟨c.a,c.b,c.ca,c.cb,0⟩:Lnk)):Lnk) [0,16,32,256]))) λ(t0:Lnk) =>
(.join 1 (M7 t c t0) (λ(t1:Bool)=>I1 t0 t1) (λb1=>(.br 68 (c.ca==0) (.bk 1 b1 ((c.cb==0):Bool) [0,1,2,3])
(.bk 1 b1 ((false):Bool) [0,1,2,3]))) λ(t1:Bool) =>
(.req 52 (t.ls.length≤1000000) λh1 =>
(.callP (N7 t.ls t0 h1)
(.pass (.join 2 (M6 t c t0 t1) (λ(t2:Bool)=>I2 t0 t1 t2) (λb2=>(.req 196 (t.rs.length≤1000000) λh2 =>
(.callP (EU t c.a h2)
(.br 244 (!(hs5 t c.a)) (.bk 2 b2 ((true):Bool) [0,1,2,3])
(.req 292 (t.rs.length≤1000000) λh3 =>
(.callP (EU t c.b h3)
(.bk 2 b2 ((!(hs5 t c.b)):Bool) [0,1,2,3]))))))) λ(t2:Bool) =>
(.br 4 t2 (.ret ((⟨[],[]⟩:Tpl),4))
(.br 100 (c.a==c.b) (.ret ((⟨[],[]⟩:Tpl),8))
(.join 3 (M5 t t0 t1) (λ(t3:Bool)=>I3 t0 t1 t2 t3) (λb3=>(.br 148 (!t1) (.callP (oP c.ca 1 1000)
(.br 228 (!(inT c.ca 1 1000)) (.bk 3 b3 ((true):Bool) [0,2,3])
(.callP (oP c.cb 1 1000)
(.bk 3 b3 ((!(inT c.cb 1 1000)):Bool) [0,2,3]))))
(.bk 3 b3 ((false):Bool) [0,2,3]))) λ(t3:Bool) =>
(.br 3 t3 (.ret ((⟨[],[]⟩:Tpl),2))
(.join 4 (M4 t t0 t1) (λ(t4:Bool)=>I4 t0 t1 t2 t3 t4) (λb4=>(.br 35 t1 (.bk 4 b4 ((!(cN t.ls t0)):Bool) [0,1,2])
(.bk 4 b4 ((false):Bool) [0,1,2]))) λ(t4:Bool) =>
(.br 3 t4 (.ret ((⟨[],[]⟩:Tpl),9))
(.join 5 (M3 t t0 t1) (λ(t5:Bool)=>I5 t0 t1 t2 t3 t4 t5) (λb5=>(.br 51 (!(cN t.ls t0)) (.bk 5 b5 ((((t.ls.map Lnk.v).length:Int)==60):Bool) [0,1,2])
(.bk 5 b5 ((false):Bool) [0,1,2]))) λ(t5:Bool) =>
(.br 3 t5 (.ret ((⟨[],[]⟩:Tpl),3))
(.req 35 (t.rs.length≤1000000) λh4 =>
(.callP (Qx t.rs h4)
(.req 83 (t.ls.length≤1000000) λh5 =>
(.callH [] (Qz t.ls h5) 83
(.br 179 t1 (.req 259 ((0≤(aV t.ls t0:Int)∧(aV t.ls t0:Int)<t.ls.length)∧(W ((aV t.ls t0:Int)+1))=(aV t.ls t0:Int)+1) λh6 =>
(.req 259 (t.ls.length≤1000000) λh7 =>
(.callH [83] (Qf t.ls (aV t.ls t0:Int) (W ((aV t.ls t0:Int)+1)) h6 h7) 259
(.fz 259 Lnk.v (fR t.ls (Int.toNat (aV t.ls t0:Int))) (λ_=>rfl) (.ret ((⟨t.rs,fR t.ls (Int.toNat (aV t.ls t0:Int))⟩:Tpl),0))))))
(.br 211 (cN t.ls t0) (.elJ 291 Lnk.v t.ls (aV t.ls t0:Int) λx8 =>
(.stJ 419 Lnk.v t.ls (aV t.ls t0:Int) (λy9=>(⟨t0.a,t0.b,t0.ca,t0.cb,x8.w⟩:Lnk)) λy9 =>
(.fz 83 Lnk.v (t.ls.set ((aV t.ls t0:Int).toNat) (⟨t0.a,t0.b,t0.ca,t0.cb,x8.w⟩:Lnk)) (λ_=>rfl) (.ret ((⟨t.rs,t.ls.set ((aV t.ls t0:Int).toNat) (⟨t0.a,t0.b,t0.ca,t0.cb,x8.w⟩:Lnk)⟩:Tpl),0)))))
(.own 275 (.req 291 (0≤(aV t.ls t0:Int)∧(aV t.ls t0:Int)≤t.ls.length) λh10 =>
(.req 291 (t.ls.length≤1000000) λh11 =>
(.callH [83,275] (Pq t.ls t0 (aV t.ls t0:Int) h10 h11) 291
(.fz 291 Lnk.v (bO t.ls (Int.toNat (aV t.ls t0:Int)) t0) (λ_=>rfl) (.ret ((⟨t.rs,bO t.ls (Int.toNat (aV t.ls t0:Int)) t0⟩:Tpl),0))))))))))))))))))))))))))))))
theorem QR(t:Tpl)(c:Chg)(ok:H7 t c):∃I0 I1 I2 I3 I4 I5,(H4 t c I0 I1 I2 I3 I4 I5).vp H6 (ce t c):=by
 refine⟨λl=>l=bD c,λl b=>l=bD c∧b=fO c,λl b u=>(l=bD c∧b=fO c)∧u=decide (hs5 t c.a=false∨hs5 t c.b=false),
  λl b _ u=>(l=bD c∧b=fO c)∧u=decide (fO c=false∧(fv c.ca=false∨fv c.cb=false)),
  λl b _ _ u=>(l=bD c∧b=fO c)∧u=decide (fO c=true∧cN t.ls (bD c)=false),
  λl b _ _ _ u=>(l=bD c∧b=fO c)∧u=decide (cN t.ls (bD c)=false∧t.ls.length=60),?_⟩
 simp only[H7,Chg.v,Tpl.v,okU,Blk.ok,az,u']at ok;dsimp only[H4,H5,Ax.vp,Ax.vc];simp only[vcU,rfU,u'];have e1:iM t=decide (aC t=0):=by unfold iM;rw[ag'];simp
 have e2:∀x,inT x 1 1000=fv x:=λx=>by unfold inT fv;rfl
 rw[e1,e2,e2];unfold ce;refine⟨λq=>by rw[F' (by simpa using q)],λq=>?_⟩;have q:aC t=0:=by simpa using q
 have hl:=(cJ q).1;have hl2:=(cJ q).2;rw[E' (by simpa using q)];refine⟨⟨λd=>by unfold bD;rw[F' d],λd=>by unfold bD;rw[E' d]⟩,?_⟩;rintro _ rfl;refine⟨⟨λd=>⟨rfl,by unfold fO;rw[d];rfl⟩,λd=>⟨rfl,by unfold fO;rw[d];rfl⟩⟩,?_⟩;rintro _ ⟨_,rfl⟩;refine⟨by omega,⟨by omega,λd=>⟨⟨rfl,rfl⟩,by rw[eq_comm,R'];exact .inl (by simpa using d)⟩,λd=>⟨by omega,⟨rfl,rfl⟩,by rw[ag',R'];simp at d ⊢;simp[d]⟩⟩,?_⟩;rintro _ ⟨_,rfl⟩;refine⟨λd=>by rw[F' (G' d)],λd=>?_⟩;rw[E' (S' d)];refine⟨λd=>by rw[F' (eq_of_beq d)],λd=>?_⟩;rw[E' (by simpa using d)]
 refine⟨⟨λd=>⟨λg=>⟨⟨rfl,rfl⟩,?_⟩,λg=>⟨⟨rfl,rfl⟩,?_⟩⟩,λd=>⟨⟨rfl,rfl⟩,?_⟩⟩,?_⟩
 ·rw[eq_comm,R'];exact⟨by simpa using d,.inl (by simpa using g)⟩
 ·rw[ag',R'];simp at d g ⊢;simp[d,g]
 ·rw[eq_comm,decide_eq_false_iff_not];simp at d;simp[d]
 rintro _ ⟨_,rfl⟩;refine⟨λd=>by rw[F' (G' d)],λd=>?_⟩;rw[E' (S' d)];refine⟨⟨λd=>⟨⟨rfl,rfl⟩,by rw[ag',R'];simp[d]⟩,λd=>⟨⟨rfl,rfl⟩,by rw[eq_comm,decide_eq_false_iff_not];simp[d]⟩⟩,?_⟩;rintro _ ⟨_,rfl⟩;refine⟨λd=>by rw[F' (G' d)],λd9=>?_⟩;rw[E' (S' d9)];have d9:=S' d9
 refine⟨⟨λd=>⟨⟨rfl,rfl⟩,?_⟩,λd=>⟨⟨rfl,rfl⟩,?_⟩⟩,?_⟩
 ·rw[ag',R',aV'];simp at d;simp[d];omega
 ·rw[eq_comm,decide_eq_false_iff_not];simp at d;simp[d]
 rintro _ ⟨_,rfl⟩;refine⟨λd=>by rw[F' (G' d)],λd=>?_⟩;rw[E' (S' d)];have hp:cN t.ls (bD c)=true→aV t.ls (bD c)<t.ls.length:=λg=>by
  refine U' λr=>?_;unfold cN bsH at g;rw[af' (by unfold aV at r;omega)]at g;cases g
 have hq:=J3 t.ls (bD c)
 refine⟨by omega,by omega,λd=>?_,λd=>⟨λg=>?_,λg=>⟨⟨by omega,by omega⟩,by omega,?_⟩⟩⟩
 ·have g:cN t.ls (bD c)=true:=by simpa[d]using d9
  have:=hp g
  refine⟨⟨⟨by omega,by omega⟩,?_⟩,by omega,?_⟩
  ·exact eF (by omega)
  ·rw[F' d,Int.toNat_natCast]
 ·have:=hp g;have r:(bif decide (0≤(aV t.ls (bD c):Int))then decide ((aV t.ls (bD c):Int)<t.ls.length)else false)=true:=by
   rw[decide_eq_true (by omega),decide_eq_true (by omega)];rfl
  refine⟨r,by omega,λx hx=>⟨r,by omega,λy hy=>?_⟩⟩;rw[Int.toNat_natCast]at hx;rw[E' (by simp[d]),F' g,Int.toNat_natCast,H',hx];rfl
 ·rw[E' (by simp[d]),E' (by simp[g]),Int.toNat_natCast]
def QS(t:Tpl)(c:Chg):PC Tryz.prog:=pcO 137 [(.a [(.s 2),(.s 5)]),.k] [Tpl.v t,Chg.v c] (.a [(.a [(.s 2),(.s 5)]),.k]) H6 (ce t c) (λok=>let ⟨I0,I1,I2,I3,I4,I5,h⟩:=QR t c ok;⟨_,h,by kernel_rfl⟩) rfl (by kernel_rfl)
def upH(t t':Tpl)(h:Hop):Bool:=(bV t h.a h.b).2 && (!(bV t' h.a h.b).2 || decide ((bV t h.a h.b).1<(bV t' h.a h.b).1))
def dnH(t t':Tpl)(h:Hop):Bool:=(bV t' h.a h.b).2 && (!(bV t h.a h.b).2 || decide ((bV t' h.a h.b).1<(bV t h.a h.b).1))
def chH(t t':Tpl)(h:Hop):Bool:=((bV t h.a h.b).2 != (bV t' h.a h.b).2) || ((bV t' h.a h.b).1 != (bV t h.a h.b).1)
def fB(c:Chg):List Hop:=[⟨c.a,c.b⟩,⟨c.b,c.a⟩]
def bt(t:Tpl)(c:Chg):Int×Tpl×List Hop×Int:=
 if ¬(ce t c).2=0 then(0,⟨[],[]⟩,[],(ce t c).2)
 else if(fB c).any (upH t (ce t c).1)=true∧(fB c).any (dnH t (ce t c).1)=true then(0,⟨[],[]⟩,[],8)
 else if(fB c).any (dnH t (ce t c).1)=true then(2,(ce t c).1,(fB c).filter (chH t (ce t c).1),0)
 else(1,t,(fB c).filter (chH t (ce t c).1),0)
def CG(t:Tpl)(c:Chg):=okL [Tpl.v t,Chg.v c]
def Ju(t:Tpl)(c:Chg)(t0:Bool×Bool×Int×List Hop):NF:=⟨[rR 2 0,rR 5 1,rV 6 2,rR 8 3,rB 9 t0.1,rB 10 t0.2.1,(37,.k,.sl 2 [.agg [.int c.a,.int c.b],.agg [.int c.b,.int c.a]] true),rI 38 2,rI 39 t0.2.2.1],[.box (Tpl.v t),.box (.agg [.sl 0 [] true,.sl 0 [] true]),vB 2 Hop.v t0.2.2.2 (λ_=>rfl),.box (Tpl.v ((ce t c).1))]⟩
def Jt(t:Tpl)(c:Chg)(t0:Bool×Bool×Int×List Hop)(x1:Hop)(t1:Bool):NF:=⟨[rR 2 0,rR 5 1,rV 6 2,rR 8 3,rB 9 t1,rB 10 t0.2.1,rR 12 4,rI 13 ((bV t x1.a x1.b).1),rB 14 ((bV t x1.a x1.b).2),rI 15 ((bV ((ce t c).1) x1.a x1.b).1),rB 16 ((bV ((ce t c).1) x1.a x1.b).2),(37,.k,.sl 2 [.agg [.int c.a,.int c.b],.agg [.int c.b,.int c.a]] true),rI 38 2,rI 39 t0.2.2.1],[.box (Tpl.v t),.box (.agg [.sl 0 [] true,.sl 0 [] true]),vB 2 Hop.v t0.2.2.2 (λ_=>rfl),.box (Tpl.v ((ce t c).1)),.box (Hop.v x1)]⟩
def Js(t:Tpl)(c:Chg)(t0:Bool×Bool×Int×List Hop)(x1:Hop)(t1:Bool)(t2:Bool):NF:=⟨[rR 2 0,rR 5 1,rV 6 2,rR 8 3,rB 9 t1,rB 10 t2,rR 12 4,rI 13 ((bV t x1.a x1.b).1),rB 14 ((bV t x1.a x1.b).2),rI 15 ((bV ((ce t c).1) x1.a x1.b).1),rB 16 ((bV ((ce t c).1) x1.a x1.b).2),(37,.k,.sl 2 [.agg [.int c.a,.int c.b],.agg [.int c.b,.int c.a]] true),rI 38 2,rI 39 t0.2.2.1],[.box (Tpl.v t),.box (.agg [.sl 0 [] true,.sl 0 [] true]),vB 2 Hop.v t0.2.2.2 (λ_=>rfl),.box (Tpl.v ((ce t c).1)),.box (Hop.v x1)]⟩
def Jr(t:Tpl)(c:Chg)(t0:Bool×Bool×Int×List Hop)(x1:Hop)(t1:Bool)(t2:Bool)(t3:Bool):NF:=⟨[rR 2 0,rR 5 1,rV 6 2,rR 8 3,rB 9 t1,rB 10 t2,rR 12 4,(37,.k,.sl 2 [.agg [.int c.a,.int c.b],.agg [.int c.b,.int c.a]] true),rI 38 2,rI 39 t0.2.2.1,rB 94 t3],[.box (Tpl.v t),.box (.agg [.sl 0 [] true,.sl 0 [] true]),vB 2 Hop.v t0.2.2.2 (λ_=>rfl),.box (Tpl.v ((ce t c).1)),.box (Hop.v x1)]⟩
def Jq(t:Tpl)(c:Chg)(t0:Bool×Bool×Int×List Hop)(t4:Bool):NF:=⟨[rR 2 0,rR 5 1,rV 6 2,rR 8 3,rB 10 t0.2.1,rB 100 t4],[.box (Tpl.v t),.box (.agg [.sl 0 [] true,.sl 0 [] true]),vB 2 Hop.v t0.2.2.2 (λ_=>rfl),.box (Tpl.v ((ce t c).1))]⟩
@[reducible] def CE:Nat→Type
 | 0=>Bool×Bool×Int×List Hop
 | 1=>Bool
 | 2=>Bool
 | 3=>Bool
 | 4=>Bool
 | _=>Unit
def CF(r:Int×Tpl×List Hop×Int):AV:=.tup [.int r.1,Tpl.v r.2.1,.sl 2 (r.2.2.1.map Hop.v) false,.int r.2.2.2]
def CD(t:Tpl)(c:Chg)(I0:(Bool×Bool×Int×List Hop)→Prop)(m0:(Bool×Bool×Int×List Hop)→Nat)(I1:Bool×Bool×Int×List Hop→Hop→Bool→Prop)(I2:Bool×Bool×Int×List Hop→Hop→Bool→Bool→Prop)(I3:Bool×Bool×Int×List Hop→Hop→Bool→Bool→Bool→Prop)(I4:Bool×Bool×Int×List Hop→Bool→Prop):Ax Tryz.prog CE (Int×Tpl×List Hop×Int):=
 (.callP (QS t c)
(.br 272 (((ce t c).2) != 0) (.ret (0,(⟨[],[]⟩:Tpl),[],(ce t c).2))
(.cmdL (.nilT 6 2) (.loop 0 (Ju t c) I0 m0 (false,false,0,[]) [0,48,512,192] λ(t0:Bool×Bool×Int×List Hop) b0 =>
(.br 20 (decide (t0.2.2.1<2)) (.el 20 Hop.v [(⟨c.a,c.b⟩:Hop),(⟨c.b,c.a⟩:Hop)] (λR=>Rf (α:=List AV) [.agg [.int c.a,.int c.b],.agg [.int c.b,.int c.a]] (ck (decide (0≤t0.2.2.1)) (ck (decide (t0.2.2.1<([(⟨c.a,c.b⟩:Hop),(⟨c.b,c.a⟩:Hop)].length:Int)))
(∀x1,[(⟨c.a,c.b⟩:Hop),(⟨c.b,c.a⟩:Hop)][t0.2.2.1.toNat]?=some x1 →
(R x1))))) λx1 =>
(.callP (ob t x1.a x1.b)
(.callP (ob ((ce t c).1) x1.a x1.b)
(.join 1 (Jt t c t0 x1) (λ(t1:Bool)=>I1 t0 x1 t1) (λb1=>(.br 468 t0.1 (.bk 1 b1 ((true):Bool) [0,1,2,3,52])
(.br 500 ((bV t x1.a x1.b).2) (.br 548 (!((bV ((ce t c).1) x1.a x1.b).2)) (.bk 1 b1 ((true):Bool) [0,1,2,3,52])
(.bk 1 b1 ((decide (((bV t x1.a x1.b).1)<((bV ((ce t c).1) x1.a x1.b).1))):Bool) [0,1,2,3,52]))
(.bk 1 b1 ((false):Bool) [0,1,2,3,52])))) λ(t1:Bool) =>
(.join 2 (Js t c t0 x1 t1) (λ(t2:Bool)=>I2 t0 x1 t1 t2) (λb2=>(.br 37 t0.2.1 (.bk 2 b2 ((true):Bool) [0,1,2,3,4])
(.br 69 ((bV ((ce t c).1) x1.a x1.b).2) (.br 117 (!((bV t x1.a x1.b).2)) (.bk 2 b2 ((true):Bool) [0,1,2,3,4])
(.bk 2 b2 ((decide (((bV ((ce t c).1) x1.a x1.b).1)<((bV t x1.a x1.b).1))):Bool) [0,1,2,3,4]))
(.bk 2 b2 ((false):Bool) [0,1,2,3,4])))) λ(t2:Bool) =>
(.join 3 (Jr t c t0 x1 t1 t2) (λ(t3:Bool)=>I3 t0 x1 t1 t2 t3) (λb3=>(.br 69 (!(((bV t x1.a x1.b).2)==((bV ((ce t c).1) x1.a x1.b).2))) (.bk 3 b3 ((true):Bool) [0,1,2,3,4])
(.bk 3 b3 ((((bV ((ce t c).1) x1.a x1.b).1) != ((bV t x1.a x1.b).1)):Bool) [0,1,2,3,4]))) λ(t3:Bool) =>
(.br 5 t3 (.apX 53 Hop.v t0.2.2.2 [x1] (t0.2.2.2.length+1)
(.bk 0 b0 (t1,t2,W (t0.2.2.1+1),t0.2.2.2++[x1]) [0,1,53,3]))
(.bk 0 b0 (t1,t2,W (t0.2.2.1+1),t0.2.2.2) [0,1,2,3]))))))))
(.pass (.join 4 (Jq t c t0) (λ(t4:Bool)=>I4 t0 t4) (λb4=>(.br 52 t0.1 (.bk 4 b4 ((t0.2.1):Bool) [0,1,2,3])
(.bk 4 b4 ((false):Bool) [0,1,2,3]))) λ(t4:Bool) =>
(.br 4 t4 (.ret (0,(⟨[],[]⟩:Tpl),[],8))
(.br 36 t0.2.1 (.fz 2 Hop.v t0.2.2.2 (λ_=>rfl) (.ret (2,(ce t c).1,t0.2.2.2,0)))
(.fz 2 Hop.v t0.2.2.2 (λ_=>rfl) (.ret (1,t,t0.2.2.2,0))))))))))))
def RedI(t t':Tpl)(l:List Hop)(s:Bool×Bool×Int×List Hop):Prop:=∃k:Nat,s.2.2.1=k∧k≤l.length∧s.1=(l.take k).any (upH t t')∧s.2.1=(l.take k).any (dnH t t')∧s.2.2.2=(l.take k).filter (chH t t')
theorem Ox(t:Tpl)(c:Chg)(ok:CG t c):∃I0 m0 I1 I2 I3 I4,(CD t c I0 m0 I1 I2 I3 I4).vp CF (bt t c):=by
 refine⟨RedI t (ce t c).1 (fB c),λs=>2-s.2.2.1.toNat,λs h u=>u=(s.1 || upH t (ce t c).1 h),λs h u d=>u=(s.1 || upH t (ce t c).1 h)∧d=(s.2.1 || dnH t (ce t c).1 h),
  λs h u d x=>(u=(s.1 || upH t (ce t c).1 h)∧d=(s.2.1 || dnH t (ce t c).1 h))∧x=chH t (ce t c).1 h,λs b=>b=(s.1 && s.2.1),?_⟩
 simp only[CG,Chg.v,Tpl.v,okU,Blk.ok,az,u']at ok;dsimp only[CD,CE,Ax.vp,Ax.vc];simp only[vcU,rfU,u'];have hl:(fB c).length=2:=rfl;refine⟨λd=>by unfold bt;rw[F' (by simpa using d)],λd=>⟨⟨0,rfl,by omega,rfl,rfl,rfl⟩,?_⟩⟩;have d:(ce t c).2=0:=by simpa using d
 rintro⟨u0,d0,_,ds⟩ ⟨k,rfl,hk,e1,e2,e3⟩;simp only at e1 e2 e3 ⊢;rw[Int.toNat_natCast]
 refine⟨λq=>⟨by omega,by simp only[Y',al'];omega,λx hx=>⟨⟨λg=>?_,λg=>⟨λg1=>⟨λg2=>?_,λg2=>?_⟩,λg1=>?_⟩⟩,?_⟩⟩,λq=>?_⟩
 ·rw[g];rfl
 ·unfold upH;rw[g1,g2];simp
 ·unfold upH;rw[g,g1,g2];rfl
 ·unfold upH;rw[g,g1];rfl
 ·rintro _ rfl
  refine⟨⟨λg=>⟨rfl,by rw[g];rfl⟩,λg=>⟨λg1=>⟨λg2=>⟨rfl,?_⟩,λg2=>⟨rfl,?_⟩⟩,λg1=>⟨rfl,?_⟩⟩⟩,?_⟩
  ·unfold dnH;rw[g1,g2];simp
  ·unfold dnH;rw[g,g1,g2];rfl
  ·unfold dnH;rw[g,g1];rfl
  rintro _ ⟨_,rfl⟩
  refine⟨⟨λg=>⟨⟨rfl,rfl⟩,?_⟩,λg=>⟨⟨rfl,rfl⟩,?_⟩⟩,?_⟩
  ·unfold chH bne;rw[g];rfl
  ·unfold chH;have g':((bV t x.a x.b).2 != (bV (ce t c).1 x.a x.b).2)=false:=g
   rw[g'];rfl
  rintro _ ⟨_,rfl⟩;have w:W ((k:Int)+1)=((k+1:Nat):Int):=aQ (n:=2) (by omega) (by omega);have hx':(fB c)[k]?=some x:=hx;have f1:∀p:Hop→Bool,((fB c).take (k+1)).any p=(((fB c).take k).any p || p x):=λp=>by rw[aB hx'];simp
  have hdl:ds.length≤2:=by rw[e3];exact aF' (bU' _ _) (by rw[ar'];omega)
  rw[w]
  refine⟨λg=>⟨by omega,⟨k+1,rfl,by omega,by simp only;rw[f1,e1],by simp only;rw[f1,e2],?_⟩,by omega⟩,λg=>⟨⟨k+1,rfl,by omega,by simp only;rw[f1,e1],by simp only;rw[f1,e2],?_⟩,by omega⟩⟩
  ·simp only;rw[aB hx',cf',e3];simp[g]
  ·simp only;rw[aB hx',cf',e3];simp[g]
 ·have hk2:(fB c).take k=fB c:=V' (by omega);rw[hk2]at e1 e2 e3;refine⟨⟨λg=>by rw[g];rfl,λg=>by rw[g];rfl⟩,?_⟩;rintro _ rfl;unfold bt;rw[E' (by simp[d])]
  refine⟨λg=>?_,λg=>⟨λg1=>?_,λg1=>?_⟩⟩
  ·rw[e1,e2]at g;rw[F' (by simpa using g)]
  ·rw[g1,e1]at g;rw[e2]at g1;rw[E' (λh=>by rw[h.1]at g;cases g),F' g1,e3]
  ·rw[e2]at g1;rw[E' (by simp[g1]),E' (by simp[g1]),e3]
def pz(t:Tpl)(c:Chg):PC Tryz.prog:=pcO 99 [(.a [(.s 2),(.s 5)]),.k] [Tpl.v t,Chg.v c] (.a [.k,(.a [(.s 2),(.s 5)]),(.s 2),.k]) CF (bt t c) (λok=>let ⟨I0,m0,I1,I2,I3,I4,h⟩:=Ox t c ok;⟨_,h,by kernel_rfl⟩) rfl (by kernel_rfl)
def Ex(r:Int×Int):AV:=.tup [.int r.1,.int r.2]
def vE(t:Tpl)(c:Chg):Ax Tryz.prog noS (Int×Int):=
 (.callP (pz t c)
(.ret ((bt t c).1,(bt t c).2.2.2)))
theorem Pl(t:Tpl)(c:Chg):(vE t c).vp Ex ((bt t c).1,(bt t c).2.2.2):=by
 dsimp only[vE,noS,Ax.vp,Ax.vc];simp only[vcU,rfU,u']
def Pm(t:Tpl)(c:Chg):PC Tryz.prog:=pcO 59 [(.a [(.s 2),(.s 5)]),.k] [Tpl.v t,Chg.v c] .k Ex ((bt t c).1,(bt t c).2.2.2) (λ_=>⟨(vE t c),Pl t c,by kernel_rfl⟩) rfl (by kernel_rfl)
structure Dst where
  r:Int
  c:Int
  deriving DecidableEq
def Dst.v(x:Dst):AV:=.agg [.int x.r,.int x.c]
def o6(h:Hop):MK:=.c [h.a,h.b]
theorem sr(x y:Hop)(h:o6 x=o6 y):x=y:=by
 cases x;cases y;unfold o6 at h;simp at h;simp[h]
def nm{β:Type}(vf:β→AV)(l:List (Hop×β))(x:Hop)(z:β):MN:=.get inferInstance o6 sr vf l x z
def DD{β:Type}(vf:β→AV)(l:List (Hop×β))(x:Hop)(v:β):MN:=.put inferInstance o6 sr vf l x v
def mh(t:Tpl)(f:Int)(r:Rtr):List Dst:=if(aX t f r.id).2=true then [⟨r.id,(aX t f r.id).1⟩]else []
def fV(t:Tpl)(f:Int):List Dst:=if aC t=0 then t.rs.flatMap (mh t f)else []
def FB(t:Tpl)(from_:Int):=okL [Tpl.v t,.int from_]
def Lb(t:Tpl)(from_:Int)(t0:Int×List Dst):NF:=⟨[(5,.k,.mp none ((cF ((mg t).out) from_).map λp:Int×Int=>MK.n p.1) ((cF ((mg t).out) from_).map λp:Int×Int=>AV.int p.2)),rV 6 0,(20,.k,.sl 2 (t.rs.map Rtr.v) false),rI 21 ((t.rs.map Rtr.v).length:Int),rI 22 t0.1],[vB 2 Dst.v t0.2 (λ_=>rfl)]⟩
@[reducible] def F8:Nat→Type
 | 0=>Int×List Dst
 | _=>Unit
def F9(r:List Dst):AV:=.sl 2 (r.map Dst.v) false
def F7(t:Tpl)(from_:Int)(I0:(Int×List Dst)→Prop)(m0:(Int×List Dst)→Nat):Ax Tryz.prog F8 ((List Dst)):=
 (.callP (Ip t)
(.br 80 (!(iM t)) (.ret ([]))
(.req 96 (aC t=0) λh1 =>
(.callP (P8 t h1)
(.req 144 (yq ((mg t).out)) λh2 =>
(.callP (Qc ((mg t).out) from_ h2)
(.cmdL (.nilT 6 2) (.loop 0 (Lb t from_) I0 m0 (0,[]) [256] λ(t0:Int×List Dst) b0 =>
(.br 17 (decide (t0.1<((t.rs.map Rtr.v).length:Int))) (.elI 17 Rtr.v t.rs t0.1 λx3 =>
(.mn 129 (jP AV.int (cF ((mg t).out) from_) x3.id 0) (.br 241 (aT (cF ((mg t).out) from_) x3.id) (.apX 337 Dst.v t0.2 [(⟨x3.id,av (cF ((mg t).out) from_) x3.id 0⟩:Dst)] (t0.2.length+1)
(.bk 0 b0 (W (t0.1+1),t0.2++[(⟨x3.id,av (cF ((mg t).out) from_) x3.id 0⟩:Dst)]) [337]))
(.bk 0 b0 (W (t0.1+1),t0.2) [0]))))
(.fz 0 Dst.v t0.2 (λ_=>rfl) (.ret (t0.2))))))))))))
theorem PU(t:Tpl)(f:Int)(ok:FB t f):∃I0 m0,(F7 t f I0 m0).vp F9 (fV t f):=by
 refine⟨λs=>dY t.rs (mh t f) s.1 s.2,λs=>t.rs.length-s.1.toNat,?_⟩;simp only[FB,Tpl.v,okU,Blk.ok,az,u']at ok;dsimp only[F7,F8,Ax.vp,Ax.vc];simp only[vcU,rfU,u'];by_cases hc:aC t=0
 case neg =>
  have hv:iM t=false:=by unfold iM;simpa using hc
  rw[hv];exact⟨λ_=>by unfold fV;rw[E' hc],λe=>by simp at e⟩
 have hv:iM t=true:=by unfold iM;rw[hc];rfl
 have hn:=(cJ hc).1;rw[hv,show(mg t).out=da t from rfl]
 refine⟨λe=>by simp at e,λ_=>⟨hc,JA hc,dY.zero,λs h=>⟨λc=>⟨h.idx,c,λx hx=>⟨λe=>?_,λe=>?_⟩⟩,λc=>?_⟩⟩⟩
 ·have hl:=h.len (b:=1) (λr _=>by unfold mh;split<;>simp);have q:mh t f x=[⟨x.id,av (cF (da t) f) x.id 0⟩]:=by unfold mh;rw[zx hc,F' e];rfl
  exact⟨by omega,h.step (by omega) hx (by rw[q])⟩
 ·have q:mh t f x=[]:=by unfold mh;rw[zx hc,E' (by rw[e];simp)]
  exact h.step (by omega) hx (by rw[q,bc'])
 ·rw[h.done c];unfold fV;rw[F' hc]
def PW(t:Tpl)(from_:Int):PC Tryz.prog:=pcO 175 [(.a [(.s 2),(.s 5)]),.k] [Tpl.v t,.int from_] (.s 2) F9 (fV t from_) (λok=>let ⟨I0,m0,h⟩:=PU t from_ ok;⟨_,h,by kernel_rfl⟩) rfl (by kernel_rfl)
theorem F6(t:Tpl)(f:Int):(fV t f).length≤24:=by
  unfold fV
  split
  · rename_i hc
    have hn:=(cJ hc).1;have:∀l:List Rtr,(l.flatMap (mh t f)).length≤l.length:=λl=>by
      induction l with
      | nil=>simp
      | cons r l ih => rw [aq', List.length_append, Y']; have : (mh t f r).length ≤ 1 := by unfold mh; split <;> simp
                       omega
    have:=this t.rs;omega
  · simp
def wi(t:Tpl)(M:List (Hop×Int))(r:Rtr):List (Hop×Int):=(fV t r.id).foldl (λm d=>ba m ⟨r.id,d.r⟩ d.c) M
def dm(t:Tpl):List (Hop×Int):=t.rs.foldl (wi t) []
def HR(t:Tpl):=okL [Tpl.v t]
def MS(t:Tpl)(t0:Int×(List (Hop×Int))):NF:=⟨[rR 1 0,(3,.k,.mref 1),(10,.k,.sl 2 (t.rs.map Rtr.v) false),rI 11 ((t.rs.map Rtr.v).length:Int),rI 12 t0.1],[.box (Tpl.v t),.map (some 2) (t0.2.map λp=>o6 p.1) (t0.2.map λp=>AV.int p.2) (ae (λ_=>rfl) _)]⟩
def MR(t:Tpl)(t0:Int×(List (Hop×Int)))(x1:Rtr)(t1:Int×(List (Hop×Int))):NF:=⟨[rR 1 0,(3,.k,.mref 1),rR 5 2,(10,.k,.sl 2 (t.rs.map Rtr.v) false),rI 11 ((t.rs.map Rtr.v).length:Int),rI 12 t0.1,(19,.k,.sl 2 ((fV t x1.id).map Dst.v) false),rI 20 (((fV t x1.id).map Dst.v).length:Int),rI 21 t1.1],[.box (Tpl.v t),.map (some 2) (t1.2.map λp=>o6 p.1) (t1.2.map λp=>AV.int p.2) (ae (λ_=>rfl) _),.box (Rtr.v x1)]⟩
@[reducible] def HP:Nat→Type
 | 0=>Int×(List (Hop×Int))
 | 1=>Int×(List (Hop×Int))
 | _=>Unit
def HQ(r:(List (Hop×Int))):AV:=.mp (some 2) (r.map λp:Hop×Int=>o6 p.1) (r.map λp:Hop×Int=>AV.int p.2)
def HO(t:Tpl)(I0:(Int×(List (Hop×Int)))→Prop)(m0:(Int×(List (Hop×Int)))→Nat)(I1:Int×(List (Hop×Int))→Rtr→(Int×(List (Hop×Int)))→Prop)(m1:Int×(List (Hop×Int))→Rtr→(Int×(List (Hop×Int)))→Nat):Ax Tryz.prog HP ((List (Hop×Int))):=
 (.loop 0 (MS t) I0 m0 (0,([]:List (Hop×Int))) [0,32] λ(t0:Int×(List (Hop×Int))) b0 =>
(.br 18 (decide (t0.1<((t.rs.map Rtr.v).length:Int))) (.elI 18 Rtr.v t.rs t0.1 λx1 =>
(.callP (PW t x1.id)
(.loop 1 (MR t t0 x1) (I1 t0 x1) (m1 t0 x1) (0,t0.2) [0,1,50] λ(t1:Int×(List (Hop×Int))) b1 =>
(.br 19 (decide (t1.1<(((fV t x1.id).map Dst.v).length:Int))) (.elI 19 Dst.v (fV t x1.id) t1.1 λx2 =>
(.mn 211 (DD AV.int t1.2 (⟨x1.id,x2.r⟩:Hop) x2.c) (.bk 1 b1 (W (t1.1+1),ba t1.2 (⟨x1.id,x2.r⟩:Hop) x2.c) [0,1,2])))
(.bk 0 b0 (W (t0.1+1),t1.2) [0,1])))))
(.say (Rf (t0.2.map λp=>AV.int p.2)) (.cmdL (.frzM 1 (t0.2.map λp=>AV.int p.2) (ae (λ_=>rfl) _)) (.ret (t0.2))))))
theorem QY(t:Tpl)(ok:HR t):∃I0 m0 I1 m1,(HO t I0 m0 I1 m1).vp HQ (dm t):=by
 refine⟨λs=>∃k:Nat,s.1=k∧k≤t.rs.length∧s.2=(t.rs.take k).foldl (wi t) [],λs=>t.rs.length-s.1.toNat,
  λs r q=>∃k:Nat,q.1=k∧k≤(fV t r.id).length∧q.2=((fV t r.id).take k).foldl (λm d=>ba m ⟨r.id,d.r⟩ d.c) s.2,λs r q=>(fV t r.id).length-q.1.toNat,?_⟩
 simp only[HR,Tpl.v,okU,Blk.ok,az,u']at ok;dsimp only[HO,HP,Ax.vp,Ax.vc];simp only[vcU,rfU,u'];refine⟨⟨0,rfl,by omega,rfl⟩,?_⟩;rintro⟨_,M⟩ ⟨k,rfl,hk,hM⟩;simp only at hM ⊢;refine⟨λc=>⟨by omega,c,λr hr=>⟨⟨0,rfl,by omega,rfl⟩,?_⟩⟩,λc=>by rw[hM,V' (by omega)];rfl⟩;rintro⟨_,N⟩ ⟨j,rfl,hj,hN⟩;simp only at hN ⊢;have hdl:=F6 t r.id
 refine⟨λd=>⟨by omega,d,λy hy=>⟨⟨j+1,aQ (n:=(fV t r.id).length) (by omega) (by omega),by omega,?_⟩,?_⟩⟩,λd=>⟨⟨k+1,aQ (n:=t.rs.length) (by omega) (by omega),by omega,?_⟩,?_⟩⟩
 ·rw[Int.toNat_natCast]at hy;rw[aB hy,be',←hN];rfl
 ·rw[aQ (n:=(fV t r.id).length) (by omega) (by omega)];omega
 ·rw[Int.toNat_natCast]at hr;rw[aB hr,be',←hM];show N=wi t M r;rw[hN,V' (by omega)];rfl
 ·rw[aQ (n:=t.rs.length) (by omega) (by omega)];omega
def wM(t:Tpl):PC Tryz.prog:=pcO 138 [(.a [(.s 2),(.s 5)])] [Tpl.v t] .k HQ (dm t) (λok=>let ⟨I0,m0,I1,m1,h⟩:=QY t ok;⟨_,h,by kernel_rfl⟩) rfl (by kernel_rfl)
structure wR (t:Tpl) (M:List (Hop×Int)):Prop where
  nd:(ap M).Nodup
  ok:∀p∈M,aX t p.1.a p.1.b=(p.2,true)
theorem La{t:Tpl}{f:Int}{d:Dst}(h:d∈fV t f):aX t f d.r=(d.c,true):=by
 unfold fV at h
 split at h
 ·obtain⟨r,_,h⟩:=bn'.mp h;unfold mh at h
  split at h
  ·rename_i e;rw[L']at h;subst h;exact Prod.ext rfl e
  ·cases h
 ·cases h
theorem PS{t:Tpl}(hc:aC t=0){f g:Int}(h:(aX t f g).2=true)(hg:aJ t g=true):⟨g,(aX t f g).1⟩∈fV t f:=by
 unfold fV;rw[F' hc];obtain⟨r,hr,e⟩:=aj'.mp hg;have e:r.id=g:=eq_of_beq e;refine bn'.mpr ⟨r,hr,?_⟩;unfold mh;rw[e,F' h];exact L'.mpr rfl
theorem wR.put{t:Tpl}{M:List (Hop×Int)}(h:wR t M){x y c:Int}(e:aX t x y=(c,true)):wR t (ba M ⟨x,y⟩ c)∧(⟨x,y⟩,c)∈ba M ⟨x,y⟩ c∧∀p∈M,p∈ba M ⟨x,y⟩ c:=by
 refine⟨⟨dw h.nd,λp hp=>?_⟩,(bM h.nd).mpr (.inl rfl),λp hp=>?_⟩
 ·rcases(bM h.nd).mp hp with rfl|⟨hp,_⟩
  ·exact e
  ·exact h.ok p hp
 ·rw[bM h.nd]
  by_cases q:p.1=⟨x,y⟩
  ·left;have:=h.ok p hp;rw[q,e]at this;exact Prod.ext q (Prod.mk.inj this).1.symm
  ·exact .inr ⟨hp,q⟩
theorem zg{t:Tpl}(x:Int):∀(l:List Dst) (M:List (Hop×Int)),(∀d∈l,aX t x d.r=(d.c,true))→wR t M →
  wR t (l.foldl (λm d=>ba m ⟨x,d.r⟩ d.c) M)∧(∀p∈M,p∈l.foldl (λm d=>ba m ⟨x,d.r⟩ d.c) M)∧∀d∈l,(⟨x,d.r⟩,d.c)∈l.foldl (λm d=>ba m ⟨x,d.r⟩ d.c) M
 | [],M,_,h=>⟨h,λp hp=>hp,λd hd=>by simp at hd⟩
 | d::l,M,hl,h=>by
  obtain⟨g1,g2,g3⟩:=h.put (hl d (by simp));obtain⟨k1,k2,k3⟩:=zg x l _ (λd hd=>hl d (by simp[hd])) g1;refine⟨k1,λp hp=>k2 p (g3 p hp),λd' hd'=>?_⟩
  rcases ah'.mp hd' with rfl|hd'
  ·exact k2 _ g2
  ·exact k3 d' hd'
theorem qt{t:Tpl}:∀(l:List Rtr) (M:List (Hop×Int)),wR t M→wR t (l.foldl (wi t) M)∧(∀p∈M,p∈l.foldl (wi t) M)∧∀r∈l,∀d∈fV t r.id,(⟨r.id,d.r⟩,d.c)∈l.foldl (wi t) M
 | [],M,h=>⟨h,λp hp=>hp,λr hr=>by simp at hr⟩
 | r::l,M,h=>by
  obtain⟨g1,g2,g3⟩:=zg r.id (fV t r.id) M (λd hd=>La hd) h;obtain⟨k1,k2,k3⟩:=qt l (wi t M r) g1;refine⟨k1,λp hp=>k2 p (g2 p hp),λr' hr' d hd=>?_⟩
  rcases ah'.mp hr' with rfl|hr'
  ·exact k2 _ (g3 d hd)
  ·exact k3 r' hr' d hd
theorem oc{t:Tpl}{x y:Int}(h:(aX t x y).2=true):aC t=0∧aJ t x=true∧aJ t y=true:=by
 unfold aX at h
 split at h
 ·cases h
 ·rename_i e;have h1:hs5 t x=true:=by simp at e;exact e.1
  have h2:hs5 t y=true:=by simp at e;exact e.2
  exact⟨(fE.mp h1).1,(fE.mp h1).2,(fE.mp h2).2⟩
theorem z6{t:Tpl}{x y:Int}(h:(aX t x y).2=false):(aX t x y).1=0:=by
 unfold aX at *
 split
 ·rfl
 ·rename_i e;rw[E' e]at h
  split
  ·rfl
  ·rename_i g;rw[E' g]at h;cases h
theorem qq(t:Tpl)(x y:Int):aT (dm t) ⟨x,y⟩=(aX t x y).2:=by
 obtain⟨g1,_,g3⟩:=qt (t:=t) t.rs [] ⟨aW',λp hp=>by simp at hp⟩;rw[ag',bW]
 constructor
 ·rintro⟨v,hv⟩;have:=g1.ok _ hv;rw[show aX t x y=_ from this]
 ·intro h;obtain⟨hc,hx,hy⟩:=oc h;obtain⟨r,hr,e⟩:=aj'.mp hx;have e:r.id=x:=eq_of_beq e;have:=g3 r hr _ (PS hc (by rw[e];exact h) hy);rw[e]at this;exact⟨_,this⟩
theorem Le(t:Tpl)(x y:Int):av (dm t) ⟨x,y⟩ 0=(aX t x y).1:=by
 obtain⟨g1,_,g3⟩:=qt (t:=t) t.rs [] ⟨aW',λp hp=>by simp at hp⟩;cases e:(aX t x y).2 with
 | false=>rw[cd (by rw[qq,e]),z6 e]
 | true =>
  have h:=bF (z:=0) (show aT (dm t) ⟨x,y⟩=true by rw[qq,e]);have:=g1.ok _ h;rw[show aX t x y=_ from this]
def lZ(m:List (Hop×Int))(x d:Int)(h:Hop)(c:Int):Bool:=aT m ⟨x,h.a⟩ && (aT m ⟨h.b,d⟩ && (W (W (av m ⟨x,h.a⟩ 0+c)+av m ⟨h.b,d⟩ 0)==av m ⟨x,d⟩ 0))
def BM(r:Bool):AV:=.bool r
def ui(m:(List (Hop×Int)))(x:Int)(d:Int)(h_:Hop)(cost:Int):Ax Tryz.prog noS (Bool):=
 (.mn 112 (nm AV.int m (⟨x,h_.a⟩:Hop) 0) (.mn 288 (nm AV.int m (⟨h_.b,d⟩:Hop) 0) (.br 416 (aT m (⟨x,h_.a⟩:Hop)) (.br 464 (aT m (⟨h_.b,d⟩:Hop)) (.mn 608 (nm AV.int m (⟨x,d⟩:Hop) 0) (.ret ((W ((W ((av m (⟨x,h_.a⟩:Hop) 0)+cost))+(av m (⟨h_.b,d⟩:Hop) 0)))==(av m (⟨x,d⟩:Hop) 0))))
(.ret (false)))
(.ret (false)))))
theorem NW(m:List (Hop×Int))(x d:Int)(h:Hop)(c:Int):(ui m x d h c).vp BM (lZ m x d h c):=by
 dsimp only[ui,noS,Ax.vp,Ax.vc];simp only[vcU,rfU,u'];unfold lZ;refine⟨λa=>⟨λb=>by rw[a,b];rfl,λb=>by rw[a,b];rfl⟩,λa=>by rw[a];rfl⟩
def c9(m:(List (Hop×Int)))(x:Int)(d:Int)(h_:Hop)(cost:Int):PC Tryz.prog:=pcO 139 [.k,.k,.k,.k,.k] [.mp (some 2) (m.map λp:Hop×Int=>o6 p.1) (m.map λp:Hop×Int=>AV.int p.2),.int x,.int d,Hop.v h_,.int cost] .k BM (lZ m x d h_ cost) (λ_=>⟨(ui m x d h_ cost),NW m x d h_ cost,by kernel_rfl⟩) rfl (by kernel_rfl)
theorem Ak{P:Program}{n:Nat}{o:Oper}{f:Nat}{tm:Nat→AV}{hp:Hp}{g:AO}{xs:List AO}(ho:cOp P o.op o.type=.call g xs)(hd:∀d,o.dst=some d→d<n)
  {fid:FuncId} {caps:List AV} (hg:evO tm g=.func fid caps) {foot:List Nat} {Qv:AV→Eff→Prop} (h:jr P n fid (xs.map (evO tm)++caps) f hp foot Qv)
  {c:Ctx} {A:Nat→Prop} {μ:Mu} {fr:Nat→Prop} {a:Act} {w:World} {K:Act→World→Prop} {Q:Exit→Act→World→Prop} (H:ay P c A μ fr tm hp n a w) (h3:∀j,j<16→fr (f+j))
  (hK:∀v e,Qv v e→∀a' w' A' μ',ay P c A' μ' (λb=>fr b∧¬(f≤b∧b<f+16)) (aH o.dst v tm) (bR e hp) n a' w'→K a' w'):o.wp P a w K Q:=by
 obtain⟨⟨fn,f1,f2,f3⟩,hcall⟩:=h;have hop:=og ho;obtain⟨g',args,ts,ho',rfl,rfl⟩:=hop;have hgr:=H.ev g';rw[hg]at hgr;obtain⟨cvs,e1,e2⟩:=hgr;have hxs:(args.toList.map (cO P)).map (evO tm)=args.toList.map λx=>evO tm (cO P x):=by rw[aZ'];rfl
 rw[hxs]at hcall;have hargs:=(H.evs args.toList).append e2;have:=hcall c A μ fr tm hp a w _ H (λ_ _=>rfl) h3 hargs;unfold Oper.wp;rw[nW ho' e1 f1 f2 f3,Oper.upon_enter];have ea:args.map a.eval++cvs.toArray=(args.toList.map a.eval++cvs).toArray:=by apply aQ';simp
 rw[ea];refine this.mono ?_;rintro e' w' ⟨v,e,hq,cv,A',μ',rfl,r1,r2⟩;exact hK v e hq _ _ _ _ (r1.put o.dst hd r2)
theorem AWP.regE{P:Program}{k n:Nat}{Q:X→S3→Prop}{s:S3}{os1 os2:List aA}{d:Option Nat}{g:AO}{xs:List AO}
  (h:evT P n os1 s.nx ⟨s.tm,s.hp⟩ (λs1 f1=>∃fid caps foot Qv,evO s1.tm g=.func fid caps∧jr P n fid (xs.map (evO s1.tm)++caps) f1 s1.hp foot Qv ∧
   ∀v e,Qv v e→evT P n os2 (f1+16) ⟨aH d v s1.tm,bR e s1.hp⟩ (λs' f=>Q .normal ⟨s'.tm,s'.hp,f⟩))):AWP P k n (.reg (os1++⟨d,.call g xs,none⟩::os2)) Q s:=by
 intro code hc c a w H;cases code<;>simp only[dU]at hc<;>try cases hc
 rename_i id ops' draw
 rcases cT hc with h'|⟨hd,h'⟩|⟨_,_,_,h'⟩
 ·cases h'
 ·subst hd;have h':os1++⟨d,.call g xs,none⟩::os2=ops'.toList.map (fg P n ops'):=AC.reg.inj h';obtain⟨h0,A,μ,hr⟩:=H;obtain⟨l1,l2,e1,rfl,e3⟩:=List.map_eq_append_iff.mp h'.symm;cases l2 with
  | nil=>cases e3
  | cons o l2 =>
   rw[aE']at e3;obtain⟨e4,rfl⟩:=List.cons.inj e3;refine wp_region_list ?_;rw[e1];refine jS (c:=c) _ (o::l2) (λs1 f1 a1 w1 A1 μ1 hK hr1=>?_) l1 s.nx ⟨s.tm,s.hp⟩ a w A μ h hr;obtain⟨fid,caps,foot,Qv,k1,k2,k3⟩:=hK
   rcases jn P n ops' o with hb|⟨gd,hg,hd,hb⟩
   ·rw[hb]at e4;cases e4
   rw[hb]at e4;obtain⟨rfl,e5,rfl⟩:o.dst=d∧cOp P o.op o.type=.call g xs∧gd=none:=by
    have e6:=aA.mk.inj e4;exact⟨e6.1,e6.2.1,e6.2.2⟩
   have hgd:o.guard=none:=by
    cases q:o.guard with
    | none=>rfl
    | some jw=>rw[q]at hg;obtain⟨j,wt⟩:=jw;simp only[fw]at hg;split at hg<;>cases hg
   unfold wpList;rw[F' (by simp[Region.wanted,hgd])];refine .inl (Ak e5 hd k1 k2 hr1 (λj _=>by omega) λv e hq a' w' A' μ' hr'=>?_);exact oW (c:=c) _ (λs' f a w A μ hK hr=>⟨⟨s'.tm,s'.hp,f⟩,hK,h0,A,μ,hr⟩) l2 (f1+16) _ a' w' A' μ' (k3 v e hq) (hr'.free λb hb=>⟨by omega,λh=>by omega⟩)
 ·cases h'
abbrev Rws:=List (Int×List Int)
def kyL(L:Rws):List MK:=L.map λp=>MK.n p.1
structure Fam (hp:Hp) (nx bm:Nat) (ns:List Nat) (L:Rws):Prop where
  hm:hp bm=some (.map none (kyL L) (ns.map AV.vec))
  ln:ns.length=L.length
  nd:ns.Nodup
  kd:(ap L).Nodup
  lt:∀b∈ns,b<nx
  bl:bm<nx
  row:∀(i:Nat) b p,ns[i]?=some b→L[i]?=some p→hp b=some (.vec 1 (p.2.map AV.int))
theorem Fam.vec{hp:Hp}{nx bm:Nat}{ns:List Nat}{L:Rws}(h:Fam hp nx bm ns L){b:Nat}(hb:b∈ns):∃es,hp b=some (.vec 1 es):=by
 obtain⟨i,hi⟩:=ac'.mp hb;have hl:=am hi;have hl':i<L.length:=by rw[←h.ln];exact hl
 exact⟨_,h.row i b _ hi (f' hl')⟩
theorem Fam.ne{hp:Hp}{nx bm:Nat}{ns:List Nat}{L:Rws}(h:Fam hp nx bm ns L){b:Nat}(hb:∀es,hp b≠some (.vec 1 es)):b ∉ ns:=λc=>by
 obtain⟨es,e⟩:=h.vec c;exact hb es e
theorem Fam.bm_no{hp:Hp}{nx bm:Nat}{ns:List Nat}{L:Rws}(h:Fam hp nx bm ns L):bm ∉ ns:=h.ne λes e=>by rw[h.hm]at e;cases e
theorem Fam.keep{hp hp':Hp}{nx nx' bm:Nat}{ns:List Nat}{L:Rws}(h:Fam hp nx bm ns L)(e:∀b,b<nx→(b=bm∨b∈ns)→hp' b=hp b)(hn:nx≤nx'):Fam hp' nx' bm ns L:=
 ⟨(e bm h.bl (.inl rfl)).trans h.hm,h.ln,h.nd,h.kd,λb hb=>bm' (h.lt b hb) hn,bm' h.bl hn,λi b p hi hp=>(e b (h.lt b (J' hi)) (.inr (J' hi))).trans (h.row i b p hi hp)⟩
theorem pU{L:Rws}{k:Int}:MK.n k∈kyL L↔k∈ap L:=by
 unfold kyL ap
 constructor
 ·intro h;obtain⟨p,hp,e⟩:=aa'.mp h;exact aa'.mpr ⟨p,hp,MK.n.inj e⟩
 ·intro h;obtain⟨p,hp,rfl⟩:=aa'.mp h;exact aa'.mpr ⟨p,hp,rfl⟩
theorem K2{L:Rws}(hn:(ap L).Nodup){k:Int}{i:Nat}{p:Int×List Int}(hp:L[i]?=some p)(e:p.1=k):(kyL L).idxOf (MK.n k)=i∧eB L k=i:=by
 have h1:(ap L)[i]?=some k:=by unfold ap;rw[I',hp,←e];rfl
 have h2:(kyL L)[i]?=some (MK.n k):=by unfold kyL;rw[I',hp,←e];rfl
 refine⟨nH ?_ h2,?_⟩
 ·have:kyL L=(ap L).map MK.n:=by unfold kyL ap;rw[aZ'];rfl
  rw[this];exact List.Pairwise.map MK.n (λa b h e=>h (MK.n.inj e)) hn
 ·obtain⟨hl,rfl⟩:=P'.mp h1;exact hn.idxOf_getElem i hl
theorem Fam.no{hp:Hp}{nx bm:Nat}{ns:List Nat}{L:Rws}(h:Fam hp nx bm ns L){k:Int}(hk:aT L k=false)(z v:AV)(kk:Option Nat) :
  cR (kyL L) (ns.map AV.vec) (MK.n k) z false=z∧dO kk (kyL L) (ns.map AV.vec) (MK.n k) v=.map kk (kyL L++[MK.n k]) (ns.map AV.vec++[v]):=by
 have hn:MK.n k ∉ kyL L:=λc=>by rw[pU]at c;unfold aT at hk;simp[c]at hk
 unfold cR dO;rw[E' hn,E' hn];exact⟨rfl,rfl⟩
theorem Fam.yes{hp:Hp}{nx bm:Nat}{ns:List Nat}{L:Rws}(h:Fam hp nx bm ns L){k:Int}(hk:aT L k=true):∃(i b:Nat),ns[i]?=some b∧L[i]?=some (k,av L k [])∧eB L k=i∧hp b=some (.vec 1 ((av L k []).map AV.int)) ∧
  (∀z,cR (kyL L) (ns.map AV.vec) (MK.n k) z false=.vec b)∧∀kk v,dO kk (kyL L) (ns.map AV.vec) (MK.n k) v=.map kk (kyL L) ((ns.map AV.vec).set i v):=by
 have hm:k∈ap L:=by unfold aT at hk;simpa using hk
 obtain⟨v,hv⟩:=kH hm;have hval:av L k []=v:=by unfold av;rw[hv]
 have hi:=am hv;have hb:ns[eB L k]?=some (ns[eB L k]'(by rw[h.ln];exact hi)):=f' _;generalize ns[eB L k]'(by rw[h.ln];exact hi)=b at hb;obtain⟨e1,_⟩:=K2 h.kd hv rfl
 refine⟨eB L k,b,hb,by rw[hval];exact hv,rfl,by rw[hval];exact h.row _ b _ hb hv,λz=>?_,λkk v=>?_⟩
 ·unfold cR;rw[F' (pU.mpr hm),e1,H',I',hb];rfl
 ·unfold dO;rw[F' (pU.mpr hm),e1]
theorem pM{L:Rws}{k:Int}(hk:aT L k=false)(v:List Int):ba L k v=L++[(k,v)]:=by
 have hn:k ∉ ap L:=λc=>by unfold aT at hk;simp[c]at hk
 unfold ba;rw[E' hn]
theorem nj{L:Rws}{k:Int}(hk:aT L k=true)(v:List Int):ba L k v=L.set (eB L k) (k,v):=by
 have hm:k∈ap L:=by unfold aT at hk;simpa using hk
 unfold ba;rw[F' hm]
theorem Fam.put_no{hp hp':Hp}{nx nx' bm f:Nat}{ns:List Nat}{L:Rws}(h:Fam hp nx bm ns L){k y:Int}(hk:aT L k=false)(hf:nx≤f)(hf':f<nx')
  (e1:hp' bm=some (.map none (kyL L++[MK.n k]) (ns.map AV.vec++[.vec f]))) (e2:hp' f=some (.vec 1 [.int y])) (e3:∀b,b<nx→b≠bm→hp' b=hp b):Fam hp' nx' bm (ns++[f]) (ba L k (av L k []++[y])):=by
 have hv:av L k []=[]:=cd hk;rw[hv,pM hk]
 refine⟨by rw[e1];simp[kyL],by simp[h.ln],?_,?_,λb hb=>?_,by have:=h.bl;omega,λi b p hi hp=>?_⟩
 ·refine bg'.mpr ⟨h.nd,by simp,λa ha b hb=>?_⟩;rw[L'.mp hb];have:=h.lt a ha;omega
 ·rw[show ap (L++[(k,[]++[y])])=ap L++[k] by simp[ap]];refine bg'.mpr ⟨h.kd,by simp,λa ha b hb=>?_⟩;rw[L'.mp hb];rintro rfl;unfold aT at hk;simp[ha]at hk
 ·rcases ab'.mp hb with hb|hb
  ·have:=h.lt b hb;omega
  ·rw[L'.mp hb];exact hf'
 ·by_cases c:i<ns.length
  ·rw[bj' c]at hi;rw[bj' (by rw[←h.ln];exact c)]at hp;have hbm:=J' hi;rw[e3 b (h.lt b hbm) (λq=>h.bm_no (q ▸ hbm))];exact h.row i b p hi hp
  ·have hl:=am hi;rw[List.length_append,List.length_singleton]at hl;obtain rfl:i=ns.length:=by omega
   rw[aL' (X' _),ba']at hi;rw[aL' (by rw[h.ln];exact X' _),h.ln,ba']at hp;cases hi;cases hp;exact e2
theorem Fam.put_yes{hp hp':Hp}{nx nx' bm f i b0:Nat}{ns:List Nat}{L:Rws}(h:Fam hp nx bm ns L){k y:Int}(hk:aT L k=true)(hi:ns[i]?=some b0)(hL:L[i]?=some (k,av L k []))(hx:eB L k=i)(hf:nx≤f)(hf':f<nx')
  (e1:hp' bm=some (.map none (kyL L) ((ns.map AV.vec).set i (.vec f)))) (e2:hp' f=some (.vec 1 ((av L k []).map AV.int++[.int y]))) (e3:∀b,b<nx→b≠bm→b≠b0→hp' b=hp b):Fam hp' nx' bm (ns.set i f) (ba L k (av L k []++[y])):=by
 rw[nj hk,hx];have hil:=am hi;have hky:kyL (L.set i (k,av L k []++[y]))=kyL L:=by
  unfold kyL;rw[bz'];refine aJ' λj=>?_;rw[ak']
  split
  ·rename_i e;subst e;rw[u',F' (am hL),I',hL];rfl
  ·rfl
 have hmk:ap (L.set i (k,av L k []++[y]))=ap L:=by
  unfold ap;rw[bz'];refine aJ' λj=>?_;rw[ak']
  split
  ·rename_i e;subst e;rw[u',F' (am hL),I',hL];rfl
  ·rfl
 refine⟨by rw[e1,hky,bz'],by simp[h.ln],?_,by rw[hmk];exact h.kd,λb hb=>?_,by have:=h.bl;omega,λj b p hj hp=>?_⟩
 ·have hset:ns.set i f=ns.take i++f::ns.drop (i+1):=by rw[bB',F' hil]
  rw[hset];have hnd:=h.nd;rw[←bV' i ns,aP' hil]at hnd;obtain⟨q1,q2,q3⟩:=bg'.mp hnd
  refine bg'.mpr ⟨q1,cv'.mpr ⟨λc=>?_,(cv'.mp q2).2⟩,λa ha b hb=>?_⟩
  ·have:=h.lt f (aC' c);omega
  ·rcases ah'.mp hb with rfl|hb
   ·have:=h.lt a (ad' ha);omega
   ·exact q3 a ha b (bb' _ hb)
 ·rcases ap' hb with hb|rfl
  ·have:=h.lt b hb;omega
  ·exact hf'
 ·rw[ak']at hj hp
  by_cases c:i=j
  ·subst c;rw[F' rfl,F' hil]at hj;rw[F' rfl,F' (am hL)]at hp;cases hj;cases hp;rw[e2];simp
  ·rw[E' c]at hj hp;have hbm:=J' hj;have hne:b≠b0:=λq=>by subst q;exact c ((List.getElem?_inj hil h.nd).mp (hi.trans hj.symm))
   rw[e3 b (h.lt b hbm) (λq=>h.bm_no (q ▸ hbm)) hne];exact h.row j b p hj hp
theorem Fam.give{k n:Nat}{tm:Nat→AV}{hp:Hp}{nx bm:Nat}{ns:List Nat}{L:Rws}(h:Fam hp nx bm ns L) :
  ∃hp',ao k n ⟨tm,hp,nx⟩ ⟨tm,hp',nx⟩∧hp' bm=some (.map none (kyL L) (L.map λp=>AV.sl 1 (p.2.map AV.int) false))∧∀b,b≠bm→b ∉ ns→hp' b=hp b:=by
 let f:Nat→Nat:=λi=>(ns[i]?).getD (nx+i)
 have hf1:∀i,i<ns.length→ns[i]?=some (f i):=λi hi=>by simp only[f];rw[f' hi];rfl
 have hf2:∀i,¬i<ns.length→f i=nx+i:=λi hi=>by simp only[f];rw[af' (by omega)];rfl
 obtain⟨hp',vs',w,a1,a2,a3,a4,a5⟩:=ao.giveRows (k:=k) (n:=n) (tm:=tm) (nx:=nx) (kk:=1) bm f (λi=>((L[i]?).elim [] (·.2)).map AV.int) (λi=>au (ae (λ_=>rfl) _)) (λi j e=>by
   by_cases ci:i<ns.length<;>by_cases cj:j<ns.length
   ·have h1:=hf1 i ci;have h2:=hf1 j cj
    rw[←e]at h2;exact(List.getElem?_inj ci h.nd).mp (h1.trans h2.symm)
   ·have h1:=h.lt _ (J' (hf1 i ci));have h2:=hf2 j cj;omega
   ·have h1:=h.lt _ (J' (hf1 j cj));have h2:=hf2 i ci;omega
   ·have h1:=hf2 i ci;have h2:=hf2 j cj;omega)
  (λi e=>by
   by_cases ci:i<ns.length
   ·exact h.bm_no (e ▸ J' (hf1 i ci))
   ·have h1:=hf2 i ci;have:=h.bl;omega) h.hm ns.length (λi hi=>⟨by rw[I',hf1 i hi];rfl,by
    have hl':i<L.length:=by rw[←h.ln];exact hi
    have hL:=f' hl';rw[h.row i _ _ (hf1 i hi) hL,hL];rfl⟩)
 refine⟨hp',w,?_,λb hb hn=>a5 b hb λi hi e=>hn (e ▸ J' (hf1 i hi))⟩;rw[a1]
 congr 2
 refine aJ' λi=>?_
 by_cases hi:i<ns.length
 ·have hl':i<L.length:=by rw[←h.ln];exact hi
  have hL:=f' hl';rw[a3 i hi,I',hL];rfl
 ·rw[af' (by rw[a2];simpa using hi),af' (by rw[u',←h.ln];omega)]
def GU:AF:=
 ⟨32,1,[.tmp 2],
 .seq (.reg [⟨(some 2),.move (.c (.val (.map none))),none⟩])
 (.seq (.reg [⟨(some 8),.mkm none,none⟩,⟨(some 3),.move (.t 8),none⟩])
 (.seq (.seq (.reg [⟨(some 9),.move (.t 0),none⟩,⟨(some 10),.rng (.t 9),none⟩])
 (.block 0 (.loop (.seq (.reg [⟨(some 11),.nxt (.t 10),none⟩,⟨(some 12),.ext 0 (.t 11),none⟩])
 (.seq (.cond (.t 12) (.skip) (.exit 0))
 (.block 1 (.seq (.reg [⟨(some 13),.ent (.t 10),none⟩,⟨(some 14),.ext 0 (.t 13),none⟩,⟨(some 15),.ext 1 (.t 13),none⟩,⟨(some 4),.move (.t 14),none⟩,⟨(some 5),.move (.t 15),none⟩])
 (.seq (.reg [⟨(some 16),.move (.t 5),none⟩,⟨(some 17),.len (.t 16),none⟩,⟨(some 18),.move (.c (.val (.int .i64 0))),none⟩])
 (.block 2 (.loop (.seq (.reg [⟨(some 19),.bin .lss (.t 18) (.t 17),none⟩])
 (.seq (.cond (.t 19) (.skip) (.exit 2))
 (.seq (.block 3 (.seq (.reg [⟨(some 20),.iaddr 1 (.t 16) (.t 18),none⟩,⟨(some 21),.load false 1 (.t 20),none⟩,⟨(some 7),.move (.t 21),none⟩])
 (.reg [⟨(some 22),.move (.t 3),none⟩,⟨(some 23),.move (.t 7),none⟩,⟨(some 24),.move (.t 3),none⟩,⟨(some 25),.move (.t 7),none⟩,⟨(some 26),.mget none ((.sl 0 [] true)) false (.t 24) (.t 25),none⟩,⟨(some 27),.move (.t 4),none⟩,⟨(some 28),.lit 1 1 (.val (.int .i64 0)) [(0,(.t 27))],none⟩,⟨(some 29),.append 1 8 (.t 26) (.t 28),none⟩,⟨none,.mset none (.t 22) (.t 23) (.t 29),none⟩])))
 (.reg [⟨(some 30),.bin .add (.t 18) (.c (.val (.int .i64 1))),none⟩,⟨(some 18),.move (.t 30),none⟩]))))))))))))))
 (.seq (.reg [⟨(some 31),.move (.t 3),none⟩,⟨(some 2),.move (.t 31),none⟩])
 (.ret))))⟩
theorem GT:eH Tryz.prog Tryz.f101=some GU:=by kernel_rfl
def pu(M:Rws)(k y:Int):Rws:=ba M k (av M k []++[y])
def j7(x:Int)(M:Rws)(l:List Int):Rws:=l.foldl (λM y=>pu M y x) M
def gw(L:Rws)(is:List Nat):Rws:=is.foldl (λM i=>j7 (L.getD i (0,[])).1 M (L.getD i (0,[])).2) []
def iG(L:Rws):Blk:=.map none (kyL L) (L.map λp=>AV.sl 1 (p.2.map AV.int) false)
theorem dR(L:Rws):aD (L.map λp=>AV.sl 1 (p.2.map AV.int) false):=au (ae (λp=>by show AV.pureB (AV.sl 1 (p.2.map AV.int) false)=true;rw[AV.pureB];first|done|exact ae (λ_=>rfl) _) _)
structure tO (L:Rws):Prop where
  len:L.length≤100
  ky:∀p∈L,Am.inK .i64 p.1
  row:∀p∈L,p.2.length≤100
  el:∀p∈L,∀y∈p.2,Am.inK .i64 y
theorem nxF{b nx:Nat}(h:b<nx):(∀k,(b=nx+k)=False)∧(∀k,(nx+k=b)=False)∧(b=nx)=False∧(nx=b)=False:=
 ⟨λk=>by simp;omega,λk=>by simp;omega,by simp;omega,by simp;omega⟩
theorem uD{M:Rws}{m:Nat}(h:∀p∈M,p.2.length≤m)(k y:Int):∀p∈pu M k y,p.2.length≤m+1:=λp hp=>by
 unfold pu at hp;have hv:(av M k []).length≤m:=by
  cases e:aT M k with
  | false=>rw[cd e];simp
  | true=>exact h _ (bF e)
 cases e:aT M k with
 | false =>
  rw[pM e]at hp
  rcases ab'.mp hp with hp|hp
  ·have:=h p hp;omega
  ·rw[L'.mp hp];simp;omega
 | true =>
  rw[nj e]at hp
  rcases ap' hp with hp|rfl
  ·have:=h p hp;omega
  ·simp;omega
theorem qn{kk:Option Nat}{f:Nat}{ρ:AO→AV}{hp:Hp}:evA (.mkm kk) f ρ hp={ c:=True,v:=.mref f,ad:=some (f,.map kk [] []) }:=rfl
structure TuI (L:Rws) (st:List Nat) (ck:Nat) (s:S3) (M:Rws) (is:List Nat):Prop where
  nx:81≤s.nx
  t3:s.tm 3=.mref 17
  t10:s.tm 10=.ref 65 0
  h0:s.hp 0=some (.mst none (kyL L) (L.map λp=>AV.sl 1 (p.2.map AV.int) false) st ck)
  hi:s.hp 65=some (.itr 0 st ck (is.map λi=>st.getD i 0))
  fam:∃ns,Fam s.hp s.nx 17 ns M
theorem BH(L:Rws)(hL:tO L):eQ Tryz.prog 101 [.mref 0] [iG L] (λr h'=>∃is:List Nat,is.Nodup∧(∀i∈is,i<L.length)∧(∀i,i<L.length→i∈is)∧r=.mref 1∧h'=[none,some (iG (gw L is))]):=by
 refine eQ.walk Tryz.func101 GT (by simp[GU]) ?_;unfold GU;simp only[ei,eC,Y',al'];refine AWP.open 0 (ak _ _ _) λst ck hs1 hs2 hn hv=>?_;have hs2:st.length=L.length:=by rw[hs2];simp[kyL]
 have hkO:∀q∈kyL L,kOk q:=λq hq=>by
  obtain⟨p,hp,rfl⟩:=aa'.mp hq;exact hL.ky p hp
 refine AWP.seq' ?_;refine AWP.reg' λK hK=>?_
 try simp only[ag,seval]
 refine hK _ _ _ ?_;clear hK K;refine AWP.seq' ?_;refine AWP.reg' λK hK=>?_
 try simp only[ag,seval,qn]
 refine hK _ _ _ ?_;clear hK K;refine AWP.seq' (AWP.seq' ?_);refine AWP.reg' λK hK=>?_
 try simp only[ag,seval]
 refine qh rfl (by simp only[aj];rfl) ?_
 try simp only[ag,seval]
 refine hK _ _ _ ?_;clear hK K;refine AWP.block ?_
 refine AWP.loopS (λt:S3×List Nat=>t.1) (λt=>(t.2.Nodup∧(∀i∈t.2,i<L.length)∧∀p∈gw L t.2,p.2.length≤100 * t.2.length)∧TuI L st ck t.1 (gw L t.2) t.2) (λt=>L.length-t.2.length) (i0:=(_,[])) ?_ ao.refl ?_
 ·refine⟨⟨aW',λi hi=>by simp at hi,λp hp=>by simp[gw]at hp⟩,?_⟩;exact⟨X' _,rfl,rfl,rfl,rfl,[],⟨rfl,rfl,aW',aW',by simp,by show 17<81;omega,by simp⟩⟩
 ·rintro⟨⟨tm,hp,nx⟩,is⟩ ⟨⟨i1,i2,i3⟩,hI⟩;obtain⟨n1,g3,g10,g0,gi,ns,hF⟩:=hI;simp only at n1 g3 g10 g0 gi hF i1 i2 i3 ⊢;refine AWP.seq' ?_;refine AWP.reg' λK hK=>?_
  try simp only[ag,seval]
  refine qi g10 gi g0 hkO (λhs=>?_) (λi q v s0 e1 e2 e3 e4=>?_)
  ·try simp only[ag,seval]
   refine hK _ _ _ ?_;clear hK K;refine AWP.seq' (AWP.cond (b:=false) rfl (λh=>by cases h) (λ_=>AWP.exit ?_));refine(show AWP _ _ _ _ _ _ from ?_);refine AWP.seq' ?_;refine AWP.reg' λK hK=>?_
   try simp only[ag,seval,g3]
   refine hK _ _ _ ?_;clear hK K;refine(show AWP _ _ _ _ _ _ from ?_);obtain⟨hp',w,h1,h2⟩:=(hF.keep (nx':=nx+16+16+16+16) (λ_ _ _=>rfl) (by omega)).give (k:=1) (n:=32) (tm:=upd (upd (upd (upd tm 11 (AV.tup [AV.bool false])) 12 (AV.bool false)) 31 (AV.mref 17)) 2 (AV.mref 17))
   refine AWP.ret ⟨_,_,⟨is,i1,i2,λi hi=>?_,rfl,rfl⟩,gQ w (ik [0,17] [(2,.mref 1)] rfl rfl ?_ ?_ rfl (by decide) ?_ (by simp))⟩
   ·have hi':i<st.length:=by omega
    have h3:=hs _ (J' (f' hi'));obtain⟨j,hj,e⟩:=aa'.mp h3;have hj':j<st.length:=by have:=i2 j hj;omega
    rw[H',f' hj']at e;have e':st[j]?=st[i]?:=by rw[f' hj',f' hi'];exact congrArg some e
    rw[←(List.getElem?_inj hj' hs1).mp e'];exact hj
   ·simp only[L',forall_eq];exact⟨rfl,show(1:Nat)<2 by omega⟩
   ·refine⟨⟨?_,?_⟩,trivial⟩
    ·show hp' 17=_;rw[h1,iG,Blk.ren,aK _ (dR _)]
    ·exact aG (dR _)
   ·intro b hb
    match b,hb with
    | 0,_=>rfl
  ·have hil:i<L.length:=by have:=am e3;omega
   have hp':L[i]?=some L[i]:=f' hil;generalize L[i]=p at hp';obtain⟨x,l⟩:=p;have e1':(kyL L)[i]?=some (MK.n x):=by rw[kyL,I',hp'];rfl
   have e2':(L.map λp=>AV.sl 1 (p.2.map AV.int) false)[i]?=some (.sl 1 (l.map AV.int) false):=by rw[I',hp'];rfl
   rw[e1']at e1;cases e1;rw[e2']at e2;cases e2;have hpm:=J' hp';have hll:=hL.row _ hpm;have hxk:=hL.ky _ hpm;have hel:=hL.el _ hpm;simp only at hll hxk hel;have hml:=aU
   try simp only[ag,seval]
   refine hK _ _ _ ?_;clear hK K;refine AWP.seq' (AWP.cond (b:=true) rfl (λ_=>?_) (λh=>by cases h));refine AWP.skip ?_;refine AWP.block (AWP.seq' ?_);refine AWP.reg' λK hK=>?_
   try simp only[ag,seval]
   refine qj (m:=0) g10 (ak _ _ _) ((ai _ _ (by decide)).trans ((ai _ _ (by decide)).trans g0)) e3 e1' e2' hxk ?_
   try simp only[ag,seval,kAV]
   refine hK _ _ _ ?_;clear hK K;refine AWP.seq' ?_;refine AWP.reg' λK hK=>?_
   try simp only[ag,seval,u']
   repeat (refine B' (by omega) ?_)
   refine hK _ _ _ ?_;clear hK K;refine AWP.block ?_;have hst:st.getD i 0=s0:=by rw[H',e3];rfl
   have hni:i ∉ is:=λc=>e4 (aa'.mpr ⟨i,c,hst⟩);have hF1:∀b,b<nx→(b=17∨b∈ns)→b≠65:=λb _ hb e=>by
    subst e
    rcases hb with h|h
    ·omega
    ·obtain⟨es,q⟩:=hF.vec h;rw[gi]at q;cases q
   refine AWP.loopS (λt:S3×Nat=>t.1) (λt=>(t.2≤l.length∧∀p∈j7 x (gw L is) (l.take t.2),p.2.length≤100 * is.length+t.2)∧TuI L st ck t.1 (j7 x (gw L is) (l.take t.2)) (is++[i]) ∧
    t.1.tm 4=.int x∧t.1.tm 16=.sl 1 (l.map AV.int) false∧t.1.tm 17=.int l.length∧t.1.tm 18=.int (t.2:Nat)) (λt=>l.length-t.2) (i0:=(_,0)) ?_ ao.refl ?_
   ·refine⟨⟨am' _,λp hp=>i3 p hp⟩,⟨by dsimp only;omega,?_,?_,?_,?_,ns,hF.keep (λb hb hn=>?_) (by dsimp only;omega)⟩,rfl,rfl,rfl,rfl⟩
    ·simp only[aj];exact g3
    ·simp only[aj];exact g10
    ·simp only[aj];exact g0
    ·simp only[aj,aI',aE',bQ',hst];rfl
    ·have:=hF1 b hb hn;simp only[aj,E' this]
   ·rintro⟨⟨tm1,hp1,nx1⟩,j⟩ ⟨⟨j1,j2⟩,⟨n1',g3',g10',g0',gi',ns',hF'⟩,t4,t16,t17,t18⟩;simp only at n1' g3' g10' g0' gi' hF' t4 t16 t17 t18 j1 j2 ⊢;refine AWP.seq' ?_;refine AWP.reg' λK hK=>?_
    try simp only[ag,seval,t17,t18]
    refine hK _ _ _ ?_;clear hK K;refine AWP.seq' ?_
    refine AWP.cond (b:=decide ((j:Int)<(l.length:Int))) rfl (λh=>?_) (λh=>?_)
    ·have h:j<l.length:=by have:=G' h;omega
     refine AWP.skip ?_;refine AWP.seq' (AWP.block (AWP.seq' ?_));have hy:l[j]?=some l[j]:=f' h;generalize l[j]=y at hy;have hge:(l.map AV.int).getD j .unk=.int y:=by rw[H',I',hy];rfl
     refine AWP.reg' λK hK=>?_
     try simp only[ag,seval,t16,t18,hge,Int.toNat_natCast,u']
     refine⟨⟨by omega,by omega⟩,?_⟩;refine hK _ _ _ ?_;clear hK K;refine(show AWP _ _ _ _ _ _ from ?_);obtain⟨f17a,f17b,f17c,f17d⟩:=nxF (show 17<nx1 by omega);generalize hM:j7 x (gw L is) (l.take j)=M at hF' j2;have hM1:j7 x (gw L is) (l.take (j+1))=pu M y x:=by rw[aB hy,←hM];unfold j7;rw[be'];rfl
     have hw:IntKind.i64.wrap ((j:Int)+1)=((j+1:Nat):Int):=jF (by omega) (by omega);obtain⟨f0,_⟩:=nxF (show 0<nx1 by omega);obtain⟨f65,_⟩:=nxF (show 65<nx1 by omega);have h0':∀k,(0=nx1+k)=False:=f0;have h65':∀k,(65=nx1+k)=False:=f65;have f17d':∀k,(nx1+k=17)=False:=f17b;cases e:aT M y with
     | false =>
      have q1:=λz v kk=>(hF'.no e z v kk).1;have q2:=λz v kk=>(hF'.no e z v kk).2;refine AWP.reg' λK hK=>?_
      try simp only[ag,seval,g3',t4,hF'.hm,bj,bJ,dI,AV.key,MK.fits,q1 _ .unk none,and_self,true_and]
      refine fF ?_
      try simp only[ag,seval,g3',t4,hF'.hm,bj,bJ,dI,AV.key,MK.fits,and_self,true_and,aS,dj,f17a,f17b,f17c,f17d,aG']
      refine⟨by decide,?_⟩;refine hK _ _ _ ?_;clear hK K;refine(show AWP _ _ _ _ _ _ from ?_);refine AWP.reg' λK hK=>?_
      try simp only[ag,seval,t18,hw]
      refine hK _ _ _ ?_;clear hK K
      refine⟨(_,j+1),⟨⟨by dsimp only;omega,?_⟩,⟨by dsimp only;omega,?_,?_,?_,?_,ns'++[nx1+176],?_⟩,?_,?_,?_,rfl⟩,by dsimp only;omega,ao.refl⟩
      ·rw[hM1];exact λp hp=>by have:=uD j2 y x p hp;dsimp only;omega
      ·simp only[aj];exact g3'
      ·simp only[aj];exact g10'
      ·simp only[aj,h0'];exact g0'
      ·simp only[aj,h65'];exact gi'
      ·rw[hM1];exact hF'.put_no e (f:=nx1+176) (by omega) (by dsimp only;omega) (by simp only[aj,↓reduceIte];exact congrArg some (q2 (.sl 0 [] true) _ none)) (by simp only[aj,f17d',↓reduceIte]) (λb hb hne=>by simp only[aj,E' hne];rw[E' (by omega)])
      ·simp only[aj];exact t4
      ·simp only[aj];exact t16
      ·simp only[aj];exact t17
     | true =>
      obtain⟨i0,b0,y1,y2,y3,y4,y5,y6⟩:=hF'.yes e;have hb0:=hF'.lt b0 (J' y1);obtain⟨b0a,b0b,_,_⟩:=nxF hb0;have hb17:(17=b0)=False:=by simp;rintro rfl;exact hF'.bm_no (J' y1)
      have hb0':(0=b0)=False:=by simp;rintro rfl;rw[g0']at y4;cases y4
      have hb65:(65=b0)=False:=by simp;rintro rfl;rw[gi']at y4;cases y4
      have hrl:=j2 _ (J' y2);simp only at hrl;have hisl:is.length≤100:=by
       have:=List.Nodup.length_le_of_subset i1 (show is ⊆ List.range L.length from λa ha=>as'.mpr (i2 a ha));rw[ch']at this;have:=hL.len;omega
      refine AWP.reg' λK hK=>?_
      try simp only[ag,seval,g3',t4,hF'.hm,bj,bJ,dI,AV.key,MK.fits,y5,and_self,true_and]
      refine fF ?_
      try simp only[ag,seval,g3',t4,hF'.hm,bj,bJ,dI,AV.key,MK.fits,and_self,true_and,aS,dj,y4,f17a,f17b,f17c,f17d,hb17,aG',u']
      refine⟨⟨by omega,by omega⟩,?_⟩;refine hK _ _ _ ?_;clear hK K;refine(show AWP _ _ _ _ _ _ from ?_);refine AWP.reg' λK hK=>?_
      try simp only[ag,seval,t18,hw]
      refine hK _ _ _ ?_;clear hK K
      refine⟨(_,j+1),⟨⟨by dsimp only;omega,?_⟩,⟨by dsimp only;omega,?_,?_,?_,?_,ns'.set i0 (nx1+176),?_⟩,?_,?_,?_,rfl⟩,by dsimp only;omega,ao.refl⟩
      ·rw[hM1];exact λp hp=>by have:=uD j2 y x p hp;dsimp only;omega
      ·simp only[aj];exact g3'
      ·simp only[aj];exact g10'
      ·simp only[aj,h0',hb0'];exact g0'
      ·simp only[aj,h65',hb65];exact gi'
      ·rw[hM1];exact hF'.put_yes e y1 y2 y3 (f:=nx1+176) (by omega) (by dsimp only;omega) (by simp only[aj,↓reduceIte];exact congrArg some (y6 none _)) (by simp only[aj,f17d',↓reduceIte]) (λb hb hne hnb=>by simp only[aj,E' hne,E' hnb];rw[E' (by omega)])
      ·simp only[aj];exact t4
      ·simp only[aj];exact t16
      ·simp only[aj];exact t17
    ·have h:j=l.length:=by have:=S' h;omega
     refine AWP.exit ?_;refine(show ∃jj:S3×List Nat,_ from ?_);have hT:gw L (is++[i])=j7 x (gw L is) (l.take j):=by
      rw[V' (by omega)];unfold gw;rw[be',aN',List.foldl_nil,H',hp'];rfl
     have hN:(is++[i]).Nodup:=bg'.mpr ⟨i1,by simp,λa ha b hb=>by rw[L'.mp hb];rintro rfl;exact hni ha⟩;have hS:∀a∈is++[i],a<L.length:=λa ha=>by
      rcases ab'.mp ha with ha|ha
      ·exact i2 a ha
      ·rw[L'.mp ha];exact hil
     have hLn:=List.Nodup.length_le_of_subset hN (show is++[i] ⊆ List.range L.length from λa ha=>as'.mpr (hS a ha));rw[ch',List.length_append,List.length_singleton]at hLn
     refine⟨(_,is++[i]),⟨⟨hN,hS,?_⟩,⟨?_,?_,?_,?_,?_,ns',?_⟩⟩,?_,ao.refl⟩
     ·dsimp only;rw[hT,List.length_append,List.length_singleton];exact λp hp=>by have:=j2 p hp;omega
     ·dsimp only;omega
     ·simp only[aj];exact g3'
     ·simp only[aj];exact g10'
     ·exact g0'
     ·exact gi'
     ·dsimp only;rw[hT];exact hF'.keep (λ_ _ _=>rfl) (by omega)
     ·dsimp only;rw[List.length_append,List.length_singleton];omega
def QC:AF:=
 ⟨33,1,[.cell 2 true 4],
 .seq (.reg [⟨(some 1),.box (.t 0),none⟩,⟨(some 2),.box (.c (.agg [(.val (.int .i64 0)),(.val (.int .i64 0)),(.val (.int .i64 0)),(.sl 0 [] true)])),none⟩])
 (.seq (.reg [⟨(some 3),.move (.c (.sl 0 [] true)),none⟩])
 (.seq (.seq (.reg [⟨(some 4),.move (.c (.val (.int .i64 0))),none⟩])
 (.block 0 (.loop (.seq (.seq (.reg [⟨(some 5),.move (.t 4),none⟩,⟨(some 6),.faddr 3 (.t 1),none⟩,⟨(some 7),.load false 1 (.t 6),none⟩,⟨(some 8),.len (.t 7),none⟩,⟨(some 9),.bin .lss (.t 5) (.t 8),none⟩])
 (.cond (.t 9) (.skip) (.exit 0)))
 (.seq (.block 1 (.dreg [⟨(some 12),.move (.t 3),none⟩,⟨(some 13),.faddr 3 (.t 1),none⟩,⟨(some 14),.load false 1 (.t 13),none⟩,⟨(some 15),.move (.t 4),none⟩,⟨(some 16),.iaddr 2 (.t 14) (.t 15),none⟩,⟨(some 17),.faddr 0 (.t 16),none⟩,⟨(some 18),.load false 1 (.t 17),none⟩,⟨(some 19),.lit 1 0 (.val (.int .i64 0)) [],none⟩,⟨(some 20),.faddr 3 (.t 1),none⟩,⟨(some 21),.load false 1 (.t 20),none⟩,⟨(some 22),.move (.t 4),none⟩,⟨(some 23),.iaddr 2 (.t 21) (.t 22),none⟩,⟨(some 24),.faddr 1 (.t 23),none⟩,⟨(some 25),.load false 1 (.t 24),none⟩,⟨(some 26),.append 1 8 (.t 19) (.t 25),none⟩,⟨(some 27),.build [(.val (.int .i64 0)),(.sl 0 [] true)] [(0,1,(.t 18)),(1,1,(.t 26))],none⟩,⟨(some 28),.lit 2 1 (.agg [(.val (.int .i64 0)),(.sl 0 [] true)]) [(0,(.t 27))],none⟩,⟨(some 29),.append 2 32 (.t 12) (.t 28),none⟩,⟨(some 3),.move (.t 29),none⟩] [(2,7),(4,7),(6,7),(2,9),(4,9),(6,9),(7,9),(2,11),(4,11),(6,11),(7,11),(2,13),(4,13),(6,13),(7,13),(2,14),(4,14),(6,14)]))
 (.reg [⟨(some 10),.move (.t 4),none⟩,⟨(some 11),.bin .add (.t 10) (.c (.val (.int .i64 1))),none⟩,⟨(some 4),.move (.t 11),none⟩]))))))
 (.seq (.reg [⟨(some 30),.move (.t 3),none⟩,⟨(some 31),.faddr 3 (.t 1),none⟩,⟨none,.store 1 (.t 31) (.t 30),none⟩])
 (.seq (.reg [⟨(some 32),.load true 4 (.t 1),none⟩,⟨none,.store 4 (.t 2) (.t 32),none⟩])
 (.ret)))))⟩
theorem Me:eH Tryz.prog Tryz.f45=some QC:=by kernel_rfl
def cpR(k bk:Nat)(i:Nat)(r:Rw):AV:=.agg [.int r.id,if i=k then .vec bk else .sl 1 (r.nx.map AV.int) false]
def cpC(k bk:Nat)(rows:List Rw)(j:Nat):List AV:=(List.range j).map λi=>cpR k bk i (rows.getD i ⟨0,[]⟩)
theorem kV(k bk:Nat)(rows:List Rw)(j:Nat):(cpC k bk rows j).length=j:=by simp[cpC]
theorem tn{k bk j:Nat}{rows:List Rw}{y:Rw}(h:rows[j]?=some y):cpC k bk rows (j+1)=cpC k bk rows j++[cpR k bk j y]:=by
 unfold cpC;rw[bT',aI',aE',bQ',H',h];rfl
theorem Qn{k bk bk' j:Nat}{rows:List Rw}(h:j≤k):cpC k bk rows j=cpC k bk' rows j:=by
 unfold cpC;refine an' λi hi=>?_;have:=as'.mp hi;unfold cpR;rw[E' (by omega),E' (by omega)]
theorem ao.giveVC{k n:Nat}{tm:Nat→AV}{hp:Hp}{nx kk kq:Nat}{vs es:List AV}{x:Int}(b0 i b:Nat)(h0:hp b0=some (.vec kq vs))(hi:vs[i]?=some (.agg [.int x,.vec b]))(hb:hp b=some (.vec kk es))(hne:b0≠b)(hx:aD es) :
  ao k n ⟨tm,hp,nx⟩ ⟨tm,upd (upd hp b none) b0 (some (.vec kq (vs.set i (.agg [.int x,.sl kk es false])))),nx⟩:=by
 refine ao.give2 b rfl (λu=>.inr aZ.refl) (λb' y hx'=>?_) (by show hp b≠none;rw[hb];simp);have hx':upd (upd hp b none) b0 (some (.vec kq (vs.set i (.agg [.int x,.sl kk es false])))) b'=some y:=hx'
 by_cases e:b'=b0
 ·subst e;rw[ak]at hx';cases hx';exact⟨hne,.inr (.inr ⟨kq,vs,_,h0,rfl,aX',cM.set hi (aZ.agg (cM.set (i:=1) (cs:=[.int x,.vec b]) rfl (aZ.vec hb hx))),λh z hz=>by
   rcases ap' hz with hz|rfl
   ·exact h z hz
   ·rfl⟩)⟩
 ·rw[ai _ _ e]at hx'
  by_cases e2:b'=b
  ·subst e2;rw[ak]at hx';cases hx'
  ·rw[ai _ _ e2]at hx';exact⟨e2,.inl hx'⟩
theorem qx(π:Nat→Nat)(k bk:Nat)(rows:List Rw)(j:Nat):cG π (cpC k bk rows j)=cpC k (π bk) rows j:=by
 unfold cpC;rw[du,aZ'];refine an' λi _=>?_;show(cpR k bk i _).ren π=cpR k (π bk) i _;unfold cpR
 by_cases c:i=k
 ·rw[F' c,F' c];rfl
 ·rw[E' c,E' c];rfl
theorem tD{m:Nat}:∀{xs:List AV},(∀x∈xs,x.bel m)→gW m xs
 | [],_=>trivial
 | x::xs,h=>⟨h x bF',tD λy hy=>h y (bb' _ hy)⟩
theorem qy{m:Nat}(k bk:Nat)(h:bk<m)(rows:List Rw)(j:Nat):gW m (cpC k bk rows j):=tD λx hx=>by
 obtain⟨i,_,rfl⟩:=aa'.mp hx;unfold cpR
 by_cases c:i=k
 ·rw[F' c];exact⟨trivial,h,trivial⟩
 ·rw[E' c];exact⟨trivial,trivial,trivial⟩
theorem HY(b:Tbl)(h:okT b)(k:Nat)(hk:k<b.rows.length):aF Tryz.prog 45 [Tbl.v b] [] (.agg [.int b.router,.int b.sub,.int b.len,.vec 0]) [some (.vec 2 (cpC k 1 b.rows b.rows.length)),some (.vec 1 ((b.rows.getD k ⟨0,[]⟩).nx.map AV.int))]:=by
 have hml:=aU;refine aF.walk Tryz.func45 Me (by simp[QC]) ?_;unfold QC;simp only[ei,eC,Y',al'];refine AWP.seq' ?_;refine AWP.reg' λK hK=>?_
 try simp only[ag,seval,Tbl.v]
 refine hK _ _ _ ?_;clear hK K;refine AWP.seq' ?_;refine AWP.reg' λK hK=>?_
 try simp only[ag,seval]
 refine hK _ _ _ ?_;clear hK K;refine(show AWP _ _ _ _ _ _ from ?_);refine AWP.weak (ao.nilvec 3 0 2 rfl (am' _)) ?_;refine AWP.seq' (AWP.seq' ?_);refine AWP.reg' λK hK=>?_
 try simp only[ag,seval]
 refine hK _ _ _ ?_;clear hK K;refine AWP.block ?_
 refine AWP.loopS (λu:S3×Nat=>u.1) (λu=>u.2≤b.rows.length∧33≤u.1.nx∧u.1.tm 1=.ref 0 0∧u.1.tm 2=.ref 16 0∧u.1.tm 4=.int (u.2:Nat) ∧
  u.1.hp 0=some (.box (.agg [.int b.router,.int b.sub,.int b.len,.sl 2 (b.rows.map Rw.v) false]))∧u.1.hp 16=some (.box (.agg [.val (.int .i64 0),.val (.int .i64 0),.val (.int .i64 0),.sl 0 [] true])) ∧
  ∃bo bk,u.1.tm 3=.vec bo∧bo<u.1.nx∧32≤bo∧u.1.hp bo=some (.vec 2 (cpC k bk b.rows u.2))∧(k<u.2→bk<u.1.nx∧32≤bk∧bk≠bo∧u.1.hp bk=some (.vec 1 ((b.rows.getD k ⟨0,[]⟩).nx.map AV.int)))) (λu=>b.rows.length-u.2) (i0:=(_,0)) ?_ ao.refl ?_
 ·refine⟨am' _,by dsimp only;omega,rfl,rfl,rfl,rfl,rfl,_,0,rfl,by dsimp only;omega,by omega,?_,λh=>by omega⟩;rfl
 ·rintro⟨⟨tm,hp,nx⟩,j⟩ ⟨j1,n1,t1,t2,t4,h0,h16,bo,bk,t3,o1,o2,o3,o4⟩;simp only at j1 n1 t1 t2 t4 h0 h16 t3 o1 o2 o3 o4 ⊢;refine AWP.seq' (AWP.seq' ?_);obtain⟨f0,f0',_,_⟩:=nxF (show 0<nx by omega);refine AWP.reg' λK hK=>?_
  try simp only[ag,seval,t1,t4,h0,f0,u']
  refine hK _ _ _ ?_;clear hK K
  refine AWP.cond (b:=decide ((j:Int)<(b.rows.length:Int))) rfl (λe=>?_) (λe=>?_)
  ·have e:j<b.rows.length:=by have:=G' e;omega
   refine AWP.skip ?_;refine AWP.seq' (AWP.block ?_);have hy:b.rows[j]?=some b.rows[j]:=f' e;generalize b.rows[j]=y at hy;have hge:(b.rows.map Rw.v).getD j .unk=.agg [.int y.id,.sl 1 (y.nx.map AV.int) false]:=by rw[H',I',hy];rfl
   obtain⟨fo,fo',_,_⟩:=nxF o1;refine AWP.dreg' λK hK=>?_
   try simp only[ag,seval,t1,t3,t4,h0,f0,f0',fo,fo',hge,o3,Int.toNat_natCast,u',aG']
   refine⟨⟨by omega,by omega⟩,?_⟩;refine c7 ?_
   try simp only[ag,seval,t1,t3,t4,h0,f0,f0',fo,fo',hge,o3,aS,dj,Int.toNat_natCast,u',aG']
   have hyl:=h.2 y (J' hy);refine⟨⟨by omega,by omega⟩,⟨by omega,by omega⟩,?_⟩;refine F0 ?_
   try simp only[ag,seval,evL,t1,t3,t4,h0,f0,f0',fo,fo',hge,o3,aS,dj,Int.toNat_natCast,u',aG']
   rw[kV];have hw:IntKind.i64.wrap ((j:Int)+1)=((j+1:Nat):Int):=jF (by have:=h.1;omega) (by have:=h.1;omega);have hb1:=h.1;refine⟨⟨by omega,by omega⟩,?_⟩
   refine⟨?_,hK _ _ _ ?_⟩
   ·simp[eG,jg,bi,AOp.opers,aL,f0,f0',fo,fo']
   clear hK K;refine(show AWP _ _ _ _ _ _ from ?_);refine AWP.reg' λK hK=>?_
   try simp only[ag,seval,t4,hw,aG']
   refine hK _ _ _ ?_;clear hK K;have hbo16:(16:Nat)≠bo:=by omega
   have hf1:∀v:Nat,1≤v→(nx+v=bo)=False:=λv _=>by simp;omega
   by_cases c:j=k
   ·subst c
    refine⟨(_,j+1),⟨by dsimp only;omega,by dsimp only;omega,?_,?_,rfl,?_,?_,nx+352,nx+304,rfl,by dsimp only;omega,by omega,?_,λ_=>⟨by dsimp only;omega,by omega,by omega,?_⟩⟩,by dsimp only;omega,ao.refl⟩
    ·simp only[aj];exact t1
    ·simp only[aj];exact t2
    ·simp only[aj];rw[E' (by omega),E' (by omega),E' (by omega),E' (by omega)];exact h0
    ·simp only[aj];rw[E' (by omega),E' (by omega),E' (by omega),E' (by omega)];exact h16
    ·dsimp only;rw[ak,tn hy];simp only[cpR,↓reduceIte];rw[Qn (bk:=bk) (bk':=nx+304) (X' j)]
    ·dsimp only;rw[ai _ _ (by omega),ai _ _ (by omega),ai _ _ (by omega),ak,H',hy];rfl
   ·have hcl:=kV k bk b.rows j
    refine⟨(⟨_,_,_⟩,j+1),⟨by dsimp only;omega,?_,?_,?_,?_,?_,?_,nx+352,bk,?_,?_,by omega,?_,λhk'=>?_⟩,by dsimp only;omega,
     ao.giveVC (x:=y.id) (es:=y.nx.map AV.int) (kk:=1) (nx+352) j (nx+304) (ak _ _ _) (by rw[aL' (by omega),hcl,ba'];rfl) (by rw[ai _ _ (by omega),ai _ _ (by omega),ai _ _ (by omega),ak]) (by omega) (au (ae (λ_=>rfl) _))⟩
    ·dsimp only;omega
    ·simp only[aj];exact t1
    ·simp only[aj];exact t2
    ·rfl
    ·simp only[aj];rw[E' (by omega),E' (by omega),E' (by omega),E' (by omega),E' (by omega),E' (by omega)];exact h0
    ·simp only[aj];rw[E' (by omega),E' (by omega),E' (by omega),E' (by omega),E' (by omega),E' (by omega)];exact h16
    ·rfl
    ·dsimp only;omega
    ·dsimp only;rw[ak,tn hy,bw' _ _ (by omega),hcl,ba'];simp[cpR,c]
    ·have hk2:k<j:=by have hk':k<j+1:=hk';omega
     obtain⟨p1,p2,p3,p4⟩:=o4 hk2;refine⟨by dsimp only;omega,p2,by omega,?_⟩;dsimp only;rw[ai _ _ (by omega),ai _ _ (by omega),ai _ _ (by omega),ai _ _ p3,ai _ _ (by omega),ai _ _ (by omega)];exact p4
  ·have e:j=b.rows.length:=by have:=S' e;omega
   subst e;obtain⟨p1,p2,p3,p4⟩:=o4 hk;refine AWP.exit ?_;refine(show AWP _ _ _ _ _ _ from ?_);refine AWP.seq' ?_;refine AWP.reg' λK hK=>?_
   try simp only[ag,seval,t1,t3,h0,f0]
   refine hK _ _ _ ?_;clear hK K;refine AWP.seq' ?_;have hb16:(16=bo)=False:=by simp;omega
   refine AWP.reg' λK hK=>?_
   try simp only[ag,seval,t1,t2,h0,h16,f0,hb16]
   refine hK _ _ _ ?_;clear hK K;refine AWP.ret ?_;have hv:=λ(π:Nat→Nat)=>aK π (show aD ((b.rows.getD k ⟨0,[]⟩).nx.map AV.int)from au (ae (λ_=>rfl) _))
   refine⟨_,ao.nf [bo,bk,16] [(2,.ref 2 0)] [some (.vec 2 (cpC k 1 b.rows b.rows.length)),some (.vec 1 ((b.rows.getD k ⟨0,[]⟩).nx.map AV.int)),some (.box (.agg [.int b.router,.int b.sub,.int b.len,.vec 0]))] (m:=3) ?_ ?_ ⟨rfl,rfl⟩ ?_ (λb h=>by omega) (by omega),⟨_,rfl,rfl⟩,λb x e=>?_⟩
   ·refine⟨⟨?_,show(2:Nat)<3 by omega⟩,trivial⟩;simp only[aj];exact t2
   ·refine⟨⟨?_,qy _ _ (by omega) _ _⟩,⟨?_,aG (au (ae (λ_=>rfl) _))⟩,⟨?_,⟨trivial,trivial,trivial,show(0:Nat)<3 by omega,trivial⟩⟩,trivial⟩
    ·rw[Blk.ren,qx];show upd _ 16 _ bo=_;rw[ai _ _ (by omega),ai _ _ (by omega),ai _ _ (by omega),ai _ _ (by omega)];exact o3
    ·rw[Blk.ren,hv];show upd _ 16 _ bk=_;rw[ai _ _ (by omega),ai _ _ (by omega),ai _ _ (by omega),ai _ _ (by omega)];exact p4
    ·rfl
   ·simp;omega
   ·match b,e with
    | 0,e=>exact e
    | 1,e=>exact e
end Go.Proofs.YtiobpjoadkfhdaaGreat
