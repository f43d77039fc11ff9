/- Texts joined: KM3 KM4 AL1 AL2 PK0 TB1 TB2 HP1 LT LT2. -/
import Derived.Test.YtdbdndmdbbihbaaGreatQT6
set_option linter.unusedVariables false
set_option linter.unusedSimpArgs false
set_option linter.unusedSectionVars false
namespace Go.Proofs.YtdbdndmdbbihbaaGreat
open Go Go.Am
def lR(k:Nat):List Rtr:=(List.range k).map λi=>⟨((i+1:Nat):Int),true⟩
def cnM(L:List Int)(a tree:Int)(skip:Bool)(p:Nat):Bool×Nat:=if(a==tree)=true∧skip=false then(true,p)else(eC L p 3,ae L p)
def lkM1(L:List Int)(cost a b:Int)(p:Nat):Lnk:=⟨a,b,rng L p 1 cost,rng L (ae L p) 1 cost,Mod (ao L (ae L (ae L p))) 4⟩
def inM(L:List Int)(cost b tree:Int)(skip:Bool):Nat→Int→List Lnk→Nat→List Lnk×Nat
 | 0,_,ls,p=>(ls,p)
 | f+1,a,ls,p=>if(cnM L a tree skip p).1=true then inM L cost b tree skip f (a+1) (ls++[lkM1 L cost a b (cnM L a tree skip p).2]) (ae L (ae L (ae L (cnM L a tree skip p).2)))
  else inM L cost b tree skip f (a+1) ls (cnM L a tree skip p).2
def inR(L:List Int)(cost b:Int)(ls:List Lnk)(p:Nat):List Lnk×Nat:=inM L cost b (rng L p 1 (W (b-1))) (eC L (ae L p) 9) (b-1).toNat 1 ls (ae L (ae L p))
def ouM(L:List Int)(cost:Int):Nat→Int→List Lnk→Nat→List Lnk×Nat
 | 0,_,ls,p=>(ls,p)
 | f+1,b,ls,p=>ouM L cost f (b+1) (inR L cost b ls p).1 (inR L cost b ls p).2
def qo(j:Nat):List Rtr:=(List.range j).map λi=>⟨((50+i:Nat):Int),false⟩
def ixM(L:List Int)(p:Nat)(g:Tpl):Nat:=(Mod (ao L p) g.ls.length).toNat
def Ik(L:List Int)(p:Nat)(g:Tpl):Tpl×Nat:=
 if Mod (ao L p) 7=0 then(⟨g.rs++[⟨aO [0,1,99,100,-1] (ao L (ae L p)),false⟩],g.ls⟩,ae L (ae L p))
 else if Mod (ao L p) 7=1 then(⟨g.rs,g.ls++[⟨Mod (ao L (ae L p)) 4,Mod (ao L (ae L (ae L p))) 4,1,1,0⟩]⟩,ae L (ae L (ae L p)))
 else if Mod (ao L p) 7=2 then(match g.ls[ixM L (ae L p) g]? with
  | some y=>(⟨g.rs,g.ls.set (ixM L (ae L p) g) ⟨y.a,y.b,dy L (ae L (ae L p)),y.cb,y.w⟩⟩,ae L (ae L (ae L p)))
  | none=>(g,ae L p))
 else if Mod (ao L p) 7=3 then(match g.ls[ixM L (ae L p) g]? with
  | some y=>(⟨g.rs,g.ls.set (ixM L (ae L p) g) ⟨y.a,y.b,y.ca,dy L (ae L (ae L p)),y.w⟩⟩,ae L (ae L (ae L p)))
  | none=>(g,ae L p))
 else if Mod (ao L p) 7=4 then(match g.ls[ixM L (ae L p) g]? with
  | some y=>(⟨g.rs,g.ls.set (ixM L (ae L p) g) ⟨y.a,y.b,y.ca,y.cb,dy L (ae L (ae L p))⟩⟩,ae L (ae L (ae L p)))
  | none=>(g,ae L p))
 else if Mod (ao L p) 7=5 then(match g.ls[ixM L (ae L p) g]? with
  | some y=>(⟨g.rs,g.ls++[y]⟩,ae L (ae L p))
  | none=>(g,ae L p))
 else(⟨g.rs++qo 25,g.ls⟩,ae L p)
def Kk(L:List Int)(p:Nat):Int:=aO [1,2,2,5] (ao L (ae L p))
def rV(L:List Int)(p:Nat)(most:Int):List Lnk×Nat:=ouM L (Kk L p) ((rng L p 1 most)-1).toNat 2 [] (ae L (ae L p))
def rW(L:List Int)(p:Nat)(most:Int):Tpl:=⟨lR (rng L p 1 most).toNat,aD (rV L p most).1 []⟩
def ba(L:List Int)(p:Nat)(most n:Int):Tpl×Nat:=
 if 0<n∧eC L (rV L p most).2 n=true then Ik L (ae L (rV L p most).2) (rW L p most)else(rW L p most,if 0<n then ae L (rV L p most).2 else(rV L p most).2)
theorem IV(out:List Lnk)(x:Lnk):Ee out x≤out.length:=List.findIdx_le_length
theorem sF:∀(l out:List Lnk),(aD l out).length=l.length+out.length
 | [],out=>by simp[aD]
 | x::l,out=>by rw[aD,sF l,fX _ _ _ (IV _ _),List.length_cons];omega
theorem jG(k:Nat):(lR k).length=k:=by simp[lR]
theorem BU(k:Nat):lR (k+1)=lR k++[⟨((k+1:Nat):Int),true⟩]:=by simp[lR,List.range_succ]
theorem Cw(k:Nat):qo (k+1)=qo k++[⟨((50+k:Nat):Int),false⟩]:=by simp[qo,List.range_succ]
theorem F3(k:Nat):(qo k).length=k:=by simp[qo]
theorem D6{L:List Int}{p:Nat}{m:Int}(h:1≤m∧m≤1000):1≤rng L p 1 m∧rng L p 1 m≤m:=by
 have hm:=eo (x:=ao L p) h.1
 unfold rng
 rw[dY (n:=m-1) (by omega),dY (n:=m-1+1) (by omega),show m-1+1=m by omega,dY (by omega)]
 omega
def Di(L:List Int)(p:Nat)(most:Int)(n:Int):=okL [.ref 0 0,.int most,.int n]∧(.box (.agg [.sl 1 (L.map AV.int) false,.int p]):Blk).ok
def HT(L:List Int)(p:Nat)(most:Int)(n:Int)(t0:Int×List Rtr):NF:=⟨[(0,.k,.ref 0 0),(2,.k,.int n),(6,.k,.ref 1 0),(7,.k,.ref 2 0),(8,.k,.int (rng L p 1 most)),(9,.k,.int t0.1)],[.box (.agg [.sl 1 (L.map AV.int) false,.int (ae L p)]),.box (.agg [.sl 0 [] true,.sl 0 [] true]),.box (.agg [.vec 3,.sl 0 [] true]),.vec 2 (t0.2.map Rtr.v) (ab (λ_=>rfl) t0.2)]⟩
def HS(L:List Int)(p:Nat)(most:Int)(n:Int)(t0:Int×List Rtr)(t1:Int×Nat×List Lnk):NF:=⟨[(0,.k,.ref 0 0),(2,.k,.int n),(6,.k,.ref 1 0),(7,.k,.ref 2 0),(8,.k,.int (rng L p 1 most)),(10,.k,.int (aO [1,2,2,5] (ao L (ae L p)))),(11,.k,.int t1.1)],[.box (.agg [.sl 1 (L.map AV.int) false,.int t1.2.1]),.box (.agg [.sl 0 [] true,.sl 0 [] true]),.box (.agg [.vec 3,.vec 4]),.vec 2 (t0.2.map Rtr.v) (ab (λ_=>rfl) t0.2),.vec 5 (t1.2.2.map Lnk.v) (ab (λ_=>rfl) t1.2.2)]⟩
def HR(L:List Int)(p:Nat)(most:Int)(n:Int)(t0:Int×List Rtr)(t1:Int×Nat×List Lnk)(t2:Int×List Lnk×Nat):NF:=⟨[(0,.k,.ref 0 0),(2,.k,.int n),(6,.k,.ref 1 0),(7,.k,.ref 2 0),(8,.k,.int (rng L p 1 most)),(10,.k,.int (aO [1,2,2,5] (ao L (ae L p)))),(11,.k,.int t1.1),(12,.k,.int (rng L t1.2.1 1 (W (t1.1-1)))),(13,.k,.bool (eC L (ae L t1.2.1) 9)),(14,.k,.int t2.1)],[.box (.agg [.sl 1 (L.map AV.int) false,.int t2.2.2]),.box (.agg [.sl 0 [] true,.sl 0 [] true]),.box (.agg [.vec 3,.vec 4]),.vec 2 (t0.2.map Rtr.v) (ab (λ_=>rfl) t0.2),.vec 5 (t2.2.1.map Lnk.v) (ab (λ_=>rfl) t2.2.1)]⟩
def HQ(L:List Int)(p:Nat)(most:Int)(n:Int)(t0:Int×List Rtr)(t1:Int×Nat×List Lnk)(t2:Int×List Lnk×Nat)(t3:Bool×Nat):NF:=⟨[(0,.k,.ref 0 0),(2,.k,.int n),(6,.k,.ref 1 0),(7,.k,.ref 2 0),(8,.k,.int (rng L p 1 most)),(10,.k,.int (aO [1,2,2,5] (ao L (ae L p)))),(11,.k,.int t1.1),(12,.k,.int (rng L t1.2.1 1 (W (t1.1-1)))),(13,.k,.bool (eC L (ae L t1.2.1) 9)),(14,.k,.int t2.1),(60,.k,.bool t3.1)],[.box (.agg [.sl 1 (L.map AV.int) false,.int t3.2]),.box (.agg [.sl 0 [] true,.sl 0 [] true]),.box (.agg [.vec 3,.vec 4]),.vec 2 (t0.2.map Rtr.v) (ab (λ_=>rfl) t0.2),.vec 5 (t2.2.1.map Lnk.v) (ab (λ_=>rfl) t2.2.1)]⟩
def HP(L:List Int)(t0:Int×List Rtr)(t1:Int×Nat×List Lnk)(t4:Bool×Nat):NF:=⟨[(0,.k,.ref 0 0),(6,.k,.ref 1 0),(7,.k,.ref 2 0),(87,.k,.bool t4.1)],[.box (.agg [.sl 1 (L.map AV.int) false,.int t4.2]),.box (.agg [.sl 0 [] true,.sl 0 [] true]),.box (.agg [.vec 3,.vec 4]),.vec 2 (t0.2.map Rtr.v) (ab (λ_=>rfl) t0.2),.vec 5 ((aD t1.2.2 []).map Lnk.v) (ab (λ_=>rfl) (aD t1.2.2 []))]⟩
def HO(L:List Int)(t1:Int×Nat×List Lnk)(t4:Bool×Nat)(t5:Int×List Rtr):NF:=⟨[(6,.k,.ref 1 0),(7,.k,.ref 2 0),(15,.k,.int t5.1)],[.box (.agg [.sl 1 (L.map AV.int) false,.int (ae L t4.2)]),.box (.agg [.sl 0 [] true,.sl 0 [] true]),.box (.agg [.vec 3,.vec 4]),.vec 2 (t5.2.map Rtr.v) (ab (λ_=>rfl) t5.2),.vec 5 ((aD t1.2.2 []).map Lnk.v) (ab (λ_=>rfl) (aD t1.2.2 []))]⟩
@[reducible] def Dh:Nat→Type
 | 0=>Int×List Rtr
 | 1=>Int×Nat×List Lnk
 | 2=>Int×List Lnk×Nat
 | 3=>Bool×Nat
 | 4=>Bool×Nat
 | 5=>Int×List Rtr
 | _=>Unit
def oM(r:Tap×Tpl):AV:=.agg [.vec 1,.vec 2]
def oN(r:Tap×Tpl):List (Option Blk):=[some (.box (.agg [.sl 1 (r.1.L.map AV.int) false,.int r.1.p])),some (.vec 2 (r.2.rs.map Rtr.v)),some (.vec 5 (r.2.ls.map Lnk.v))]
def uS(L:List Int)(p:Nat)(most:Int)(n:Int)(I0:(Int×List Rtr)→Prop)(m0:(Int×List Rtr)→Nat)(I1:Int×List Rtr→(Int×Nat×List Lnk)→Prop)(m1:Int×List Rtr→(Int×Nat×List Lnk)→Nat)(I2:Int×List Rtr→Int×Nat×List Lnk→(Int×List Lnk×Nat)→Prop)(m2:Int×List Rtr→Int×Nat×List Lnk→(Int×List Lnk×Nat)→Nat)(I3:Int×List Rtr→Int×Nat×List Lnk→Int×List Lnk×Nat→(Bool×Nat)→Prop)(I4:Int×List Rtr→Int×Nat×List Lnk→(Bool×Nat)→Prop)(I5:Int×List Rtr→Int×Nat×List Lnk→Bool×Nat→(Int×List Rtr)→Prop)(m5:Int×List Rtr→Int×Nat×List Lnk→Bool×Nat→(Int×List Rtr)→Nat):Ax Tryz.prog Dh (Tap×Tpl):=
 (.callH [0] (oT L p 1 most) 65
(.cmdL (.nilB 17 0 2) (.loop 0 (HT L p most n) I0 m0 (1,[]) [0,1,17,113] λ(t0:Int×List Rtr) b0 =>
(.br 52 (decide (t0.1≤(rng L p 1 most))) (.say (λR=>Rf (α:=List AV) (t0.2.map Rtr.v) (Rf (α:=List AV) [.agg [.int t0.1,.bool true]]
(ck (decide (t0.2.length+1≤1048576))
R))) (.app 132 Rtr.v t0.2 [(⟨t0.1,true⟩:Rtr)]
(.bk 0 b0 (W (t0.1+1),t0.2++[(⟨t0.1,true⟩:Rtr)]) [0,1,2,132])))
(.req 84 ([1,2,2,5]≠[]) λh1 =>
(.callH [0] (gw L (ae L p) [1,2,2,5] h1) 84
(.cmdL (.nilB 2 1 5) (.loop 1 (HS L p most n t0) (I1 t0) (m1 t0) (2,ae L (ae L p),[]) [0,1,2,3,132] λ(t1:Int×Nat×List Lnk) b1 =>
(.br 53 (decide (t1.1≤(rng L p 1 most))) (.callH [0] (oT L t1.2.1 1 (W (t1.1-1))) 101
(.callH [0] (jp L (ae L t1.2.1) 9) 149
(.loop 2 (HR L p most n t0 t1) (I2 t0 t1) (m2 t0 t1) (1,t1.2.2,ae L (ae L t1.2.1)) [0,1,2,3,4] λ(t2:Int×List Lnk×Nat) b2 =>
(.br 53 (decide (t2.1<t1.1)) (.pass (.join 3 (HQ L p most n t0 t1 t2) (λ(t3:Bool×Nat)=>I3 t0 t1 t2 t3) (λb3=>(.br 117 (t2.1==(rng L t1.2.1 1 (W (t1.1-1)))) (.br 181 (!(eC L (ae L t1.2.1) 9)) (.bk 3 b3 (true,t2.2.2) [0,1,2,3,4])
(.callH [0] (jp L t2.2.2 3) 197
(.bk 3 b3 (eC L t2.2.2 3,ae L t2.2.2) [0,1,2,3,4])))
(.callH [0] (jp L t2.2.2 3) 197
(.bk 3 b3 (eC L t2.2.2 3,ae L t2.2.2) [0,1,2,3,4])))) λ(t3:Bool×Nat) =>
(.br 5 t3.1 (.callH [0] (oT L t3.2 1 (aO [1,2,2,5] (ao L (ae L p)))) 101
(.callH [0] (oT L (ae L t3.2) 1 (aO [1,2,2,5] (ao L (ae L p)))) 149
(.callH [0] (c7 L (ae L (ae L t3.2)) 4) 181
(.say (λR=>Rf (α:=List AV) (t2.2.1.map Lnk.v) (Rf (α:=List AV) [.agg [.int t2.1,.int t1.1,.int (rng L t3.2 1 (aO [1,2,2,5] (ao L (ae L p)))),.int (rng L (ae L t3.2) 1 (aO [1,2,2,5] (ao L (ae L p)))),.int (Mod (ao L (ae L (ae L t3.2))) 4)]]
(ck (decide (t2.2.1.length+1≤1048576))
R))) (.app 229 Lnk.v t2.2.1 [(⟨t2.1,t1.1,rng L t3.2 1 (aO [1,2,2,5] (ao L (ae L p))),rng L (ae L t3.2) 1 (aO [1,2,2,5] (ao L (ae L p))),Mod (ao L (ae L (ae L t3.2))) 4⟩:Lnk)]
(.bk 2 b2 (W (t2.1+1),t2.2.1++[(⟨t2.1,t1.1,rng L t3.2 1 (aO [1,2,2,5] (ao L (ae L p))),rng L (ae L t3.2) 1 (aO [1,2,2,5] (ao L (ae L p))),Mod (ao L (ae L (ae L t3.2))) 4⟩:Lnk)],ae L (ae L (ae L t3.2))) [0,1,2,3,229]))))))
(.bk 2 b2 (W (t2.1+1),t2.2.1,t3.2) [0,1,2,3,4]))))
(.bk 1 b1 (W (t1.1+1),t2.2.2,t2.2.1) [0,1,2,3,4])))))
(.say (Rf (t1.2.2.map Lnk.v)) (.cmd (.frzE 4 (t1.2.2.map Lnk.v) (ab (λ_=>rfl) t1.2.2)) (.req 85 (t1.2.2.length≤1000) λh2 =>
(.callH [] (Nv t1.2.2 h2) 85
(.pass (.join 4 (HP L t0 t1) (λ(t4:Bool×Nat)=>I4 t0 t1 t4) (λb4=>(.br 181 (decide (0<n)) (.callH [0] (jp L t1.2.1 n) 213
(.bk 4 b4 (eC L t1.2.1 n,ae L t1.2.1) [0,1,2,3,85]))
(.bk 4 b4 (false,t1.2.1) [0,1,2,3,85]))) λ(t4:Bool×Nat) =>
(.br 5 t4.1 (.callH [0] (c7 L t4.2 7) 21
(.br 69 ((Mod (ao L t4.2) 7)==0) (.req 133 ([0,1,99,100,-1]≠[]) λh3 =>
(.callH [0] (gw L (ae L t4.2) [0,1,99,100,-1] h3) 133
(.say (λR=>Rf (α:=List AV) (t0.2.map Rtr.v) (Rf (α:=List AV) [.agg [.int (aO [0,1,99,100,-1] (ao L (ae L t4.2))),.bool false]]
(ck (decide (t0.2.length+1≤1048576))
R))) (.app 181 Rtr.v t0.2 [(⟨aO [0,1,99,100,-1] (ao L (ae L t4.2)),false⟩:Rtr)]
(.retH ((⟨L,ae L (ae L t4.2)⟩:Tap),(⟨t0.2++[(⟨aO [0,1,99,100,-1] (ao L (ae L t4.2)),false⟩:Rtr)],aD t1.2.2 []⟩:Tpl)) ⟨[(6,.k,.ref 3 0)],[.box (.agg [.sl 1 (L.map AV.int) false,.int (((ae L (ae L t4.2)):Nat):Int)]),.vec 2 ((t0.2++[(⟨aO [0,1,99,100,-1] (ao L (ae L t4.2)),false⟩:Rtr)]).map Rtr.v) (ab (λ_=>rfl) (t0.2++[(⟨aO [0,1,99,100,-1] (ao L (ae L t4.2)),false⟩:Rtr)])),.vec 5 ((aD t1.2.2 []).map Lnk.v) (ab (λ_=>rfl) (aD t1.2.2 [])),.box (.agg [.vec 1,.vec 2])]⟩ [0,181,4,1])))))
(.br 101 ((Mod (ao L t4.2) 7)==1) (.callH [0] (c7 L (ae L t4.2) 4) 149
(.callH [0] (c7 L (ae L (ae L t4.2)) 4) 181
(.say (λR=>Rf (α:=List AV) ((aD t1.2.2 []).map Lnk.v) (Rf (α:=List AV) [.agg [.int (Mod (ao L (ae L t4.2)) 4),.int (Mod (ao L (ae L (ae L t4.2))) 4),.int 1,.int 1,.int 0]]
(ck (decide ((aD t1.2.2 []).length+1≤1048576))
R))) (.app 229 Lnk.v (aD t1.2.2 []) [(⟨Mod (ao L (ae L t4.2)) 4,Mod (ao L (ae L (ae L t4.2))) 4,1,1,0⟩:Lnk)]
(.retH ((⟨L,ae L (ae L (ae L t4.2))⟩:Tap),(⟨t0.2,(aD t1.2.2 [])++[(⟨Mod (ao L (ae L t4.2)) 4,Mod (ao L (ae L (ae L t4.2))) 4,1,1,0⟩:Lnk)]⟩:Tpl)) ⟨[(6,.k,.ref 3 0)],[.box (.agg [.sl 1 (L.map AV.int) false,.int (((ae L (ae L (ae L t4.2))):Nat):Int)]),.vec 2 (t0.2.map Rtr.v) (ab (λ_=>rfl) t0.2),.vec 5 (((aD t1.2.2 [])++[(⟨Mod (ao L (ae L t4.2)) 4,Mod (ao L (ae L (ae L t4.2))) 4,1,1,0⟩:Lnk)]).map Lnk.v) (ab (λ_=>rfl) ((aD t1.2.2 [])++[(⟨Mod (ao L (ae L t4.2)) 4,Mod (ao L (ae L (ae L t4.2))) 4,1,1,0⟩:Lnk)])),.box (.agg [.vec 1,.vec 2])]⟩ [0,3,229,1])))))
(.br 133 ((Mod (ao L t4.2) 7)==2) (.br 197 (decide (0<(((aD t1.2.2 []).map Lnk.v).length:Int))) (.callH [0] (c7 L (ae L t4.2) (((aD t1.2.2 []).map Lnk.v).length:Int)) 293
(.callH [0] (lK L (ae L (ae L t4.2))) 325
(.say (ck (cond (decide (0≤(Mod (ao L (ae L t4.2)) (((aD t1.2.2 []).map Lnk.v).length:Int)))) (decide ((Mod (ao L (ae L t4.2)) (((aD t1.2.2 []).map Lnk.v).length:Int))<(((aD t1.2.2 []).map Lnk.v).length:Int))) false)) (.st 373 Lnk.v (aD t1.2.2 []) (λy4=>(⟨y4.a,y4.b,dy L (ae L (ae L t4.2)),y4.cb,y4.w⟩:Lnk)) (λR=>Rf ((aD t1.2.2 []).map Lnk.v) (ck (decide ((Mod (ao L (ae L t4.2)) (((aD t1.2.2 []).map Lnk.v).length:Int)).toNat<(aD t1.2.2 []).length))
(∀y4,(aD t1.2.2 [])[(Mod (ao L (ae L t4.2)) (((aD t1.2.2 []).map Lnk.v).length:Int)).toNat]?=some y4→Rf (Lnk.v (⟨y4.a,y4.b,dy L (ae L (ae L t4.2)),y4.cb,y4.w⟩:Lnk))
((R y4))))) λy4 =>
(.retH ((⟨L,ae L (ae L (ae L t4.2))⟩:Tap),(⟨t0.2,(aD t1.2.2 []).set ((Mod (ao L (ae L t4.2)) (((aD t1.2.2 []).map Lnk.v).length:Int)).toNat) (⟨y4.a,y4.b,dy L (ae L (ae L t4.2)),y4.cb,y4.w⟩:Lnk)⟩:Tpl)) ⟨[(6,.k,.ref 3 0)],[.box (.agg [.sl 1 (L.map AV.int) false,.int (((ae L (ae L (ae L t4.2))):Nat):Int)]),.vec 2 (t0.2.map Rtr.v) (ab (λ_=>rfl) t0.2),.vec 5 (((aD t1.2.2 []).set ((Mod (ao L (ae L t4.2)) (((aD t1.2.2 []).map Lnk.v).length:Int)).toNat) (⟨y4.a,y4.b,dy L (ae L (ae L t4.2)),y4.cb,y4.w⟩:Lnk)).map Lnk.v) (ab (λ_=>rfl) ((aD t1.2.2 []).set ((Mod (ao L (ae L t4.2)) (((aD t1.2.2 []).map Lnk.v).length:Int)).toNat) (⟨y4.a,y4.b,dy L (ae L (ae L t4.2)),y4.cb,y4.w⟩:Lnk))),.box (.agg [.vec 1,.vec 2])]⟩ [0,3,4,1])))))
(.retH ((⟨L,ae L t4.2⟩:Tap),(⟨t0.2,aD t1.2.2 []⟩:Tpl)) ⟨[(6,.k,.ref 3 0)],[.box (.agg [.sl 1 (L.map AV.int) false,.int (ae L t4.2)]),.vec 2 (t0.2.map Rtr.v) (ab (λ_=>rfl) t0.2),.vec 5 ((aD t1.2.2 []).map Lnk.v) (ab (λ_=>rfl) (aD t1.2.2 [])),.box (.agg [.vec 1,.vec 2])]⟩ [0,3,4,1]))
(.br 165 ((Mod (ao L t4.2) 7)==3) (.br 229 (decide (0<(((aD t1.2.2 []).map Lnk.v).length:Int))) (.callH [0] (c7 L (ae L t4.2) (((aD t1.2.2 []).map Lnk.v).length:Int)) 325
(.callH [0] (lK L (ae L (ae L t4.2))) 357
(.say (ck (cond (decide (0≤(Mod (ao L (ae L t4.2)) (((aD t1.2.2 []).map Lnk.v).length:Int)))) (decide ((Mod (ao L (ae L t4.2)) (((aD t1.2.2 []).map Lnk.v).length:Int))<(((aD t1.2.2 []).map Lnk.v).length:Int))) false)) (.st 405 Lnk.v (aD t1.2.2 []) (λy5=>(⟨y5.a,y5.b,y5.ca,dy L (ae L (ae L t4.2)),y5.w⟩:Lnk)) (λR=>Rf ((aD t1.2.2 []).map Lnk.v) (ck (decide ((Mod (ao L (ae L t4.2)) (((aD t1.2.2 []).map Lnk.v).length:Int)).toNat<(aD t1.2.2 []).length))
(∀y5,(aD t1.2.2 [])[(Mod (ao L (ae L t4.2)) (((aD t1.2.2 []).map Lnk.v).length:Int)).toNat]?=some y5→Rf (Lnk.v (⟨y5.a,y5.b,y5.ca,dy L (ae L (ae L t4.2)),y5.w⟩:Lnk))
((R y5))))) λy5 =>
(.retH ((⟨L,ae L (ae L (ae L t4.2))⟩:Tap),(⟨t0.2,(aD t1.2.2 []).set ((Mod (ao L (ae L t4.2)) (((aD t1.2.2 []).map Lnk.v).length:Int)).toNat) (⟨y5.a,y5.b,y5.ca,dy L (ae L (ae L t4.2)),y5.w⟩:Lnk)⟩:Tpl)) ⟨[(6,.k,.ref 3 0)],[.box (.agg [.sl 1 (L.map AV.int) false,.int (((ae L (ae L (ae L t4.2))):Nat):Int)]),.vec 2 (t0.2.map Rtr.v) (ab (λ_=>rfl) t0.2),.vec 5 (((aD t1.2.2 []).set ((Mod (ao L (ae L t4.2)) (((aD t1.2.2 []).map Lnk.v).length:Int)).toNat) (⟨y5.a,y5.b,y5.ca,dy L (ae L (ae L t4.2)),y5.w⟩:Lnk)).map Lnk.v) (ab (λ_=>rfl) ((aD t1.2.2 []).set ((Mod (ao L (ae L t4.2)) (((aD t1.2.2 []).map Lnk.v).length:Int)).toNat) (⟨y5.a,y5.b,y5.ca,dy L (ae L (ae L t4.2)),y5.w⟩:Lnk))),.box (.agg [.vec 1,.vec 2])]⟩ [0,3,4,1])))))
(.retH ((⟨L,ae L t4.2⟩:Tap),(⟨t0.2,aD t1.2.2 []⟩:Tpl)) ⟨[(6,.k,.ref 3 0)],[.box (.agg [.sl 1 (L.map AV.int) false,.int (ae L t4.2)]),.vec 2 (t0.2.map Rtr.v) (ab (λ_=>rfl) t0.2),.vec 5 ((aD t1.2.2 []).map Lnk.v) (ab (λ_=>rfl) (aD t1.2.2 [])),.box (.agg [.vec 1,.vec 2])]⟩ [0,3,4,1]))
(.br 197 ((Mod (ao L t4.2) 7)==4) (.br 261 (decide (0<(((aD t1.2.2 []).map Lnk.v).length:Int))) (.callH [0] (c7 L (ae L t4.2) (((aD t1.2.2 []).map Lnk.v).length:Int)) 357
(.callH [0] (lK L (ae L (ae L t4.2))) 389
(.say (ck (cond (decide (0≤(Mod (ao L (ae L t4.2)) (((aD t1.2.2 []).map Lnk.v).length:Int)))) (decide ((Mod (ao L (ae L t4.2)) (((aD t1.2.2 []).map Lnk.v).length:Int))<(((aD t1.2.2 []).map Lnk.v).length:Int))) false)) (.st 437 Lnk.v (aD t1.2.2 []) (λy6=>(⟨y6.a,y6.b,y6.ca,y6.cb,dy L (ae L (ae L t4.2))⟩:Lnk)) (λR=>Rf ((aD t1.2.2 []).map Lnk.v) (ck (decide ((Mod (ao L (ae L t4.2)) (((aD t1.2.2 []).map Lnk.v).length:Int)).toNat<(aD t1.2.2 []).length))
(∀y6,(aD t1.2.2 [])[(Mod (ao L (ae L t4.2)) (((aD t1.2.2 []).map Lnk.v).length:Int)).toNat]?=some y6→Rf (Lnk.v (⟨y6.a,y6.b,y6.ca,y6.cb,dy L (ae L (ae L t4.2))⟩:Lnk))
((R y6))))) λy6 =>
(.retH ((⟨L,ae L (ae L (ae L t4.2))⟩:Tap),(⟨t0.2,(aD t1.2.2 []).set ((Mod (ao L (ae L t4.2)) (((aD t1.2.2 []).map Lnk.v).length:Int)).toNat) (⟨y6.a,y6.b,y6.ca,y6.cb,dy L (ae L (ae L t4.2))⟩:Lnk)⟩:Tpl)) ⟨[(6,.k,.ref 3 0)],[.box (.agg [.sl 1 (L.map AV.int) false,.int (((ae L (ae L (ae L t4.2))):Nat):Int)]),.vec 2 (t0.2.map Rtr.v) (ab (λ_=>rfl) t0.2),.vec 5 (((aD t1.2.2 []).set ((Mod (ao L (ae L t4.2)) (((aD t1.2.2 []).map Lnk.v).length:Int)).toNat) (⟨y6.a,y6.b,y6.ca,y6.cb,dy L (ae L (ae L t4.2))⟩:Lnk)).map Lnk.v) (ab (λ_=>rfl) ((aD t1.2.2 []).set ((Mod (ao L (ae L t4.2)) (((aD t1.2.2 []).map Lnk.v).length:Int)).toNat) (⟨y6.a,y6.b,y6.ca,y6.cb,dy L (ae L (ae L t4.2))⟩:Lnk))),.box (.agg [.vec 1,.vec 2])]⟩ [0,3,4,1])))))
(.retH ((⟨L,ae L t4.2⟩:Tap),(⟨t0.2,aD t1.2.2 []⟩:Tpl)) ⟨[(6,.k,.ref 3 0)],[.box (.agg [.sl 1 (L.map AV.int) false,.int (ae L t4.2)]),.vec 2 (t0.2.map Rtr.v) (ab (λ_=>rfl) t0.2),.vec 5 ((aD t1.2.2 []).map Lnk.v) (ab (λ_=>rfl) (aD t1.2.2 [])),.box (.agg [.vec 1,.vec 2])]⟩ [0,3,4,1]))
(.br 229 ((Mod (ao L t4.2) 7)==5) (.br 293 (decide (0<(((aD t1.2.2 []).map Lnk.v).length:Int))) (.callH [0] (c7 L (ae L t4.2) (((aD t1.2.2 []).map Lnk.v).length:Int)) 421
(.say (ck (cond (decide (0≤(Mod (ao L (ae L t4.2)) (((aD t1.2.2 []).map Lnk.v).length:Int)))) (decide ((Mod (ao L (ae L t4.2)) (((aD t1.2.2 []).map Lnk.v).length:Int))<(((aD t1.2.2 []).map Lnk.v).length:Int))) false)) (.el 453 Lnk.v (aD t1.2.2 []) (λR=>Rf ((aD t1.2.2 []).map Lnk.v) (ck (decide ((Mod (ao L (ae L t4.2)) (((aD t1.2.2 []).map Lnk.v).length:Int)).toNat<(aD t1.2.2 []).length))
(∀x7,(aD t1.2.2 [])[(Mod (ao L (ae L t4.2)) (((aD t1.2.2 []).map Lnk.v).length:Int)).toNat]?=some x7 →
(R x7)))) λx7 =>
(.say (λR=>Rf (α:=List AV) ((aD t1.2.2 []).map Lnk.v) (Rf (α:=List AV) [.agg [.int x7.a,.int x7.b,.int x7.ca,.int x7.cb,.int x7.w]]
(ck (decide ((aD t1.2.2 []).length+1≤1048576))
R))) (.app 485 Lnk.v (aD t1.2.2 []) [x7]
(.retH ((⟨L,ae L (ae L t4.2)⟩:Tap),(⟨t0.2,(aD t1.2.2 [])++[x7]⟩:Tpl)) ⟨[(6,.k,.ref 3 0)],[.box (.agg [.sl 1 (L.map AV.int) false,.int (((ae L (ae L t4.2)):Nat):Int)]),.vec 2 (t0.2.map Rtr.v) (ab (λ_=>rfl) t0.2),.vec 5 (((aD t1.2.2 [])++[x7]).map Lnk.v) (ab (λ_=>rfl) ((aD t1.2.2 [])++[x7])),.box (.agg [.vec 1,.vec 2])]⟩ [0,3,485,1]))))))
(.retH ((⟨L,ae L t4.2⟩:Tap),(⟨t0.2,aD t1.2.2 []⟩:Tpl)) ⟨[(6,.k,.ref 3 0)],[.box (.agg [.sl 1 (L.map AV.int) false,.int (ae L t4.2)]),.vec 2 (t0.2.map Rtr.v) (ab (λ_=>rfl) t0.2),.vec 5 ((aD t1.2.2 []).map Lnk.v) (ab (λ_=>rfl) (aD t1.2.2 [])),.box (.agg [.vec 1,.vec 2])]⟩ [0,3,4,1]))
(.loop 5 (HO L t1 t4) (I5 t0 t1 t4) (m5 t0 t1 t4) (50,t0.2) [0,1,2,3,4] λ(t5:Int×List Rtr) b5 =>
(.br 37 (decide (t5.1<75)) (.say (λR=>Rf (α:=List AV) (t5.2.map Rtr.v) (Rf (α:=List AV) [.agg [.int t5.1,.bool false]]
(ck (decide (t5.2.length+1≤1048576))
R))) (.app 117 Rtr.v t5.2 [(⟨t5.1,false⟩:Rtr)]
(.bk 5 b5 (W (t5.1+1),t5.2++[(⟨t5.1,false⟩:Rtr)]) [0,1,2,117,4])))
(.retH ((⟨L,ae L t4.2⟩:Tap),(⟨t5.2,aD t1.2.2 []⟩:Tpl)) ⟨[(6,.k,.ref 3 0)],[.box (.agg [.sl 1 (L.map AV.int) false,.int (ae L t4.2)]),.vec 2 (t5.2.map Rtr.v) (ab (λ_=>rfl) t5.2),.vec 5 ((aD t1.2.2 []).map Lnk.v) (ab (λ_=>rfl) (aD t1.2.2 [])),.box (.agg [.vec 1,.vec 2])]⟩ [0,3,4,1]))))))))))
(.retH ((⟨L,t4.2⟩:Tap),(⟨t0.2,aD t1.2.2 []⟩:Tpl)) ⟨[(6,.k,.ref 3 0)],[.box (.agg [.sl 1 (L.map AV.int) false,.int t4.2]),.vec 2 (t0.2.map Rtr.v) (ab (λ_=>rfl) t0.2),.vec 5 ((aD t1.2.2 []).map Lnk.v) (ab (λ_=>rfl) (aD t1.2.2 [])),.box (.agg [.vec 1,.vec 2])]⟩ [0,3,4,1])))))))))))))))))
def ze(L:List Int)(p:Nat)(most:Int)(n:Int)(I0:(Int×List Rtr)→Prop)(m0:(Int×List Rtr)→Nat)(I1:Int×List Rtr→(Int×Nat×List Lnk)→Prop)(m1:Int×List Rtr→(Int×Nat×List Lnk)→Nat)(I2:Int×List Rtr→Int×Nat×List Lnk→(Int×List Lnk×Nat)→Prop)(m2:Int×List Rtr→Int×Nat×List Lnk→(Int×List Lnk×Nat)→Nat)(I3:Int×List Rtr→Int×Nat×List Lnk→Int×List Lnk×Nat→(Bool×Nat)→Prop)(I4:Int×List Rtr→Int×Nat×List Lnk→(Bool×Nat)→Prop)(I5:Int×List Rtr→Int×Nat×List Lnk→Bool×Nat→(Int×List Rtr)→Prop)(m5:Int×List Rtr→Int×Nat×List Lnk→Bool×Nat→(Int×List Rtr)→Nat)(r0:Tap×Tpl):=(uS L p most n I0 m0 I1 m1 I2 m2 I3 I4 I5 m5).vc oM oN r0
theorem M3(L:List Int)(p:Nat)(most n:Int)(h:1≤most∧most≤20)(ok:Di L p most n):∃I0 m0 I1 m1 I2 m2 I3 I4 I5 m5,ze L p most n I0 m0 I1 m1 I2 m2 I3 I4 I5 m5 ((⟨L,(ba L p most n).2⟩:Tap),(ba L p most n).1):=by
 have hk:=D6 (L:=L) (p:=p) (m:=most) (by omega)
 refine⟨λs=>∃j:Nat,s.1=((j+1:Nat):Int)∧j≤(rng L p 1 most).toNat∧s.2=lR j,λs=>(rng L p 1 most).toNat+1-s.1.toNat,
  λ_ s=>∃j:Nat,s.1=((j+2:Nat):Int)∧j≤(rng L p 1 most-1).toNat∧s.2.2.length≤20 * j∧ouM L (Kk L p) ((rng L p 1 most-1).toNat-j) s.1 s.2.2 s.2.1=rV L p most,λ_ s=>(rng L p 1 most).toNat+1-s.1.toNat,
  λ_ s1 s=>∃j:Nat,s.1=((j+1:Nat):Int)∧j≤(s1.1-1).toNat∧s.2.1.length≤s1.2.2.length+j∧inM L (Kk L p) s1.1 (rng L s1.2.1 1 (W (s1.1-1))) (eC L (ae L s1.2.1) 9) ((s1.1-1).toNat-j) s.1 s.2.1 s.2.2=inR L (Kk L p) s1.1 s1.2.2 s1.2.1,λ_ s1 s=>s1.1.toNat-s.1.toNat,
  λ_ s1 s2 s=>s=cnM L s2.1 (rng L s1.2.1 1 (W (s1.1-1))) (eC L (ae L s1.2.1) 9) s2.2.2,
  λ_ s1 s=>s=(decide (0<n∧eC L s1.2.1 n=true),if 0<n then ae L s1.2.1 else s1.2.1),
  λ_ _ _ s=>∃j:Nat,s.1=((50+j:Nat):Int)∧j≤25∧s.2=lR (rng L p 1 most).toNat++qo j,λ_ _ _ s=>75-s.1.toNat,?_⟩
 dsimp only[ze,uS,Dh,Ax.vp,Ax.vc];simp only[vcU,rfU,List.length_map]
 generalize hK:rng L p 1 most=K at hk ⊢
 have hK0:rW L p most=⟨lR K.toNat,aD (rV L p most).1 []⟩:=by unfold rW;rw[hK]
 refine⟨⟨0,rfl,Nat.zero_le _,rfl⟩,?_⟩
 rintro⟨i,rs⟩ ⟨j,hi,hj,hr⟩
 simp only at hi hr ⊢
 subst hi;subst hr
 rw[jG]
 refine⟨λc=>⟨by omega,⟨j+1,by rw[dY (by omega)];omega,by omega,(BU j).symm⟩,by rw[dY (by omega)];omega⟩,λc=>⟨by simp,?_⟩⟩
 obtain rfl:j=K.toNat:=by omega
 refine⟨⟨0,rfl,Nat.zero_le _,by simp,by rw[rV,hK];rfl⟩,?_⟩
 rintro⟨b,q,ls⟩ ⟨jb,hb,hjb,hlb,hob⟩
 simp only at hb hlb hob ⊢
 refine⟨λc1=>?_,λc1=>?_⟩
 ·refine⟨⟨0,rfl,Nat.zero_le _,by simp,by rw[Nat.sub_zero];rfl⟩,?_⟩
  rintro⟨a,l2,p2⟩ ⟨ja,ha,hja,hla,hoa⟩
  simp only at ha hla hoa ⊢
  refine⟨λc2=>⟨⟨λe=>⟨λe2=>?_,λe2=>?_⟩,λe=>?_⟩,?_⟩,λc2=>?_⟩
  ·rw[cnM,if_pos ⟨e,by simpa using e2⟩]
  ·rw[cnM,if_neg (λq=>by rw[q.2]at e2;cases e2)]
  ·rw[cnM,if_neg (λq=>by rw[q.1]at e;cases e)]
  ·rintro _ rfl
   have hst:(b-1).toNat-ja=((b-1).toNat-(ja+1))+1:=by omega
   rw[hst,inM]at hoa
   have hw:W (a+1)=((ja+1+1:Nat):Int):=by rw[dY (by omega)];omega
   refine⟨λe=>?_,λe=>?_⟩
   ·rw[if_pos e]at hoa
    refine⟨by omega,⟨ja+1,hw,by omega,by simp;omega,?_⟩,by rw[hw];omega⟩
    rw[hw,show((ja+1+1:Nat):Int)=a+1 by omega]
    exact hoa
   ·rw[if_neg (by rw[e];simp)]at hoa
    refine⟨⟨ja+1,hw,by omega,by omega,?_⟩,by rw[hw];omega⟩
    rw[hw,show((ja+1+1:Nat):Int)=a+1 by omega]
    exact hoa
  ·have e1:(b-1).toNat-ja=0:=by omega
   rw[e1,inM]at hoa
   have e2:(K-1).toNat-jb=((K-1).toNat-(jb+1))+1:=by omega
   rw[e2,ouM,←hoa]at hob
   have hw:W (b+1)=((jb+1+2:Nat):Int):=by rw[dY (by omega)];omega
   refine⟨⟨jb+1,hw,by omega,by omega,?_⟩,by rw[hw];omega⟩
   rw[hw,show((jb+1+2:Nat):Int)=b+1 by omega]
   exact hob
 ·have e1:(K-1).toNat-jb=0:=by omega
  rw[e1,ouM]at hob
  have hT:ba L p most n=if 0<n∧eC L q n=true then Ik L (ae L q) ⟨lR K.toNat,aD ls []⟩else(⟨lR K.toNat,aD ls []⟩,if 0<n then ae L q else q):=by
   unfold ba;rw[hK0,←hob]
  have hol:(aD ls []).length≤400:=by rw[sF];simp;omega
  generalize aD ls []=ol at hT hol ⊢
  refine⟨by omega,⟨λc2=>?_,λc2=>?_⟩,?_⟩
  ·rw[if_pos c2]
   refine Prod.ext ?_ rfl
   rw[Bool.eq_iff_iff];simp[c2]
  ·rw[if_neg c2]
   refine Prod.ext ?_ rfl
   rw[Bool.eq_iff_iff];simp[c2]
  rintro _ rfl
  simp only
  refine⟨λe=>?_,λe=>by rw[hT,if_neg (of_decide_eq_false e)]⟩
  have e:=of_decide_eq_true e
  rw[hT,if_pos e,if_pos e.1]
  generalize ae L q=q1
  have hix:∀{m:Nat},0<(m:Int)→(bif decide (0≤Mod (ao L (ae L q1)) m)then decide (Mod (ao L (ae L q1)) m<m)else false)=true∧(Mod (ao L (ae L q1)) m).toNat<m:=λ{m} hm=>by
   have:=eo (x:=ao L (ae L q1)) (show 1≤(m:Int) by omega)
   exact⟨dg this.1 this.2,by omega⟩
  have hno:¬0<(ol.length:Int)→∀i:Nat,ol[i]?=none:=λh i=>List.getElem?_eq_none (by omega)
  unfold Ik ixM
  simp only
  refine⟨λs0=>?_,λs0=>⟨λs1=>?_,λs1=>⟨λs2=>?_,λs2=>⟨λs3=>?_,λs3=>⟨λs4=>?_,λs4=>⟨λs5=>?_,λs5=>?_⟩⟩⟩⟩⟩⟩
  ·rw[if_pos (eq_of_beq s0)]
   exact⟨by simp,by omega,rfl⟩
  all_goals
   have s0:¬Mod (ao L q1) 7=0:=by simpa using s0
   rw[if_neg s0]
  ·rw[if_pos (eq_of_beq s1)]
   exact⟨by omega,rfl⟩
  all_goals
   have s1:¬Mod (ao L q1) 7=1:=by simpa using s1
   rw[if_neg s1]
  ·rw[if_pos (eq_of_beq s2)]
   exact⟨λh=>⟨(hix h).1,(hix h).2,λy hy=>by rw[hy]⟩,λh=>by rw[hno h]⟩
  all_goals
   have s2:¬Mod (ao L q1) 7=2:=by simpa using s2
   rw[if_neg s2]
  ·rw[if_pos (eq_of_beq s3)]
   exact⟨λh=>⟨(hix h).1,(hix h).2,λy hy=>by rw[hy]⟩,λh=>by rw[hno h]⟩
  all_goals
   have s3:¬Mod (ao L q1) 7=3:=by simpa using s3
   rw[if_neg s3]
  ·rw[if_pos (eq_of_beq s4)]
   exact⟨λh=>⟨(hix h).1,(hix h).2,λy hy=>by rw[hy]⟩,λh=>by rw[hno h]⟩
  all_goals
   have s4:¬Mod (ao L q1) 7=4:=by simpa using s4
   rw[if_neg s4]
  ·rw[if_pos (eq_of_beq s5)]
   exact⟨λh=>⟨(hix h).1,(hix h).2,λy hy=>by rw[hy];exact⟨by omega,rfl⟩⟩,λh=>by rw[hno h]⟩
  have s5:¬Mod (ao L q1) 7=5:=by simpa using s5
  rw[if_neg s5]
  refine⟨⟨0,rfl,by omega,by simp[qo]⟩,?_⟩
  rintro⟨i,rs⟩ ⟨j,hi,hj,hr⟩
  simp only at hi hr ⊢
  subst hi;subst hr
  refine⟨λf=>⟨by rw[List.length_append,jG,F3];omega,⟨j+1,by rw[dY (by omega)];omega,by omega,by rw[Cw,List.append_assoc]⟩,by rw[dY (by omega)];omega⟩,λf=>?_⟩
  obtain rfl:j=25:=by omega
  rfl
def M4(L:List Int)(p:Nat)(most:Int)(n:Int)(h:1≤most∧most≤20):HC Tryz.prog:=⟨9,[.k,.k,.k],[.ref 0 0,.int most,.int n],[.box (.agg [.sl 1 (L.map AV.int) false,.int p])],oM ((⟨L,(ba L p most n).2⟩:Tap),(ba L p most n).1),oN ((⟨L,(ba L p most n).2⟩:Tap),(ba L p most n).1),aH.of_okh λok ok2=>have ok:Di L p most n:=⟨ok,ok2 _ (by simp)⟩;(M3 L p most n h ok).elim λI0 h=>h.elim λm0 h=>h.elim λI1 h=>h.elim λm1 h=>h.elim λI2 h=>h.elim λm2 h=>h.elim λI3 h=>h.elim λI4 h=>h.elim λI5 h=>h.elim λm5 h=>dh (sh:=.k) (enc:=oM) (hB:=oN) (a:=(uS L p most n I0 m0 I1 m1 I2 m2 I3 I4 I5 m5).an) h (by kernel_rfl),ap (by kernel_rfl),fw.of (by simp[hcB,cV,AV.belB,allB,eN,dR,oM,oN,ab (v:=AV.int) (λ_=>rfl),ab (v:=Lnk.v) (λ_=>rfl),ab (v:=Rtr.v) (λ_=>rfl)])⟩
theorem mi{L:List Int}:∀{n:Nat} {i:Int} {out:List Int} {p:Nat},(nI L n i out p).1.length=out.length+n
 | 0,i,out,p=>rfl
 | n+1,i,out,p=>by
  have hm:=eo (x:=ao L p) (show 1≤(out.length:Int)+1 by omega)
  rw[nI,mi,fX _ _ _ (by omega)];omega
def nH(L:List Int)(c:Int)(rs:List Rtr):List Int→Int→List Edg→Nat→(Int×List Edg)×Nat
 | [],id,es,p=>((id,es),p)
 | o::l,id,es,p =>
  if Mod (ao L p) 4=0 then nH L c rs l id es (ae L p)
  else if W (id+aO [1,1,1,2,c] (ao L (ae L p)))≤256 then(match rs[o.toNat]? with
   | some r=>nH L c rs l (W (id+aO [1,1,1,2,c] (ao L (ae L p)))) (es++[⟨r.id,W (id+aO [1,1,1,2,c] (ao L (ae L p)))⟩]) (ae L (ae L p))
   | none=>((id,es),p))
  else nH L c rs l (W (id+aO [1,1,1,2,c] (ao L (ae L p)))) es (ae L (ae L p))
def nG(L:List Int)(p:Nat)(g:Tpl):(Int×List Edg)×Nat:=nH L (W (dT L (ae L p)-1)) g.rs (fU L g.rs.length (ae L (ae L p))).1 0 [] (fU L g.rs.length (ae L (ae L p))).2
def plaS(L:List Int)(p:Nat)(sub len:Int)(q:Int×List Edg):Pln×Nat:=
 if Mod (ao L p) 5=0 then(⟨dy L (ae L p),len,q.2⟩,ae L (ae L p))
 else if Mod (ao L p) 5=1 then(⟨sub,aO [0,8,24,64,128] (ao L (ae L p)),q.2⟩,ae L (ae L p))
 else if Mod (ao L p) 5=2 then(⟨sub,len,q.2++[⟨aO [0,1,99,100] (ao L (ae L p)),aO [0,1,256,257] (ao L (ae L (ae L p)))⟩]⟩,ae L (ae L (ae L p)))
 else if Mod (ao L p) 5=3 then(match q.2[0]? with
  | some y=>(⟨sub,len,q.2.set 0 ⟨y.router,dy L (ae L p)⟩⟩,ae L (ae L p))
  | none=>(⟨sub,len,q.2⟩,ae L p))
 else(⟨sub,len,q.2++[⟨50,W (q.1+1)⟩]⟩,ae L p)
def f8(L:List Int)(p:Nat)(g:Tpl)(n:Int):Pln×Nat:=
 if 0<n∧eC L (nG L p g).2 n=true then plaS L (ae L (nG L p g).2) (Mod (ao L p) 3) (dT L (ae L p)) (nG L p g).1
 else(⟨Mod (ao L p) 3,dT L (ae L p),(nG L p g).1.2⟩,if 0<n then ae L (nG L p g).2 else(nG L p g).2)
def Em(L:List Int)(p:Nat)(g:Tpl)(n:Int):=okL [.ref 0 0,.agg [.sl 2 (g.rs.map Rtr.v) false,.sl 5 (g.ls.map Lnk.v) false],.int n]∧(.box (.agg [.sl 1 (L.map AV.int) false,.int p]):Blk).ok
abbrev fB(L:List Int)(p:Nat)(g:Tpl):=(fU L ((g.rs.map Rtr.v).length:Int) (ae L (ae L p)))
def IZ(L:List Int)(p:Nat)(g:Tpl)(n:Int)(t0:Int×Nat×Int×List Edg):NF:=⟨[(0,.k,.ref 0 0),(2,.k,.int n),(4,.k,.ref 1 0),(6,.k,.ref 2 0),(7,.k,.ref 3 0),(8,.k,.int t0.2.2.1),(9,.k,.sl 1 (((fB L p g).1).map AV.int) false),(10,.k,.int t0.1)],[.box (.agg [.sl 1 (L.map AV.int) false,.int t0.2.1]),.box (.agg [.sl 2 (g.rs.map Rtr.v) false,.sl 5 (g.ls.map Lnk.v) false]),.box (.agg [.int 0,.int 0,.sl 0 [] true]),.box (.agg [.int (Mod (ao L p) 3),.int (dT L (ae L p)),.vec 4]),.vec 2 (t0.2.2.2.map Edg.v) (ab (λ_=>rfl) t0.2.2.2)]⟩
def IY(L:List Int)(p:Nat)(t0:Int×Nat×Int×List Edg)(t1:Bool×Nat):NF:=⟨[(0,.k,.ref 0 0),(6,.k,.ref 1 0),(7,.k,.ref 2 0),(8,.k,.int t0.2.2.1),(62,.k,.bool t1.1)],[.box (.agg [.sl 1 (L.map AV.int) false,.int t1.2]),.box (.agg [.int 0,.int 0,.sl 0 [] true]),.box (.agg [.int (Mod (ao L p) 3),.int (dT L (ae L p)),.vec 3]),.vec 2 (t0.2.2.2.map Edg.v) (ab (λ_=>rfl) t0.2.2.2)]⟩
@[reducible] def Ek:Nat→Type
 | 0=>Int×Nat×Int×List Edg
 | 1=>Bool×Nat
 | _=>Unit
def pj(r:Tap×Pln):AV:=.agg [.int r.2.sub,.int r.2.len,.sl 2 (r.2.es.map Edg.v) false]
def pk(r:Tap×Pln):List (Option Blk):=[some (.box (.agg [.sl 1 (r.1.L.map AV.int) false,.int r.1.p]))]
def vL(L:List Int)(p:Nat)(g:Tpl)(n:Int)(I0:(Int×Nat×Int×List Edg)→Prop)(m0:(Int×Nat×Int×List Edg)→Nat)(I1:Int×Nat×Int×List Edg→(Bool×Nat)→Prop):Ax Tryz.prog Ek (Tap×Pln):=
 (.callH [0] (c7 L p 3) 49
(.callH [0] (NU L (ae L p)) 81
(.req 225 (((g.rs.map Rtr.v).length:Int)≤1000) λh1 =>
(.callH [0] (Ny L (ae L (ae L p)) ((g.rs.map Rtr.v).length:Int) h1) 225
(.cmdL (.nilB 113 2 2) (.loop 0 (IZ L p g n) I0 m0 (0,(fB L p g).2,0,[]) [0,1,17,113,273] λ(t0:Int×Nat×Int×List Edg) b0 =>
(.br 69 (decide (t0.1<((((fB L p g).1).map AV.int).length:Int))) (.callH [0] (c7 L t0.2.1 4) 85
(.br 117 ((Mod (ao L t0.2.1) 4)==0) (.bk 0 b0 (W (t0.1+1),ae L t0.2.1,t0.2.2.1,t0.2.2.2) [0,1,2,3,4])
(.req 213 ([1,1,1,2,W ((dT L (ae L p))-1)]≠[]) λh2 =>
(.callH [0] (gw L (ae L t0.2.1) [1,1,1,2,W ((dT L (ae L p))-1)] h2) 213
(.br 293 (decide ((W (t0.2.2.1+(aO [1,1,1,2,W ((dT L (ae L p))-1)] (ao L (ae L t0.2.1)))))≤256)) (.el 389 AV.int ((fB L p g).1) (λR=>Rf (((fB L p g).1).map AV.int) (ck (decide (0≤t0.1)) (ck (decide (t0.1<(((fB L p g).1).length:Int)))
(∀x3,((fB L p g).1)[t0.1.toNat]?=some x3 →
(R x3))))) λx3 =>
(.el 421 Rtr.v g.rs (λR=>Rf (g.rs.map Rtr.v) (ck (decide (0≤x3)) (ck (decide (x3<(g.rs.length:Int)))
(∀x4,g.rs[x3.toNat]?=some x4 →
(R x4))))) λx4 =>
(.say (λR=>Rf (α:=List AV) (t0.2.2.2.map Edg.v) (Rf (α:=List AV) [.agg [.int x4.id,.int (W (t0.2.2.1+(aO [1,1,1,2,W ((dT L (ae L p))-1)] (ao L (ae L t0.2.1)))))]]
(ck (decide (t0.2.2.2.length+1≤1048576))
R))) (.app 517 Edg.v t0.2.2.2 [(⟨x4.id,W (t0.2.2.1+(aO [1,1,1,2,W ((dT L (ae L p))-1)] (ao L (ae L t0.2.1))))⟩:Edg)]
(.bk 0 b0 (W (t0.1+1),ae L (ae L t0.2.1),W (t0.2.2.1+(aO [1,1,1,2,W ((dT L (ae L p))-1)] (ao L (ae L t0.2.1)))),t0.2.2.2++[(⟨x4.id,W (t0.2.2.1+(aO [1,1,1,2,W ((dT L (ae L p))-1)] (ao L (ae L t0.2.1))))⟩:Edg)]) [0,1,2,3,517])))))
(.bk 0 b0 (W (t0.1+1),ae L (ae L t0.2.1),W (t0.2.2.1+(aO [1,1,1,2,W ((dT L (ae L p))-1)] (ao L (ae L t0.2.1)))),t0.2.2.2) [0,1,2,3,4]))))))
(.pass (.join 1 (IY L p t0) (λ(t1:Bool×Nat)=>I1 t0 t1) (λb1=>(.br 117 (decide (0<n)) (.callH [0] (jp L t0.2.1 n) 149
(.bk 1 b1 (eC L t0.2.1 n,ae L t0.2.1) [0,2,3,4]))
(.bk 1 b1 (false,t0.2.1) [0,2,3,4]))) λ(t1:Bool×Nat) =>
(.br 4 t1.1 (.callH [0] (c7 L t1.2 5) 20
(.br 68 ((Mod (ao L t1.2) 5)==0) (.callH [0] (lK L (ae L t1.2)) 84
(.say (Rf (t0.2.2.2.map Edg.v)) (.cmdL (.frzE 3 (t0.2.2.2.map Edg.v) (ab (λ_=>rfl) t0.2.2.2)) (.retH ((⟨L,ae L (ae L t1.2)⟩:Tap),(⟨dy L (ae L t1.2),dT L (ae L p),t0.2.2.2⟩:Pln)) ⟨[(6,.k,.ref 1 0)],[.box (.agg [.sl 1 (L.map AV.int) false,.int (((ae L (ae L t1.2)):Nat):Int)]),.box (.agg [.int (dy L (ae L t1.2)),.int (dT L (ae L p)),.sl 2 (t0.2.2.2.map Edg.v) false])]⟩ [0,1]))))
(.br 100 ((Mod (ao L t1.2) 5)==1) (.req 132 ([0,8,24,64,128]≠[]) λh5 =>
(.callH [0] (gw L (ae L t1.2) [0,8,24,64,128] h5) 132
(.say (Rf (t0.2.2.2.map Edg.v)) (.cmdL (.frzE 3 (t0.2.2.2.map Edg.v) (ab (λ_=>rfl) t0.2.2.2)) (.retH ((⟨L,ae L (ae L t1.2)⟩:Tap),(⟨Mod (ao L p) 3,aO [0,8,24,64,128] (ao L (ae L t1.2)),t0.2.2.2⟩:Pln)) ⟨[(6,.k,.ref 1 0)],[.box (.agg [.sl 1 (L.map AV.int) false,.int (((ae L (ae L t1.2)):Nat):Int)]),.box (.agg [.int (Mod (ao L p) 3),.int (aO [0,8,24,64,128] (ao L (ae L t1.2))),.sl 2 (t0.2.2.2.map Edg.v) false])]⟩ [0,1])))))
(.br 132 ((Mod (ao L t1.2) 5)==2) (.req 196 ([0,1,99,100]≠[]) λh6 =>
(.callH [0] (gw L (ae L t1.2) [0,1,99,100] h6) 196
(.req 244 ([0,1,256,257]≠[]) λh7 =>
(.callH [0] (gw L (ae L (ae L t1.2)) [0,1,256,257] h7) 244
(.say (λR=>Rf (α:=List AV) (t0.2.2.2.map Edg.v) (Rf (α:=List AV) [.agg [.int (aO [0,1,99,100] (ao L (ae L t1.2))),.int (aO [0,1,256,257] (ao L (ae L (ae L t1.2))))]]
(ck (decide (t0.2.2.2.length+1≤1048576))
R))) (.app 292 Edg.v t0.2.2.2 [(⟨aO [0,1,99,100] (ao L (ae L t1.2)),aO [0,1,256,257] (ao L (ae L (ae L t1.2)))⟩:Edg)]
(.say (Rf ((t0.2.2.2++[(⟨aO [0,1,99,100] (ao L (ae L t1.2)),aO [0,1,256,257] (ao L (ae L (ae L t1.2)))⟩:Edg)]).map Edg.v)) (.cmdL (.frzE 292 ((t0.2.2.2++[(⟨aO [0,1,99,100] (ao L (ae L t1.2)),aO [0,1,256,257] (ao L (ae L (ae L t1.2)))⟩:Edg)]).map Edg.v) (ab (λ_=>rfl) (t0.2.2.2++[(⟨aO [0,1,99,100] (ao L (ae L t1.2)),aO [0,1,256,257] (ao L (ae L (ae L t1.2)))⟩:Edg)]))) (.retH ((⟨L,ae L (ae L (ae L t1.2))⟩:Tap),(⟨Mod (ao L p) 3,dT L (ae L p),t0.2.2.2++[(⟨aO [0,1,99,100] (ao L (ae L t1.2)),aO [0,1,256,257] (ao L (ae L (ae L t1.2)))⟩:Edg)]⟩:Pln)) ⟨[(6,.k,.ref 1 0)],[.box (.agg [.sl 1 (L.map AV.int) false,.int (((ae L (ae L (ae L t1.2))):Nat):Int)]),.box (.agg [.int (Mod (ao L p) 3),.int (dT L (ae L p)),.sl 2 ((t0.2.2.2++[(⟨aO [0,1,99,100] (ao L (ae L t1.2)),aO [0,1,256,257] (ao L (ae L (ae L t1.2)))⟩:Edg)]).map Edg.v) false])]⟩ [0,1])))))))))
(.br 164 ((Mod (ao L t1.2) 5)==3) (.br 228 (decide (0<((t0.2.2.2.map Edg.v).length:Int))) (.callH [0] (lK L (ae L t1.2)) 276
(.say (ck (decide (0<((t0.2.2.2.map Edg.v).length:Int)))) (.st 324 Edg.v t0.2.2.2 (λy8=>(⟨y8.router,dy L (ae L t1.2)⟩:Edg)) (λR=>Rf (t0.2.2.2.map Edg.v) (ck (decide (0<t0.2.2.2.length))
(∀y8,t0.2.2.2[0]?=some y8→Rf (Edg.v (⟨y8.router,dy L (ae L t1.2)⟩:Edg))
((R y8))))) λy8 =>
(.say (Rf ((t0.2.2.2.set 0 (⟨y8.router,dy L (ae L t1.2)⟩:Edg)).map Edg.v)) (.cmdL (.frzE 3 ((t0.2.2.2.set 0 (⟨y8.router,dy L (ae L t1.2)⟩:Edg)).map Edg.v) (ab (λ_=>rfl) (t0.2.2.2.set 0 (⟨y8.router,dy L (ae L t1.2)⟩:Edg)))) (.retH ((⟨L,ae L (ae L t1.2)⟩:Tap),(⟨Mod (ao L p) 3,dT L (ae L p),t0.2.2.2.set 0 (⟨y8.router,dy L (ae L t1.2)⟩:Edg)⟩:Pln)) ⟨[(6,.k,.ref 1 0)],[.box (.agg [.sl 1 (L.map AV.int) false,.int (((ae L (ae L t1.2)):Nat):Int)]),.box (.agg [.int (Mod (ao L p) 3),.int (dT L (ae L p)),.sl 2 ((t0.2.2.2.set 0 (⟨y8.router,dy L (ae L t1.2)⟩:Edg)).map Edg.v) false])]⟩ [0,1]))))))
(.say (Rf (t0.2.2.2.map Edg.v)) (.cmdL (.frzE 3 (t0.2.2.2.map Edg.v) (ab (λ_=>rfl) t0.2.2.2)) (.retH ((⟨L,ae L t1.2⟩:Tap),(⟨Mod (ao L p) 3,dT L (ae L p),t0.2.2.2⟩:Pln)) ⟨[(6,.k,.ref 1 0)],[.box (.agg [.sl 1 (L.map AV.int) false,.int (ae L t1.2)]),.box (.agg [.int (Mod (ao L p) 3),.int (dT L (ae L p)),.sl 2 (t0.2.2.2.map Edg.v) false])]⟩ [0,1]))))
(.say (λR=>Rf (α:=List AV) (t0.2.2.2.map Edg.v) (Rf (α:=List AV) [.agg [.int 50,.int (W (t0.2.2.1+1))]]
(ck (decide (t0.2.2.2.length+1≤1048576))
R))) (.app 260 Edg.v t0.2.2.2 [(⟨50,W (t0.2.2.1+1)⟩:Edg)]
(.say (Rf ((t0.2.2.2++[(⟨50,W (t0.2.2.1+1)⟩:Edg)]).map Edg.v)) (.cmdL (.frzE 260 ((t0.2.2.2++[(⟨50,W (t0.2.2.1+1)⟩:Edg)]).map Edg.v) (ab (λ_=>rfl) (t0.2.2.2++[(⟨50,W (t0.2.2.1+1)⟩:Edg)]))) (.retH ((⟨L,ae L t1.2⟩:Tap),(⟨Mod (ao L p) 3,dT L (ae L p),t0.2.2.2++[(⟨50,W (t0.2.2.1+1)⟩:Edg)]⟩:Pln)) ⟨[(6,.k,.ref 1 0)],[.box (.agg [.sl 1 (L.map AV.int) false,.int (ae L t1.2)]),.box (.agg [.int (Mod (ao L p) 3),.int (dT L (ae L p)),.sl 2 ((t0.2.2.2++[(⟨50,W (t0.2.2.1+1)⟩:Edg)]).map Edg.v) false])]⟩ [0,1]))))))))))
(.say (Rf (t0.2.2.2.map Edg.v)) (.cmdL (.frzE 3 (t0.2.2.2.map Edg.v) (ab (λ_=>rfl) t0.2.2.2)) (.retH ((⟨L,t1.2⟩:Tap),(⟨Mod (ao L p) 3,dT L (ae L p),t0.2.2.2⟩:Pln)) ⟨[(6,.k,.ref 1 0)],[.box (.agg [.sl 1 (L.map AV.int) false,.int t1.2]),.box (.agg [.int (Mod (ao L p) 3),.int (dT L (ae L p)),.sl 2 (t0.2.2.2.map Edg.v) false])]⟩ [0,1])))))))))))))
def zL(L:List Int)(p:Nat)(g:Tpl)(n:Int)(I0:(Int×Nat×Int×List Edg)→Prop)(m0:(Int×Nat×Int×List Edg)→Nat)(I1:Int×Nat×Int×List Edg→(Bool×Nat)→Prop)(r0:Tap×Pln):=(vL L p g n I0 m0 I1).vc pj pk r0
theorem Nk(L:List Int)(p:Nat)(g:Tpl)(n:Int)(h:g.rs.length≤100)(ok:Em L p g n):∃I0 m0 I1,zL L p g n I0 m0 I1 ((⟨L,(f8 L p g n).2⟩:Tap),(f8 L p g n).1):=by
 refine⟨λs=>∃j:Nat,s.1=j∧j≤(fU L g.rs.length (ae L (ae L p))).1.length∧s.2.2.2.length≤j∧nH L (W (dT L (ae L p)-1)) g.rs ((fU L g.rs.length (ae L (ae L p))).1.drop j) s.2.2.1 s.2.2.2 s.2.1=nG L p g,
  λs=>(fU L g.rs.length (ae L (ae L p))).1.length-s.1.toNat,λs b=>b=(decide (0<n∧eC L s.2.1 n=true),if 0<n then ae L s.2.1 else s.2.1),?_⟩
 dsimp only[zL,vL,Ek,fB,Ax.vp,Ax.vc];simp only[vcU,rfU,List.length_map]
 obtain⟨f1,f2⟩:=vU (L:=L) (n:=(g.rs.length:Int)) (p:=ae L (ae L p)) (by omega)
 have f3:(fU L (g.rs.length:Int) (ae L (ae L p))).1.length=g.rs.length:=by
  unfold fU
  rw[mi];simp
 refine⟨by omega,⟨0,rfl,Nat.zero_le _,by simp,rfl⟩,?_⟩
 unfold f8
 generalize nG L p g=R
 generalize (fU L (g.rs.length:Int) (ae L (ae L p))).1=o at f1 f2 f3 ⊢
 rintro⟨i,q,id,es⟩ ⟨j,hi,hj,hle,hr⟩
 simp only at hi hle hr ⊢
 subst hi
 refine⟨λc=>?_,λc=>?_⟩
 ·have hx:=List.getElem?_eq_getElem (show j<o.length by omega)
  have hd:o.drop j=o[j]'(by omega)::o.drop (j+1):=List.drop_eq_getElem_cons (by omega)
  have hm:=f2 (o[j]'(by omega)) (List.getElem_mem _)
  generalize o[j]'(by omega)=x at hx hd hm
  rw[hd,nH]at hr
  rw[bx (n:=o.length) (by omega) (by omega)]
  refine⟨λe=>?_,λe=>⟨by simp,λe2=>?_,λe2=>?_⟩⟩
  ·rw[if_pos (eq_of_beq e)]at hr
   exact⟨⟨j+1,rfl,by omega,by omega,hr⟩,by omega⟩
  ·rw[if_neg (by simpa using e),if_pos e2]at hr
   refine⟨by omega,c,λx3 h3=>?_⟩
   rw[Int.toNat_natCast,hx]at h3;cases h3
   refine⟨hm.1,hm.2,λr h4=>?_⟩
   rw[h4]at hr
   exact⟨by omega,⟨j+1,rfl,by omega,by simp;omega,hr⟩,by omega⟩
  ·rw[if_neg (by simpa using e),if_neg e2]at hr
   exact⟨⟨j+1,rfl,by omega,by omega,hr⟩,by omega⟩
 ·have e1:o.drop j=[]:=List.drop_eq_nil_of_le (by omega)
  rw[e1,nH]at hr
  rw[←hr]
  have hle2:es.length≤1000:=by omega
  refine⟨⟨λc2=>?_,λc2=>?_⟩,?_⟩
  ·rw[if_pos c2]
   refine Prod.ext ?_ rfl
   rw[Bool.eq_iff_iff];simp[c2]
  ·rw[if_neg c2]
   refine Prod.ext ?_ rfl
   rw[Bool.eq_iff_iff];simp[c2]
  rintro _ rfl
  simp only
  refine⟨λe=>?_,λe=>by rw[if_neg (of_decide_eq_false e)]⟩
  have e:=of_decide_eq_true e
  rw[if_pos e,if_pos e.1]
  generalize ae L q=q1
  unfold plaS
  simp only
  refine⟨λs0=>by rw[if_pos (eq_of_beq s0)],λs0=>?_⟩
  rw[if_neg (by simpa using s0)]
  refine⟨λs1=>by rw[if_pos (eq_of_beq s1)];exact⟨by simp,rfl⟩,λs1=>?_⟩
  rw[if_neg (by simpa using s1)]
  refine⟨λs2=>by rw[if_pos (eq_of_beq s2)];exact⟨by simp,by simp,by omega,rfl⟩,λs2=>?_⟩
  rw[if_neg (by simpa using s2)]
  refine⟨λs3=>?_,λs3=>?_⟩
  ·rw[if_pos (eq_of_beq s3)]
   refine⟨λh=>⟨h,by omega,λy hy=>by rw[hy]⟩,λh=>by rw[List.getElem?_eq_none (by omega)]⟩
  ·rw[if_neg (by simpa using s3)]
   exact⟨by omega,rfl⟩
def Nl(L:List Int)(p:Nat)(g:Tpl)(n:Int)(h:g.rs.length≤100):HC Tryz.prog:=⟨18,[.k,(.a [(.s 2),(.s 5)]),.k],[.ref 0 0,.agg [.sl 2 (g.rs.map Rtr.v) false,.sl 5 (g.ls.map Lnk.v) false],.int n],[.box (.agg [.sl 1 (L.map AV.int) false,.int p])],pj ((⟨L,(f8 L p g n).2⟩:Tap),(f8 L p g n).1),pk ((⟨L,(f8 L p g n).2⟩:Tap),(f8 L p g n).1),aH.of_okh λok ok2=>have ok:Em L p g n:=⟨ok,ok2 _ (by simp)⟩;(Nk L p g n h ok).elim λI0 h=>h.elim λm0 h=>h.elim λI1 h=>dh (sh:=(.a [.k,.k,(.s 2)])) (enc:=pj) (hB:=pk) (a:=(vL L p g n I0 m0 I1).an) h (by kernel_rfl),ap (by kernel_rfl),fw.of (by simp[hcB,cV,AV.belB,allB,eN,dR,pj,pk,ab (v:=AV.int) (λ_=>rfl),ab (v:=Lnk.v) (λ_=>rfl),ab (v:=Rtr.v) (λ_=>rfl)])⟩
def xI(t:Tpl)(r:Int):Bool:=(aJ t==0) && (match t.rs.find? (isR r)with
 | some x=>x.cap
 | none=>false)
def Ga(t:Tpl)(r:Int):=okL [.agg [.sl 2 (t.rs.map Rtr.v) false,.sl 5 (t.ls.map Lnk.v) false],.int r]
def Ks(t:Tpl)(r:Int)(t0:Int):NF:=⟨[(1,.k,.int r),(2,.k,.ref 0 0),(5,.k,.int t0)],[.box (.agg [.sl 2 (t.rs.map Rtr.v) false,.sl 5 (t.ls.map Lnk.v) false])]⟩
@[reducible] def FY:Nat→Type
 | 0=>Int
 | _=>Unit
def xK(r:Bool):AV:=.bool r
def xJ(t:Tpl)(r:Int)(I0:Int→Prop)(m0:Int→Nat):Ax Tryz.prog FY (Bool):=
 (.callP (yn t)
(.br 80 ((aJ t) != 0) (.ret (false))
(.loop 0 (Ks t r) I0 m0 ((0):Int) [0] λ(t0:Int) b0 =>
(.br 81 (decide (t0<((t.rs.map Rtr.v).length:Int))) (.el 129 Rtr.v t.rs (λR=>Rf (t.rs.map Rtr.v) (ck (decide (0≤t0)) (ck (decide (t0<(t.rs.length:Int)))
(∀x1,t.rs[t0.toNat]?=some x1 →
(R x1))))) λx1 =>
(.br 209 (x1.id==r) (.el 257 Rtr.v t.rs (λR=>Rf (t.rs.map Rtr.v) (ck (decide (0≤t0)) (ck (decide (t0<(t.rs.length:Int)))
(∀x2,t.rs[t0.toNat]?=some x2 →
(R x2))))) λx2 =>
(.ret (x2.cap)))
(.bk 0 b0 ((W (t0+1)):Int) [0])))
(.ret (false))))))
def Bh(t:Tpl)(r:Int)(I0:Int→Prop)(m0:Int→Nat)(r0:Bool):=(xJ t r I0 m0).vp xK r0
theorem Pj(t:Tpl)(r:Int)(ok:Ga t r):∃I0 m0,Bh t r I0 m0 (xI t r):=by
 refine⟨λi=>aL t.rs (λx=>isR r x=false) i,λi=>t.rs.length-i.toNat,?_⟩
 simp only[Ga,okU,Blk.ok,aK,List.length_map]at ok
 dsimp only[Bh,xJ,FY,Ax.vp,Ax.vc];simp only[vcU,rfU,List.length_map]
 unfold xI
 by_cases hc:aJ t=0
 case neg=>exact⟨λ_=>by rw[beq_eq_false_iff_ne.mpr hc];rfl,λh=>by simp[hc]at h⟩
 refine⟨λh=>by simp[hc]at h,λ_=>⟨aL.zero,λi h=>⟨λc=>⟨h.idx,c,λx hx=>⟨λq=>⟨h.idx,c,λy hy=>?_⟩,λq=>h.step (by omega) hx q⟩⟩,λc=>?_⟩⟩⟩
 ·rw[hx]at hy;cases hy
  rw[lD h hx q,hc];simp
 ·rw[qn h c,hc];rfl
def FZ(t:Tpl)(r:Int):PC Tryz.prog:=⟨101,[(.a [(.s 2),(.s 5)]),.k],[.agg [.sl 2 (t.rs.map Rtr.v) false,.sl 5 (t.ls.map Lnk.v) false],.int r],xK (xI t r),aw.of_ok λok=>(Pj t r ok).elim λI0 h=>h.elim λm0 h=>av (sh:=.k) (enc:=xK) (a:=(xJ t r I0 m0).an) h (by kernel_rfl) (AV.pureB_ok rfl),ap (by kernel_rfl)⟩
def Ef(l:List Int)(n:Int):Nat:=l.findIdx λx=>!decide (x<n)
def sY(l:List Int)(n:Int):List Int:=if l[Ef l n]?=some n then l else bM l (Ef l n) n
def Oc(l:List Int)(n:Int):=okL [.sl 1 (l.map AV.int) false,.int n]
def JG(l:List Int)(n:Int)(t0:Int):NF:=⟨[(0,.k,.sl 1 (l.map AV.int) false),(1,.k,.int n),(5,.k,.int t0)],[]⟩
def JF(l:List Int)(n:Int)(t0:Int)(t1:Bool):NF:=⟨[(0,.k,.sl 1 (l.map AV.int) false),(1,.k,.int n),(5,.k,.int t0),(18,.k,.bool t1)],[]⟩
def JE(l:List Int)(n:Int)(t0:Int)(t2:Bool):NF:=⟨[(0,.k,.sl 1 (l.map AV.int) false),(1,.k,.int n),(5,.k,.int t0),(32,.k,.bool t2)],[]⟩
@[reducible] def EX:Nat→Type
 | 0=>Int
 | 1=>Bool
 | 2=>Bool
 | _=>Unit
def wD(r:List Int):AV:=.sl 1 (r.map AV.int) false
def wC(l:List Int)(n:Int)(I0:Int→Prop)(m0:Int→Nat)(I1:Int→Bool→Prop)(I2:Int→Bool→Bool→Prop):Ax Tryz.prog EX ((List Int)):=
 (.loop 0 (JG l n) I0 m0 ((0):Int) [] λ(t0:Int) b0 =>
(.pass (.join 1 (JF l n t0) (λ(t1:Bool)=>I1 t0 t1) (λb1=>(.br 80 (decide (t0<((l.map AV.int).length:Int))) (.el 112 AV.int l (λR=>Rf (l.map AV.int) (ck (decide (0≤t0)) (ck (decide (t0<(l.length:Int)))
(∀x1,l[t0.toNat]?=some x1 →
(R x1))))) λx1 =>
(.bk 1 b1 ((decide (x1<n)):Bool) []))
(.bk 1 b1 ((false):Bool) []))) λ(t1:Bool) =>
(.br 0 t1 (.bk 0 b0 ((W (t0+1)):Int) [])
(.pass (.join 2 (JE l n t0) (λ(t2:Bool)=>I2 t0 t1 t2) (λb2=>(.br 80 (decide (t0<((l.map AV.int).length:Int))) (.el 112 AV.int l (λR=>Rf (l.map AV.int) (ck (decide (0≤t0)) (ck (decide (t0<(l.length:Int)))
(∀x2,l[t0.toNat]?=some x2 →
(R x2))))) λx2 =>
(.bk 2 b2 ((x2==n):Bool) []))
(.bk 2 b2 ((false):Bool) []))) λ(t2:Bool) =>
(.br 0 t2 (.ret (l))
(.say (λR=>Rf (α:=List AV) (l.map AV.int) (ck (f9 l.length 0 t0 (l.length:Int))
R)) (.sub 64 AV.int l false
(.say (λR=>Rf (α:=List AV) [] (Rf (α:=List AV) (((l.take t0.toNat).drop 0).map AV.int)
(ck (decide (0+((l.take t0.toNat).drop 0).length≤1048576))
R))) (.app 80 AV.int [] ((l.take t0.toNat).drop 0)
(.say (λR=>Rf (α:=List AV) (((l.take t0.toNat).drop 0).map AV.int) (Rf (α:=List AV) [.int n]
(ck (decide (((l.take t0.toNat).drop 0).length+1≤1048576))
R))) (.app 160 AV.int ((l.take t0.toNat).drop 0) [n]
(.say (λR=>Rf (α:=List AV) (l.map AV.int) (ck (f9 l.length t0 (l.length:Int) (l.length:Int))
R)) (.sub 240 AV.int l false
(.say (λR=>Rf (α:=List AV) ((((l.take t0.toNat).drop 0)++[n]).map AV.int) (Rf (α:=List AV) (((l.take ((l.length:Int).toNat)).drop t0.toNat).map AV.int)
(ck (decide ((((l.take t0.toNat).drop 0)++[n]).length+((l.take ((l.length:Int).toNat)).drop t0.toNat).length≤1048576))
R))) (.app 256 AV.int (((l.take t0.toNat).drop 0)++[n]) ((l.take ((l.length:Int).toNat)).drop t0.toNat)
(.say (Rf (((((l.take t0.toNat).drop 0)++[n])++((l.take ((l.length:Int).toNat)).drop t0.toNat)).map AV.int)) (.cmdL (.frzE 256 (((((l.take t0.toNat).drop 0)++[n])++((l.take ((l.length:Int).toNat)).drop t0.toNat)).map AV.int) (ab (λ_=>rfl) ((((l.take t0.toNat).drop 0)++[n])++((l.take ((l.length:Int).toNat)).drop t0.toNat)))) (.ret ((((l.take t0.toNat).drop 0)++[n])++((l.take ((l.length:Int).toNat)).drop t0.toNat))))))))))))))))))))))
def A3(l:List Int)(n:Int)(I0:Int→Prop)(m0:Int→Nat)(I1:Int→Bool→Prop)(I2:Int→Bool→Bool→Prop)(r0:List Int):=(wC l n I0 m0 I1 I2).vp wD r0
theorem Oa(l:List Int)(n:Int)(h:l.length≤100000)(ok:Oc l n):∃I0 m0 I1 I2,A3 l n I0 m0 I1 I2 (sY l n):=by
 refine⟨λi=>aL l (λx=>x<n) i,λi=>l.length-i.toNat,λi b=>b=true↔∃x,l[i.toNat]?=some x∧x<n,λi _ b=>b=true↔l[i.toNat]?=some n,?_⟩
 dsimp only[A3,wC,EX,Ax.vp,Ax.vc];simp only[vcU,rfU,List.length_map]
 refine⟨aL.zero,λt hI=>?_⟩
 obtain⟨j,rfl,hj,ha⟩:=hI
 have hI:aL l (λx=>x<n) ((j:Nat):Int):=⟨j,rfl,hj,ha⟩
 simp only[Int.toNat_natCast]
 refine⟨⟨λc=>⟨by omega,c,λx hx=>⟨λq=>⟨x,hx,q⟩,λ⟨y,hy,q⟩=>by rw[hx]at hy;cases hy;exact q⟩⟩,λc=>⟨nofun,λ⟨y,hy,_⟩=>by have:=aq hy;omega⟩⟩,λb hb=>⟨λe=>?_,λe=>?_⟩⟩
 ·obtain⟨x,hx,q⟩:=hb.mp e
  exact hI.step (by omega) (by rw[Int.toNat_natCast];exact hx) q
 ·have hp:Ef l n=j:=by
   unfold Ef
   by_cases ee:j=l.length
   ·subst ee
    rw[List.take_length]at ha
    rw[List.findIdx_eq_length]
    intro y hy
    simp[ha y hy]
   ·rw[List.findIdx_eq (by omega)]
    refine⟨?_,λi hi=>?_⟩
    ·have:¬l[j]'(by omega)<n:=λq=>by
      have:=hb.mpr ⟨_,List.getElem?_eq_getElem (by omega),q⟩
      rw[e]at this;cases this
     simpa using this
    ·have:=ha (l[i]'(by omega)) (List.mem_take_iff_getElem.mpr ⟨i,by omega,rfl⟩)
     simp[this]
  refine⟨⟨λc=>⟨by omega,c,λx hx=>?_⟩,λc=>⟨nofun,λq=>by have:=aq q;omega⟩⟩,λb2 hb2=>⟨λe2=>?_,λe2=>?_⟩⟩
  ·rw[hx,beq_iff_eq];exact⟨λq=>by rw[q],λq=>Option.some.inj q⟩
  ·rw[sY,hp,if_pos (hb2.mp e2)]
  ·have h2:¬l[j]?=some n:=λq=>by rw[hb2.mpr q]at e2;cases e2
   have hi:(((l.take j).drop 0)++[n])++((l.take l.length).drop j)=bM l j n:=by have:=kE (l:=l) (k:=j) (x:=n);rwa [Int.toNat_natCast]at this
   rw[hi,sY,hp,if_neg h2]
   exact⟨by simp[f9];omega,by simp;omega,by simp;omega,by simp[f9];omega,by simp;omega,rfl⟩
def Ob(l:List Int)(n:Int)(h:l.length≤100000):PC Tryz.prog:=⟨93,[(.s 1),.k],[.sl 1 (l.map AV.int) false,.int n],wD (sY l n),aw.of_ok λok=>(Oa l n h ok).elim λI0 h=>h.elim λm0 h=>h.elim λI1 h=>h.elim λI2 h=>av (sh:=(.s 1)) (enc:=wD) (a:=(wC l n I0 m0 I1 I2).an) h (by kernel_rfl) (AV.pureB_ok rfl),ap (by kernel_rfl)⟩
theorem sX(l:List Int)(n:Int):(sY l n).length≤l.length+1:=by
 unfold sY
 split
 ·omega
 ·rw[fX _ _ _ (show Ef l n≤l.length from List.findIdx_le_length)];exact Nat.le_refl _
def fZ(t:Tpl)(s:List Int×List Int)(q:Int):List Int×List Int:=if xI t q=true then(s.1,sY s.2 q)else if q∈s.1 then s else(s.1++[q],s.2)
def tj(t:Tpl)(d:List Int):Nat→Nat→List Int→List Int→List Int
 | 0,_,_,out=>out
 | f+1,i,seen,out=>match seen[i]? with
  | some x=>tj t d f (i+1) ((cN t d x).foldl (fZ t) (seen,out)).1 ((cN t d x).foldl (fZ t) (seen,out)).2
  | none=>out
def iz(t:Tpl)(f g:Int):List Int:=if hs5 t f=false∨hs5 t g=false∨f=g then []else tj t (to6 t g) 25 0 [f] []
def Om(t:Tpl)(from_:Int)(to_:Int):=okL [.agg [.sl 2 (t.rs.map Rtr.v) false,.sl 5 (t.ls.map Lnk.v) false],.int from_,.int to_]
def JK(t:Tpl)(from_:Int)(to_:Int)(t0:Bool):NF:=⟨[(1,.k,.int from_),(2,.k,.int to_),(3,.k,.ref 0 0),(27,.k,.bool t0)],[.box (.agg [.sl 2 (t.rs.map Rtr.v) false,.sl 5 (t.ls.map Lnk.v) false])]⟩
def JJ(t:Tpl)(to_:Int)(t1:List Int×Int×List Int):NF:=⟨[(3,.k,.ref 0 0),(7,.k,.sl 1 ((to6 t to_).map AV.int) false),(8,.k,.vec 1),(9,(.s 1),.sl 1 (t1.1.map AV.int) false),(10,.k,.int t1.2.1)],[.box (.agg [.sl 2 (t.rs.map Rtr.v) false,.sl 5 (t.ls.map Lnk.v) false]),.vec 1 (t1.2.2.map AV.int) (ab (λ_=>rfl) t1.2.2)]⟩
def JI(t:Tpl)(to_:Int)(t1:List Int×Int×List Int)(x2:Int)(t2:List Int×Int×List Int):NF:=⟨[(3,.k,.ref 0 0),(7,.k,.sl 1 ((to6 t to_).map AV.int) false),(8,.k,.vec 1),(9,(.s 1),.sl 1 (t2.1.map AV.int) false),(10,.k,.int t1.2.1),(11,.k,.sl 1 ((cN t (to6 t to_) x2).map AV.int) false),(12,.k,.int t2.2.1)],[.box (.agg [.sl 2 (t.rs.map Rtr.v) false,.sl 5 (t.ls.map Lnk.v) false]),.vec 1 (t2.2.2.map AV.int) (ab (λ_=>rfl) t2.2.2)]⟩
@[reducible] def Fk:Nat→Type
 | 0=>Bool
 | 1=>(List Int)×Int×List Int
 | 2=>(List Int)×Int×List Int
 | _=>Unit
def wL(r:List Int):AV:=.sl 1 (r.map AV.int) false
def wK(t:Tpl)(from_:Int)(to_:Int)(I0:Bool→Prop)(I1:Bool→(List Int×Int×List Int)→Prop)(m1:Bool→(List Int×Int×List Int)→Nat)(I2:Bool→(List Int)×Int×List Int→Int→(List Int×Int×List Int)→Prop)(m2:Bool→(List Int)×Int×List Int→Int→(List Int×Int×List Int)→Nat):Ax Tryz.prog Fk ((List Int)):=
 (.pass (.pass (.join 0 (JK t from_ to_) (λ(t0:Bool)=>I0 t0) (λb0=>(.callP (Mb t from_)
(.br 112 (!(hs5 t from_)) (.bk 0 b0 ((true):Bool) [0])
(.callP (Mb t to_)
(.br 208 (!(hs5 t to_)) (.bk 0 b0 ((true):Bool) [0])
(.bk 0 b0 ((from_==to_):Bool) [0])))))) λ(t0:Bool) =>
(.br 1 t0 (.ret ([]))
(.req 33 (aJ t=0) λh1 =>
(.callP (to6_c t to_ h1)
(.own 81 (.loop 1 (JJ t to_) (I1 t0) (m1 t0) ([],0,[from_]) [0,81] λ(t1:List Int×Int×List Int) b1 =>
(.br 66 (decide (t1.2.1<((t1.2.2.map AV.int).length:Int))) (.say (ck (cond (decide (0≤t1.2.1)) (decide (t1.2.1<((t1.2.2.map AV.int).length:Int))) false)) (.el 146 AV.int t1.2.2 (λR=>Rf (t1.2.2.map AV.int) (ck (decide (t1.2.1.toNat<t1.2.2.length))
(∀x2,t1.2.2[t1.2.1.toNat]?=some x2 →
(R x2)))) λx2 =>
(.req 162 (okD t (to6 t to_)) λh3 =>
(.callP (ME t (to6 t to_) x2 h3)
(.loop 2 (JI t to_ t1 x2) (I2 t0 t1 x2) (m2 t0 t1 x2) (t1.1,0,t1.2.2) [0,1] λ(t2:List Int×Int×List Int) b2 =>
(.br 66 (decide (t2.2.1<(((cN t (to6 t to_) x2).map AV.int).length:Int))) (.el 114 AV.int (cN t (to6 t to_) x2) (λR=>Rf ((cN t (to6 t to_) x2).map AV.int) (ck (decide (0≤t2.2.1)) (ck (decide (t2.2.1<((cN t (to6 t to_) x2).length:Int)))
(∀x4,(cN t (to6 t to_) x2)[t2.2.1.toNat]?=some x4 →
(R x4))))) λx4 =>
(.callP (FZ t x4)
(.br 162 (xI t x4) (.el 210 AV.int (cN t (to6 t to_) x2) (λR=>Rf ((cN t (to6 t to_) x2).map AV.int) (ck (decide (0≤t2.2.1)) (ck (decide (t2.2.1<((cN t (to6 t to_) x2).length:Int)))
(∀x5,(cN t (to6 t to_) x2)[t2.2.1.toNat]?=some x5 →
(R x5))))) λx5 =>
(.req 242 (t2.1.length≤100000) λh6 =>
(.callP (Ob t2.1 x5 h6)
(.bk 2 b2 (sY t2.1 x5,W (t2.2.1+1),t2.2.2) [0,1]))))
(.el 210 AV.int (cN t (to6 t to_) x2) (λR=>Rf ((cN t (to6 t to_) x2).map AV.int) (ck (decide (0≤t2.2.1)) (ck (decide (t2.2.1<((cN t (to6 t to_) x2).length:Int)))
(∀x7,(cN t (to6 t to_) x2)[t2.2.1.toNat]?=some x7 →
(R x7))))) λx7 =>
(.callP (wU t2.2.2 x7)
(.say (ck (cD [(t2.2.2.map AV.int)])) (.br 274 (!(decide (x7∈t2.2.2))) (.el 322 AV.int (cN t (to6 t to_) x2) (λR=>Rf ((cN t (to6 t to_) x2).map AV.int) (ck (decide (0≤t2.2.1)) (ck (decide (t2.2.1<((cN t (to6 t to_) x2).length:Int)))
(∀x8,(cN t (to6 t to_) x2)[t2.2.1.toNat]?=some x8 →
(R x8))))) λx8 =>
(.own 354 (.say (λR=>Rf (α:=List AV) (t2.2.2.map AV.int) (Rf (α:=List AV) [.int x8]
(ck (decide (t2.2.2.length+1≤1048576))
R))) (.app 370 AV.int t2.2.2 [x8]
(.bk 2 b2 (t2.1,W (t2.2.1+1),t2.2.2++[x8]) [0,370])))))
(.bk 2 b2 (t2.1,W (t2.2.1+1),t2.2.2) [0,1]))))))))
(.bk 1 b1 (t2.1,W (t1.2.1+1),t2.2.2) [0,1])))))))
(.ret (t1.1)))))))))))
def A7(t:Tpl)(from_:Int)(to_:Int)(I0:Bool→Prop)(I1:Bool→(List Int×Int×List Int)→Prop)(m1:Bool→(List Int×Int×List Int)→Nat)(I2:Bool→(List Int)×Int×List Int→Int→(List Int×Int×List Int)→Prop)(m2:Bool→(List Int)×Int×List Int→Int→(List Int×Int×List Int)→Nat)(r0:List Int):=(wK t from_ to_ I0 I1 m1 I2 m2).vp wL r0
structure nD (t:Tpl) (b:Nat) (s:List Int×List Int):Prop where
  nd:s.1.Nodup
  ha:∀x∈s.1,aI t x=true
  le:s.2.length≤b
theorem nD.len{t:Tpl}{b:Nat}{s:List Int×List Int}(h:nD t b s):s.1.length≤t.rs.length:=by
 have:=List.Nodup.length_le_of_subset h.nd (l₂:=t.rs.map (·.id)) λx hx=>bv.mpr (h.ha x hx)
 rwa [List.length_map]at this
theorem nD.one{t:Tpl}{b:Nat}{s:List Int×List Int}(h:nD t b s){q:Int}(hq:aI t q=true):nD t (b+1) (fZ t s q):=by
 unfold fZ
 split
 ·exact⟨h.nd,h.ha,Nat.le_trans (sX _ _) (by have:=h.le;omega)⟩
 ·split
  ·exact⟨h.nd,h.ha,by have:=h.le;omega⟩
  ·rename_i hn
   refine⟨List.nodup_append.mpr ⟨h.nd,by simp,λa ha b hb=>by rw[List.mem_singleton.mp hb];rintro rfl;exact hn ha⟩,λx hx=>?_,by have:=h.le;simp only;omega⟩
   rcases List.mem_append.mp hx with hx|hx
   ·exact h.ha x hx
   ·rw[List.mem_singleton.mp hx];exact hq
theorem nD.fold{t:Tpl}:∀{l:List Int} {b:Nat} {s:List Int×List Int},nD t b s→(∀q∈l,aI t q=true)→nD t (b+l.length) (l.foldl (fZ t) s)
 | [],b,s,h,_=>h
 | q::l,b,s,h,hs=>by
  have:=nD.fold (l:=l) (h.one (hs q (by simp))) λx hx=>hs x (by simp[hx])
  rw[List.foldl_cons,List.length_cons,show b+(l.length+1)=b+1+l.length by omega]
  exact this
theorem Dq{t:Tpl}(hc:aJ t=0){g f q:Int}(h:q∈cN t (to6 t g) f):aI t q=true:=by
 obtain⟨_,x,hx,e⟩:=Ic hc (M5 hc) h
 exact eE.mpr ⟨x,hx,e⟩
theorem rX(t:Tpl)(d:List Int)(f:Int):(cN t d f).length≤t.rs.length:=by
 unfold cN;split
 ·simp
 ·exact Nat.le_trans (List.length_filter_le _ _) sJ
theorem Ok(t:Tpl)(f g:Int)(ok:Om t f g):∃I0 I1 m1 I2 m2,A7 t f g I0 I1 m1 I2 m2 (iz t f g):=by
  refine⟨λb=>b=decide (hs5 t f=false∨hs5 t g=false∨f=g),λ_ s=>∃k:Nat,s.2.1=k∧k≤s.2.2.length∧nD t (30 * k) (s.2.2,s.1)∧tj t (to6 t g) (25-k) k s.2.2 s.1=iz t f g,λ_ s=>25-s.2.1.toNat,
    λ_ s0 x s=>∃j:Nat,s.2.1=j∧j≤(cN t (to6 t g) x).length∧(s.2.2,s.1)=((cN t (to6 t g) x).take j).foldl (fZ t) (s0.2.2,s0.1),λ_ _ x s=>(cN t (to6 t g) x).length-s.2.1.toNat,?_⟩
  dsimp only[A7,wK,Fk,Ax.vp,Ax.vc];simp only[vcU,rfU,List.length_map]
  refine ⟨⟨fun c => by have c : hs5 t f = false := by simpa using c
                       simp [c], fun c => ⟨fun d => by have d : hs5 t g = false := by simpa using d
                                                       simp[d],λd=>?_⟩⟩,?_⟩
  · have c:hs5 t f=true:=by simpa using c
    have d:hs5 t g=true:=by simpa using d
    rw[Bool.eq_iff_iff];simp[c,d]
  rintro _ rfl
  refine⟨λc=>by rw[iz,if_pos (of_decide_eq_true c)],λc=>?_⟩
  have c:=of_decide_eq_false c
  have hf:hs5 t f=true:=by
    cases q:hs5 t f
    · exact absurd (.inl q) c
    · rfl
  have hc:=(eX.mp hf).1
  have hR:=(aC hc).nr
  have hD:okD t (to6 t g):=⟨HU,by omega⟩
  refine⟨hc,⟨0,rfl,by simp,⟨by simp,by simp;exact(eX.mp hf).2,by simp⟩,by rw[iz,if_neg c]⟩,?_⟩
  rintro⟨out,i,seen⟩ ⟨k,hi,hk,hI,hO⟩
  simp only at hi hk hO ⊢
  subst hi
  have hsl:=hI.len
  simp only at hsl
  refine⟨λd=>?_,λd=>?_⟩
  · rw[Int.toNat_natCast]
    refine⟨dg (by omega) d,by omega,λx hx=>⟨hD,⟨0,rfl,by omega,rfl⟩,?_⟩⟩
    have hnl:=rX t (to6 t g) x
    have hnh:=λq (h:q∈cN t (to6 t g) x)=>Dq hc h
    have e:25-k=(25-(k+1))+1:=by omega
    rw[e,tj,hx]at hO
    simp only at hO
    generalize cN t (to6 t g) x=n at hnl hnh hO ⊢
    rintro⟨o2,j0,s2⟩ ⟨j,hj0,hj,hs⟩
    simp only at hj0 hs ⊢
    subst hj0
    have hI2:nD t (30 * k+j) (s2,o2):=by
      have:=hI.fold (l:=n.take j) λq hq=>hnh q (List.mem_of_mem_take hq)
      rw[←hs,List.length_take,Nat.min_eq_left hj]at this
      exact this
    have hle:=hI2.le
    have hsl2:=hI2.len
    simp only at hle hsl2
    refine⟨λd2=>⟨by omega,d2,λy hy=>?_⟩,λd2=>?_⟩
    · have hw:W ((j:Int)+1)=((j+1:Nat):Int):=bx (n:=n.length) (by omega) (by omega)
      rw[hw]
      rw[Int.toNat_natCast]at hy
      have hst:(n.take (j+1)).foldl (fZ t) (seen,out)=fZ t (s2,o2) y:=by rw[aV hy,List.foldl_append,←hs];rfl
      refine⟨λe1=>⟨by omega,d2,λz hz=>?_⟩,λe1=>⟨by omega,d2,λz hz=>⟨io (ab (λ_=>rfl) _),λe2=>⟨by omega,d2,λu hu=>?_⟩,λe2=>?_⟩⟩⟩
      · rw[Int.toNat_natCast,hy]at hz;cases hz
        refine⟨by omega,⟨j+1,rfl,by omega,?_⟩,by omega⟩
        rw[hst,fZ,if_pos e1]
      · rw[Int.toNat_natCast,hy]at hz hu;cases hz;cases hu
        refine⟨by omega,⟨j+1,rfl,by omega,?_⟩,by omega⟩
        have e2:¬y∈s2:=by simpa using e2
        rw[hst,fZ,if_neg (by rw[e1];simp),if_neg e2]
      · rw[Int.toNat_natCast,hy]at hz;cases hz
        refine⟨⟨j+1,rfl,by omega,?_⟩,by omega⟩
        have e2:y∈s2:=by simpa using e2
        rw[hst,fZ,if_neg (by rw[e1];simp),if_pos e2]
    · have hjn:j=n.length:=by omega
      rw[hjn,List.take_length]at hs
      rw[←hs]at hO
      have hw:W ((k:Int)+1)=((k+1:Nat):Int):=bx (n:=25) (by omega) (by omega)
      rw[hw]
      have hpre:seen.length≤s2.length:=by
        have key:∀(l:List Int) (s:List Int×List Int),s.1.length≤(l.foldl (fZ t) s).1.length:=λl=>by
          induction l with
          | nil=>intro s;exact Nat.le_refl _
          | cons q l ih =>
            intro s
            refine Nat.le_trans ?_ (ih (fZ t s q))
            unfold fZ
            split
            · exact Nat.le_refl _
            · split
              · exact Nat.le_refl _
              · simp
        have:=key n (seen,out)
        rw[←hs]at this;exact this
      refine⟨⟨k+1,rfl,by omega,⟨hI2.nd,hI2.ha,by simp only;omega⟩,hO⟩,by omega⟩
  · have e:seen[k]?=none:=List.getElem?_eq_none (by omega)
    have e2:25-k=(25-(k+1))+1:=by omega
    rw[e2,tj,e]at hO
    exact hO
def Ol(t:Tpl)(from_:Int)(to_:Int):PC Tryz.prog:=⟨102,[(.a [(.s 2),(.s 5)]),.k,.k],[.agg [.sl 2 (t.rs.map Rtr.v) false,.sl 5 (t.ls.map Lnk.v) false],.int from_,.int to_],wL (iz t from_ to_),aw.of_ok λok=>(Ok t from_ to_ ok).elim λI0 h=>h.elim λI1 h=>h.elim λm1 h=>h.elim λI2 h=>h.elim λm2 h=>av (sh:=(.s 1)) (enc:=wL) (a:=(wK t from_ to_ I0 I1 m1 I2 m2).an) h (by kernel_rfl) (AV.pureB_ok rfl),ap (by kernel_rfl)⟩
structure Rw where
  id:Int
  nx:List Int
def Rw.v(x:Rw):AV:=.agg [.int x.id,.sl 1 (x.nx.map AV.int) false]
structure Tbl where
  router:Int
  sub:Int
  len:Int
  rows:List Rw
def Tbl.v(x:Tbl):AV:=.agg [.int x.router,.int x.sub,.int x.len,.sl 2 (x.rows.map Rw.v) false]
def um(t:Tpl)(r:Int)(e:Edg):Rw:=⟨e.id,if e.router=r then [r]else if xI t e.router=true then iz t r e.router else []⟩
def n7(t:Tpl)(p:Pln)(r:Int):Tbl:=⟨r,p.sub,p.len,p.es.map (um t r)⟩
def PQ(t:Tpl)(p:Pln)(router:Int):=okL [.agg [.sl 2 (t.rs.map Rtr.v) false,.sl 5 (t.ls.map Lnk.v) false],.agg [.int p.sub,.int p.len,.sl 2 (p.es.map Edg.v) false],.int router]
def Lr(t:Tpl)(p:Pln)(router:Int)(t0:Int×List Rw):NF:=⟨[(2,.k,.int router),(3,.k,.ref 0 0),(4,.k,.ref 1 0),(6,.k,.ref 2 0),(7,.k,.ref 3 0),(8,.k,.int t0.1)],[.box (.agg [.sl 2 (t.rs.map Rtr.v) false,.sl 5 (t.ls.map Lnk.v) false]),.box (.agg [.int p.sub,.int p.len,.sl 2 (p.es.map Edg.v) false]),.box (.agg [.int 0,.int 0,.int 0,.sl 0 [] true]),.box (.agg [.int router,.int p.sub,.int p.len,.vec 4]),.vec 2 (t0.2.map Rw.v) (ab (λ_=>rfl) t0.2)]⟩
@[reducible] def GG:Nat→Type
 | 0=>Int×List Rw
 | _=>Unit
def yr(r:Tbl):AV:=Tbl.v r
def yq(t:Tpl)(p:Pln)(router:Int)(I0:(Int×List Rw)→Prop)(m0:(Int×List Rw)→Nat):Ax Tryz.prog GG (Tbl):=
 (.cmdL (.nilB 144 3 2) (.loop 0 (Lr t p router) I0 m0 (0,[]) [0,16,32,144,192] λ(t0:Int×List Rw) b0 =>
(.br 85 (decide (t0.1<((p.es.map Edg.v).length:Int))) (.el 133 Edg.v p.es (λR=>Rf (p.es.map Edg.v) (ck (decide (0≤t0.1)) (ck (decide (t0.1<(p.es.length:Int)))
(∀x1,p.es[t0.1.toNat]?=some x1 →
(R x1))))) λx1 =>
(.el 277 Edg.v p.es (λR=>Rf (p.es.map Edg.v) (ck (decide (0≤t0.1)) (ck (decide (t0.1<(p.es.length:Int)))
(∀x2,p.es[t0.1.toNat]?=some x2 →
(R x2))))) λx2 =>
(.br 357 (x2.router==router) (.say (λR=>Idt (t0.2.map Rw.v) (Rf (α:=List AV) [.agg [.int x1.id,.sl 1 [.int router] true]]
(ck (decide ((t0.2.map Rw.v).length+1≤1048576))
R))) (.app 485 (λy:AV=>y) (t0.2.map Rw.v) [.agg [.int x1.id,.sl 1 [.int router] true]]
(.say (λR=>LS (.a [.k,(.s 1)]) Rw.v t0.2 [(⟨x1.id,[router]⟩:Rw)] [.agg [.int x1.id,.sl 1 [.int router] true]] ∧
R) (.cmd (.wkV 485 (.a [.k,(.s 1)]) Rw.v (t0.2++[(⟨x1.id,[router]⟩:Rw)])) (.bk 0 b0 (W (t0.1+1),t0.2++[(⟨x1.id,[router]⟩:Rw)]) [0,1,2,3,485])))))
(.el 421 Edg.v p.es (λR=>Rf (p.es.map Edg.v) (ck (decide (0≤t0.1)) (ck (decide (t0.1<(p.es.length:Int)))
(∀x3,p.es[t0.1.toNat]?=some x3 →
(R x3))))) λx3 =>
(.callP (FZ t x3.router)
(.br 485 (xI t x3.router) (.el 565 Edg.v p.es (λR=>Rf (p.es.map Edg.v) (ck (decide (0≤t0.1)) (ck (decide (t0.1<(p.es.length:Int)))
(∀x4,p.es[t0.1.toNat]?=some x4 →
(R x4))))) λx4 =>
(.callP (Ol t router x4.router)
(.say (λR=>Rf (α:=List AV) (t0.2.map Rw.v) (Rf (α:=List AV) [.agg [.int x1.id,.sl 1 ((iz t router x4.router).map AV.int) false]]
(ck (decide (t0.2.length+1≤1048576))
R))) (.app 725 Rw.v t0.2 [(⟨x1.id,iz t router x4.router⟩:Rw)]
(.bk 0 b0 (W (t0.1+1),t0.2++[(⟨x1.id,iz t router x4.router⟩:Rw)]) [0,1,2,3,725])))))
(.say (λR=>Idt (t0.2.map Rw.v) (Rf (α:=List AV) [.agg [.int x1.id,.sl 0 [] true]]
(ck (decide ((t0.2.map Rw.v).length+1≤1048576))
R))) (.app 549 (λy:AV=>y) (t0.2.map Rw.v) [.agg [.int x1.id,.sl 0 [] true]]
(.say (λR=>LS (.a [.k,(.s 1)]) Rw.v t0.2 [(⟨x1.id,[]⟩:Rw)] [.agg [.int x1.id,.sl 0 [] true]] ∧
R) (.cmd (.wkV 549 (.a [.k,(.s 1)]) Rw.v (t0.2++[(⟨x1.id,[]⟩:Rw)])) (.bk 0 b0 (W (t0.1+1),t0.2++[(⟨x1.id,[]⟩:Rw)]) [0,1,2,3,549])))))))))))
(.say (Rf (t0.2.map Rw.v)) (.cmdL (.frzE 4 (t0.2.map Rw.v) (ab (λ_=>rfl) t0.2)) (.ret ((⟨router,p.sub,p.len,t0.2⟩:Tbl))))))))
def B4(t:Tpl)(p:Pln)(router:Int)(I0:(Int×List Rw)→Prop)(m0:(Int×List Rw)→Nat)(r0:Tbl):=(yq t p router I0 m0).vp yr r0
theorem PO(t:Tpl)(p:Pln)(r:Int)(hc:aJ t=0)(h:p.es.length≤100)(ok:PQ t p r):∃I0 m0,B4 t p r I0 m0 (n7 t p r):=by
 refine⟨λs=>fz p.es (λe=>[um t r e]) s.1 s.2,λs=>p.es.length-s.1.toNat,?_⟩
 dsimp only[B4,yq,GG,Ax.vp,Ax.vc];simp only[vcU,rfU,List.length_map]
 refine⟨fz.zero,?_⟩
 rintro⟨i,out⟩ hX
 simp only at hX ⊢
 have hlen:=hX.len (b:=1) λx _=>by simp
 refine⟨λc=>⟨hX.idx,c,λx hx=>⟨hX.idx,c,λx2 h2=>?_⟩⟩,λc=>?_⟩
 ·rw[hx]at h2;cases h2
  refine⟨λe=>⟨by omega,tz (λ_=>rfl) rfl,hX.step (by omega) hx ?_⟩,λe=>⟨hX.idx,c,λx3 h3=>?_⟩⟩
  ·rw[um,if_pos (eq_of_beq e)]
  rw[hx]at h3;cases h3
  refine⟨λe2=>⟨hX.idx,c,λx4 h4=>?_⟩,λe2=>⟨by omega,tz (λ_=>rfl) rfl,hX.step (by omega) hx ?_⟩⟩
  ·rw[hx]at h4;cases h4
   exact⟨by omega,hX.step (by omega) hx (by rw[um,if_neg (by simpa using e),if_pos e2])⟩
  ·rw[um,if_neg (by simpa using e),if_neg (by rw[e2];simp)]
 ·have:(p.es.flatMap λe=>[um t r e])=p.es.map (um t r):=List.map_eq_flatMap.symm
  rw[hX.done c,this];rfl
def PP(t:Tpl)(p:Pln)(router:Int)(hc:aJ t=0)(h:p.es.length≤100):PC Tryz.prog:=⟨64,[(.a [(.s 2),(.s 5)]),(.a [.k,.k,(.s 2)]),.k],[.agg [.sl 2 (t.rs.map Rtr.v) false,.sl 5 (t.ls.map Lnk.v) false],.agg [.int p.sub,.int p.len,.sl 2 (p.es.map Edg.v) false],.int router],yr (n7 t p router),aw.of_ok λok=>(PO t p router hc h ok).elim λI0 h=>h.elim λm0 h=>av (sh:=(.a [.k,.k,.k,(.s 2)])) (enc:=yr) (a:=(yq t p router I0 m0).an) h (by kernel_rfl) (AV.pureB_ok rfl),ap (by kernel_rfl)⟩
def rA(t:Tpl)(p:Pln):List Tbl×Int:=if aJ t≠0∨dH p=false then([],1)else(t.rs.flatMap λx=>if x.cap=true then [n7 t p x.id]else [],0)
def Qg(t:Tpl)(p:Pln):=okL [.agg [.sl 2 (t.rs.map Rtr.v) false,.sl 5 (t.ls.map Lnk.v) false],.agg [.int p.sub,.int p.len,.sl 2 (p.es.map Edg.v) false]]
def LH(t:Tpl)(p:Pln)(t0:Bool):NF:=⟨[(2,.k,.ref 0 0),(3,.k,.ref 1 0),(15,.k,.bool t0)],[.box (.agg [.sl 2 (t.rs.map Rtr.v) false,.sl 5 (t.ls.map Lnk.v) false]),.box (.agg [.int p.sub,.int p.len,.sl 2 (p.es.map Edg.v) false])]⟩
def LG(t:Tpl)(p:Pln)(t1:Int×List Tbl):NF:=⟨[(2,.k,.ref 0 0),(3,.k,.ref 1 0),(6,.k,.vec 2),(7,.k,.int t1.1)],[.box (.agg [.sl 2 (t.rs.map Rtr.v) false,.sl 5 (t.ls.map Lnk.v) false]),.box (.agg [.int p.sub,.int p.len,.sl 2 (p.es.map Edg.v) false]),.vec 4 (t1.2.map Tbl.v) (ab (λ_=>rfl) t1.2)]⟩
@[reducible] def Hj:Nat→Type
 | 0=>Bool
 | 1=>Int×List Tbl
 | _=>Unit
def yF(r:List Tbl×Int):AV:=.tup [.sl 4 (r.1.map Tbl.v) false,.int r.2]
def yE(t:Tpl)(p:Pln)(I0:Bool→Prop)(I1:Bool→(Int×List Tbl)→Prop)(m1:Bool→(Int×List Tbl)→Nat):Ax Tryz.prog Hj (List Tbl×Int):=
 (.pass (.pass (.join 0 (LH t p) (λ(t0:Bool)=>I0 t0) (λb0=>(.callP (yn t)
(.br 128 ((aJ t) != 0) (.bk 0 b0 ((true):Bool) [0,16])
(.callP (Hw p)
(.bk 0 b0 ((!(dH p)):Bool) [0,16]))))) λ(t0:Bool) =>
(.br 2 t0 (.ret ([],1))
(.cmdL (.nilT 6 4) (.loop 1 (LG t p) (I1 t0) (m1 t0) (0,[]) [0,1,34] λ(t1:Int×List Tbl) b1 =>
(.br 83 (decide (t1.1<((t.rs.map Rtr.v).length:Int))) (.el 131 Rtr.v t.rs (λR=>Rf (t.rs.map Rtr.v) (ck (decide (0≤t1.1)) (ck (decide (t1.1<(t.rs.length:Int)))
(∀x1,t.rs[t1.1.toNat]?=some x1 →
(R x1))))) λx1 =>
(.br 179 x1.cap (.el 275 Rtr.v t.rs (λR=>Rf (t.rs.map Rtr.v) (ck (decide (0≤t1.1)) (ck (decide (t1.1<(t.rs.length:Int)))
(∀x2,t.rs[t1.1.toNat]?=some x2 →
(R x2))))) λx2 =>
(.req 323 (aJ t=0) λh3 =>
(.req 323 (p.es.length≤100) λh4 =>
(.callP (PP t p x2.id h3 h4)
(.say (λR=>Rf (α:=List AV) (t1.2.map Tbl.v) (Rf (α:=List AV) [(Tbl.v (n7 t p x2.id))]
(ck (decide (t1.2.length+1≤1048576))
R))) (.app 355 Tbl.v t1.2 [n7 t p x2.id]
(.bk 1 b1 (W (t1.1+1),t1.2++[n7 t p x2.id]) [0,1,355])))))))
(.bk 1 b1 (W (t1.1+1),t1.2) [0,1,2])))
(.say (Rf (t1.2.map Tbl.v)) (.cmdL (.frzE 2 (t1.2.map Tbl.v) (ab (λ_=>rfl) t1.2)) (.ret (t1.2,0)))))))))))
def BE(t:Tpl)(p:Pln)(I0:Bool→Prop)(I1:Bool→(Int×List Tbl)→Prop)(m1:Bool→(Int×List Tbl)→Nat)(r0:List Tbl×Int):=(yE t p I0 I1 m1).vp yF r0
theorem Qe(t:Tpl)(p:Pln)(ok:Qg t p):∃I0 I1 m1,BE t p I0 I1 m1 (rA t p):=by
 refine⟨λb=>b=(decide (aJ t≠0) || !dH p),λ_ s=>fz t.rs (λx=>if x.cap=true then [n7 t p x.id]else []) s.1 s.2,λ_ s=>t.rs.length-s.1.toNat,?_⟩
 dsimp only[BE,yE,Hj,Ax.vp,Ax.vc];simp only[vcU,rfU,List.length_map]
 refine⟨⟨λc=>by simp at c;simp[c],λc=>by simp at c;simp[c]⟩,?_⟩
 rintro _ rfl
 unfold rA
 refine⟨λc=>by rw[if_pos (by simpa using c)],λc=>?_⟩
 have c:¬(aJ t≠0∨dH p=false):=by simp at c;simp[c]
 have hc:aJ t=0:=by simp at c;exact c.1
 have hn:=(aC hc).nr
 have hpl:p.es.length≤24:=by
  have hp:dH p=true:=by
   cases q:dH p
   ·exact absurd (.inr q) c
   ·rfl
  unfold dH at hp
  rw[Bool.and_eq_true,decide_eq_true_iff]at hp
  exact hp.1.2.2
 rw[if_neg c]
 refine⟨fz.zero,?_⟩
 rintro⟨i,out⟩ hX
 simp only at hX ⊢
 have hlen:=hX.len (b:=1) λx _=>by split<;>simp
 refine⟨λd=>⟨hX.idx,d,λx hx=>⟨λe=>⟨hX.idx,d,λy hy=>?_⟩,λe=>hX.step (by omega) hx (by rw[if_neg (by rw[e];simp)];simp)⟩⟩,λd=>by rw[hX.done d]⟩
 rw[hx]at hy;cases hy
 exact⟨hc,by omega,by omega,hX.step (by omega) hx (by rw[if_pos e])⟩
def Qf(t:Tpl)(p:Pln):PC Tryz.prog:=⟨19,[(.a [(.s 2),(.s 5)]),(.a [.k,.k,(.s 2)])],[.agg [.sl 2 (t.rs.map Rtr.v) false,.sl 5 (t.ls.map Lnk.v) false],.agg [.int p.sub,.int p.len,.sl 2 (p.es.map Edg.v) false]],yF (rA t p),aw.of_ok λok=>(Qe t p ok).elim λI0 h=>h.elim λI1 h=>h.elim λm1 h=>av (sh:=(.a [(.s 4),.k])) (enc:=yF) (a:=(yE t p I0 I1 m1).an) h (by kernel_rfl) (AV.pureB_ok rfl),ap (by kernel_rfl)⟩
def gZ(L:List Int)(p:Nat)(most:Int):(Tpl×Pln×List Tbl)×Nat:=
 (((ba L p most 0).1,(f8 L (ba L p most 0).2 (ba L p most 0).1 0).1,(rA (ba L p most 0).1 (f8 L (ba L p most 0).2 (ba L p most 0).1 0).1).1),(f8 L (ba L p most 0).2 (ba L p most 0).1 0).2)
def FR(L:List Int)(p:Nat)(most:Int):=okL [.ref 0 0,.int most]∧(.box (.agg [.sl 1 (L.map AV.int) false,.int p]):Blk).ok
def qC(r:Tap×Tpl×Pln×List Tbl):AV:=.tup [.agg [.sl 2 (r.2.1.rs.map Rtr.v) false,.sl 5 (r.2.1.ls.map Lnk.v) false],.agg [.int r.2.2.1.sub,.int r.2.2.1.len,.sl 2 (r.2.2.1.es.map Edg.v) false],.sl 4 (r.2.2.2.map Tbl.v) false]
def qD(r:Tap×Tpl×Pln×List Tbl):List (Option Blk):=[some (.box (.agg [.sl 1 (r.1.L.map AV.int) false,.int r.1.p]))]
def xu(L:List Int)(p:Nat)(most:Int):Ax Tryz.prog noS (Tap×Tpl×Pln×List Tbl):=
 (.req 81 (1≤most∧most≤20) λh1 =>
(.callH [0] (M4 L p most 0 h1) 81
(.say (Rf ((((ba L p most 0).1).rs).map Rtr.v)) (.cmd (.frzE 81 ((((ba L p most 0).1).rs).map Rtr.v) (ab (λ_=>rfl) (((ba L p most 0).1).rs))) (.say (Rf ((((ba L p most 0).1).ls).map Lnk.v)) (.cmd (.frzE 82 ((((ba L p most 0).1).ls).map Lnk.v) (ab (λ_=>rfl) (((ba L p most 0).1).ls))) (.req 161 ((⟨((ba L p most 0).1).rs,((ba L p most 0).1).ls⟩:Tpl).rs.length≤100) λh2 =>
(.callH [0] (Nl L ((ba L p most 0).2) (⟨((ba L p most 0).1).rs,((ba L p most 0).1).ls⟩:Tpl) 0 h2) 161
(.callP (Qf (⟨((ba L p most 0).1).rs,((ba L p most 0).1).ls⟩:Tpl) ((f8 L ((ba L p most 0).2) (⟨((ba L p most 0).1).rs,((ba L p most 0).1).ls⟩:Tpl) 0).1))
(.retH ((⟨L,(f8 L ((ba L p most 0).2) (⟨((ba L p most 0).1).rs,((ba L p most 0).1).ls⟩:Tpl) 0).2⟩:Tap),(⟨((ba L p most 0).1).rs,((ba L p most 0).1).ls⟩:Tpl),(f8 L ((ba L p most 0).2) (⟨((ba L p most 0).1).rs,((ba L p most 0).1).ls⟩:Tpl) 0).1,(rA (⟨((ba L p most 0).1).rs,((ba L p most 0).1).ls⟩:Tpl) ((f8 L ((ba L p most 0).2) (⟨((ba L p most 0).1).rs,((ba L p most 0).1).ls⟩:Tpl) 0).1)).1) ⟨[(4,.k,.ref 1 0),(5,.k,.ref 2 0),(6,.k,.sl 4 (((rA (⟨((ba L p most 0).1).rs,((ba L p most 0).1).ls⟩:Tpl) ((f8 L ((ba L p most 0).2) (⟨((ba L p most 0).1).rs,((ba L p most 0).1).ls⟩:Tpl) 0).1)).1).map Tbl.v) false)],[.box (.agg [.sl 1 (L.map AV.int) false,.int ((((f8 L ((ba L p most 0).2) (⟨((ba L p most 0).1).rs,((ba L p most 0).1).ls⟩:Tpl) 0).2):Nat):Int)]),.box (.agg [.sl 2 ((((ba L p most 0).1).rs).map Rtr.v) false,.sl 5 ((((ba L p most 0).1).ls).map Lnk.v) false]),.box (.agg [.int (((f8 L ((ba L p most 0).2) (⟨((ba L p most 0).1).rs,((ba L p most 0).1).ls⟩:Tpl) 0).1).sub),.int (((f8 L ((ba L p most 0).2) (⟨((ba L p most 0).1).rs,((ba L p most 0).1).ls⟩:Tpl) 0).1).len),.sl 2 ((((f8 L ((ba L p most 0).2) (⟨((ba L p most 0).1).rs,((ba L p most 0).1).ls⟩:Tpl) 0).1).es).map Edg.v) false])]⟩ [0,1,17]))))))))))
def AP(L:List Int)(p:Nat)(most:Int)(r0:Tap×Tpl×Pln×List Tbl):=(xu L p most).vc qC qD r0
theorem OP(L:List Int)(p:Nat)(most:Int)(h:1≤most∧most≤20)(ok:FR L p most):AP L p most ((⟨L,(gZ L p most).2⟩:Tap),(gZ L p most).1):=by
 dsimp only[AP,xu,noS,Ax.vp,Ax.vc];simp only[vcU,rfU,List.length_map]
 have hl:(ba L p most 0).1.rs.length≤20:=by
  have hk:=D6 (L:=L) (p:=p) (m:=most) (by omega)
  unfold ba
  rw[if_neg (λq=>by have:=q.1;omega)]
  unfold rW
  simp only[jG];omega
 exact⟨h,by omega,rfl⟩
def OQ(L:List Int)(p:Nat)(most:Int)(h:1≤most∧most≤20):HC Tryz.prog:=⟨31,[.k,.k],[.ref 0 0,.int most],[.box (.agg [.sl 1 (L.map AV.int) false,.int p])],qC ((⟨L,(gZ L p most).2⟩:Tap),(gZ L p most).1),qD ((⟨L,(gZ L p most).2⟩:Tap),(gZ L p most).1),aH.of_okh λok ok2=>have ok:FR L p most:=⟨ok,ok2 _ (by simp)⟩;dh (sh:=(.a [(.a [(.s 2),(.s 5)]),(.a [.k,.k,(.s 2)]),(.s 4)])) (enc:=qC) (hB:=qD) (a:=(xu L p most).an) (OP L p most h ok) (by kernel_rfl),ap (by kernel_rfl),fw.of (by simp[hcB,cV,AV.belB,allB,eN,dR,qC,qD,ab (v:=AV.int) (λ_=>rfl)])⟩
structure Cpy where
  to:Int
  route:List Int
  mode:Int
  sub:Int
  set:Int
  len:Int
  ttl:Int
  ent:Int
  ing:Int
  proto:Int
  bits:Int
  pay:ByteArray
  deriving DecidableEq
structure Out where
  local_:Int
  lost:Int
  copies:List Cpy
  deriving DecidableEq
def inK(n most:Int):Bool:=decide (0≤n) && decide (n≤most)
abbrev inTb:=inP
def Og(n:Int)(least:Int)(most:Int):=okL [.int n,.int least,.int most]
def wH(r:Bool):AV:=.bool r
def wG(n:Int)(least:Int)(most:Int):Ax Tryz.prog noS (Bool):=
 (.br 80 (decide (least≤n)) (.ret (decide (n≤most)))
(.ret (false)))
def A5(n:Int)(least:Int)(most:Int)(r0:Bool):=(wG n least most).vp wH r0
theorem Of(n a b:Int)(ok:Og n a b):A5 n a b (inTb n a b):=by
 dsimp only[A5,wG,noS,Ax.vp,Ax.vc];simp only[vcU,rfU,List.length_map]
 refine⟨λc=>?_,λc=>?_⟩<;>simp[inTb,inP,c]
def kF(n:Int)(least:Int)(most:Int):PC Tryz.prog:=⟨140,[.k,.k,.k],[.int n,.int least,.int most],wH (inP n least most),aw.of_ok λok=>av (sh:=.k) (enc:=wH) (a:=(wG n least most).an) (Of n least most ok) (by kernel_rfl) (AV.pureB_ok rfl),ap (by kernel_rfl)⟩
abbrev EW:=inP
def EV(n:Int)(low:Int)(high:Int):=okL [.int n,.int low,.int high]
def mG(r:Bool):AV:=.bool r
def mF(n:Int)(low:Int)(high:Int):Ax Tryz.prog noS (Bool):=
 (.br 80 (decide (low≤n)) (.ret (decide (n≤high)))
(.ret (false)))
def nZ(n:Int)(low:Int)(high:Int)(r0:Bool):=(mF n low high).vp mG r0
theorem EU(n a b:Int)(ok:EV n a b):nZ n a b (EW n a b):=by
 dsimp only[nZ,mF,noS,Ax.vp,Ax.vc];simp only[vcU,rfU,List.length_map]
 refine⟨λc=>?_,λc=>?_⟩<;>simp[EW,inP,c]
def jS(n:Int)(low:Int)(high:Int):PC Tryz.prog:=⟨150,[.k,.k,.k],[.int n,.int low,.int high],mG (inP n low high),aw.of_ok λok=>av (sh:=.k) (enc:=mG) (a:=(mF n low high).an) (EU n low high ok) (by kernel_rfl) (AV.pureB_ok rfl),ap (by kernel_rfl)⟩
def jz(l:List Int):Bool:=decide (l.Pairwise (·<·))
def PZ(l:List Int):=okL [.sl 1 (l.map AV.int) false]
def L4(l:List Int)(t0:Int):NF:=⟨[(0,.k,.sl 1 (l.map AV.int) false),(5,.k,.int ((l.map AV.int).length:Int)),(6,.k,.int t0)],[]⟩
def L3(l:List Int)(t0:Int)(t1:Bool):NF:=⟨[(0,.k,.sl 1 (l.map AV.int) false),(5,.k,.int ((l.map AV.int).length:Int)),(6,.k,.int t0),(22,.k,.bool t1)],[]⟩
@[reducible] def Ha:Nat→Type
 | 0=>Int
 | 1=>Bool
 | _=>Unit
def y0(r:Bool):AV:=.bool r
def yz(l:List Int)(I0:Int→Prop)(m0:Int→Nat)(I1:Int→Bool→Prop):Ax Tryz.prog Ha (Bool):=
 (.loop 0 (L4 l) I0 m0 ((0):Int) [] λ(t0:Int) b0 =>
(.br 16 (decide (t0<((l.map AV.int).length:Int))) (.pass (.pass (.join 1 (L3 l t0) (λ(t1:Bool)=>I1 t0 t1) (λb1=>(.br 96 (decide (0<t0)) (.el 144 AV.int l (λR=>Rf (l.map AV.int) (ck (decide (0≤(W (t0-1)))) (ck (decide ((W (t0-1))<(l.length:Int)))
(∀x1,l[(W (t0-1)).toNat]?=some x1 →
(R x1))))) λx1 =>
(.el 208 AV.int l (λR=>Rf (l.map AV.int) (ck (decide (0≤t0)) (ck (decide (t0<(l.length:Int)))
(∀x2,l[t0.toNat]?=some x2 →
(R x2))))) λx2 =>
(.bk 1 b1 ((decide (x2≤x1)):Bool) [])))
(.bk 1 b1 ((false):Bool) []))) λ(t1:Bool) =>
(.br 0 t1 (.ret (false))
(.bk 0 b0 ((W (t0+1)):Int) [])))))
(.ret (true))))
def BB(l:List Int)(I0:Int→Prop)(m0:Int→Nat)(I1:Int→Bool→Prop)(r0:Bool):=(yz l I0 m0 I1).vp y0 r0
theorem PX(l:List Int)(h:l.length≤1000000)(ok:PZ l):∃I0 m0 I1,BB l I0 m0 I1 (jz l):=by
 refine⟨λi=>dJ l (λx y=>x<y) i,λi=>l.length-i.toNat,λi b=>b=true↔0<i∧∃x y,l[(W (i-1)).toNat]?=some x∧l[i.toNat]?=some y∧¬x<y,?_⟩
 have hl:=h
 clear h
 dsimp only[BB,yz,Ha,Ax.vp,Ax.vc];simp only[vcU,rfU,List.length_map]
 refine⟨dJ.zero,λi h=>⟨λc1=>⟨⟨λh0=>?_,λh0=>?_⟩,λb hb=>?_⟩,λc1=>?_⟩⟩
 ·obtain⟨g1,g2⟩:=h.rng (by omega) h0 c1
  refine⟨g1,g2,λx hx=>⟨h.idx,c1,λy hy=>⟨λe=>⟨h0,x,y,hx,hy,by omega⟩,?_⟩⟩⟩
  rintro⟨_,x',y',hx',hy',p⟩
  rw[hx]at hx';cases hx';rw[hy]at hy';cases hy';omega
 ·exact⟨nofun,λe=>absurd e.1 h0⟩
 ·obtain⟨n1,n2⟩:=h.next (by omega) c1 hb
  exact⟨λe=>by rw[jz,decide_eq_false (n1 e)],n2⟩
 ·rw[jz,decide_eq_true (h.done c1 λ_ _ _ q r=>Int.lt_trans q r)]
def PY(l:List Int)(h:l.length≤1000000):PC Tryz.prog:=⟨145,[(.s 1)],[.sl 1 (l.map AV.int) false],y0 (jz l),aw.of_ok λok=>(PX l h ok).elim λI0 h=>h.elim λm0 h=>h.elim λI1 h=>av (sh:=.k) (enc:=y0) (a:=(yz l I0 m0 I1).an) h (by kernel_rfl) (AV.pureB_ok rfl),ap (by kernel_rfl)⟩
def lv(n:Int):Bool:=!inP n 1 99
def Nt(n:Int):=okL [.int n]
def vS(r:Bool):AV:=.bool r
def vR(n:Int):Ax Tryz.prog noS (Bool):=
 (.callP (kF n 1 99)
(.ret (!(inP n 1 99))))
def zS(n:Int)(r0:Bool):=(vR n).vp vS r0
theorem Nr(n:Int)(ok:Nt n):zS n (lv n):=by
 dsimp only[zS,vR,noS,Ax.vp,Ax.vc];simp only[vcU,rfU,List.length_map]
 rfl
def Ns(n:Int):PC Tryz.prog:=⟨164,[.k],[.int n],vS (lv n),aw.of_ok λok=>av (sh:=.k) (enc:=vS) (a:=(vR n).an) (Nr n ok) (by kernel_rfl) (AV.pureB_ok rfl),ap (by kernel_rfl)⟩
def zU(s:List Int):=okL [.sl 1 (s.map AV.int) false,.func 164 []]
def Er(s:List Int)(t0:Int):NF:=⟨[(0,.k,.sl 1 (s.map AV.int) false),(1,.k,.func 164 []),(7,.k,.int ((s.map AV.int).length:Int)),(8,.k,.int t0)],[]⟩
@[reducible] def zT:Nat→Type
 | 0=>Int
 | _=>Unit
def pz(r:Int):AV:=.int r
def py(s:List Int)(I0:Int→Prop)(m0:Int→Nat):Ax Tryz.prog zT (Int):=
 (.loop 0 (Er s) I0 m0 ((0):Int) [] λ(t0:Int) b0 =>
(.br 16 (decide (t0<((s.map AV.int).length:Int))) (.el 96 AV.int s (λR=>Rf (s.map AV.int) (ck (decide (0≤t0)) (ck (decide (t0<(s.length:Int)))
(∀x1,s[t0.toNat]?=some x1 →
(R x1))))) λx1 =>
(.callP (Ns x1)
(.br 144 (lv x1) (.ret (t0))
(.bk 0 b0 ((W (t0+1)):Int) []))))
(.ret (-1))))
def sD(s:List Int)(I0:Int→Prop)(m0:Int→Nat)(r0:Int):=(py s I0 m0).vp pz r0
theorem Jh(s:List Int)(ok:zU s):∃I m,sD s I m (cw lv s):=by
 refine⟨λt=>aL s (λy=>lv y=false) t,λt=>s.length-t.toNat,?_⟩
 simp only[zU,okU,Blk.ok,aK,List.length_map]at ok
 dsimp only[sD,py,zT,Ax.vp,Ax.vc];simp only[vcU,rfU,List.length_map]
 exact⟨aL.zero,λt h=>⟨λc=>⟨h.idx,c,λx hx=>⟨λq=>h.found hx q,λq=>h.step (by omega) hx q⟩⟩,λc=>h.lost c⟩⟩
def Ji(s:List Int):PC Tryz.prog:=⟨178,[(.s 1),.k],[.sl 1 (s.map AV.int) false,.func 164 []],pz (cw lv s),aw.of_ok λok=>(Jh s ok).elim λI0 h=>h.elim λm0 h=>av (sh:=.k) (enc:=pz) (a:=(py s I0 m0).an) h (by kernel_rfl) (AV.pureB_ok rfl),ap (by kernel_rfl)⟩
def Jl(s:List Int):=okL [.sl 1 (s.map AV.int) false,.func 164 []]
def p9(r:Bool):AV:=.bool r
def p8(s:List Int):Ax Tryz.prog noS (Bool):=
 (.callP (Ji s)
(.ret (decide (0≤(cw lv s)))))
def sE(s:List Int)(r0:Bool):=(p8 s).vp p9 r0
theorem Jj(s:List Int)(ok:Jl s):sE s (s.any lv):=by
 dsimp only[sE,p8,noS,Ax.vp,Ax.vc];simp only[vcU,rfU,List.length_map]
 exact dA _ _
def Jk(s:List Int):PC Tryz.prog:=⟨163,[(.s 1),.k],[.sl 1 (s.map AV.int) false,.func 164 []],p9 (s.any lv),aw.of_ok λok=>av (sh:=.k) (enc:=p9) (a:=(p8 s).an) (Jj s ok) (by kernel_rfl) (AV.pureB_ok rfl),ap (by kernel_rfl)⟩
def jo(r:Rw):Bool:=!inP r.id 1 256 || r.nx.any lv
def Nq(r:Rw):=okL [.agg [.int r.id,.sl 1 (r.nx.map AV.int) false]]
def vQ(r:Bool):AV:=.bool r
def vP(r:Rw):Ax Tryz.prog noS (Bool):=
 (.callP (kF r.id 1 256)
(.br 112 (!(inP r.id 1 256)) (.ret (true))
(.callP (Jk r.nx)
(.ret ((r.nx).any lv)))))
def zP(r:Rw)(r0:Bool):=(vP r).vp vQ r0
theorem Nn(r:Rw)(ok:Nq r):zP r (jo r):=by
 dsimp only[zP,vP,noS,Ax.vp,Ax.vc];simp only[vcU,rfU,List.length_map]
 unfold jo
 exact⟨λh=>by rw[h];rfl,λh=>by rw[h];rfl⟩
def Np(r:Rw):PC Tryz.prog:=⟨143,[(.a [.k,(.s 1)])],[.agg [.int r.id,.sl 1 (r.nx.map AV.int) false]],vQ (jo r),aw.of_ok λok=>av (sh:=.k) (enc:=vQ) (a:=(vP r).an) (Nn r ok) (by kernel_rfl) (AV.pureB_ok rfl),ap (by kernel_rfl)⟩
def zR(s:List Rw):=okL [.sl 2 (s.map Rw.v) false,.func 143 []]
def Ep(s:List Rw)(t0:Int):NF:=⟨[(0,.k,.sl 2 (s.map Rw.v) false),(1,.k,.func 143 []),(7,.k,.int ((s.map Rw.v).length:Int)),(8,.k,.int t0)],[]⟩
@[reducible] def zQ:Nat→Type
 | 0=>Int
 | _=>Unit
def pr(r:Int):AV:=.int r
def pq(s:List Rw)(I0:Int→Prop)(m0:Int→Nat):Ax Tryz.prog zQ (Int):=
 (.loop 0 (Ep s) I0 m0 ((0):Int) [] λ(t0:Int) b0 =>
(.br 16 (decide (t0<((s.map Rw.v).length:Int))) (.el 96 Rw.v s (λR=>Rf (s.map Rw.v) (ck (decide (0≤t0)) (ck (decide (t0<(s.length:Int)))
(∀x1,s[t0.toNat]?=some x1 →
(R x1))))) λx1 =>
(.callP (Np x1)
(.br 144 (jo x1) (.ret (t0))
(.bk 0 b0 ((W (t0+1)):Int) []))))
(.ret (-1))))
def sB(s:List Rw)(I0:Int→Prop)(m0:Int→Nat)(r0:Int):=(pq s I0 m0).vp pr r0
theorem Jd(s:List Rw)(ok:zR s):∃I m,sB s I m (cw jo s):=by
 refine⟨λt=>aL s (λy=>jo y=false) t,λt=>s.length-t.toNat,?_⟩
 simp only[zR,okU,Blk.ok,aK,List.length_map]at ok
 dsimp only[sB,pq,zQ,Ax.vp,Ax.vc];simp only[vcU,rfU,List.length_map]
 exact⟨aL.zero,λt h=>⟨λc=>⟨h.idx,c,λx hx=>⟨λq=>h.found hx q,λq=>h.step (by omega) hx q⟩⟩,λc=>h.lost c⟩⟩
def Je(s:List Rw):PC Tryz.prog:=⟨162,[(.s 2),.k],[.sl 2 (s.map Rw.v) false,.func 143 []],pr (cw jo s),aw.of_ok λok=>(Jd s ok).elim λI0 h=>h.elim λm0 h=>av (sh:=.k) (enc:=pr) (a:=(pq s I0 m0).an) h (by kernel_rfl) (AV.pureB_ok rfl),ap (by kernel_rfl)⟩
def Jg(s:List Rw):=okL [.sl 2 (s.map Rw.v) false,.func 143 []]
def pw(r:Bool):AV:=.bool r
def pv(s:List Rw):Ax Tryz.prog noS (Bool):=
 (.callP (Je s)
(.ret (decide (0≤(cw jo s)))))
def sC(s:List Rw)(r0:Bool):=(pv s).vp pw r0
theorem Jf(s:List Rw)(ok:Jg s):sC s (s.any jo):=by
 dsimp only[sC,pv,noS,Ax.vp,Ax.vc];simp only[vcU,rfU,List.length_map]
 exact dA _ _
def px(s:List Rw):PC Tryz.prog:=⟨142,[(.s 2),.k],[.sl 2 (s.map Rw.v) false,.func 143 []],pw (s.any jo),aw.of_ok λok=>av (sh:=.k) (enc:=pw) (a:=(pv s).an) (Jf s ok) (by kernel_rfl) (AV.pureB_ok rfl),ap (by kernel_rfl)⟩
def gW(r:Rw):Bool:=decide (24<r.nx.length)
def NS(r:Rw):=okL [.agg [.int r.id,.sl 1 (r.nx.map AV.int) false]]
def wu(r:Bool):AV:=.bool r
def ws(r:Rw):Ax Tryz.prog noS (Bool):=
 (.ret (decide (24<((r.nx.map AV.int).length:Int))))
def Ao(r:Rw)(r0:Bool):=(ws r).vp wu r0
theorem NQ(r:Rw)(ok:NS r):Ao r (gW r):=by
 dsimp only[Ao,ws,noS,Ax.vp,Ax.vc];simp only[vcU,rfU,List.length_map]
 unfold gW
 exact decide_eq_decide.mpr (by omega)
def NR(r:Rw):PC Tryz.prog:=⟨144,[(.a [.k,(.s 1)])],[.agg [.int r.id,.sl 1 (r.nx.map AV.int) false]],wu (gW r),aw.of_ok λok=>av (sh:=.k) (enc:=wu) (a:=(ws r).an) (NQ r ok) (by kernel_rfl) (AV.pureB_ok rfl),ap (by kernel_rfl)⟩
def Aq(s:List Rw):=okL [.sl 2 (s.map Rw.v) false,.func 144 []]
def EL(s:List Rw)(t0:Int):NF:=⟨[(0,.k,.sl 2 (s.map Rw.v) false),(1,.k,.func 144 []),(7,.k,.int ((s.map Rw.v).length:Int)),(8,.k,.int t0)],[]⟩
@[reducible] def Ap:Nat→Type
 | 0=>Int
 | _=>Unit
def pU(r:Int):AV:=.int r
def pT(s:List Rw)(I0:Int→Prop)(m0:Int→Nat):Ax Tryz.prog Ap (Int):=
 (.loop 0 (EL s) I0 m0 ((0):Int) [] λ(t0:Int) b0 =>
(.br 16 (decide (t0<((s.map Rw.v).length:Int))) (.el 96 Rw.v s (λR=>Rf (s.map Rw.v) (ck (decide (0≤t0)) (ck (decide (t0<(s.length:Int)))
(∀x1,s[t0.toNat]?=some x1 →
(R x1))))) λx1 =>
(.callP (NR x1)
(.br 144 (gW x1) (.ret (t0))
(.bk 0 b0 ((W (t0+1)):Int) []))))
(.ret (-1))))
def sQ(s:List Rw)(I0:Int→Prop)(m0:Int→Nat)(r0:Int):=(pT s I0 m0).vp pU r0
theorem J6(s:List Rw)(ok:Aq s):∃I m,sQ s I m (cw gW s):=by
 refine⟨λt=>aL s (λy=>gW y=false) t,λt=>s.length-t.toNat,?_⟩
 simp only[Aq,okU,Blk.ok,aK,List.length_map]at ok
 dsimp only[sQ,pT,Ap,Ax.vp,Ax.vc];simp only[vcU,rfU,List.length_map]
 exact⟨aL.zero,λt h=>⟨λc=>⟨h.idx,c,λx hx=>⟨λq=>h.found hx q,λq=>h.step (by omega) hx q⟩⟩,λc=>h.lost c⟩⟩
def J7(s:List Rw):PC Tryz.prog:=⟨162,[(.s 2),.k],[.sl 2 (s.map Rw.v) false,.func 144 []],pU (cw gW s),aw.of_ok λok=>(J6 s ok).elim λI0 h=>h.elim λm0 h=>av (sh:=.k) (enc:=pU) (a:=(pT s I0 m0).an) h (by kernel_rfl) (AV.pureB_ok rfl),ap (by kernel_rfl)⟩
def J9(s:List Rw):=okL [.sl 2 (s.map Rw.v) false,.func 144 []]
def pW(r:Bool):AV:=.bool r
def pV(s:List Rw):Ax Tryz.prog noS (Bool):=
 (.callP (J7 s)
(.ret (decide (0≤(cw gW s)))))
def sR(s:List Rw)(r0:Bool):=(pV s).vp pW r0
theorem J8(s:List Rw)(ok:J9 s):sR s (s.any gW):=by
 dsimp only[sR,pV,noS,Ax.vp,Ax.vc];simp only[vcU,rfU,List.length_map]
 exact dA _ _
def Ar(s:List Rw):PC Tryz.prog:=⟨142,[(.s 2),.k],[.sl 2 (s.map Rw.v) false,.func 144 []],pW (s.any gW),aw.of_ok λok=>av (sh:=.k) (enc:=pW) (a:=(pV s).an) (J8 s ok) (by kernel_rfl) (AV.pureB_ok rfl),ap (by kernel_rfl)⟩
def hU(r:Rw)(b:Tbl):Bool:=decide (1<r.nx.length) && decide (b.router∈r.nx)
def Po(r:Rw)(b:Tbl):=okL [.agg [.int r.id,.sl 1 (r.nx.map AV.int) false],.rptr (.agg [.int b.router,.int b.sub,.int b.len,.sl 2 (b.rows.map Rw.v) false]) 0]
def xQ(r:Bool):AV:=.bool r
def xP(r:Rw)(b:Tbl):Ax Tryz.prog noS (Bool):=
 (.br 112 (decide (1<((r.nx.map AV.int).length:Int))) (.callP (eY r.nx b.router)
(.ret (decide (b.router∈r.nx))))
(.ret (false)))
def Bp(r:Rw)(b:Tbl)(r0:Bool):=(xP r b).vp xQ r0
theorem Pm(r:Rw)(b:Tbl)(ok:Po r b):Bp r b (hU r b):=by
 dsimp only[Bp,xP,noS,Ax.vp,Ax.vc];simp only[vcU,rfU,List.length_map]
 unfold hU
 refine⟨λh=>?_,λh=>?_⟩
 ·rw[decide_eq_true (show 1<r.nx.length by omega)];rfl
 ·rw[decide_eq_false (show ¬1<r.nx.length by omega)];rfl
def Pn(r:Rw)(b:Tbl):PC Tryz.prog:=⟨146,[(.a [.k,(.s 1)]),.k],[.agg [.int r.id,.sl 1 (r.nx.map AV.int) false],.rptr (.agg [.int b.router,.int b.sub,.int b.len,.sl 2 (b.rows.map Rw.v) false]) 0],xQ (hU r b),aw.of_ok λok=>av (sh:=.k) (enc:=xQ) (a:=(xP r b).an) (Pm r b ok) (by kernel_rfl) (AV.pureB_ok rfl),ap (by kernel_rfl)⟩
def Br(s:List Rw)(f:Tbl):=okL [.sl 2 (s.map Rw.v) false,.func 146 [.rptr (.agg [.int f.router,.int f.sub,.int f.len,.sl 2 (f.rows.map Rw.v) false]) 0]]
def Gd(s:List Rw)(f:Tbl)(t0:Int):NF:=⟨[(0,.k,.sl 2 (s.map Rw.v) false),(1,.k,.func 146 [.rptr (.agg [.int f.router,.int f.sub,.int f.len,.sl 2 (f.rows.map Rw.v) false]) 0]),(7,.k,.int ((s.map Rw.v).length:Int)),(8,.k,.int t0)],[]⟩
@[reducible] def Bq:Nat→Type
 | 0=>Int
 | _=>Unit
def qX(r:Int):AV:=.int r
def qW(s:List Rw)(f:Tbl)(I0:Int→Prop)(m0:Int→Nat):Ax Tryz.prog Bq (Int):=
 (.loop 0 (Gd s f) I0 m0 ((0):Int) [] λ(t0:Int) b0 =>
(.br 16 (decide (t0<((s.map Rw.v).length:Int))) (.el 96 Rw.v s (λR=>Rf (s.map Rw.v) (ck (decide (0≤t0)) (ck (decide (t0<(s.length:Int)))
(∀x1,s[t0.toNat]?=some x1 →
(R x1))))) λx1 =>
(.callP (Pn x1 f)
(.br 144 (hU x1 f) (.ret (t0))
(.bk 0 b0 ((W (t0+1)):Int) []))))
(.ret (-1))))
def uc(s:List Rw)(f:Tbl)(I0:Int→Prop)(m0:Int→Nat)(r0:Int):=(qW s f I0 m0).vp qX r0
theorem Kv(s:List Rw)(f:Tbl)(ok:Br s f):∃I m,uc s f I m (cw (λy=>hU y f) s):=by
 refine⟨λt=>aL s (λy=>hU y f=false) t,λt=>s.length-t.toNat,?_⟩
 simp only[Br,okU,Blk.ok,aK,List.length_map]at ok
 dsimp only[uc,qW,Bq,Ax.vp,Ax.vc];simp only[vcU,rfU,List.length_map]
 exact⟨aL.zero,λt h=>⟨λc=>⟨h.idx,c,λx hx=>⟨λq=>h.found hx q,λq=>h.step (by omega) hx q⟩⟩,λc=>h.lost c⟩⟩
def Kw(s:List Rw)(f:Tbl):PC Tryz.prog:=⟨162,[(.s 2),.k],[.sl 2 (s.map Rw.v) false,.func 146 [.rptr (.agg [.int f.router,.int f.sub,.int f.len,.sl 2 (f.rows.map Rw.v) false]) 0]],qX (cw (λy=>hU y f) s),aw.of_ok λok=>(Kv s f ok).elim λI0 h=>h.elim λm0 h=>av (sh:=.k) (enc:=qX) (a:=(qW s f I0 m0).an) h (by kernel_rfl) (AV.pureB_ok rfl),ap (by kernel_rfl)⟩
def Kz(s:List Rw)(f:Tbl):=okL [.sl 2 (s.map Rw.v) false,.func 146 [.rptr (.agg [.int f.router,.int f.sub,.int f.len,.sl 2 (f.rows.map Rw.v) false]) 0]]
def qZ(r:Bool):AV:=.bool r
def qY(s:List Rw)(f:Tbl):Ax Tryz.prog noS (Bool):=
 (.callP (Kw s f)
(.ret (decide (0≤(cw (λy=>hU y f) s)))))
def ud(s:List Rw)(f:Tbl)(r0:Bool):=(qY s f).vp qZ r0
theorem Kx(s:List Rw)(f:Tbl)(ok:Kz s f):ud s f (s.any λy=>hU y f):=by
 dsimp only[ud,qY,noS,Ax.vp,Ax.vc];simp only[vcU,rfU,List.length_map]
 exact dA _ _
def Ky(s:List Rw)(f:Tbl):PC Tryz.prog:=⟨142,[(.s 2),.k],[.sl 2 (s.map Rw.v) false,.func 146 [.rptr (.agg [.int f.router,.int f.sub,.int f.len,.sl 2 (f.rows.map Rw.v) false]) 0]],qZ (s.any λy=>hU y f),aw.of_ok λok=>av (sh:=.k) (enc:=qZ) (a:=(qY s f).an) (Kx s f ok) (by kernel_rfl) (AV.pureB_ok rfl),ap (by kernel_rfl)⟩
def hdB(b:Tbl):Bool:=!((inP b.router 1 99 && inP b.sub 0 7) && (cS b.len || (b.len==0 && decide (b.rows.length=0))))
def iu(b:Tbl):Bool:=hdB b || b.rows.any jo
def gX(b:Tbl):Bool:=decide (256<b.rows.length) || b.rows.any gW
def vV(l:List Rw):Prop:=(∀r∈l,jz r.nx=true)∧l.Pairwise λx y=>x.id<y.id
instance (l:List Rw):Decidable (vV l):=by unfold vV;infer_instance
def ju(b:Tbl):Int:=if iu b=true then 2 else if gX b=true then 3 else if ¬vV b.rows then 25
 else if(b.rows.any λr=>hU r b)=true then 8 else 0
theorem pZ{b:Tbl}(h:gX b=false):b.rows.length≤256∧∀r∈b.rows,r.nx.length≤24:=by
 unfold gX at h
 rw[Bool.or_eq_false_iff,decide_eq_false_iff_not,List.any_eq_false]at h
 refine⟨by omega,λr hr=>?_⟩
 have:=h.2 r hr
 simp[gW]at this;exact this
def P7(b:Tbl):=okL [.agg [.int b.router,.int b.sub,.int b.len,.sl 2 (b.rows.map Rw.v) false]]
def KL(b:Tbl)(t0:Unit):NF:=⟨[(1,.k,.ref 0 0)],[.box (.agg [.int b.router,.int b.sub,.int b.len,.sl 2 (b.rows.map Rw.v) false])]⟩
def KK(b:Tbl)(t1:Bool):NF:=⟨[(1,.k,.ref 0 0),(15,.k,.bool t1)],[.box (.agg [.int b.router,.int b.sub,.int b.len,.sl 2 (b.rows.map Rw.v) false])]⟩
def KJ(b:Tbl)(t2:Bool):NF:=⟨[(1,.k,.ref 0 0),(41,.k,.bool t2)],[.box (.agg [.int b.router,.int b.sub,.int b.len,.sl 2 (b.rows.map Rw.v) false])]⟩
def KI(b:Tbl)(t3:Bool):NF:=⟨[(1,.k,.ref 0 0),(15,.k,.bool t3)],[.box (.agg [.int b.router,.int b.sub,.int b.len,.sl 2 (b.rows.map Rw.v) false])]⟩
def KH(b:Tbl)(t4:Bool):NF:=⟨[(1,.k,.ref 0 0),(41,.k,.bool t4)],[.box (.agg [.int b.router,.int b.sub,.int b.len,.sl 2 (b.rows.map Rw.v) false])]⟩
def KG(b:Tbl)(t5:Int):NF:=⟨[(1,.k,.ref 0 0),(52,.k,.sl 2 (b.rows.map Rw.v) false),(53,.k,.int ((b.rows.map Rw.v).length:Int)),(54,.k,.int t5)],[.box (.agg [.int b.router,.int b.sub,.int b.len,.sl 2 (b.rows.map Rw.v) false])]⟩
def KF(b:Tbl)(t5:Int)(t6:Bool):NF:=⟨[(1,.k,.ref 0 0),(52,.k,.sl 2 (b.rows.map Rw.v) false),(53,.k,.int ((b.rows.map Rw.v).length:Int)),(54,.k,.int t5),(78,.k,.bool t6)],[.box (.agg [.int b.router,.int b.sub,.int b.len,.sl 2 (b.rows.map Rw.v) false])]⟩
@[reducible] def Gm:Nat→Type
 | 0=>Unit
 | 1=>Bool
 | 2=>Bool
 | 3=>Bool
 | 4=>Bool
 | 5=>Int
 | 6=>Bool
 | _=>Unit
def yi(r:Int):AV:=.int r
def yh(b:Tbl)(I0:Unit→Prop)(I1:Bool→Prop)(I2:Bool→Bool→Prop)(I3:Bool→Prop)(I4:Bool→Bool→Prop)(I5:Unit→Int→Prop)(m5:Unit→Int→Nat)(I6:Unit→Int→Rw→Bool→Prop):Ax Tryz.prog Gm (Int):=
 (.pass (.join2 0 (KL b) (λ(t0:Unit)=>I0 t0) (λb0=>(.br 96 (b.len==0) (.join 1 (KK b) (λ(t1:Bool)=>I1 t1) (λb1=>(.callP (kF b.router 1 99)
(.br 272 (!(inP b.router 1 99)) (.bk 1 b1 ((true):Bool) [0])
(.callP (kF b.sub 0 7)
(.br 368 (!(inP b.sub 0 7)) (.bk 1 b1 ((true):Bool) [0])
(.callP (yU b.len)
(.br 448 (!(cS b.len)) (.br 528 (!(((b.rows.map Rw.v).length:Int)==0)) (.bk 1 b1 ((true):Bool) [0])
(.callP (px b.rows)
(.bk 1 b1 (((b.rows).any jo):Bool) [0])))
(.callP (px b.rows)
(.bk 1 b1 (((b.rows).any jo):Bool) [0]))))))))) λ(t1:Bool) =>
(.br 1 t1 (.ret (2))
(.join 2 (KJ b) (λ(t2:Bool)=>I2 t1 t2) (λb2=>(.br 81 (decide (256<((b.rows.map Rw.v).length:Int))) (.bk 2 b2 ((true):Bool) [0])
(.callP (Ar b.rows)
(.bk 2 b2 (((b.rows).any gW):Bool) [0])))) λ(t2:Bool) =>
(.br 1 t2 (.ret (3))
(.bk 0 b0 ((()):Unit) [0])))))
(.join 3 (KI b) (λ(t3:Bool)=>I3 t3) (λb3=>(.callP (kF b.router 1 99)
(.br 272 (!(inP b.router 1 99)) (.bk 3 b3 ((true):Bool) [0])
(.callP (kF b.sub 0 7)
(.br 368 (!(inP b.sub 0 7)) (.bk 3 b3 ((true):Bool) [0])
(.callP (yU b.len)
(.br 448 (!(cS b.len)) (.bk 3 b3 ((true):Bool) [0])
(.callP (px b.rows)
(.bk 3 b3 (((b.rows).any jo):Bool) [0]))))))))) λ(t3:Bool) =>
(.br 1 t3 (.ret (2))
(.join 4 (KH b) (λ(t4:Bool)=>I4 t3 t4) (λb4=>(.br 81 (decide (256<((b.rows.map Rw.v).length:Int))) (.bk 4 b4 ((true):Bool) [0])
(.callP (Ar b.rows)
(.bk 4 b4 (((b.rows).any gW):Bool) [0])))) λ(t4:Bool) =>
(.br 1 t4 (.ret (3))
(.bk 0 b0 ((()):Unit) [0]))))))) λ(t0:Unit) =>
(.loop 5 (KG b) (I5 t0) (m5 t0) ((0):Int) [0] λ(t5:Int) b5 =>
(.br 17 (decide (t5<((b.rows.map Rw.v).length:Int))) (.el 33 Rw.v b.rows (λR=>Rf (b.rows.map Rw.v) (ck (decide (0≤t5)) (ck (decide (t5<(b.rows.length:Int)))
(∀x1,b.rows[t5.toNat]?=some x1 →
(R x1))))) λx1 =>
(.join 6 (KF b t5) (λ(t6:Bool)=>I6 t0 t5 x1 t6) (λb6=>(.req 145 (x1.nx.length≤1000000) λh2 =>
(.callP (PY x1.nx h2)
(.br 193 (!(jz x1.nx)) (.bk 6 b6 ((true):Bool) [0])
(.br 241 (decide (0<t5)) (.el 305 Rw.v b.rows (λR=>Rf (b.rows.map Rw.v) (ck (decide (0≤(W (t5-1)))) (ck (decide ((W (t5-1))<(b.rows.length:Int)))
(∀x3,b.rows[(W (t5-1)).toNat]?=some x3 →
(R x3))))) λx3 =>
(.bk 6 b6 ((decide (x1.id≤x3.id)):Bool) [0]))
(.bk 6 b6 ((false):Bool) [0])))))) λ(t6:Bool) =>
(.br 1 t6 (.ret (25))
(.bk 5 b5 ((W (t5+1)):Int) [0]))))
(.callP (Ky b.rows b)
(.say (ck (cD [[.agg [.int b.router,.int b.sub,.int b.len,.sl 2 (b.rows.map Rw.v) false]]])) (.br 81 ((b.rows).any λy=>hU y b) (.ret (8))
(.ret (0)))))))))
def Bz(b:Tbl)(I0:Unit→Prop)(I1:Bool→Prop)(I2:Bool→Bool→Prop)(I3:Bool→Prop)(I4:Bool→Bool→Prop)(I5:Unit→Int→Prop)(m5:Unit→Int→Nat)(I6:Unit→Int→Rw→Bool→Prop)(r0:Int):=(yh b I0 I1 I2 I3 I4 I5 m5 I6).vp yi r0
theorem P6(b:Tbl)(ok:P7 b):∃I0 I1 I2 I3 I4 I5 m5 I6,Bz b I0 I1 I2 I3 I4 I5 m5 I6 (ju b):=by
 refine⟨λ_=>iu b=false∧gX b=false,λt=>t=iu b,λ_ t=>t=gX b,λt=>t=iu b,λ_ t=>t=gX b,
  λ_ i=>dJ b.rows (λx y=>x.id<y.id) i∧aL b.rows (λr=>jz r.nx=true) i,λ_ i=>b.rows.length-i.toNat,
  λ_ i x t=>t=true↔jz x.nx=false∨0<i∧∃p q,b.rows[(W (i-1)).toNat]?=some p∧b.rows[i.toNat]?=some q∧¬p.id<q.id,?_⟩
 dsimp only[Bz,yh,Gm,Ax.vp,Ax.vc];simp only[vcU,rfU,List.length_map]
 unfold ju
 have k1:∀t,t=iu b→(t=true→2=if iu b=true then 2 else if gX b=true then 3 else if ¬vV b.rows then 25 else if(b.rows.any λr=>hU r b)=true then 8 else(0:Int)):=by
  rintro _ rfl h;rw[if_pos h]
 have k2:iu b=false→∀t,t=gX b→(t=true→3=if iu b=true then 2 else if gX b=true then 3 else if ¬vV b.rows then 25 else if(b.rows.any λr=>hU r b)=true then 8 else(0:Int)):=by
  rintro h0 _ rfl h;rw[if_neg (by rw[h0];simp),if_pos h]
 have k3:(256<(b.rows.length:Int)→true=gX b)∧(¬256<(b.rows.length:Int)→b.rows.any gW=gX b):=
  ⟨λg=>by rw[gX,decide_eq_true (by omega)];rfl,λg=>by rw[gX,decide_eq_false (by omega)];rfl⟩
 refine⟨⟨λe=>⟨?_,?_⟩,λe=>⟨?_,?_⟩⟩,?_⟩
 ·refine⟨λa=>?_,λa=>⟨λc=>?_,λc=>⟨λd=>⟨λf=>?_,λf=>?_⟩,λd=>?_⟩⟩⟩<;>simp_all [iu,hdB]
 ·intro t ht
  exact⟨k1 t ht,λh=>⟨k3,λt2 ht2=>⟨k2 (ht ▸ h) t2 ht2,λh2=>⟨ht ▸ h,ht2 ▸ h2⟩⟩⟩⟩
 ·refine⟨λa=>?_,λa=>⟨λc=>?_,λc=>⟨λd=>?_,λd=>?_⟩⟩⟩<;>simp_all [iu,hdB]
 ·intro t ht
  exact⟨k1 t ht,λh=>⟨k3,λt2 ht2=>⟨k2 (ht ▸ h) t2 ht2,λh2=>⟨ht ▸ h,ht2 ▸ h2⟩⟩⟩⟩
 rintro _ ⟨h1,h2⟩
 obtain⟨hr,hn⟩:=pZ h2
 rw[if_neg (by rw[h1];simp),if_neg (by rw[h2];simp)]
 refine⟨⟨dJ.zero,aL.zero⟩,?_⟩
 rintro(i:Int) ⟨hC,hI⟩
 refine⟨λc1=>⟨hC.idx,c1,λx hx=>⟨⟨by have:=hn x (bS hx);omega,λe=>?_,λe=>⟨λh0=>?_,λh0=>?_⟩⟩,λt ht=>⟨λe=>?_,λe=>?_⟩⟩⟩,λc1=>?_⟩
 ·exact⟨λ_=>.inl (by simpa using e),λ_=>trivial⟩
 ·have e:jz x.nx=true:=by simpa using e
  obtain⟨g1,g2⟩:=hC.rng (by omega) h0 c1
  refine⟨g1,g2,λy hy=>?_⟩
  refine⟨λq=>.inr ⟨h0,y,x,hy,hx,by omega⟩,?_⟩
  rintro(q|⟨_,y',x',hy',hx',q⟩)
  ·rw[e]at q;cases q
  ·rw[hy]at hy';cases hy';rw[hx]at hx';cases hx';omega
 ·have e:jz x.nx=true:=by simpa using e
  refine⟨nofun,?_⟩
  rintro(q|q)
  ·rw[e]at q;cases q
  ·exact absurd q.1 h0
 ·have q:=ht.mp e
  rw[if_pos]
  rintro⟨o1,o2⟩
  rcases q with q|q
  ·rw[o1 x (bS hx)]at q;cases q
  ·exact(hC.next (b:=true) (by omega) c1 ⟨λ_=>q,λ_=>rfl⟩).1 rfl o2
 ·have q:¬_:=λq=>by rw[ht.mpr q]at e;cases e
  have ha:jz x.nx=true:=by
   cases z:jz x.nx
   ·exact absurd (.inl z) q
   ·rfl
  have n2:=(hC.next (b:=false) (by omega) c1 ⟨nofun,λz=>absurd (.inr z) q⟩).2 rfl
  exact⟨⟨n2.1,(hI.step (by omega) hx ha).1⟩,n2.2⟩
 ·have hO:vV b.rows:=⟨hI.done c1,hC.done c1 λ_ _ _ q r=>Int.lt_trans q r⟩
  rw[if_neg (not_not_intro hO)]
  exact⟨rfl,λe=>by rw[if_pos e],λe=>by rw[if_neg (by rw[e];simp)]⟩
def Gn(b:Tbl):PC Tryz.prog:=⟨116,[(.a [.k,.k,.k,(.s 2)])],[.agg [.int b.router,.int b.sub,.int b.len,.sl 2 (b.rows.map Rw.v) false]],yi (ju b),aw.of_ok λok=>(P6 b ok).elim λI0 h=>h.elim λI1 h=>h.elim λI2 h=>h.elim λI3 h=>h.elim λI4 h=>h.elim λI5 h=>h.elim λm5 h=>h.elim λI6 h=>av (sh:=.k) (enc:=yi) (a:=(yh b I0 I1 I2 I3 I4 I5 m5 I6).an) h (by kernel_rfl) (AV.pureB_ok rfl),ap (by kernel_rfl)⟩
theorem N2{b:Tbl}(ok:okL [AV.agg [.int b.router,.int b.sub,.int b.len,.sl 2 (b.rows.map Rw.v) false]]):b.rows.length≤9223372036854775807∧∀r∈b.rows,r.nx.length≤9223372036854775807:=by
 obtain⟨⟨_,_,_,h,_⟩,_⟩:=ok
 obtain⟨h1,h2⟩:=h
 rw[List.length_map]at h1
 refine⟨h1,λr hr=>?_⟩
 obtain⟨_,h3,_⟩:=Aa.mp h2 r.v (List.mem_map.mpr ⟨r,hr,rfl⟩)
 have:=h3.1
 rw[List.length_map]at this
 exact this
def P4(b:Tbl):=okL [.agg [.int b.router,.int b.sub,.int b.len,.sl 2 (b.rows.map Rw.v) false]]
def K9(b:Tbl)(t0:Bool):NF:=⟨[(1,.k,.ref 0 0),(36,.k,.bool t0)],[.box (.agg [.int b.router,.int b.sub,.int b.len,.sl 2 (b.rows.map Rw.v) false])]⟩
def K8(b:Tbl)(t1:Int):NF:=⟨[(1,.k,.ref 0 0),(3,.k,.int t1)],[.box (.agg [.int b.router,.int b.sub,.int b.len,.sl 2 (b.rows.map Rw.v) false])]⟩
def K7(b:Tbl)(t1:Int)(t2:Int):NF:=⟨[(1,.k,.ref 0 0),(3,.k,.int t1),(4,.k,.int t2)],[.box (.agg [.int b.router,.int b.sub,.int b.len,.sl 2 (b.rows.map Rw.v) false])]⟩
def K6(b:Tbl)(t3:Int):NF:=⟨[(1,.k,.ref 0 0),(5,.k,.int t3)],[.box (.agg [.int b.router,.int b.sub,.int b.len,.sl 2 (b.rows.map Rw.v) false])]⟩
def K5(b:Tbl)(t4:Int):NF:=⟨[(1,.k,.ref 0 0),(6,.k,.int t4)],[.box (.agg [.int b.router,.int b.sub,.int b.len,.sl 2 (b.rows.map Rw.v) false])]⟩
def K4(b:Tbl)(t4:Int)(x6:Rw)(t5:Bool):NF:=⟨[(1,.k,.ref 0 0),(6,.k,.int t4),(7,.k,.sl 1 (x6.nx.map AV.int) false),(123,.k,.bool t5)],[.box (.agg [.int b.router,.int b.sub,.int b.len,.sl 2 (b.rows.map Rw.v) false])]⟩
def K3(b:Tbl)(t4:Int)(x6:Rw)(t6:Int):NF:=⟨[(1,.k,.ref 0 0),(6,.k,.int t4),(7,.k,.sl 1 (x6.nx.map AV.int) false),(8,.k,.int t6)],[.box (.agg [.int b.router,.int b.sub,.int b.len,.sl 2 (b.rows.map Rw.v) false])]⟩
def K2(b:Tbl)(t7:Int):NF:=⟨[(1,.k,.ref 0 0),(9,.k,.int t7)],[.box (.agg [.int b.router,.int b.sub,.int b.len,.sl 2 (b.rows.map Rw.v) false])]⟩
def K1(b:Tbl)(t7:Int)(t8:Bool):NF:=⟨[(1,.k,.ref 0 0),(9,.k,.int t7),(165,.k,.bool t8)],[.box (.agg [.int b.router,.int b.sub,.int b.len,.sl 2 (b.rows.map Rw.v) false])]⟩
@[reducible] def Gi:Nat→Type
 | 0=>Bool
 | 1=>Int
 | 2=>Int
 | 3=>Int
 | 4=>Int
 | 5=>Bool
 | 6=>Int
 | 7=>Int
 | 8=>Bool
 | _=>Unit
def ye(r:Int):AV:=.int r
def yd(b:Tbl)(I0:Bool→Prop)(I1:Bool→Int→Prop)(m1:Bool→Int→Nat)(I2:Bool→Int→Rw→Int→Prop)(m2:Bool→Int→Rw→Int→Nat)(I3:Bool→Int→Int→Prop)(m3:Bool→Int→Int→Nat)(I4:Bool→Int→Int→Int→Prop)(m4:Bool→Int→Int→Int→Nat)(I5:Bool→Int→Int→Int→Rw→Bool→Prop)(I6:Bool→Int→Int→Int→Rw→Bool→Int→Prop)(m6:Bool→Int→Int→Int→Rw→Bool→Int→Nat)(I7:Bool→Int→Int→Int→Int→Prop)(m7:Bool→Int→Int→Int→Int→Nat)(I8:Bool→Int→Int→Int→Int→Bool→Prop):Ax Tryz.prog Gi (Int):=
 (.pass (.pass (.join 0 (K9 b) (λ(t0:Bool)=>I0 t0) (λb0=>(.callP (jS b.router 1 99)
(.br 112 (!(inP b.router 1 99)) (.bk 0 b0 ((true):Bool) [0])
(.callP (jS b.sub 0 7)
(.br 208 (!(inP b.sub 0 7)) (.bk 0 b0 ((true):Bool) [0])
(.callP (yT b.len)
(.br 288 (!(cS b.len)) (.br 352 (b.len != 0) (.bk 0 b0 ((true):Bool) [0])
(.bk 0 b0 ((decide (0<((b.rows.map Rw.v).length:Int))):Bool) [0]))
(.bk 0 b0 ((false):Bool) [0])))))))) λ(t0:Bool) =>
(.br 1 t0 (.ret (2))
(.loop 1 (K8 b) (I1 t0) (m1 t0) ((0):Int) [0] λ(t1:Int) b1 =>
(.br 81 (decide (t1<((b.rows.map Rw.v).length:Int))) (.el 129 Rw.v b.rows (λR=>Rf (b.rows.map Rw.v) (ck (decide (0≤t1)) (ck (decide (t1<(b.rows.length:Int)))
(∀x1,b.rows[t1.toNat]?=some x1 →
(R x1))))) λx1 =>
(.callP (jS x1.id 1 256)
(.br 209 (!(inP x1.id 1 256)) (.ret (2))
(.loop 2 (K7 b t1) (I2 t0 t1 x1) (m2 t0 t1 x1) ((0):Int) [0] λ(t2:Int) b2 =>
(.el 65 Rw.v b.rows (λR=>Rf (b.rows.map Rw.v) (ck (decide (0≤t1)) (ck (decide (t1<(b.rows.length:Int)))
(∀x2,b.rows[t1.toNat]?=some x2 →
(R x2))))) λx2 =>
(.br 145 (decide (t2<((x2.nx.map AV.int).length:Int))) (.el 193 Rw.v b.rows (λR=>Rf (b.rows.map Rw.v) (ck (decide (0≤t1)) (ck (decide (t1<(b.rows.length:Int)))
(∀x3,b.rows[t1.toNat]?=some x3 →
(R x3))))) λx3 =>
(.el 257 AV.int x3.nx (λR=>Rf (x3.nx.map AV.int) (ck (decide (0≤t2)) (ck (decide (t2<(x3.nx.length:Int)))
(∀x4,x3.nx[t2.toNat]?=some x4 →
(R x4))))) λx4 =>
(.callP (jS x4 1 99)
(.br 321 (!(inP x4 1 99)) (.ret (2))
(.bk 2 b2 ((W (t2+1)):Int) [0])))))
(.bk 1 b1 ((W (t1+1)):Int) [0])))))))
(.br 145 (decide (256<((b.rows.map Rw.v).length:Int))) (.ret (3))
(.loop 3 (K6 b) (I3 t0 t1) (m3 t0 t1) ((0):Int) [0] λ(t3:Int) b3 =>
(.br 81 (decide (t3<((b.rows.map Rw.v).length:Int))) (.el 129 Rw.v b.rows (λR=>Rf (b.rows.map Rw.v) (ck (decide (0≤t3)) (ck (decide (t3<(b.rows.length:Int)))
(∀x5,b.rows[t3.toNat]?=some x5 →
(R x5))))) λx5 =>
(.br 209 (decide (24<((x5.nx.map AV.int).length:Int))) (.ret (3))
(.bk 3 b3 ((W (t3+1)):Int) [0])))
(.loop 4 (K5 b) (I4 t0 t1 t3) (m4 t0 t1 t3) ((0):Int) [0] λ(t4:Int) b4 =>
(.br 81 (decide (t4<((b.rows.map Rw.v).length:Int))) (.el 129 Rw.v b.rows (λR=>Rf (b.rows.map Rw.v) (ck (decide (0≤t4)) (ck (decide (t4<(b.rows.length:Int)))
(∀x6,b.rows[t4.toNat]?=some x6 →
(R x6))))) λx6 =>
(.pass (.join 5 (K4 b t4 x6) (λ(t5:Bool)=>I5 t0 t1 t3 t4 x6 t5) (λb5=>(.br 241 (decide (0<t4)) (.el 305 Rw.v b.rows (λR=>Rf (b.rows.map Rw.v) (ck (decide (0≤(W (t4-1)))) (ck (decide ((W (t4-1))<(b.rows.length:Int)))
(∀x7,b.rows[(W (t4-1)).toNat]?=some x7 →
(R x7))))) λx7 =>
(.el 401 Rw.v b.rows (λR=>Rf (b.rows.map Rw.v) (ck (decide (0≤t4)) (ck (decide (t4<(b.rows.length:Int)))
(∀x8,b.rows[t4.toNat]?=some x8 →
(R x8))))) λx8 =>
(.bk 5 b5 ((decide (x8.id≤x7.id)):Bool) [0])))
(.bk 5 b5 ((false):Bool) [0]))) λ(t5:Bool) =>
(.br 1 t5 (.ret (25))
(.loop 6 (K3 b t4 x6) (I6 t0 t1 t3 t4 x6 t5) (m6 t0 t1 t3 t4 x6 t5) ((1):Int) [0] λ(t6:Int) b6 =>
(.br 65 (decide (t6<((x6.nx.map AV.int).length:Int))) (.el 113 AV.int x6.nx (λR=>Rf (x6.nx.map AV.int) (ck (decide (0≤(W (t6-1)))) (ck (decide ((W (t6-1))<(x6.nx.length:Int)))
(∀x9,x6.nx[(W (t6-1)).toNat]?=some x9 →
(R x9))))) λx9 =>
(.el 177 AV.int x6.nx (λR=>Rf (x6.nx.map AV.int) (ck (decide (0≤t6)) (ck (decide (t6<(x6.nx.length:Int)))
(∀x10,x6.nx[t6.toNat]?=some x10 →
(R x10))))) λx10 =>
(.br 225 (decide (x10≤x9)) (.ret (25))
(.bk 6 b6 ((W (t6+1)):Int) [0]))))
(.bk 4 b4 ((W (t4+1)):Int) [0])))))))
(.loop 7 (K2 b) (I7 t0 t1 t3 t4) (m7 t0 t1 t3 t4) ((0):Int) [0] λ(t7:Int) b7 =>
(.br 81 (decide (t7<((b.rows.map Rw.v).length:Int))) (.pass (.join 8 (K1 b t7) (λ(t8:Bool)=>I8 t0 t1 t3 t4 t7 t8) (λb8=>(.el 129 Rw.v b.rows (λR=>Rf (b.rows.map Rw.v) (ck (decide (0≤t7)) (ck (decide (t7<(b.rows.length:Int)))
(∀x11,b.rows[t7.toNat]?=some x11 →
(R x11))))) λx11 =>
(.br 225 (decide (1<((x11.nx.map AV.int).length:Int))) (.el 273 Rw.v b.rows (λR=>Rf (b.rows.map Rw.v) (ck (decide (0≤t7)) (ck (decide (t7<(b.rows.length:Int)))
(∀x12,b.rows[t7.toNat]?=some x12 →
(R x12))))) λx12 =>
(.callP (wU x12.nx b.router)
(.bk 8 b8 ((decide (b.router∈x12.nx)):Bool) [0])))
(.bk 8 b8 ((false):Bool) [0])))) λ(t8:Bool) =>
(.br 1 t8 (.ret (8))
(.bk 7 b7 ((W (t7+1)):Int) [0]))))
(.ret (0)))))))))))))))
def Bx(b:Tbl)(I0:Bool→Prop)(I1:Bool→Int→Prop)(m1:Bool→Int→Nat)(I2:Bool→Int→Rw→Int→Prop)(m2:Bool→Int→Rw→Int→Nat)(I3:Bool→Int→Int→Prop)(m3:Bool→Int→Int→Nat)(I4:Bool→Int→Int→Int→Prop)(m4:Bool→Int→Int→Int→Nat)(I5:Bool→Int→Int→Int→Rw→Bool→Prop)(I6:Bool→Int→Int→Int→Rw→Bool→Int→Prop)(m6:Bool→Int→Int→Int→Rw→Bool→Int→Nat)(I7:Bool→Int→Int→Int→Int→Prop)(m7:Bool→Int→Int→Int→Int→Nat)(I8:Bool→Int→Int→Int→Int→Bool→Prop)(r0:Int):=(yd b I0 I1 m1 I2 m2 I3 m3 I4 m4 I5 I6 m6 I7 m7 I8).vp ye r0
theorem mh{b:Tbl}:iu b=false↔hdB b=false∧∀r∈b.rows,inP r.id 1 256=true∧∀n∈r.nx,inP n 1 99=true:=by
 unfold iu
 rw[Bool.or_eq_false_iff,List.any_eq_false]
 refine and_congr_right λ_=>forall_congr' λr=>forall_congr' λ_=>?_
 unfold jo lv
 cases inP r.id 1 256<;>simp
theorem P2(b:Tbl)(ok:P4 b):∃I0 I1 m1 I2 m2 I3 m3 I4 m4 I5 I6 m6 I7 m7 I8,Bx b I0 I1 m1 I2 m2 I3 m3 I4 m4 I5 I6 m6 I7 m7 I8 (ju b):=by
 refine⟨λt=>t=hdB b,λ_ i=>aL b.rows (λr=>inP r.id 1 256=true∧∀n∈r.nx,inP n 1 99=true) i,λ_ i=>b.rows.length-i.toNat,
  λ_ _ x i=>aL x.nx (λn=>inP n 1 99=true) i,λ_ _ x i=>x.nx.length-i.toNat,
  λ_ _ i=>aL b.rows (λr=>¬24<r.nx.length) i,λ_ _ i=>b.rows.length-i.toNat,
  λ_ _ _ i=>dJ b.rows (λx y=>x.id<y.id) i∧aL b.rows (λr=>jz r.nx=true) i,λ_ _ _ i=>b.rows.length-i.toNat,
  λ_ _ _ i x t=>t=true↔0<i∧∃p q,b.rows[(W (i-1)).toNat]?=some p∧b.rows[i.toNat]?=some q∧¬p.id<q.id,
  λ_ _ _ _ x _ i=>fM x.nx (λp q=>p<q) i,λ_ _ _ _ x _ i=>x.nx.length+1-i.toNat,
  λ_ _ _ _ i=>aL b.rows (λr=>hU r b=false) i,λ_ _ _ _ i=>b.rows.length-i.toNat,λ_ _ _ _ i t=>∀x,b.rows[i.toNat]?=some x→t=hU x b,?_⟩
 have okn:=N2 (b:=b) ok
 dsimp only[Bx,yd,Gi,Ax.vp,Ax.vc];simp only[vcU,rfU,List.length_map]
 unfold ju
 obtain⟨ol,on⟩:=okn
 have hz:(0<(b.rows.length:Int))↔¬b.rows.length=0:=by omega
 refine⟨⟨λa=>?_,λa=>⟨λc=>?_,λc=>⟨λd=>⟨λf=>?_,λf=>?_⟩,λd=>?_⟩⟩⟩,?_⟩
 ·simp_all [hdB]
 ·simp_all [hdB]
 ·simp_all [hdB]
 ·rw[Bool.eq_iff_iff,decide_eq_true_iff,hz];simp_all [hdB]
 ·simp_all [hdB]
 rintro _ rfl
 refine⟨λh=>by rw[if_pos (by rw[iu,h];rfl)],λh=>⟨aL.zero,?_⟩⟩
 intro (i:Int) h1
 have bad:∀{x:Rw} {i:Int},b.rows[i.toNat]?=some x→¬(inP x.id 1 256=true∧∀n∈x.nx,inP n 1 99=true)→iu b=true:=λ{x i} hx q=>by
  cases z:iu b
  ·exact absurd ((mh.mp z).2 x (bS hx)) q
  ·rfl
 refine⟨λc1=>⟨h1.idx,c1,λx hx=>⟨λe=>?_,λe=>⟨aL.zero,?_⟩⟩⟩,λc1=>?_⟩
 ·rw[if_pos (bad hx λq=>by rw[q.1]at e;cases e)]
 ·intro (k:Int) h2
  refine⟨h1.idx,c1,λx2 hx2=>⟨λc2=>⟨h1.idx,c1,λx3 hx3=>⟨h2.idx,?_,λn hn=>⟨λe2=>?_,λe2=>?_⟩⟩⟩,λc2=>?_⟩⟩
  ·rw[hx]at hx2 hx3;cases hx2;cases hx3;exact c2
  ·rw[hx]at hx2 hx3;cases hx2;cases hx3
   rw[if_pos (bad hx λq=>by rw[q.2 n (bS hn)]at e2;cases e2)]
  ·rw[hx]at hx2 hx3;cases hx2;cases hx3
   exact h2.step (on x (bS hx)) hn (by simpa using e2)
  ·rw[hx]at hx2;cases hx2
   exact h1.step ol hx ⟨by simpa using e,h2.done c2⟩
 have hout:iu b=false:=mh.mpr ⟨h,h1.done c1⟩
 rw[if_neg (by rw[hout];simp)]
 refine⟨λg=>by rw[if_pos (by rw[gX,decide_eq_true (by omega)];rfl)],λg=>⟨aL.zero,?_⟩⟩
 intro (i2:Int) h3
 refine⟨λc2=>⟨h3.idx,c2,λx hx=>⟨λe=>?_,λe=>h3.step ol hx (by omega)⟩⟩,λc2=>?_⟩
 ·rw[if_pos]
  rw[gX,(List.any_eq_true.mpr ⟨x,bS hx,by rw[gW,decide_eq_true_iff];omega⟩:b.rows.any gW=true)];simp
 have hlim:gX b=false:=by
  rw[gX,decide_eq_false (by omega),Bool.false_or,List.any_eq_false]
  intro x hx;have:=h3.done c2 x hx;simp[gW];omega
 obtain⟨hr,hn⟩:=pZ hlim
 rw[if_neg (by rw[hlim];simp)]
 refine⟨⟨dJ.zero,aL.zero⟩,?_⟩
 rintro(i3:Int) ⟨hC,hI⟩
 refine⟨λc3=>⟨hC.idx,c3,λx hx=>⟨⟨λh0=>?_,λh0=>⟨nofun,λq=>absurd q.1 h0⟩⟩,λt ht=>⟨λe=>?_,λe=>⟨fM.one,?_⟩⟩⟩⟩,λc3=>?_⟩
 ·obtain⟨g1,g2⟩:=hC.rng (by omega) h0 c3
  refine⟨g1,g2,λy hy=>⟨hC.idx,c3,λx2 hx2=>?_⟩⟩
  refine⟨λq=>⟨h0,y,x2,hy,hx2,by omega⟩,?_⟩
  rintro⟨_,y',x',hy',hx',q⟩
  rw[hy]at hy';cases hy';rw[hx2]at hx';cases hx';omega
 ·rw[if_pos]
  exact λo=>(hC.next (b:=true) (by omega) c3 ⟨λ_=>ht.mp e,λ_=>rfl⟩).1 rfl o.2
 ·intro (k:Int) h4
  refine⟨λc4=>?_,λc4=>?_⟩
  ·obtain⟨i1,i2⟩:=h4.idx (by have:=hn x (bS hx);omega) c4
   refine⟨i1.1,i1.2,λp hp=>⟨i2,c4,λq hq=>⟨λe2=>?_,λe2=>h4.step (by have:=hn x (bS hx);omega) hp hq (by omega)⟩⟩⟩
   rw[if_pos]
   intro o
   have:=o.1 x (bS hx)
   rw[jz,decide_eq_true_iff]at this
   exact h4.bad (S:=λp q=>p<q) (by have:=hn x (bS hx);omega) hp hq (by omega) this
  ·have ha:jz x.nx=true:=decide_eq_true (h4.done c4 λ_ _ _ q r=>Int.lt_trans q r)
   have n2:=(hC.next (b:=false) (by omega) c3 ⟨nofun,λz=>by rw[ht.mpr z]at e;cases e⟩).2 rfl
   exact⟨⟨n2.1,(hI.step (by omega) hx ha).1⟩,n2.2⟩
 have hO:vV b.rows:=⟨hI.done c3,hC.done c3 λ_ _ _ q r=>Int.lt_trans q r⟩
 rw[if_neg (not_not_intro hO)]
 refine⟨aL.zero,?_⟩
 intro (i4:Int) h5
 refine⟨λc4=>⟨⟨h5.idx,c4,λx hx=>⟨λq=>⟨h5.idx,c4,λx2 hx2 x3 hx3=>?_⟩,λq x3 hx3=>?_⟩⟩,λt ht=>⟨λe=>?_,λe=>?_⟩⟩,λc4=>?_⟩
 ·rw[hx]at hx2 hx3;cases hx2;cases hx3
  rw[hU,decide_eq_true (by omega:1<x.nx.length)];rfl
 ·rw[hx]at hx3;cases hx3
  rw[hU,decide_eq_false (by omega:¬1<x.nx.length)];rfl
 ·have hx:=List.getElem?_eq_getElem (show i4.toNat<b.rows.length by have:=h5.idx;omega)
  rw[if_pos (List.any_eq_true.mpr ⟨_,bS hx,by rw[←ht _ hx,e]⟩)]
 ·have hx:=List.getElem?_eq_getElem (show i4.toNat<b.rows.length by have:=h5.idx;omega)
  exact h5.step ol hx (by rw[←ht _ hx,e])
 ·rw[if_neg]
  rw[List.any_eq_true]
  rintro⟨x,hx,q⟩
  rw[h5.done c4 x hx]at q;cases q
def P3(b:Tbl):PC Tryz.prog:=⟨119,[(.a [.k,.k,.k,(.s 2)])],[.agg [.int b.router,.int b.sub,.int b.len,.sl 2 (b.rows.map Rw.v) false]],ye (ju b),aw.of_ok λok=>(P2 b ok).elim λI0 h=>h.elim λI1 h=>h.elim λm1 h=>h.elim λI2 h=>h.elim λm2 h=>h.elim λI3 h=>h.elim λm3 h=>h.elim λI4 h=>h.elim λm4 h=>h.elim λI5 h=>h.elim λI6 h=>h.elim λm6 h=>h.elim λI7 h=>h.elim λm7 h=>h.elim λI8 h=>av (sh:=.k) (enc:=ye) (a:=(yd b I0 I1 m1 I2 m2 I3 m3 I4 m4 I5 I6 m6 I7 m7 I8).an) h (by kernel_rfl) (AV.pureB_ok rfl),ap (by kernel_rfl)⟩
def iI(b:Tbl):Bool:=!(ju b==0)
def PU(b:Tbl):=okL [.agg [.int b.router,.int b.sub,.int b.len,.sl 2 (b.rows.map Rw.v) false]]
def yx(r:Bool):AV:=.bool r
def yw(b:Tbl):Ax Tryz.prog noS (Bool):=
 (.callP (Gn b)
(.ret ((ju b) != 0)))
def B7(b:Tbl)(r0:Bool):=(yw b).vp yx r0
theorem PS(b:Tbl)(ok:PU b):B7 b (iI b):=by
 dsimp only[B7,yw,noS,Ax.vp,Ax.vc];simp only[vcU,rfU,List.length_map]
 rfl
def PT(b:Tbl):PC Tryz.prog:=⟨115,[(.a [.k,.k,.k,(.s 2)])],[.agg [.int b.router,.int b.sub,.int b.len,.sl 2 (b.rows.map Rw.v) false]],yx (iI b),aw.of_ok λok=>av (sh:=.k) (enc:=yx) (a:=(yw b).an) (PS b ok) (by kernel_rfl) (AV.pureB_ok rfl),ap (by kernel_rfl)⟩
def BA(s:List Tbl):=okL [.sl 4 (s.map Tbl.v) false,.func 115 []]
def GT(s:List Tbl)(t0:Int):NF:=⟨[(0,.k,.sl 4 (s.map Tbl.v) false),(1,.k,.func 115 []),(7,.k,.int ((s.map Tbl.v).length:Int)),(8,.k,.int t0)],[]⟩
@[reducible] def B9:Nat→Type
 | 0=>Int
 | _=>Unit
def rq(r:Int):AV:=.int r
def rp(s:List Tbl)(I0:Int→Prop)(m0:Int→Nat):Ax Tryz.prog B9 (Int):=
 (.loop 0 (GT s) I0 m0 ((0):Int) [] λ(t0:Int) b0 =>
(.br 16 (decide (t0<((s.map Tbl.v).length:Int))) (.el 96 Tbl.v s (λR=>Rf (s.map Tbl.v) (ck (decide (0≤t0)) (ck (decide (t0<(s.length:Int)))
(∀x1,s[t0.toNat]?=some x1 →
(R x1))))) λx1 =>
(.callP (PT x1)
(.br 144 (iI x1) (.ret (t0))
(.bk 0 b0 ((W (t0+1)):Int) []))))
(.ret (-1))))
def uq(s:List Tbl)(I0:Int→Prop)(m0:Int→Nat)(r0:Int):=(rp s I0 m0).vp rq r0
theorem Lt(s:List Tbl)(ok:BA s):∃I m,uq s I m (cw iI s):=by
 refine⟨λt=>aL s (λy=>iI y=false) t,λt=>s.length-t.toNat,?_⟩
 simp only[BA,okU,Blk.ok,aK,List.length_map]at ok
 dsimp only[uq,rp,B9,Ax.vp,Ax.vc];simp only[vcU,rfU,List.length_map]
 exact⟨aL.zero,λt h=>⟨λc=>⟨h.idx,c,λx hx=>⟨λq=>h.found hx q,λq=>h.step (by omega) hx q⟩⟩,λc=>h.lost c⟩⟩
def Lu(s:List Tbl):PC Tryz.prog:=⟨139,[(.s 4),.k],[.sl 4 (s.map Tbl.v) false,.func 115 []],rq (cw iI s),aw.of_ok λok=>(Lt s ok).elim λI0 h=>h.elim λm0 h=>av (sh:=.k) (enc:=rq) (a:=(rp s I0 m0).an) h (by kernel_rfl) (AV.pureB_ok rfl),ap (by kernel_rfl)⟩
def Lx(s:List Tbl):=okL [.sl 4 (s.map Tbl.v) false,.func 115 []]
def rt(r:Bool):AV:=.bool r
def rr(s:List Tbl):Ax Tryz.prog noS (Bool):=
 (.callP (Lu s)
(.ret (decide (0≤(cw iI s)))))
def ur(s:List Tbl)(r0:Bool):=(rr s).vp rt r0
theorem Lv(s:List Tbl)(ok:Lx s):ur s (s.any iI):=by
 dsimp only[ur,rr,noS,Ax.vp,Ax.vc];simp only[vcU,rfU,List.length_map]
 exact dA _ _
def Lw(s:List Tbl):PC Tryz.prog:=⟨114,[(.s 4),.k],[.sl 4 (s.map Tbl.v) false,.func 115 []],rt (s.any iI),aw.of_ok λok=>av (sh:=.k) (enc:=rt) (a:=(rr s).an) (Lv s ok) (by kernel_rfl) (AV.pureB_ok rfl),ap (by kernel_rfl)⟩
def hd0(l:List Tbl):Tbl:=l.headD ⟨0,0,0,[]⟩
def iB(b:Tbl)(l:List Tbl):Bool:=!(b.sub==(hd0 l).sub) || !(b.len==(hd0 l).len)
def OX(b:Tbl)(l:List Tbl):=okL [.agg [.int b.router,.int b.sub,.int b.len,.sl 2 (b.rows.map Rw.v) false],.rptr (.sl 4 (l.map Tbl.v) false) 0]
def xA(r:Bool):AV:=.bool r
def xz(b:Tbl)(l:List Tbl):Ax Tryz.prog noS (Bool):=
 (.el 80 Tbl.v l (λR=>Rf (l.map Tbl.v) (ck (decide (0<(l.length:Int)))
(∀x1,l[0]?=some x1 →
(R x1)))) λx1 =>
(.br 160 (b.sub != x1.sub) (.ret (true))
(.el 208 Tbl.v l (λR=>Rf (l.map Tbl.v) (ck (decide (0<(l.length:Int)))
(∀x2,l[0]?=some x2 →
(R x2)))) λx2 =>
(.ret (b.len != x2.len)))))
def AX(b:Tbl)(l:List Tbl)(r0:Bool):=(xz b l).vp xA r0
theorem lC{l:List Tbl}{x:Tbl}(hx:l[0]?=some x):hd0 l=x:=by
 cases l with
 | nil=>cases hx
 | cons y l=>exact Option.some.inj hx
theorem OV(b:Tbl)(l:List Tbl)(h:0<l.length)(ok:OX b l):AX b l (iB b l):=by
 dsimp only[AX,xz,noS,Ax.vp,Ax.vc];simp only[vcU,rfU,List.length_map]
 refine⟨by omega,λx hx=>?_⟩
 unfold iB
 rw[lC hx]
 refine⟨λe=>?_,λe=>⟨by omega,λy hy=>?_⟩⟩
 ·have e:(b.sub==x.sub)=false:=by simpa using e
  rw[e];rfl
 ·rw[hx]at hy;cases hy
  have e:(b.sub==x.sub)=true:=by simpa using e
  rw[e];rfl
def OW(b:Tbl)(l:List Tbl)(h:0<l.length):PC Tryz.prog:=⟨117,[(.a [.k,.k,.k,(.s 2)]),.k],[.agg [.int b.router,.int b.sub,.int b.len,.sl 2 (b.rows.map Rw.v) false],.rptr (.sl 4 (l.map Tbl.v) false) 0],xA (iB b l),aw.of_ok λok=>av (sh:=.k) (enc:=xA) (a:=(xz b l).an) (OV b l h ok) (by kernel_rfl) (AV.pureB_ok rfl),ap (by kernel_rfl)⟩
def AZ(s:List Tbl)(f:List Tbl):=okL [.sl 4 (s.map Tbl.v) false,.func 117 [.rptr (.sl 4 (f.map Tbl.v) false) 0]]
def FT(s:List Tbl)(f:List Tbl)(t0:Int):NF:=⟨[(0,.k,.sl 4 (s.map Tbl.v) false),(1,.k,.func 117 [.rptr (.sl 4 (f.map Tbl.v) false) 0]),(7,.k,.int ((s.map Tbl.v).length:Int)),(8,.k,.int t0)],[]⟩
@[reducible] def AY:Nat→Type
 | 0=>Int
 | _=>Unit
def qJ(r:Int):AV:=.int r
def qH(s:List Tbl)(f:List Tbl)(I0:Int→Prop)(m0:Int→Nat):Ax Tryz.prog AY (Int):=
 (.loop 0 (FT s f) I0 m0 ((0):Int) [] λ(t0:Int) b0 =>
(.br 16 (decide (t0<((s.map Tbl.v).length:Int))) (.el 96 Tbl.v s (λR=>Rf (s.map Tbl.v) (ck (decide (0≤t0)) (ck (decide (t0<(s.length:Int)))
(∀x1,s[t0.toNat]?=some x1 →
(R x1))))) λx1 =>
(.req 128 (0<f.length) λh2 =>
(.callP (OW x1 f h2)
(.br 144 (iB x1 f) (.ret (t0))
(.bk 0 b0 ((W (t0+1)):Int) [])))))
(.ret (-1))))
def tU(s:List Tbl)(f:List Tbl)(I0:Int→Prop)(m0:Int→Nat)(r0:Int):=(qH s f I0 m0).vp qJ r0
theorem Kf(s f:List Tbl)(h:0<s.length→0<f.length)(ok:AZ s f):∃I m,tU s f I m (cw (λy=>iB y f) s):=by
 refine⟨λt=>aL s (λy=>iB y f=false) t,λt=>s.length-t.toNat,?_⟩
 simp only[AZ,okU,Blk.ok,aK,List.length_map]at ok
 dsimp only[tU,qH,AY,Ax.vp,Ax.vc];simp only[vcU,rfU,List.length_map]
 exact⟨aL.zero,λt h2=>⟨λc=>⟨h2.idx,c,λx hx=>⟨h (by have:=h2.idx;omega),λq=>h2.found hx q,λq=>h2.step (by omega) hx q⟩⟩,λc=>h2.lost c⟩⟩
def Kg(s:List Tbl)(f:List Tbl)(h:0<s.length→0<f.length):PC Tryz.prog:=⟨139,[(.s 4),.k],[.sl 4 (s.map Tbl.v) false,.func 117 [.rptr (.sl 4 (f.map Tbl.v) false) 0]],qJ (cw (λy=>iB y f) s),aw.of_ok λok=>(Kf s f h ok).elim λI0 h=>h.elim λm0 h=>av (sh:=.k) (enc:=qJ) (a:=(qH s f I0 m0).an) h (by kernel_rfl) (AV.pureB_ok rfl),ap (by kernel_rfl)⟩
def Kj(s:List Tbl)(f:List Tbl):=okL [.sl 4 (s.map Tbl.v) false,.func 117 [.rptr (.sl 4 (f.map Tbl.v) false) 0]]
def qM(r:Bool):AV:=.bool r
def qK(s:List Tbl)(f:List Tbl):Ax Tryz.prog noS (Bool):=
 (.req 48 (0<s.length→0<f.length) λh1 =>
(.callP (Kg s f h1)
(.ret (decide (0≤(cw (λy=>iB y f) s))))))
def tV(s:List Tbl)(f:List Tbl)(r0:Bool):=(qK s f).vp qM r0
theorem Kh(s f:List Tbl)(h:0<s.length→0<f.length)(ok:Kj s f):tV s f (s.any λy=>iB y f):=by
 dsimp only[tV,qK,noS,Ax.vp,Ax.vc];simp only[vcU,rfU,List.length_map]
 exact⟨h,dA _ _⟩
def Ki(s:List Tbl)(f:List Tbl)(h:0<s.length→0<f.length):PC Tryz.prog:=⟨114,[(.s 4),.k],[.sl 4 (s.map Tbl.v) false,.func 117 [.rptr (.sl 4 (f.map Tbl.v) false) 0]],qM (s.any λy=>iB y f),aw.of_ok λok=>av (sh:=.k) (enc:=qM) (a:=(qK s f).an) (Kh s f h ok) (by kernel_rfl) (AV.pureB_ok rfl),ap (by kernel_rfl)⟩
def uw(l:List Tbl):Prop:=l.Pairwise λa b=>a.router<b.router
instance (l:List Tbl):Decidable (uw l):=by unfold uw;infer_instance
def fJ(l:List Tbl):Int:=if 24<l.length then 3 else if l.any iI=true then 1 else if ¬uw l then 25 else if(l.any λb=>iB b l)=true then 8 else 0
def PA(l:List Tbl):=okL [.sl 4 (l.map Tbl.v) false]
def KN(l:List Tbl)(t0:Int):NF:=⟨[(1,.k,.ref 0 0),(12,.k,.int ((l.map Tbl.v).length:Int)),(13,.k,.int t0)],[.box (.sl 4 (l.map Tbl.v) false)]⟩
def KM(l:List Tbl)(t0:Int)(t1:Bool):NF:=⟨[(1,.k,.ref 0 0),(12,.k,.int ((l.map Tbl.v).length:Int)),(13,.k,.int t0),(31,.k,.bool t1)],[.box (.sl 4 (l.map Tbl.v) false)]⟩
@[reducible] def Gp:Nat→Type
 | 0=>Int
 | 1=>Bool
 | _=>Unit
def yk(r:Int):AV:=.int r
def yj(l:List Tbl)(I0:Int→Prop)(m0:Int→Nat)(I1:Int→Bool→Prop):Ax Tryz.prog Gp (Int):=
 (.br 96 (decide (24<((l.map Tbl.v).length:Int))) (.ret (3))
(.callP (Lw l)
(.br 144 ((l).any iI) (.ret (1))
(.loop 0 (KN l) I0 m0 ((0):Int) [0] λ(t0:Int) b0 =>
(.br 17 (decide (t0<((l.map Tbl.v).length:Int))) (.pass (.pass (.join 1 (KM l t0) (λ(t1:Bool)=>I1 t0 t1) (λb1=>(.br 97 (decide (0<t0)) (.el 145 Tbl.v l (λR=>Rf (l.map Tbl.v) (ck (decide (0≤(W (t0-1)))) (ck (decide ((W (t0-1))<(l.length:Int)))
(∀x1,l[(W (t0-1)).toNat]?=some x1 →
(R x1))))) λx1 =>
(.el 225 Tbl.v l (λR=>Rf (l.map Tbl.v) (ck (decide (0≤t0)) (ck (decide (t0<(l.length:Int)))
(∀x2,l[t0.toNat]?=some x2 →
(R x2))))) λx2 =>
(.bk 1 b1 ((decide (x2.router≤x1.router)):Bool) [0])))
(.bk 1 b1 ((false):Bool) [0]))) λ(t1:Bool) =>
(.br 1 t1 (.ret (25))
(.bk 0 b0 ((W (t0+1)):Int) [0])))))
(.req 49 (0<l.length→0<l.length) λh3 =>
(.callP (Ki l l h3)
(.say (ck (cD [[.sl 4 (l.map Tbl.v) false]])) (.br 65 ((l).any λy=>iB y l) (.ret (8))
(.ret (0)))))))))))
def B0(l:List Tbl)(I0:Int→Prop)(m0:Int→Nat)(I1:Int→Bool→Prop)(r0:Int):=(yj l I0 m0 I1).vp yk r0
theorem P8(l:List Tbl)(ok:PA l):∃I0 m0 I1,B0 l I0 m0 I1 (fJ l):=by
 refine⟨λi=>dJ l (λx y=>x.router<y.router) i,λi=>l.length-i.toNat,λi t=>t=true↔0<i∧∃p q,l[(W (i-1)).toNat]?=some p∧l[i.toNat]?=some q∧¬p.router<q.router,?_⟩
 dsimp only[B0,yj,Gp,Ax.vp,Ax.vc];simp only[vcU,rfU,List.length_map]
 unfold fJ
 refine⟨λg=>by rw[if_pos (by omega)],λg=>?_⟩
 rw[if_neg (by omega)]
 refine⟨λe=>by rw[if_pos e],λe=>?_⟩
 rw[if_neg (by rw[e];simp)]
 refine⟨dJ.zero,λi hC=>⟨λc1=>⟨⟨λh0=>?_,λh0=>⟨nofun,λq=>absurd q.1 h0⟩⟩,λt ht=>⟨λe=>?_,λe=>?_⟩⟩,λc1=>?_⟩⟩
 ·obtain⟨g1,g2⟩:=hC.rng (by omega) h0 c1
  refine⟨g1,g2,λy hy=>⟨hC.idx,c1,λx hx=>?_⟩⟩
  refine⟨λq=>⟨h0,y,x,hy,hx,by omega⟩,?_⟩
  rintro⟨_,y',x',hy',hx',q⟩
  rw[hy]at hy';cases hy';rw[hx]at hx';cases hx'
  omega
 ·rw[if_pos]
  exact λo=>(hC.next (b:=true) (by omega) c1 ⟨λ_=>ht.mp e,λ_=>rfl⟩).1 rfl o
 ·exact(hC.next (b:=false) (by omega) c1 ⟨nofun,λz=>by rw[ht.mpr z]at e;cases e⟩).2 rfl
 ·have hO:uw l:=hC.done c1 λ_ _ _ q r=>Int.lt_trans q r
  rw[if_neg (not_not_intro hO)]
  exact⟨λq=>q,io rfl,λe=>by rw[if_pos e],λe=>by rw[if_neg (by rw[e];simp)]⟩
def P9(l:List Tbl):PC Tryz.prog:=⟨83,[(.s 4)],[.sl 4 (l.map Tbl.v) false],yk (fJ l),aw.of_ok λok=>(P8 l ok).elim λI0 h=>h.elim λm0 h=>h.elim λI1 h=>av (sh:=.k) (enc:=yk) (a:=(yj l I0 m0 I1).an) h (by kernel_rfl) (AV.pureB_ok rfl),ap (by kernel_rfl)⟩
def KR(l:List Tbl):=okL [.sl 4 (l.map Tbl.v) false]
def Gt(l:List Tbl)(t0:Int):NF:=⟨[(0,.k,.sl 4 (l.map Tbl.v) false),(3,.k,.int t0)],[]⟩
def Gs(l:List Tbl)(t1:Int):NF:=⟨[(0,.k,.sl 4 (l.map Tbl.v) false),(4,.k,.int t1)],[]⟩
def Gr(l:List Tbl)(t2:Int):NF:=⟨[(0,.k,.sl 4 (l.map Tbl.v) false),(5,.k,.int t2)],[]⟩
def Gq(l:List Tbl)(t2:Int)(t3:Bool):NF:=⟨[(0,.k,.sl 4 (l.map Tbl.v) false),(5,.k,.int t2),(66,.k,.bool t3)],[]⟩
@[reducible] def B1:Nat→Type
 | 0=>Int
 | 1=>Int
 | 2=>Int
 | 3=>Bool
 | _=>Unit
def rj(r:Int):AV:=.int r
def rh(l:List Tbl)(I0:Int→Prop)(m0:Int→Nat)(I1:Int→Int→Prop)(m1:Int→Int→Nat)(I2:Int→Int→Int→Prop)(m2:Int→Int→Int→Nat)(I3:Int→Int→Int→Bool→Prop):Ax Tryz.prog B1 (Int):=
 (.br 64 (decide (24<((l.map Tbl.v).length:Int))) (.ret (3))
(.loop 0 (Gt l) I0 m0 ((0):Int) [] λ(t0:Int) b0 =>
(.br 64 (decide (t0<((l.map Tbl.v).length:Int))) (.el 96 Tbl.v l (λR=>Rf (l.map Tbl.v) (ck (decide (0≤t0)) (ck (decide (t0<(l.length:Int)))
(∀x1,l[t0.toNat]?=some x1 →
(R x1))))) λx1 =>
(.callP (P3 x1)
(.br 160 ((ju x1) != 0) (.ret (1))
(.bk 0 b0 ((W (t0+1)):Int) []))))
(.loop 1 (Gs l) (I1 t0) (m1 t0) ((1):Int) [] λ(t1:Int) b1 =>
(.br 64 (decide (t1<((l.map Tbl.v).length:Int))) (.el 112 Tbl.v l (λR=>Rf (l.map Tbl.v) (ck (decide (0≤(W (t1-1)))) (ck (decide ((W (t1-1))<(l.length:Int)))
(∀x2,l[(W (t1-1)).toNat]?=some x2 →
(R x2))))) λx2 =>
(.el 192 Tbl.v l (λR=>Rf (l.map Tbl.v) (ck (decide (0≤t1)) (ck (decide (t1<(l.length:Int)))
(∀x3,l[t1.toNat]?=some x3 →
(R x3))))) λx3 =>
(.br 256 (decide (x3.router≤x2.router)) (.ret (25))
(.bk 1 b1 ((W (t1+1)):Int) []))))
(.loop 2 (Gr l) (I2 t0 t1) (m2 t0 t1) ((1):Int) [] λ(t2:Int) b2 =>
(.br 64 (decide (t2<((l.map Tbl.v).length:Int))) (.pass (.join 3 (Gq l t2) (λ(t3:Bool)=>I3 t0 t1 t2 t3) (λb3=>(.el 96 Tbl.v l (λR=>Rf (l.map Tbl.v) (ck (decide (0≤t2)) (ck (decide (t2<(l.length:Int)))
(∀x4,l[t2.toNat]?=some x4 →
(R x4))))) λx4 =>
(.el 160 Tbl.v l (λR=>Rf (l.map Tbl.v) (ck (decide (0<(l.length:Int)))
(∀x5,l[0]?=some x5 →
(R x5)))) λx5 =>
(.br 240 (x4.sub != x5.sub) (.bk 3 b3 ((true):Bool) [])
(.el 272 Tbl.v l (λR=>Rf (l.map Tbl.v) (ck (decide (0≤t2)) (ck (decide (t2<(l.length:Int)))
(∀x6,l[t2.toNat]?=some x6 →
(R x6))))) λx6 =>
(.el 336 Tbl.v l (λR=>Rf (l.map Tbl.v) (ck (decide (0<(l.length:Int)))
(∀x7,l[0]?=some x7 →
(R x7)))) λx7 =>
(.bk 3 b3 ((x6.len != x7.len):Bool) []))))))) λ(t3:Bool) =>
(.br 0 t3 (.ret (8))
(.bk 2 b2 ((W (t2+1)):Int) []))))
(.ret (0)))))))))
def ui(l:List Tbl)(I0:Int→Prop)(m0:Int→Nat)(I1:Int→Int→Prop)(m1:Int→Int→Nat)(I2:Int→Int→Int→Prop)(m2:Int→Int→Int→Nat)(I3:Int→Int→Int→Bool→Prop)(r0:Int):=(rh l I0 m0 I1 m1 I2 m2 I3).vp rj r0
theorem KP(l:List Tbl)(ok:KR l):∃I0 m0 I1 m1 I2 m2 I3,ui l I0 m0 I1 m1 I2 m2 I3 (fJ l):=by
 refine⟨λi=>aL l (λb=>iI b=false) i,λi=>l.length-i.toNat,λ_ i=>fM l (λx y=>x.router<y.router) i,λ_ i=>l.length+1-i.toNat,
  λ_ _ i=>∃k:Nat,i=k∧1≤k∧k≤l.length+1∧∀j x,j<k→l[j]?=some x→iB x l=false,λ_ _ i=>l.length+1-i.toNat,
  λ_ _ i t=>∀x,l[i.toNat]?=some x→t=iB x l,?_⟩
 dsimp only[ui,rh,B1,Ax.vp,Ax.vc];simp only[vcU,rfU,List.length_map]
 unfold fJ
 refine⟨λg=>by rw[if_pos (by omega)],λg=>?_⟩
 rw[if_neg (by omega)]
 refine⟨aL.zero,λi h1=>⟨λc1=>⟨h1.idx,c1,λx hx=>⟨λe=>?_,λe=>h1.step (by omega) hx (by unfold iI;simpa using e)⟩⟩,λc1=>?_⟩⟩
 ·rw[if_pos (List.any_eq_true.mpr ⟨x,bS hx,by unfold iI;simpa using e⟩)]
 have hb:¬l.any iI=true:=by
  rw[List.any_eq_true];rintro⟨x,hx,q⟩
  rw[h1.done c1 x hx]at q;cases q
 rw[if_neg hb]
 refine⟨fM.one,λi2 h2=>⟨λc2=>?_,λc2=>?_⟩⟩
 ·obtain⟨j1,j2⟩:=h2.idx (by omega) c2
  refine⟨j1.1,j1.2,λp hp=>⟨j2,c2,λq hq=>⟨λe=>?_,λe=>h2.step (by omega) hp hq (by omega)⟩⟩⟩
  rw[if_pos (show ¬uw l from h2.bad (S:=λa b=>a.router<b.router) (by omega) hp hq (by omega))]
 have hO:uw l:=h2.done c2 λ_ _ _ q r=>Int.lt_trans q r
 rw[if_neg (not_not_intro hO)]
 refine⟨⟨1,rfl,by omega,by omega,λj x hj hx=>?_⟩,?_⟩
 ·have:j=0:=by omega
  subst this
  unfold iB;rw[lC hx];simp
 rintro _ ⟨k,rfl,k1,k2,hk⟩
 simp only[Int.toNat_natCast]
 refine⟨λc3=>⟨⟨by omega,c3,λx hx=>⟨by omega,λy hy=>⟨λe=>?_,λe=>⟨by omega,c3,λx2 hx2=>⟨by omega,λy2 hy2=>?_⟩⟩⟩⟩⟩,λt ht=>⟨λe=>?_,λe=>?_⟩⟩,λc3=>?_⟩
 ·intro z hz;rw[hx]at hz;cases hz
  unfold iB;rw[lC hy]
  have e:(x.sub==y.sub)=false:=by simpa using e
  rw[e];rfl
 ·intro z hz;rw[hx]at hz hx2;cases hz;cases hx2;rw[hy]at hy2;cases hy2
  unfold iB;rw[lC hy]
  have e:(x.sub==y.sub)=true:=by simpa using e
  rw[e];rfl
 ·have hx:=List.getElem?_eq_getElem (show k<l.length by omega)
  rw[if_pos (List.any_eq_true.mpr ⟨_,bc hx,by rw[←ht _ hx,e]⟩)]
 ·have hx:=List.getElem?_eq_getElem (show k<l.length by omega)
  rw[bx (n:=l.length) (by omega) (by omega)]
  refine⟨⟨k+1,rfl,by omega,by omega,λj x hj hxj=>?_⟩,by omega⟩
  by_cases ej:j=k
  ·subst ej;rw[←ht _ hxj,e]
  ·exact hk j x (by omega) hxj
 ·rw[if_neg]
  rw[List.any_eq_true];rintro⟨x,hx,q⟩
  obtain⟨j,hj⟩:=List.getElem?_of_mem hx
  rw[hk j x (by have:=aq hj;omega) hj]at q;cases q
def KQ(l:List Tbl):PC Tryz.prog:=⟨85,[(.s 4)],[.sl 4 (l.map Tbl.v) false],rj (fJ l),aw.of_ok λok=>(KP l ok).elim λI0 h=>h.elim λm0 h=>h.elim λI1 h=>h.elim λm1 h=>h.elim λI2 h=>h.elim λm2 h=>h.elim λI3 h=>av (sh:=.k) (enc:=rj) (a:=(rh l I0 m0 I1 m1 I2 m2 I3).an) h (by kernel_rfl) (AV.pureB_ok rfl),ap (by kernel_rfl)⟩
theorem uh{b:Tbl}(h:ju b=0):1≤b.router∧b.router≤99∧b.rows.length≤256∧(cS b.len=true∨b.len=0∧b.rows=[])∧(∀r∈b.rows,(1≤r.id∧r.id≤256)∧r.nx.length≤24∧∀n∈r.nx,1≤n∧n≤99)∧b.rows.Pairwise λx y=>x.id<y.id:=by
 unfold ju at h
 split at h
 ·cases h
 rename_i h1
 split at h
 ·cases h
 rename_i h2
 split at h
 ·cases h
 rename_i h3
 have h3:=Classical.not_not.mp h3
 have h1:iu b=false:=by simpa using h1
 have h2:=pZ (by simpa using h2:gX b=false)
 obtain⟨h1,h4⟩:=mh.mp h1
 unfold hdB at h1
 have i1:∀{n a c:Int},inP n a c=true→a≤n∧n≤c:=λq=>mL.mp (by rw[q];rfl)
 have h1:(inP b.router 1 99=true∧inP b.sub 0 7=true)∧(cS b.len=true∨b.len=0∧b.rows.length=0):=by
  cases q1:inP b.router 1 99<;>cases q2:inP b.sub 0 7<;>cases q3:cS b.len<;>simp_all
 refine⟨(i1 h1.1.1).1,(i1 h1.1.1).2,h2.1,?_,λr hr=>⟨i1 (h4 r hr).1,h2.2 r hr,λn hn=>i1 ((h4 r hr).2 n hn)⟩,h3.2⟩
 rcases h1.2 with q|q
 ·exact .inl q
 ·exact .inr ⟨q.1,List.length_eq_zero_iff.mp q.2⟩
theorem gj{l:List Tbl}(h:fJ l=0):l.length≤24∧(∀b∈l,ju b=0)∧uw l:=by
 unfold fJ at h
 split at h
 ·cases h
 rename_i h1
 split at h
 ·cases h
 rename_i h2
 split at h
 ·cases h
 rename_i h3
 refine⟨by omega,λb hb=>?_,Classical.not_not.mp h3⟩
 have h2:l.any iI=false:=by simpa using h2
 have:=List.any_eq_false.mp h2 b hb
 unfold iI at this
 simpa using this
def qh(nx:List Int)(p:Int):Int:=if nx.length=0 then 0 else nx.getD (p.tmod nx.length).toNat 0
def Oq(r:Rw)(plane:Int):=okL [.agg [.int r.id,.sl 1 (r.nx.map AV.int) false],.int plane]
def wN(r:Int):AV:=.int r
def wM(r:Rw)(plane:Int):Ax Tryz.prog noS (Int):=
 (.br 96 (((r.nx.map AV.int).length:Int)==0) (.ret (0))
(.say (ck (!(((r.nx.map AV.int).length:Int)==0))) (.el 208 AV.int r.nx (λR=>Rf (r.nx.map AV.int) (ck (decide (0≤(plane.tmod ((r.nx.map AV.int).length:Int)))) (ck (decide ((plane.tmod ((r.nx.map AV.int).length:Int))<(r.nx.length:Int)))
(∀x1,r.nx[(plane.tmod ((r.nx.map AV.int).length:Int)).toNat]?=some x1 →
(R x1))))) λx1 =>
(.ret (x1)))))
def A8(r:Rw)(plane:Int)(r0:Int):=(wM r plane).vp wN r0
theorem lN{p:Int}{n:Nat}(h:0≤p)(hn:n≠0):0≤p.tmod n∧p.tmod n<n:=⟨Int.tmod_nonneg _ h,Int.tmod_lt_of_pos _ (show(0:Int)<n by omega)⟩
theorem mO{nx:List Int}{p x:Int}(hn:nx.length≠0)(hx:nx[(p.tmod nx.length).toNat]?=some x):qh nx p=x:=by
 unfold qh;rw[if_neg hn,List.getD_eq_getElem?_getD,hx];rfl
theorem On(r:Rw)(p:Int)(h:0≤p)(ok:Oq r p):A8 r p (qh r.nx p):=by
 dsimp only[A8,wM,noS,Ax.vp,Ax.vc];simp only[vcU,rfU,List.length_map]
 refine⟨λe=>by rw[qh,if_pos (by have:=eq_of_beq e;omega)],λe=>?_⟩
 have e:r.nx.length≠0:=λq=>by rw[q]at e;simp at e
 have hr:=lN h e
 exact⟨by simp;intro q;rw[q]at e;exact e rfl,hr.1,hr.2,λx hx=>(mO e hx).symm⟩
def Oo(r:Rw)(plane:Int)(h:0≤plane):PC Tryz.prog:=⟨149,[(.a [.k,(.s 1)]),.k],[.agg [.int r.id,.sl 1 (r.nx.map AV.int) false],.int plane],wN (qh r.nx plane),aw.of_ok λok=>av (sh:=.k) (enc:=wN) (a:=(wM r plane).an) (On r plane h ok) (by kernel_rfl) (AV.pureB_ok rfl),ap (by kernel_rfl)⟩
def cP(b:Tbl)(id:Int):Rw×Bool:=match b.rows.find? λr=>r.id==id with
 | some r=>(r,true)
 | none=>(⟨0,[]⟩,false)
def D0(b:Tbl)(id:Int):=okL [.agg [.int b.router,.int b.sub,.int b.len,.sl 2 (b.rows.map Rw.v) false],.int id]
def In(b:Tbl)(id:Int)(t0:Int):NF:=⟨[(1,.k,.int id),(4,.k,.ref 0 0),(9,.k,.sl 2 (b.rows.map Rw.v) false),(10,.k,.int ((b.rows.map Rw.v).length:Int)),(11,.k,.int t0)],[.box (.agg [.int 0,.sl 0 [] true])]⟩
@[reducible] def Dz:Nat→Type
 | 0=>Int
 | _=>Unit
def vj(r:Rw×Bool):AV:=.tup [Rw.v r.1,.bool r.2]
def vh(b:Tbl)(id:Int)(I0:Int→Prop)(m0:Int→Nat):Ax Tryz.prog Dz (Rw×Bool):=
 (.loop 0 (In b id) I0 m0 ((0):Int) [16] λ(t0:Int) b0 =>
(.br 17 (decide (t0<((b.rows.map Rw.v).length:Int))) (.el 17 Rw.v b.rows (λR=>Rf (b.rows.map Rw.v) (ck (decide (0≤t0)) (ck (decide (t0<(b.rows.length:Int)))
(∀x1,b.rows[t0.toNat]?=some x1 →
(R x1))))) λx1 =>
(.br 145 (x1.id==id) (.req 193 (x1.nx.length≤1000000) λh2 =>
(.callP (Gg x1.nx h2)
(.ret ((⟨id,x1.nx⟩:Rw),true))))
(.bk 0 b0 ((W (t0+1)):Int) [0])))
(.ret ((⟨0,[]⟩:Rw),false))))
def zt(b:Tbl)(id:Int)(I0:Int→Prop)(m0:Int→Nat)(r0:Rw×Bool):=(vh b id I0 m0).vp vj r0
theorem MM(b:Tbl)(id:Int)(h:∀r∈b.rows,r.nx.length≤1000000)(ok:D0 b id):∃I m,zt b id I m (cP b id):=by
 refine⟨λt=>aL b.rows (λr=>(r.id==id)=false) t,λt=>b.rows.length-t.toNat,?_⟩
 simp only[D0,okU,Blk.ok,aK,List.length_map]at ok
 dsimp only[zt,vh,Dz,Ax.vp,Ax.vc];simp only[vcU,rfU,List.length_map]
 refine⟨aL.zero,λt h1=>⟨λc=>⟨h1.idx,c,λx hx=>⟨λq=>⟨h x (bS hx),?_⟩,λq=>h1.step (by omega) hx q⟩⟩,λc=>?_⟩⟩
 ·rw[cP,h1.find (p:=λr:Rw=>r.id==id) hx q,←eq_of_beq q]
 ·rw[cP,h1.nofind (p:=λr:Rw=>r.id==id) c]
def MO(b:Tbl)(id:Int)(h:∀r∈b.rows,r.nx.length≤1000000):PC Tryz.prog:=⟨148,[(.a [.k,.k,.k,(.s 2)]),.k],[.agg [.int b.router,.int b.sub,.int b.len,.sl 2 (b.rows.map Rw.v) false],.int id],vj (cP b id),aw.of_ok λok=>(MM b id h ok).elim λI0 h=>h.elim λm0 h=>av (sh:=(.a [(.a [.k,(.s 1)]),.k])) (enc:=vj) (a:=(vh b id I0 m0).an) h (by kernel_rfl) (AV.pureB_ok rfl),ap (by kernel_rfl)⟩
def D3(b:Tbl)(id:Int):=okL [.agg [.int b.router,.int b.sub,.int b.len,.sl 2 (b.rows.map Rw.v) false],.int id]
def Io(b:Tbl)(id:Int)(t0:Int):NF:=⟨[(1,.k,.int id),(2,.k,.ref 0 0),(4,.k,.ref 1 0),(6,.k,.int t0)],[.box (.agg [.int b.router,.int b.sub,.int b.len,.sl 2 (b.rows.map Rw.v) false]),.box (.agg [.int 0,.sl 0 [] true])]⟩
@[reducible] def D1:Nat→Type
 | 0=>Int
 | _=>Unit
def vl(r:Rw×Bool):AV:=.tup [Rw.v r.1,.bool r.2]
def vk(b:Tbl)(id:Int)(I0:Int→Prop)(m0:Int→Nat):Ax Tryz.prog D1 (Rw×Bool):=
 (.loop 0 (Io b id) I0 m0 ((0):Int) [0,16] λ(t0:Int) b0 =>
(.br 82 (decide (t0<((b.rows.map Rw.v).length:Int))) (.el 130 Rw.v b.rows (λR=>Rf (b.rows.map Rw.v) (ck (decide (0≤t0)) (ck (decide (t0<(b.rows.length:Int)))
(∀x1,b.rows[t0.toNat]?=some x1 →
(R x1))))) λx1 =>
(.br 210 (x1.id==id) (.el 258 Rw.v b.rows (λR=>Rf (b.rows.map Rw.v) (ck (decide (0≤t0)) (ck (decide (t0<(b.rows.length:Int)))
(∀x2,b.rows[t0.toNat]?=some x2 →
(R x2))))) λx2 =>
(.ret (x2,true)))
(.bk 0 b0 ((W (t0+1)):Int) [0,1])))
(.ret ((⟨0,[]⟩:Rw),false))))
def zw(b:Tbl)(id:Int)(I0:Int→Prop)(m0:Int→Nat)(r0:Rw×Bool):=(vk b id I0 m0).vp vl r0
theorem MP(b:Tbl)(id:Int)(ok:D3 b id):∃I m,zw b id I m (cP b id):=by
 refine⟨λt=>aL b.rows (λr=>(r.id==id)=false) t,λt=>b.rows.length-t.toNat,?_⟩
 simp only[D3,okU,Blk.ok,aK,List.length_map]at ok
 dsimp only[zw,vk,D1,Ax.vp,Ax.vc];simp only[vcU,rfU,List.length_map]
 refine⟨aL.zero,λt h1=>⟨λc=>⟨h1.idx,c,λx hx=>⟨λq=>⟨h1.idx,c,λy hy=>?_⟩,λq=>h1.step (by omega) hx q⟩⟩,λc=>?_⟩⟩
 ·rw[hx]at hy;cases hy
  rw[cP,h1.find (p:=λr:Rw=>r.id==id) hx q]
 ·rw[cP,h1.nofind (p:=λr:Rw=>r.id==id) c]
def D2(b:Tbl)(id:Int):PC Tryz.prog:=⟨36,[(.a [.k,.k,.k,(.s 2)]),.k],[.agg [.int b.router,.int b.sub,.int b.len,.sl 2 (b.rows.map Rw.v) false],.int id],vl (cP b id),aw.of_ok λok=>(MP b id ok).elim λI0 h=>h.elim λm0 h=>av (sh:=(.a [(.a [.k,(.s 1)]),.k])) (enc:=vl) (a:=(vk b id I0 m0).an) h (by kernel_rfl) (AV.pureB_ok rfl),ap (by kernel_rfl)⟩
def cY(b:Tbl)(id p:Int):Int:=qh (cP b id).1.nx p
def Ov(b:Tbl)(id:Int)(p:Int):=okL [.agg [.int b.router,.int b.sub,.int b.len,.sl 2 (b.rows.map Rw.v) false],.int id,.int p]
def JL(b:Tbl)(id:Int)(p:Int)(t0:Bool):NF:=⟨[(2,.k,.int p),(7,.k,.ref 0 0),(22,.k,.bool t0)],[.box ((Rw.v ((cP b id).1)))]⟩
@[reducible] def Fl:Nat→Type
 | 0=>Bool
 | _=>Unit
def wP(r:Int):AV:=.int r
def wO(b:Tbl)(id:Int)(p:Int)(I0:Bool→Prop):Ax Tryz.prog Fl (Int):=
 (.callP (D2 b id)
(.pass (.join 0 (JL b id p) (λ(t0:Bool)=>I0 t0) (λb0=>(.br 224 (!((cP b id).2)) (.bk 0 b0 ((true):Bool) [128])
(.bk 0 b0 (((((((cP b id).1).nx).map AV.int).length:Int)==0):Bool) [128]))) λ(t0:Bool) =>
(.br 1 t0 (.ret (0))
(.say (ck (!((((((cP b id).1).nx).map AV.int).length:Int)==0))) (.el 113 AV.int (((cP b id).1).nx) (λR=>Rf ((((cP b id).1).nx).map AV.int) (ck (decide (0≤(p.tmod (((((cP b id).1).nx).map AV.int).length:Int)))) (ck (decide ((p.tmod (((((cP b id).1).nx).map AV.int).length:Int))<((((cP b id).1).nx).length:Int)))
(∀x1,(((cP b id).1).nx)[(p.tmod (((((cP b id).1).nx).map AV.int).length:Int)).toNat]?=some x1 →
(R x1))))) λx1 =>
(.ret (x1))))))))
def A9(b:Tbl)(id:Int)(p:Int)(I0:Bool→Prop)(r0:Int):=(wO b id p I0).vp wP r0
theorem zu{b:Tbl}{id:Int}(h:(cP b id).2=false):(cP b id).1.nx=[]:=by
 unfold cP at h ⊢
 split at h
 ·cases h
 ·rfl
theorem Ot(b:Tbl)(id p:Int)(h:0≤p)(ok:Ov b id p):∃I,A9 b id p I (cY b id p):=by
 refine⟨λt=>t=decide ((cP b id).1.nx.length=0),?_⟩
 dsimp only[A9,wO,Fl,Ax.vp,Ax.vc];simp only[vcU,rfU,List.length_map]
 refine⟨⟨λe=>?_,λe=>?_⟩,?_⟩
 ·rw[zu (by simpa using e)];rfl
 ·rw[Bool.eq_iff_iff,beq_iff_eq,decide_eq_true_iff];omega
 rintro _ rfl
 unfold cY
 refine⟨λe=>by rw[qh,if_pos (of_decide_eq_true e)],λe=>?_⟩
 have e:=of_decide_eq_false e
 have hr:=lN h e
 exact⟨by simp;intro q;rw[q]at e;exact e rfl,hr.1,hr.2,λx hx=>(mO e hx).symm⟩
def Ou(b:Tbl)(id:Int)(p:Int)(h:0≤p):PC Tryz.prog:=⟨86,[(.a [.k,.k,.k,(.s 2)]),.k,.k],[.agg [.int b.router,.int b.sub,.int b.len,.sl 2 (b.rows.map Rw.v) false],.int id,.int p],wP (cY b id p),aw.of_ok λok=>(Ot b id p h ok).elim λI0 h=>av (sh:=.k) (enc:=wP) (a:=(wO b id p I0).an) h (by kernel_rfl) (AV.pureB_ok rfl),ap (by kernel_rfl)⟩
def mvl(b:Tbl)(pl st:Int):Bool:=(ju b==0) && (decide (0≤pl∧pl<8) && decide (0≤st∧st≤31))
def mvl_a(b:Tbl)(plane:Int)(set_:Int):=okL [.agg [.int b.router,.int b.sub,.int b.len,.sl 2 (b.rows.map Rw.v) false],.int plane,.int set_]
def EA(r:Bool):AV:=.bool r
def E8(b:Tbl)(plane:Int)(set_:Int):Ax Tryz.prog noS (Bool):=
 (.callP (Gn b)
(.br 96 ((ju b)==0) (.br 160 (decide (0≤plane)) (.br 224 (decide (plane<8)) (.br 288 (decide (0≤set_)) (.ret (decide (set_≤31)))
(.ret (false)))
(.ret (false)))
(.ret (false)))
(.ret (false))))
def E9(b:Tbl)(plane:Int)(set_:Int)(r0:Bool):=(E8 b plane set_).vp EA r0
theorem mvl_p(b:Tbl)(pl st:Int)(ok:mvl_a b pl st):E9 b pl st (mvl b pl st):=by
 dsimp only[E9,E8,noS,Ax.vp,Ax.vc];simp only[vcU,rfU,List.length_map]
 unfold mvl
 refine⟨λe=>⟨λe1=>⟨λe2=>⟨λe3=>?_,λe3=>?_⟩,λe2=>?_⟩,λe1=>?_⟩,λe=>by rw[e];rfl⟩<;>simp[e, *]
def mvl_c(b:Tbl)(plane:Int)(set_:Int):PC Tryz.prog:=⟨147,[(.a [.k,.k,.k,(.s 2)]),.k,.k],[.agg [.int b.router,.int b.sub,.int b.len,.sl 2 (b.rows.map Rw.v) false],.int plane,.int set_],EA (mvl b plane set_),aw.of_ok λok=>av (sh:=.k) (enc:=EA) (a:=(E8 b plane set_).an) (mvl_p b plane set_ ok) (by kernel_rfl) (AV.pureB_ok rfl),ap (by kernel_rfl)⟩
theorem Ah{b:Tbl}{pl st:Int}:mvl b pl st=true↔ju b=0∧(0≤pl∧pl<8)∧0≤st∧st≤31:=by
 unfold mvl;rw[Bool.and_eq_true,Bool.and_eq_true,decide_eq_true_iff,decide_eq_true_iff,beq_iff_eq]
def sI(b:Tbl)(id pl:Int):Int:=if mvl b pl 0=true then cY b id pl else 0
def N5(b:Tbl)(id:Int)(plane:Int):=okL [.agg [.int b.router,.int b.sub,.int b.len,.sl 2 (b.rows.map Rw.v) false],.int id,.int plane]
def wb(r:Int):AV:=.int r
def wa(b:Tbl)(id:Int)(plane:Int):Ax Tryz.prog noS (Int):=
 (.callP (mvl_c b plane 0)
(.br 96 (!(mvl b plane 0)) (.ret (0))
(.req 128 (∀r∈b.rows,r.nx.length≤1000000) λh1 =>
(.callP (MO b id h1)
(.req 272 (0≤plane) λh2 =>
(.callP (Oo ((cP b id).1) plane h2)
(.ret (qh ((cP b id).1).nx plane))))))))
def Ac(b:Tbl)(id:Int)(plane:Int)(r0:Int):=(wa b id plane).vp wb r0
theorem N3(b:Tbl)(id pl:Int)(ok:N5 b id pl):Ac b id pl (sI b id pl):=by
 dsimp only[Ac,wa,noS,Ax.vp,Ax.vc];simp only[vcU,rfU,List.length_map]
 unfold sI
 refine⟨λe=>by rw[if_neg (by simpa using e)],λe=>?_⟩
 have e:mvl b pl 0=true:=by simpa using e
 have h:=Ah.mp e
 rw[if_pos e]
 exact⟨λr hr=>by have:=((uh h.1).2.2.2.2.1 r hr).2.1;omega,by omega,rfl⟩
def N4(b:Tbl)(id:Int)(plane:Int):PC Tryz.prog:=⟨118,[(.a [.k,.k,.k,(.s 2)]),.k,.k],[.agg [.int b.router,.int b.sub,.int b.len,.sl 2 (b.rows.map Rw.v) false],.int id,.int plane],wb (sI b id plane),aw.of_ok λok=>av (sh:=.k) (enc:=wb) (a:=(wa b id plane).an) (N3 b id plane ok) (by kernel_rfl) (AV.pureB_ok rfl),ap (by kernel_rfl)⟩
def iW(nx:Int→Int)(b:Int):Nat→Int→List Int→Option (List Int)
 | 0,_,_=>none
 | f+1,a,way=>if a=0 then none else if a=b then some way else iW nx b f (nx a) (way++[a])
def itN(nx:Int→Int)(b:Int):Nat→Int
 | 0=>b
 | k+1=>nx (itN nx b k)
theorem iS(nx:Int→Int)(b:Int)(i:Nat):∀j,itN nx b (i+j)=itN nx (itN nx b i) j
 | 0=>rfl
 | j+1=>by rw[←Nat.add_assoc,itN,itN,iS nx b i j]
def gn(nx:Int→Int)(b:Int)(m:Nat):Prop:=1≤m∧itN nx b m=b∧∀j,1≤j→j<m→itN nx b j≠b∧itN nx b j≠0
def fG(nx:Int→Int)(b:Int)(m:Nat):List Int:=(List.range m).map (itN nx b)
theorem BN(nx:Int→Int)(b:Int)(m:Nat):fG nx b (m+1)=fG nx b m++[itN nx b m]:=by simp[fG,List.range_succ]
theorem ib(nx:Int→Int)(b:Int)(m:Nat):(fG nx b m).length=m:=by simp[fG]
theorem nN{nx:Int→Int}{b:Int}(hb:b≠0):∀{f k:Nat} {w:List Int},1≤k→(∀j,1≤j→j<k→itN nx b j≠b∧itN nx b j≠0) →
  (iW nx b f (itN nx b k) (fG nx b k)=some w↔∃m,k≤m∧m<k+f∧gn nx b m∧w=fG nx b m)
 | 0,k,w,h1,hk=>by
  rw[iW]
  exact⟨nofun,λ⟨m,h1,h2,_⟩=>by omega⟩
 | f+1,k,w,h1,hk=>by
  rw[iW]
  by_cases e0:itN nx b k=0
  ·rw[if_pos e0]
   refine⟨nofun,λ⟨m,h2,h3,⟨h4,h5,h6⟩,_⟩=>?_⟩
   by_cases e:m=k
   ·subst e;rw[h5]at e0;exact absurd e0 hb
   ·exact absurd e0 (h6 k h1 (by omega)).2
  rw[if_neg e0]
  by_cases e1:itN nx b k=b
  ·rw[if_pos e1]
   constructor
   ·intro e;cases e
    exact⟨k,Nat.le_refl _,by omega,⟨h1,e1,hk⟩,rfl⟩
   ·rintro⟨m,h2,h3,⟨h4,h5,h6⟩,rfl⟩
    by_cases e:m=k
    ·rw[e]
    ·exact absurd e1 (h6 k h1 (by omega)).1
  rw[if_neg e1]
  have hk2:∀j,1≤j→j<k+1→itN nx b j≠b∧itN nx b j≠0:=λj a c=>by
   by_cases e:j=k
   ·subst e;exact⟨e1,e0⟩
   ·exact hk j a (by omega)
  have:=nN hb (f:=f) (k:=k+1) (w:=w) (by omega) hk2
  rw[BN]at this
  rw[show nx (itN nx b k)=itN nx b (k+1)from rfl,this]
  constructor
  ·rintro⟨m,h2,h3,h4⟩;exact⟨m,by omega,by omega,h4⟩
  ·rintro⟨m,h2,h3,h4,h5⟩
   refine⟨m,?_,by omega,h4,h5⟩
   have:m≠k:=λe=>by subst e;exact e1 h4.2.1
   omega
theorem gn.nodup{nx:Int→Int}{b:Int}{m:Nat}(h:gn nx b m):(fG nx b m).Nodup:=by
 unfold fG
 rw[List.nodup_iff_pairwise_ne,List.pairwise_map]
 have:(List.range m).Pairwise (·<·):=List.pairwise_lt_range
 refine this.imp_of_mem λ{i j} hi hj hij e=>?_
 have hi:=List.mem_range.mp hi
 have hj:=List.mem_range.mp hj
 have e2:itN nx b (i+(m-j))=b:=by
  rw[iS,e,←iS,show j+(m-j)=m by omega];exact h.2.1
 exact(h.2.2 (i+(m-j)) (by omega) (by omega)).1 e2
theorem gn.ne{nx:Int→Int}{b:Int}(hb:b≠0){m:Nat}(h:gn nx b m){x:Int}(hx:x∈fG nx b m):nx x≠0:=by
 unfold fG at hx
 obtain⟨i,hi,rfl⟩:=List.mem_map.mp hx
 have hi:=List.mem_range.mp hi
 show itN nx b (i+1)≠0
 by_cases e:i+1=m
 ·rw[e,h.2.1];exact hb
 ·exact(h.2.2 (i+1) (by omega) (by omega)).2
theorem gn.le{nx:Int→Int}{b:Int}(hb:b≠0){m:Nat}(h:gn nx b m){l:List Int}(hl:∀x,nx x≠0→x∈l):m≤l.length:=by
 have:=List.Nodup.length_le_of_subset h.nodup (l₂:=l) λx hx=>hl x (h.ne hb hx)
 rwa [ib]at this
theorem qq{p:Nat→Prop}(h:∃n,p n):∃n,p n∧∀m,m<n→¬p m:=by
 obtain⟨n,hn⟩:=h
 induction n using Nat.strongRecOn with
 | ind n ih =>
  by_cases e:∃m,m<n∧p m
  ·obtain⟨m,h1,h2⟩:=e;exact ih m h1 h2
  ·exact⟨n,hn,λm h1 h2=>e ⟨m,h1,h2⟩⟩
theorem gn.of{nx:Int→Int}(h0:nx 0=0){b:Int}(hb:b≠0){m:Nat}(h1:1≤m)(h:itN nx b m=b):∃k,k≤m∧gn nx b k:=by
 obtain⟨k,⟨k1,k2⟩,k3⟩:=qq (p:=λk=>1≤k∧itN nx b k=b) ⟨m,h1,h⟩
 have hkm:k≤m:=by
  by_cases e:m<k
  ·exact absurd ⟨h1,h⟩ (k3 m e)
  ·omega
 refine⟨k,hkm,k1,k2,λj j1 j2=>⟨λe=>k3 j j2 ⟨j1,e⟩,λe=>?_⟩⟩
 have z:∀i,itN nx 0 i=0:=λi=>by
  induction i with
  | zero=>rfl
  | succ i ih=>rw[itN,ih,h0]
 have:itN nx b (j+(k-j))=0:=by rw[iS,e,z]
 rw[show j+(k-j)=k by omega,k2]at this
 exact hb this
theorem fO{nx:Int→Int}{b:Int}{m i:Nat}(h:i<m):(fG nx b m)[i]?=some (itN nx b i):=by
 unfold fG
 rw[List.getElem?_map,List.getElem?_range h];rfl
theorem gn.turn{nx:Int→Int}{b:Int}{m:Nat}(h:gn nx b m){x:Int}(hx:x∈fG nx b m):itN nx x m=x:=by
 unfold fG at hx
 obtain⟨i,hi,rfl⟩:=List.mem_map.mp hx
 rw[←iS,Nat.add_comm,iS,h.2.1]
def nxT(l:List Tbl)(id pl r:Int):Int:=match l.find? λb=>b.router==r with
 | some b=>if cY b id pl=r then 0 else cY b id pl
 | none=>0
def jP(l:List Tbl)(id pl:Int)(n:Nat):List Tbl→List Int
 | []=>[]
 | b::q=>match iW (nxT l id pl) b.router n (nxT l id pl b.router) [b.router]with
  | some w=>w
  | none=>jP l id pl n q
def ji(l:List Tbl)(id pl:Int):List Int:=jP l id pl l.length l
theorem l4{nx:Int→Int}{b:Int}(hb:b≠0){f:Nat}{w:List Int}:iW nx b f (nx b) [b]=some w↔∃m,m<1+f∧gn nx b m∧w=fG nx b m:=by
 have:=nN (nx:=nx) hb (f:=f) (k:=1) (w:=w) (Nat.le_refl _) (λj a c=>by omega)
 have e:fG nx b 1=[b]:=rfl
 rw[e]at this
 rw[show nx b=itN nx b 1 from rfl,this]
 exact⟨λ⟨m,_,h2,h3,h4⟩=>⟨m,h2,h3,h4⟩,λ⟨m,h2,h3,h4⟩=>⟨m,h3.1,h2,h3,h4⟩⟩
def GZ(l:List Tbl):Prop:=uw l∧∀b∈l,1≤b.router
theorem nw{l:List Tbl}(h:fJ l=0):GZ l:=⟨(gj h).2.2,λb hb=>(uh ((gj h).2.1 b hb)).1⟩
theorem iQ{l:List Tbl}{id pl r:Int}(h:nxT l id pl r≠0):∃b∈l,b.router=r∧(l.find? λb=>b.router==r)=some b∧cY b id pl=nxT l id pl r∧nxT l id pl r≠r:=by
 unfold nxT at h ⊢
 cases e:l.find? λb=>b.router==r with
 | none=>rw[e]at h;exact absurd rfl h
 | some b =>
  rw[e]at h
  simp only at h ⊢
  by_cases c:cY b id pl=r
  ·rw[if_pos c]at h;exact absurd rfl h
  ·rw[if_neg c]
   exact⟨b,List.mem_of_find?_eq_some e,by simpa using List.find?_some e,rfl,rfl,c⟩
theorem mj{l:List Tbl}(ha:GZ l)(id pl:Int):nxT l id pl 0=0:=by
 refine Classical.byContradiction λh=>?_
 obtain⟨b,hb,e,_⟩:=iQ h
 have:=ha.2 b hb;omega
theorem mw{l:List Tbl}{id pl:Int}{n:Nat}:∀{q:List Tbl} {w:List Int},jP l id pl n q=w→w≠[] →
  ∃p b s,q=p++b::s∧iW (nxT l id pl) b.router n (nxT l id pl b.router) [b.router]=some w∧∀c∈p,iW (nxT l id pl) c.router n (nxT l id pl c.router) [c.router]=none
 | [],w,h,hw=>absurd (by rw[←h];rfl) hw
 | b::q,w,h,hw=>by
  rw[jP]at h
  cases e:iW (nxT l id pl) b.router n (nxT l id pl b.router) [b.router]with
  | some w'=>rw[e]at h;exact⟨[],b,q,rfl,by rw[←h];exact e,by simp⟩
  | none =>
   rw[e]at h
   obtain⟨p,c,s,h1,h2,h3⟩:=mw h hw
   exact⟨b::p,c,s,by rw[h1];rfl,h2,λx hx=>by
    rcases List.mem_cons.mp hx with rfl|hx
    ·exact e
    ·exact h3 x hx⟩
theorem my{l:List Tbl}{id pl:Int}{n:Nat}:∀{q:List Tbl},jP l id pl n q=[]→(∀b∈q,b.router≠0)→∀c∈q,iW (nxT l id pl) c.router n (nxT l id pl c.router) [c.router]=none
 | [],h,_,c,hc=>by cases hc
 | b::q,h,hn,c,hc=>by
  rw[jP]at h
  cases e:iW (nxT l id pl) b.router n (nxT l id pl b.router) [b.router]with
  | some w =>
   rw[e]at h
   obtain⟨m,_,h2,h3⟩:=(l4 (hn b (by simp))).mp e
   have:w.length=0:=by rw[show w=[]from h];rfl
   rw[h3,ib]at this
   have:=h2.1;omega
  | none =>
   rw[e]at h
   rcases List.mem_cons.mp hc with rfl|hc
   ·exact e
   ·exact my h (λb hb=>hn b (by simp[hb])) c hc
theorem sO{l:List Tbl}(ha:GZ l){id pl:Int}{w:List Int}(h:ji l id pl=w)(hw:w≠[]):∃b m,b≠0∧gn (nxT l id pl) b m∧w=fG (nxT l id pl) b m∧∀x∈w,b≤x:=by
 obtain⟨p,b,s,h1,h2,h3⟩:=mw h hw
 have hb0:∀c∈l,c.router≠0:=λc hc=>by have:=ha.2 c hc;omega
 have hbl:b∈l:=by rw[h1];simp
 obtain⟨m,hm,hB,rfl⟩:=(l4 (hb0 b hbl)).mp h2
 refine⟨b.router,m,hb0 b hbl,hB,rfl,λx hx=>Classical.byContradiction λhlt=>?_⟩
 obtain⟨c,hc,rfl,_⟩:=iQ (hB.ne (hb0 b hbl) hx)
 have hcp:c∈p:=by
  rw[h1]at hc
  rcases List.mem_append.mp hc with hc|hc
  ·exact hc
  ·have hp:l.Pairwise λa b=>a.router<b.router:=ha.1
   rw[h1,List.pairwise_append]at hp
   rcases List.mem_cons.mp hc with rfl|hc
   ·exact absurd (Int.le_refl _) hlt
   ·have:=(List.pairwise_cons.mp hp.2.1).1 c hc;omega
 obtain⟨k,hk,hB2⟩:=gn.of (mj ha id pl) (hb0 c hc) hB.1 (hB.turn hx)
 have:=(l4 (nx:=nxT l id pl) (b:=c.router) (f:=l.length) (w:=fG (nxT l id pl) c.router k) (hb0 c hc)).mpr ⟨k,by omega,hB2,rfl⟩
 rw[h3 c hcp]at this;cases this
theorem wo{l:List Tbl}(ha:GZ l){id pl:Int}(h:ji l id pl=[]){b:Int}(hb:b≠0){m:Nat}:¬gn (nxT l id pl) b m:=by
 intro hB
 have hn:nxT l id pl b≠0:=hB.ne hb (by
  have:=fO (nx:=nxT l id pl) (b:=b) (m:=m) (i:=0) hB.1
  exact List.mem_of_getElem? this)
 obtain⟨c,hc,rfl,_⟩:=iQ hn
 have hle:m≤l.length:=by
  have:=hB.le hb (l:=l.map Tbl.router) λx hx=>by
   obtain⟨c,hc,e,_⟩:=iQ hx
   exact List.mem_map.mpr ⟨c,hc,e⟩
  rwa [List.length_map]at this
 have h1:=my h (λb hb=>by have:=ha.2 b hb;omega) c hc
 have:=(l4 (nx:=nxT l id pl) (f:=l.length) (w:=fG (nxT l id pl) c.router m) hb).mpr ⟨m,by omega,hB,rfl⟩
 rw[h1]at this;cases this
def kX(l:List Tbl)(id pl:Int):Nat→List Int→Int→List Int×Int
 | 0,_,_=>([],0)
 | f+1,seen,at_=>match l.find? λb=>b.router==at_ with
  | none=>([],4)
  | some b=>if cY b id pl=0 then([],9)else if cY b id pl=at_ then(seen.drop 1,0)
   else if cY b id pl∈seen then([],10)else kX l id pl f (seen++[cY b id pl]) (cY b id pl)
def iJ(nx:Int→Int)(s:List Int):Prop:=s.Nodup∧∀i x y,s[i]?=some x→s[i+1]?=some y→nx x=y∧x≠0∧y≠0
theorem iJ.one{nx:Int→Int}(x:Int):iJ nx [x]:=⟨by simp,λi a b h1 h2=>by
 cases i with
 | zero=>simp at h2
 | succ i=>simp at h1⟩
theorem iJ.snoc{nx:Int→Int}{s:List Int}(h:iJ nx s){x y:Int}(hx:s.getLast?=some x)(hn:nx x=y)(h0:x≠0)(h1:y≠0)(hy:y ∉ s):iJ nx (s++[y]):=by
 refine⟨List.nodup_append.mpr ⟨h.1,by simp,λa ha b hb=>by rw[List.mem_singleton.mp hb];rintro rfl;exact hy ha⟩,λi a b ha hb=>?_⟩
 rw[List.getLast?_eq_getElem?]at hx
 by_cases c:i+1<s.length
 ·rw[List.getElem?_append_left (by omega)]at ha
  rw[List.getElem?_append_left c]at hb
  exact h.2 i a b ha hb
 ·have hi:i+1=s.length:=by
   have:=(List.getElem?_eq_some_iff.mp hb).1
   simp at this;omega
  rw[List.getElem?_append_left (by omega),show i=s.length-1 by omega,hx]at ha
  rw[hi,List.getElem?_append_right (Nat.le_refl _),Nat.sub_self]at hb
  cases ha;cases hb
  exact⟨hn,h0,h1⟩
theorem iJ.it{nx:Int→Int}{s:List Int}(h:iJ nx s){i:Nat}{x:Int}(hx:s[i]?=some x):∀{j:Nat} {y:Int},s[i+j]?=some y→itN nx x j=y
 | 0,y,hy=>by rw[Nat.add_zero,hx]at hy;exact Option.some.inj hy
 | j+1,y,hy=>by
  have hlt:i+j<s.length:=by have:=(List.getElem?_eq_some_iff.mp hy).1;omega
  have e:=List.getElem?_eq_getElem hlt
  rw[itN,h.it hx e]
  exact(h.2 (i+j) _ y e hy).1
theorem iJ.loop{nx:Int→Int}(h0:nx 0=0){s:List Int}(h:iJ nx s){x y:Int}(hx:s.getLast?=some x)(hn:nx x=y)(hy:y∈s)(hy0:y≠0):∃m,gn nx y m:=by
 obtain⟨i,hi⟩:=List.getElem?_of_mem hy
 rw[List.getLast?_eq_getElem?]at hx
 have hlt:=(List.getElem?_eq_some_iff.mp hi).1
 have e:itN nx y (s.length-1-i)=x:=h.it hi (by rw[show i+(s.length-1-i)=s.length-1 by omega];exact hx)
 obtain⟨k,_,hB⟩:=gn.of h0 hy0 (m:=s.length-1-i+1) (by omega) (by rw[itN,e,hn])
 exact⟨k,hB⟩
theorem lY{l:List Tbl}(ha:GZ l){id pl:Int}:∀{f:Nat} {s:List Int} {x:Int},iJ (nxT l id pl) s→s.getLast?=some x→(kX l id pl f s x).2=10→∃b m,b≠0∧gn (nxT l id pl) b m
 | 0,s,x,_,_,h=>by rw[kX]at h;cases h
 | f+1,s,x,hC,hx,h=>by
  rw[kX]at h
  cases e:l.find? λb=>b.router==x with
  | none=>rw[e]at h;cases h
  | some b =>
   rw[e]at h
   simp only at h
   have hbr:b.router=x:=by simpa using List.find?_some e
   have hx0:x≠0:=by have:=ha.2 b (List.mem_of_find?_eq_some e);omega
   by_cases c1:cY b id pl=0
   ·rw[if_pos c1]at h;cases h
   rw[if_neg c1]at h
   by_cases c2:cY b id pl=x
   ·rw[if_pos c2]at h;cases h
   rw[if_neg c2]at h
   have hn:nxT l id pl x=cY b id pl:=by unfold nxT;rw[e];exact if_neg c2
   by_cases c3:cY b id pl∈s
   ·exact⟨_,(hC.loop (mj ha id pl) hx hn c3 c1).choose,c1,(hC.loop (mj ha id pl) hx hn c3 c1).choose_spec⟩
   ·rw[if_neg c3]at h
    exact lY ha (hC.snoc hx hn hx0 c1 c3) (by simp) h
end Go.Proofs.YtdbdndmdbbihbaaGreat
