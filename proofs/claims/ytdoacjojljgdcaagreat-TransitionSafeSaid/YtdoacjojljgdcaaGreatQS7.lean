/- Texts joined: KM3 KM4 AL1 AL2 PK0 TB1 TB2 HP1 LT LT2 W1 TL TA0. -/
import Derived.Test.YtdoacjojljgdcaaGreatQS6
set_option linter.unusedVariables false
set_option linter.unusedSimpArgs false
set_option linter.unusedSectionVars false
namespace Go.Proofs.YtdoacjojljgdcaaGreat
open Go Go.Am
def kc(k:Nat):List Rtr:=(List.range k).map λi=>⟨((i+1:Nat):Int),true⟩
def cnM(L:List Int)(a tree:Int)(skip:Bool)(p:Nat):Bool×Nat:=if(a==tree)=true∧skip=false then(true,p)else(fI L p 3,ab L p)
def F6(L:List Int)(cost a b:Int)(p:Nat):Lnk:=⟨a,b,rng L p 1 cost,rng L (ab L p) 1 cost,Mod (au L (ab L (ab L p))) 4⟩
def inM(L:List Int)(cost b tree:Int)(skip:Bool):Nat→Int→List Lnk→Nat→List Lnk×Nat
 | 0,_,ls,p=>(ls,p)
 | f+1,a,ls,p=>if(cnM L a tree skip p).1=true then inM L cost b tree skip f (a+1) (ls++[F6 L cost a b (cnM L a tree skip p).2]) (ab L (ab L (ab L (cnM L a tree skip p).2)))
  else inM L cost b tree skip f (a+1) ls (cnM L a tree skip p).2
def inR(L:List Int)(cost b:Int)(ls:List Lnk)(p:Nat):List Lnk×Nat:=inM L cost b (rng L p 1 (W (b-1))) (fI L (ab L p) 9) (b-1).toNat 1 ls (ab L (ab L p))
def ouM(L:List Int)(cost:Int):Nat→Int→List Lnk→Nat→List Lnk×Nat
 | 0,_,ls,p=>(ls,p)
 | f+1,b,ls,p=>ouM L cost f (b+1) (inR L cost b ls p).1 (inR L cost b ls p).2
def ut(j:Nat):List Rtr:=(List.range j).map λi=>⟨((50+i:Nat):Int),false⟩
def ixM(L:List Int)(p:Nat)(g:Tpl):Nat:=(Mod (au L p) g.ls.length).toNat
def NC(L:List Int)(p:Nat)(g:Tpl):Tpl×Nat:=
 if Mod (au L p) 7=0 then(⟨g.rs++[⟨bf [0,1,99,100,-1] (au L (ab L p)),false⟩],g.ls⟩,ab L (ab L p))
 else if Mod (au L p) 7=1 then(⟨g.rs,g.ls++[⟨Mod (au L (ab L p)) 4,Mod (au L (ab L (ab L p))) 4,1,1,0⟩]⟩,ab L (ab L (ab L p)))
 else if Mod (au L p) 7=2 then(match g.ls[ixM L (ab L p) g]? with
  | some y=>(⟨g.rs,g.ls.set (ixM L (ab L p) g) ⟨y.a,y.b,ei L (ab L (ab L p)),y.cb,y.w⟩⟩,ab L (ab L (ab L p)))
  | none=>(g,ab L p))
 else if Mod (au L p) 7=3 then(match g.ls[ixM L (ab L p) g]? with
  | some y=>(⟨g.rs,g.ls.set (ixM L (ab L p) g) ⟨y.a,y.b,y.ca,ei L (ab L (ab L p)),y.w⟩⟩,ab L (ab L (ab L p)))
  | none=>(g,ab L p))
 else if Mod (au L p) 7=4 then(match g.ls[ixM L (ab L p) g]? with
  | some y=>(⟨g.rs,g.ls.set (ixM L (ab L p) g) ⟨y.a,y.b,y.ca,y.cb,ei L (ab L (ab L p))⟩⟩,ab L (ab L (ab L p)))
  | none=>(g,ab L p))
 else if Mod (au L p) 7=5 then(match g.ls[ixM L (ab L p) g]? with
  | some y=>(⟨g.rs,g.ls++[y]⟩,ab L (ab L p))
  | none=>(g,ab L p))
 else(⟨g.rs++ut 25,g.ls⟩,ab L p)
def uL(L:List Int)(p:Nat):Int:=bf [1,2,2,5] (au L (ab L p))
def pE(L:List Int)(p:Nat)(most:Int):List Lnk×Nat:=ouM L (uL L p) ((rng L p 1 most)-1).toNat 2 [] (ab L (ab L p))
def DO(L:List Int)(p:Nat)(most:Int):Tpl:=⟨kc (rng L p 1 most).toNat,aT (pE L p most).1 []⟩
def ay(L:List Int)(p:Nat)(most n:Int):Tpl×Nat:=
 if 0<n∧fI L (pE L p most).2 n=true then NC L (ab L (pE L p most).2) (DO L p most)else(DO L p most,if 0<n then ab L (pE L p most).2 else(pE L p most).2)
theorem Ap(out:List Lnk)(x:Lnk):gQ out x≤out.length:=List.findIdx_le_length
theorem ng:∀(l out:List Lnk),(aT l out).length=l.length+out.length
 | [],out=>by simp[aT]
 | x::l,out=>by rw[aT,ng l,gq _ _ _ (Ap _ _),List.length_cons];omega
theorem mK(k:Nat):(kc k).length=k:=by simp[kc]
theorem CE(k:Nat):kc (k+1)=kc k++[⟨((k+1:Nat):Int),true⟩]:=by simp[kc,List.range_succ]
theorem Df(k:Nat):ut (k+1)=ut k++[⟨((50+k:Nat):Int),false⟩]:=by simp[ut,List.range_succ]
theorem Gl(k:Nat):(ut k).length=k:=by simp[ut]
theorem zV{L:List Int}{p:Nat}{m:Int}(h:1≤m∧m≤1000):1≤rng L p 1 m∧rng L p 1 m≤m:=by
 have hm:=cU (x:=au L p) h.1
 unfold rng
 rw[dm (n:=m-1) (by omega),dm (n:=m-1+1) (by omega),show m-1+1=m by omega,dm (by omega)]
 omega
def DN(L:List Int)(p:Nat)(most:Int)(n:Int):=okL [.ref 0 0,.int most,.int n]∧(.box (.agg [.sl 1 (L.map AV.int) false,.int p]):Blk).ok
def Ix(L:List Int)(p:Nat)(most:Int)(n:Int)(t0:Int×List Rtr):NF:=⟨[(0,.k,.ref 0 0),(2,.k,.int n),(6,.k,.ref 1 0),(7,.k,.ref 2 0),(8,.k,.int (rng L p 1 most)),(9,.k,.int t0.1)],[.box (.agg [.sl 1 (L.map AV.int) false,.int (ab L p)]),.box (.agg [.sl 0 [] true,.sl 0 [] true]),.box (.agg [.vec 3,.sl 0 [] true]),.vec 2 (t0.2.map Rtr.v) (ae (λ_=>rfl) t0.2)]⟩
def Iw(L:List Int)(p:Nat)(most:Int)(n:Int)(t0:Int×List Rtr)(t1:Int×Nat×List Lnk):NF:=⟨[(0,.k,.ref 0 0),(2,.k,.int n),(6,.k,.ref 1 0),(7,.k,.ref 2 0),(8,.k,.int (rng L p 1 most)),(10,.k,.int (bf [1,2,2,5] (au L (ab L p)))),(11,.k,.int t1.1)],[.box (.agg [.sl 1 (L.map AV.int) false,.int t1.2.1]),.box (.agg [.sl 0 [] true,.sl 0 [] true]),.box (.agg [.vec 3,.vec 4]),.vec 2 (t0.2.map Rtr.v) (ae (λ_=>rfl) t0.2),.vec 5 (t1.2.2.map Lnk.v) (ae (λ_=>rfl) t1.2.2)]⟩
def Iv(L:List Int)(p:Nat)(most:Int)(n:Int)(t0:Int×List Rtr)(t1:Int×Nat×List Lnk)(t2:Int×List Lnk×Nat):NF:=⟨[(0,.k,.ref 0 0),(2,.k,.int n),(6,.k,.ref 1 0),(7,.k,.ref 2 0),(8,.k,.int (rng L p 1 most)),(10,.k,.int (bf [1,2,2,5] (au L (ab L p)))),(11,.k,.int t1.1),(12,.k,.int (rng L t1.2.1 1 (W (t1.1-1)))),(13,.k,.bool (fI L (ab L t1.2.1) 9)),(14,.k,.int t2.1)],[.box (.agg [.sl 1 (L.map AV.int) false,.int t2.2.2]),.box (.agg [.sl 0 [] true,.sl 0 [] true]),.box (.agg [.vec 3,.vec 4]),.vec 2 (t0.2.map Rtr.v) (ae (λ_=>rfl) t0.2),.vec 5 (t2.2.1.map Lnk.v) (ae (λ_=>rfl) t2.2.1)]⟩
def Iu(L:List Int)(p:Nat)(most:Int)(n:Int)(t0:Int×List Rtr)(t1:Int×Nat×List Lnk)(t2:Int×List Lnk×Nat)(t3:Bool×Nat):NF:=⟨[(0,.k,.ref 0 0),(2,.k,.int n),(6,.k,.ref 1 0),(7,.k,.ref 2 0),(8,.k,.int (rng L p 1 most)),(10,.k,.int (bf [1,2,2,5] (au L (ab L p)))),(11,.k,.int t1.1),(12,.k,.int (rng L t1.2.1 1 (W (t1.1-1)))),(13,.k,.bool (fI L (ab L t1.2.1) 9)),(14,.k,.int t2.1),(60,.k,.bool t3.1)],[.box (.agg [.sl 1 (L.map AV.int) false,.int t3.2]),.box (.agg [.sl 0 [] true,.sl 0 [] true]),.box (.agg [.vec 3,.vec 4]),.vec 2 (t0.2.map Rtr.v) (ae (λ_=>rfl) t0.2),.vec 5 (t2.2.1.map Lnk.v) (ae (λ_=>rfl) t2.2.1)]⟩
def It(L:List Int)(t0:Int×List Rtr)(t1:Int×Nat×List Lnk)(t4:Bool×Nat):NF:=⟨[(0,.k,.ref 0 0),(6,.k,.ref 1 0),(7,.k,.ref 2 0),(87,.k,.bool t4.1)],[.box (.agg [.sl 1 (L.map AV.int) false,.int t4.2]),.box (.agg [.sl 0 [] true,.sl 0 [] true]),.box (.agg [.vec 3,.vec 4]),.vec 2 (t0.2.map Rtr.v) (ae (λ_=>rfl) t0.2),.vec 5 ((aT t1.2.2 []).map Lnk.v) (ae (λ_=>rfl) (aT t1.2.2 []))]⟩
def Is(L:List Int)(t1:Int×Nat×List Lnk)(t4:Bool×Nat)(t5:Int×List Rtr):NF:=⟨[(6,.k,.ref 1 0),(7,.k,.ref 2 0),(15,.k,.int t5.1)],[.box (.agg [.sl 1 (L.map AV.int) false,.int (ab L t4.2)]),.box (.agg [.sl 0 [] true,.sl 0 [] true]),.box (.agg [.vec 3,.vec 4]),.vec 2 (t5.2.map Rtr.v) (ae (λ_=>rfl) t5.2),.vec 5 ((aT t1.2.2 []).map Lnk.v) (ae (λ_=>rfl) (aT t1.2.2 []))]⟩
@[reducible] def DM:Nat→Type
 | 0=>Int×List Rtr
 | 1=>Int×Nat×List Lnk
 | 2=>Int×List Lnk×Nat
 | 3=>Bool×Nat
 | 4=>Bool×Nat
 | 5=>Int×List Rtr
 | _=>Unit
def pF(r:Tap×Tpl):AV:=.agg [.vec 1,.vec 2]
def pG(r:Tap×Tpl):List (Option Blk):=[some (.box (.agg [.sl 1 (r.1.L.map AV.int) false,.int r.1.p])),some (.vec 2 (r.2.rs.map Rtr.v)),some (.vec 5 (r.2.ls.map Lnk.v))]
def vF(L:List Int)(p:Nat)(most:Int)(n:Int)(I0:(Int×List Rtr)→Prop)(m0:(Int×List Rtr)→Nat)(I1:Int×List Rtr→(Int×Nat×List Lnk)→Prop)(m1:Int×List Rtr→(Int×Nat×List Lnk)→Nat)(I2:Int×List Rtr→Int×Nat×List Lnk→(Int×List Lnk×Nat)→Prop)(m2:Int×List Rtr→Int×Nat×List Lnk→(Int×List Lnk×Nat)→Nat)(I3:Int×List Rtr→Int×Nat×List Lnk→Int×List Lnk×Nat→(Bool×Nat)→Prop)(I4:Int×List Rtr→Int×Nat×List Lnk→(Bool×Nat)→Prop)(I5:Int×List Rtr→Int×Nat×List Lnk→Bool×Nat→(Int×List Rtr)→Prop)(m5:Int×List Rtr→Int×Nat×List Lnk→Bool×Nat→(Int×List Rtr)→Nat):Ax Tryz.prog DM (Tap×Tpl):=
 (.callH [0] (fG L p 1 most) 65
(.cmdL (.nilB 17 0 2) (.loop 0 (Ix L p most n) I0 m0 (1,[]) [0,1,17,113] λ(t0:Int×List Rtr) b0 =>
(.br 52 (decide (t0.1≤(rng L p 1 most))) (.apX 132 Rtr.v t0.2 [(⟨t0.1,true⟩:Rtr)] (t0.2.length+1)
(.bk 0 b0 (W (t0.1+1),t0.2++[(⟨t0.1,true⟩:Rtr)]) [0,1,2,132]))
(.req 84 ([1,2,2,5]≠[]) λh1 =>
(.callH [0] (iB L (ab L p) [1,2,2,5] h1) 84
(.cmdL (.nilB 2 1 5) (.loop 1 (Iw L p most n t0) (I1 t0) (m1 t0) (2,ab L (ab L p),[]) [0,1,2,3,132] λ(t1:Int×Nat×List Lnk) b1 =>
(.br 53 (decide (t1.1≤(rng L p 1 most))) (.callH [0] (fG L t1.2.1 1 (W (t1.1-1))) 101
(.callH [0] (lm L (ab L t1.2.1) 9) 149
(.loop 2 (Iv L p most n t0 t1) (I2 t0 t1) (m2 t0 t1) (1,t1.2.2,ab L (ab L t1.2.1)) [0,1,2,3,4] λ(t2:Int×List Lnk×Nat) b2 =>
(.br 53 (decide (t2.1<t1.1)) (.pass (.join 3 (Iu L p most n t0 t1 t2) (λ(t3:Bool×Nat)=>I3 t0 t1 t2 t3) (λb3=>(.br 117 (t2.1==(rng L t1.2.1 1 (W (t1.1-1)))) (.br 181 (!(fI L (ab L t1.2.1) 9)) (.bk 3 b3 (true,t2.2.2) [0,1,2,3,4])
(.callH [0] (lm L t2.2.2 3) 197
(.bk 3 b3 (fI L t2.2.2 3,ab L t2.2.2) [0,1,2,3,4])))
(.callH [0] (lm L t2.2.2 3) 197
(.bk 3 b3 (fI L t2.2.2 3,ab L t2.2.2) [0,1,2,3,4])))) λ(t3:Bool×Nat) =>
(.br 5 t3.1 (.callH [0] (fG L t3.2 1 (bf [1,2,2,5] (au L (ab L p)))) 101
(.callH [0] (fG L (ab L t3.2) 1 (bf [1,2,2,5] (au L (ab L p)))) 149
(.callH [0] (bR L (ab L (ab L t3.2)) 4) 181
(.apX 229 Lnk.v t2.2.1 [(⟨t2.1,t1.1,rng L t3.2 1 (bf [1,2,2,5] (au L (ab L p))),rng L (ab L t3.2) 1 (bf [1,2,2,5] (au L (ab L p))),Mod (au L (ab L (ab L t3.2))) 4⟩:Lnk)] (t2.2.1.length+1)
(.bk 2 b2 (W (t2.1+1),t2.2.1++[(⟨t2.1,t1.1,rng L t3.2 1 (bf [1,2,2,5] (au L (ab L p))),rng L (ab L t3.2) 1 (bf [1,2,2,5] (au L (ab L p))),Mod (au L (ab L (ab L t3.2))) 4⟩:Lnk)],ab L (ab L (ab L t3.2))) [0,1,2,3,229])))))
(.bk 2 b2 (W (t2.1+1),t2.2.1,t3.2) [0,1,2,3,4]))))
(.bk 1 b1 (W (t1.1+1),t2.2.2,t2.2.1) [0,1,2,3,4])))))
(.say (Rf (t1.2.2.map Lnk.v)) (.cmd (.frzE 4 (t1.2.2.map Lnk.v) (ae (λ_=>rfl) t1.2.2)) (.req 85 (t1.2.2.length≤1000) λh2 =>
(.callH [] (Ol t1.2.2 h2) 85
(.pass (.join 4 (It L t0 t1) (λ(t4:Bool×Nat)=>I4 t0 t1 t4) (λb4=>(.br 181 (decide (0<n)) (.callH [0] (lm L t1.2.1 n) 213
(.bk 4 b4 (fI L t1.2.1 n,ab L t1.2.1) [0,1,2,3,85]))
(.bk 4 b4 (false,t1.2.1) [0,1,2,3,85]))) λ(t4:Bool×Nat) =>
(.br 5 t4.1 (.callH [0] (bR L t4.2 7) 21
(.br 69 ((Mod (au L t4.2) 7)==0) (.req 133 ([0,1,99,100,-1]≠[]) λh3 =>
(.callH [0] (iB L (ab L t4.2) [0,1,99,100,-1] h3) 133
(.apX 181 Rtr.v t0.2 [(⟨bf [0,1,99,100,-1] (au L (ab L t4.2)),false⟩:Rtr)] (t0.2.length+1)
(.retH ((⟨L,ab L (ab L t4.2)⟩:Tap),(⟨t0.2++[(⟨bf [0,1,99,100,-1] (au L (ab L t4.2)),false⟩:Rtr)],aT t1.2.2 []⟩:Tpl)) ⟨[(6,.k,.ref 3 0)],[.box (.agg [.sl 1 (L.map AV.int) false,.int (((ab L (ab L t4.2)):Nat):Int)]),.vec 2 ((t0.2++[(⟨bf [0,1,99,100,-1] (au L (ab L t4.2)),false⟩:Rtr)]).map Rtr.v) (ae (λ_=>rfl) (t0.2++[(⟨bf [0,1,99,100,-1] (au L (ab L t4.2)),false⟩:Rtr)])),.vec 5 ((aT t1.2.2 []).map Lnk.v) (ae (λ_=>rfl) (aT t1.2.2 [])),.box (.agg [.vec 1,.vec 2])]⟩ [0,181,4,1]))))
(.br 101 ((Mod (au L t4.2) 7)==1) (.callH [0] (bR L (ab L t4.2) 4) 149
(.callH [0] (bR L (ab L (ab L t4.2)) 4) 181
(.apX 229 Lnk.v (aT t1.2.2 []) [(⟨Mod (au L (ab L t4.2)) 4,Mod (au L (ab L (ab L t4.2))) 4,1,1,0⟩:Lnk)] ((aT t1.2.2 []).length+1)
(.retH ((⟨L,ab L (ab L (ab L t4.2))⟩:Tap),(⟨t0.2,(aT t1.2.2 [])++[(⟨Mod (au L (ab L t4.2)) 4,Mod (au L (ab L (ab L t4.2))) 4,1,1,0⟩:Lnk)]⟩:Tpl)) ⟨[(6,.k,.ref 3 0)],[.box (.agg [.sl 1 (L.map AV.int) false,.int (((ab L (ab L (ab L t4.2))):Nat):Int)]),.vec 2 (t0.2.map Rtr.v) (ae (λ_=>rfl) t0.2),.vec 5 (((aT t1.2.2 [])++[(⟨Mod (au L (ab L t4.2)) 4,Mod (au L (ab L (ab L t4.2))) 4,1,1,0⟩:Lnk)]).map Lnk.v) (ae (λ_=>rfl) ((aT t1.2.2 [])++[(⟨Mod (au L (ab L t4.2)) 4,Mod (au L (ab L (ab L t4.2))) 4,1,1,0⟩:Lnk)])),.box (.agg [.vec 1,.vec 2])]⟩ [0,3,229,1]))))
(.br 133 ((Mod (au L t4.2) 7)==2) (.br 197 (decide (0<(((aT t1.2.2 []).map Lnk.v).length:Int))) (.callH [0] (bR L (ab L t4.2) (((aT t1.2.2 []).map Lnk.v).length:Int)) 293
(.callH [0] (kX L (ab L (ab L t4.2))) 325
(.stJ 373 Lnk.v (aT t1.2.2 []) (Mod (au L (ab L t4.2)) (((aT t1.2.2 []).map Lnk.v).length:Int)) (λy4=>(⟨y4.a,y4.b,ei L (ab L (ab L t4.2)),y4.cb,y4.w⟩:Lnk)) λy4 =>
(.retH ((⟨L,ab L (ab L (ab L t4.2))⟩:Tap),(⟨t0.2,(aT t1.2.2 []).set ((Mod (au L (ab L t4.2)) (((aT t1.2.2 []).map Lnk.v).length:Int)).toNat) (⟨y4.a,y4.b,ei L (ab L (ab L t4.2)),y4.cb,y4.w⟩:Lnk)⟩:Tpl)) ⟨[(6,.k,.ref 3 0)],[.box (.agg [.sl 1 (L.map AV.int) false,.int (((ab L (ab L (ab L t4.2))):Nat):Int)]),.vec 2 (t0.2.map Rtr.v) (ae (λ_=>rfl) t0.2),.vec 5 (((aT t1.2.2 []).set ((Mod (au L (ab L t4.2)) (((aT t1.2.2 []).map Lnk.v).length:Int)).toNat) (⟨y4.a,y4.b,ei L (ab L (ab L t4.2)),y4.cb,y4.w⟩:Lnk)).map Lnk.v) (ae (λ_=>rfl) ((aT t1.2.2 []).set ((Mod (au L (ab L t4.2)) (((aT t1.2.2 []).map Lnk.v).length:Int)).toNat) (⟨y4.a,y4.b,ei L (ab L (ab L t4.2)),y4.cb,y4.w⟩:Lnk))),.box (.agg [.vec 1,.vec 2])]⟩ [0,3,4,1]))))
(.retH ((⟨L,ab L t4.2⟩:Tap),(⟨t0.2,aT t1.2.2 []⟩:Tpl)) ⟨[(6,.k,.ref 3 0)],[.box (.agg [.sl 1 (L.map AV.int) false,.int (ab L t4.2)]),.vec 2 (t0.2.map Rtr.v) (ae (λ_=>rfl) t0.2),.vec 5 ((aT t1.2.2 []).map Lnk.v) (ae (λ_=>rfl) (aT t1.2.2 [])),.box (.agg [.vec 1,.vec 2])]⟩ [0,3,4,1]))
(.br 165 ((Mod (au L t4.2) 7)==3) (.br 229 (decide (0<(((aT t1.2.2 []).map Lnk.v).length:Int))) (.callH [0] (bR L (ab L t4.2) (((aT t1.2.2 []).map Lnk.v).length:Int)) 325
(.callH [0] (kX L (ab L (ab L t4.2))) 357
(.stJ 405 Lnk.v (aT t1.2.2 []) (Mod (au L (ab L t4.2)) (((aT t1.2.2 []).map Lnk.v).length:Int)) (λy5=>(⟨y5.a,y5.b,y5.ca,ei L (ab L (ab L t4.2)),y5.w⟩:Lnk)) λy5 =>
(.retH ((⟨L,ab L (ab L (ab L t4.2))⟩:Tap),(⟨t0.2,(aT t1.2.2 []).set ((Mod (au L (ab L t4.2)) (((aT t1.2.2 []).map Lnk.v).length:Int)).toNat) (⟨y5.a,y5.b,y5.ca,ei L (ab L (ab L t4.2)),y5.w⟩:Lnk)⟩:Tpl)) ⟨[(6,.k,.ref 3 0)],[.box (.agg [.sl 1 (L.map AV.int) false,.int (((ab L (ab L (ab L t4.2))):Nat):Int)]),.vec 2 (t0.2.map Rtr.v) (ae (λ_=>rfl) t0.2),.vec 5 (((aT t1.2.2 []).set ((Mod (au L (ab L t4.2)) (((aT t1.2.2 []).map Lnk.v).length:Int)).toNat) (⟨y5.a,y5.b,y5.ca,ei L (ab L (ab L t4.2)),y5.w⟩:Lnk)).map Lnk.v) (ae (λ_=>rfl) ((aT t1.2.2 []).set ((Mod (au L (ab L t4.2)) (((aT t1.2.2 []).map Lnk.v).length:Int)).toNat) (⟨y5.a,y5.b,y5.ca,ei L (ab L (ab L t4.2)),y5.w⟩:Lnk))),.box (.agg [.vec 1,.vec 2])]⟩ [0,3,4,1]))))
(.retH ((⟨L,ab L t4.2⟩:Tap),(⟨t0.2,aT t1.2.2 []⟩:Tpl)) ⟨[(6,.k,.ref 3 0)],[.box (.agg [.sl 1 (L.map AV.int) false,.int (ab L t4.2)]),.vec 2 (t0.2.map Rtr.v) (ae (λ_=>rfl) t0.2),.vec 5 ((aT t1.2.2 []).map Lnk.v) (ae (λ_=>rfl) (aT t1.2.2 [])),.box (.agg [.vec 1,.vec 2])]⟩ [0,3,4,1]))
(.br 197 ((Mod (au L t4.2) 7)==4) (.br 261 (decide (0<(((aT t1.2.2 []).map Lnk.v).length:Int))) (.callH [0] (bR L (ab L t4.2) (((aT t1.2.2 []).map Lnk.v).length:Int)) 357
(.callH [0] (kX L (ab L (ab L t4.2))) 389
(.stJ 437 Lnk.v (aT t1.2.2 []) (Mod (au L (ab L t4.2)) (((aT t1.2.2 []).map Lnk.v).length:Int)) (λy6=>(⟨y6.a,y6.b,y6.ca,y6.cb,ei L (ab L (ab L t4.2))⟩:Lnk)) λy6 =>
(.retH ((⟨L,ab L (ab L (ab L t4.2))⟩:Tap),(⟨t0.2,(aT t1.2.2 []).set ((Mod (au L (ab L t4.2)) (((aT t1.2.2 []).map Lnk.v).length:Int)).toNat) (⟨y6.a,y6.b,y6.ca,y6.cb,ei L (ab L (ab L t4.2))⟩:Lnk)⟩:Tpl)) ⟨[(6,.k,.ref 3 0)],[.box (.agg [.sl 1 (L.map AV.int) false,.int (((ab L (ab L (ab L t4.2))):Nat):Int)]),.vec 2 (t0.2.map Rtr.v) (ae (λ_=>rfl) t0.2),.vec 5 (((aT t1.2.2 []).set ((Mod (au L (ab L t4.2)) (((aT t1.2.2 []).map Lnk.v).length:Int)).toNat) (⟨y6.a,y6.b,y6.ca,y6.cb,ei L (ab L (ab L t4.2))⟩:Lnk)).map Lnk.v) (ae (λ_=>rfl) ((aT t1.2.2 []).set ((Mod (au L (ab L t4.2)) (((aT t1.2.2 []).map Lnk.v).length:Int)).toNat) (⟨y6.a,y6.b,y6.ca,y6.cb,ei L (ab L (ab L t4.2))⟩:Lnk))),.box (.agg [.vec 1,.vec 2])]⟩ [0,3,4,1]))))
(.retH ((⟨L,ab L t4.2⟩:Tap),(⟨t0.2,aT t1.2.2 []⟩:Tpl)) ⟨[(6,.k,.ref 3 0)],[.box (.agg [.sl 1 (L.map AV.int) false,.int (ab L t4.2)]),.vec 2 (t0.2.map Rtr.v) (ae (λ_=>rfl) t0.2),.vec 5 ((aT t1.2.2 []).map Lnk.v) (ae (λ_=>rfl) (aT t1.2.2 [])),.box (.agg [.vec 1,.vec 2])]⟩ [0,3,4,1]))
(.br 229 ((Mod (au L t4.2) 7)==5) (.br 293 (decide (0<(((aT t1.2.2 []).map Lnk.v).length:Int))) (.callH [0] (bR L (ab L t4.2) (((aT t1.2.2 []).map Lnk.v).length:Int)) 421
(.elJ 453 Lnk.v (aT t1.2.2 []) (Mod (au L (ab L t4.2)) (((aT t1.2.2 []).map Lnk.v).length:Int)) λx7 =>
(.apX 485 Lnk.v (aT t1.2.2 []) [x7] ((aT t1.2.2 []).length+1)
(.retH ((⟨L,ab L (ab L t4.2)⟩:Tap),(⟨t0.2,(aT t1.2.2 [])++[x7]⟩:Tpl)) ⟨[(6,.k,.ref 3 0)],[.box (.agg [.sl 1 (L.map AV.int) false,.int (((ab L (ab L t4.2)):Nat):Int)]),.vec 2 (t0.2.map Rtr.v) (ae (λ_=>rfl) t0.2),.vec 5 (((aT t1.2.2 [])++[x7]).map Lnk.v) (ae (λ_=>rfl) ((aT t1.2.2 [])++[x7])),.box (.agg [.vec 1,.vec 2])]⟩ [0,3,485,1]))))
(.retH ((⟨L,ab L t4.2⟩:Tap),(⟨t0.2,aT t1.2.2 []⟩:Tpl)) ⟨[(6,.k,.ref 3 0)],[.box (.agg [.sl 1 (L.map AV.int) false,.int (ab L t4.2)]),.vec 2 (t0.2.map Rtr.v) (ae (λ_=>rfl) t0.2),.vec 5 ((aT t1.2.2 []).map Lnk.v) (ae (λ_=>rfl) (aT t1.2.2 [])),.box (.agg [.vec 1,.vec 2])]⟩ [0,3,4,1]))
(.loop 5 (Is L t1 t4) (I5 t0 t1 t4) (m5 t0 t1 t4) (50,t0.2) [0,1,2,3,4] λ(t5:Int×List Rtr) b5 =>
(.br 37 (decide (t5.1<75)) (.apX 117 Rtr.v t5.2 [(⟨t5.1,false⟩:Rtr)] (t5.2.length+1)
(.bk 5 b5 (W (t5.1+1),t5.2++[(⟨t5.1,false⟩:Rtr)]) [0,1,2,117,4]))
(.retH ((⟨L,ab L t4.2⟩:Tap),(⟨t5.2,aT t1.2.2 []⟩:Tpl)) ⟨[(6,.k,.ref 3 0)],[.box (.agg [.sl 1 (L.map AV.int) false,.int (ab L t4.2)]),.vec 2 (t5.2.map Rtr.v) (ae (λ_=>rfl) t5.2),.vec 5 ((aT t1.2.2 []).map Lnk.v) (ae (λ_=>rfl) (aT t1.2.2 [])),.box (.agg [.vec 1,.vec 2])]⟩ [0,3,4,1]))))))))))
(.retH ((⟨L,t4.2⟩:Tap),(⟨t0.2,aT t1.2.2 []⟩:Tpl)) ⟨[(6,.k,.ref 3 0)],[.box (.agg [.sl 1 (L.map AV.int) false,.int t4.2]),.vec 2 (t0.2.map Rtr.v) (ae (λ_=>rfl) t0.2),.vec 5 ((aT t1.2.2 []).map Lnk.v) (ae (λ_=>rfl) (aT t1.2.2 [])),.box (.agg [.vec 1,.vec 2])]⟩ [0,3,4,1])))))))))))))))))
def zF(L:List Int)(p:Nat)(most:Int)(n:Int)(I0:(Int×List Rtr)→Prop)(m0:(Int×List Rtr)→Nat)(I1:Int×List Rtr→(Int×Nat×List Lnk)→Prop)(m1:Int×List Rtr→(Int×Nat×List Lnk)→Nat)(I2:Int×List Rtr→Int×Nat×List Lnk→(Int×List Lnk×Nat)→Prop)(m2:Int×List Rtr→Int×Nat×List Lnk→(Int×List Lnk×Nat)→Nat)(I3:Int×List Rtr→Int×Nat×List Lnk→Int×List Lnk×Nat→(Bool×Nat)→Prop)(I4:Int×List Rtr→Int×Nat×List Lnk→(Bool×Nat)→Prop)(I5:Int×List Rtr→Int×Nat×List Lnk→Bool×Nat→(Int×List Rtr)→Prop)(m5:Int×List Rtr→Int×Nat×List Lnk→Bool×Nat→(Int×List Rtr)→Nat)(r0:Tap×Tpl):=(vF L p most n I0 m0 I1 m1 I2 m2 I3 I4 I5 m5).vc pF pG r0
theorem Nv(L:List Int)(p:Nat)(most n:Int)(h:1≤most∧most≤20)(ok:DN L p most n):∃I0 m0 I1 m1 I2 m2 I3 I4 I5 m5,zF L p most n I0 m0 I1 m1 I2 m2 I3 I4 I5 m5 ((⟨L,(ay L p most n).2⟩:Tap),(ay L p most n).1):=by
 have hk:=zV (L:=L) (p:=p) (m:=most) (by omega)
 refine⟨λs=>∃j:Nat,s.1=((j+1:Nat):Int)∧j≤(rng L p 1 most).toNat∧s.2=kc j,λs=>(rng L p 1 most).toNat+1-s.1.toNat,
  λ_ s=>∃j:Nat,s.1=((j+2:Nat):Int)∧j≤(rng L p 1 most-1).toNat∧s.2.2.length≤20 * j∧ouM L (uL L p) ((rng L p 1 most-1).toNat-j) s.1 s.2.2 s.2.1=pE L p most,λ_ s=>(rng L p 1 most).toNat+1-s.1.toNat,
  λ_ s1 s=>∃j:Nat,s.1=((j+1:Nat):Int)∧j≤(s1.1-1).toNat∧s.2.1.length≤s1.2.2.length+j∧inM L (uL L p) s1.1 (rng L s1.2.1 1 (W (s1.1-1))) (fI L (ab L s1.2.1) 9) ((s1.1-1).toNat-j) s.1 s.2.1 s.2.2=inR L (uL L p) s1.1 s1.2.2 s1.2.1,λ_ s1 s=>s1.1.toNat-s.1.toNat,
  λ_ s1 s2 s=>s=cnM L s2.1 (rng L s1.2.1 1 (W (s1.1-1))) (fI L (ab L s1.2.1) 9) s2.2.2,
  λ_ s1 s=>s=(decide (0<n∧fI L s1.2.1 n=true),if 0<n then ab L s1.2.1 else s1.2.1),
  λ_ _ _ s=>∃j:Nat,s.1=((50+j:Nat):Int)∧j≤25∧s.2=kc (rng L p 1 most).toNat++ut j,λ_ _ _ s=>75-s.1.toNat,?_⟩
 dsimp only[zF,vF,DM,Ax.vp,Ax.vc];simp only[vcU,rfU,List.length_map]
 generalize hK:rng L p 1 most=K at hk ⊢
 have hK0:DO L p most=⟨kc K.toNat,aT (pE L p most).1 []⟩:=by unfold DO;rw[hK]
 refine⟨⟨0,rfl,Nat.zero_le _,rfl⟩,?_⟩
 rintro⟨i,rs⟩ ⟨j,hi,hj,hr⟩
 simp only at hi hr ⊢
 subst hi;subst hr
 rw[mK]
 refine⟨λc=>⟨by omega,⟨j+1,by rw[dm (by omega)];omega,by omega,(CE j).symm⟩,by rw[dm (by omega)];omega⟩,λc=>⟨by simp,?_⟩⟩
 obtain rfl:j=K.toNat:=by omega
 refine⟨⟨0,rfl,Nat.zero_le _,by simp,by rw[pE,hK];rfl⟩,?_⟩
 rintro⟨b,q,ls⟩ ⟨jb,hb,hjb,hlb,hob⟩
 simp only at hb hlb hob ⊢
 refine⟨λc1=>?_,λc1=>?_⟩
 ·refine⟨⟨0,rfl,Nat.zero_le _,by simp,by rw[Nat.sub_zero];rfl⟩,?_⟩
  rintro⟨a,l2,p2⟩ ⟨ja,ha,hja,hla,hoa⟩
  simp only at ha hla hoa ⊢
  refine⟨λc2=>⟨⟨λe=>⟨λe2=>?_,λe2=>?_⟩,λe=>?_⟩,?_⟩,λc2=>?_⟩
  ·rw[cnM,if_pos ⟨e,by simpa using e2⟩]
  ·rw[cnM,if_neg (λq=>by rw[q.2]at e2;cases e2)]
  ·rw[cnM,if_neg (λq=>by rw[q.1]at e;cases e)]
  ·rintro _ rfl
   have hst:(b-1).toNat-ja=((b-1).toNat-(ja+1))+1:=by omega
   rw[hst,inM]at hoa
   have hw:W (a+1)=((ja+1+1:Nat):Int):=by rw[dm (by omega)];omega
   refine⟨λe=>?_,λe=>?_⟩
   ·rw[if_pos e]at hoa
    refine⟨by omega,⟨ja+1,hw,by omega,by simp;omega,?_⟩,by rw[hw];omega⟩
    rw[hw,show((ja+1+1:Nat):Int)=a+1 by omega]
    exact hoa
   ·rw[if_neg (by rw[e];simp)]at hoa
    refine⟨⟨ja+1,hw,by omega,by omega,?_⟩,by rw[hw];omega⟩
    rw[hw,show((ja+1+1:Nat):Int)=a+1 by omega]
    exact hoa
  ·have e1:(b-1).toNat-ja=0:=by omega
   rw[e1,inM]at hoa
   have e2:(K-1).toNat-jb=((K-1).toNat-(jb+1))+1:=by omega
   rw[e2,ouM,←hoa]at hob
   have hw:W (b+1)=((jb+1+2:Nat):Int):=by rw[dm (by omega)];omega
   refine⟨⟨jb+1,hw,by omega,by omega,?_⟩,by rw[hw];omega⟩
   rw[hw,show((jb+1+2:Nat):Int)=b+1 by omega]
   exact hob
 ·have e1:(K-1).toNat-jb=0:=by omega
  rw[e1,ouM]at hob
  have hT:ay L p most n=if 0<n∧fI L q n=true then NC L (ab L q) ⟨kc K.toNat,aT ls []⟩else(⟨kc K.toNat,aT ls []⟩,if 0<n then ab L q else q):=by
   unfold ay;rw[hK0,←hob]
  have hol:(aT ls []).length≤400:=by rw[ng];simp;omega
  generalize aT ls []=ol at hT hol ⊢
  refine⟨by omega,⟨λc2=>?_,λc2=>?_⟩,?_⟩
  ·rw[if_pos c2]
   refine Prod.ext ?_ rfl
   rw[Bool.eq_iff_iff];simp[c2]
  ·rw[if_neg c2]
   refine Prod.ext ?_ rfl
   rw[Bool.eq_iff_iff];simp[c2]
  rintro _ rfl
  simp only
  refine⟨λe=>?_,λe=>by rw[hT,if_neg (of_decide_eq_false e)]⟩
  have e:=of_decide_eq_true e
  rw[hT,if_pos e,if_pos e.1]
  generalize ab L q=q1
  have hix:∀{m:Nat},0<(m:Int)→(bif decide (0≤Mod (au L (ab L q1)) m)then decide (Mod (au L (ab L q1)) m<m)else false)=true∧(Mod (au L (ab L q1)) m).toNat<m:=λ{m} hm=>by
   have:=cU (x:=au L (ab L q1)) (show 1≤(m:Int) by omega)
   exact⟨eE this.1 this.2,by omega⟩
  have hno:¬0<(ol.length:Int)→∀i:Nat,ol[i]?=none:=λh i=>List.getElem?_eq_none (by omega)
  unfold NC ixM
  simp only
  refine⟨λs0=>?_,λs0=>⟨λs1=>?_,λs1=>⟨λs2=>?_,λs2=>⟨λs3=>?_,λs3=>⟨λs4=>?_,λs4=>⟨λs5=>?_,λs5=>?_⟩⟩⟩⟩⟩⟩
  ·rw[if_pos (eq_of_beq s0)]
   exact⟨by simp,by omega,rfl⟩
  all_goals
   have s0:¬Mod (au L q1) 7=0:=by simpa using s0
   rw[if_neg s0]
  ·rw[if_pos (eq_of_beq s1)]
   exact⟨by omega,rfl⟩
  all_goals
   have s1:¬Mod (au L q1) 7=1:=by simpa using s1
   rw[if_neg s1]
  ·rw[if_pos (eq_of_beq s2)]
   exact⟨λh=>⟨(hix h).1,(hix h).2,λy hy=>by rw[hy]⟩,λh=>by rw[hno h]⟩
  all_goals
   have s2:¬Mod (au L q1) 7=2:=by simpa using s2
   rw[if_neg s2]
  ·rw[if_pos (eq_of_beq s3)]
   exact⟨λh=>⟨(hix h).1,(hix h).2,λy hy=>by rw[hy]⟩,λh=>by rw[hno h]⟩
  all_goals
   have s3:¬Mod (au L q1) 7=3:=by simpa using s3
   rw[if_neg s3]
  ·rw[if_pos (eq_of_beq s4)]
   exact⟨λh=>⟨(hix h).1,(hix h).2,λy hy=>by rw[hy]⟩,λh=>by rw[hno h]⟩
  all_goals
   have s4:¬Mod (au L q1) 7=4:=by simpa using s4
   rw[if_neg s4]
  ·rw[if_pos (eq_of_beq s5)]
   exact⟨λh=>⟨(hix h).1,(hix h).2,λy hy=>by rw[hy];exact⟨by omega,rfl⟩⟩,λh=>by rw[hno h]⟩
  have s5:¬Mod (au L q1) 7=5:=by simpa using s5
  rw[if_neg s5]
  refine⟨⟨0,rfl,by omega,by simp[ut]⟩,?_⟩
  rintro⟨i,rs⟩ ⟨j,hi,hj,hr⟩
  simp only at hi hr ⊢
  subst hi;subst hr
  refine⟨λf=>⟨by rw[List.length_append,mK,Gl];omega,⟨j+1,by rw[dm (by omega)];omega,by omega,by rw[Df,List.append_assoc]⟩,by rw[dm (by omega)];omega⟩,λf=>?_⟩
  obtain rfl:j=25:=by omega
  rfl
def Nw(L:List Int)(p:Nat)(most:Int)(n:Int)(h:1≤most∧most≤20):HC Tryz.prog:=⟨8,[.k,.k,.k],[.ref 0 0,.int most,.int n],[.box (.agg [.sl 1 (L.map AV.int) false,.int p])],pF ((⟨L,(ay L p most n).2⟩:Tap),(ay L p most n).1),pG ((⟨L,(ay L p most n).2⟩:Tap),(ay L p most n).1),aO.of_okh λok ok2=>have ok:DN L p most n:=⟨ok,ok2 _ (by simp)⟩;(Nv L p most n h ok).elim λI0 h=>h.elim λm0 h=>h.elim λI1 h=>h.elim λm1 h=>h.elim λI2 h=>h.elim λm2 h=>h.elim λI3 h=>h.elim λI4 h=>h.elim λI5 h=>h.elim λm5 h=>dX (sh:=.k) (enc:=pF) (hB:=pG) (a:=(vF L p most n I0 m0 I1 m1 I2 m2 I3 I4 I5 m5).an) h (by kernel_rfl),aq (by kernel_rfl),gc.of (by simp[hcB,dG,AV.belB,allB,fJ,eT,pF,pG,ae (v:=AV.int) (λ_=>rfl),ae (v:=Lnk.v) (λ_=>rfl),ae (v:=Rtr.v) (λ_=>rfl)])⟩
theorem nc{L:List Int}:∀{n:Nat} {i:Int} {out:List Int} {p:Nat},(o6 L n i out p).1.length=out.length+n
 | 0,i,out,p=>rfl
 | n+1,i,out,p=>by
  have hm:=cU (x:=au L p) (show 1≤(out.length:Int)+1 by omega)
  rw[o6,nc,gq _ _ _ (by omega)];omega
def lj(L:List Int)(c:Int)(rs:List Rtr):List Int→Int→List Edg→Nat→(Int×List Edg)×Nat
 | [],id,es,p=>((id,es),p)
 | o::l,id,es,p =>
  if Mod (au L p) 4=0 then lj L c rs l id es (ab L p)
  else if W (id+bf [1,1,1,2,c] (au L (ab L p)))≤256 then(match rs[o.toNat]? with
   | some r=>lj L c rs l (W (id+bf [1,1,1,2,c] (au L (ab L p)))) (es++[⟨r.id,W (id+bf [1,1,1,2,c] (au L (ab L p)))⟩]) (ab L (ab L p))
   | none=>((id,es),p))
  else lj L c rs l (W (id+bf [1,1,1,2,c] (au L (ab L p)))) es (ab L (ab L p))
def pZ(L:List Int)(p:Nat)(g:Tpl):(Int×List Edg)×Nat:=lj L (W (d7 L (ab L p)-1)) g.rs (fk L g.rs.length (ab L (ab L p))).1 0 [] (fk L g.rs.length (ab L (ab L p))).2
def plaS(L:List Int)(p:Nat)(sub len:Int)(q:Int×List Edg):Pln×Nat:=
 if Mod (au L p) 5=0 then(⟨ei L (ab L p),len,q.2⟩,ab L (ab L p))
 else if Mod (au L p) 5=1 then(⟨sub,bf [0,8,24,64,128] (au L (ab L p)),q.2⟩,ab L (ab L p))
 else if Mod (au L p) 5=2 then(⟨sub,len,q.2++[⟨bf [0,1,99,100] (au L (ab L p)),bf [0,1,256,257] (au L (ab L (ab L p)))⟩]⟩,ab L (ab L (ab L p)))
 else if Mod (au L p) 5=3 then(match q.2[0]? with
  | some y=>(⟨sub,len,q.2.set 0 ⟨y.router,ei L (ab L p)⟩⟩,ab L (ab L p))
  | none=>(⟨sub,len,q.2⟩,ab L p))
 else(⟨sub,len,q.2++[⟨50,W (q.1+1)⟩]⟩,ab L p)
def mR(L:List Int)(p:Nat)(g:Tpl)(n:Int):Pln×Nat:=
 if 0<n∧fI L (pZ L p g).2 n=true then plaS L (ab L (pZ L p g).2) (Mod (au L p) 3) (d7 L (ab L p)) (pZ L p g).1
 else(⟨Mod (au L p) 3,d7 L (ab L p),(pZ L p g).1.2⟩,if 0<n then ab L (pZ L p g).2 else(pZ L p g).2)
def EM(L:List Int)(p:Nat)(g:Tpl)(n:Int):=okL [.ref 0 0,.agg [.sl 2 (g.rs.map Rtr.v) false,.sl 5 (g.ls.map Lnk.v) false],.int n]∧(.box (.agg [.sl 1 (L.map AV.int) false,.int p]):Blk).ok
def J3(L:List Int)(p:Nat)(g:Tpl)(n:Int)(t0:Int×Nat×Int×List Edg):NF:=⟨[(0,.k,.ref 0 0),(2,.k,.int n),(4,.k,.ref 1 0),(6,.k,.ref 2 0),(7,.k,.ref 3 0),(8,.k,.int t0.2.2.1),(9,.k,.sl 1 (((fk L ((g.rs.map Rtr.v).length:Int) (ab L (ab L p))).1).map AV.int) false),(10,.k,.int t0.1)],[.box (.agg [.sl 1 (L.map AV.int) false,.int t0.2.1]),.box (.agg [.sl 2 (g.rs.map Rtr.v) false,.sl 5 (g.ls.map Lnk.v) false]),.box (.agg [.int 0,.int 0,.sl 0 [] true]),.box (.agg [.int (Mod (au L p) 3),.int (d7 L (ab L p)),.vec 4]),.vec 2 (t0.2.2.2.map Edg.v) (ae (λ_=>rfl) t0.2.2.2)]⟩
def J2(L:List Int)(p:Nat)(t0:Int×Nat×Int×List Edg)(t1:Bool×Nat):NF:=⟨[(0,.k,.ref 0 0),(6,.k,.ref 1 0),(7,.k,.ref 2 0),(8,.k,.int t0.2.2.1),(62,.k,.bool t1.1)],[.box (.agg [.sl 1 (L.map AV.int) false,.int t1.2]),.box (.agg [.int 0,.int 0,.sl 0 [] true]),.box (.agg [.int (Mod (au L p) 3),.int (d7 L (ab L p)),.vec 3]),.vec 2 (t0.2.2.2.map Edg.v) (ae (λ_=>rfl) t0.2.2.2)]⟩
@[reducible] def EL:Nat→Type
 | 0=>Int×Nat×Int×List Edg
 | 1=>Bool×Nat
 | _=>Unit
def qa(r:Tap×Pln):AV:=.agg [.int r.2.sub,.int r.2.len,.sl 2 (r.2.es.map Edg.v) false]
def qc(r:Tap×Pln):List (Option Blk):=[some (.box (.agg [.sl 1 (r.1.L.map AV.int) false,.int r.1.p]))]
def w8(L:List Int)(p:Nat)(g:Tpl)(n:Int)(I0:(Int×Nat×Int×List Edg)→Prop)(m0:(Int×Nat×Int×List Edg)→Nat)(I1:Int×Nat×Int×List Edg→(Bool×Nat)→Prop):Ax Tryz.prog EL (Tap×Pln):=
 (.callH [0] (bR L p 3) 49
(.callH [0] (ON L (ab L p)) 81
(.req 225 (((g.rs.map Rtr.v).length:Int)≤1000) λh1 =>
(.callH [0] (Oo L (ab L (ab L p)) ((g.rs.map Rtr.v).length:Int) h1) 225
(.cmdL (.nilB 113 2 2) (.loop 0 (J3 L p g n) I0 m0 (0,(fk L ((g.rs.map Rtr.v).length:Int) (ab L (ab L p))).2,0,[]) [0,1,17,113,273] λ(t0:Int×Nat×Int×List Edg) b0 =>
(.br 69 (decide (t0.1<((((fk L ((g.rs.map Rtr.v).length:Int) (ab L (ab L p))).1).map AV.int).length:Int))) (.callH [0] (bR L t0.2.1 4) 85
(.br 117 ((Mod (au L t0.2.1) 4)==0) (.bk 0 b0 (W (t0.1+1),ab L t0.2.1,t0.2.2.1,t0.2.2.2) [0,1,2,3,4])
(.req 213 ([1,1,1,2,W ((d7 L (ab L p))-1)]≠[]) λh2 =>
(.callH [0] (iB L (ab L t0.2.1) [1,1,1,2,W ((d7 L (ab L p))-1)] h2) 213
(.br 293 (decide ((W (t0.2.2.1+(bf [1,1,1,2,W ((d7 L (ab L p))-1)] (au L (ab L t0.2.1)))))≤256)) (.elI 389 AV.int ((fk L ((g.rs.map Rtr.v).length:Int) (ab L (ab L p))).1) t0.1 λx3 =>
(.elI 421 Rtr.v g.rs x3 λx4 =>
(.apX 517 Edg.v t0.2.2.2 [(⟨x4.id,W (t0.2.2.1+(bf [1,1,1,2,W ((d7 L (ab L p))-1)] (au L (ab L t0.2.1))))⟩:Edg)] (t0.2.2.2.length+1)
(.bk 0 b0 (W (t0.1+1),ab L (ab L t0.2.1),W (t0.2.2.1+(bf [1,1,1,2,W ((d7 L (ab L p))-1)] (au L (ab L t0.2.1)))),t0.2.2.2++[(⟨x4.id,W (t0.2.2.1+(bf [1,1,1,2,W ((d7 L (ab L p))-1)] (au L (ab L t0.2.1))))⟩:Edg)]) [0,1,2,3,517]))))
(.bk 0 b0 (W (t0.1+1),ab L (ab L t0.2.1),W (t0.2.2.1+(bf [1,1,1,2,W ((d7 L (ab L p))-1)] (au L (ab L t0.2.1)))),t0.2.2.2) [0,1,2,3,4]))))))
(.pass (.join 1 (J2 L p t0) (λ(t1:Bool×Nat)=>I1 t0 t1) (λb1=>(.br 117 (decide (0<n)) (.callH [0] (lm L t0.2.1 n) 149
(.bk 1 b1 (fI L t0.2.1 n,ab L t0.2.1) [0,2,3,4]))
(.bk 1 b1 (false,t0.2.1) [0,2,3,4]))) λ(t1:Bool×Nat) =>
(.br 4 t1.1 (.callH [0] (bR L t1.2 5) 20
(.br 68 ((Mod (au L t1.2) 5)==0) (.callH [0] (kX L (ab L t1.2)) 84
(.fz 3 Edg.v t0.2.2.2 (λ_=>rfl) (.retH ((⟨L,ab L (ab L t1.2)⟩:Tap),(⟨ei L (ab L t1.2),d7 L (ab L p),t0.2.2.2⟩:Pln)) ⟨[(6,.k,.ref 1 0)],[.box (.agg [.sl 1 (L.map AV.int) false,.int (((ab L (ab L t1.2)):Nat):Int)]),.box (.agg [.int (ei L (ab L t1.2)),.int (d7 L (ab L p)),.sl 2 (t0.2.2.2.map Edg.v) false])]⟩ [0,1])))
(.br 100 ((Mod (au L t1.2) 5)==1) (.req 132 ([0,8,24,64,128]≠[]) λh5 =>
(.callH [0] (iB L (ab L t1.2) [0,8,24,64,128] h5) 132
(.fz 3 Edg.v t0.2.2.2 (λ_=>rfl) (.retH ((⟨L,ab L (ab L t1.2)⟩:Tap),(⟨Mod (au L p) 3,bf [0,8,24,64,128] (au L (ab L t1.2)),t0.2.2.2⟩:Pln)) ⟨[(6,.k,.ref 1 0)],[.box (.agg [.sl 1 (L.map AV.int) false,.int (((ab L (ab L t1.2)):Nat):Int)]),.box (.agg [.int (Mod (au L p) 3),.int (bf [0,8,24,64,128] (au L (ab L t1.2))),.sl 2 (t0.2.2.2.map Edg.v) false])]⟩ [0,1]))))
(.br 132 ((Mod (au L t1.2) 5)==2) (.req 196 ([0,1,99,100]≠[]) λh6 =>
(.callH [0] (iB L (ab L t1.2) [0,1,99,100] h6) 196
(.req 244 ([0,1,256,257]≠[]) λh7 =>
(.callH [0] (iB L (ab L (ab L t1.2)) [0,1,256,257] h7) 244
(.apX 292 Edg.v t0.2.2.2 [(⟨bf [0,1,99,100] (au L (ab L t1.2)),bf [0,1,256,257] (au L (ab L (ab L t1.2)))⟩:Edg)] (t0.2.2.2.length+1)
(.fz 292 Edg.v (t0.2.2.2++[(⟨bf [0,1,99,100] (au L (ab L t1.2)),bf [0,1,256,257] (au L (ab L (ab L t1.2)))⟩:Edg)]) (λ_=>rfl) (.retH ((⟨L,ab L (ab L (ab L t1.2))⟩:Tap),(⟨Mod (au L p) 3,d7 L (ab L p),t0.2.2.2++[(⟨bf [0,1,99,100] (au L (ab L t1.2)),bf [0,1,256,257] (au L (ab L (ab L t1.2)))⟩:Edg)]⟩:Pln)) ⟨[(6,.k,.ref 1 0)],[.box (.agg [.sl 1 (L.map AV.int) false,.int (((ab L (ab L (ab L t1.2))):Nat):Int)]),.box (.agg [.int (Mod (au L p) 3),.int (d7 L (ab L p)),.sl 2 ((t0.2.2.2++[(⟨bf [0,1,99,100] (au L (ab L t1.2)),bf [0,1,256,257] (au L (ab L (ab L t1.2)))⟩:Edg)]).map Edg.v) false])]⟩ [0,1])))))))
(.br 164 ((Mod (au L t1.2) 5)==3) (.br 228 (decide (0<((t0.2.2.2.map Edg.v).length:Int))) (.callH [0] (kX L (ab L t1.2)) 276
(.say (ck (decide (0<((t0.2.2.2.map Edg.v).length:Int)))) (.stX 324 Edg.v t0.2.2.2 0 (λy8=>(⟨y8.router,ei L (ab L t1.2)⟩:Edg)) λy8 =>
(.fz 3 Edg.v (t0.2.2.2.set 0 (⟨y8.router,ei L (ab L t1.2)⟩:Edg)) (λ_=>rfl) (.retH ((⟨L,ab L (ab L t1.2)⟩:Tap),(⟨Mod (au L p) 3,d7 L (ab L p),t0.2.2.2.set 0 (⟨y8.router,ei L (ab L t1.2)⟩:Edg)⟩:Pln)) ⟨[(6,.k,.ref 1 0)],[.box (.agg [.sl 1 (L.map AV.int) false,.int (((ab L (ab L t1.2)):Nat):Int)]),.box (.agg [.int (Mod (au L p) 3),.int (d7 L (ab L p)),.sl 2 ((t0.2.2.2.set 0 (⟨y8.router,ei L (ab L t1.2)⟩:Edg)).map Edg.v) false])]⟩ [0,1])))))
(.fz 3 Edg.v t0.2.2.2 (λ_=>rfl) (.retH ((⟨L,ab L t1.2⟩:Tap),(⟨Mod (au L p) 3,d7 L (ab L p),t0.2.2.2⟩:Pln)) ⟨[(6,.k,.ref 1 0)],[.box (.agg [.sl 1 (L.map AV.int) false,.int (ab L t1.2)]),.box (.agg [.int (Mod (au L p) 3),.int (d7 L (ab L p)),.sl 2 (t0.2.2.2.map Edg.v) false])]⟩ [0,1])))
(.apX 260 Edg.v t0.2.2.2 [(⟨50,W (t0.2.2.1+1)⟩:Edg)] (t0.2.2.2.length+1)
(.fz 260 Edg.v (t0.2.2.2++[(⟨50,W (t0.2.2.1+1)⟩:Edg)]) (λ_=>rfl) (.retH ((⟨L,ab L t1.2⟩:Tap),(⟨Mod (au L p) 3,d7 L (ab L p),t0.2.2.2++[(⟨50,W (t0.2.2.1+1)⟩:Edg)]⟩:Pln)) ⟨[(6,.k,.ref 1 0)],[.box (.agg [.sl 1 (L.map AV.int) false,.int (ab L t1.2)]),.box (.agg [.int (Mod (au L p) 3),.int (d7 L (ab L p)),.sl 2 ((t0.2.2.2++[(⟨50,W (t0.2.2.1+1)⟩:Edg)]).map Edg.v) false])]⟩ [0,1]))))))))
(.fz 3 Edg.v t0.2.2.2 (λ_=>rfl) (.retH ((⟨L,t1.2⟩:Tap),(⟨Mod (au L p) 3,d7 L (ab L p),t0.2.2.2⟩:Pln)) ⟨[(6,.k,.ref 1 0)],[.box (.agg [.sl 1 (L.map AV.int) false,.int t1.2]),.box (.agg [.int (Mod (au L p) 3),.int (d7 L (ab L p)),.sl 2 (t0.2.2.2.map Edg.v) false])]⟩ [0,1]))))))))))))
def Ar(L:List Int)(p:Nat)(g:Tpl)(n:Int)(I0:(Int×Nat×Int×List Edg)→Prop)(m0:(Int×Nat×Int×List Edg)→Nat)(I1:Int×Nat×Int×List Edg→(Bool×Nat)→Prop)(r0:Tap×Pln):=(w8 L p g n I0 m0 I1).vc qa qc r0
theorem Ob(L:List Int)(p:Nat)(g:Tpl)(n:Int)(h:g.rs.length≤100)(ok:EM L p g n):∃I0 m0 I1,Ar L p g n I0 m0 I1 ((⟨L,(mR L p g n).2⟩:Tap),(mR L p g n).1):=by
 refine⟨λs=>∃j:Nat,s.1=j∧j≤(fk L g.rs.length (ab L (ab L p))).1.length∧s.2.2.2.length≤j∧lj L (W (d7 L (ab L p)-1)) g.rs ((fk L g.rs.length (ab L (ab L p))).1.drop j) s.2.2.1 s.2.2.2 s.2.1=pZ L p g,
  λs=>(fk L g.rs.length (ab L (ab L p))).1.length-s.1.toNat,λs b=>b=(decide (0<n∧fI L s.2.1 n=true),if 0<n then ab L s.2.1 else s.2.1),?_⟩
 dsimp only[Ar,w8,EL,Ax.vp,Ax.vc];simp only[vcU,rfU,List.length_map]
 obtain⟨f1,f2⟩:=nb (L:=L) (n:=(g.rs.length:Int)) (p:=ab L (ab L p)) (by omega)
 have f3:(fk L (g.rs.length:Int) (ab L (ab L p))).1.length=g.rs.length:=by
  unfold fk
  rw[nc];simp
 refine⟨by omega,⟨0,rfl,Nat.zero_le _,by simp,rfl⟩,?_⟩
 unfold mR
 generalize pZ L p g=R
 generalize (fk L (g.rs.length:Int) (ab L (ab L p))).1=o at f1 f2 f3 ⊢
 rintro⟨i,q,id,es⟩ ⟨j,hi,hj,hle,hr⟩
 simp only at hi hle hr ⊢
 subst hi
 refine⟨λc=>?_,λc=>?_⟩
 ·have hx:=List.getElem?_eq_getElem (show j<o.length by omega)
  have hd:o.drop j=o[j]'(by omega)::o.drop (j+1):=List.drop_eq_getElem_cons (by omega)
  have hm:=f2 (o[j]'(by omega)) (List.getElem_mem _)
  generalize o[j]'(by omega)=x at hx hd hm
  rw[hd,lj]at hr
  rw[bM (n:=o.length) (by omega) (by omega)]
  refine⟨λe=>?_,λe=>⟨by simp,λe2=>?_,λe2=>?_⟩⟩
  ·rw[if_pos (eq_of_beq e)]at hr
   exact⟨⟨j+1,rfl,by omega,by omega,hr⟩,by omega⟩
  ·rw[if_neg (by simpa using e),if_pos e2]at hr
   refine⟨by omega,c,λx3 h3=>?_⟩
   rw[Int.toNat_natCast,hx]at h3;cases h3
   refine⟨hm.1,hm.2,λr h4=>?_⟩
   rw[h4]at hr
   exact⟨by omega,⟨j+1,rfl,by omega,by simp;omega,hr⟩,by omega⟩
  ·rw[if_neg (by simpa using e),if_neg e2]at hr
   exact⟨⟨j+1,rfl,by omega,by omega,hr⟩,by omega⟩
 ·have e1:o.drop j=[]:=List.drop_eq_nil_of_le (by omega)
  rw[e1,lj]at hr
  rw[←hr]
  have hle2:es.length≤1000:=by omega
  refine⟨⟨λc2=>?_,λc2=>?_⟩,?_⟩
  ·rw[if_pos c2]
   refine Prod.ext ?_ rfl
   rw[Bool.eq_iff_iff];simp[c2]
  ·rw[if_neg c2]
   refine Prod.ext ?_ rfl
   rw[Bool.eq_iff_iff];simp[c2]
  rintro _ rfl
  simp only
  refine⟨λe=>?_,λe=>by rw[if_neg (of_decide_eq_false e)]⟩
  have e:=of_decide_eq_true e
  rw[if_pos e,if_pos e.1]
  generalize ab L q=q1
  unfold plaS
  simp only
  refine⟨λs0=>by rw[if_pos (eq_of_beq s0)],λs0=>?_⟩
  rw[if_neg (by simpa using s0)]
  refine⟨λs1=>by rw[if_pos (eq_of_beq s1)];exact⟨by simp,rfl⟩,λs1=>?_⟩
  rw[if_neg (by simpa using s1)]
  refine⟨λs2=>by rw[if_pos (eq_of_beq s2)];exact⟨by simp,by simp,by omega,rfl⟩,λs2=>?_⟩
  rw[if_neg (by simpa using s2)]
  refine⟨λs3=>?_,λs3=>?_⟩
  ·rw[if_pos (eq_of_beq s3)]
   refine⟨λh=>⟨h,by omega,λy hy=>by rw[hy]⟩,λh=>by rw[List.getElem?_eq_none (by omega)]⟩
  ·rw[if_neg (by simpa using s3)]
   exact⟨by omega,rfl⟩
def Oc(L:List Int)(p:Nat)(g:Tpl)(n:Int)(h:g.rs.length≤100):HC Tryz.prog:=⟨17,[.k,(.a [(.s 2),(.s 5)]),.k],[.ref 0 0,.agg [.sl 2 (g.rs.map Rtr.v) false,.sl 5 (g.ls.map Lnk.v) false],.int n],[.box (.agg [.sl 1 (L.map AV.int) false,.int p])],qa ((⟨L,(mR L p g n).2⟩:Tap),(mR L p g n).1),qc ((⟨L,(mR L p g n).2⟩:Tap),(mR L p g n).1),aO.of_okh λok ok2=>have ok:EM L p g n:=⟨ok,ok2 _ (by simp)⟩;(Ob L p g n h ok).elim λI0 h=>h.elim λm0 h=>h.elim λI1 h=>dX (sh:=(.a [.k,.k,(.s 2)])) (enc:=qa) (hB:=qc) (a:=(w8 L p g n I0 m0 I1).an) h (by kernel_rfl),aq (by kernel_rfl),gc.of (by simp[hcB,dG,AV.belB,allB,fJ,eT,qa,qc,ae (v:=AV.int) (λ_=>rfl),ae (v:=Lnk.v) (λ_=>rfl),ae (v:=Rtr.v) (λ_=>rfl)])⟩
def od(t:Tpl)(r:Int):Bool:=(aD t==0) && (match t.rs.find? (isR r)with
 | some x=>x.cap
 | none=>false)
def GG(t:Tpl)(r:Int):=okL [.agg [.sl 2 (t.rs.map Rtr.v) false,.sl 5 (t.ls.map Lnk.v) false],.int r]
def KZ(t:Tpl)(r:Int)(t0:Int):NF:=⟨[(1,.k,.int r),(2,.k,.ref 0 0),(5,.k,.int t0)],[.box (.agg [.sl 2 (t.rs.map Rtr.v) false,.sl 5 (t.ls.map Lnk.v) false])]⟩
@[reducible] def GE:Nat→Type
 | 0=>Int
 | _=>Unit
def yl(r:Bool):AV:=.bool r
def yk(t:Tpl)(r:Int)(I0:Int→Prop)(m0:Int→Nat):Ax Tryz.prog GE (Bool):=
 (.callP (oj t)
(.br 80 ((aD t) != 0) (.ret (false))
(.loop 0 (KZ t r) I0 m0 ((0):Int) [0] λ(t0:Int) b0 =>
(.br 81 (decide (t0<((t.rs.map Rtr.v).length:Int))) (.elI 129 Rtr.v t.rs t0 λx1 =>
(.br 209 (x1.id==r) (.elI 257 Rtr.v t.rs t0 λx2 =>
(.ret (x2.cap)))
(.bk 0 b0 ((W (t0+1)):Int) [0])))
(.ret (false))))))
def BL(t:Tpl)(r:Int)(I0:Int→Prop)(m0:Int→Nat)(r0:Bool):=(yk t r I0 m0).vp yl r0
theorem PW(t:Tpl)(r:Int)(ok:GG t r):∃I0 m0,BL t r I0 m0 (od t r):=by
 refine⟨λi=>bi t.rs (λx=>isR r x=false) i,λi=>t.rs.length-i.toNat,?_⟩
 simp only[GG,okU,Blk.ok,aL,List.length_map]at ok
 dsimp only[BL,yk,GE,Ax.vp,Ax.vc];simp only[vcU,rfU,List.length_map]
 unfold od
 by_cases hc:aD t=0
 case neg=>exact⟨λ_=>by rw[beq_eq_false_iff_ne.mpr hc];rfl,λh=>by simp[hc]at h⟩
 refine⟨λh=>by simp[hc]at h,λ_=>⟨bi.zero,λi h=>⟨λc=>⟨h.idx,c,λx hx=>⟨λq=>⟨h.idx,c,λy hy=>?_⟩,λq=>h.step (by omega) hx q⟩⟩,λc=>?_⟩⟩⟩
 ·rw[hx]at hy;cases hy
  rw[mw h hx q,hc];simp
 ·rw[rp h c,hc];rfl
def GF(t:Tpl)(r:Int):PC Tryz.prog:=⟨98,[(.a [(.s 2),(.s 5)]),.k],[.agg [.sl 2 (t.rs.map Rtr.v) false,.sl 5 (t.ls.map Lnk.v) false],.int r],yl (od t r),ax.of_ok λok=>(PW t r ok).elim λI0 h=>h.elim λm0 h=>aw (sh:=.k) (enc:=yl) (a:=(yk t r I0 m0).an) h (by kernel_rfl) (AV.pureB_ok rfl),aq (by kernel_rfl)⟩
def fY(l:List Int)(n:Int):Nat:=l.findIdx λx=>!decide (x<n)
def iJ(l:List Int)(n:Int):List Int:=if l[fY l n]?=some n then l else bD l (fY l n) n
def OV(l:List Int)(n:Int):=okL [.sl 1 (l.map AV.int) false,.int n]
def Kt(l:List Int)(n:Int)(t0:Int):NF:=⟨[(0,.k,.sl 1 (l.map AV.int) false),(1,.k,.int n),(5,.k,.int t0)],[]⟩
def Ks(l:List Int)(n:Int)(t0:Int)(t1:Bool):NF:=⟨[(0,.k,.sl 1 (l.map AV.int) false),(1,.k,.int n),(5,.k,.int t0),(18,.k,.bool t1)],[]⟩
def Kr(l:List Int)(n:Int)(t0:Int)(t2:Bool):NF:=⟨[(0,.k,.sl 1 (l.map AV.int) false),(1,.k,.int n),(5,.k,.int t0),(32,.k,.bool t2)],[]⟩
@[reducible] def FH:Nat→Type
 | 0=>Int
 | 1=>Bool
 | 2=>Bool
 | _=>Unit
def xn(r:List Int):AV:=.sl 1 (r.map AV.int) false
def xm(l:List Int)(n:Int)(I0:Int→Prop)(m0:Int→Nat)(I1:Int→Bool→Prop)(I2:Int→Bool→Bool→Prop):Ax Tryz.prog FH ((List Int)):=
 (.loop 0 (Kt l n) I0 m0 ((0):Int) [] λ(t0:Int) b0 =>
(.pass (.join 1 (Ks l n t0) (λ(t1:Bool)=>I1 t0 t1) (λb1=>(.br 80 (decide (t0<((l.map AV.int).length:Int))) (.elI 112 AV.int l t0 λx1 =>
(.bk 1 b1 ((decide (x1<n)):Bool) []))
(.bk 1 b1 ((false):Bool) []))) λ(t1:Bool) =>
(.br 0 t1 (.bk 0 b0 ((W (t0+1)):Int) [])
(.pass (.join 2 (Kr l n t0) (λ(t2:Bool)=>I2 t0 t1 t2) (λb2=>(.br 80 (decide (t0<((l.map AV.int).length:Int))) (.elI 112 AV.int l t0 λx2 =>
(.bk 2 b2 ((x2==n):Bool) []))
(.bk 2 b2 ((false):Bool) []))) λ(t2:Bool) =>
(.br 0 t2 (.ret (l))
(.say (λR=>Rf (α:=List AV) (l.map AV.int) (ck (gI l.length 0 t0 (l.length:Int))
R)) (.sub 64 AV.int l false
(.apX 80 AV.int [] ((l.take t0.toNat).drop 0) (0+((l.take t0.toNat).drop 0).length)
(.apX 160 AV.int ((l.take t0.toNat).drop 0) [n] (((l.take t0.toNat).drop 0).length+1)
(.say (λR=>Rf (α:=List AV) (l.map AV.int) (ck (gI l.length t0 (l.length:Int) (l.length:Int))
R)) (.sub 240 AV.int l false
(.apX 256 AV.int (((l.take t0.toNat).drop 0)++[n]) ((l.take ((l.length:Int).toNat)).drop t0.toNat) ((((l.take t0.toNat).drop 0)++[n]).length+((l.take ((l.length:Int).toNat)).drop t0.toNat).length)
(.fz 256 AV.int ((((l.take t0.toNat).drop 0)++[n])++((l.take ((l.length:Int).toNat)).drop t0.toNat)) (λ_=>rfl) (.ret ((((l.take t0.toNat).drop 0)++[n])++((l.take ((l.length:Int).toNat)).drop t0.toNat))))))))))))))))))
def Bi(l:List Int)(n:Int)(I0:Int→Prop)(m0:Int→Nat)(I1:Int→Bool→Prop)(I2:Int→Bool→Bool→Prop)(r0:List Int):=(xm l n I0 m0 I1 I2).vp xn r0
theorem OT(l:List Int)(n:Int)(h:l.length≤100000)(ok:OV l n):∃I0 m0 I1 I2,Bi l n I0 m0 I1 I2 (iJ l n):=by
 refine⟨λi=>bi l (λx=>x<n) i,λi=>l.length-i.toNat,λi b=>b=true↔∃x,l[i.toNat]?=some x∧x<n,λi _ b=>b=true↔l[i.toNat]?=some n,?_⟩
 dsimp only[Bi,xm,FH,Ax.vp,Ax.vc];simp only[vcU,rfU,List.length_map]
 refine⟨bi.zero,λt hI=>?_⟩
 obtain⟨j,rfl,hj,ha⟩:=hI
 have hI:bi l (λx=>x<n) ((j:Nat):Int):=⟨j,rfl,hj,ha⟩
 simp only[Int.toNat_natCast]
 refine⟨⟨λc=>⟨by omega,c,λx hx=>⟨λq=>⟨x,hx,q⟩,λ⟨y,hy,q⟩=>by rw[hx]at hy;cases hy;exact q⟩⟩,λc=>⟨nofun,λ⟨y,hy,_⟩=>by have:=ap hy;omega⟩⟩,λb hb=>⟨λe=>?_,λe=>?_⟩⟩
 ·obtain⟨x,hx,q⟩:=hb.mp e
  exact hI.step (by omega) (by rw[Int.toNat_natCast];exact hx) q
 ·have hp:fY l n=j:=by
   unfold fY
   by_cases ee:j=l.length
   ·subst ee
    rw[List.take_length]at ha
    rw[List.findIdx_eq_length]
    intro y hy
    simp[ha y hy]
   ·rw[List.findIdx_eq (by omega)]
    refine⟨?_,λi hi=>?_⟩
    ·have:¬l[j]'(by omega)<n:=λq=>by
      have:=hb.mpr ⟨_,List.getElem?_eq_getElem (by omega),q⟩
      rw[e]at this;cases this
     simpa using this
    ·have:=ha (l[i]'(by omega)) (List.mem_take_iff_getElem.mpr ⟨i,by omega,rfl⟩)
     simp[this]
  refine⟨⟨λc=>⟨by omega,c,λx hx=>?_⟩,λc=>⟨nofun,λq=>by have:=ap q;omega⟩⟩,λb2 hb2=>⟨λe2=>?_,λe2=>?_⟩⟩
  ·rw[hx,beq_iff_eq];exact⟨λq=>by rw[q],λq=>Option.some.inj q⟩
  ·rw[iJ,hp,if_pos (hb2.mp e2)]
  ·have h2:¬l[j]?=some n:=λq=>by rw[hb2.mpr q]at e2;cases e2
   have hi:(((l.take j).drop 0)++[n])++((l.take l.length).drop j)=bD l j n:=by have:=l4 (l:=l) (k:=j) (x:=n);rwa [Int.toNat_natCast]at this
   rw[hi,iJ,hp,if_neg h2]
   exact⟨by simp[gI];omega,by simp;omega,by simp;omega,by simp[gI];omega,by simp;omega,rfl⟩
def OU(l:List Int)(n:Int)(h:l.length≤100000):PC Tryz.prog:=⟨87,[(.s 1),.k],[.sl 1 (l.map AV.int) false,.int n],xn (iJ l n),ax.of_ok λok=>(OT l n h ok).elim λI0 h=>h.elim λm0 h=>h.elim λI1 h=>h.elim λI2 h=>aw (sh:=(.s 1)) (enc:=xn) (a:=(xm l n I0 m0 I1 I2).an) h (by kernel_rfl) (AV.pureB_ok rfl),aq (by kernel_rfl)⟩
theorem FG(l:List Int)(n:Int):(iJ l n).length≤l.length+1:=by
 unfold iJ
 split
 ·omega
 ·rw[gq _ _ _ (show fY l n≤l.length from List.findIdx_le_length)];exact Nat.le_refl _
def iK(t:Tpl)(s:List Int×List Int)(q:Int):List Int×List Int:=if od t q=true then(s.1,iJ s.2 q)else if q∈s.1 then s else(s.1++[q],s.2)
def uf(t:Tpl)(d:List Int):Nat→Nat→List Int→List Int→List Int
 | 0,_,_,out=>out
 | f+1,i,seen,out=>match seen[i]? with
  | some x=>uf t d f (i+1) ((eA t d x).foldl (iK t) (seen,out)).1 ((eA t d x).foldl (iK t) (seen,out)).2
  | none=>out
def eV(t:Tpl)(f g:Int):List Int:=if hs5 t f=false∨hs5 t g=false∨f=g then []else uf t (to6 t g) 25 0 [f] []
def Pf(t:Tpl)(from_:Int)(to_:Int):=okL [.agg [.sl 2 (t.rs.map Rtr.v) false,.sl 5 (t.ls.map Lnk.v) false],.int from_,.int to_]
def Ky(t:Tpl)(from_:Int)(to_:Int)(t0:Bool):NF:=⟨[(1,.k,.int from_),(2,.k,.int to_),(3,.k,.ref 0 0),(27,.k,.bool t0)],[.box (.agg [.sl 2 (t.rs.map Rtr.v) false,.sl 5 (t.ls.map Lnk.v) false])]⟩
def Kx(t:Tpl)(to_:Int)(t1:List Int×Int×List Int):NF:=⟨[(3,.k,.ref 0 0),(7,.k,.sl 1 ((to6 t to_).map AV.int) false),(8,.k,.vec 1),(9,(.s 1),.sl 1 (t1.1.map AV.int) false),(10,.k,.int t1.2.1)],[.box (.agg [.sl 2 (t.rs.map Rtr.v) false,.sl 5 (t.ls.map Lnk.v) false]),.vec 1 (t1.2.2.map AV.int) (ae (λ_=>rfl) t1.2.2)]⟩
def Kw(t:Tpl)(to_:Int)(t1:List Int×Int×List Int)(x2:Int)(t2:List Int×Int×List Int):NF:=⟨[(3,.k,.ref 0 0),(7,.k,.sl 1 ((to6 t to_).map AV.int) false),(8,.k,.vec 1),(9,(.s 1),.sl 1 (t2.1.map AV.int) false),(10,.k,.int t1.2.1),(11,.k,.sl 1 ((eA t (to6 t to_) x2).map AV.int) false),(12,.k,.int t2.2.1)],[.box (.agg [.sl 2 (t.rs.map Rtr.v) false,.sl 5 (t.ls.map Lnk.v) false]),.vec 1 (t2.2.2.map AV.int) (ae (λ_=>rfl) t2.2.2)]⟩
@[reducible] def FU:Nat→Type
 | 0=>Bool
 | 1=>(List Int)×Int×List Int
 | 2=>(List Int)×Int×List Int
 | _=>Unit
def xx(r:List Int):AV:=.sl 1 (r.map AV.int) false
def xw(t:Tpl)(from_:Int)(to_:Int)(I0:Bool→Prop)(I1:Bool→(List Int×Int×List Int)→Prop)(m1:Bool→(List Int×Int×List Int)→Nat)(I2:Bool→(List Int)×Int×List Int→Int→(List Int×Int×List Int)→Prop)(m2:Bool→(List Int)×Int×List Int→Int→(List Int×Int×List Int)→Nat):Ax Tryz.prog FU ((List Int)):=
 (.pass (.pass (.join 0 (Ky t from_ to_) (λ(t0:Bool)=>I0 t0) (λb0=>(.callP (MR t from_)
(.br 112 (!(hs5 t from_)) (.bk 0 b0 ((true):Bool) [0])
(.callP (MR t to_)
(.br 208 (!(hs5 t to_)) (.bk 0 b0 ((true):Bool) [0])
(.bk 0 b0 ((from_==to_):Bool) [0])))))) λ(t0:Bool) =>
(.br 1 t0 (.ret ([]))
(.req 33 (aD t=0) λh1 =>
(.callP (to6_c t to_ h1)
(.own 81 (.loop 1 (Kx t to_) (I1 t0) (m1 t0) ([],0,[from_]) [0,81] λ(t1:List Int×Int×List Int) b1 =>
(.br 66 (decide (t1.2.1<((t1.2.2.map AV.int).length:Int))) (.elJ 146 AV.int t1.2.2 t1.2.1 λx2 =>
(.req 162 (okD t (to6 t to_)) λh3 =>
(.callP (N6 t (to6 t to_) x2 h3)
(.loop 2 (Kw t to_ t1 x2) (I2 t0 t1 x2) (m2 t0 t1 x2) (t1.1,0,t1.2.2) [0,1] λ(t2:List Int×Int×List Int) b2 =>
(.br 66 (decide (t2.2.1<(((eA t (to6 t to_) x2).map AV.int).length:Int))) (.elI 114 AV.int (eA t (to6 t to_) x2) t2.2.1 λx4 =>
(.callP (GF t x4)
(.br 162 (od t x4) (.elI 210 AV.int (eA t (to6 t to_) x2) t2.2.1 λx5 =>
(.req 242 (t2.1.length≤100000) λh6 =>
(.callP (OU t2.1 x5 h6)
(.bk 2 b2 (iJ t2.1 x5,W (t2.2.1+1),t2.2.2) [0,1]))))
(.elI 210 AV.int (eA t (to6 t to_) x2) t2.2.1 λx7 =>
(.callP (rc t2.2.2 x7)
(.say (ck (dB [(t2.2.2.map AV.int)])) (.br 274 (!(decide (x7∈t2.2.2))) (.elI 322 AV.int (eA t (to6 t to_) x2) t2.2.1 λx8 =>
(.own 354 (.apX 370 AV.int t2.2.2 [x8] (t2.2.2.length+1)
(.bk 2 b2 (t2.1,W (t2.2.1+1),t2.2.2++[x8]) [0,370]))))
(.bk 2 b2 (t2.1,W (t2.2.1+1),t2.2.2) [0,1]))))))))
(.bk 1 b1 (t2.1,W (t1.2.1+1),t2.2.2) [0,1]))))))
(.ret (t1.1)))))))))))
def Bp(t:Tpl)(from_:Int)(to_:Int)(I0:Bool→Prop)(I1:Bool→(List Int×Int×List Int)→Prop)(m1:Bool→(List Int×Int×List Int)→Nat)(I2:Bool→(List Int)×Int×List Int→Int→(List Int×Int×List Int)→Prop)(m2:Bool→(List Int)×Int×List Int→Int→(List Int×Int×List Int)→Nat)(r0:List Int):=(xw t from_ to_ I0 I1 m1 I2 m2).vp xx r0
structure o0 (t:Tpl) (b:Nat) (s:List Int×List Int):Prop where
  nd:s.1.Nodup
  ha:∀x∈s.1,aG t x=true
  le:s.2.length≤b
theorem o0.len{t:Tpl}{b:Nat}{s:List Int×List Int}(h:o0 t b s):s.1.length≤t.rs.length:=by
 have:=List.Nodup.length_le_of_subset h.nd (l₂:=t.rs.map (·.id)) λx hx=>bC.mpr (h.ha x hx)
 rwa [List.length_map]at this
theorem o0.one{t:Tpl}{b:Nat}{s:List Int×List Int}(h:o0 t b s){q:Int}(hq:aG t q=true):o0 t (b+1) (iK t s q):=by
 unfold iK
 split
 ·exact⟨h.nd,h.ha,Nat.le_trans (FG _ _) (by have:=h.le;omega)⟩
 ·split
  ·exact⟨h.nd,h.ha,by have:=h.le;omega⟩
  ·rename_i hn
   refine⟨List.nodup_append.mpr ⟨h.nd,by simp,λa ha b hb=>by rw[List.mem_singleton.mp hb];rintro rfl;exact hn ha⟩,λx hx=>?_,by have:=h.le;simp only;omega⟩
   rcases List.mem_append.mp hx with hx|hx
   ·exact h.ha x hx
   ·rw[List.mem_singleton.mp hx];exact hq
theorem o0.fold{t:Tpl}:∀{l:List Int} {b:Nat} {s:List Int×List Int},o0 t b s→(∀q∈l,aG t q=true)→o0 t (b+l.length) (l.foldl (iK t) s)
 | [],b,s,h,_=>h
 | q::l,b,s,h,hs=>by
  have:=o0.fold (l:=l) (h.one (hs q (by simp))) λx hx=>hs x (by simp[hx])
  rw[List.foldl_cons,List.length_cons,show b+(l.length+1)=b+1+l.length by omega]
  exact this
theorem sS{t:Tpl}(hc:aD t=0){g f q:Int}(h:q∈eA t (to6 t g) f):aG t q=true:=by
 obtain⟨_,x,hx,e⟩:=IF hc (Nx hc) h
 exact bZ.mpr ⟨x,hx,e⟩
theorem DW(t:Tpl)(d:List Int)(f:Int):(eA t d f).length≤t.rs.length:=by
 unfold eA;split
 ·simp
 ·exact Nat.le_trans (List.length_filter_le _ _) tD
theorem Pd(t:Tpl)(f g:Int)(ok:Pf t f g):∃I0 I1 m1 I2 m2,Bp t f g I0 I1 m1 I2 m2 (eV t f g):=by
  refine⟨λb=>b=decide (hs5 t f=false∨hs5 t g=false∨f=g),λ_ s=>∃k:Nat,s.2.1=k∧k≤s.2.2.length∧o0 t (30 * k) (s.2.2,s.1)∧uf t (to6 t g) (25-k) k s.2.2 s.1=eV t f g,λ_ s=>25-s.2.1.toNat,
    λ_ s0 x s=>∃j:Nat,s.2.1=j∧j≤(eA t (to6 t g) x).length∧(s.2.2,s.1)=((eA t (to6 t g) x).take j).foldl (iK t) (s0.2.2,s0.1),λ_ _ x s=>(eA t (to6 t g) x).length-s.2.1.toNat,?_⟩
  dsimp only[Bp,xw,FU,Ax.vp,Ax.vc];simp only[vcU,rfU,List.length_map]
  refine ⟨⟨fun c => by have c : hs5 t f = false := by simpa using c
                       simp [c], fun c => ⟨fun d => by have d : hs5 t g = false := by simpa using d
                                                       simp[d],λd=>?_⟩⟩,?_⟩
  · have c:hs5 t f=true:=by simpa using c
    have d:hs5 t g=true:=by simpa using d
    rw[Bool.eq_iff_iff];simp[c,d]
  rintro _ rfl
  refine⟨λc=>by rw[eV,if_pos (of_decide_eq_true c)],λc=>?_⟩
  have c:=of_decide_eq_false c
  have hf:hs5 t f=true:=by
    cases q:hs5 t f
    · exact absurd (.inl q) c
    · rfl
  have hc:=(dq.mp hf).1
  have hR:=(aC hc).nr
  have hD:okD t (to6 t g):=⟨Iy,by omega⟩
  refine⟨hc,⟨0,rfl,by simp,⟨by simp,by simp;exact(dq.mp hf).2,by simp⟩,by rw[eV,if_neg c]⟩,?_⟩
  rintro⟨out,i,seen⟩ ⟨k,hi,hk,hI,hO⟩
  simp only at hi hk hO ⊢
  subst hi
  have hsl:=hI.len
  simp only at hsl
  refine⟨λd=>?_,λd=>?_⟩
  · rw[Int.toNat_natCast]
    refine⟨eE (by omega) d,by omega,λx hx=>⟨hD,⟨0,rfl,by omega,rfl⟩,?_⟩⟩
    have hnl:=DW t (to6 t g) x
    have hnh:=λq (h:q∈eA t (to6 t g) x)=>sS hc h
    have e:25-k=(25-(k+1))+1:=by omega
    rw[e,uf,hx]at hO
    simp only at hO
    generalize eA t (to6 t g) x=n at hnl hnh hO ⊢
    rintro⟨o2,j0,s2⟩ ⟨j,hj0,hj,hs⟩
    simp only at hj0 hs ⊢
    subst hj0
    have hI2:o0 t (30 * k+j) (s2,o2):=by
      have:=hI.fold (l:=n.take j) λq hq=>hnh q (List.mem_of_mem_take hq)
      rw[←hs,List.length_take,Nat.min_eq_left hj]at this
      exact this
    have hle:=hI2.le
    have hsl2:=hI2.len
    simp only at hle hsl2
    refine⟨λd2=>⟨by omega,d2,λy hy=>?_⟩,λd2=>?_⟩
    · have hw:W ((j:Int)+1)=((j+1:Nat):Int):=bM (n:=n.length) (by omega) (by omega)
      rw[hw]
      rw[Int.toNat_natCast]at hy
      have hst:(n.take (j+1)).foldl (iK t) (seen,out)=iK t (s2,o2) y:=by rw[aU hy,List.foldl_append,←hs];rfl
      refine⟨λe1=>⟨by omega,d2,λz hz=>?_⟩,λe1=>⟨by omega,d2,λz hz=>⟨i8 (ae (λ_=>rfl) _),λe2=>⟨by omega,d2,λu hu=>?_⟩,λe2=>?_⟩⟩⟩
      · rw[Int.toNat_natCast,hy]at hz;cases hz
        refine⟨by omega,⟨j+1,rfl,by omega,?_⟩,by omega⟩
        rw[hst,iK,if_pos e1]
      · rw[Int.toNat_natCast,hy]at hz hu;cases hz;cases hu
        refine⟨by omega,⟨j+1,rfl,by omega,?_⟩,by omega⟩
        have e2:¬y∈s2:=by simpa using e2
        rw[hst,iK,if_neg (by rw[e1];simp),if_neg e2]
      · rw[Int.toNat_natCast,hy]at hz;cases hz
        refine⟨⟨j+1,rfl,by omega,?_⟩,by omega⟩
        have e2:y∈s2:=by simpa using e2
        rw[hst,iK,if_neg (by rw[e1];simp),if_pos e2]
    · have hjn:j=n.length:=by omega
      rw[hjn,List.take_length]at hs
      rw[←hs]at hO
      have hw:W ((k:Int)+1)=((k+1:Nat):Int):=bM (n:=25) (by omega) (by omega)
      rw[hw]
      have hpre:seen.length≤s2.length:=by
        have key:∀(l:List Int) (s:List Int×List Int),s.1.length≤(l.foldl (iK t) s).1.length:=λl=>by
          induction l with
          | nil=>intro s;exact Nat.le_refl _
          | cons q l ih =>
            intro s
            refine Nat.le_trans ?_ (ih (iK t s q))
            unfold iK
            split
            · exact Nat.le_refl _
            · split
              · exact Nat.le_refl _
              · simp
        have:=key n (seen,out)
        rw[←hs]at this;exact this
      refine⟨⟨k+1,rfl,by omega,⟨hI2.nd,hI2.ha,by simp only;omega⟩,hO⟩,by omega⟩
  · have e:seen[k]?=none:=List.getElem?_eq_none (by omega)
    have e2:25-k=(25-(k+1))+1:=by omega
    rw[e2,uf,e]at hO
    exact hO
def Pe(t:Tpl)(from_:Int)(to_:Int):PC Tryz.prog:=⟨99,[(.a [(.s 2),(.s 5)]),.k,.k],[.agg [.sl 2 (t.rs.map Rtr.v) false,.sl 5 (t.ls.map Lnk.v) false],.int from_,.int to_],xx (eV t from_ to_),ax.of_ok λok=>(Pd t from_ to_ ok).elim λI0 h=>h.elim λI1 h=>h.elim λm1 h=>h.elim λI2 h=>h.elim λm2 h=>aw (sh:=(.s 1)) (enc:=xx) (a:=(xw t from_ to_ I0 I1 m1 I2 m2).an) h (by kernel_rfl) (AV.pureB_ok rfl),aq (by kernel_rfl)⟩
structure Rw where
  id:Int
  nx:List Int
def Rw.v(x:Rw):AV:=.agg [.int x.id,.sl 1 (x.nx.map AV.int) false]
structure Tbl where
  router:Int
  sub:Int
  len:Int
  rows:List Rw
def Tbl.v(x:Tbl):AV:=.agg [.int x.router,.int x.sub,.int x.len,.sl 2 (x.rows.map Rw.v) false]
def fp(t:Tpl)(r:Int)(e:Edg):Rw:=⟨e.id,if e.router=r then [r]else if od t e.router=true then eV t r e.router else []⟩
def gJ(t:Tpl)(p:Pln)(r:Int):Tbl:=⟨r,p.sub,p.len,p.es.map (fp t r)⟩
def QG(t:Tpl)(p:Pln)(router:Int):=okL [.agg [.sl 2 (t.rs.map Rtr.v) false,.sl 5 (t.ls.map Lnk.v) false],.agg [.int p.sub,.int p.len,.sl 2 (p.es.map Edg.v) false],.int router]
def LS(t:Tpl)(p:Pln)(router:Int)(t0:Int×List Rw):NF:=⟨[(2,.k,.int router),(3,.k,.ref 0 0),(4,.k,.ref 1 0),(6,.k,.ref 2 0),(7,.k,.ref 3 0),(8,.k,.int t0.1)],[.box (.agg [.sl 2 (t.rs.map Rtr.v) false,.sl 5 (t.ls.map Lnk.v) false]),.box (.agg [.int p.sub,.int p.len,.sl 2 (p.es.map Edg.v) false]),.box (.agg [.int 0,.int 0,.int 0,.sl 0 [] true]),.box (.agg [.int router,.int p.sub,.int p.len,.vec 4]),.vec 2 (t0.2.map Rw.v) (ae (λ_=>rfl) t0.2)]⟩
@[reducible] def Hv:Nat→Type
 | 0=>Int×List Rw
 | _=>Unit
def yQ(r:Tbl):AV:=Tbl.v r
def yP(t:Tpl)(p:Pln)(router:Int)(I0:(Int×List Rw)→Prop)(m0:(Int×List Rw)→Nat):Ax Tryz.prog Hv (Tbl):=
 (.cmdL (.nilB 144 3 2) (.loop 0 (LS t p router) I0 m0 (0,[]) [0,16,32,144,192] λ(t0:Int×List Rw) b0 =>
(.br 85 (decide (t0.1<((p.es.map Edg.v).length:Int))) (.elI 133 Edg.v p.es t0.1 λx1 =>
(.elI 277 Edg.v p.es t0.1 λx2 =>
(.br 357 (x2.router==router) (.say (λR=>Idt (t0.2.map Rw.v) (Rf (α:=List AV) [.agg [.int x1.id,.sl 1 [.int router] true]]
(ck (decide ((t0.2.map Rw.v).length+1≤1048576))
R))) (.app 485 (λy:AV=>y) (t0.2.map Rw.v) [.agg [.int x1.id,.sl 1 [.int router] true]]
(.say (λR=>ME (.a [.k,(.s 1)]) Rw.v t0.2 [(⟨x1.id,[router]⟩:Rw)] [.agg [.int x1.id,.sl 1 [.int router] true]] ∧
R) (.cmd (.wkV 485 (.a [.k,(.s 1)]) Rw.v (t0.2++[(⟨x1.id,[router]⟩:Rw)])) (.bk 0 b0 (W (t0.1+1),t0.2++[(⟨x1.id,[router]⟩:Rw)]) [0,1,2,3,485])))))
(.elI 421 Edg.v p.es t0.1 λx3 =>
(.callP (GF t x3.router)
(.br 485 (od t x3.router) (.elI 565 Edg.v p.es t0.1 λx4 =>
(.callP (Pe t router x4.router)
(.apX 725 Rw.v t0.2 [(⟨x1.id,eV t router x4.router⟩:Rw)] (t0.2.length+1)
(.bk 0 b0 (W (t0.1+1),t0.2++[(⟨x1.id,eV t router x4.router⟩:Rw)]) [0,1,2,3,725]))))
(.say (λR=>Idt (t0.2.map Rw.v) (Rf (α:=List AV) [.agg [.int x1.id,.sl 0 [] true]]
(ck (decide ((t0.2.map Rw.v).length+1≤1048576))
R))) (.app 549 (λy:AV=>y) (t0.2.map Rw.v) [.agg [.int x1.id,.sl 0 [] true]]
(.say (λR=>ME (.a [.k,(.s 1)]) Rw.v t0.2 [(⟨x1.id,[]⟩:Rw)] [.agg [.int x1.id,.sl 0 [] true]] ∧
R) (.cmd (.wkV 549 (.a [.k,(.s 1)]) Rw.v (t0.2++[(⟨x1.id,[]⟩:Rw)])) (.bk 0 b0 (W (t0.1+1),t0.2++[(⟨x1.id,[]⟩:Rw)]) [0,1,2,3,549])))))))))))
(.fz 4 Rw.v t0.2 (λ_=>rfl) (.ret ((⟨router,p.sub,p.len,t0.2⟩:Tbl)))))))
def Cf(t:Tpl)(p:Pln)(router:Int)(I0:(Int×List Rw)→Prop)(m0:(Int×List Rw)→Nat)(r0:Tbl):=(yP t p router I0 m0).vp yQ r0
theorem QE(t:Tpl)(p:Pln)(r:Int)(hc:aD t=0)(h:p.es.length≤100)(ok:QG t p r):∃I0 m0,Cf t p r I0 m0 (gJ t p r):=by
 refine⟨λs=>eK p.es (λe=>[fp t r e]) s.1 s.2,λs=>p.es.length-s.1.toNat,?_⟩
 dsimp only[Cf,yP,Hv,Ax.vp,Ax.vc];simp only[vcU,rfU,List.length_map]
 refine⟨eK.zero,?_⟩
 rintro⟨i,out⟩ hX
 simp only at hX ⊢
 have hlen:=hX.len (b:=1) λx _=>by simp
 refine⟨λc=>⟨hX.idx,c,λx hx=>⟨hX.idx,c,λx2 h2=>?_⟩⟩,λc=>?_⟩
 ·rw[hx]at h2;cases h2
  refine⟨λe=>⟨by omega,uq (λ_=>rfl) rfl,hX.step (by omega) hx ?_⟩,λe=>⟨hX.idx,c,λx3 h3=>?_⟩⟩
  ·rw[fp,if_pos (eq_of_beq e)]
  rw[hx]at h3;cases h3
  refine⟨λe2=>⟨hX.idx,c,λx4 h4=>?_⟩,λe2=>⟨by omega,uq (λ_=>rfl) rfl,hX.step (by omega) hx ?_⟩⟩
  ·rw[hx]at h4;cases h4
   exact⟨by omega,hX.step (by omega) hx (by rw[fp,if_neg (by simpa using e),if_pos e2])⟩
  ·rw[fp,if_neg (by simpa using e),if_neg (by rw[e2];simp)]
 ·have:(p.es.flatMap λe=>[fp t r e])=p.es.map (fp t r):=List.map_eq_flatMap.symm
  rw[hX.done c,this];rfl
def QF(t:Tpl)(p:Pln)(router:Int)(hc:aD t=0)(h:p.es.length≤100):PC Tryz.prog:=⟨60,[(.a [(.s 2),(.s 5)]),(.a [.k,.k,(.s 2)]),.k],[.agg [.sl 2 (t.rs.map Rtr.v) false,.sl 5 (t.ls.map Lnk.v) false],.agg [.int p.sub,.int p.len,.sl 2 (p.es.map Edg.v) false],.int router],yQ (gJ t p router),ax.of_ok λok=>(QE t p router hc h ok).elim λI0 h=>h.elim λm0 h=>aw (sh:=(.a [.k,.k,.k,(.s 2)])) (enc:=yQ) (a:=(yP t p router I0 m0).an) h (by kernel_rfl) (AV.pureB_ok rfl),aq (by kernel_rfl)⟩
def jK(t:Tpl)(p:Pln):List Tbl×Int:=if aD t≠0∨cH p=false then([],1)else(t.rs.flatMap λx=>if x.cap=true then [gJ t p x.id]else [],0)
def QY(t:Tpl)(p:Pln):=okL [.agg [.sl 2 (t.rs.map Rtr.v) false,.sl 5 (t.ls.map Lnk.v) false],.agg [.int p.sub,.int p.len,.sl 2 (p.es.map Edg.v) false]]
def M3(t:Tpl)(p:Pln)(t0:Bool):NF:=⟨[(2,.k,.ref 0 0),(3,.k,.ref 1 0),(15,.k,.bool t0)],[.box (.agg [.sl 2 (t.rs.map Rtr.v) false,.sl 5 (t.ls.map Lnk.v) false]),.box (.agg [.int p.sub,.int p.len,.sl 2 (p.es.map Edg.v) false])]⟩
def M2(t:Tpl)(p:Pln)(t1:Int×List Tbl):NF:=⟨[(2,.k,.ref 0 0),(3,.k,.ref 1 0),(6,.k,.vec 2),(7,.k,.int t1.1)],[.box (.agg [.sl 2 (t.rs.map Rtr.v) false,.sl 5 (t.ls.map Lnk.v) false]),.box (.agg [.int p.sub,.int p.len,.sl 2 (p.es.map Edg.v) false]),.vec 4 (t1.2.map Tbl.v) (ae (λ_=>rfl) t1.2)]⟩
@[reducible] def HS:Nat→Type
 | 0=>Bool
 | 1=>Int×List Tbl
 | _=>Unit
def zg(r:List Tbl×Int):AV:=.tup [.sl 4 (r.1.map Tbl.v) false,.int r.2]
def zf(t:Tpl)(p:Pln)(I0:Bool→Prop)(I1:Bool→(Int×List Tbl)→Prop)(m1:Bool→(Int×List Tbl)→Nat):Ax Tryz.prog HS (List Tbl×Int):=
 (.pass (.pass (.join 0 (M3 t p) (λ(t0:Bool)=>I0 t0) (λb0=>(.callP (oj t)
(.br 128 ((aD t) != 0) (.bk 0 b0 ((true):Bool) [0,16])
(.callP (If p)
(.bk 0 b0 ((!(cH p)):Bool) [0,16]))))) λ(t0:Bool) =>
(.br 2 t0 (.ret ([],1))
(.cmdL (.nilT 6 4) (.loop 1 (M2 t p) (I1 t0) (m1 t0) (0,[]) [0,1,34] λ(t1:Int×List Tbl) b1 =>
(.br 83 (decide (t1.1<((t.rs.map Rtr.v).length:Int))) (.elI 131 Rtr.v t.rs t1.1 λx1 =>
(.br 179 x1.cap (.elI 275 Rtr.v t.rs t1.1 λx2 =>
(.req 323 (aD t=0) λh3 =>
(.req 323 (p.es.length≤100) λh4 =>
(.callP (QF t p x2.id h3 h4)
(.apX 355 Tbl.v t1.2 [gJ t p x2.id] (t1.2.length+1)
(.bk 1 b1 (W (t1.1+1),t1.2++[gJ t p x2.id]) [0,1,355]))))))
(.bk 1 b1 (W (t1.1+1),t1.2) [0,1,2])))
(.fz 2 Tbl.v t1.2 (λ_=>rfl) (.ret (t1.2,0))))))))))
def Cv(t:Tpl)(p:Pln)(I0:Bool→Prop)(I1:Bool→(Int×List Tbl)→Prop)(m1:Bool→(Int×List Tbl)→Nat)(r0:List Tbl×Int):=(zf t p I0 I1 m1).vp zg r0
theorem QX(t:Tpl)(p:Pln)(ok:QY t p):∃I0 I1 m1,Cv t p I0 I1 m1 (jK t p):=by
 refine⟨λb=>b=(decide (aD t≠0) || !cH p),λ_ s=>eK t.rs (λx=>if x.cap=true then [gJ t p x.id]else []) s.1 s.2,λ_ s=>t.rs.length-s.1.toNat,?_⟩
 dsimp only[Cv,zf,HS,Ax.vp,Ax.vc];simp only[vcU,rfU,List.length_map]
 refine⟨⟨λc=>by simp at c;simp[c],λc=>by simp at c;simp[c]⟩,?_⟩
 rintro _ rfl
 unfold jK
 refine⟨λc=>by rw[if_pos (by simpa using c)],λc=>?_⟩
 have c:¬(aD t≠0∨cH p=false):=by simp at c;simp[c]
 have hc:aD t=0:=by simp at c;exact c.1
 have hn:=(aC hc).nr
 have hpl:p.es.length≤24:=by
  have hp:cH p=true:=by
   cases q:cH p
   ·exact absurd (.inr q) c
   ·rfl
  unfold cH at hp
  rw[Bool.and_eq_true,decide_eq_true_iff]at hp
  exact hp.1.2.2
 rw[if_neg c]
 refine⟨eK.zero,?_⟩
 rintro⟨i,out⟩ hX
 simp only at hX ⊢
 have hlen:=hX.len (b:=1) λx _=>by split<;>simp
 refine⟨λd=>⟨hX.idx,d,λx hx=>⟨λe=>⟨hX.idx,d,λy hy=>?_⟩,λe=>hX.step (by omega) hx (by rw[if_neg (by rw[e];simp)];simp)⟩⟩,λd=>by rw[hX.done d]⟩
 rw[hx]at hy;cases hy
 exact⟨hc,by omega,by omega,hX.step (by omega) hx (by rw[if_pos e])⟩
def HT(t:Tpl)(p:Pln):PC Tryz.prog:=⟨18,[(.a [(.s 2),(.s 5)]),(.a [.k,.k,(.s 2)])],[.agg [.sl 2 (t.rs.map Rtr.v) false,.sl 5 (t.ls.map Lnk.v) false],.agg [.int p.sub,.int p.len,.sl 2 (p.es.map Edg.v) false]],zg (jK t p),ax.of_ok λok=>(QX t p ok).elim λI0 h=>h.elim λI1 h=>h.elim λm1 h=>aw (sh:=(.a [(.s 4),.k])) (enc:=zg) (a:=(zf t p I0 I1 m1).an) h (by kernel_rfl) (AV.pureB_ok rfl),aq (by kernel_rfl)⟩
structure Cpy where
  to:Int
  route:List Int
  mode:Int
  sub:Int
  set:Int
  len:Int
  ttl:Int
  ent:Int
  ing:Int
  proto:Int
  bits:Int
  pay:ByteArray
  deriving DecidableEq
structure Out where
  local_:Int
  lost:Int
  copies:List Cpy
  deriving DecidableEq
def inK(n most:Int):Bool:=decide (0≤n) && decide (n≤most)
abbrev inTb:=inP
def OZ(n:Int)(least:Int)(most:Int):=okL [.int n,.int least,.int most]
def xq(r:Bool):AV:=.bool r
def xp(n:Int)(least:Int)(most:Int):Ax Tryz.prog noS (Bool):=
 (.br 80 (decide (least≤n)) (.ret (decide (n≤most)))
(.ret (false)))
def Bn(n:Int)(least:Int)(most:Int)(r0:Bool):=(xp n least most).vp xq r0
theorem OY(n a b:Int)(ok:OZ n a b):Bn n a b (inTb n a b):=by
 dsimp only[Bn,xp,noS,Ax.vp,Ax.vc];simp only[vcU,rfU,List.length_map]
 refine⟨λc=>?_,λc=>?_⟩<;>simp[inTb,inP,c]
def l5(n:Int)(least:Int)(most:Int):PC Tryz.prog:=⟨138,[.k,.k,.k],[.int n,.int least,.int most],xq (inP n least most),ax.of_ok λok=>aw (sh:=.k) (enc:=xq) (a:=(xp n least most).an) (OY n least most ok) (by kernel_rfl) (AV.pureB_ok rfl),aq (by kernel_rfl)⟩
def lK(l:List Int):Bool:=decide (l.Pairwise (·<·))
def QP(l:List Int):=okL [.sl 1 (l.map AV.int) false]
def Mg(l:List Int)(t0:Int):NF:=⟨[(0,.k,.sl 1 (l.map AV.int) false),(5,.k,.int ((l.map AV.int).length:Int)),(6,.k,.int t0)],[]⟩
def Mf(l:List Int)(t0:Int)(t1:Bool):NF:=⟨[(0,.k,.sl 1 (l.map AV.int) false),(5,.k,.int ((l.map AV.int).length:Int)),(6,.k,.int t0),(22,.k,.bool t1)],[]⟩
@[reducible] def HH:Nat→Type
 | 0=>Int
 | 1=>Bool
 | _=>Unit
def yW(r:Bool):AV:=.bool r
def yV(l:List Int)(I0:Int→Prop)(m0:Int→Nat)(I1:Int→Bool→Prop):Ax Tryz.prog HH (Bool):=
 (.loop 0 (Mg l) I0 m0 ((0):Int) [] λ(t0:Int) b0 =>
(.br 16 (decide (t0<((l.map AV.int).length:Int))) (.pass (.pass (.join 1 (Mf l t0) (λ(t1:Bool)=>I1 t0 t1) (λb1=>(.br 96 (decide (0<t0)) (.elI 144 AV.int l (W (t0-1)) λx1 =>
(.elI 208 AV.int l t0 λx2 =>
(.bk 1 b1 ((decide (x2≤x1)):Bool) [])))
(.bk 1 b1 ((false):Bool) []))) λ(t1:Bool) =>
(.br 0 t1 (.ret (false))
(.bk 0 b0 ((W (t0+1)):Int) [])))))
(.ret (true))))
def Co(l:List Int)(I0:Int→Prop)(m0:Int→Nat)(I1:Int→Bool→Prop)(r0:Bool):=(yV l I0 m0 I1).vp yW r0
theorem QN(l:List Int)(h:l.length≤1000000)(ok:QP l):∃I0 m0 I1,Co l I0 m0 I1 (lK l):=by
 refine⟨λi=>ez l (λx y=>x<y) i,λi=>l.length-i.toNat,λi b=>b=true↔0<i∧∃x y,l[(W (i-1)).toNat]?=some x∧l[i.toNat]?=some y∧¬x<y,?_⟩
 have hl:=h
 clear h
 dsimp only[Co,yV,HH,Ax.vp,Ax.vc];simp only[vcU,rfU,List.length_map]
 refine⟨ez.zero,λi h=>⟨λc1=>⟨⟨λh0=>?_,λh0=>?_⟩,λb hb=>?_⟩,λc1=>?_⟩⟩
 ·obtain⟨g1,g2⟩:=h.rng (by omega) h0 c1
  refine⟨g1,g2,λx hx=>⟨h.idx,c1,λy hy=>⟨λe=>⟨h0,x,y,hx,hy,by omega⟩,?_⟩⟩⟩
  rintro⟨_,x',y',hx',hy',p⟩
  rw[hx]at hx';cases hx';rw[hy]at hy';cases hy';omega
 ·exact⟨nofun,λe=>absurd e.1 h0⟩
 ·obtain⟨n1,n2⟩:=h.next (by omega) c1 hb
  exact⟨λe=>by rw[lK,decide_eq_false (n1 e)],n2⟩
 ·rw[lK,decide_eq_true (h.done c1 λ_ _ _ q r=>Int.lt_trans q r)]
def QO(l:List Int)(h:l.length≤1000000):PC Tryz.prog:=⟨143,[(.s 1)],[.sl 1 (l.map AV.int) false],yW (lK l),ax.of_ok λok=>(QN l h ok).elim λI0 h=>h.elim λm0 h=>h.elim λI1 h=>aw (sh:=.k) (enc:=yW) (a:=(yV l I0 m0 I1).an) h (by kernel_rfl) (AV.pureB_ok rfl),aq (by kernel_rfl)⟩
def lk(n:Int):Bool:=!inP n 1 99
def Oj(n:Int):=okL [.int n]
def wF(r:Bool):AV:=.bool r
def wE(n:Int):Ax Tryz.prog noS (Bool):=
 (.callP (l5 n 1 99)
(.ret (!(inP n 1 99))))
def Az(n:Int)(r0:Bool):=(wE n).vp wF r0
theorem Oh(n:Int)(ok:Oj n):Az n (lk n):=by
 dsimp only[Az,wE,noS,Ax.vp,Ax.vc];simp only[vcU,rfU,List.length_map]
 rfl
def Oi(n:Int):PC Tryz.prog:=⟨162,[.k],[.int n],wF (lk n),ax.of_ok λok=>aw (sh:=.k) (enc:=wF) (a:=(wE n).an) (Oh n ok) (by kernel_rfl) (AV.pureB_ok rfl),aq (by kernel_rfl)⟩
def A3(s:List Int):=okL [.sl 1 (s.map AV.int) false,.func 162 []]
def ER(s:List Int)(t0:Int):NF:=⟨[(0,.k,.sl 1 (s.map AV.int) false),(1,.k,.func 162 []),(7,.k,.int ((s.map AV.int).length:Int)),(8,.k,.int t0)],[]⟩
@[reducible] def A2:Nat→Type
 | 0=>Int
 | _=>Unit
def qm(r:Int):AV:=.int r
def ql(s:List Int)(I0:Int→Prop)(m0:Int→Nat):Ax Tryz.prog A2 (Int):=
 (.loop 0 (ER s) I0 m0 ((0):Int) [] λ(t0:Int) b0 =>
(.br 16 (decide (t0<((s.map AV.int).length:Int))) (.elI 96 AV.int s t0 λx1 =>
(.callP (Oi x1)
(.br 144 (lk x1) (.ret (t0))
(.bk 0 b0 ((W (t0+1)):Int) []))))
(.ret (-1))))
def tv(s:List Int)(I0:Int→Prop)(m0:Int→Nat)(r0:Int):=(ql s I0 m0).vp qm r0
theorem JB(s:List Int)(ok:A3 s):∃I m,tv s I m (cM lk s):=by
  refine⟨λt=>bi s (λy=>lk y=false) t,λt=>s.length-t.toNat,?_⟩
  simp only[A3,okU,Blk.ok,aL,List.length_map]at ok
  dsimp only[tv,ql,A2,Ax.vp,Ax.vc];simp only[vcU,rfU,List.length_map]
  exact⟨bi.zero,λt h=>⟨λc=>⟨h.idx,c,λx hx=>⟨λq=>h.found hx q,λq=>h.step (by omega) hx q⟩⟩,λc=>h.lost c⟩⟩
def JC(s:List Int):PC Tryz.prog:=⟨176,[(.s 1),.k],[.sl 1 (s.map AV.int) false,.func 162 []],qm (cM lk s),ax.of_ok λok=>(JB s ok).elim λI0 h=>h.elim λm0 h=>aw (sh:=.k) (enc:=qm) (a:=(ql s I0 m0).an) h (by kernel_rfl) (AV.pureB_ok rfl),aq (by kernel_rfl)⟩
def JF(s:List Int):=okL [.sl 1 (s.map AV.int) false,.func 162 []]
def qo(r:Bool):AV:=.bool r
def qn(s:List Int):Ax Tryz.prog noS (Bool):=
 (.callP (JC s)
(.ret (decide (0≤(cM lk s)))))
def tw(s:List Int)(r0:Bool):=(qn s).vp qo r0
theorem JD(s:List Int)(ok:JF s):tw s (s.any lk):=by
  dsimp only[tw,qn,noS,Ax.vp,Ax.vc];simp only[vcU,rfU,List.length_map]
  exact dQ _ _
def JE(s:List Int):PC Tryz.prog:=⟨161,[(.s 1),.k],[.sl 1 (s.map AV.int) false,.func 162 []],qo (s.any lk),ax.of_ok λok=>aw (sh:=.k) (enc:=qo) (a:=(qn s).an) (JD s ok) (by kernel_rfl) (AV.pureB_ok rfl),aq (by kernel_rfl)⟩
def jq(r:Rw):Bool:=!inP r.id 1 256 || r.nx.any lk
def Og(r:Rw):=okL [.agg [.int r.id,.sl 1 (r.nx.map AV.int) false]]
def wD(r:Bool):AV:=.bool r
def wC(r:Rw):Ax Tryz.prog noS (Bool):=
 (.callP (l5 r.id 1 256)
(.br 112 (!(inP r.id 1 256)) (.ret (true))
(.callP (JE r.nx)
(.ret ((r.nx).any lk)))))
def Av(r:Rw)(r0:Bool):=(wC r).vp wD r0
theorem Oe(r:Rw)(ok:Og r):Av r (jq r):=by
 dsimp only[Av,wC,noS,Ax.vp,Ax.vc];simp only[vcU,rfU,List.length_map]
 unfold jq
 exact⟨λh=>by rw[h];rfl,λh=>by rw[h];rfl⟩
def Of(r:Rw):PC Tryz.prog:=⟨141,[(.a [.k,(.s 1)])],[.agg [.int r.id,.sl 1 (r.nx.map AV.int) false]],wD (jq r),ax.of_ok λok=>aw (sh:=.k) (enc:=wD) (a:=(wC r).an) (Oe r ok) (by kernel_rfl) (AV.pureB_ok rfl),aq (by kernel_rfl)⟩
def Ay(s:List Rw):=okL [.sl 2 (s.map Rw.v) false,.func 141 []]
def EQ(s:List Rw)(t0:Int):NF:=⟨[(0,.k,.sl 2 (s.map Rw.v) false),(1,.k,.func 141 []),(7,.k,.int ((s.map Rw.v).length:Int)),(8,.k,.int t0)],[]⟩
@[reducible] def Aw:Nat→Type
 | 0=>Int
 | _=>Unit
def qh(r:Int):AV:=.int r
def qg(s:List Rw)(I0:Int→Prop)(m0:Int→Nat):Ax Tryz.prog Aw (Int):=
 (.loop 0 (EQ s) I0 m0 ((0):Int) [] λ(t0:Int) b0 =>
(.br 16 (decide (t0<((s.map Rw.v).length:Int))) (.elI 96 Rw.v s t0 λx1 =>
(.callP (Of x1)
(.br 144 (jq x1) (.ret (t0))
(.bk 0 b0 ((W (t0+1)):Int) []))))
(.ret (-1))))
def tq(s:List Rw)(I0:Int→Prop)(m0:Int→Nat)(r0:Int):=(qg s I0 m0).vp qh r0
theorem J7(s:List Rw)(ok:Ay s):∃I m,tq s I m (cM jq s):=by
  refine⟨λt=>bi s (λy=>jq y=false) t,λt=>s.length-t.toNat,?_⟩
  simp only[Ay,okU,Blk.ok,aL,List.length_map]at ok
  dsimp only[tq,qg,Aw,Ax.vp,Ax.vc];simp only[vcU,rfU,List.length_map]
  exact⟨bi.zero,λt h=>⟨λc=>⟨h.idx,c,λx hx=>⟨λq=>h.found hx q,λq=>h.step (by omega) hx q⟩⟩,λc=>h.lost c⟩⟩
def J8(s:List Rw):PC Tryz.prog:=⟨160,[(.s 2),.k],[.sl 2 (s.map Rw.v) false,.func 141 []],qh (cM jq s),ax.of_ok λok=>(J7 s ok).elim λI0 h=>h.elim λm0 h=>aw (sh:=.k) (enc:=qh) (a:=(qg s I0 m0).an) h (by kernel_rfl) (AV.pureB_ok rfl),aq (by kernel_rfl)⟩
def JA(s:List Rw):=okL [.sl 2 (s.map Rw.v) false,.func 141 []]
def qj(r:Bool):AV:=.bool r
def qi(s:List Rw):Ax Tryz.prog noS (Bool):=
 (.callP (J8 s)
(.ret (decide (0≤(cM jq s)))))
def tu(s:List Rw)(r0:Bool):=(qi s).vp qj r0
theorem J9(s:List Rw)(ok:JA s):tu s (s.any jq):=by
  dsimp only[tu,qi,noS,Ax.vp,Ax.vc];simp only[vcU,rfU,List.length_map]
  exact dQ _ _
def qk(s:List Rw):PC Tryz.prog:=⟨140,[(.s 2),.k],[.sl 2 (s.map Rw.v) false,.func 141 []],qj (s.any jq),ax.of_ok λok=>aw (sh:=.k) (enc:=qj) (a:=(qi s).an) (J9 s ok) (by kernel_rfl) (AV.pureB_ok rfl),aq (by kernel_rfl)⟩
def js(r:Rw):Bool:=decide (24<r.nx.length)
def OL(r:Rw):=okL [.agg [.int r.id,.sl 1 (r.nx.map AV.int) false]]
def xc(r:Bool):AV:=.bool r
def wZ(r:Rw):Ax Tryz.prog noS (Bool):=
 (.ret (decide (24<((r.nx.map AV.int).length:Int))))
def AT(r:Rw)(r0:Bool):=(wZ r).vp xc r0
theorem OJ(r:Rw)(ok:OL r):AT r (js r):=by
 dsimp only[AT,wZ,noS,Ax.vp,Ax.vc];simp only[vcU,rfU,List.length_map]
 unfold js
 exact decide_eq_decide.mpr (by omega)
def OK(r:Rw):PC Tryz.prog:=⟨142,[(.a [.k,(.s 1)])],[.agg [.int r.id,.sl 1 (r.nx.map AV.int) false]],xc (js r),ax.of_ok λok=>aw (sh:=.k) (enc:=xc) (a:=(wZ r).an) (OJ r ok) (by kernel_rfl) (AV.pureB_ok rfl),aq (by kernel_rfl)⟩
def AW(s:List Rw):=okL [.sl 2 (s.map Rw.v) false,.func 142 []]
def F4(s:List Rw)(t0:Int):NF:=⟨[(0,.k,.sl 2 (s.map Rw.v) false),(1,.k,.func 142 []),(7,.k,.int ((s.map Rw.v).length:Int)),(8,.k,.int t0)],[]⟩
@[reducible] def AU:Nat→Type
 | 0=>Int
 | _=>Unit
def qO(r:Int):AV:=.int r
def qM(s:List Rw)(I0:Int→Prop)(m0:Int→Nat):Ax Tryz.prog AU (Int):=
 (.loop 0 (F4 s) I0 m0 ((0):Int) [] λ(t0:Int) b0 =>
(.br 16 (decide (t0<((s.map Rw.v).length:Int))) (.elI 96 Rw.v s t0 λx1 =>
(.callP (OK x1)
(.br 144 (js x1) (.ret (t0))
(.bk 0 b0 ((W (t0+1)):Int) []))))
(.ret (-1))))
def tO(s:List Rw)(I0:Int→Prop)(m0:Int→Nat)(r0:Int):=(qM s I0 m0).vp qO r0
theorem Kd(s:List Rw)(ok:AW s):∃I m,tO s I m (cM js s):=by
  refine⟨λt=>bi s (λy=>js y=false) t,λt=>s.length-t.toNat,?_⟩
  simp only[AW,okU,Blk.ok,aL,List.length_map]at ok
  dsimp only[tO,qM,AU,Ax.vp,Ax.vc];simp only[vcU,rfU,List.length_map]
  exact⟨bi.zero,λt h=>⟨λc=>⟨h.idx,c,λx hx=>⟨λq=>h.found hx q,λq=>h.step (by omega) hx q⟩⟩,λc=>h.lost c⟩⟩
def Ke(s:List Rw):PC Tryz.prog:=⟨160,[(.s 2),.k],[.sl 2 (s.map Rw.v) false,.func 142 []],qO (cM js s),ax.of_ok λok=>(Kd s ok).elim λI0 h=>h.elim λm0 h=>aw (sh:=.k) (enc:=qO) (a:=(qM s I0 m0).an) h (by kernel_rfl) (AV.pureB_ok rfl),aq (by kernel_rfl)⟩
def Kg(s:List Rw):=okL [.sl 2 (s.map Rw.v) false,.func 142 []]
def qQ(r:Bool):AV:=.bool r
def qP(s:List Rw):Ax Tryz.prog noS (Bool):=
 (.callP (Ke s)
(.ret (decide (0≤(cM js s)))))
def tP(s:List Rw)(r0:Bool):=(qP s).vp qQ r0
theorem Kf(s:List Rw)(ok:Kg s):tP s (s.any js):=by
  dsimp only[tP,qP,noS,Ax.vp,Ax.vc];simp only[vcU,rfU,List.length_map]
  exact dQ _ _
def AX(s:List Rw):PC Tryz.prog:=⟨140,[(.s 2),.k],[.sl 2 (s.map Rw.v) false,.func 142 []],qQ (s.any js),ax.of_ok λok=>aw (sh:=.k) (enc:=qQ) (a:=(qP s).an) (Kf s ok) (by kernel_rfl) (AV.pureB_ok rfl),aq (by kernel_rfl)⟩
def jG(r:Rw)(b:Tbl):Bool:=decide (1<r.nx.length) && decide (b.router∈r.nx)
def Qb(r:Rw)(b:Tbl):=okL [.agg [.int r.id,.sl 1 (r.nx.map AV.int) false],.rptr (.agg [.int b.router,.int b.sub,.int b.len,.sl 2 (b.rows.map Rw.v) false]) 0]
def yq(r:Bool):AV:=.bool r
def yp(r:Rw)(b:Tbl):Ax Tryz.prog noS (Bool):=
 (.br 112 (decide (1<((r.nx.map AV.int).length:Int))) (.callP (eP r.nx b.router)
(.ret (decide (b.router∈r.nx))))
(.ret (false)))
def BP(r:Rw)(b:Tbl)(r0:Bool):=(yp r b).vp yq r0
theorem PZ(r:Rw)(b:Tbl)(ok:Qb r b):BP r b (jG r b):=by
 dsimp only[BP,yp,noS,Ax.vp,Ax.vc];simp only[vcU,rfU,List.length_map]
 unfold jG
 refine⟨λh=>?_,λh=>?_⟩
 ·rw[decide_eq_true (show 1<r.nx.length by omega)];rfl
 ·rw[decide_eq_false (show ¬1<r.nx.length by omega)];rfl
def Qa(r:Rw)(b:Tbl):PC Tryz.prog:=⟨144,[(.a [.k,(.s 1)]),.k],[.agg [.int r.id,.sl 1 (r.nx.map AV.int) false],.rptr (.agg [.int b.router,.int b.sub,.int b.len,.sl 2 (b.rows.map Rw.v) false]) 0],yq (jG r b),ax.of_ok λok=>aw (sh:=.k) (enc:=yq) (a:=(yp r b).an) (PZ r b ok) (by kernel_rfl) (AV.pureB_ok rfl),aq (by kernel_rfl)⟩
def BR(s:List Rw)(f:Tbl):=okL [.sl 2 (s.map Rw.v) false,.func 144 [.rptr (.agg [.int f.router,.int f.sub,.int f.len,.sl 2 (f.rows.map Rw.v) false]) 0]]
def GH(s:List Rw)(f:Tbl)(t0:Int):NF:=⟨[(0,.k,.sl 2 (s.map Rw.v) false),(1,.k,.func 144 [.rptr (.agg [.int f.router,.int f.sub,.int f.len,.sl 2 (f.rows.map Rw.v) false]) 0]),(7,.k,.int ((s.map Rw.v).length:Int)),(8,.k,.int t0)],[]⟩
@[reducible] def BQ:Nat→Type
 | 0=>Int
 | _=>Unit
def rY(r:Int):AV:=.int r
def rX(s:List Rw)(f:Tbl)(I0:Int→Prop)(m0:Int→Nat):Ax Tryz.prog BQ (Int):=
 (.loop 0 (GH s f) I0 m0 ((0):Int) [] λ(t0:Int) b0 =>
(.br 16 (decide (t0<((s.map Rw.v).length:Int))) (.elI 96 Rw.v s t0 λx1 =>
(.callP (Qa x1 f)
(.br 144 (jG x1 f) (.ret (t0))
(.bk 0 b0 ((W (t0+1)):Int) []))))
(.ret (-1))))
def uR(s:List Rw)(f:Tbl)(I0:Int→Prop)(m0:Int→Nat)(r0:Int):=(rX s f I0 m0).vp rY r0
theorem Lc(s:List Rw)(f:Tbl)(ok:BR s f):∃I m,uR s f I m (cM (λy=>jG y f) s):=by
  refine⟨λt=>bi s (λy=>jG y f=false) t,λt=>s.length-t.toNat,?_⟩
  simp only[BR,okU,Blk.ok,aL,List.length_map]at ok
  dsimp only[uR,rX,BQ,Ax.vp,Ax.vc];simp only[vcU,rfU,List.length_map]
  exact⟨bi.zero,λt h=>⟨λc=>⟨h.idx,c,λx hx=>⟨λq=>h.found hx q,λq=>h.step (by omega) hx q⟩⟩,λc=>h.lost c⟩⟩
def Le(s:List Rw)(f:Tbl):PC Tryz.prog:=⟨160,[(.s 2),.k],[.sl 2 (s.map Rw.v) false,.func 144 [.rptr (.agg [.int f.router,.int f.sub,.int f.len,.sl 2 (f.rows.map Rw.v) false]) 0]],rY (cM (λy=>jG y f) s),ax.of_ok λok=>(Lc s f ok).elim λI0 h=>h.elim λm0 h=>aw (sh:=.k) (enc:=rY) (a:=(rX s f I0 m0).an) h (by kernel_rfl) (AV.pureB_ok rfl),aq (by kernel_rfl)⟩
def Lh(s:List Rw)(f:Tbl):=okL [.sl 2 (s.map Rw.v) false,.func 144 [.rptr (.agg [.int f.router,.int f.sub,.int f.len,.sl 2 (f.rows.map Rw.v) false]) 0]]
def sc(r:Bool):AV:=.bool r
def rZ(s:List Rw)(f:Tbl):Ax Tryz.prog noS (Bool):=
 (.callP (Le s f)
(.ret (decide (0≤(cM (λy=>jG y f) s)))))
def uS(s:List Rw)(f:Tbl)(r0:Bool):=(rZ s f).vp sc r0
theorem Lf(s:List Rw)(f:Tbl)(ok:Lh s f):uS s f (s.any λy=>jG y f):=by
  dsimp only[uS,rZ,noS,Ax.vp,Ax.vc];simp only[vcU,rfU,List.length_map]
  exact dQ _ _
def Lg(s:List Rw)(f:Tbl):PC Tryz.prog:=⟨140,[(.s 2),.k],[.sl 2 (s.map Rw.v) false,.func 144 [.rptr (.agg [.int f.router,.int f.sub,.int f.len,.sl 2 (f.rows.map Rw.v) false]) 0]],sc (s.any λy=>jG y f),ax.of_ok λok=>aw (sh:=.k) (enc:=sc) (a:=(rZ s f).an) (Lf s f ok) (by kernel_rfl) (AV.pureB_ok rfl),aq (by kernel_rfl)⟩
def hdB(b:Tbl):Bool:=!((inP b.router 1 99 && inP b.sub 0 7) && (cY b.len || (b.len==0 && decide (b.rows.length=0))))
def kr(b:Tbl):Bool:=hdB b || b.rows.any jq
def jB(b:Tbl):Bool:=decide (256<b.rows.length) || b.rows.any js
def CM(l:List Rw):Prop:=(∀r∈l,lK r.nx=true)∧l.Pairwise λx y=>x.id<y.id
instance (l:List Rw):Decidable (CM l):=by unfold CM;infer_instance
def kO(b:Tbl):Int:=if kr b=true then 2 else if jB b=true then 3 else if ¬CM b.rows then 25
 else if(b.rows.any λr=>jG r b)=true then 8 else 0
theorem AZ{b:Tbl}(h:jB b=false):b.rows.length≤256∧∀r∈b.rows,r.nx.length≤24:=by
 unfold jB at h
 rw[Bool.or_eq_false_iff,decide_eq_false_iff_not,List.any_eq_false]at h
 refine⟨by omega,λr hr=>?_⟩
 have:=h.2 r hr
 simp[js]at this;exact this
def Qp(b:Tbl):=okL [.agg [.int b.router,.int b.sub,.int b.len,.sl 2 (b.rows.map Rw.v) false]]
def Lu(b:Tbl)(t0:Unit):NF:=⟨[(1,.k,.ref 0 0)],[.box (.agg [.int b.router,.int b.sub,.int b.len,.sl 2 (b.rows.map Rw.v) false])]⟩
def Lt(b:Tbl)(t1:Bool):NF:=⟨[(1,.k,.ref 0 0),(15,.k,.bool t1)],[.box (.agg [.int b.router,.int b.sub,.int b.len,.sl 2 (b.rows.map Rw.v) false])]⟩
def Ls(b:Tbl)(t2:Bool):NF:=⟨[(1,.k,.ref 0 0),(41,.k,.bool t2)],[.box (.agg [.int b.router,.int b.sub,.int b.len,.sl 2 (b.rows.map Rw.v) false])]⟩
def Lr(b:Tbl)(t3:Bool):NF:=⟨[(1,.k,.ref 0 0),(15,.k,.bool t3)],[.box (.agg [.int b.router,.int b.sub,.int b.len,.sl 2 (b.rows.map Rw.v) false])]⟩
def Lq(b:Tbl)(t4:Bool):NF:=⟨[(1,.k,.ref 0 0),(41,.k,.bool t4)],[.box (.agg [.int b.router,.int b.sub,.int b.len,.sl 2 (b.rows.map Rw.v) false])]⟩
def Lp(b:Tbl)(t5:Int):NF:=⟨[(1,.k,.ref 0 0),(52,.k,.sl 2 (b.rows.map Rw.v) false),(53,.k,.int ((b.rows.map Rw.v).length:Int)),(54,.k,.int t5)],[.box (.agg [.int b.router,.int b.sub,.int b.len,.sl 2 (b.rows.map Rw.v) false])]⟩
def Lo(b:Tbl)(t5:Int)(t6:Bool):NF:=⟨[(1,.k,.ref 0 0),(52,.k,.sl 2 (b.rows.map Rw.v) false),(53,.k,.int ((b.rows.map Rw.v).length:Int)),(54,.k,.int t5),(78,.k,.bool t6)],[.box (.agg [.int b.router,.int b.sub,.int b.len,.sl 2 (b.rows.map Rw.v) false])]⟩
@[reducible] def GO:Nat→Type
 | 0=>Unit
 | 1=>Bool
 | 2=>Bool
 | 3=>Bool
 | 4=>Bool
 | 5=>Int
 | 6=>Bool
 | _=>Unit
def yG(r:Int):AV:=.int r
def yF(b:Tbl)(I0:Unit→Prop)(I1:Bool→Prop)(I2:Bool→Bool→Prop)(I3:Bool→Prop)(I4:Bool→Bool→Prop)(I5:Unit→Int→Prop)(m5:Unit→Int→Nat)(I6:Unit→Int→Rw→Bool→Prop):Ax Tryz.prog GO (Int):=
 (.pass (.join2 0 (Lu b) (λ(t0:Unit)=>I0 t0) (λb0=>(.br 96 (b.len==0) (.join 1 (Lt b) (λ(t1:Bool)=>I1 t1) (λb1=>(.callP (l5 b.router 1 99)
(.br 272 (!(inP b.router 1 99)) (.bk 1 b1 ((true):Bool) [0])
(.callP (l5 b.sub 0 7)
(.br 368 (!(inP b.sub 0 7)) (.bk 1 b1 ((true):Bool) [0])
(.callP (zx b.len)
(.br 448 (!(cY b.len)) (.br 528 (!(((b.rows.map Rw.v).length:Int)==0)) (.bk 1 b1 ((true):Bool) [0])
(.callP (qk b.rows)
(.bk 1 b1 (((b.rows).any jq):Bool) [0])))
(.callP (qk b.rows)
(.bk 1 b1 (((b.rows).any jq):Bool) [0]))))))))) λ(t1:Bool) =>
(.br 1 t1 (.ret (2))
(.join 2 (Ls b) (λ(t2:Bool)=>I2 t1 t2) (λb2=>(.br 81 (decide (256<((b.rows.map Rw.v).length:Int))) (.bk 2 b2 ((true):Bool) [0])
(.callP (AX b.rows)
(.bk 2 b2 (((b.rows).any js):Bool) [0])))) λ(t2:Bool) =>
(.br 1 t2 (.ret (3))
(.bk 0 b0 ((()):Unit) [0])))))
(.join 3 (Lr b) (λ(t3:Bool)=>I3 t3) (λb3=>(.callP (l5 b.router 1 99)
(.br 272 (!(inP b.router 1 99)) (.bk 3 b3 ((true):Bool) [0])
(.callP (l5 b.sub 0 7)
(.br 368 (!(inP b.sub 0 7)) (.bk 3 b3 ((true):Bool) [0])
(.callP (zx b.len)
(.br 448 (!(cY b.len)) (.bk 3 b3 ((true):Bool) [0])
(.callP (qk b.rows)
(.bk 3 b3 (((b.rows).any jq):Bool) [0]))))))))) λ(t3:Bool) =>
(.br 1 t3 (.ret (2))
(.join 4 (Lq b) (λ(t4:Bool)=>I4 t3 t4) (λb4=>(.br 81 (decide (256<((b.rows.map Rw.v).length:Int))) (.bk 4 b4 ((true):Bool) [0])
(.callP (AX b.rows)
(.bk 4 b4 (((b.rows).any js):Bool) [0])))) λ(t4:Bool) =>
(.br 1 t4 (.ret (3))
(.bk 0 b0 ((()):Unit) [0]))))))) λ(t0:Unit) =>
(.loop 5 (Lp b) (I5 t0) (m5 t0) ((0):Int) [0] λ(t5:Int) b5 =>
(.br 17 (decide (t5<((b.rows.map Rw.v).length:Int))) (.elI 33 Rw.v b.rows t5 λx1 =>
(.join 6 (Lo b t5) (λ(t6:Bool)=>I6 t0 t5 x1 t6) (λb6=>(.req 145 (x1.nx.length≤1000000) λh2 =>
(.callP (QO x1.nx h2)
(.br 193 (!(lK x1.nx)) (.bk 6 b6 ((true):Bool) [0])
(.br 241 (decide (0<t5)) (.elI 305 Rw.v b.rows (W (t5-1)) λx3 =>
(.bk 6 b6 ((decide (x1.id≤x3.id)):Bool) [0]))
(.bk 6 b6 ((false):Bool) [0])))))) λ(t6:Bool) =>
(.br 1 t6 (.ret (25))
(.bk 5 b5 ((W (t5+1)):Int) [0]))))
(.callP (Lg b.rows b)
(.say (ck (dB [[.agg [.int b.router,.int b.sub,.int b.len,.sl 2 (b.rows.map Rw.v) false]]])) (.br 81 ((b.rows).any λy=>jG y b) (.ret (8))
(.ret (0)))))))))
def BY(b:Tbl)(I0:Unit→Prop)(I1:Bool→Prop)(I2:Bool→Bool→Prop)(I3:Bool→Prop)(I4:Bool→Bool→Prop)(I5:Unit→Int→Prop)(m5:Unit→Int→Nat)(I6:Unit→Int→Rw→Bool→Prop)(r0:Int):=(yF b I0 I1 I2 I3 I4 I5 m5 I6).vp yG r0
theorem Qo(b:Tbl)(ok:Qp b):∃I0 I1 I2 I3 I4 I5 m5 I6,BY b I0 I1 I2 I3 I4 I5 m5 I6 (kO b):=by
 refine⟨λ_=>kr b=false∧jB b=false,λt=>t=kr b,λ_ t=>t=jB b,λt=>t=kr b,λ_ t=>t=jB b,
  λ_ i=>ez b.rows (λx y=>x.id<y.id) i∧bi b.rows (λr=>lK r.nx=true) i,λ_ i=>b.rows.length-i.toNat,
  λ_ i x t=>t=true↔lK x.nx=false∨0<i∧∃p q,b.rows[(W (i-1)).toNat]?=some p∧b.rows[i.toNat]?=some q∧¬p.id<q.id,?_⟩
 dsimp only[BY,yF,GO,Ax.vp,Ax.vc];simp only[vcU,rfU,List.length_map]
 unfold kO
 have k1:∀t,t=kr b→(t=true→2=if kr b=true then 2 else if jB b=true then 3 else if ¬CM b.rows then 25 else if(b.rows.any λr=>jG r b)=true then 8 else(0:Int)):=by
  rintro _ rfl h;rw[if_pos h]
 have k2:kr b=false→∀t,t=jB b→(t=true→3=if kr b=true then 2 else if jB b=true then 3 else if ¬CM b.rows then 25 else if(b.rows.any λr=>jG r b)=true then 8 else(0:Int)):=by
  rintro h0 _ rfl h;rw[if_neg (by rw[h0];simp),if_pos h]
 have k3:(256<(b.rows.length:Int)→true=jB b)∧(¬256<(b.rows.length:Int)→b.rows.any js=jB b):=
  ⟨λg=>by rw[jB,decide_eq_true (by omega)];rfl,λg=>by rw[jB,decide_eq_false (by omega)];rfl⟩
 refine⟨⟨λe=>⟨?_,?_⟩,λe=>⟨?_,?_⟩⟩,?_⟩
 ·refine⟨λa=>?_,λa=>⟨λc=>?_,λc=>⟨λd=>⟨λf=>?_,λf=>?_⟩,λd=>?_⟩⟩⟩<;>simp_all [kr,hdB]
 ·intro t ht
  exact⟨k1 t ht,λh=>⟨k3,λt2 ht2=>⟨k2 (ht ▸ h) t2 ht2,λh2=>⟨ht ▸ h,ht2 ▸ h2⟩⟩⟩⟩
 ·refine⟨λa=>?_,λa=>⟨λc=>?_,λc=>⟨λd=>?_,λd=>?_⟩⟩⟩<;>simp_all [kr,hdB]
 ·intro t ht
  exact⟨k1 t ht,λh=>⟨k3,λt2 ht2=>⟨k2 (ht ▸ h) t2 ht2,λh2=>⟨ht ▸ h,ht2 ▸ h2⟩⟩⟩⟩
 rintro _ ⟨h1,h2⟩
 obtain⟨hr,hn⟩:=AZ h2
 rw[if_neg (by rw[h1];simp),if_neg (by rw[h2];simp)]
 refine⟨⟨ez.zero,bi.zero⟩,?_⟩
 rintro(i:Int) ⟨hC,hI⟩
 refine⟨λc1=>⟨hC.idx,c1,λx hx=>⟨⟨by have:=hn x (cB hx);omega,λe=>?_,λe=>⟨λh0=>?_,λh0=>?_⟩⟩,λt ht=>⟨λe=>?_,λe=>?_⟩⟩⟩,λc1=>?_⟩
 ·exact⟨λ_=>.inl (by simpa using e),λ_=>trivial⟩
 ·have e:lK x.nx=true:=by simpa using e
  obtain⟨g1,g2⟩:=hC.rng (by omega) h0 c1
  refine⟨g1,g2,λy hy=>?_⟩
  refine⟨λq=>.inr ⟨h0,y,x,hy,hx,by omega⟩,?_⟩
  rintro(q|⟨_,y',x',hy',hx',q⟩)
  ·rw[e]at q;cases q
  ·rw[hy]at hy';cases hy';rw[hx]at hx';cases hx';omega
 ·have e:lK x.nx=true:=by simpa using e
  refine⟨nofun,?_⟩
  rintro(q|q)
  ·rw[e]at q;cases q
  ·exact absurd q.1 h0
 ·have q:=ht.mp e
  rw[if_pos]
  rintro⟨o1,o2⟩
  rcases q with q|q
  ·rw[o1 x (cB hx)]at q;cases q
  ·exact(hC.next (b:=true) (by omega) c1 ⟨λ_=>q,λ_=>rfl⟩).1 rfl o2
 ·have q:¬_:=λq=>by rw[ht.mpr q]at e;cases e
  have ha:lK x.nx=true:=by
   cases z:lK x.nx
   ·exact absurd (.inl z) q
   ·rfl
  have n2:=(hC.next (b:=false) (by omega) c1 ⟨nofun,λz=>absurd (.inr z) q⟩).2 rfl
  exact⟨⟨n2.1,(hI.step (by omega) hx ha).1⟩,n2.2⟩
 ·have hO:CM b.rows:=⟨hI.done c1,hC.done c1 λ_ _ _ q r=>Int.lt_trans q r⟩
  rw[if_neg (not_not_intro hO)]
  exact⟨rfl,λe=>by rw[if_pos e],λe=>by rw[if_neg (by rw[e];simp)]⟩
def GP(b:Tbl):PC Tryz.prog:=⟨113,[(.a [.k,.k,.k,(.s 2)])],[.agg [.int b.router,.int b.sub,.int b.len,.sl 2 (b.rows.map Rw.v) false]],yG (kO b),ax.of_ok λok=>(Qo b ok).elim λI0 h=>h.elim λI1 h=>h.elim λI2 h=>h.elim λI3 h=>h.elim λI4 h=>h.elim λI5 h=>h.elim λm5 h=>h.elim λI6 h=>aw (sh:=.k) (enc:=yG) (a:=(yF b I0 I1 I2 I3 I4 I5 m5 I6).an) h (by kernel_rfl) (AV.pureB_ok rfl),aq (by kernel_rfl)⟩
theorem ES{b:Tbl}:kr b=false↔hdB b=false∧∀r∈b.rows,inP r.id 1 256=true∧∀n∈r.nx,inP n 1 99=true:=by
 unfold kr
 rw[Bool.or_eq_false_iff,List.any_eq_false]
 refine and_congr_right λ_=>forall_congr' λr=>forall_congr' λ_=>?_
 unfold jq lk
 cases inP r.id 1 256<;>simp
def kT(b:Tbl):Bool:=!(kO b==0)
def QK(b:Tbl):=okL [.agg [.int b.router,.int b.sub,.int b.len,.sl 2 (b.rows.map Rw.v) false]]
def yT(r:Bool):AV:=.bool r
def yS(b:Tbl):Ax Tryz.prog noS (Bool):=
 (.callP (GP b)
(.ret ((kO b) != 0)))
def Cj(b:Tbl)(r0:Bool):=(yS b).vp yT r0
theorem QI(b:Tbl)(ok:QK b):Cj b (kT b):=by
 dsimp only[Cj,yS,noS,Ax.vp,Ax.vc];simp only[vcU,rfU,List.length_map]
 rfl
def QJ(b:Tbl):PC Tryz.prog:=⟨112,[(.a [.k,.k,.k,(.s 2)])],[.agg [.int b.router,.int b.sub,.int b.len,.sl 2 (b.rows.map Rw.v) false]],yT (kT b),ax.of_ok λok=>aw (sh:=.k) (enc:=yT) (a:=(yS b).an) (QI b ok) (by kernel_rfl) (AV.pureB_ok rfl),aq (by kernel_rfl)⟩
def Cm(s:List Tbl):=okL [.sl 4 (s.map Tbl.v) false,.func 112 []]
def H9(s:List Tbl)(t0:Int):NF:=⟨[(0,.k,.sl 4 (s.map Tbl.v) false),(1,.k,.func 112 []),(7,.k,.int ((s.map Tbl.v).length:Int)),(8,.k,.int t0)],[]⟩
@[reducible] def Ck:Nat→Type
 | 0=>Int
 | _=>Unit
def ss(r:Int):AV:=.int r
def sr(s:List Tbl)(I0:Int→Prop)(m0:Int→Nat):Ax Tryz.prog Ck (Int):=
 (.loop 0 (H9 s) I0 m0 ((0):Int) [] λ(t0:Int) b0 =>
(.br 16 (decide (t0<((s.map Tbl.v).length:Int))) (.elI 96 Tbl.v s t0 λx1 =>
(.callP (QJ x1)
(.br 144 (kT x1) (.ret (t0))
(.bk 0 b0 ((W (t0+1)):Int) []))))
(.ret (-1))))
def va(s:List Tbl)(I0:Int→Prop)(m0:Int→Nat)(r0:Int):=(sr s I0 m0).vp ss r0
theorem LW(s:List Tbl)(ok:Cm s):∃I m,va s I m (cM kT s):=by
  refine⟨λt=>bi s (λy=>kT y=false) t,λt=>s.length-t.toNat,?_⟩
  simp only[Cm,okU,Blk.ok,aL,List.length_map]at ok
  dsimp only[va,sr,Ck,Ax.vp,Ax.vc];simp only[vcU,rfU,List.length_map]
  exact⟨bi.zero,λt h=>⟨λc=>⟨h.idx,c,λx hx=>⟨λq=>h.found hx q,λq=>h.step (by omega) hx q⟩⟩,λc=>h.lost c⟩⟩
def LX(s:List Tbl):PC Tryz.prog:=⟨137,[(.s 4),.k],[.sl 4 (s.map Tbl.v) false,.func 112 []],ss (cM kT s),ax.of_ok λok=>(LW s ok).elim λI0 h=>h.elim λm0 h=>aw (sh:=.k) (enc:=ss) (a:=(sr s I0 m0).an) h (by kernel_rfl) (AV.pureB_ok rfl),aq (by kernel_rfl)⟩
def Ma(s:List Tbl):=okL [.sl 4 (s.map Tbl.v) false,.func 112 []]
def sw(r:Bool):AV:=.bool r
def su(s:List Tbl):Ax Tryz.prog noS (Bool):=
 (.callP (LX s)
(.ret (decide (0≤(cM kT s)))))
def vb(s:List Tbl)(r0:Bool):=(su s).vp sw r0
theorem LY(s:List Tbl)(ok:Ma s):vb s (s.any kT):=by
  dsimp only[vb,su,noS,Ax.vp,Ax.vc];simp only[vcU,rfU,List.length_map]
  exact dQ _ _
def LZ(s:List Tbl):PC Tryz.prog:=⟨111,[(.s 4),.k],[.sl 4 (s.map Tbl.v) false,.func 112 []],sw (s.any kT),ax.of_ok λok=>aw (sh:=.k) (enc:=sw) (a:=(su s).an) (LY s ok) (by kernel_rfl) (AV.pureB_ok rfl),aq (by kernel_rfl)⟩
def hd0(l:List Tbl):Tbl:=l.headD ⟨0,0,0,[]⟩
def lD(b:Tbl)(l:List Tbl):Bool:=!(b.sub==(hd0 l).sub) || !(b.len==(hd0 l).len)
def PM(b:Tbl)(l:List Tbl):=okL [.agg [.int b.router,.int b.sub,.int b.len,.sl 2 (b.rows.map Rw.v) false],.rptr (.sl 4 (l.map Tbl.v) false) 0]
def yd(r:Bool):AV:=.bool r
def yc(b:Tbl)(l:List Tbl):Ax Tryz.prog noS (Bool):=
 (.el 80 Tbl.v l (λR=>Rf (l.map Tbl.v) (ck (decide (0<(l.length:Int)))
(∀x1,l[0]?=some x1 →
(R x1)))) λx1 =>
(.br 160 (b.sub != x1.sub) (.ret (true))
(.el 208 Tbl.v l (λR=>Rf (l.map Tbl.v) (ck (decide (0<(l.length:Int)))
(∀x2,l[0]?=some x2 →
(R x2)))) λx2 =>
(.ret (b.len != x2.len)))))
def BD(b:Tbl)(l:List Tbl)(r0:Bool):=(yc b l).vp yd r0
theorem Kz{l:List Tbl}{x:Tbl}(hx:l[0]?=some x):hd0 l=x:=by
 cases l with
 | nil=>cases hx
 | cons y l=>exact Option.some.inj hx
theorem PJ(b:Tbl)(l:List Tbl)(h:0<l.length)(ok:PM b l):BD b l (lD b l):=by
 dsimp only[BD,yc,noS,Ax.vp,Ax.vc];simp only[vcU,rfU,List.length_map]
 refine⟨by omega,λx hx=>?_⟩
 unfold lD
 rw[Kz hx]
 refine⟨λe=>?_,λe=>⟨by omega,λy hy=>?_⟩⟩
 ·have e:(b.sub==x.sub)=false:=by simpa using e
  rw[e];rfl
 ·rw[hx]at hy;cases hy
  have e:(b.sub==x.sub)=true:=by simpa using e
  rw[e];rfl
def PK(b:Tbl)(l:List Tbl)(h:0<l.length):PC Tryz.prog:=⟨114,[(.a [.k,.k,.k,(.s 2)]),.k],[.agg [.int b.router,.int b.sub,.int b.len,.sl 2 (b.rows.map Rw.v) false],.rptr (.sl 4 (l.map Tbl.v) false) 0],yd (lD b l),ax.of_ok λok=>aw (sh:=.k) (enc:=yd) (a:=(yc b l).an) (PJ b l h ok) (by kernel_rfl) (AV.pureB_ok rfl),aq (by kernel_rfl)⟩
def BF(s:List Tbl)(f:List Tbl):=okL [.sl 4 (s.map Tbl.v) false,.func 114 [.rptr (.sl 4 (f.map Tbl.v) false) 0]]
def GB(s:List Tbl)(f:List Tbl)(t0:Int):NF:=⟨[(0,.k,.sl 4 (s.map Tbl.v) false),(1,.k,.func 114 [.rptr (.sl 4 (f.map Tbl.v) false) 0]),(7,.k,.int ((s.map Tbl.v).length:Int)),(8,.k,.int t0)],[]⟩
@[reducible] def BE:Nat→Type
 | 0=>Int
 | _=>Unit
def rN(r:Int):AV:=.int r
def rM(s:List Tbl)(f:List Tbl)(I0:Int→Prop)(m0:Int→Nat):Ax Tryz.prog BE (Int):=
 (.loop 0 (GB s f) I0 m0 ((0):Int) [] λ(t0:Int) b0 =>
(.br 16 (decide (t0<((s.map Tbl.v).length:Int))) (.elI 96 Tbl.v s t0 λx1 =>
(.req 128 (0<f.length) λh2 =>
(.callP (PK x1 f h2)
(.br 144 (lD x1 f) (.ret (t0))
(.bk 0 b0 ((W (t0+1)):Int) [])))))
(.ret (-1))))
def uI(s:List Tbl)(f:List Tbl)(I0:Int→Prop)(m0:Int→Nat)(r0:Int):=(rM s f I0 m0).vp rN r0
theorem KL(s f:List Tbl)(h:0<s.length→0<f.length)(ok:BF s f):∃I m,uI s f I m (cM (λy=>lD y f) s):=by
 refine⟨λt=>bi s (λy=>lD y f=false) t,λt=>s.length-t.toNat,?_⟩
 simp only[BF,okU,Blk.ok,aL,List.length_map]at ok
 dsimp only[uI,rM,BE,Ax.vp,Ax.vc];simp only[vcU,rfU,List.length_map]
 exact⟨bi.zero,λt h2=>⟨λc=>⟨h2.idx,c,λx hx=>⟨h (by have:=h2.idx;omega),λq=>h2.found hx q,λq=>h2.step (by omega) hx q⟩⟩,λc=>h2.lost c⟩⟩
def KM(s:List Tbl)(f:List Tbl)(h:0<s.length→0<f.length):PC Tryz.prog:=⟨137,[(.s 4),.k],[.sl 4 (s.map Tbl.v) false,.func 114 [.rptr (.sl 4 (f.map Tbl.v) false) 0]],rN (cM (λy=>lD y f) s),ax.of_ok λok=>(KL s f h ok).elim λI0 h=>h.elim λm0 h=>aw (sh:=.k) (enc:=rN) (a:=(rM s f I0 m0).an) h (by kernel_rfl) (AV.pureB_ok rfl),aq (by kernel_rfl)⟩
def KQ(s:List Tbl)(f:List Tbl):=okL [.sl 4 (s.map Tbl.v) false,.func 114 [.rptr (.sl 4 (f.map Tbl.v) false) 0]]
def rP(r:Bool):AV:=.bool r
def rO(s:List Tbl)(f:List Tbl):Ax Tryz.prog noS (Bool):=
 (.req 48 (0<s.length→0<f.length) λh1 =>
(.callP (KM s f h1)
(.ret (decide (0≤(cM (λy=>lD y f) s))))))
def uJ(s:List Tbl)(f:List Tbl)(r0:Bool):=(rO s f).vp rP r0
theorem KN(s f:List Tbl)(h:0<s.length→0<f.length)(ok:KQ s f):uJ s f (s.any λy=>lD y f):=by
 dsimp only[uJ,rO,noS,Ax.vp,Ax.vc];simp only[vcU,rfU,List.length_map]
 exact⟨h,dQ _ _⟩
def KP(s:List Tbl)(f:List Tbl)(h:0<s.length→0<f.length):PC Tryz.prog:=⟨111,[(.s 4),.k],[.sl 4 (s.map Tbl.v) false,.func 114 [.rptr (.sl 4 (f.map Tbl.v) false) 0]],rP (s.any λy=>lD y f),ax.of_ok λok=>aw (sh:=.k) (enc:=rP) (a:=(rO s f).an) (KN s f h ok) (by kernel_rfl) (AV.pureB_ok rfl),aq (by kernel_rfl)⟩
def yU(l:List Tbl):Prop:=l.Pairwise λa b=>a.router<b.router
instance (l:List Tbl):Decidable (yU l):=by unfold yU;infer_instance
def jv(l:List Tbl):Int:=if 24<l.length then 3 else if l.any kT=true then 1 else if ¬yU l then 25 else if(l.any λb=>lD b l)=true then 8 else 0
def Qu(l:List Tbl):=okL [.sl 4 (l.map Tbl.v) false]
def Lw(l:List Tbl)(t0:Int):NF:=⟨[(1,.k,.ref 0 0),(12,.k,.int ((l.map Tbl.v).length:Int)),(13,.k,.int t0)],[.box (.sl 4 (l.map Tbl.v) false)]⟩
def Lv(l:List Tbl)(t0:Int)(t1:Bool):NF:=⟨[(1,.k,.ref 0 0),(12,.k,.int ((l.map Tbl.v).length:Int)),(13,.k,.int t0),(31,.k,.bool t1)],[.box (.sl 4 (l.map Tbl.v) false)]⟩
@[reducible] def GQ:Nat→Type
 | 0=>Int
 | 1=>Bool
 | _=>Unit
def yI(r:Int):AV:=.int r
def yH(l:List Tbl)(I0:Int→Prop)(m0:Int→Nat)(I1:Int→Bool→Prop):Ax Tryz.prog GQ (Int):=
 (.br 96 (decide (24<((l.map Tbl.v).length:Int))) (.ret (3))
(.callP (LZ l)
(.br 144 ((l).any kT) (.ret (1))
(.loop 0 (Lw l) I0 m0 ((0):Int) [0] λ(t0:Int) b0 =>
(.br 17 (decide (t0<((l.map Tbl.v).length:Int))) (.pass (.pass (.join 1 (Lv l t0) (λ(t1:Bool)=>I1 t0 t1) (λb1=>(.br 97 (decide (0<t0)) (.elI 145 Tbl.v l (W (t0-1)) λx1 =>
(.elI 225 Tbl.v l t0 λx2 =>
(.bk 1 b1 ((decide (x2.router≤x1.router)):Bool) [0])))
(.bk 1 b1 ((false):Bool) [0]))) λ(t1:Bool) =>
(.br 1 t1 (.ret (25))
(.bk 0 b0 ((W (t0+1)):Int) [0])))))
(.req 49 (0<l.length→0<l.length) λh3 =>
(.callP (KP l l h3)
(.say (ck (dB [[.sl 4 (l.map Tbl.v) false]])) (.br 65 ((l).any λy=>lD y l) (.ret (8))
(.ret (0)))))))))))
def BZ(l:List Tbl)(I0:Int→Prop)(m0:Int→Nat)(I1:Int→Bool→Prop)(r0:Int):=(yH l I0 m0 I1).vp yI r0
theorem Qq(l:List Tbl)(ok:Qu l):∃I0 m0 I1,BZ l I0 m0 I1 (jv l):=by
 refine⟨λi=>ez l (λx y=>x.router<y.router) i,λi=>l.length-i.toNat,λi t=>t=true↔0<i∧∃p q,l[(W (i-1)).toNat]?=some p∧l[i.toNat]?=some q∧¬p.router<q.router,?_⟩
 dsimp only[BZ,yH,GQ,Ax.vp,Ax.vc];simp only[vcU,rfU,List.length_map]
 unfold jv
 refine⟨λg=>by rw[if_pos (by omega)],λg=>?_⟩
 rw[if_neg (by omega)]
 refine⟨λe=>by rw[if_pos e],λe=>?_⟩
 rw[if_neg (by rw[e];simp)]
 refine⟨ez.zero,λi hC=>⟨λc1=>⟨⟨λh0=>?_,λh0=>⟨nofun,λq=>absurd q.1 h0⟩⟩,λt ht=>⟨λe=>?_,λe=>?_⟩⟩,λc1=>?_⟩⟩
 ·obtain⟨g1,g2⟩:=hC.rng (by omega) h0 c1
  refine⟨g1,g2,λy hy=>⟨hC.idx,c1,λx hx=>?_⟩⟩
  refine⟨λq=>⟨h0,y,x,hy,hx,by omega⟩,?_⟩
  rintro⟨_,y',x',hy',hx',q⟩
  rw[hy]at hy';cases hy';rw[hx]at hx';cases hx'
  omega
 ·rw[if_pos]
  exact λo=>(hC.next (b:=true) (by omega) c1 ⟨λ_=>ht.mp e,λ_=>rfl⟩).1 rfl o
 ·exact(hC.next (b:=false) (by omega) c1 ⟨nofun,λz=>by rw[ht.mpr z]at e;cases e⟩).2 rfl
 ·have hO:yU l:=hC.done c1 λ_ _ _ q r=>Int.lt_trans q r
  rw[if_neg (not_not_intro hO)]
  exact⟨λq=>q,i8 rfl,λe=>by rw[if_pos e],λe=>by rw[if_neg (by rw[e];simp)]⟩
def Qs(l:List Tbl):PC Tryz.prog:=⟨77,[(.s 4)],[.sl 4 (l.map Tbl.v) false],yI (jv l),ax.of_ok λok=>(Qq l ok).elim λI0 h=>h.elim λm0 h=>h.elim λI1 h=>aw (sh:=.k) (enc:=yI) (a:=(yH l I0 m0 I1).an) h (by kernel_rfl) (AV.pureB_ok rfl),aq (by kernel_rfl)⟩
theorem iR{b:Tbl}(h:kO b=0):1≤b.router∧b.router≤99∧b.rows.length≤256∧(cY b.len=true∨b.len=0∧b.rows=[])∧(∀r∈b.rows,(1≤r.id∧r.id≤256)∧r.nx.length≤24∧∀n∈r.nx,1≤n∧n≤99)∧b.rows.Pairwise λx y=>x.id<y.id:=by
 unfold kO at h
 split at h
 ·cases h
 rename_i h1
 split at h
 ·cases h
 rename_i h2
 split at h
 ·cases h
 rename_i h3
 have h3:=Classical.not_not.mp h3
 have h1:kr b=false:=by simpa using h1
 have h2:=AZ (by simpa using h2:jB b=false)
 obtain⟨h1,h4⟩:=ES.mp h1
 unfold hdB at h1
 have i1:∀{n a c:Int},inP n a c=true→a≤n∧n≤c:=λq=>nF.mp (by rw[q];rfl)
 have h1:(inP b.router 1 99=true∧inP b.sub 0 7=true)∧(cY b.len=true∨b.len=0∧b.rows.length=0):=by
  cases q1:inP b.router 1 99<;>cases q2:inP b.sub 0 7<;>cases q3:cY b.len<;>simp_all
 refine⟨(i1 h1.1.1).1,(i1 h1.1.1).2,h2.1,?_,λr hr=>⟨i1 (h4 r hr).1,h2.2 r hr,λn hn=>i1 ((h4 r hr).2 n hn)⟩,h3.2⟩
 rcases h1.2 with q|q
 ·exact .inl q
 ·exact .inr ⟨q.1,List.length_eq_zero_iff.mp q.2⟩
theorem gD{l:List Tbl}(h:jv l=0):l.length≤24∧(∀b∈l,kO b=0)∧yU l:=by
 unfold jv at h
 split at h
 ·cases h
 rename_i h1
 split at h
 ·cases h
 rename_i h2
 split at h
 ·cases h
 rename_i h3
 refine⟨by omega,λb hb=>?_,Classical.not_not.mp h3⟩
 have h2:l.any kT=false:=by simpa using h2
 have:=List.any_eq_false.mp h2 b hb
 unfold kT at this
 simpa using this
def nI(nx:List Int)(p:Int):Int:=if nx.length=0 then 0 else nx.getD (p.tmod nx.length).toNat 0
def Pi(r:Rw)(plane:Int):=okL [.agg [.int r.id,.sl 1 (r.nx.map AV.int) false],.int plane]
def xz(r:Int):AV:=.int r
def xy(r:Rw)(plane:Int):Ax Tryz.prog noS (Int):=
 (.br 96 (((r.nx.map AV.int).length:Int)==0) (.ret (0))
(.say (ck (!(((r.nx.map AV.int).length:Int)==0))) (.elI 208 AV.int r.nx (plane.tmod ((r.nx.map AV.int).length:Int)) λx1 =>
(.ret (x1)))))
def Bq(r:Rw)(plane:Int)(r0:Int):=(xy r plane).vp xz r0
theorem DS{p:Int}{n:Nat}(h:0≤p)(hn:n≠0):0≤p.tmod n∧p.tmod n<n:=⟨Int.tmod_nonneg _ h,Int.tmod_lt_of_pos _ (show(0:Int)<n by omega)⟩
theorem FV{nx:List Int}{p x:Int}(hn:nx.length≠0)(hx:nx[(p.tmod nx.length).toNat]?=some x):nI nx p=x:=by
 unfold nI;rw[if_neg hn,List.getD_eq_getElem?_getD,hx];rfl
theorem Pg(r:Rw)(p:Int)(h:0≤p)(ok:Pi r p):Bq r p (nI r.nx p):=by
 dsimp only[Bq,xy,noS,Ax.vp,Ax.vc];simp only[vcU,rfU,List.length_map]
 refine⟨λe=>by rw[nI,if_pos (by have:=eq_of_beq e;omega)],λe=>?_⟩
 have e:r.nx.length≠0:=λq=>by rw[q]at e;simp at e
 have hr:=DS h e
 exact⟨by simp;intro q;rw[q]at e;exact e rfl,hr.1,hr.2,λx hx=>(FV e hx).symm⟩
def Ph(r:Rw)(plane:Int)(h:0≤plane):PC Tryz.prog:=⟨147,[(.a [.k,(.s 1)]),.k],[.agg [.int r.id,.sl 1 (r.nx.map AV.int) false],.int plane],xz (nI r.nx plane),ax.of_ok λok=>aw (sh:=.k) (enc:=xz) (a:=(xy r plane).an) (Pg r plane h ok) (by kernel_rfl) (AV.pureB_ok rfl),aq (by kernel_rfl)⟩
def sW(b:Tbl)(id:Int):Rw×Bool:=match b.rows.find? λr=>r.id==id with
 | some r=>(r,true)
 | none=>(⟨0,[]⟩,false)
def El(b:Tbl)(id:Int):=okL [.agg [.int b.router,.int b.sub,.int b.len,.sl 2 (b.rows.map Rw.v) false],.int id]
def IY(b:Tbl)(id:Int)(t0:Int):NF:=⟨[(1,.k,.int id),(4,.k,.ref 0 0),(9,.k,.sl 2 (b.rows.map Rw.v) false),(10,.k,.int ((b.rows.map Rw.v).length:Int)),(11,.k,.int t0)],[.box (.agg [.int 0,.sl 0 [] true])]⟩
@[reducible] def Ek:Nat→Type
 | 0=>Int
 | _=>Unit
def vZ(r:Rw×Bool):AV:=.tup [Rw.v r.1,.bool r.2]
def vY(b:Tbl)(id:Int)(I0:Int→Prop)(m0:Int→Nat):Ax Tryz.prog Ek (Rw×Bool):=
 (.loop 0 (IY b id) I0 m0 ((0):Int) [16] λ(t0:Int) b0 =>
(.br 17 (decide (t0<((b.rows.map Rw.v).length:Int))) (.elI 17 Rw.v b.rows t0 λx1 =>
(.br 145 (x1.id==id) (.req 193 (x1.nx.length≤1000000) λh2 =>
(.callP (uW x1.nx h2)
(.ret ((⟨id,x1.nx⟩:Rw),true))))
(.bk 0 b0 ((W (t0+1)):Int) [0])))
(.ret ((⟨0,[]⟩:Rw),false))))
def zU(b:Tbl)(id:Int)(I0:Int→Prop)(m0:Int→Nat)(r0:Rw×Bool):=(vY b id I0 m0).vp vZ r0
theorem NH(b:Tbl)(id:Int)(h:∀r∈b.rows,r.nx.length≤1000000)(ok:El b id):∃I m,zU b id I m (sW b id):=by
 refine⟨λt=>bi b.rows (λr=>(r.id==id)=false) t,λt=>b.rows.length-t.toNat,?_⟩
 simp only[El,okU,Blk.ok,aL,List.length_map]at ok
 dsimp only[zU,vY,Ek,Ax.vp,Ax.vc];simp only[vcU,rfU,List.length_map]
 refine⟨bi.zero,λt h1=>⟨λc=>⟨h1.idx,c,λx hx=>⟨λq=>⟨h x (cB hx),?_⟩,λq=>h1.step (by omega) hx q⟩⟩,λc=>?_⟩⟩
 ·rw[sW,h1.find (p:=λr:Rw=>r.id==id) hx q,←eq_of_beq q]
 ·rw[sW,h1.nofind (p:=λr:Rw=>r.id==id) c]
def NI(b:Tbl)(id:Int)(h:∀r∈b.rows,r.nx.length≤1000000):PC Tryz.prog:=⟨146,[(.a [.k,.k,.k,(.s 2)]),.k],[.agg [.int b.router,.int b.sub,.int b.len,.sl 2 (b.rows.map Rw.v) false],.int id],vZ (sW b id),ax.of_ok λok=>(NH b id h ok).elim λI0 h=>h.elim λm0 h=>aw (sh:=(.a [(.a [.k,(.s 1)]),.k])) (enc:=vZ) (a:=(vY b id I0 m0).an) h (by kernel_rfl) (AV.pureB_ok rfl),aq (by kernel_rfl)⟩
def mc(b:Tbl)(id p:Int):Int:=nI (sW b id).1.nx p
def mvl(b:Tbl)(pl st:Int):Bool:=(kO b==0) && (decide (0≤pl∧pl<8) && decide (0≤st∧st≤31))
def mvl_a(b:Tbl)(plane:Int)(set_:Int):=okL [.agg [.int b.router,.int b.sub,.int b.len,.sl 2 (b.rows.map Rw.v) false],.int plane,.int set_]
def Fs(r:Bool):AV:=.bool r
def Fp(b:Tbl)(plane:Int)(set_:Int):Ax Tryz.prog noS (Bool):=
 (.callP (GP b)
(.br 96 ((kO b)==0) (.br 160 (decide (0≤plane)) (.br 224 (decide (plane<8)) (.br 288 (decide (0≤set_)) (.ret (decide (set_≤31)))
(.ret (false)))
(.ret (false)))
(.ret (false)))
(.ret (false))))
def Fq(b:Tbl)(plane:Int)(set_:Int)(r0:Bool):=(Fp b plane set_).vp Fs r0
theorem mvl_p(b:Tbl)(pl st:Int)(ok:mvl_a b pl st):Fq b pl st (mvl b pl st):=by
 dsimp only[Fq,Fp,noS,Ax.vp,Ax.vc];simp only[vcU,rfU,List.length_map]
 unfold mvl
 refine⟨λe=>⟨λe1=>⟨λe2=>⟨λe3=>?_,λe3=>?_⟩,λe2=>?_⟩,λe1=>?_⟩,λe=>by rw[e];rfl⟩<;>simp[e, *]
def mvl_c(b:Tbl)(plane:Int)(set_:Int):PC Tryz.prog:=⟨145,[(.a [.k,.k,.k,(.s 2)]),.k,.k],[.agg [.int b.router,.int b.sub,.int b.len,.sl 2 (b.rows.map Rw.v) false],.int plane,.int set_],Fs (mvl b plane set_),ax.of_ok λok=>aw (sh:=.k) (enc:=Fs) (a:=(Fp b plane set_).an) (mvl_p b plane set_ ok) (by kernel_rfl) (AV.pureB_ok rfl),aq (by kernel_rfl)⟩
theorem AL{b:Tbl}{pl st:Int}:mvl b pl st=true↔kO b=0∧(0≤pl∧pl<8)∧0≤st∧st≤31:=by
 unfold mvl;rw[Bool.and_eq_true,Bool.and_eq_true,decide_eq_true_iff,decide_eq_true_iff,beq_iff_eq]
def tC(b:Tbl)(id pl:Int):Int:=if mvl b pl 0=true then mc b id pl else 0
def Ox(b:Tbl)(id:Int)(plane:Int):=okL [.agg [.int b.router,.int b.sub,.int b.len,.sl 2 (b.rows.map Rw.v) false],.int id,.int plane]
def wM(r:Int):AV:=.int r
def wL(b:Tbl)(id:Int)(plane:Int):Ax Tryz.prog noS (Int):=
 (.callP (mvl_c b plane 0)
(.br 96 (!(mvl b plane 0)) (.ret (0))
(.req 128 (∀r∈b.rows,r.nx.length≤1000000) λh1 =>
(.callP (NI b id h1)
(.req 272 (0≤plane) λh2 =>
(.callP (Ph ((sW b id).1) plane h2)
(.ret (nI ((sW b id).1).nx plane))))))))
def AB(b:Tbl)(id:Int)(plane:Int)(r0:Int):=(wL b id plane).vp wM r0
theorem Ov(b:Tbl)(id pl:Int)(ok:Ox b id pl):AB b id pl (tC b id pl):=by
 dsimp only[AB,wL,noS,Ax.vp,Ax.vc];simp only[vcU,rfU,List.length_map]
 unfold tC
 refine⟨λe=>by rw[if_neg (by simpa using e)],λe=>?_⟩
 have e:mvl b pl 0=true:=by simpa using e
 have h:=AL.mp e
 rw[if_pos e]
 exact⟨λr hr=>by have:=((iR h.1).2.2.2.2.1 r hr).2.1;omega,by omega,rfl⟩
def Ow(b:Tbl)(id:Int)(plane:Int):PC Tryz.prog:=⟨115,[(.a [.k,.k,.k,(.s 2)]),.k,.k],[.agg [.int b.router,.int b.sub,.int b.len,.sl 2 (b.rows.map Rw.v) false],.int id,.int plane],wM (tC b id plane),ax.of_ok λok=>aw (sh:=.k) (enc:=wM) (a:=(wL b id plane).an) (Ov b id plane ok) (by kernel_rfl) (AV.pureB_ok rfl),aq (by kernel_rfl)⟩
def jR(nx:Int→Int)(b:Int):Nat→Int→List Int→Option (List Int)
 | 0,_,_=>none
 | f+1,a,way=>if a=0 then none else if a=b then some way else jR nx b f (nx a) (way++[a])
def itN(nx:Int→Int)(b:Int):Nat→Int
 | 0=>b
 | k+1=>nx (itN nx b k)
theorem mo(nx:Int→Int)(b:Int)(i:Nat):∀j,itN nx b (i+j)=itN nx (itN nx b i) j
 | 0=>rfl
 | j+1=>by rw[←Nat.add_assoc,itN,itN,mo nx b i j]
def oB(nx:Int→Int)(b:Int)(m:Nat):Prop:=1≤m∧itN nx b m=b∧∀j,1≤j→j<m→itN nx b j≠b∧itN nx b j≠0
def kY(nx:Int→Int)(b:Int)(m:Nat):List Int:=(List.range m).map (itN nx b)
theorem C7(nx:Int→Int)(b:Int)(m:Nat):kY nx b (m+1)=kY nx b m++[itN nx b m]:=by simp[kY,List.range_succ]
theorem oD{nx:Int→Int}{b:Int}(hb:b≠0):∀{f k:Nat} {w:List Int},1≤k→(∀j,1≤j→j<k→itN nx b j≠b∧itN nx b j≠0) →
  (jR nx b f (itN nx b k) (kY nx b k)=some w↔∃m,k≤m∧m<k+f∧oB nx b m∧w=kY nx b m)
 | 0,k,w,h1,hk=>by
  rw[jR]
  exact⟨nofun,λ⟨m,h1,h2,_⟩=>by omega⟩
 | f+1,k,w,h1,hk=>by
  rw[jR]
  by_cases e0:itN nx b k=0
  ·rw[if_pos e0]
   refine⟨nofun,λ⟨m,h2,h3,⟨h4,h5,h6⟩,_⟩=>?_⟩
   by_cases e:m=k
   ·subst e;rw[h5]at e0;exact absurd e0 hb
   ·exact absurd e0 (h6 k h1 (by omega)).2
  rw[if_neg e0]
  by_cases e1:itN nx b k=b
  ·rw[if_pos e1]
   constructor
   ·intro e;cases e
    exact⟨k,Nat.le_refl _,by omega,⟨h1,e1,hk⟩,rfl⟩
   ·rintro⟨m,h2,h3,⟨h4,h5,h6⟩,rfl⟩
    by_cases e:m=k
    ·rw[e]
    ·exact absurd e1 (h6 k h1 (by omega)).1
  rw[if_neg e1]
  have hk2:∀j,1≤j→j<k+1→itN nx b j≠b∧itN nx b j≠0:=λj a c=>by
   by_cases e:j=k
   ·subst e;exact⟨e1,e0⟩
   ·exact hk j a (by omega)
  have:=oD hb (f:=f) (k:=k+1) (w:=w) (by omega) hk2
  rw[C7]at this
  rw[show nx (itN nx b k)=itN nx b (k+1)from rfl,this]
  constructor
  ·rintro⟨m,h2,h3,h4⟩;exact⟨m,by omega,by omega,h4⟩
  ·rintro⟨m,h2,h3,h4,h5⟩
   refine⟨m,?_,by omega,h4,h5⟩
   have:m≠k:=λe=>by subst e;exact e1 h4.2.1
   omega
theorem oB.ne{nx:Int→Int}{b:Int}(hb:b≠0){m:Nat}(h:oB nx b m){x:Int}(hx:x∈kY nx b m):nx x≠0:=by
 unfold kY at hx
 obtain⟨i,hi,rfl⟩:=List.mem_map.mp hx
 have hi:=List.mem_range.mp hi
 show itN nx b (i+1)≠0
 by_cases e:i+1=m
 ·rw[e,h.2.1];exact hb
 ·exact(h.2.2 (i+1) (by omega) (by omega)).2
theorem rr{p:Nat→Prop}(h:∃n,p n):∃n,p n∧∀m,m<n→¬p m:=by
 obtain⟨n,hn⟩:=h
 induction n using Nat.strongRecOn with
 | ind n ih =>
  by_cases e:∃m,m<n∧p m
  ·obtain⟨m,h1,h2⟩:=e;exact ih m h1 h2
  ·exact⟨n,hn,λm h1 h2=>e ⟨m,h1,h2⟩⟩
theorem oB.of{nx:Int→Int}(h0:nx 0=0){b:Int}(hb:b≠0){m:Nat}(h1:1≤m)(h:itN nx b m=b):∃k,k≤m∧oB nx b k:=by
 obtain⟨k,⟨k1,k2⟩,k3⟩:=rr (p:=λk=>1≤k∧itN nx b k=b) ⟨m,h1,h⟩
 have hkm:k≤m:=by
  by_cases e:m<k
  ·exact absurd ⟨h1,h⟩ (k3 m e)
  ·omega
 refine⟨k,hkm,k1,k2,λj j1 j2=>⟨λe=>k3 j j2 ⟨j1,e⟩,λe=>?_⟩⟩
 have z:∀i,itN nx 0 i=0:=λi=>by
  induction i with
  | zero=>rfl
  | succ i ih=>rw[itN,ih,h0]
 have:itN nx b (j+(k-j))=0:=by rw[mo,e,z]
 rw[show j+(k-j)=k by omega,k2]at this
 exact hb this
theorem oB.turn{nx:Int→Int}{b:Int}{m:Nat}(h:oB nx b m){x:Int}(hx:x∈kY nx b m):itN nx x m=x:=by
 unfold kY at hx
 obtain⟨i,hi,rfl⟩:=List.mem_map.mp hx
 rw[←mo,Nat.add_comm,mo,h.2.1]
def nxT(l:List Tbl)(id pl r:Int):Int:=match l.find? λb=>b.router==r with
 | some b=>if mc b id pl=r then 0 else mc b id pl
 | none=>0
def nv(l:List Tbl)(id pl:Int)(n:Nat):List Tbl→List Int
 | []=>[]
 | b::q=>match jR (nxT l id pl) b.router n (nxT l id pl b.router) [b.router]with
  | some w=>w
  | none=>nv l id pl n q
def j4(l:List Tbl)(id pl:Int):List Int:=nv l id pl l.length l
theorem zq{nx:Int→Int}{b:Int}(hb:b≠0){f:Nat}{w:List Int}:jR nx b f (nx b) [b]=some w↔∃m,m<1+f∧oB nx b m∧w=kY nx b m:=by
 have:=oD (nx:=nx) hb (f:=f) (k:=1) (w:=w) (Nat.le_refl _) (λj a c=>by omega)
 have e:kY nx b 1=[b]:=rfl
 rw[e]at this
 rw[show nx b=itN nx b 1 from rfl,this]
 exact⟨λ⟨m,_,h2,h3,h4⟩=>⟨m,h2,h3,h4⟩,λ⟨m,h2,h3,h4⟩=>⟨m,h3.1,h2,h3,h4⟩⟩
def QM(l:List Tbl):Prop:=yU l∧∀b∈l,1≤b.router
theorem GT{l:List Tbl}(h:jv l=0):QM l:=⟨(gD h).2.2,λb hb=>(iR ((gD h).2.1 b hb)).1⟩
theorem AE{l:List Tbl}{id pl r:Int}(h:nxT l id pl r≠0):∃b∈l,b.router=r∧(l.find? λb=>b.router==r)=some b∧mc b id pl=nxT l id pl r∧nxT l id pl r≠r:=by
 unfold nxT at h ⊢
 cases e:l.find? λb=>b.router==r with
 | none=>rw[e]at h;exact absurd rfl h
 | some b =>
  rw[e]at h
  simp only at h ⊢
  by_cases c:mc b id pl=r
  ·rw[if_pos c]at h;exact absurd rfl h
  ·rw[if_neg c]
   exact⟨b,List.mem_of_find?_eq_some e,by simpa using List.find?_some e,rfl,rfl,c⟩
theorem Fg{l:List Tbl}(ha:QM l)(id pl:Int):nxT l id pl 0=0:=by
 refine Classical.byContradiction λh=>?_
 obtain⟨b,hb,e,_⟩:=AE h
 have:=ha.2 b hb;omega
theorem nu{l:List Tbl}{id pl:Int}{n:Nat}:∀{q:List Tbl} {w:List Int},nv l id pl n q=w→w≠[] →
  ∃p b s,q=p++b::s∧jR (nxT l id pl) b.router n (nxT l id pl b.router) [b.router]=some w∧∀c∈p,jR (nxT l id pl) c.router n (nxT l id pl c.router) [c.router]=none
 | [],w,h,hw=>absurd (by rw[←h];rfl) hw
 | b::q,w,h,hw=>by
  rw[nv]at h
  cases e:jR (nxT l id pl) b.router n (nxT l id pl b.router) [b.router]with
  | some w'=>rw[e]at h;exact⟨[],b,q,rfl,by rw[←h];exact e,by simp⟩
  | none =>
   rw[e]at h
   obtain⟨p,c,s,h1,h2,h3⟩:=nu h hw
   exact⟨b::p,c,s,by rw[h1];rfl,h2,λx hx=>by
    rcases List.mem_cons.mp hx with rfl|hx
    ·exact e
    ·exact h3 x hx⟩
theorem F2{l:List Tbl}(ha:QM l){id pl:Int}{w:List Int}(h:j4 l id pl=w)(hw:w≠[]):∃b m,b≠0∧oB (nxT l id pl) b m∧w=kY (nxT l id pl) b m∧∀x∈w,b≤x:=by
 obtain⟨p,b,s,h1,h2,h3⟩:=nu h hw
 have hb0:∀c∈l,c.router≠0:=λc hc=>by have:=ha.2 c hc;omega
 have hbl:b∈l:=by rw[h1];simp
 obtain⟨m,hm,hB,rfl⟩:=(zq (hb0 b hbl)).mp h2
 refine⟨b.router,m,hb0 b hbl,hB,rfl,λx hx=>Classical.byContradiction λhlt=>?_⟩
 obtain⟨c,hc,rfl,_⟩:=AE (hB.ne (hb0 b hbl) hx)
 have hcp:c∈p:=by
  rw[h1]at hc
  rcases List.mem_append.mp hc with hc|hc
  ·exact hc
  ·have hp:l.Pairwise λa b=>a.router<b.router:=ha.1
   rw[h1,List.pairwise_append]at hp
   rcases List.mem_cons.mp hc with rfl|hc
   ·exact absurd (Int.le_refl _) hlt
   ·have:=(List.pairwise_cons.mp hp.2.1).1 c hc;omega
 obtain⟨k,hk,hB2⟩:=oB.of (Fg ha id pl) (hb0 c hc) hB.1 (hB.turn hx)
 have:=(zq (nx:=nxT l id pl) (b:=c.router) (f:=l.length) (w:=kY (nxT l id pl) c.router k) (hb0 c hc)).mpr ⟨k,by omega,hB2,rfl⟩
 rw[h3 c hcp]at this;cases this
def okT(b:Tbl):Prop:=b.rows.length≤1000∧∀r∈b.rows,r.nx.length≤100000
def lp(l:List Tbl):Prop:=l.length≤1000∧∀b∈l,okT b
def gu(l:List Tbl)(r:Int):Tbl×Bool:=match l.find? λb=>b.router==r with
 | some b=>(b,true)
 | none=>(⟨0,0,0,[]⟩,false)
theorem Fh{q:List Tbl}{b:Tbl}{id pl:Int}(hn:∀a∈q,a.router≠b.router)(x:Int):nxT (q++[b]) id pl x=if x=b.router then(if mc b id pl=b.router then 0 else mc b id pl)else nxT q id pl x:=by
 unfold nxT
 rw[List.find?_append]
 by_cases e:x=b.router
 ·subst e
  rw[if_pos rfl,show(q.find? λa=>a.router==b.router)=none from List.find?_eq_none.mpr λa ha=>by simpa using hn a ha]
  simp
 ·rw[if_neg e]
  cases h:q.find? λa=>a.router==x with
  | some a=>rfl
  | none=>simp[Ne.symm e]
structure NxI (id pl:Int) (q:List Tbl) (M:Dis):Prop where
  nd:(av M).Nodup
  val:∀x,aB M x 0=nxT q id pl x
theorem Fv{M:Dis}(hn:(av M).Nodup)(k v x:Int):aB (bo M k v) x 0=if x=k then v else aB M x 0:=by
 have hn':=dy (x:=k) (v:=v) hn
 by_cases e:x=k
 ·subst e
  rw[if_pos rfl]
  exact dD hn' ((bP hn).mpr (.inl rfl))
 ·rw[if_neg e]
  cases h:aY M x with
  | true=>exact dD hn' ((bP hn).mpr (.inr ⟨bI h,e⟩))
  | false =>
   rw[bV h]
   refine bV ?_
   rw[tG hn,h,decide_eq_false e];rfl
def F1(l:List Tbl)(id:Int)(plane:Int):=okL [.sl 4 (l.map Tbl.v) false,.int id,.int plane]
def Kc(l:List Tbl)(id:Int)(plane:Int)(t0:Int×(List (Int×Int))):NF:=⟨[(0,.k,.sl 4 (l.map Tbl.v) false),(1,.k,.int id),(2,.k,.int plane),(7,.k,.mref 0),(16,.k,.sl 4 (l.map Tbl.v) false),(17,.k,.int ((l.map Tbl.v).length:Int)),(18,.k,.int t0.1)],[.map none (t0.2.map λp=>MK.n p.1) (t0.2.map λp=>AV.int p.2) (ae (λ_=>rfl) _)]⟩
def Kb(l:List Tbl)(t0:Int×(List (Int×Int)))(t1:Int):NF:=⟨[(0,.k,.sl 4 (l.map Tbl.v) false),(7,.k,.mref 0),(35,.k,.sl 4 (l.map Tbl.v) false),(36,.k,.int ((l.map Tbl.v).length:Int)),(37,.k,.int t1)],[.map none (t0.2.map λp=>MK.n p.1) (t0.2.map λp=>AV.int p.2) (ae (λ_=>rfl) _)]⟩
def Ka(l:List Tbl)(t0:Int×(List (Int×Int)))(t1:Int)(x2:Tbl)(t2:Int×List Int):NF:=⟨[(0,.k,.sl 4 (l.map Tbl.v) false),(7,.k,.mref 0),(12,.k,.ref 1 0),(13,.k,.vec 2),(14,.k,.int t2.1),(35,.k,.sl 4 (l.map Tbl.v) false),(36,.k,.int ((l.map Tbl.v).length:Int)),(37,.k,.int t1)],[.map none (t0.2.map λp=>MK.n p.1) (t0.2.map λp=>AV.int p.2) (ae (λ_=>rfl) _),.box (.agg [.int x2.router,.int x2.sub,.int x2.len,.sl 2 (x2.rows.map Rw.v) false]),.vec 1 (t2.2.map AV.int) (ae (λ_=>rfl) t2.2)]⟩
def JZ(l:List Tbl)(t0:Int×(List (Int×Int)))(t1:Int)(x2:Tbl)(t2:Int×List Int)(t3:Bool):NF:=⟨[(0,.k,.sl 4 (l.map Tbl.v) false),(7,.k,.mref 0),(12,.k,.ref 1 0),(13,.k,.vec 2),(14,.k,.int t2.1),(35,.k,.sl 4 (l.map Tbl.v) false),(36,.k,.int ((l.map Tbl.v).length:Int)),(37,.k,.int t1),(56,.k,.bool t3)],[.map none (t0.2.map λp=>MK.n p.1) (t0.2.map λp=>AV.int p.2) (ae (λ_=>rfl) _),.box (.agg [.int x2.router,.int x2.sub,.int x2.len,.sl 2 (x2.rows.map Rw.v) false]),.vec 1 (t2.2.map AV.int) (ae (λ_=>rfl) t2.2)]⟩
@[reducible] def F0:Nat→Type
 | 0=>Int×(List (Int×Int))
 | 1=>Int
 | 2=>Int×List Int
 | 3=>Bool
 | _=>Unit
def wX(r:List Int):AV:=.sl 1 (r.map AV.int) false
def wW(l:List Tbl)(id:Int)(plane:Int)(I0:(Int×(List (Int×Int)))→Prop)(m0:(Int×(List (Int×Int)))→Nat)(I1:Int×(List (Int×Int))→Int→Prop)(m1:Int×(List (Int×Int))→Int→Nat)(I2:Int×(List (Int×Int))→Int→Tbl→(Int×List Int)→Prop)(m2:Int×(List (Int×Int))→Int→Tbl→(Int×List Int)→Nat)(I3:Int×(List (Int×Int))→Int→Tbl→Int×List Int→Bool→Prop):Ax Tryz.prog F0 ((List Int)):=
 (.loop 0 (Kc l id plane) I0 m0 (0,([]:List (Int×Int))) [16] λ(t0:Int×(List (Int×Int))) b0 =>
(.br 17 (decide (t0.1<((l.map Tbl.v).length:Int))) (.elI 17 Tbl.v l t0.1 λx1 =>
(.callP (Ow x1 id plane)
(.br 225 ((tC x1 id plane) != x1.router) (.mn 289 (nk AV.int t0.2 x1.router (tC x1 id plane)) (.bk 0 b0 (W (t0.1+1),bo t0.2 x1.router (tC x1 id plane)) [0]))
(.bk 0 b0 (W (t0.1+1),t0.2) [0]))))
(.loop 1 (Kb l t0) (I1 t0) (m1 t0) ((0):Int) [0] λ(t1:Int) b1 =>
(.br 17 (decide (t1<((l.map Tbl.v).length:Int))) (.elI 17 Tbl.v l t1 λx2 =>
(.own 113 (.mn 193 (jA AV.int t0.2 x2.router 0) (.loop 2 (Ka l t0 t1 x2) (I2 t0 t1 x2) (m2 t0 t1 x2) (aB t0.2 x2.router 0,[x2.router]) [0,49,113] λ(t2:Int×List Int) b2 =>
(.pass (.join 3 (JZ l t0 t1 x2 t2) (λ(t3:Bool)=>I3 t0 t1 x2 t2 t3) (λb3=>(.br 51 (t2.1 != 0) (.bk 3 b3 ((decide (((t2.2.map AV.int).length:Int)≤((l.map Tbl.v).length:Int))):Bool) [0,1,2])
(.bk 3 b3 ((false):Bool) [0,1,2]))) λ(t3:Bool) =>
(.br 3 t3 (.br 67 (t2.1==x2.router) (.fz 2 AV.int t2.2 (λ_=>rfl) (.ret (t2.2)))
(.apX 115 AV.int t2.2 [t2.1] (t2.2.length+1)
(.mn 179 (jA AV.int t0.2 t2.1 0) (.bk 2 b2 (aB t0.2 t2.1 0,t2.2++[t2.1]) [0,1,115]))))
(.bk 1 b1 ((W (t1+1)):Int) [0]))))))))
(.ret ([]))))))
def AS(l:List Tbl)(id:Int)(plane:Int)(I0:(Int×(List (Int×Int)))→Prop)(m0:(Int×(List (Int×Int)))→Nat)(I1:Int×(List (Int×Int))→Int→Prop)(m1:Int×(List (Int×Int))→Int→Nat)(I2:Int×(List (Int×Int))→Int→Tbl→(Int×List Int)→Prop)(m2:Int×(List (Int×Int))→Int→Tbl→(Int×List Int)→Nat)(I3:Int×(List (Int×Int))→Int→Tbl→Int×List Int→Bool→Prop)(r0:List Int):=(wW l id plane I0 m0 I1 m1 I2 m2 I3).vp wX r0
theorem OG(l:List Tbl)(id pl:Int)(hc:jv l=0)(hp:0≤pl∧pl<8)(ok:F1 l id pl):∃I0 m0 I1 m1 I2 m2 I3,AS l id pl I0 m0 I1 m1 I2 m2 I3 (j4 l id pl):=by
 refine⟨λs=>∃k:Nat,s.1=k∧k≤l.length∧NxI id pl (l.take k) s.2,λs=>l.length-s.1.toNat,
  λt i=>(∀x,aB t.2 x 0=nxT l id pl x)∧∃k:Nat,i=k∧k≤l.length∧nv l id pl l.length (l.drop k)=j4 l id pl,λt i=>l.length-i.toNat,
  λt i b q=>((∀x,aB t.2 x 0=nxT l id pl x)∧∃k:Nat,i=k∧k<l.length∧l[k]?=some b∧nv l id pl l.length (l.drop k)=j4 l id pl)∧(1≤q.2.length∧q.2.length≤l.length+1)∧jR (nxT l id pl) b.router (l.length+1-q.2.length) q.1 q.2=jR (nxT l id pl) b.router l.length (nxT l id pl b.router) [b.router],
  λt i b q=>l.length+2-q.2.length,λt i b q u=>u=decide (q.1≠0∧q.2.length≤l.length),?_⟩
 obtain⟨hl,hb,ha⟩:=gD hc
 simp only[F1,okU,Blk.ok,aL,List.length_map]at ok
 dsimp only[AS,wW,F0,Ax.vp,Ax.vc];simp only[vcU,rfU,List.length_map]
 refine⟨⟨0,rfl,by omega,List.nodup_nil,λx=>by rw[bV (by unfold aY av;simp)];rfl⟩,?_⟩
 rintro⟨_,M⟩ ⟨k,rfl,hk,hM⟩
 simp only at hM ⊢
 rw[Int.toNat_natCast]
 refine⟨λc=>⟨by omega,c,λb hbk=>?_⟩,λc=>⟨⟨λx=>?_,0,rfl,by omega,rfl⟩,?_⟩⟩
 ·have hbm:=List.mem_of_getElem? hbk
  have e:tC b id pl=mc b id pl:=by unfold tC;rw[if_pos (AL.mpr ⟨hb b hbm,hp,by omega,by omega⟩)]
  have w:W ((k:Int)+1)=((k+1:Nat):Int):=bM (n:=l.length) (by omega) (by omega)
  have hn:∀a∈l.take k,a.router≠b.router:=λa ha'=>by
   obtain⟨j,hj,rfl⟩:=List.mem_take_iff_getElem.mp ha'
   have hkl:=ap hbk
   have h2:=(List.pairwise_iff_getElem.mp ha) j k (by omega) hkl (by omega)
   rw[List.getElem?_eq_getElem hkl]at hbk
   rw[←Option.some.inj hbk];omega
  have hs:=λx=>Fh (id:=id) (pl:=pl) hn x
  rw[e,w]
  refine⟨λd=>⟨⟨k+1,rfl,by omega,?_⟩,by omega⟩,λd=>⟨⟨k+1,rfl,by omega,?_⟩,by omega⟩⟩
  ·have d:mc b id pl≠b.router:=by simpa using d
   rw[aU hbk]
   refine⟨dy hM.nd,λx=>?_⟩
   rw[Fv hM.nd,hs,if_neg d,hM.val]
  ·have d:mc b id pl=b.router:=by simpa using d
   rw[aU hbk]
   refine⟨hM.nd,λx=>?_⟩
   rw[hs,if_pos d,hM.val]
   split
   ·rename_i q
    subst q
    unfold nxT
    rw[show((l.take k).find? λa=>a.router==b.router)=none from List.find?_eq_none.mpr λa ha=>by simpa using hn a ha]
   ·rfl
 ·have:=hM.val x
  rw[List.take_of_length_le (by omega)]at this;exact this
 ·rintro i ⟨hv,j,rfl,hj,hf⟩
  rw[Int.toNat_natCast]
  refine⟨λd=>⟨by omega,d,λb hbj=>⟨⟨⟨hv,j,rfl,by omega,hbj,hf⟩,⟨by simp,by simp⟩,?_⟩,?_⟩⟩,λd=>?_⟩
  ·simp only[List.length_singleton,Nat.add_sub_cancel];rw[hv]
  ·rintro⟨a,way⟩ ⟨⟨_,j',hj',hjl,hbj',hf'⟩,⟨g1,g2⟩,g3⟩
   simp only at g1 g2 g3 ⊢
   have hjj:j'=j:=by omega
   subst hjj
   refine⟨⟨λe=>?_,λe=>?_⟩,?_⟩
   ·rw[decide_eq_decide]
    have e:a≠0:=by simpa using e
    exact⟨λh=>⟨e,by omega⟩,λh=>by omega⟩
   ·have e:a=0:=by simpa using e
    rw[eq_comm,decide_eq_false_iff_not];simp[e]
   rintro _ rfl
   have hd:l.drop j'=b::l.drop (j'+1):=by
    have hlt:=ap hbj
    rw[List.drop_eq_getElem_cons hlt]
    rw[List.getElem?_eq_getElem hlt]at hbj
    rw[Option.some.inj hbj]
   rw[hd,nv,←g3]at hf
   refine⟨λe=>?_,λe=>?_⟩
   ·obtain⟨e1,e2⟩:=of_decide_eq_true e
    obtain⟨f,hfu⟩:∃f,l.length+1-way.length=f+1:=⟨l.length-way.length,by omega⟩
    rw[hfu,jR,if_neg e1]at hf g3
    refine⟨λq=>?_,λq=>⟨by omega,⟨⟨hv,j',rfl,hjl,hbj,hf'⟩,⟨by simp,by simp;omega⟩,?_⟩,by simp;omega⟩⟩
    ·have q:a=b.router:=eq_of_beq q
     rw[if_pos q]at hf;exact hf
    ·have q:a≠b.router:=by simpa using q
     rw[if_neg q]at g3
     rw[hv,←g3,List.length_append,List.length_singleton,show l.length+1-(way.length+1)=f by omega]
   ·have e:=of_decide_eq_false e
    have hnone:jR (nxT l id pl) b.router (l.length+1-way.length) a way=none:=by
     by_cases e1:a=0
     ·cases l.length+1-way.length with
      | zero=>rfl
      | succ f=>rw[jR,if_pos e1]
     ·rw[show l.length+1-way.length=0 from by
       have:¬way.length≤l.length:=λh=>e ⟨e1,h⟩
       omega];rfl
    rw[hnone]at hf
    have w:W ((j':Int)+1)=((j'+1:Nat):Int):=bM (n:=l.length) (by omega) (by omega)
    rw[w]
    exact⟨⟨hv,j'+1,rfl,by omega,hf⟩,by omega⟩
  ·rw[←hf,List.drop_of_length_le (by omega)];rfl
def OH(l:List Tbl)(id:Int)(plane:Int)(hc:jv l=0)(hp:0≤plane∧plane<8):PC Tryz.prog:=⟨78,[(.s 4),.k,.k],[.sl 4 (l.map Tbl.v) false,.int id,.int plane],wX (j4 l id plane),ax.of_ok λok=>(OG l id plane hc hp ok).elim λI0 h=>h.elim λm0 h=>h.elim λI1 h=>h.elim λm1 h=>h.elim λI2 h=>h.elim λm2 h=>h.elim λI3 h=>aw (sh:=(.s 1)) (enc:=wX) (a:=(wW l id plane I0 m0 I1 m1 I2 m2 I3).an) h (by kernel_rfl) (AV.pureB_ok rfl),aq (by kernel_rfl)⟩
theorem gA{k n:Nat}{res:List AR}{r:AV}{h':List (Option Blk)}{s s1:S3}(hw:aA k n s s1)(h:fin k n res r h' .ret s1):fin k n res r h' .ret s:=by
 obtain⟨s',g1,g2⟩:=h
 exact⟨s',hw.trans g1,g2⟩
theorem gP{xs ys:List AV}(h:aZ xs)(h':aZ ys):aZ (xs++ys):=by
 rw[jf]at *
 intro x hx
 rcases List.mem_append.mp hx with hx|hx
 ·exact h x hx
 ·exact h' x hx
theorem mP{xs:List AV}(h:aZ xs)(n:Nat):aZ (xs.take n):=by
 rw[jf]at *;exact λx hx=>h x (List.mem_of_mem_take hx)
theorem mQ{xs:List AV}(h:aZ xs)(n:Nat):aZ (xs.drop n):=by
 rw[jf]at *;exact λx hx=>h x (List.mem_of_mem_drop hx)
theorem dZ{es:List AV}{x:AV}(h:aZ es)(hx:x.pure)(i:Nat):aZ (bD es i x):=gP (gP (mP h i) ⟨hx,trivial⟩) (mQ h i)
theorem eL{k m:Nat}{es:List AV}{π:Nat→Nat}(h:aZ es):(Blk.vec k es).ren π=.vec k es∧(Blk.vec k es).bel m:=⟨by rw[Blk.ren,bc _ h],aW h⟩
theorem CS{α β:Type}(f:α→β)(l:List α)(i:Nat)(x:α):bD (l.map f) i (f x)=(bD l i x).map f:=by
 simp[bD]
def uY:AF:=
 ⟨95,3,[.tmp 6],
 .seq (.reg [⟨(some 6),.move (.c (.sl 0 [] true)),none⟩])
 (.seq (.reg [⟨(some 10),.move (.t 0),none⟩,⟨(some 11),.move (.t 1),none⟩,⟨(some 12),.slice 5 (.t 10) (some (.t 11)) none none,none⟩])
 (.seq (.reg [⟨(some 13),.move (.t 2),none⟩,⟨(some 14),.len (.t 13),none⟩,⟨(some 7),.move (.t 14),none⟩])
 (.seq (.seq (.reg [⟨(some 15),.move (.t 7),none⟩,⟨(some 16),.bin .eql (.t 15) (.c (.val (.int .i64 0))),none⟩])
 (.cond (.t 16) (.seq (.reg [⟨(some 17),.move (.t 0),none⟩,⟨(some 6),.move (.t 17),none⟩])
 (.ret)) (.skip)))
 (.seq (.reg [⟨(some 18),.move (.t 0),none⟩,⟨(some 19),.len (.t 18),none⟩,⟨(some 8),.move (.t 19),none⟩])
 (.seq (.seq (.reg [⟨(some 20),.move (.t 1),none⟩,⟨(some 21),.move (.t 8),none⟩,⟨(some 22),.bin .eql (.t 20) (.t 21),none⟩])
 (.cond (.t 22) (.seq (.reg [⟨(some 23),.move (.t 0),none⟩,⟨(some 24),.move (.t 2),none⟩,⟨(some 25),.append 5 40 (.t 23) (.t 24),none⟩,⟨(some 6),.move (.t 25),none⟩])
 (.ret)) (.skip)))
 (.seq (.seq (.reg [⟨(some 26),.move (.t 8),none⟩,⟨(some 27),.move (.t 7),none⟩,⟨(some 28),.bin .add (.t 26) (.t 27),none⟩,⟨(some 29),.move (.t 0),none⟩,⟨(some 30),.cap (.t 29),none⟩,⟨(some 31),.bin .gtr (.t 28) (.t 30),none⟩])
 (.cond (.t 31) (.seq (.reg [⟨(some 32),.move (.t 0),none⟩,⟨(some 33),.move (.t 1),none⟩,⟨(some 34),.slice 5 (.t 32) none (some (.t 33)) none,none⟩,⟨(some 35),.move (.t 8),none⟩,⟨(some 36),.move (.t 7),none⟩,⟨(some 37),.bin .add (.t 35) (.t 36),none⟩,⟨(some 38),.move (.t 1),none⟩,⟨(some 39),.bin .sub (.t 37) (.t 38),none⟩,⟨(some 40),.appendZ 5 40 ((.agg [(.val (.int .i64 0)),(.val (.int .i64 0)),(.val (.int .i64 0)),(.val (.int .i64 0)),(.val (.int .i64 0))])) (.t 34) (.t 39),none⟩,⟨(some 9),.move (.t 40),none⟩])
 (.seq (.reg [⟨(some 41),.move (.t 9),none⟩,⟨(some 42),.move (.t 1),none⟩,⟨(some 43),.slice 5 (.t 41) (some (.t 42)) none none,none⟩,⟨(some 44),.move (.t 2),none⟩,⟨(some 45),.copy 5 (.t 43) (.t 44),none⟩])
 (.seq (.dreg [⟨(some 46),.move (.t 9),none⟩,⟨(some 47),.move (.t 1),none⟩,⟨(some 48),.move (.t 7),none⟩,⟨(some 49),.bin .add (.t 47) (.t 48),none⟩,⟨(some 50),.slice 5 (.t 46) (some (.t 49)) none none,none⟩,⟨(some 51),.move (.t 0),none⟩,⟨(some 52),.move (.t 1),none⟩,⟨(some 53),.slice 5 (.t 51) (some (.t 52)) none none,none⟩,⟨(some 54),.copy 5 (.t 50) (.t 53),none⟩] [(4,7)])
 (.seq (.reg [⟨(some 55),.move (.t 9),none⟩,⟨(some 6),.move (.t 55),none⟩])
 (.ret))))) (.skip)))
 (.seq (.reg [⟨(some 56),.move (.t 0),none⟩,⟨(some 57),.move (.t 8),none⟩,⟨(some 58),.move (.t 7),none⟩,⟨(some 59),.bin .add (.t 57) (.t 58),none⟩,⟨(some 60),.slice 5 (.t 56) none (some (.t 59)) none,none⟩,⟨(some 0),.move (.t 60),none⟩])
 (.seq (.seq (.reg [⟨(some 61),.move (.t 2),none⟩,⟨(some 62),.move (.t 0),none⟩,⟨(some 63),.move (.t 1),none⟩,⟨(some 64),.move (.t 7),none⟩,⟨(some 65),.bin .add (.t 63) (.t 64),none⟩,⟨(some 66),.slice 5 (.t 62) (some (.t 65)) none none,none⟩,⟨(some 67),.call (.c (.func 153 [])) [(.t 61),(.t 66)],none⟩,⟨(some 68),.un .not (.t 67),none⟩])
 (.cond (.t 68) (.seq (.dreg [⟨(some 69),.move (.t 0),none⟩,⟨(some 70),.move (.t 1),none⟩,⟨(some 71),.move (.t 7),none⟩,⟨(some 72),.bin .add (.t 70) (.t 71),none⟩,⟨(some 73),.slice 5 (.t 69) (some (.t 72)) none none,none⟩,⟨(some 74),.move (.t 0),none⟩,⟨(some 75),.move (.t 1),none⟩,⟨(some 76),.slice 5 (.t 74) (some (.t 75)) none none,none⟩,⟨(some 77),.copy 5 (.t 73) (.t 76),none⟩] [(4,7)])
 (.seq (.reg [⟨(some 78),.move (.t 0),none⟩,⟨(some 79),.move (.t 1),none⟩,⟨(some 80),.slice 5 (.t 78) (some (.t 79)) none none,none⟩,⟨(some 81),.move (.t 2),none⟩,⟨(some 82),.copy 5 (.t 80) (.t 81),none⟩])
 (.seq (.reg [⟨(some 83),.move (.t 0),none⟩,⟨(some 6),.move (.t 83),none⟩])
 (.ret)))) (.skip)))
 (.seq (.reg [⟨(some 84),.move (.t 0),none⟩,⟨(some 85),.move (.t 8),none⟩,⟨(some 86),.slice 5 (.t 84) (some (.t 85)) none none,none⟩,⟨(some 87),.move (.t 2),none⟩,⟨(some 88),.copy 5 (.t 86) (.t 87),none⟩])
 (.seq (.reg [⟨(some 89),.move (.t 0),none⟩,⟨(some 90),.move (.t 1),none⟩,⟨(some 91),.slice 5 (.t 89) (some (.t 90)) none none,none⟩,⟨(some 92),.move (.t 7),none⟩,⟨(some 93),.call (.c (.func 154 [])) [(.t 91),(.t 92)],none⟩])
 (.seq (.reg [⟨(some 94),.move (.t 0),none⟩,⟨(some 6),.move (.t 94),none⟩])
 (.ret))))))))))))⟩
theorem uX:fL Tryz.prog Tryz.f127=some uY:=by kernel_rfl
theorem iC : (Tryz.f153.name == "runtime.NumGoroutine") = false ∧ Tryz.f153.body.isNone = true := ⟨by kernel_rfl, by kernel_rfl⟩
theorem mX:Extern.findNext Tryz.f153=none:=by kernel_rfl
theorem mY:Extern.find Tryz.f153=some (Extern.SlicesOverlaps.overlaps #[28,28] #[4]):=by kernel_rfl
theorem mW:sizeOf? Tryz.prog 104=some 5:=by kernel_rfl
theorem qf:Program.underlying Tryz.prog 28=some (.slice 104):=by kernel_rfl
theorem vo(es:List AV)(x:AV)(i cap:Nat)(hi:i≤es.length)(hx:x.solid=true)(h1:es.length≤cap)(h2:cap≤maxLen)(hs:es.length≤1000000)(hp:aZ es∧x.pure) :
  aO Tryz.prog 127 [.vec 0,.int i,.vec 1] [.row 5 es es.length cap,.vec 5 [x]] (.vec 2) [none,none,some (.vec 5 (bD es i x))]:=by
 have hml:=bv
 refine aO.walk Tryz.func127 uX (by simp[uY]) ?_
 unfold uY
 simp only[fq,fK,List.length_cons,List.length_nil]
 refine AWP.seq' ?_
 refine AWP.reg' λK hK=>?_
 try simp only[ak,ao,am,eq_self,implies_true,forall_eq_or_imp,forall_eq,Nat.reduceEqDiff,↓reduceIte,Nat.reduceAdd,Nat.reduceLeDiff,Nat.reduceSub,Nat.reduceMul,Nat.reduceLT,Int.reduceBEq,Int.reduceBNe,Int.reduceToNat,Int.reduceLT,Int.reduceLE,Int.reduceAdd,Int.reduceSub,Int.reduceMul,reduceCtorEq]
 refine hK _ _ _ ?_
 clear hK K
 refine AWP.seq' ?_
 refine AWP.reg' λK hK=>?_
 try simp only[ak,ao,am,eq_self,implies_true,forall_eq_or_imp,forall_eq,Nat.reduceEqDiff,↓reduceIte,Nat.reduceAdd,Nat.reduceLeDiff,Nat.reduceSub,Nat.reduceMul,Nat.reduceLT,Int.reduceBEq,Int.reduceBNe,Int.reduceToNat,Int.reduceLT,Int.reduceLE,Int.reduceAdd,Int.reduceSub,Int.reduceMul,reduceCtorEq]
 repeat (refine And.intro (by omega) ?_)
 refine hK _ _ _ ?_
 clear hK K
 refine AWP.seq' ?_
 refine AWP.reg' λK hK=>?_
 try simp only[ak,ao,am,eq_self,implies_true,forall_eq_or_imp,forall_eq,Nat.reduceEqDiff,↓reduceIte,Nat.reduceAdd,Nat.reduceLeDiff,Nat.reduceSub,Nat.reduceMul,Nat.reduceLT,Int.reduceBEq,Int.reduceBNe,Int.reduceToNat,Int.reduceLT,Int.reduceLE,Int.reduceAdd,Int.reduceSub,Int.reduceMul,reduceCtorEq]
 refine hK _ _ _ ?_
 clear hK K
 refine AWP.seq' (AWP.seq' ?_)
 refine AWP.reg' λK hK=>?_
 try simp only[ak,ao,am,eq_self,implies_true,forall_eq_or_imp,forall_eq,Nat.reduceEqDiff,↓reduceIte,Nat.reduceAdd,Nat.reduceLeDiff,Nat.reduceSub,Nat.reduceMul,Nat.reduceLT,Int.reduceBEq,Int.reduceBNe,Int.reduceToNat,Int.reduceLT,Int.reduceLE,Int.reduceAdd,Int.reduceSub,Int.reduceMul,reduceCtorEq]
 refine hK _ _ _ ?_
 clear hK K
 refine AWP.cond (b:=false) rfl (λh=>by cases h) (λ_=>?_)
 refine AWP.skip ?_
 refine AWP.seq' ?_
 refine AWP.reg' λK hK=>?_
 try simp only[ak,ao,am,eq_self,implies_true,forall_eq_or_imp,forall_eq,Nat.reduceEqDiff,↓reduceIte,Nat.reduceAdd,Nat.reduceLeDiff,Nat.reduceSub,Nat.reduceMul,Nat.reduceLT,Int.reduceBEq,Int.reduceBNe,Int.reduceToNat,Int.reduceLT,Int.reduceLE,Int.reduceAdd,Int.reduceSub,Int.reduceMul,reduceCtorEq]
 refine hK _ _ _ ?_
 clear hK K
 refine AWP.seq' (AWP.seq' ?_)
 refine AWP.reg' λK hK=>?_
 try simp only[ak,ao,am,eq_self,implies_true,forall_eq_or_imp,forall_eq,Nat.reduceEqDiff,↓reduceIte,Nat.reduceAdd,Nat.reduceLeDiff,Nat.reduceSub,Nat.reduceMul,Nat.reduceLT,Int.reduceBEq,Int.reduceBNe,Int.reduceToNat,Int.reduceLT,Int.reduceLE,Int.reduceAdd,Int.reduceSub,Int.reduceMul,reduceCtorEq]
 refine hK _ _ _ ?_
 clear hK K
 refine AWP.cond (b:=((i:Int)==(es.length:Int))) rfl (λh=>?_) (λh=>?_)
 ·have h:i=es.length:=by have:=eq_of_beq h;omega
  refine AWP.seq' ?_
  refine AWP.reg' λK hK=>?_
  try simp only[ak,ao,am,eq_self,implies_true,forall_eq_or_imp,forall_eq,Nat.reduceEqDiff,↓reduceIte,Nat.reduceAdd,Nat.reduceLeDiff,Nat.reduceSub,Nat.reduceMul,Nat.reduceLT,Int.reduceBEq,Int.reduceBNe,Int.reduceToNat,Int.reduceLT,Int.reduceLE,Int.reduceAdd,Int.reduceSub,Int.reduceMul,reduceCtorEq,bt,ec]
  repeat (refine And.intro (by omega) ?_)
  refine hK _ _ _ ?_
  clear hK K
  refine AWP.ret (gW [0,1,274] [(6,.vec 2)] rfl rfl ?_ ?_ rfl (by simp) ?_ (by simp))
  ·simp only[List.mem_singleton,forall_eq]
   exact⟨rfl,show(2:Nat)<3 by omega⟩
  ·refine⟨⟨?_,?_⟩,trivial⟩
   ·rw[(eL (m:=0) (dZ hp.1 hp.2 i)).1]
    show some (Blk.vec 5 (es++[x]))=_
    rw[bD,h,List.take_length,List.drop_length,List.append_nil]
   ·exact(eL (π:=id) (dZ hp.1 hp.2 i)).2
  ·intro b hb
   match b,hb with
   | 0,_=>rfl
   | 1,_=>rfl
 have h:¬i=es.length:=by intro e;subst e;simp at h
 refine AWP.skip ?_
 refine AWP.seq' (AWP.seq' ?_)
 have w1:IntKind.i64.wrap ((es.length:Int)+1)=es.length+1:=mE (by omega)
 refine AWP.reg' λK hK=>?_
 try simp only[ak,ao,am,eq_self,implies_true,forall_eq_or_imp,forall_eq,Nat.reduceEqDiff,↓reduceIte,Nat.reduceAdd,Nat.reduceLeDiff,Nat.reduceSub,Nat.reduceMul,Nat.reduceLT,Int.reduceBEq,Int.reduceBNe,Int.reduceToNat,Int.reduceLT,Int.reduceLE,Int.reduceAdd,Int.reduceSub,Int.reduceMul,reduceCtorEq,w1]
 refine hK _ _ _ ?_
 clear hK K
 refine AWP.cond (b:=decide ((cap:Int)<(es.length:Int)+1)) rfl (λh3=>?_) (λh3=>?_)
 ·have h3:cap=es.length:=by have:=of_decide_eq_true h3;omega
  refine AWP.seq' ?_
  have w2:IntKind.i64.wrap ((es.length:Int)+1-i)=es.length+1-i:=mE (by omega)
  have hlt:¬((es.length:Int)<(i:Int)):=by omega
  refine AWP.reg' λK hK=>?_
  try simp only[ak,ao,am,eq_self,implies_true,forall_eq_or_imp,forall_eq,Nat.reduceEqDiff,↓reduceIte,Nat.reduceAdd,Nat.reduceLeDiff,Nat.reduceSub,Nat.reduceMul,Nat.reduceLT,Int.reduceBEq,Int.reduceBNe,Int.reduceToNat,Int.reduceLT,Int.reduceLE,Int.reduceAdd,Int.reduceSub,Int.reduceMul,reduceCtorEq,w1,w2,fa,Int.toNat_natCast,hlt]
  repeat (refine And.intro (by omega) ?_)
  refine hK _ _ _ ?_
  clear hK K
  have hn:((es.length:Int)+1-i).toNat=es.length+1-i:=by omega
  rw[hn]
  generalize hL:es.take i++List.replicate (es.length+1-i) (AV.agg [AV.val (Value.int IntKind.i64 0),AV.val (Value.int IntKind.i64 0),AV.val (Value.int IntKind.i64 0),AV.val (Value.int IntKind.i64 0),AV.val (Value.int IntKind.i64 0)])=L
  have hLl:L.length=es.length+1:=by rw[←hL];simp;omega
  refine AWP.seq' ?_
  have hpos:0<es.length+1:=by omega
  have hsub:(((es.length+1:Nat):Int)-(i:Int)).toNat=es.length+1-i:=by omega
  have hmin:Nat.min 1 (es.length+1-i)=1:=Nat.min_eq_left (by omega)
  refine AWP.reg' λK hK=>?_
  try simp only[ak,ao,am,eq_self,implies_true,forall_eq_or_imp,forall_eq,Nat.reduceEqDiff,↓reduceIte,Nat.reduceAdd,Nat.reduceLeDiff,Nat.reduceSub,Nat.reduceMul,Nat.reduceLT,Int.reduceBEq,Int.reduceBNe,Int.reduceToNat,Int.reduceLT,Int.reduceLE,Int.reduceAdd,Int.reduceSub,Int.reduceMul,reduceCtorEq,hLl,iP,la,ec,Int.toNat_natCast,hpos,hsub,hmin]
  repeat (refine And.intro (by omega) ?_)
  refine hK _ _ _ ?_
  clear hK K
  have ht1:List.take 1 [x]=[x]:=rfl
  have w3:IntKind.i64.wrap ((i:Int)+1)=i+1:=mE (by omega)
  generalize hM:over L i [x]=M
  have hMl:M.length=es.length+1:=by rw[←hM,iD (by omega),Nat.max_def];split<;>simp at *<;>omega
  refine AWP.seq' ?_
  have ha:((es.length:Int)-(i:Int)).toNat=es.length-i:=by omega
  have hb:(((es.length+1:Nat):Int)-((i:Int)+1)).toNat=es.length-i:=by omega
  have hc:((i:Int)+1).toNat=i+1:=by omega
  have hd:Nat.min (es.length-i) (es.length-i)=es.length-i:=Nat.min_self _
  have he:(es.drop i).take (es.length-i)=es.drop i:=List.take_of_length_le (by simp)
  have hf:(es.drop i).length=es.length-i:=List.length_drop ..
  refine AWP.dreg' λK hK=>?_
  try simp only[ak,ao,am,eq_self,implies_true,forall_eq_or_imp,forall_eq,Nat.reduceEqDiff,↓reduceIte,Nat.reduceAdd,Nat.reduceLeDiff,Nat.reduceSub,Nat.reduceMul,Nat.reduceLT,Int.reduceBEq,Int.reduceBNe,Int.reduceToNat,Int.reduceLT,Int.reduceLE,Int.reduceAdd,Int.reduceSub,Int.reduceMul,reduceCtorEq,hMl,iP,la,ec,Int.toNat_natCast,hpos,w3,ha,hb,hc,hd,he,hf]
  repeat (refine And.intro (by omega) ?_)
  refine⟨by rfl,hK _ _ _ ?_⟩
  clear hK K
  refine AWP.seq' ?_
  refine AWP.reg' λK hK=>?_
  try simp only[ak,ao,am,eq_self,implies_true,forall_eq_or_imp,forall_eq,Nat.reduceEqDiff,↓reduceIte,Nat.reduceAdd,Nat.reduceLeDiff,Nat.reduceSub,Nat.reduceMul,Nat.reduceLT,Int.reduceBEq,Int.reduceBNe,Int.reduceToNat,Int.reduceLT,Int.reduceLE,Int.reduceAdd,Int.reduceSub,Int.reduceMul,reduceCtorEq]
  refine hK _ _ _ ?_
  clear hK K
  have hfin:over M (i+1) (es.drop i)=bD es i x:=by
   have hLi:L.take i=es.take i:=by
    rw[←hL,List.take_append_of_le_length (by simp;omega),List.take_take,Nat.min_self]
   have hMi:M.take (i+1)=es.take i++[x]:=by
    have e1:(es.take i++[x]).length=i+1:=by simp;omega
    rw[←hM,over,hLi,←e1]
    exact List.take_left
   have hMd:M.drop (i+1+(es.drop i).length)=[]:=List.drop_of_length_le (by rw[hMl,hf];omega)
   unfold over bD
   rw[hMi,hMd,List.append_nil]
  refine AWP.ret (gW [0,1,466] [(6,.vec 2)] rfl rfl ?_ ?_ rfl (by simp) ?_ (by simp))
  ·simp only[List.mem_singleton,forall_eq]
   exact⟨rfl,show(2:Nat)<3 by omega⟩
  ·refine⟨⟨?_,?_⟩,trivial⟩
   ·rw[(eL (m:=0) (dZ hp.1 hp.2 i)).1,←hfin]
    rfl
   ·exact(eL (π:=id) (dZ hp.1 hp.2 i)).2
  ·intro b hb
   match b,hb with
   | 0,_=>rfl
   | 1,_=>rfl
 have h3:es.length+1≤cap:=by have:=of_decide_eq_false h3;omega
 refine AWP.skip ?_
 refine AWP.seq' ?_
 have hgt:((es.length:Int)<(es.length:Int)+1):=by omega
 refine AWP.reg' λK hK=>?_
 try simp only[ak,ao,am,eq_self,implies_true,forall_eq_or_imp,forall_eq,Nat.reduceEqDiff,↓reduceIte,Nat.reduceAdd,Nat.reduceLeDiff,Nat.reduceSub,Nat.reduceMul,Nat.reduceLT,Int.reduceBEq,Int.reduceBNe,Int.reduceToNat,Int.reduceLT,Int.reduceLE,Int.reduceAdd,Int.reduceSub,Int.reduceMul,reduceCtorEq,w1,hgt]
 repeat (refine And.intro (by omega) ?_)
 refine hK _ _ _ ?_
 clear hK K
 have w3:IntKind.i64.wrap ((i:Int)+1)=i+1:=mE (by omega)
 refine AWP.seq' (AWP.seq' ?_)
 have hn1:((es.length:Int)+1).toNat=es.length+1:=by omega
 refine AWP.reg' λK hK=>?_
 try simp only[ak,ao,am,eq_self,implies_true,forall_eq_or_imp,forall_eq,Nat.reduceEqDiff,↓reduceIte,Nat.reduceAdd,Nat.reduceLeDiff,Nat.reduceSub,Nat.reduceMul,Nat.reduceLT,Int.reduceBEq,Int.reduceBNe,Int.reduceToNat,Int.reduceLT,Int.reduceLE,Int.reduceAdd,Int.reduceSub,Int.reduceMul,reduceCtorEq,w3,Int.toNat_natCast,hn1]
 repeat (refine And.intro (by omega) ?_)
 refine K7 rfl rfl (rq Tryz.func153 iC.1 iC.2 mX mY qf mW (by omega) rfl rfl (by omega) (by simp) (by omega)) ?_
 try simp only[ak,ao,am,eq_self,implies_true,forall_eq_or_imp,forall_eq,Nat.reduceEqDiff,↓reduceIte,Nat.reduceAdd,Nat.reduceLeDiff,Nat.reduceSub,Nat.reduceMul,Nat.reduceLT,Int.reduceBEq,Int.reduceBNe,Int.reduceToNat,Int.reduceLT,Int.reduceLE,Int.reduceAdd,Int.reduceSub,Int.reduceMul,reduceCtorEq,w3]
 refine hK _ _ _ ?_
 clear hK K
 refine AWP.cond (b:=true) rfl (λ_=>?_) (λh=>by cases h)
 refine AWP.seq' ?_
 have hb:(((es.length+1:Nat):Int)-((i:Int)+1)).toNat=es.length-i:=by omega
 have hc:((i:Int)+1).toNat=i+1:=by omega
 have hsub:(((es.length+1:Nat):Int)-(i:Int)).toNat=es.length+1-i:=by omega
 have hd:Nat.min (es.length+1-i) (es.length-i)=es.length-i:=Nat.min_eq_right (by omega)
 have he:(es.drop i).take (es.length+1-i)=es.drop i:=List.take_of_length_le (by simp;omega)
 have he2:(es.drop i).take (es.length-i)=es.drop i:=List.take_of_length_le (by simp)
 have hf:(es.drop i).length=es.length-i:=List.length_drop ..
 refine AWP.dreg' λK hK=>?_
 try simp only[ak,ao,am,eq_self,implies_true,forall_eq_or_imp,forall_eq,Nat.reduceEqDiff,↓reduceIte,Nat.reduceAdd,Nat.reduceLeDiff,Nat.reduceSub,Nat.reduceMul,Nat.reduceLT,Int.reduceBEq,Int.reduceBNe,Int.reduceToNat,Int.reduceLT,Int.reduceLE,Int.reduceAdd,Int.reduceSub,Int.reduceMul,reduceCtorEq,w3,iP,la,ec,Int.toNat_natCast,hb,hc,hsub,hd,he,he2,hf]
 repeat (refine And.intro (by omega) ?_)
 refine⟨by rfl,hK _ _ _ ?_⟩
 clear hK K
 have hMl:(over es (i+1) (es.drop i)).length=es.length+1:=by simp[over];omega
 have hMt:(over es (i+1) (es.drop i)).take i=es.take i:=by
  unfold over
  rw[List.append_assoc,List.take_append_of_le_length (by simp;omega),List.take_take,Nat.min_eq_left (by omega)]
 have hMd:(over es (i+1) (es.drop i)).drop (i+1)=es.drop i:=by
  unfold over
  have e1:(es.take (i+1)).length=i+1:=by simp;omega
  have e2:es.drop (i+1+(es.drop i).length)=[]:=List.drop_of_length_le (by simp;omega)
  rw[e2,List.append_nil]
  have e3:=List.drop_left (l₁:=es.take (i+1)) (l₂:=es.drop i)
  rw[e1]at e3;exact e3
 generalize hM:over es (i+1) (es.drop i)=M at *
 refine AWP.seq' ?_
 have hsub:(((es.length+1:Nat):Int)-(i:Int)).toNat=es.length+1-i:=by omega
 have hmin:Nat.min 1 (es.length+1-i)=1:=Nat.min_eq_left (by omega)
 have ht1:List.take 1 [x]=[x]:=rfl
 refine AWP.reg' λK hK=>?_
 try simp only[ak,ao,am,eq_self,implies_true,forall_eq_or_imp,forall_eq,Nat.reduceEqDiff,↓reduceIte,Nat.reduceAdd,Nat.reduceLeDiff,Nat.reduceSub,Nat.reduceMul,Nat.reduceLT,Int.reduceBEq,Int.reduceBNe,Int.reduceToNat,Int.reduceLT,Int.reduceLE,Int.reduceAdd,Int.reduceSub,Int.reduceMul,reduceCtorEq,hMl,iP,la,ec,Int.toNat_natCast,hsub,hmin]
 repeat (refine And.intro (by omega) ?_)
 refine hK _ _ _ ?_
 clear hK K
 refine AWP.seq' ?_
 refine AWP.reg' λK hK=>?_
 try simp only[ak,ao,am,eq_self,implies_true,forall_eq_or_imp,forall_eq,Nat.reduceEqDiff,↓reduceIte,Nat.reduceAdd,Nat.reduceLeDiff,Nat.reduceSub,Nat.reduceMul,Nat.reduceLT,Int.reduceBEq,Int.reduceBNe,Int.reduceToNat,Int.reduceLT,Int.reduceLE,Int.reduceAdd,Int.reduceSub,Int.reduceMul,reduceCtorEq]
 refine hK _ _ _ ?_
 clear hK K
 have hfin:over M i [x]=bD es i x:=by
  unfold over bD
  rw[hMt,show i+[x].length=i+1 from rfl,hMd]
 have hfl:(bD es i x).length=es.length+1:=by unfold bD;simp;omega
 rw[hfin]
 refine AWP.ret (gA (aA.row (b:=402) (cap:=cap) (k:=5) (es:=bD es i x) (by rw[hfl];rfl)) (gW [0,1,402] [(6,.vec 2)] rfl rfl ?_ ?_ rfl (by simp) ?_ (by simp)))
 ·simp only[List.mem_singleton,forall_eq]
  exact⟨rfl,show(2:Nat)<3 by omega⟩
 ·refine⟨⟨?_,?_⟩,trivial⟩
  ·rw[(eL (m:=0) (dZ hp.1 hp.2 i)).1]
   rfl
  ·exact(eL (π:=id) (dZ hp.1 hp.2 i)).2
 ·intro b hb
  match b,hb with
  | 0,_=>rfl
  | 1,_=>rfl
theorem vq(x:AV)(hx:x.solid=true)(hp:x.pure) :
  aO Tryz.prog 127 [.vec 0,.int 0,.vec 1] [.vec 5 [],.vec 5 [x]] (.vec 2) [none,none,some (.vec 5 [x])]:=by
 have hml:=bv
 refine aO.walk Tryz.func127 uX (by simp[uY]) ?_
 unfold uY
 simp only[fq,fK,List.length_cons,List.length_nil]
 refine AWP.seq' ?_
 refine AWP.reg' λK hK=>?_
 try simp only[ak,ao,am,eq_self,implies_true,forall_eq_or_imp,forall_eq,Nat.reduceEqDiff,↓reduceIte,Nat.reduceAdd,Nat.reduceLeDiff,Nat.reduceSub,Nat.reduceMul,Nat.reduceLT,Int.reduceBEq,Int.reduceBNe,Int.reduceToNat,Int.reduceLT,Int.reduceLE,Int.reduceAdd,Int.reduceSub,Int.reduceMul,reduceCtorEq]
 refine hK _ _ _ ?_
 clear hK K
 refine AWP.seq' ?_
 refine AWP.reg' λK hK=>?_
 try simp only[ak,ao,am,eq_self,implies_true,forall_eq_or_imp,forall_eq,Nat.reduceEqDiff,↓reduceIte,Nat.reduceAdd,Nat.reduceLeDiff,Nat.reduceSub,Nat.reduceMul,Nat.reduceLT,Int.reduceBEq,Int.reduceBNe,Int.reduceToNat,Int.reduceLT,Int.reduceLE,Int.reduceAdd,Int.reduceSub,Int.reduceMul,reduceCtorEq]
 refine hK _ _ _ ?_
 clear hK K
 refine AWP.seq' ?_
 refine AWP.reg' λK hK=>?_
 try simp only[ak,ao,am,eq_self,implies_true,forall_eq_or_imp,forall_eq,Nat.reduceEqDiff,↓reduceIte,Nat.reduceAdd,Nat.reduceLeDiff,Nat.reduceSub,Nat.reduceMul,Nat.reduceLT,Int.reduceBEq,Int.reduceBNe,Int.reduceToNat,Int.reduceLT,Int.reduceLE,Int.reduceAdd,Int.reduceSub,Int.reduceMul,reduceCtorEq]
 refine hK _ _ _ ?_
 clear hK K
 refine AWP.seq' (AWP.seq' ?_)
 refine AWP.reg' λK hK=>?_
 try simp only[ak,ao,am,eq_self,implies_true,forall_eq_or_imp,forall_eq,Nat.reduceEqDiff,↓reduceIte,Nat.reduceAdd,Nat.reduceLeDiff,Nat.reduceSub,Nat.reduceMul,Nat.reduceLT,Int.reduceBEq,Int.reduceBNe,Int.reduceToNat,Int.reduceLT,Int.reduceLE,Int.reduceAdd,Int.reduceSub,Int.reduceMul,reduceCtorEq]
 refine hK _ _ _ ?_
 clear hK K
 refine AWP.cond (b:=false) rfl (λh=>by cases h) (λ_=>?_)
 refine AWP.skip ?_
 refine AWP.seq' ?_
 refine AWP.reg' λK hK=>?_
 try simp only[ak,ao,am,eq_self,implies_true,forall_eq_or_imp,forall_eq,Nat.reduceEqDiff,↓reduceIte,Nat.reduceAdd,Nat.reduceLeDiff,Nat.reduceSub,Nat.reduceMul,Nat.reduceLT,Int.reduceBEq,Int.reduceBNe,Int.reduceToNat,Int.reduceLT,Int.reduceLE,Int.reduceAdd,Int.reduceSub,Int.reduceMul,reduceCtorEq]
 refine hK _ _ _ ?_
 clear hK K
 refine AWP.seq' (AWP.seq' ?_)
 refine AWP.reg' λK hK=>?_
 try simp only[ak,ao,am,eq_self,implies_true,forall_eq_or_imp,forall_eq,Nat.reduceEqDiff,↓reduceIte,Nat.reduceAdd,Nat.reduceLeDiff,Nat.reduceSub,Nat.reduceMul,Nat.reduceLT,Int.reduceBEq,Int.reduceBNe,Int.reduceToNat,Int.reduceLT,Int.reduceLE,Int.reduceAdd,Int.reduceSub,Int.reduceMul,reduceCtorEq]
 refine hK _ _ _ ?_
 clear hK K
 refine AWP.cond (b:=true) rfl (λh=>?_) (λh=>by cases h)
 refine AWP.seq' ?_
 refine AWP.reg' λK hK=>?_
 try simp only[ak,ao,am,eq_self,implies_true,forall_eq_or_imp,forall_eq,Nat.reduceEqDiff,↓reduceIte,Nat.reduceAdd,Nat.reduceLeDiff,Nat.reduceSub,Nat.reduceMul,Nat.reduceLT,Int.reduceBEq,Int.reduceBNe,Int.reduceToNat,Int.reduceLT,Int.reduceLE,Int.reduceAdd,Int.reduceSub,Int.reduceMul,reduceCtorEq,bt,ec]
 repeat (refine And.intro (by omega) ?_)
 refine hK _ _ _ ?_
 clear hK K
 refine AWP.ret (gW [0,1,274] [(6,.vec 2)] rfl rfl ?_ ?_ rfl (by simp) ?_ (by simp))
 ·simp only[List.mem_singleton,forall_eq]
  exact⟨rfl,show(2:Nat)<3 by omega⟩
 ·have hp':aZ [x]:=⟨hp,trivial⟩
  refine⟨⟨?_,?_⟩,trivial⟩
  ·rw[(eL (m:=0) hp').1]
   rfl
  ·exact(eL (π:=id) hp').2
 ·intro b hb
  match b,hb with
  | 0,_=>rfl
  | 1,_=>rfl
theorem sD(es:List AV)(x:AV)(i:Nat)(hi:i≤es.length)(hx:x.solid=true)(hs:es.length≤1000000)(hp:aZ es∧x.pure) :
  aO Tryz.prog 127 [.vec 0,.int i,.vec 1] [.vec 5 es,.vec 5 [x]] (.vec 2) [none,none,some (.vec 5 (bD es i x))]:=by
 refine aO.of_row (λcap h1 h2=>vo es x i cap hi hx h1 h2 hs hp) (λh=>?_)
 subst h
 have:i=0:=by simpa using hi
 subst this
 exact vq x hx hp.2
theorem zn:jN Tryz.prog 127:=aq (by kernel_rfl)
def Hb:AF:=
 ⟨33,3,[.tmp 6],
 .seq (.reg [⟨(some 6),.move (.c (.sl 0 [] true)),none⟩])
 (.seq (.reg [⟨(some 8),.move (.t 0),none⟩,⟨(some 9),.move (.t 1),none⟩,⟨(some 10),.move (.t 2),none⟩,⟨(some 11),.move (.t 0),none⟩,⟨(some 12),.len (.t 11),none⟩,⟨(some 13),.slice 5 (.t 8) (some (.t 9)) (some (.t 10)) (some (.t 12)),none⟩])
 (.seq (.seq (.reg [⟨(some 14),.move (.t 1),none⟩,⟨(some 15),.move (.t 2),none⟩,⟨(some 16),.bin .eql (.t 14) (.t 15),none⟩])
 (.cond (.t 16) (.seq (.reg [⟨(some 17),.move (.t 0),none⟩,⟨(some 6),.move (.t 17),none⟩])
 (.ret)) (.skip)))
 (.seq (.reg [⟨(some 18),.move (.t 0),none⟩,⟨(some 19),.len (.t 18),none⟩,⟨(some 7),.move (.t 19),none⟩])
 (.seq (.dreg [⟨(some 20),.move (.t 0),none⟩,⟨(some 21),.move (.t 1),none⟩,⟨(some 22),.slice 5 (.t 20) none (some (.t 21)) none,none⟩,⟨(some 23),.move (.t 0),none⟩,⟨(some 24),.move (.t 2),none⟩,⟨(some 25),.slice 5 (.t 23) (some (.t 24)) none none,none⟩,⟨(some 26),.append 5 40 (.t 22) (.t 25),none⟩,⟨(some 0),.move (.t 26),none⟩] [(2,5)])
 (.seq (.reg [⟨(some 27),.move (.t 0),none⟩,⟨(some 28),.move (.t 0),none⟩,⟨(some 29),.len (.t 28),none⟩,⟨(some 30),.move (.t 7),none⟩,⟨(some 31),.slice 5 (.t 27) (some (.t 29)) (some (.t 30)) none,none⟩,⟨none,.clear 5 ((.agg [(.val (.int .i64 0)),(.val (.int .i64 0)),(.val (.int .i64 0)),(.val (.int .i64 0)),(.val (.int .i64 0))])) (.t 31),none⟩])
 (.seq (.reg [⟨(some 32),.move (.t 0),none⟩,⟨(some 6),.move (.t 32),none⟩])
 (.ret)))))))⟩
theorem Ha:fL Tryz.prog Tryz.f126=some Hb:=by kernel_rfl
theorem zp:jN Tryz.prog 126:=aq (by kernel_rfl)
def eC{α:Type}(es:List α)(i:Nat):List α:=es.take i++es.drop (i+1)
theorem lO{es:List AV}(h:aZ es)(i:Nat):aZ (eC es i):=gP (mP h i) (mQ h (i+1))
theorem sG(es:List AV)(i:Nat)(hi:i<es.length)(hs:es.length≤1000000)(hp:aZ es) :
  aO Tryz.prog 126 [.vec 0,.int i,.int ((i+1:Nat):Int)] [.vec 5 es] (.vec 1) [none,some (.vec 5 (eC es i))]:=by
 refine aO.of_row (λcap h1 h2=>?_) (λh=>by subst h;simp at hi)
 have hml:=bv
 refine aO.walk Tryz.func126 Ha (by simp[Hb]) ?_
 unfold Hb
 simp only[fq,fK,List.length_cons,List.length_nil]
 have e1:((i:Int)==((i+1:Nat):Int))=false:=by simp;omega
 repeat (first
  | refine AWP.seq' ?_
  | refine AWP.skip ?_
  | (refine AWP.reg' λK hK=>?_;simp only[ak,ao,am,eq_self,implies_true,forall_eq_or_imp,forall_eq,Nat.reduceEqDiff,↓reduceIte,Nat.reduceAdd,Nat.reduceLeDiff,Nat.reduceSub,Nat.reduceMul,Nat.reduceLT,Int.reduceBEq,Int.reduceBNe,Int.reduceToNat,Int.reduceLT,Int.reduceLE,Int.reduceAdd,Int.reduceSub,Int.reduceMul,reduceCtorEq,e1];(repeat (refine And.intro (by omega) ?_));refine hK _ _ _ ?_;clear hK K))
 refine AWP.cond (b:=false) rfl (λh=>by cases h) (λh=>?_)
 repeat (first
  | refine AWP.seq' ?_
  | refine AWP.skip ?_
  | (refine AWP.reg' λK hK=>?_;simp only[ak,ao,am,eq_self,implies_true,forall_eq_or_imp,forall_eq,Nat.reduceEqDiff,↓reduceIte,Nat.reduceAdd,Nat.reduceLeDiff,Nat.reduceSub,Nat.reduceMul,Nat.reduceLT,Int.reduceBEq,Int.reduceBNe,Int.reduceToNat,Int.reduceLT,Int.reduceLE,Int.reduceAdd,Int.reduceSub,Int.reduceMul,reduceCtorEq];(repeat (refine And.intro (by omega) ?_));refine hK _ _ _ ?_;clear hK K))
 have g1:((es.length:Int)-((i+1:Nat):Int)).toNat=es.length-(i+1):=by omega
 have g2:((i:Int)-0).toNat=i:=by omega
 have g3:(es.drop (i+1)).take (es.length-(i+1))=es.drop (i+1):=List.take_of_length_le (by simp)
 have g4:(es.drop (i+1)).length=es.length-(i+1):=List.length_drop ..
 have g5:i+(es.length-(i+1))=es.length-1:=by omega
 have g6:¬((es.length:Int)<(i:Int)):=by omega
 have g7:i+1+(es.length-(i+1))≤es.length:=by omega
 refine AWP.dreg' λK hK=>?_
 try simp only[ak,ao,am,eq_self,implies_true,forall_eq_or_imp,forall_eq,Nat.reduceEqDiff,↓reduceIte,Nat.reduceAdd,Nat.reduceLeDiff,Nat.reduceSub,Nat.reduceMul,Nat.reduceLT,Int.reduceBEq,Int.reduceBNe,Int.reduceToNat,Int.reduceLT,Int.reduceLE,Int.reduceAdd,Int.reduceSub,Int.reduceMul,reduceCtorEq,bt,ec,g1,g2,g3,g4,g5,g6,g7]
 repeat (refine And.intro (by omega) ?_)
 refine⟨by rfl,hK _ _ _ ?_⟩
 clear hK K
 have hd:es.take i++es.drop (i+1)=eC es i:=rfl
 have hdl:(eC es i).length=es.length-1:=by unfold eC;simp;omega
 refine AWP.seq' ?_
 have g8:((es.length:Int)-((es.length-1:Nat):Int)).toNat=1:=by omega
 refine AWP.reg' λK hK=>?_
 try simp only[ak,ao,am,eq_self,implies_true,forall_eq_or_imp,forall_eq,Nat.reduceEqDiff,↓reduceIte,Nat.reduceAdd,Nat.reduceLeDiff,Nat.reduceSub,Nat.reduceMul,Nat.reduceLT,Int.reduceBEq,Int.reduceBNe,Int.reduceToNat,Int.reduceLT,Int.reduceLE,Int.reduceAdd,Int.reduceSub,Int.reduceMul,reduceCtorEq,hd,hdl,g8,iQ]
 repeat (refine And.intro (by omega) ?_)
 refine hK _ _ _ ?_
 clear hK K
 repeat (first
  | refine AWP.seq' ?_
  | refine AWP.skip ?_
  | (refine AWP.reg' λK hK=>?_;simp only[ak,ao,am,eq_self,implies_true,forall_eq_or_imp,forall_eq,Nat.reduceEqDiff,↓reduceIte,Nat.reduceAdd,Nat.reduceLeDiff,Nat.reduceSub,Nat.reduceMul,Nat.reduceLT,Int.reduceBEq,Int.reduceBNe,Int.reduceToNat,Int.reduceLT,Int.reduceLE,Int.reduceAdd,Int.reduceSub,Int.reduceMul,reduceCtorEq];(repeat (refine And.intro (by omega) ?_));refine hK _ _ _ ?_;clear hK K))
 refine AWP.ret (gA (aA.row (b:=305) (cap:=cap) (k:=5) (es:=eC es i) (by rw[hdl];rfl)) (gW [0,305] [(6,.vec 1)] rfl rfl ?_ ?_ rfl (by simp) ?_ (by simp)))
 ·simp only[List.mem_singleton,forall_eq]
  exact⟨rfl,show(1:Nat)<2 by omega⟩
 ·refine⟨⟨?_,?_⟩,trivial⟩
  ·rw[(eL (m:=0) (lO hp i)).1]
   rfl
  ·exact(eL (π:=id) (lO hp i)).2
 ·intro b hb
  match b,hb with
  | 0,_=>rfl
theorem Dy{α β:Type}(f:α→β)(l:List α)(i:Nat):eC (l.map f) i=(eC l i).map f:=by simp[eC]
def PN(l:List Lnk)(i j:Int)(hi:(0≤i∧i<l.length)∧j=i+1)(hl:l.length≤1000000):HC Tryz.prog:=
 ⟨126,[.k,.k,.k],[.vec 0,.int i,.int j],[.vec 5 (l.map Lnk.v)],.vec 1,[none,some (.vec 5 ((eC l i.toNat).map Lnk.v))],by
  have h:=sG (l.map Lnk.v) i.toNat (by rw[List.length_map];omega) (by simpa using hl) (aH (ae (λ_=>rfl) l))
  rw[Dy]at h
  have e1:((i.toNat:Nat):Int)=i:=by omega
  have e2:((i.toNat+1:Nat):Int)=j:=by omega
  rw[e1,e2]at h
  exact h,zp,gc.of (by simp[hcB,dG,AV.belB,allB,fJ,eT,ae (v:=Lnk.v) (λ_=>rfl),bT,AV.pureB])⟩
def OW(l:List Lnk)(x:Lnk)(i:Int)(hi:0≤i∧i≤l.length)(hl:l.length≤1000000):HC Tryz.prog:=
 ⟨127,[.k,.k,.k],[.vec 0,.int i,.vec 1],[.vec 5 (l.map Lnk.v),.vec 5 [x.v]],.vec 2,[none,none,some (.vec 5 ((bD l i.toNat x).map Lnk.v))],by
  have h:=sD (l.map Lnk.v) (Lnk.v x) i.toNat (by rw[List.length_map];omega) rfl (by simpa using hl) ⟨aH (ae (λ_=>rfl) l),AV.pureB_ok rfl⟩
  rw[CS]at h
  have e1:((i.toNat:Nat):Int)=i:=by omega
  rw[e1]at h
  exact h,zn,gc.of (by have e:x.v.pureB=true:=rfl;simp[e,hcB,dG,AV.belB,allB,fJ,eT,ae (v:=Lnk.v) (λ_=>rfl),bT,AV.pureB])⟩
def Ql(s:List Lnk):=okL [.sl 5 (s.map Lnk.v) false]
def se(r:List Lnk):AV:=.vec 0
def sf(r:List Lnk):List (Option Blk):=[some (.vec 5 (r.map Lnk.v))]
def yC(s:List Lnk):Ax Tryz.prog noS ((List Lnk)):=
 (.allB (λb1=>((s.map Lnk.v)≠[]→b1=false)) λb1 =>
(.br 48 (b1 != false) (.cmdL (.nilT 2 5) (.retH [] ⟨[(2,.k,.vec 0)],[.vec 5 [] rfl]⟩ [64]))
(.apX 80 Lnk.v [] s (0+s.length)
(.retH s ⟨[(2,.k,.vec 0)],[.vec 5 (s.map Lnk.v) (ae (λ_=>rfl) s)]⟩ [80]))))
def BW(s:List Lnk)(r0:List Lnk):=(yC s).vc se sf r0
theorem Qj(s:List Lnk)(h:s.length≤1000000)(ok:Ql s):BW s s:=by
 dsimp only[BW,yC,noS,Ax.vp,Ax.vc];simp only[vcU,rfU,List.length_map]
 intro b hb
 refine⟨λh1=>?_,λ_=>by first|omega|exact⟨by omega,trivial⟩|(trace_state;simpa using h)⟩
 cases s with
 | nil=>rfl
 | cons x s=>simp at hb;simp[hb]at h1
def Qk(s:List Lnk)(h:s.length≤1000000):HC Tryz.prog:=⟨125,[(.s 5)],[.sl 5 (s.map Lnk.v) false],[],se s,sf s,aO.of_okh λok _=>dX (sh:=.k) (enc:=se) (hB:=sf) (a:=(yC s).an) (Qj s h ok) (by kernel_rfl),aq (by kernel_rfl),gc.of (by simp[hcB,dG,AV.belB,allB,fJ,eT,se,sf,ae (v:=Lnk.v) (λ_=>rfl)])⟩
def Qi(s:List Rtr):=okL [.sl 2 (s.map Rtr.v) false]
def yB(r:List Rtr):AV:=.sl 2 (r.map Rtr.v) false
def yA(s:List Rtr):Ax Tryz.prog noS ((List Rtr)):=
 (.allB (λb1=>((s.map Rtr.v)≠[]→b1=false)) λb1 =>
(.br 48 (b1 != false) (.ret ([]))
(.apX 80 Rtr.v [] s (0+s.length)
(.fz 80 Rtr.v s (λ_=>rfl) (.ret (s))))))
def BV(s:List Rtr)(r0:List Rtr):=(yA s).vp yB r0
theorem Qg(s:List Rtr)(h:s.length≤1000000)(ok:Qi s):BV s s:=by
 dsimp only[BV,yA,noS,Ax.vp,Ax.vc];simp only[vcU,rfU,List.length_map]
 intro b hb
 refine⟨λh1=>?_,λ_=>by first|omega|exact⟨by omega,trivial⟩|(trace_state;simpa using h)⟩
 cases s with
 | nil=>rfl
 | cons x s=>simp at hb;simp[hb]at h1
def Qh(s:List Rtr)(h:s.length≤1000000):PC Tryz.prog:=⟨124,[(.s 2)],[.sl 2 (s.map Rtr.v) false],yB s,ax.of_ok λok=>aw (sh:=(.s 2)) (enc:=yB) (a:=(yA s).an) (Qg s h ok) (by kernel_rfl) (AV.pureB_ok rfl),aq (by kernel_rfl)⟩
def Da(t:Tpl)(r:Int):Rtr×Bool:=if md t.rs r=true then(t.rs.getD (pW t.rs r) ⟨0,false⟩,true)else(⟨0,false⟩,false)
def Pu(t:Tpl)(router:Int):=okL [.agg [.sl 2 (t.rs.map Rtr.v) false,.sl 5 (t.ls.map Lnk.v) false],.int router]
def xL(r:Rtr×Bool):AV:=.tup [Rtr.v r.1,.bool r.2]
def xK(t:Tpl)(router:Int):Ax Tryz.prog noS (Rtr×Bool):=
 (.req 96 (t.rs.length≤1000000) λh1 =>
(.callP (MX t.rs router h1)
(.br 224 (!(md t.rs router)) (.ret ((⟨0,false⟩:Rtr),false))
(.elI 272 Rtr.v t.rs (pW t.rs router:Int) λx2 =>
(.ret (x2,true))))))
def B2(t:Tpl)(router:Int)(r0:Rtr×Bool):=(xK t router).vp xL r0
theorem Ps(t:Tpl)(r:Int)(h:t.rs.length≤1000000)(ok:Pu t r):B2 t r (Da t r):=by
 dsimp only[B2,xK,noS,Ax.vp,Ax.vc];simp only[vcU,rfU,List.length_map]
 unfold Da
 refine⟨h,λc=>by rw[if_neg (by simpa using c)],λc=>?_⟩
 have c:md t.rs r=true:=by simpa using c
 have hp:pW t.rs r<t.rs.length:=by
  refine Classical.byContradiction λq=>?_
  unfold md bsH at c
  rw[List.getElem?_eq_none (by unfold pW at q;omega)]at c;cases c
 refine⟨by omega,by omega,λx hx=>?_⟩
 rw[Int.toNat_natCast]at hx
 rw[if_pos c,List.getD_eq_getElem?_getD,hx];rfl
def Pt(t:Tpl)(router:Int)(h:t.rs.length≤1000000):PC Tryz.prog:=⟨152,[(.a [(.s 2),(.s 5)]),.k],[.agg [.sl 2 (t.rs.map Rtr.v) false,.sl 5 (t.ls.map Lnk.v) false],.int router],xL (Da t router),ax.of_ok λok=>aw (sh:=.k) (enc:=xL) (a:=(xK t router).an) (Ps t router h ok) (by kernel_rfl) (AV.pureB_ok rfl),aq (by kernel_rfl)⟩
def Pk(t:Tpl)(router:Int):=okL [.agg [.sl 2 (t.rs.map Rtr.v) false,.sl 5 (t.ls.map Lnk.v) false],.int router]
def xB(r:Bool):AV:=.bool r
def xA(t:Tpl)(router:Int):Ax Tryz.prog noS (Bool):=
 (.req 64 (t.rs.length≤1000000) λh1 =>
(.callP (Pt t router h1)
(.callP (v8 t)
(.br 224 (iu t) (.ret ((Da t router).2))
(.ret (false))))))
def Bs(t:Tpl)(router:Int)(r0:Bool):=(xA t router).vp xB r0
theorem Pj(t:Tpl)(r:Int)(h:t.rs.length≤1000000)(ok:Pk t r):Bs t r (hs5 t r):=by
 dsimp only[Bs,xA,noS,Ax.vp,Ax.vc];simp only[vcU,rfU,List.length_map]
 refine⟨h,λc=>?_,λc=>?_⟩
 ·have hc:aD t=0:=by unfold iu at c;exact eq_of_beq c
  have e:(Da t r).2=md t.rs r:=by
   unfold Da;split
   ·rename_i q;rw[q]
   ·rename_i q;simpa using q
  rw[e,(nJ (aC hc).asc r).1]
  unfold hs5 aG;rw[hc];rfl
 ·unfold iu at c;unfold hs5;rw[c];rfl
def FX(t:Tpl)(router:Int)(h:t.rs.length≤1000000):PC Tryz.prog:=⟨122,[(.a [(.s 2),(.s 5)]),.k],[.agg [.sl 2 (t.rs.map Rtr.v) false,.sl 5 (t.ls.map Lnk.v) false],.int router],xB (hs5 t router),ax.of_ok λok=>aw (sh:=.k) (enc:=xB) (a:=(xA t router).an) (Pj t router h ok) (by kernel_rfl) (AV.pureB_ok rfl),aq (by kernel_rfl)⟩
end Go.Proofs.YtdoacjojljgdcaaGreat
