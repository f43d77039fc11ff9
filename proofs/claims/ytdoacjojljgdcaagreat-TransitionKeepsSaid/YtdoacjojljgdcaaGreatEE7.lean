/- Texts joined: KM3 KM4 AL1 AL2 BT PK0 TB1 TB2 HP1 TZ P4 FW1 FW2 FW3 FW4 TK1 LT LT2 W1 TL. -/
import Derived.Shelf.Spec.TrailingZeros
import Derived.Test.YtdoacjojljgdcaaGreatEE6
set_option linter.unusedVariables false
set_option linter.unusedSimpArgs false
set_option linter.unusedSectionVars false
namespace Go.Proofs.YtdoacjojljgdcaaGreat
open Go Go.Am
def ku(k:Nat):List Rtr:=(List.range k).map λi=>⟨((i+1:Nat):Int),true⟩
def cnM(L:List Int)(a tree:Int)(skip:Bool)(p:Nat):Bool×Nat:=if(a==tree)=true∧skip=false then(true,p)else(eV L p 3,ab L p)
def EE(L:List Int)(cost a b:Int)(p:Nat):Lnk:=⟨a,b,rng L p 1 cost,rng L (ab L p) 1 cost,Mod (am L (ab L (ab L p))) 4⟩
def inM(L:List Int)(cost b tree:Int)(skip:Bool):Nat→Int→List Lnk→Nat→List Lnk×Nat
 | 0,_,ls,p=>(ls,p)
 | f+1,a,ls,p=>if(cnM L a tree skip p).1=true then inM L cost b tree skip f (a+1) (ls++[EE L cost a b (cnM L a tree skip p).2]) (ab L (ab L (ab L (cnM L a tree skip p).2)))
  else inM L cost b tree skip f (a+1) ls (cnM L a tree skip p).2
def inR(L:List Int)(cost b:Int)(ls:List Lnk)(p:Nat):List Lnk×Nat:=inM L cost b (rng L p 1 (W (b-1))) (eV L (ab L p) 9) (b-1).toNat 1 ls (ab L (ab L p))
def ouM(L:List Int)(cost:Int):Nat→Int→List Lnk→Nat→List Lnk×Nat
 | 0,_,ls,p=>(ls,p)
 | f+1,b,ls,p=>ouM L cost f (b+1) (inR L cost b ls p).1 (inR L cost b ls p).2
def um(j:Nat):List Rtr:=(List.range j).map λi=>⟨((50+i:Nat):Int),false⟩
def ixM(L:List Int)(p:Nat)(g:Tpl):Nat:=(Mod (am L p) g.ls.length).toNat
def OV(L:List Int)(p:Nat)(g:Tpl):Tpl×Nat:=
 if Mod (am L p) 7=0 then(⟨g.rs++[⟨aK [0,1,99,100,-1] (am L (ab L p)),false⟩],g.ls⟩,ab L (ab L p))
 else if Mod (am L p) 7=1 then(⟨g.rs,g.ls++[⟨Mod (am L (ab L p)) 4,Mod (am L (ab L (ab L p))) 4,1,1,0⟩]⟩,ab L (ab L (ab L p)))
 else if Mod (am L p) 7=2 then(match g.ls[ixM L (ab L p) g]? with
  | some y=>(⟨g.rs,g.ls.set (ixM L (ab L p) g) ⟨y.a,y.b,fG L (ab L (ab L p)),y.cb,y.w⟩⟩,ab L (ab L (ab L p)))
  | none=>(g,ab L p))
 else if Mod (am L p) 7=3 then(match g.ls[ixM L (ab L p) g]? with
  | some y=>(⟨g.rs,g.ls.set (ixM L (ab L p) g) ⟨y.a,y.b,y.ca,fG L (ab L (ab L p)),y.w⟩⟩,ab L (ab L (ab L p)))
  | none=>(g,ab L p))
 else if Mod (am L p) 7=4 then(match g.ls[ixM L (ab L p) g]? with
  | some y=>(⟨g.rs,g.ls.set (ixM L (ab L p) g) ⟨y.a,y.b,y.ca,y.cb,fG L (ab L (ab L p))⟩⟩,ab L (ab L (ab L p)))
  | none=>(g,ab L p))
 else if Mod (am L p) 7=5 then(match g.ls[ixM L (ab L p) g]? with
  | some y=>(⟨g.rs,g.ls++[y]⟩,ab L (ab L p))
  | none=>(g,ab L p))
 else(⟨g.rs++um 25,g.ls⟩,ab L p)
def uF(L:List Int)(p:Nat):Int:=aK [1,2,2,5] (am L (ab L p))
def qF(L:List Int)(p:Nat)(most:Int):List Lnk×Nat:=ouM L (uF L p) ((rng L p 1 most)-1).toNat 2 [] (ab L (ab L p))
def Cw(L:List Int)(p:Nat)(most:Int):Tpl:=⟨ku (rng L p 1 most).toNat,bj (qF L p most).1 []⟩
def aw(L:List Int)(p:Nat)(most n:Int):Tpl×Nat:=
 if 0<n∧eV L (qF L p most).2 n=true then OV L (ab L (qF L p most).2) (Cw L p most)else(Cw L p most,if 0<n then ab L (qF L p most).2 else(qF L p most).2)
theorem yY(out:List Lnk)(x:Lnk):iz out x≤out.length:=List.findIdx_le_length
theorem ow:∀(l out:List Lnk),(bj l out).length=l.length+out.length
 | [],out=>by simp[bj]
 | x::l,out=>by rw[bj,ow l,gZ _ _ _ (yY _ _),ab'];omega
theorem kW(k:Nat):(ku k).length=k:=by simp[ku]
theorem AS(k:Nat):ku (k+1)=ku k++[⟨((k+1:Nat):Int),true⟩]:=by simp[ku,bL']
theorem By(k:Nat):um (k+1)=um k++[⟨((50+k:Nat):Int),false⟩]:=by simp[um,bL']
theorem Gj(k:Nat):(um k).length=k:=by simp[um]
theorem ta{L:List Int}{p:Nat}{m:Int}(h:1≤m∧m≤1000):1≤rng L p 1 m∧rng L p 1 m≤m:=by
 have hm:=bw (x:=am L p) h.1;unfold rng;rw[ce (n:=m-1) (by omega),ce (n:=m-1+1) (by omega),show m-1+1=m by omega,ce (by omega)];omega
def Jo(L:List Int)(p:Nat)(most:Int)(n:Int)(t0:Int×List Rtr):NF:=⟨[rR 0 0,rI 2 n,rR 6 1,rR 7 2,rI 8 (rng L p 1 most),rI 9 t0.1],[.box (.agg [.sl 1 (L.map AV.int) false,.int (ab L p)]),.box (.agg [.sl 0 [] true,.sl 0 [] true]),.box (.agg [.vec 3,.sl 0 [] true]),vB 2 Rtr.v t0.2 (λ_=>rfl)]⟩
def Jn(L:List Int)(p:Nat)(most:Int)(n:Int)(t0:Int×List Rtr)(t1:Int×Nat×List Lnk):NF:=⟨[rR 0 0,rI 2 n,rR 6 1,rR 7 2,rI 8 (rng L p 1 most),rI 10 (aK [1,2,2,5] (am L (ab L p))),rI 11 t1.1],[.box (.agg [.sl 1 (L.map AV.int) false,.int t1.2.1]),.box (.agg [.sl 0 [] true,.sl 0 [] true]),.box (.agg [.vec 3,.vec 4]),vB 2 Rtr.v t0.2 (λ_=>rfl),vB 5 Lnk.v t1.2.2 (λ_=>rfl)]⟩
def Jm(L:List Int)(p:Nat)(most:Int)(n:Int)(t0:Int×List Rtr)(t1:Int×Nat×List Lnk)(t2:Int×List Lnk×Nat):NF:=⟨[rR 0 0,rI 2 n,rR 6 1,rR 7 2,rI 8 (rng L p 1 most),rI 10 (aK [1,2,2,5] (am L (ab L p))),rI 11 t1.1,rI 12 (rng L t1.2.1 1 (W (t1.1-1))),rB 13 (eV L (ab L t1.2.1) 9),rI 14 t2.1],[.box (.agg [.sl 1 (L.map AV.int) false,.int t2.2.2]),.box (.agg [.sl 0 [] true,.sl 0 [] true]),.box (.agg [.vec 3,.vec 4]),vB 2 Rtr.v t0.2 (λ_=>rfl),vB 5 Lnk.v t2.2.1 (λ_=>rfl)]⟩
def Jl(L:List Int)(p:Nat)(most:Int)(n:Int)(t0:Int×List Rtr)(t1:Int×Nat×List Lnk)(t2:Int×List Lnk×Nat)(t3:Bool×Nat):NF:=⟨[rR 0 0,rI 2 n,rR 6 1,rR 7 2,rI 8 (rng L p 1 most),rI 10 (aK [1,2,2,5] (am L (ab L p))),rI 11 t1.1,rI 12 (rng L t1.2.1 1 (W (t1.1-1))),rB 13 (eV L (ab L t1.2.1) 9),rI 14 t2.1,rB 60 t3.1],[.box (.agg [.sl 1 (L.map AV.int) false,.int t3.2]),.box (.agg [.sl 0 [] true,.sl 0 [] true]),.box (.agg [.vec 3,.vec 4]),vB 2 Rtr.v t0.2 (λ_=>rfl),vB 5 Lnk.v t2.2.1 (λ_=>rfl)]⟩
def Jk(L:List Int)(t0:Int×List Rtr)(t1:Int×Nat×List Lnk)(t4:Bool×Nat):NF:=⟨[rR 0 0,rR 6 1,rR 7 2,rB 87 t4.1],[.box (.agg [.sl 1 (L.map AV.int) false,.int t4.2]),.box (.agg [.sl 0 [] true,.sl 0 [] true]),.box (.agg [.vec 3,.vec 4]),vB 2 Rtr.v t0.2 (λ_=>rfl),vB 5 Lnk.v (bj t1.2.2 []) (λ_=>rfl)]⟩
def Jj(L:List Int)(t1:Int×Nat×List Lnk)(t4:Bool×Nat)(t5:Int×List Rtr):NF:=⟨[rR 6 1,rR 7 2,rI 15 t5.1],[.box (.agg [.sl 1 (L.map AV.int) false,.int (ab L t4.2)]),.box (.agg [.sl 0 [] true,.sl 0 [] true]),.box (.agg [.vec 3,.vec 4]),vB 2 Rtr.v t5.2 (λ_=>rfl),vB 5 Lnk.v (bj t1.2.2 []) (λ_=>rfl)]⟩
@[reducible] def Cv:Nat→Type
 | 0=>Int×List Rtr
 | 1=>Int×Nat×List Lnk
 | 2=>Int×List Lnk×Nat
 | 3=>Bool×Nat
 | 4=>Bool×Nat
 | 5=>Int×List Rtr
 | _=>Unit
def vz(r:Tap×Tpl):AV:=.agg [.vec 1,.vec 2]
def v7(r:Tap×Tpl):List (Option Blk):=[some (.box (Tap.v r.1)),some (.vec 2 (r.2.rs.map Rtr.v)),some (.vec 5 (r.2.ls.map Lnk.v))]
def Cu(L:List Int)(p:Nat)(most:Int)(n:Int)(I0:(Int×List Rtr)→Prop)(m0:(Int×List Rtr)→Nat)(I1:Int×List Rtr→(Int×Nat×List Lnk)→Prop)(m1:Int×List Rtr→(Int×Nat×List Lnk)→Nat)(I2:Int×List Rtr→Int×Nat×List Lnk→(Int×List Lnk×Nat)→Prop)(m2:Int×List Rtr→Int×Nat×List Lnk→(Int×List Lnk×Nat)→Nat)(I3:Int×List Rtr→Int×Nat×List Lnk→Int×List Lnk×Nat→(Bool×Nat)→Prop)(I4:Int×List Rtr→Int×Nat×List Lnk→(Bool×Nat)→Prop)(I5:Int×List Rtr→Int×Nat×List Lnk→Bool×Nat→(Int×List Rtr)→Prop)(m5:Int×List Rtr→Int×Nat×List Lnk→Bool×Nat→(Int×List Rtr)→Nat):Ax Tryz.prog Cv (Tap×Tpl):=
 (.callH [0] (ep L p 1 most) 65
(.cmdL (.nilB 17 0 2) (.loop 0 (Jo L p most n) I0 m0 (1,[]) [0,1,17,113] λ(t0:Int×List Rtr) b0 =>
(.br 52 (decide (t0.1≤(rng L p 1 most))) (.apX 132 Rtr.v t0.2 [(⟨t0.1,true⟩:Rtr)] (t0.2.length+1)
(.bk 0 b0 (W (t0.1+1),t0.2++[(⟨t0.1,true⟩:Rtr)]) [0,1,2,132]))
(.req 84 ([1,2,2,5]≠[]) λh1 =>
(.callH [0] (fI L (ab L p) [1,2,2,5] h1) 84
(.cmdL (.nilB 2 1 5) (.loop 1 (Jn L p most n t0) (I1 t0) (m1 t0) (2,ab L (ab L p),[]) [0,1,2,3,132] λ(t1:Int×Nat×List Lnk) b1 =>
(.br 53 (decide (t1.1≤(rng L p 1 most))) (.callH [0] (ep L t1.2.1 1 (W (t1.1-1))) 101
(.callH [0] (jo L (ab L t1.2.1) 9) 149
(.loop 2 (Jm L p most n t0 t1) (I2 t0 t1) (m2 t0 t1) (1,t1.2.2,ab L (ab L t1.2.1)) [0,1,2,3,4] λ(t2:Int×List Lnk×Nat) b2 =>
(.br 53 (decide (t2.1<t1.1)) (.pass (.join 3 (Jl L p most n t0 t1 t2) (λ(t3:Bool×Nat)=>I3 t0 t1 t2 t3) (λb3=>(.br 117 (t2.1==(rng L t1.2.1 1 (W (t1.1-1)))) (.br 181 (!(eV L (ab L t1.2.1) 9)) (.bk 3 b3 (true,t2.2.2) [0,1,2,3,4])
(.callH [0] (jo L t2.2.2 3) 197
(.bk 3 b3 (eV L t2.2.2 3,ab L t2.2.2) [0,1,2,3,4])))
(.callH [0] (jo L t2.2.2 3) 197
(.bk 3 b3 (eV L t2.2.2 3,ab L t2.2.2) [0,1,2,3,4])))) λ(t3:Bool×Nat) =>
(.br 5 t3.1 (.callH [0] (ep L t3.2 1 (aK [1,2,2,5] (am L (ab L p)))) 101
(.callH [0] (ep L (ab L t3.2) 1 (aK [1,2,2,5] (am L (ab L p)))) 149
(.callH [0] (bq L (ab L (ab L t3.2)) 4) 181
(.apX 229 Lnk.v t2.2.1 [(⟨t2.1,t1.1,rng L t3.2 1 (aK [1,2,2,5] (am L (ab L p))),rng L (ab L t3.2) 1 (aK [1,2,2,5] (am L (ab L p))),Mod (am L (ab L (ab L t3.2))) 4⟩:Lnk)] (t2.2.1.length+1)
(.bk 2 b2 (W (t2.1+1),t2.2.1++[(⟨t2.1,t1.1,rng L t3.2 1 (aK [1,2,2,5] (am L (ab L p))),rng L (ab L t3.2) 1 (aK [1,2,2,5] (am L (ab L p))),Mod (am L (ab L (ab L t3.2))) 4⟩:Lnk)],ab L (ab L (ab L t3.2))) [0,1,2,3,229])))))
(.bk 2 b2 (W (t2.1+1),t2.2.1,t3.2) [0,1,2,3,4]))))
(.bk 1 b1 (W (t1.1+1),t2.2.2,t2.2.1) [0,1,2,3,4])))))
(.say (Rf (t1.2.2.map Lnk.v)) (.cmd (.frzE 4 (t1.2.2.map Lnk.v) (ah (λ_=>rfl) t1.2.2)) (.req 85 (t1.2.2.length≤1000) λh2 =>
(.callH [] (P7 t1.2.2 h2) 85
(.pass (.join 4 (Jk L t0 t1) (λ(t4:Bool×Nat)=>I4 t0 t1 t4) (λb4=>(.br 181 (decide (0<n)) (.callH [0] (jo L t1.2.1 n) 213
(.bk 4 b4 (eV L t1.2.1 n,ab L t1.2.1) [0,1,2,3,85]))
(.bk 4 b4 (false,t1.2.1) [0,1,2,3,85]))) λ(t4:Bool×Nat) =>
(.br 5 t4.1 (.callH [0] (bq L t4.2 7) 21
(.br 69 ((Mod (am L t4.2) 7)==0) (.req 133 ([0,1,99,100,-1]≠[]) λh3 =>
(.callH [0] (fI L (ab L t4.2) [0,1,99,100,-1] h3) 133
(.apX 181 Rtr.v t0.2 [(⟨aK [0,1,99,100,-1] (am L (ab L t4.2)),false⟩:Rtr)] (t0.2.length+1)
(.retH ((⟨L,ab L (ab L t4.2)⟩:Tap),(⟨t0.2++[(⟨aK [0,1,99,100,-1] (am L (ab L t4.2)),false⟩:Rtr)],bj t1.2.2 []⟩:Tpl)) ⟨[rR 6 3],[.box (.agg [.sl 1 (L.map AV.int) false,.int (((ab L (ab L t4.2)):Nat):Int)]),vB 2 Rtr.v (t0.2++[(⟨aK [0,1,99,100,-1] (am L (ab L t4.2)),false⟩:Rtr)]) (λ_=>rfl),vB 5 Lnk.v (bj t1.2.2 []) (λ_=>rfl),.box (.agg [.vec 1,.vec 2])]⟩ [0,181,4,1]))))
(.br 101 ((Mod (am L t4.2) 7)==1) (.callH [0] (bq L (ab L t4.2) 4) 149
(.callH [0] (bq L (ab L (ab L t4.2)) 4) 181
(.apX 229 Lnk.v (bj t1.2.2 []) [(⟨Mod (am L (ab L t4.2)) 4,Mod (am L (ab L (ab L t4.2))) 4,1,1,0⟩:Lnk)] ((bj t1.2.2 []).length+1)
(.retH ((⟨L,ab L (ab L (ab L t4.2))⟩:Tap),(⟨t0.2,(bj t1.2.2 [])++[(⟨Mod (am L (ab L t4.2)) 4,Mod (am L (ab L (ab L t4.2))) 4,1,1,0⟩:Lnk)]⟩:Tpl)) ⟨[rR 6 3],[.box (.agg [.sl 1 (L.map AV.int) false,.int (((ab L (ab L (ab L t4.2))):Nat):Int)]),vB 2 Rtr.v t0.2 (λ_=>rfl),vB 5 Lnk.v ((bj t1.2.2 [])++[(⟨Mod (am L (ab L t4.2)) 4,Mod (am L (ab L (ab L t4.2))) 4,1,1,0⟩:Lnk)]) (λ_=>rfl),.box (.agg [.vec 1,.vec 2])]⟩ [0,3,229,1]))))
(.br 133 ((Mod (am L t4.2) 7)==2) (.br 197 (decide (0<(((bj t1.2.2 []).map Lnk.v).length:Int))) (.callH [0] (bq L (ab L t4.2) (((bj t1.2.2 []).map Lnk.v).length:Int)) 293
(.callH [0] (lT L (ab L (ab L t4.2))) 325
(.stJ 373 Lnk.v (bj t1.2.2 []) (Mod (am L (ab L t4.2)) (((bj t1.2.2 []).map Lnk.v).length:Int)) (λy4=>(⟨y4.a,y4.b,fG L (ab L (ab L t4.2)),y4.cb,y4.w⟩:Lnk)) λy4 =>
(.retH ((⟨L,ab L (ab L (ab L t4.2))⟩:Tap),(⟨t0.2,(bj t1.2.2 []).set ((Mod (am L (ab L t4.2)) (((bj t1.2.2 []).map Lnk.v).length:Int)).toNat) (⟨y4.a,y4.b,fG L (ab L (ab L t4.2)),y4.cb,y4.w⟩:Lnk)⟩:Tpl)) ⟨[rR 6 3],[.box (.agg [.sl 1 (L.map AV.int) false,.int (((ab L (ab L (ab L t4.2))):Nat):Int)]),vB 2 Rtr.v t0.2 (λ_=>rfl),vB 5 Lnk.v ((bj t1.2.2 []).set ((Mod (am L (ab L t4.2)) (((bj t1.2.2 []).map Lnk.v).length:Int)).toNat) (⟨y4.a,y4.b,fG L (ab L (ab L t4.2)),y4.cb,y4.w⟩:Lnk)) (λ_=>rfl),.box (.agg [.vec 1,.vec 2])]⟩ [0,3,4,1]))))
(.retH ((⟨L,ab L t4.2⟩:Tap),(⟨t0.2,bj t1.2.2 []⟩:Tpl)) ⟨[rR 6 3],[.box (.agg [.sl 1 (L.map AV.int) false,.int (ab L t4.2)]),vB 2 Rtr.v t0.2 (λ_=>rfl),vB 5 Lnk.v (bj t1.2.2 []) (λ_=>rfl),.box (.agg [.vec 1,.vec 2])]⟩ [0,3,4,1]))
(.br 165 ((Mod (am L t4.2) 7)==3) (.br 229 (decide (0<(((bj t1.2.2 []).map Lnk.v).length:Int))) (.callH [0] (bq L (ab L t4.2) (((bj t1.2.2 []).map Lnk.v).length:Int)) 325
(.callH [0] (lT L (ab L (ab L t4.2))) 357
(.stJ 405 Lnk.v (bj t1.2.2 []) (Mod (am L (ab L t4.2)) (((bj t1.2.2 []).map Lnk.v).length:Int)) (λy5=>(⟨y5.a,y5.b,y5.ca,fG L (ab L (ab L t4.2)),y5.w⟩:Lnk)) λy5 =>
(.retH ((⟨L,ab L (ab L (ab L t4.2))⟩:Tap),(⟨t0.2,(bj t1.2.2 []).set ((Mod (am L (ab L t4.2)) (((bj t1.2.2 []).map Lnk.v).length:Int)).toNat) (⟨y5.a,y5.b,y5.ca,fG L (ab L (ab L t4.2)),y5.w⟩:Lnk)⟩:Tpl)) ⟨[rR 6 3],[.box (.agg [.sl 1 (L.map AV.int) false,.int (((ab L (ab L (ab L t4.2))):Nat):Int)]),vB 2 Rtr.v t0.2 (λ_=>rfl),vB 5 Lnk.v ((bj t1.2.2 []).set ((Mod (am L (ab L t4.2)) (((bj t1.2.2 []).map Lnk.v).length:Int)).toNat) (⟨y5.a,y5.b,y5.ca,fG L (ab L (ab L t4.2)),y5.w⟩:Lnk)) (λ_=>rfl),.box (.agg [.vec 1,.vec 2])]⟩ [0,3,4,1]))))
(.retH ((⟨L,ab L t4.2⟩:Tap),(⟨t0.2,bj t1.2.2 []⟩:Tpl)) ⟨[rR 6 3],[.box (.agg [.sl 1 (L.map AV.int) false,.int (ab L t4.2)]),vB 2 Rtr.v t0.2 (λ_=>rfl),vB 5 Lnk.v (bj t1.2.2 []) (λ_=>rfl),.box (.agg [.vec 1,.vec 2])]⟩ [0,3,4,1]))
(.br 197 ((Mod (am L t4.2) 7)==4) (.br 261 (decide (0<(((bj t1.2.2 []).map Lnk.v).length:Int))) (.callH [0] (bq L (ab L t4.2) (((bj t1.2.2 []).map Lnk.v).length:Int)) 357
(.callH [0] (lT L (ab L (ab L t4.2))) 389
(.stJ 437 Lnk.v (bj t1.2.2 []) (Mod (am L (ab L t4.2)) (((bj t1.2.2 []).map Lnk.v).length:Int)) (λy6=>(⟨y6.a,y6.b,y6.ca,y6.cb,fG L (ab L (ab L t4.2))⟩:Lnk)) λy6 =>
(.retH ((⟨L,ab L (ab L (ab L t4.2))⟩:Tap),(⟨t0.2,(bj t1.2.2 []).set ((Mod (am L (ab L t4.2)) (((bj t1.2.2 []).map Lnk.v).length:Int)).toNat) (⟨y6.a,y6.b,y6.ca,y6.cb,fG L (ab L (ab L t4.2))⟩:Lnk)⟩:Tpl)) ⟨[rR 6 3],[.box (.agg [.sl 1 (L.map AV.int) false,.int (((ab L (ab L (ab L t4.2))):Nat):Int)]),vB 2 Rtr.v t0.2 (λ_=>rfl),vB 5 Lnk.v ((bj t1.2.2 []).set ((Mod (am L (ab L t4.2)) (((bj t1.2.2 []).map Lnk.v).length:Int)).toNat) (⟨y6.a,y6.b,y6.ca,y6.cb,fG L (ab L (ab L t4.2))⟩:Lnk)) (λ_=>rfl),.box (.agg [.vec 1,.vec 2])]⟩ [0,3,4,1]))))
(.retH ((⟨L,ab L t4.2⟩:Tap),(⟨t0.2,bj t1.2.2 []⟩:Tpl)) ⟨[rR 6 3],[.box (.agg [.sl 1 (L.map AV.int) false,.int (ab L t4.2)]),vB 2 Rtr.v t0.2 (λ_=>rfl),vB 5 Lnk.v (bj t1.2.2 []) (λ_=>rfl),.box (.agg [.vec 1,.vec 2])]⟩ [0,3,4,1]))
(.br 229 ((Mod (am L t4.2) 7)==5) (.br 293 (decide (0<(((bj t1.2.2 []).map Lnk.v).length:Int))) (.callH [0] (bq L (ab L t4.2) (((bj t1.2.2 []).map Lnk.v).length:Int)) 421
(.elJ 453 Lnk.v (bj t1.2.2 []) (Mod (am L (ab L t4.2)) (((bj t1.2.2 []).map Lnk.v).length:Int)) λx7 =>
(.apX 485 Lnk.v (bj t1.2.2 []) [x7] ((bj t1.2.2 []).length+1)
(.retH ((⟨L,ab L (ab L t4.2)⟩:Tap),(⟨t0.2,(bj t1.2.2 [])++[x7]⟩:Tpl)) ⟨[rR 6 3],[.box (.agg [.sl 1 (L.map AV.int) false,.int (((ab L (ab L t4.2)):Nat):Int)]),vB 2 Rtr.v t0.2 (λ_=>rfl),vB 5 Lnk.v ((bj t1.2.2 [])++[x7]) (λ_=>rfl),.box (.agg [.vec 1,.vec 2])]⟩ [0,3,485,1]))))
(.retH ((⟨L,ab L t4.2⟩:Tap),(⟨t0.2,bj t1.2.2 []⟩:Tpl)) ⟨[rR 6 3],[.box (.agg [.sl 1 (L.map AV.int) false,.int (ab L t4.2)]),vB 2 Rtr.v t0.2 (λ_=>rfl),vB 5 Lnk.v (bj t1.2.2 []) (λ_=>rfl),.box (.agg [.vec 1,.vec 2])]⟩ [0,3,4,1]))
(.loop 5 (Jj L t1 t4) (I5 t0 t1 t4) (m5 t0 t1 t4) (50,t0.2) [0,1,2,3,4] λ(t5:Int×List Rtr) b5 =>
(.br 37 (decide (t5.1<75)) (.apX 117 Rtr.v t5.2 [(⟨t5.1,false⟩:Rtr)] (t5.2.length+1)
(.bk 5 b5 (W (t5.1+1),t5.2++[(⟨t5.1,false⟩:Rtr)]) [0,1,2,117,4]))
(.retH ((⟨L,ab L t4.2⟩:Tap),(⟨t5.2,bj t1.2.2 []⟩:Tpl)) ⟨[rR 6 3],[.box (.agg [.sl 1 (L.map AV.int) false,.int (ab L t4.2)]),vB 2 Rtr.v t5.2 (λ_=>rfl),vB 5 Lnk.v (bj t1.2.2 []) (λ_=>rfl),.box (.agg [.vec 1,.vec 2])]⟩ [0,3,4,1]))))))))))
(.retH ((⟨L,t4.2⟩:Tap),(⟨t0.2,bj t1.2.2 []⟩:Tpl)) ⟨[rR 6 3],[.box (.agg [.sl 1 (L.map AV.int) false,.int t4.2]),vB 2 Rtr.v t0.2 (λ_=>rfl),vB 5 Lnk.v (bj t1.2.2 []) (λ_=>rfl),.box (.agg [.vec 1,.vec 2])]⟩ [0,3,4,1])))))))))))))))))
theorem OG(L:List Int)(p:Nat)(most n:Int)(h:1≤most∧most≤20):∃I0 m0 I1 m1 I2 m2 I3 I4 I5 m5,(Cu L p most n I0 m0 I1 m1 I2 m2 I3 I4 I5 m5).vc vz v7 ((⟨L,(aw L p most n).2⟩:Tap),(aw L p most n).1):=by
 have hk:=ta (L:=L) (p:=p) (m:=most) (by omega)
 refine⟨λs=>∃j:Nat,s.1=((j+1:Nat):Int)∧j≤(rng L p 1 most).toNat∧s.2=ku j,λs=>(rng L p 1 most).toNat+1-s.1.toNat,
  λ_ s=>∃j:Nat,s.1=((j+2:Nat):Int)∧j≤(rng L p 1 most-1).toNat∧s.2.2.length≤20 * j∧ouM L (uF L p) ((rng L p 1 most-1).toNat-j) s.1 s.2.2 s.2.1=qF L p most,λ_ s=>(rng L p 1 most).toNat+1-s.1.toNat,
  λ_ s1 s=>∃j:Nat,s.1=((j+1:Nat):Int)∧j≤(s1.1-1).toNat∧s.2.1.length≤s1.2.2.length+j∧inM L (uF L p) s1.1 (rng L s1.2.1 1 (W (s1.1-1))) (eV L (ab L s1.2.1) 9) ((s1.1-1).toNat-j) s.1 s.2.1 s.2.2=inR L (uF L p) s1.1 s1.2.2 s1.2.1,λ_ s1 s=>s1.1.toNat-s.1.toNat,
  λ_ s1 s2 s=>s=cnM L s2.1 (rng L s1.2.1 1 (W (s1.1-1))) (eV L (ab L s1.2.1) 9) s2.2.2,
  λ_ s1 s=>s=(decide (0<n∧eV L s1.2.1 n=true),if 0<n then ab L s1.2.1 else s1.2.1),
  λ_ _ _ s=>∃j:Nat,s.1=((50+j:Nat):Int)∧j≤25∧s.2=ku (rng L p 1 most).toNat++um j,λ_ _ _ s=>75-s.1.toNat,?_⟩
 dsimp only[Cu,Cv,Ax.vp,Ax.vc];simp only[vcU,rfU,B'];generalize hK:rng L p 1 most=K at hk ⊢;have hK0:Cw L p most=⟨ku K.toNat,bj (qF L p most).1 []⟩:=by unfold Cw;rw[hK]
 refine⟨⟨0,rfl,aG' _,rfl⟩,?_⟩;rintro⟨i,rs⟩ ⟨j,hi,hj,hr⟩;simp only at hi hr ⊢;subst hi;subst hr;rw[kW];refine⟨λc=>⟨by omega,⟨j+1,by rw[ce (by omega)];omega,by omega,(AS j).symm⟩,by rw[ce (by omega)];omega⟩,λc=>⟨by simp,?_⟩⟩;obtain rfl:j=K.toNat:=by omega
 refine⟨⟨0,rfl,aG' _,by simp,by rw[qF,hK];rfl⟩,?_⟩;rintro⟨b,q,ls⟩ ⟨jb,hb,hjb,hlb,hob⟩;simp only at hb hlb hob ⊢
 refine⟨λc1=>?_,λc1=>?_⟩
 ·refine⟨⟨0,rfl,aG' _,by simp,by rw[Nat.sub_zero];rfl⟩,?_⟩;rintro⟨a,l2,p2⟩ ⟨ja,ha,hja,hla,hoa⟩;simp only at ha hla hoa ⊢
  refine⟨λc2=>⟨⟨λe=>⟨λe2=>?_,λe2=>?_⟩,λe=>?_⟩,?_⟩,λc2=>?_⟩
  ·rw[cnM,G' ⟨e,by simpa using e2⟩]
  ·rw[cnM,F' (λq=>by rw[q.2]at e2;cases e2)]
  ·rw[cnM,F' (λq=>by rw[q.1]at e;cases e)]
  ·rintro _ rfl;have hst:(b-1).toNat-ja=((b-1).toNat-(ja+1))+1:=by omega
   rw[hst,inM]at hoa;have hw:W (a+1)=((ja+1+1:Nat):Int):=by rw[ce (by omega)];omega
   refine⟨λe=>?_,λe=>?_⟩
   ·rw[G' e]at hoa;refine⟨by omega,⟨ja+1,hw,by omega,by simp;omega,?_⟩,by rw[hw];omega⟩;rw[hw,show((ja+1+1:Nat):Int)=a+1 by omega];exact hoa
   ·rw[F' (by rw[e];simp)]at hoa;refine⟨⟨ja+1,hw,by omega,by omega,?_⟩,by rw[hw];omega⟩;rw[hw,show((ja+1+1:Nat):Int)=a+1 by omega];exact hoa
  ·have e1:(b-1).toNat-ja=0:=by omega
   rw[e1,inM]at hoa;have e2:(K-1).toNat-jb=((K-1).toNat-(jb+1))+1:=by omega
   rw[e2,ouM,←hoa]at hob;have hw:W (b+1)=((jb+1+2:Nat):Int):=by rw[ce (by omega)];omega
   refine⟨⟨jb+1,hw,by omega,by omega,?_⟩,by rw[hw];omega⟩;rw[hw,show((jb+1+2:Nat):Int)=b+1 by omega];exact hob
 ·have e1:(K-1).toNat-jb=0:=by omega
  rw[e1,ouM]at hob;have hT:aw L p most n=if 0<n∧eV L q n=true then OV L (ab L q) ⟨ku K.toNat,bj ls []⟩else(⟨ku K.toNat,bj ls []⟩,if 0<n then ab L q else q):=by
   unfold aw;rw[hK0,←hob]
  have hol:(bj ls []).length≤400:=by rw[ow];simp;omega
  generalize bj ls []=ol at hT hol ⊢
  refine⟨by omega,⟨λc2=>?_,λc2=>?_⟩,?_⟩
  ·rw[G' c2];refine Prod.ext ?_ rfl;rw[ae'];simp[c2]
  ·rw[F' c2];refine Prod.ext ?_ rfl;rw[ae'];simp[c2]
  rintro _ rfl;simp only;refine⟨λe=>?_,λe=>by rw[hT,F' (T' e)]⟩;have e:=H' e;rw[hT,G' e,G' e.1];generalize ab L q=q1;have hix:∀{m:Nat},0<(m:Int)→(bif decide (0≤Mod (am L (ab L q1)) m)then decide (Mod (am L (ab L q1)) m<m)else false)=true∧(Mod (am L (ab L q1)) m).toNat<m:=λ{m} hm=>by
   have:=bw (x:=am L (ab L q1)) (show 1≤(m:Int) by omega);exact⟨eu this.1 this.2,by omega⟩
  have hno:¬0<(ol.length:Int)→∀i:Nat,ol[i]?=none:=λh i=>aj' (by omega);unfold OV ixM;simp only
  refine⟨λs0=>?_,λs0=>⟨λs1=>?_,λs1=>⟨λs2=>?_,λs2=>⟨λs3=>?_,λs3=>⟨λs4=>?_,λs4=>⟨λs5=>?_,λs5=>?_⟩⟩⟩⟩⟩⟩
  ·rw[G' (eq_of_beq s0)];exact⟨by simp,by omega,rfl⟩
  all_goals
   have s0:¬Mod (am L q1) 7=0:=by simpa using s0
   rw[F' s0]
  ·rw[G' (eq_of_beq s1)];exact⟨by omega,rfl⟩
  all_goals
   have s1:¬Mod (am L q1) 7=1:=by simpa using s1
   rw[F' s1]
  ·rw[G' (eq_of_beq s2)];exact⟨λh=>⟨(hix h).1,(hix h).2,λy hy=>by rw[hy]⟩,λh=>by rw[hno h]⟩
  all_goals
   have s2:¬Mod (am L q1) 7=2:=by simpa using s2
   rw[F' s2]
  ·rw[G' (eq_of_beq s3)];exact⟨λh=>⟨(hix h).1,(hix h).2,λy hy=>by rw[hy]⟩,λh=>by rw[hno h]⟩
  all_goals
   have s3:¬Mod (am L q1) 7=3:=by simpa using s3
   rw[F' s3]
  ·rw[G' (eq_of_beq s4)];exact⟨λh=>⟨(hix h).1,(hix h).2,λy hy=>by rw[hy]⟩,λh=>by rw[hno h]⟩
  all_goals
   have s4:¬Mod (am L q1) 7=4:=by simpa using s4
   rw[F' s4]
  ·rw[G' (eq_of_beq s5)];exact⟨λh=>⟨(hix h).1,(hix h).2,λy hy=>by rw[hy];exact⟨by omega,rfl⟩⟩,λh=>by rw[hno h]⟩
  have s5:¬Mod (am L q1) 7=5:=by simpa using s5
  rw[F' s5];refine⟨⟨0,rfl,by omega,by simp[um]⟩,?_⟩;rintro⟨i,rs⟩ ⟨j,hi,hj,hr⟩;simp only at hi hr ⊢;subst hi;subst hr;refine⟨λf=>⟨by rw[List.length_append,kW,Gj];omega,⟨j+1,by rw[ce (by omega)];omega,by omega,by rw[By,aT']⟩,by rw[ce (by omega)];omega⟩,λf=>?_⟩;obtain rfl:j=25:=by omega
  rfl
def OH(L:List Int)(p:Nat)(most:Int)(n:Int)(h:1≤most∧most≤20):HC Tryz.prog:=hcO 8 [.k,.k,.k] [.ref 0 0,.int most,.int n] [.box (.agg [.sl 1 (L.map AV.int) false,.int p])] .k vz v7 ((⟨L,(aw L p most n).2⟩:Tap),(aw L p most n).1) (λ_ _=>let ⟨I0,m0,I1,m1,I2,m2,I3,I4,I5,m5,h⟩:=OG L p most n h;⟨_,h,by kernel_rfl⟩) (by kernel_rfl) (by simp[hcB,cS,AV.belB,allB,eH,dG,vz,v7,Tap.v,ah (v:=AV.int) (λ_=>rfl),ah (v:=Lnk.v) (λ_=>rfl),ah (v:=Rtr.v) (λ_=>rfl)])
theorem ov{L:List Int}:∀{n:Nat} {i:Int} {out:List Int} {p:Nat},(pK L n i out p).1.length=out.length+n
 | 0,i,out,p=>rfl
 | n+1,i,out,p=>by
  have hm:=bw (x:=am L p) (show 1≤(out.length:Int)+1 by omega);rw[pK,ov,gZ _ _ _ (by omega)];omega
def mc(L:List Int)(c:Int)(rs:List Rtr):List Int→Int→List Edg→Nat→(Int×List Edg)×Nat
 | [],id,es,p=>((id,es),p)
 | o::l,id,es,p =>
  if Mod (am L p) 4=0 then mc L c rs l id es (ab L p)
  else if W (id+aK [1,1,1,2,c] (am L (ab L p)))≤256 then(match rs[o.toNat]? with
   | some r=>mc L c rs l (W (id+aK [1,1,1,2,c] (am L (ab L p)))) (es++[⟨r.id,W (id+aK [1,1,1,2,c] (am L (ab L p)))⟩]) (ab L (ab L p))
   | none=>((id,es),p))
  else mc L c rs l (W (id+aK [1,1,1,2,c] (am L (ab L p)))) es (ab L (ab L p))
def rb(L:List Int)(p:Nat)(g:Tpl):(Int×List Edg)×Nat:=mc L (W (db L (ab L p)-1)) g.rs (gf L g.rs.length (ab L (ab L p))).1 0 [] (gf L g.rs.length (ab L (ab L p))).2
def plaS(L:List Int)(p:Nat)(sub len:Int)(q:Int×List Edg):Pln×Nat:=
 if Mod (am L p) 5=0 then(⟨fG L (ab L p),len,q.2⟩,ab L (ab L p))
 else if Mod (am L p) 5=1 then(⟨sub,aK [0,8,24,64,128] (am L (ab L p)),q.2⟩,ab L (ab L p))
 else if Mod (am L p) 5=2 then(⟨sub,len,q.2++[⟨aK [0,1,99,100] (am L (ab L p)),aK [0,1,256,257] (am L (ab L (ab L p)))⟩]⟩,ab L (ab L (ab L p)))
 else if Mod (am L p) 5=3 then(match q.2[0]? with
  | some y=>(⟨sub,len,q.2.set 0 ⟨y.router,fG L (ab L p)⟩⟩,ab L (ab L p))
  | none=>(⟨sub,len,q.2⟩,ab L p))
 else(⟨sub,len,q.2++[⟨50,W (q.1+1)⟩]⟩,ab L p)
def dL(L:List Int)(p:Nat)(g:Tpl)(n:Int):Pln×Nat:=
 if 0<n∧eV L (rb L p g).2 n=true then plaS L (ab L (rb L p g).2) (Mod (am L p) 3) (db L (ab L p)) (rb L p g).1
 else(⟨Mod (am L p) 3,db L (ab L p),(rb L p g).1.2⟩,if 0<n then ab L (rb L p g).2 else(rb L p g).2)
def Kh(L:List Int)(p:Nat)(g:Tpl)(n:Int)(t0:Int×Nat×Int×List Edg):NF:=⟨[rR 0 0,rI 2 n,rR 4 1,rR 6 2,rR 7 3,rI 8 t0.2.2.1,(9,.k,.sl 1 (((gf L ((g.rs.map Rtr.v).length:Int) (ab L (ab L p))).1).map AV.int) false),rI 10 t0.1],[.box (.agg [.sl 1 (L.map AV.int) false,.int t0.2.1]),.box (Tpl.v g),.box (.agg [.int 0,.int 0,.sl 0 [] true]),.box (.agg [.int (Mod (am L p) 3),.int (db L (ab L p)),.vec 4]),vB 2 Edg.v t0.2.2.2 (λ_=>rfl)]⟩
def Kg(L:List Int)(p:Nat)(t0:Int×Nat×Int×List Edg)(t1:Bool×Nat):NF:=⟨[rR 0 0,rR 6 1,rR 7 2,rI 8 t0.2.2.1,rB 62 t1.1],[.box (.agg [.sl 1 (L.map AV.int) false,.int t1.2]),.box (.agg [.int 0,.int 0,.sl 0 [] true]),.box (.agg [.int (Mod (am L p) 3),.int (db L (ab L p)),.vec 3]),vB 2 Edg.v t0.2.2.2 (λ_=>rfl)]⟩
@[reducible] def DE:Nat→Type
 | 0=>Int×Nat×Int×List Edg
 | 1=>Bool×Nat
 | _=>Unit
def we(r:Tap×Pln):AV:=Pln.v r.2
def wg(r:Tap×Pln):List (Option Blk):=[some (.box (Tap.v r.1))]
def DD(L:List Int)(p:Nat)(g:Tpl)(n:Int)(I0:(Int×Nat×Int×List Edg)→Prop)(m0:(Int×Nat×Int×List Edg)→Nat)(I1:Int×Nat×Int×List Edg→(Bool×Nat)→Prop):Ax Tryz.prog DE (Tap×Pln):=
 (.callH [0] (bq L p 3) 49
(.callH [0] (EJ L (ab L p)) 81
(.req 225 (((g.rs.map Rtr.v).length:Int)≤1000) λh1 =>
(.callH [0] (P9 L (ab L (ab L p)) ((g.rs.map Rtr.v).length:Int) h1) 225
(.cmdL (.nilB 113 2 2) (.loop 0 (Kh L p g n) I0 m0 (0,(gf L ((g.rs.map Rtr.v).length:Int) (ab L (ab L p))).2,0,[]) [0,1,17,113,273] λ(t0:Int×Nat×Int×List Edg) b0 =>
(.br 69 (decide (t0.1<((((gf L ((g.rs.map Rtr.v).length:Int) (ab L (ab L p))).1).map AV.int).length:Int))) (.callH [0] (bq L t0.2.1 4) 85
(.br 117 ((Mod (am L t0.2.1) 4)==0) (.bk 0 b0 (W (t0.1+1),ab L t0.2.1,t0.2.2.1,t0.2.2.2) [0,1,2,3,4])
(.req 213 ([1,1,1,2,W ((db L (ab L p))-1)]≠[]) λh2 =>
(.callH [0] (fI L (ab L t0.2.1) [1,1,1,2,W ((db L (ab L p))-1)] h2) 213
(.br 293 (decide ((W (t0.2.2.1+(aK [1,1,1,2,W ((db L (ab L p))-1)] (am L (ab L t0.2.1)))))≤256)) (.elI 389 AV.int ((gf L ((g.rs.map Rtr.v).length:Int) (ab L (ab L p))).1) t0.1 λx3 =>
(.elI 421 Rtr.v g.rs x3 λx4 =>
(.apX 517 Edg.v t0.2.2.2 [(⟨x4.id,W (t0.2.2.1+(aK [1,1,1,2,W ((db L (ab L p))-1)] (am L (ab L t0.2.1))))⟩:Edg)] (t0.2.2.2.length+1)
(.bk 0 b0 (W (t0.1+1),ab L (ab L t0.2.1),W (t0.2.2.1+(aK [1,1,1,2,W ((db L (ab L p))-1)] (am L (ab L t0.2.1)))),t0.2.2.2++[(⟨x4.id,W (t0.2.2.1+(aK [1,1,1,2,W ((db L (ab L p))-1)] (am L (ab L t0.2.1))))⟩:Edg)]) [0,1,2,3,517]))))
(.bk 0 b0 (W (t0.1+1),ab L (ab L t0.2.1),W (t0.2.2.1+(aK [1,1,1,2,W ((db L (ab L p))-1)] (am L (ab L t0.2.1)))),t0.2.2.2) [0,1,2,3,4]))))))
(.pass (.join 1 (Kg L p t0) (λ(t1:Bool×Nat)=>I1 t0 t1) (λb1=>(.br 117 (decide (0<n)) (.callH [0] (jo L t0.2.1 n) 149
(.bk 1 b1 (eV L t0.2.1 n,ab L t0.2.1) [0,2,3,4]))
(.bk 1 b1 (false,t0.2.1) [0,2,3,4]))) λ(t1:Bool×Nat) =>
(.br 4 t1.1 (.callH [0] (bq L t1.2 5) 20
(.br 68 ((Mod (am L t1.2) 5)==0) (.callH [0] (lT L (ab L t1.2)) 84
(.fz 3 Edg.v t0.2.2.2 (λ_=>rfl) (.retH ((⟨L,ab L (ab L t1.2)⟩:Tap),(⟨fG L (ab L t1.2),db L (ab L p),t0.2.2.2⟩:Pln)) ⟨[rR 6 1],[.box (.agg [.sl 1 (L.map AV.int) false,.int (((ab L (ab L t1.2)):Nat):Int)]),.box (Pln.v (⟨fG L (ab L t1.2),db L (ab L p),t0.2.2.2⟩:Pln))]⟩ [0,1])))
(.br 100 ((Mod (am L t1.2) 5)==1) (.req 132 ([0,8,24,64,128]≠[]) λh5 =>
(.callH [0] (fI L (ab L t1.2) [0,8,24,64,128] h5) 132
(.fz 3 Edg.v t0.2.2.2 (λ_=>rfl) (.retH ((⟨L,ab L (ab L t1.2)⟩:Tap),(⟨Mod (am L p) 3,aK [0,8,24,64,128] (am L (ab L t1.2)),t0.2.2.2⟩:Pln)) ⟨[rR 6 1],[.box (.agg [.sl 1 (L.map AV.int) false,.int (((ab L (ab L t1.2)):Nat):Int)]),.box (Pln.v (⟨Mod (am L p) 3,aK [0,8,24,64,128] (am L (ab L t1.2)),t0.2.2.2⟩:Pln))]⟩ [0,1]))))
(.br 132 ((Mod (am L t1.2) 5)==2) (.req 196 ([0,1,99,100]≠[]) λh6 =>
(.callH [0] (fI L (ab L t1.2) [0,1,99,100] h6) 196
(.req 244 ([0,1,256,257]≠[]) λh7 =>
(.callH [0] (fI L (ab L (ab L t1.2)) [0,1,256,257] h7) 244
(.apX 292 Edg.v t0.2.2.2 [(⟨aK [0,1,99,100] (am L (ab L t1.2)),aK [0,1,256,257] (am L (ab L (ab L t1.2)))⟩:Edg)] (t0.2.2.2.length+1)
(.fz 292 Edg.v (t0.2.2.2++[(⟨aK [0,1,99,100] (am L (ab L t1.2)),aK [0,1,256,257] (am L (ab L (ab L t1.2)))⟩:Edg)]) (λ_=>rfl) (.retH ((⟨L,ab L (ab L (ab L t1.2))⟩:Tap),(⟨Mod (am L p) 3,db L (ab L p),t0.2.2.2++[(⟨aK [0,1,99,100] (am L (ab L t1.2)),aK [0,1,256,257] (am L (ab L (ab L t1.2)))⟩:Edg)]⟩:Pln)) ⟨[rR 6 1],[.box (.agg [.sl 1 (L.map AV.int) false,.int (((ab L (ab L (ab L t1.2))):Nat):Int)]),.box (Pln.v (⟨Mod (am L p) 3,db L (ab L p),t0.2.2.2++[(⟨aK [0,1,99,100] (am L (ab L t1.2)),aK [0,1,256,257] (am L (ab L (ab L t1.2)))⟩:Edg)]⟩:Pln))]⟩ [0,1])))))))
(.br 164 ((Mod (am L t1.2) 5)==3) (.br 228 (decide (0<((t0.2.2.2.map Edg.v).length:Int))) (.callH [0] (lT L (ab L t1.2)) 276
(.say (ck (decide (0<((t0.2.2.2.map Edg.v).length:Int)))) (.stX 324 Edg.v t0.2.2.2 0 (λy8=>(⟨y8.router,fG L (ab L t1.2)⟩:Edg)) λy8 =>
(.fz 3 Edg.v (t0.2.2.2.set 0 (⟨y8.router,fG L (ab L t1.2)⟩:Edg)) (λ_=>rfl) (.retH ((⟨L,ab L (ab L t1.2)⟩:Tap),(⟨Mod (am L p) 3,db L (ab L p),t0.2.2.2.set 0 (⟨y8.router,fG L (ab L t1.2)⟩:Edg)⟩:Pln)) ⟨[rR 6 1],[.box (.agg [.sl 1 (L.map AV.int) false,.int (((ab L (ab L t1.2)):Nat):Int)]),.box (Pln.v (⟨Mod (am L p) 3,db L (ab L p),t0.2.2.2.set 0 (⟨y8.router,fG L (ab L t1.2)⟩:Edg)⟩:Pln))]⟩ [0,1])))))
(.fz 3 Edg.v t0.2.2.2 (λ_=>rfl) (.retH ((⟨L,ab L t1.2⟩:Tap),(⟨Mod (am L p) 3,db L (ab L p),t0.2.2.2⟩:Pln)) ⟨[rR 6 1],[.box (.agg [.sl 1 (L.map AV.int) false,.int (ab L t1.2)]),.box (Pln.v (⟨Mod (am L p) 3,db L (ab L p),t0.2.2.2⟩:Pln))]⟩ [0,1])))
(.apX 260 Edg.v t0.2.2.2 [(⟨50,W (t0.2.2.1+1)⟩:Edg)] (t0.2.2.2.length+1)
(.fz 260 Edg.v (t0.2.2.2++[(⟨50,W (t0.2.2.1+1)⟩:Edg)]) (λ_=>rfl) (.retH ((⟨L,ab L t1.2⟩:Tap),(⟨Mod (am L p) 3,db L (ab L p),t0.2.2.2++[(⟨50,W (t0.2.2.1+1)⟩:Edg)]⟩:Pln)) ⟨[rR 6 1],[.box (.agg [.sl 1 (L.map AV.int) false,.int (ab L t1.2)]),.box (Pln.v (⟨Mod (am L p) 3,db L (ab L p),t0.2.2.2++[(⟨50,W (t0.2.2.1+1)⟩:Edg)]⟩:Pln))]⟩ [0,1]))))))))
(.fz 3 Edg.v t0.2.2.2 (λ_=>rfl) (.retH ((⟨L,t1.2⟩:Tap),(⟨Mod (am L p) 3,db L (ab L p),t0.2.2.2⟩:Pln)) ⟨[rR 6 1],[.box (.agg [.sl 1 (L.map AV.int) false,.int t1.2]),.box (Pln.v (⟨Mod (am L p) 3,db L (ab L p),t0.2.2.2⟩:Pln))]⟩ [0,1]))))))))))))
theorem Pw(L:List Int)(p:Nat)(g:Tpl)(n:Int)(h:g.rs.length≤100):∃I0 m0 I1,(DD L p g n I0 m0 I1).vc we wg ((⟨L,(dL L p g n).2⟩:Tap),(dL L p g n).1):=by
 refine⟨λs=>∃j:Nat,s.1=j∧j≤(gf L g.rs.length (ab L (ab L p))).1.length∧s.2.2.2.length≤j∧mc L (W (db L (ab L p)-1)) g.rs ((gf L g.rs.length (ab L (ab L p))).1.drop j) s.2.2.1 s.2.2.2 s.2.1=rb L p g,
  λs=>(gf L g.rs.length (ab L (ab L p))).1.length-s.1.toNat,λs b=>b=(decide (0<n∧eV L s.2.1 n=true),if 0<n then ab L s.2.1 else s.2.1),?_⟩
 dsimp only[DD,DE,Ax.vp,Ax.vc];simp only[vcU,rfU,B'];obtain⟨f1,f2⟩:=ou (L:=L) (n:=(g.rs.length:Int)) (p:=ab L (ab L p)) (by omega);have f3:(gf L (g.rs.length:Int) (ab L (ab L p))).1.length=g.rs.length:=by
  unfold gf;rw[ov];simp
 refine⟨by omega,⟨0,rfl,aG' _,by simp,rfl⟩,?_⟩;unfold dL;generalize rb L p g=R;generalize (gf L (g.rs.length:Int) (ab L (ab L p))).1=o at f1 f2 f3 ⊢;rintro⟨i,q,id,es⟩ ⟨j,hi,hj,hle,hr⟩;simp only at hi hle hr ⊢;subst hi
 refine⟨λc=>?_,λc=>?_⟩
 ·have hx:=u' (show j<o.length by omega);have hd:o.drop j=o[j]'(by omega)::o.drop (j+1):=bx' (by omega);have hm:=f2 (o[j]'(by omega)) (aA' _);generalize o[j]'(by omega)=x at hx hd hm;rw[hd,mc]at hr;rw[bf (n:=o.length) (by omega) (by omega)]
  refine⟨λe=>?_,λe=>⟨by simp,λe2=>?_,λe2=>?_⟩⟩
  ·rw[G' (eq_of_beq e)]at hr;exact⟨⟨j+1,rfl,by omega,by omega,hr⟩,by omega⟩
  ·rw[F' (by simpa using e),G' e2]at hr;refine⟨by omega,c,λx3 h3=>?_⟩;rw[Int.toNat_natCast,hx]at h3;cases h3;refine⟨hm.1,hm.2,λr h4=>?_⟩;rw[h4]at hr;exact⟨by omega,⟨j+1,rfl,by omega,by simp;omega,hr⟩,by omega⟩
  ·rw[F' (by simpa using e),F' e2]at hr;exact⟨⟨j+1,rfl,by omega,by omega,hr⟩,by omega⟩
 ·have e1:o.drop j=[]:=cw' (by omega);rw[e1,mc]at hr;rw[←hr];have hle2:es.length≤1000:=by omega
  refine⟨⟨λc2=>?_,λc2=>?_⟩,?_⟩
  ·rw[G' c2];refine Prod.ext ?_ rfl;rw[ae'];simp[c2]
  ·rw[F' c2];refine Prod.ext ?_ rfl;rw[ae'];simp[c2]
  rintro _ rfl;simp only;refine⟨λe=>?_,λe=>by rw[F' (T' e)]⟩;have e:=H' e;rw[G' e,G' e.1];generalize ab L q=q1;unfold plaS;simp only;refine⟨λs0=>by rw[G' (eq_of_beq s0)],λs0=>?_⟩;rw[F' (by simpa using s0)];refine⟨λs1=>by rw[G' (eq_of_beq s1)];exact⟨by simp,rfl⟩,λs1=>?_⟩;rw[F' (by simpa using s1)];refine⟨λs2=>by rw[G' (eq_of_beq s2)];exact⟨by simp,by simp,by omega,rfl⟩,λs2=>?_⟩;rw[F' (by simpa using s2)]
  refine⟨λs3=>?_,λs3=>?_⟩
  ·rw[G' (eq_of_beq s3)];refine⟨λh=>⟨h,by omega,λy hy=>by rw[hy]⟩,λh=>by rw[aj' (by omega)]⟩
  ·rw[F' (by simpa using s3)];exact⟨by omega,rfl⟩
def Px(L:List Int)(p:Nat)(g:Tpl)(n:Int)(h:g.rs.length≤100):HC Tryz.prog:=hcO 17 [.k,(.a [(.s 2),(.s 5)]),.k] [.ref 0 0,Tpl.v g,.int n] [.box (.agg [.sl 1 (L.map AV.int) false,.int p])] (.a [.k,.k,(.s 2)]) we wg ((⟨L,(dL L p g n).2⟩:Tap),(dL L p g n).1) (λ_ _=>let ⟨I0,m0,I1,h⟩:=Pw L p g n h;⟨_,h,by kernel_rfl⟩) (by kernel_rfl) (by simp[hcB,cS,AV.belB,allB,eH,dG,we,wg,Pln.v,Tap.v,Tpl.v,ah (v:=AV.int) (λ_=>rfl),ah (v:=Edg.v) (λ_=>rfl),ah (v:=Lnk.v) (λ_=>rfl),ah (v:=Rtr.v) (λ_=>rfl)])
def lG(t:Tpl)(r:Int):Bool:=(ay t==0) && (match t.rs.find? (isR r)with
 | some x=>x.cap
 | none=>false)
def GW(t:Tpl)(r:Int):=okL [Tpl.v t,.int r]
def Mb(t:Tpl)(r:Int)(t0:Int):NF:=⟨[rI 1 r,rR 2 0,rI 5 t0],[.box (Tpl.v t)]⟩
@[reducible] def GT:Nat→Type
 | 0=>Int
 | _=>Unit
def GU(r:Bool):AV:=.bool r
def GQ(t:Tpl)(r:Int)(I0:Int→Prop)(m0:Int→Nat):Ax Tryz.prog GT (Bool):=
 (.callP (px t)
(.br 80 ((ay t) != 0) (.ret (false))
(.loop 0 (Mb t r) I0 m0 ((0):Int) [0] λ(t0:Int) b0 =>
(.br 81 (decide (t0<((t.rs.map Rtr.v).length:Int))) (.elI 129 Rtr.v t.rs t0 λx1 =>
(.br 209 (x1.id==r) (.elI 257 Rtr.v t.rs t0 λx2 =>
(.ret (x2.cap)))
(.bk 0 b0 ((W (t0+1)):Int) [0])))
(.ret (false))))))
theorem R0(t:Tpl)(r:Int)(ok:GW t r):∃I0 m0,(GQ t r I0 m0).vp GU (lG t r):=by
 refine⟨λi=>ba t.rs (λx=>isR r x=false) i,λi=>t.rs.length-i.toNat,?_⟩;simp only[GW,Tpl.v,okU,Blk.ok,aJ,B']at ok;dsimp only[GQ,GT,Ax.vp,Ax.vc];simp only[vcU,rfU,B'];unfold lG;by_cases hc:ay t=0
 case neg=>exact⟨λ_=>by rw[beq_eq_false_iff_ne.mpr hc];rfl,λh=>by simp[hc]at h⟩
 refine⟨λh=>by simp[hc]at h,λ_=>⟨ba.zero,λi h=>⟨λc=>⟨h.idx,c,λx hx=>⟨λq=>⟨h.idx,c,λy hy=>?_⟩,λq=>h.step (by omega) hx q⟩⟩,λc=>?_⟩⟩⟩
 ·rw[hx]at hy;cases hy;rw[lB h hx q,hc];simp
 ·rw[nF h c,hc];rfl
def GV(t:Tpl)(r:Int):PC Tryz.prog:=pcO 98 [(.a [(.s 2),(.s 5)]),.k] [Tpl.v t,.int r] .k GU (lG t r) (λok=>let ⟨I0,m0,h⟩:=R0 t r ok;⟨_,h,by kernel_rfl⟩) rfl (by kernel_rfl)
def gL(l:List Int)(n:Int):Nat:=l.findIdx λx=>!decide (x<n)
def fK(l:List Int)(n:Int):List Int:=if l[gL l n]?=some n then l else bF l (gL l n) n
def Lj(l:List Int)(n:Int)(t0:Int):NF:=⟨[(0,.k,.sl 1 (l.map AV.int) false),rI 1 n,rI 5 t0],[]⟩
def Li(l:List Int)(n:Int)(t0:Int)(t1:Bool):NF:=⟨[(0,.k,.sl 1 (l.map AV.int) false),rI 1 n,rI 5 t0,rB 18 t1],[]⟩
def Lh(l:List Int)(n:Int)(t0:Int)(t2:Bool):NF:=⟨[(0,.k,.sl 1 (l.map AV.int) false),rI 1 n,rI 5 t0,rB 32 t2],[]⟩
@[reducible] def Fe:Nat→Type
 | 0=>Int
 | 1=>Bool
 | 2=>Bool
 | _=>Unit
def Ff(r:List Int):AV:=.sl 1 (r.map AV.int) false
def Fd(l:List Int)(n:Int)(I0:Int→Prop)(m0:Int→Nat)(I1:Int→Bool→Prop)(I2:Int→Bool→Bool→Prop):Ax Tryz.prog Fe ((List Int)):=
 (.loop 0 (Lj l n) I0 m0 ((0):Int) [] λ(t0:Int) b0 =>
(.pass (.join 1 (Li l n t0) (λ(t1:Bool)=>I1 t0 t1) (λb1=>(.br 80 (decide (t0<((l.map AV.int).length:Int))) (.elI 112 AV.int l t0 λx1 =>
(.bk 1 b1 ((decide (x1<n)):Bool) []))
(.bk 1 b1 ((false):Bool) []))) λ(t1:Bool) =>
(.br 0 t1 (.bk 0 b0 ((W (t0+1)):Int) [])
(.pass (.join 2 (Lh l n t0) (λ(t2:Bool)=>I2 t0 t1 t2) (λb2=>(.br 80 (decide (t0<((l.map AV.int).length:Int))) (.elI 112 AV.int l t0 λx2 =>
(.bk 2 b2 ((x2==n):Bool) []))
(.bk 2 b2 ((false):Bool) []))) λ(t2:Bool) =>
(.br 0 t2 (.ret (l))
(.say (λR=>Rf (α:=List AV) (l.map AV.int) (ck (ip l.length 0 t0 (l.length:Int))
R)) (.sub 64 AV.int l false
(.apX 80 AV.int [] ((l.take t0.toNat).drop 0) (0+((l.take t0.toNat).drop 0).length)
(.apX 160 AV.int ((l.take t0.toNat).drop 0) [n] (((l.take t0.toNat).drop 0).length+1)
(.say (λR=>Rf (α:=List AV) (l.map AV.int) (ck (ip l.length t0 (l.length:Int) (l.length:Int))
R)) (.sub 240 AV.int l false
(.apX 256 AV.int (((l.take t0.toNat).drop 0)++[n]) ((l.take ((l.length:Int).toNat)).drop t0.toNat) ((((l.take t0.toNat).drop 0)++[n]).length+((l.take ((l.length:Int).toNat)).drop t0.toNat).length)
(.fz 256 AV.int ((((l.take t0.toNat).drop 0)++[n])++((l.take ((l.length:Int).toNat)).drop t0.toNat)) (λ_=>rfl) (.ret ((((l.take t0.toNat).drop 0)++[n])++((l.take ((l.length:Int).toNat)).drop t0.toNat))))))))))))))))))
theorem Qy(l:List Int)(n:Int)(h:l.length≤100000):∃I0 m0 I1 I2,(Fd l n I0 m0 I1 I2).vp Ff (fK l n):=by
 refine⟨λi=>ba l (λx=>x<n) i,λi=>l.length-i.toNat,λi b=>b=true↔∃x,l[i.toNat]?=some x∧x<n,λi _ b=>b=true↔l[i.toNat]?=some n,?_⟩;dsimp only[Fd,Fe,Ax.vp,Ax.vc];simp only[vcU,rfU,B'];refine⟨ba.zero,λt hI=>?_⟩;obtain⟨j,rfl,hj,ha⟩:=hI;have hI:ba l (λx=>x<n) ((j:Nat):Int):=⟨j,rfl,hj,ha⟩
 simp only[Int.toNat_natCast]
 refine⟨⟨λc=>⟨by omega,c,λx hx=>⟨λq=>⟨x,hx,q⟩,λ⟨y,hy,q⟩=>by rw[hx]at hy;cases hy;exact q⟩⟩,λc=>⟨nofun,λ⟨y,hy,_⟩=>by have:=ao hy;omega⟩⟩,λb hb=>⟨λe=>?_,λe=>?_⟩⟩
 ·obtain⟨x,hx,q⟩:=hb.mp e;exact hI.step (by omega) (by rw[Int.toNat_natCast];exact hx) q
 ·have hp:gL l n=j:=by
   unfold gL
   by_cases ee:j=l.length
   ·subst ee;rw[List.take_length]at ha;rw[List.findIdx_eq_length];intro y hy;simp[ha y hy]
   ·rw[List.findIdx_eq (by omega)]
    refine⟨?_,λi hi=>?_⟩
    ·have:¬l[j]'(by omega)<n:=λq=>by
      have:=hb.mpr ⟨_,u' (by omega),q⟩;rw[e]at this;cases this
     simpa using this
    ·have:=ha (l[i]'(by omega)) (aD'.mpr ⟨i,by omega,rfl⟩);simp[this]
  refine⟨⟨λc=>⟨by omega,c,λx hx=>?_⟩,λc=>⟨nofun,λq=>by have:=ao q;omega⟩⟩,λb2 hb2=>⟨λe2=>?_,λe2=>?_⟩⟩
  ·rw[hx,aL'];exact⟨λq=>by rw[q],λq=>af' q⟩
  ·rw[fK,hp,G' (hb2.mp e2)]
  ·have h2:¬l[j]?=some n:=λq=>by rw[hb2.mpr q]at e2;cases e2
   have hi:(((l.take j).drop 0)++[n])++((l.take l.length).drop j)=bF l j n:=by have:=mt (l:=l) (k:=j) (x:=n);rwa [Int.toNat_natCast]at this
   rw[hi,fK,hp,F' h2];exact⟨by simp[ip];omega,by simp;omega,by simp;omega,by simp[ip];omega,by simp;omega,rfl⟩
def Fg(l:List Int)(n:Int)(h:l.length≤100000):PC Tryz.prog:=pcO 87 [(.s 1),.k] [.sl 1 (l.map AV.int) false,.int n] (.s 1) Ff (fK l n) (λ_=>let ⟨I0,m0,I1,I2,h⟩:=Qy l n h;⟨_,h,by kernel_rfl⟩) rfl (by kernel_rfl)
theorem tO(l:List Int)(n:Int):(fK l n).length≤l.length+1:=by
 unfold fK
 split
 ·omega
 ·rw[gZ _ _ _ (show gL l n≤l.length from List.findIdx_le_length)];exact V' _
def hZ(t:Tpl)(s:List Int×List Int)(q:Int):List Int×List Int:=if lG t q=true then(s.1,fK s.2 q)else if q∈s.1 then s else(s.1++[q],s.2)
def oL(t:Tpl)(d:List Int):Nat→Nat→List Int→List Int→List Int
 | 0,_,_,out=>out
 | f+1,i,seen,out=>match seen[i]? with
  | some x=>oL t d f (i+1) ((dW t d x).foldl (hZ t) (seen,out)).1 ((dW t d x).foldl (hZ t) (seen,out)).2
  | none=>out
def eB(t:Tpl)(f g:Int):List Int:=if hs5 t f=false∨hs5 t g=false∨f=g then []else oL t (to6 t g) 25 0 [f] []
def Ln(t:Tpl)(from_:Int)(to_:Int)(t0:Bool):NF:=⟨[rI 1 from_,rI 2 to_,rR 3 0,rB 27 t0],[.box (Tpl.v t)]⟩
def Lm(t:Tpl)(to_:Int)(t1:List Int×Int×List Int):NF:=⟨[rR 3 0,(7,.k,.sl 1 ((to6 t to_).map AV.int) false),rV 8 1,(9,(.s 1),.sl 1 (t1.1.map AV.int) false),rI 10 t1.2.1],[.box (Tpl.v t),vB 1 AV.int t1.2.2 (λ_=>rfl)]⟩
def Ll(t:Tpl)(to_:Int)(t1:List Int×Int×List Int)(x2:Int)(t2:List Int×Int×List Int):NF:=⟨[rR 3 0,(7,.k,.sl 1 ((to6 t to_).map AV.int) false),rV 8 1,(9,(.s 1),.sl 1 (t2.1.map AV.int) false),rI 10 t1.2.1,(11,.k,.sl 1 ((dW t (to6 t to_) x2).map AV.int) false),rI 12 t2.2.1],[.box (Tpl.v t),vB 1 AV.int t2.2.2 (λ_=>rfl)]⟩
@[reducible] def Fp:Nat→Type
 | 0=>Bool
 | 1=>(List Int)×Int×List Int
 | 2=>(List Int)×Int×List Int
 | _=>Unit
def Fq(r:List Int):AV:=.sl 1 (r.map AV.int) false
def Fo(t:Tpl)(from_:Int)(to_:Int)(I0:Bool→Prop)(I1:Bool→(List Int×Int×List Int)→Prop)(m1:Bool→(List Int×Int×List Int)→Nat)(I2:Bool→(List Int)×Int×List Int→Int→(List Int×Int×List Int)→Prop)(m2:Bool→(List Int)×Int×List Int→Int→(List Int×Int×List Int)→Nat):Ax Tryz.prog Fp ((List Int)):=
 (.pass (.pass (.join 0 (Ln t from_ to_) (λ(t0:Bool)=>I0 t0) (λb0=>(.callP (zC t from_)
(.br 112 (!(hs5 t from_)) (.bk 0 b0 ((true):Bool) [0])
(.callP (zC t to_)
(.br 208 (!(hs5 t to_)) (.bk 0 b0 ((true):Bool) [0])
(.bk 0 b0 ((from_==to_):Bool) [0])))))) λ(t0:Bool) =>
(.br 1 t0 (.ret ([]))
(.req 33 (ay t=0) λh1 =>
(.callP (to6_c t to_ h1)
(.own 81 (.loop 1 (Lm t to_) (I1 t0) (m1 t0) ([],0,[from_]) [0,81] λ(t1:List Int×Int×List Int) b1 =>
(.br 66 (decide (t1.2.1<((t1.2.2.map AV.int).length:Int))) (.elJ 146 AV.int t1.2.2 t1.2.1 λx2 =>
(.req 162 (okD t (to6 t to_)) λh3 =>
(.callP (OQ t (to6 t to_) x2 h3)
(.loop 2 (Ll t to_ t1 x2) (I2 t0 t1 x2) (m2 t0 t1 x2) (t1.1,0,t1.2.2) [0,1] λ(t2:List Int×Int×List Int) b2 =>
(.br 66 (decide (t2.2.1<(((dW t (to6 t to_) x2).map AV.int).length:Int))) (.elI 114 AV.int (dW t (to6 t to_) x2) t2.2.1 λx4 =>
(.callP (GV t x4)
(.br 162 (lG t x4) (.elI 210 AV.int (dW t (to6 t to_) x2) t2.2.1 λx5 =>
(.req 242 (t2.1.length≤100000) λh6 =>
(.callP (Fg t2.1 x5 h6)
(.bk 2 b2 (fK t2.1 x5,W (t2.2.1+1),t2.2.2) [0,1]))))
(.elI 210 AV.int (dW t (to6 t to_) x2) t2.2.1 λx7 =>
(.callP (kA t2.2.2 x7)
(.say (ck (eo [(t2.2.2.map AV.int)])) (.br 274 (!(decide (x7∈t2.2.2))) (.elI 322 AV.int (dW t (to6 t to_) x2) t2.2.1 λx8 =>
(.own 354 (.apX 370 AV.int t2.2.2 [x8] (t2.2.2.length+1)
(.bk 2 b2 (t2.1,W (t2.2.1+1),t2.2.2++[x8]) [0,370]))))
(.bk 2 b2 (t2.1,W (t2.2.1+1),t2.2.2) [0,1]))))))))
(.bk 1 b1 (t2.1,W (t1.2.1+1),t2.2.2) [0,1]))))))
(.ret (t1.1)))))))))))
structure pF (t:Tpl) (b:Nat) (s:List Int×List Int):Prop where
  nd:s.1.Nodup
  ha:∀x∈s.1,az t x=true
  le:s.2.length≤b
theorem pF.len{t:Tpl}{b:Nat}{s:List Int×List Int}(h:pF t b s):s.1.length≤t.rs.length:=by
 have:=List.Nodup.length_le_of_subset h.nd (l₂:=t.rs.map (·.id)) λx hx=>bc.mpr (h.ha x hx)
 rwa [B']at this
theorem pF.one{t:Tpl}{b:Nat}{s:List Int×List Int}(h:pF t b s){q:Int}(hq:az t q=true):pF t (b+1) (hZ t s q):=by
 unfold hZ
 split
 ·exact⟨h.nd,h.ha,aI' (tO _ _) (by have:=h.le;omega)⟩
 ·split
  ·exact⟨h.nd,h.ha,by have:=h.le;omega⟩
  ·rename_i hn;refine⟨ba'.mpr ⟨h.nd,by simp,λa ha b hb=>by rw[L'.mp hb];rintro rfl;exact hn ha⟩,λx hx=>?_,by have:=h.le;simp only;omega⟩
   rcases X'.mp hx with hx|hx
   ·exact h.ha x hx
   ·rw[L'.mp hx];exact hq
theorem pF.fold{t:Tpl}:∀{l:List Int} {b:Nat} {s:List Int×List Int},pF t b s→(∀q∈l,az t q=true)→pF t (b+l.length) (l.foldl (hZ t) s)
 | [],b,s,h,_=>h
 | q::l,b,s,h,hs=>by
  have:=pF.fold (l:=l) (h.one (hs q (by simp))) λx hx=>hs x (by simp[hx]);rw[at',ab',show b+(l.length+1)=b+1+l.length by omega];exact this
theorem nS{t:Tpl}(hc:ay t=0){g f q:Int}(h:q∈dW t (to6 t g) f):az t q=true:=by
 obtain⟨_,x,hx,e⟩:=Jw hc (OI hc) h;exact cf.mpr ⟨x,hx,e⟩
theorem C5(t:Tpl)(d:List Int)(f:Int):(dW t d f).length≤t.rs.length:=by
 unfold dW;split
 ·simp
 ·exact aI' (bq' _ _) o0
theorem Q5(t:Tpl)(f g:Int):∃I0 I1 m1 I2 m2,(Fo t f g I0 I1 m1 I2 m2).vp Fq (eB t f g):=by
  refine⟨λb=>b=decide (hs5 t f=false∨hs5 t g=false∨f=g),λ_ s=>∃k:Nat,s.2.1=k∧k≤s.2.2.length∧pF t (30 * k) (s.2.2,s.1)∧oL t (to6 t g) (25-k) k s.2.2 s.1=eB t f g,λ_ s=>25-s.2.1.toNat,
    λ_ s0 x s=>∃j:Nat,s.2.1=j∧j≤(dW t (to6 t g) x).length∧(s.2.2,s.1)=((dW t (to6 t g) x).take j).foldl (hZ t) (s0.2.2,s0.1),λ_ _ x s=>(dW t (to6 t g) x).length-s.2.1.toNat,?_⟩
  dsimp only[Fo,Fp,Ax.vp,Ax.vc];simp only[vcU,rfU,B']
  refine ⟨⟨fun c => by have c : hs5 t f = false := by simpa using c
                       simp [c], fun c => ⟨fun d => by have d : hs5 t g = false := by simpa using d
                                                       simp[d],λd=>?_⟩⟩,?_⟩
  · have c:hs5 t f=true:=by simpa using c
    have d:hs5 t g=true:=by simpa using d
    rw[ae'];simp[c,d]
  rintro _ rfl;refine⟨λc=>by rw[eB,G' (H' c)],λc=>?_⟩;have c:=T' c;have hf:hs5 t f=true:=by
    cases q:hs5 t f
    · exact absurd (.inl q) c
    · rfl
  have hc:=(bR.mp hf).1;have hR:=(ax hc).nr;have hD:okD t (to6 t g):=⟨Jp,by omega⟩
  refine⟨hc,⟨0,rfl,by simp,⟨by simp,by simp;exact(bR.mp hf).2,by simp⟩,by rw[eB,F' c]⟩,?_⟩;rintro⟨out,i,seen⟩ ⟨k,hi,hk,hI,hO⟩;simp only at hi hk hO ⊢;subst hi;have hsl:=hI.len;simp only at hsl
  refine⟨λd=>?_,λd=>?_⟩
  · rw[Int.toNat_natCast]
    refine⟨eu (by omega) d,by omega,λx hx=>⟨hD,⟨0,rfl,by omega,rfl⟩,?_⟩⟩;have hnl:=C5 t (to6 t g) x;have hnh:=λq (h:q∈dW t (to6 t g) x)=>nS hc h;have e:25-k=(25-(k+1))+1:=by omega
    rw[e,oL,hx]at hO;simp only at hO;generalize dW t (to6 t g) x=n at hnl hnh hO ⊢;rintro⟨o2,j0,s2⟩ ⟨j,hj0,hj,hs⟩;simp only at hj0 hs ⊢;subst hj0;have hI2:pF t (30 * k+j) (s2,o2):=by
      have:=hI.fold (l:=n.take j) λq hq=>hnh q (ah' hq);rw[←hs,ar',bv' hj]at this;exact this
    have hle:=hI2.le;have hsl2:=hI2.len;simp only at hle hsl2
    refine⟨λd2=>⟨by omega,d2,λy hy=>?_⟩,λd2=>?_⟩
    · have hw:W ((j:Int)+1)=((j+1:Nat):Int):=bf (n:=n.length) (by omega) (by omega)
      rw[hw];rw[Int.toNat_natCast]at hy;have hst:(n.take (j+1)).foldl (hZ t) (seen,out)=hZ t (s2,o2) y:=by rw[aP hy,aZ',←hs];rfl
      refine⟨λe1=>⟨by omega,d2,λz hz=>?_⟩,λe1=>⟨by omega,d2,λz hz=>⟨jg (ah (λ_=>rfl) _),λe2=>⟨by omega,d2,λu hu=>?_⟩,λe2=>?_⟩⟩⟩
      · rw[Int.toNat_natCast,hy]at hz;cases hz
        refine⟨by omega,⟨j+1,rfl,by omega,?_⟩,by omega⟩;rw[hst,hZ,G' e1]
      · rw[Int.toNat_natCast,hy]at hz hu;cases hz;cases hu
        refine⟨by omega,⟨j+1,rfl,by omega,?_⟩,by omega⟩;have e2:¬y∈s2:=by simpa using e2
        rw[hst,hZ,F' (by rw[e1];simp),F' e2]
      · rw[Int.toNat_natCast,hy]at hz;cases hz
        refine⟨⟨j+1,rfl,by omega,?_⟩,by omega⟩;have e2:y∈s2:=by simpa using e2
        rw[hst,hZ,F' (by rw[e1];simp),G' e2]
    · have hjn:j=n.length:=by omega
      rw[hjn,List.take_length]at hs;rw[←hs]at hO;have hw:W ((k:Int)+1)=((k+1:Nat):Int):=bf (n:=25) (by omega) (by omega);rw[hw];have hpre:seen.length≤s2.length:=by
        have key:∀(l:List Int) (s:List Int×List Int),s.1.length≤(l.foldl (hZ t) s).1.length:=λl=>by
          induction l with
          | nil=>intro s;exact V' _
          | cons q l ih =>
            intro s;refine aI' ?_ (ih (hZ t s q));unfold hZ
            split
            · exact V' _
            · split
              · exact V' _
              · simp
        have:=key n (seen,out);rw[←hs]at this;exact this
      refine⟨⟨k+1,rfl,by omega,⟨hI2.nd,hI2.ha,by simp only;omega⟩,hO⟩,by omega⟩
  · have e:seen[k]?=none:=aj' (by omega)
    have e2:25-k=(25-(k+1))+1:=by omega
    rw[e2,oL,e]at hO;exact hO
def Q6(t:Tpl)(from_:Int)(to_:Int):PC Tryz.prog:=pcO 99 [(.a [(.s 2),(.s 5)]),.k,.k] [Tpl.v t,.int from_,.int to_] (.s 1) Fq (eB t from_ to_) (λ_=>let ⟨I0,I1,m1,I2,m2,h⟩:=Q5 t from_ to_;⟨_,h,by kernel_rfl⟩) rfl (by kernel_rfl)
structure Rw where
  id:Int
  nx:List Int
def Rw.v(x:Rw):AV:=.agg [.int x.id,.sl 1 (x.nx.map AV.int) false]
structure Tbl where
  router:Int
  sub:Int
  len:Int
  rows:List Rw
def Tbl.v(x:Tbl):AV:=.agg [.int x.router,.int x.sub,.int x.len,.sl 2 (x.rows.map Rw.v) false]
def eM(t:Tpl)(r:Int)(e:Edg):Rw:=⟨e.id,if e.router=r then [r]else if lG t e.router=true then eB t r e.router else []⟩
def ew(t:Tpl)(p:Pln)(r:Int):Tbl:=⟨r,p.sub,p.len,p.es.map (eM t r)⟩
def MV(t:Tpl)(p:Pln)(router:Int)(t0:Int×List Rw):NF:=⟨[rI 2 router,rR 3 0,rR 4 1,rR 6 2,rR 7 3,rI 8 t0.1],[.box (Tpl.v t),.box (Pln.v p),.box (.agg [.int 0,.int 0,.int 0,.sl 0 [] true]),.box (.agg [.int router,.int p.sub,.int p.len,.vec 4]),vB 2 Rw.v t0.2 (λ_=>rfl)]⟩
@[reducible] def HR:Nat→Type
 | 0=>Int×List Rw
 | _=>Unit
def HS(r:Tbl):AV:=Tbl.v r
def HQ(t:Tpl)(p:Pln)(router:Int)(I0:(Int×List Rw)→Prop)(m0:(Int×List Rw)→Nat):Ax Tryz.prog HR (Tbl):=
 (.cmdL (.nilB 144 3 2) (.loop 0 (MV t p router) I0 m0 (0,[]) [0,16,32,144,192] λ(t0:Int×List Rw) b0 =>
(.br 85 (decide (t0.1<((p.es.map Edg.v).length:Int))) (.elI 133 Edg.v p.es t0.1 λx1 =>
(.elI 277 Edg.v p.es t0.1 λx2 =>
(.br 357 (x2.router==router) (.say (λR=>Idt (t0.2.map Rw.v) (Rf (α:=List AV) [.agg [.int x1.id,.sl 1 [.int router] true]]
(ck (decide ((t0.2.map Rw.v).length+1≤1048576))
R))) (.app 485 (λy:AV=>y) (t0.2.map Rw.v) [.agg [.int x1.id,.sl 1 [.int router] true]]
(.say (λR=>IQ (.a [.k,(.s 1)]) Rw.v t0.2 [(⟨x1.id,[router]⟩:Rw)] [.agg [.int x1.id,.sl 1 [.int router] true]] ∧
R) (.cmd (.wkV 485 (.a [.k,(.s 1)]) Rw.v (t0.2++[(⟨x1.id,[router]⟩:Rw)])) (.bk 0 b0 (W (t0.1+1),t0.2++[(⟨x1.id,[router]⟩:Rw)]) [0,1,2,3,485])))))
(.elI 421 Edg.v p.es t0.1 λx3 =>
(.callP (GV t x3.router)
(.br 485 (lG t x3.router) (.elI 565 Edg.v p.es t0.1 λx4 =>
(.callP (Q6 t router x4.router)
(.apX 725 Rw.v t0.2 [(⟨x1.id,eB t router x4.router⟩:Rw)] (t0.2.length+1)
(.bk 0 b0 (W (t0.1+1),t0.2++[(⟨x1.id,eB t router x4.router⟩:Rw)]) [0,1,2,3,725]))))
(.say (λR=>Idt (t0.2.map Rw.v) (Rf (α:=List AV) [.agg [.int x1.id,.sl 0 [] true]]
(ck (decide ((t0.2.map Rw.v).length+1≤1048576))
R))) (.app 549 (λy:AV=>y) (t0.2.map Rw.v) [.agg [.int x1.id,.sl 0 [] true]]
(.say (λR=>IQ (.a [.k,(.s 1)]) Rw.v t0.2 [(⟨x1.id,[]⟩:Rw)] [.agg [.int x1.id,.sl 0 [] true]] ∧
R) (.cmd (.wkV 549 (.a [.k,(.s 1)]) Rw.v (t0.2++[(⟨x1.id,[]⟩:Rw)])) (.bk 0 b0 (W (t0.1+1),t0.2++[(⟨x1.id,[]⟩:Rw)]) [0,1,2,3,549])))))))))))
(.fz 4 Rw.v t0.2 (λ_=>rfl) (.ret ((⟨router,p.sub,p.len,t0.2⟩:Tbl)))))))
theorem Sc(t:Tpl)(p:Pln)(r:Int)(hc:ay t=0)(h:p.es.length≤100):∃I0 m0,(HQ t p r I0 m0).vp HS (ew t p r):=by
 refine⟨λs=>eO p.es (λe=>[eM t r e]) s.1 s.2,λs=>p.es.length-s.1.toNat,?_⟩;dsimp only[HQ,HR,Ax.vp,Ax.vc];simp only[vcU,rfU,B'];refine⟨eO.zero,?_⟩;rintro⟨i,out⟩ hX;simp only at hX ⊢;have hlen:=hX.len (b:=1) λx _=>by simp
 refine⟨λc=>⟨hX.idx,c,λx hx=>⟨hX.idx,c,λx2 h2=>?_⟩⟩,λc=>?_⟩
 ·rw[hx]at h2;cases h2
  refine⟨λe=>⟨by omega,oZ (λ_=>rfl) rfl,hX.step (by omega) hx ?_⟩,λe=>⟨hX.idx,c,λx3 h3=>?_⟩⟩
  ·rw[eM,G' (eq_of_beq e)]
  rw[hx]at h3;cases h3
  refine⟨λe2=>⟨hX.idx,c,λx4 h4=>?_⟩,λe2=>⟨by omega,oZ (λ_=>rfl) rfl,hX.step (by omega) hx ?_⟩⟩
  ·rw[hx]at h4;cases h4;exact⟨by omega,hX.step (by omega) hx (by rw[eM,F' (by simpa using e),G' e2])⟩
  ·rw[eM,F' (by simpa using e),F' (by rw[e2];simp)]
 ·have:(p.es.flatMap λe=>[eM t r e])=p.es.map (eM t r):=List.map_eq_flatMap.symm;rw[hX.done c,this];rfl
def Sd(t:Tpl)(p:Pln)(router:Int)(hc:ay t=0)(h:p.es.length≤100):PC Tryz.prog:=pcO 60 [(.a [(.s 2),(.s 5)]),(.a [.k,.k,(.s 2)]),.k] [Tpl.v t,Pln.v p,.int router] (.a [.k,.k,.k,(.s 2)]) HS (ew t p router) (λ_=>let ⟨I0,m0,h⟩:=Sc t p router hc h;⟨_,h,by kernel_rfl⟩) rfl (by kernel_rfl)
def jB(t:Tpl)(p:Pln):List Tbl×Int:=if ay t≠0∨cu p=false then([],1)else(t.rs.flatMap λx=>if x.cap=true then [ew t p x.id]else [],0)
def N4(t:Tpl)(p:Pln)(t0:Bool):NF:=⟨[rR 2 0,rR 3 1,rB 15 t0],[.box (Tpl.v t),.box (Pln.v p)]⟩
def N3(t:Tpl)(p:Pln)(t1:Int×List Tbl):NF:=⟨[rR 2 0,rR 3 1,rV 6 2,rI 7 t1.1],[.box (Tpl.v t),.box (Pln.v p),vB 4 Tbl.v t1.2 (λ_=>rfl)]⟩
@[reducible] def IF:Nat→Type
 | 0=>Bool
 | 1=>Int×List Tbl
 | _=>Unit
def IG(r:List Tbl×Int):AV:=.tup [.sl 4 (r.1.map Tbl.v) false,.int r.2]
def IE(t:Tpl)(p:Pln)(I0:Bool→Prop)(I1:Bool→(Int×List Tbl)→Prop)(m1:Bool→(Int×List Tbl)→Nat):Ax Tryz.prog IF (List Tbl×Int):=
 (.pass (.pass (.join 0 (N4 t p) (λ(t0:Bool)=>I0 t0) (λb0=>(.callP (px t)
(.br 128 ((ay t) != 0) (.bk 0 b0 ((true):Bool) [0,16])
(.callP (IZ p)
(.bk 0 b0 ((!(cu p)):Bool) [0,16]))))) λ(t0:Bool) =>
(.br 2 t0 (.ret ([],1))
(.cmdL (.nilT 6 4) (.loop 1 (N3 t p) (I1 t0) (m1 t0) (0,[]) [0,1,34] λ(t1:Int×List Tbl) b1 =>
(.br 83 (decide (t1.1<((t.rs.map Rtr.v).length:Int))) (.elI 131 Rtr.v t.rs t1.1 λx1 =>
(.br 179 x1.cap (.elI 275 Rtr.v t.rs t1.1 λx2 =>
(.req 323 (ay t=0) λh3 =>
(.req 323 (p.es.length≤100) λh4 =>
(.callP (Sd t p x2.id h3 h4)
(.apX 355 Tbl.v t1.2 [ew t p x2.id] (t1.2.length+1)
(.bk 1 b1 (W (t1.1+1),t1.2++[ew t p x2.id]) [0,1,355]))))))
(.bk 1 b1 (W (t1.1+1),t1.2) [0,1,2])))
(.fz 2 Tbl.v t1.2 (λ_=>rfl) (.ret (t1.2,0))))))))))
theorem Sz(t:Tpl)(p:Pln):∃I0 I1 m1,(IE t p I0 I1 m1).vp IG (jB t p):=by
 refine⟨λb=>b=(decide (ay t≠0) || !cu p),λ_ s=>eO t.rs (λx=>if x.cap=true then [ew t p x.id]else []) s.1 s.2,λ_ s=>t.rs.length-s.1.toNat,?_⟩;dsimp only[IE,IF,Ax.vp,Ax.vc];simp only[vcU,rfU,B'];refine⟨⟨λc=>by simp at c;simp[c],λc=>by simp at c;simp[c]⟩,?_⟩;rintro _ rfl;unfold jB;refine⟨λc=>by rw[G' (by simpa using c)],λc=>?_⟩;have c:¬(ay t≠0∨cu p=false):=by simp at c;simp[c]
 have hc:ay t=0:=by simp at c;exact c.1
 have hn:=(ax hc).nr;have hpl:p.es.length≤24:=by
  have hp:cu p=true:=by
   cases q:cu p
   ·exact absurd (.inr q) c
   ·rfl
  unfold cu at hp;rw[R',S']at hp;exact hp.1.2.2
 rw[F' c];refine⟨eO.zero,?_⟩;rintro⟨i,out⟩ hX;simp only at hX ⊢;have hlen:=hX.len (b:=1) λx _=>by split<;>simp
 refine⟨λd=>⟨hX.idx,d,λx hx=>⟨λe=>⟨hX.idx,d,λy hy=>?_⟩,λe=>hX.step (by omega) hx (by rw[F' (by rw[e];simp)];simp)⟩⟩,λd=>by rw[hX.done d]⟩;rw[hx]at hy;cases hy;exact⟨hc,by omega,by omega,hX.step (by omega) hx (by rw[G' e])⟩
def IH(t:Tpl)(p:Pln):PC Tryz.prog:=pcO 18 [(.a [(.s 2),(.s 5)]),(.a [.k,.k,(.s 2)])] [Tpl.v t,Pln.v p] (.a [(.s 4),.k]) IG (jB t p) (λ_=>let ⟨I0,I1,m1,h⟩:=Sz t p;⟨_,h,by kernel_rfl⟩) rfl (by kernel_rfl)
theorem fo{n:Nat}(h:n<18446744073709551616):IntKind.u64.wrap (n:Int)=n:=by
 unfold IntKind.wrap;simp[IntKind.bits,IntKind.signed];omega
theorem uP{n:Nat}(h:n<18446744073709551616):(BitVec.ofInt 64 (n:Int)).toNat=n:=by
 rw[BitVec.ofInt_natCast,BitVec.toNat_ofNat];exact Nat.mod_eq_of_lt h
theorem gq{a b:Nat}(ha:a<18446744073709551616)(hb:b<18446744073709551616):fc .u64 (a:Int) (b:Int)=((a &&& b:Nat):Int):=by
 have e:((BitVec.ofInt 64 (a:Int)) &&& (BitVec.ofInt 64 (b:Int))).toNat=a &&& b:=by rw[BitVec.toNat_and,uP ha,uP hb]
 unfold fc;rw[show IntKind.u64.bits=64 from rfl,e];exact fo (bU' Nat.and_le_left ha)
theorem nK{a b:Nat}(ha:a<18446744073709551616)(hb:b<18446744073709551616):bOr .u64 (a:Int) (b:Int)=((a ||| b:Nat):Int):=by
 have e:((BitVec.ofInt 64 (a:Int)) ||| (BitVec.ofInt 64 (b:Int))).toNat=a ||| b:=by rw[BitVec.toNat_or,uP ha,uP hb]
 unfold bOr;rw[show IntKind.u64.bits=64 from rfl,e];exact fo (Nat.or_lt_two_pow (n:=64) ha hb)
theorem qy{a b:Nat}(ha:a<18446744073709551616)(hb:b<18446744073709551616)(h:∀i,a.testBit i=true→b.testBit i=true):dA .u64 (a:Int) (b:Int)=0:=by
 have e:((BitVec.ofInt 64 (a:Int)) &&& ~~~(BitVec.ofInt 64 (b:Int)))=0#64:=by
  refine BitVec.eq_of_getLsbD_eq λi hi=>?_;rw[BitVec.getLsbD_and,BitVec.getLsbD_not,BitVec.getLsbD,BitVec.getLsbD,uP ha,uP hb];cases q:a.testBit i with
  | false=>simp
  | true=>simp[h i q]
 unfold dA;rw[show IntKind.u64.bits=64 from rfl,e];rfl
theorem nV{b:Nat}(h:b<64):CE .u64 1 (b:Int)=((2 ^ b:Nat):Int):=by
 unfold CE;rw[Int.toNat_natCast,show Nat.min b IntKind.u64.bits=b from bv' (Nat.le_of_lt h),Int.one_mul,←fo (n:=2 ^ b) (bK' (by omega) h)]
 congr 1
theorem nU{a b:Nat}(h:b<64):vG .u64 (a:Int) (b:Int)=((a / 2 ^ b:Nat):Int):=by
 unfold vG;rw[Int.toNat_natCast,show Nat.min b IntKind.u64.bits=b from bv' (Nat.le_of_lt h),cG' _ (by exact Int.pow_nonneg (by decide)),Int.natCast_ediv,Int.natCast_pow];rfl
theorem Si{a b:Nat}(ha:a<18446744073709551616)(h:b<64):(fc .u64 (vG .u64 (a:Int) (b:Int)) 1==1)=a.testBit b:=by
 rw[nU h,show(1:Int)=((1:Nat):Int)from rfl,gq (bU' (Nat.div_le_self _ _) ha) (by decide),Nat.and_one_is_mod,Nat.testBit_eq_decide_div_mod_eq];rw[ae',aL',decide_eq_true_eq];omega
theorem dJ{n:Int}:bz n=true↔n=8∨n=16∨n=32∨n=64:=S'
structure Pkt where
  mode:Int
  sub:Int
  set:Int
  len:Int
  ttl:Int
  ent:Int
  ing:Int
  proto:Int
  bits:Int
  pay:ByteArray
  deriving DecidableEq
def Pkt.v(x:Pkt):AV:=.agg [.int x.mode,.int x.sub,.int x.set,.int x.len,.int x.ttl,.int x.ent,.int x.ing,.int x.proto,.val (.int .u64 x.bits),.str x.pay]
structure Crs where
  frm:Int
  to:Int
  bits:Int
  deriving DecidableEq
structure Los where
  router:Int
  bits:Int
  deriving DecidableEq
structure Dlr where
  router:Int
  mode:Int
  sub:Int
  set:Int
  len:Int
  ttl:Int
  ent:Int
  ing:Int
  proto:Int
  bits:Int
  pay:ByteArray
  deriving DecidableEq
structure Trc where
  dl:List Dlr
  cr:List Crs
  lo:List Los
  deriving DecidableEq
structure Cpy where
  to:Int
  route:List Int
  mode:Int
  sub:Int
  set:Int
  len:Int
  ttl:Int
  ent:Int
  ing:Int
  proto:Int
  bits:Int
  pay:ByteArray
  deriving DecidableEq
structure Out where
  local_:Int
  lost:Int
  copies:List Cpy
  deriving DecidableEq
def Crs.v(x:Crs):AV:=.agg [.int x.frm,.int x.to,.val (.int .u64 x.bits)]
def Los.v(x:Los):AV:=.agg [.int x.router,.val (.int .u64 x.bits)]
def Dlr.v(x:Dlr):AV:=.agg [.int x.router,.int x.mode,.int x.sub,.int x.set,.int x.len,.int x.ttl,.int x.ent,.int x.ing,.int x.proto,.val (.int .u64 x.bits),.str x.pay]
def Cpy.v(x:Cpy):AV:=.agg [.int x.to,.sl 1 (x.route.map AV.int) false,.int x.mode,.int x.sub,.int x.set,.int x.len,.int x.ttl,.int x.ent,.int x.ing,.int x.proto,.val (.int .u64 x.bits),.str x.pay]
def Trc.v(x:Trc):AV:=.agg [.sl 11 (x.dl.map Dlr.v) false,.sl 3 (x.cr.map Crs.v) false,.sl 2 (x.lo.map Los.v) false]
def Out.v(x:Out):AV:=.agg [.val (.int .u64 x.local_),.val (.int .u64 x.lost),.sl 12 (x.copies.map Cpy.v) false]
def i7(id len:Int):Int×Int×Bool:=if bz len=true∧1≤id∧id≤256 then((id-1).tdiv len,(id-1).tmod len,true)else(0,0,false)
def inK(n most:Int):Bool:=decide (0≤n) && decide (n≤most)
def ia(len:Int):Int:=if bz len=true then vG .u64 18446744073709551615 (64-len)else 0
def nQ(b len:Int):Bool:=bz len && (dA .u64 b (ia len)==0)
def dQ(p:Pkt):Bool:=decide (1≤p.mode) && (decide (p.mode≤3) && (inK p.sub 7 && (inK p.set 31 && (nQ p.bits p.len && (inK p.ttl 63 && (inK p.ent 1023 && (inK p.ing 256 && (inK p.proto 7 && decide ((p.pay.size:Int)≤64)))))))))
def atT(st b len:Int):Int×Bool:=if(bz len=true∧(0≤b∧b≤len-1)∧0≤st∧st≤31)∧st * len+b+1≤256 then(st * len+b+1,true)else(0,false)
def Sl(set_:Int)(bit:Int)(length:Int)(t0:Bool):NF:=⟨[rI 0 set_,rI 1 bit,rI 2 length,rB 23 t0],[]⟩
@[reducible] def Ot:Nat→Type
 | 0=>Bool
 | _=>Unit
def Ou(r:Int×Bool):AV:=.tup [.int r.1,.bool r.2]
def Oq(set_:Int)(bit:Int)(length:Int)(I0:Bool→Prop):Ax Tryz.prog Ot (Int×Bool):=
 (.pass (.pass (.join 0 (Sl set_ bit length) (λ(t0:Bool)=>I0 t0) (λb0=>(.callP (jF length)
(.br 96 (!(bz length)) (.bk 0 b0 ((true):Bool) [])
(.callP (mq bit 0 (W (length-1)))
(.br 208 (!(inP bit 0 (W (length-1)))) (.bk 0 b0 ((true):Bool) [])
(.callP (mq set_ 0 31)
(.bk 0 b0 ((!(inP set_ 0 31)):Bool) []))))))) λ(t0:Bool) =>
(.br 0 t0 (.ret (0,false))
(.br 144 (decide (256<(W ((W ((W (set_ * length))+bit))+1)))) (.ret (0,false))
(.ret (W ((W ((W (set_ * length))+bit))+1),true)))))))
theorem atR_p(st b len:Int):∃I,(Oq st b len I).vp Ou (atT st b len):=by
 refine⟨λc=>c=decide (¬(bz len=true∧(0≤b∧b≤len-1)∧0≤st∧st≤31)),?_⟩;dsimp only[Oq,Ot,Ax.vp,Ax.vc];simp only[vcU,rfU,B']
 refine⟨⟨λc=>?_,λc=>?_⟩,?_⟩
 ·have c:bz len=false:=by simpa using c
  simp[c]
 ·have c:bz len=true:=by simpa using c
  have:=dJ.mp c;rw[ce (n:=len-1) (by omega)]
  refine⟨λd=>?_,λd=>?_⟩
  ·have d:=qi.mp d;exact(decide_eq_true (show ¬(bz len=true∧(0≤b∧b≤len-1)∧0≤st∧st≤31)from λq=>d q.2.1)).symm
  ·have d:=mU.mp d;rw[ae',qi,S'];exact not_congr ⟨λq=>⟨c,d,q⟩,λq=>q.2.2⟩
 ·rintro _ rfl
  refine⟨λc=>?_,λc=>?_⟩
  ·rw[atT,F' λq=>H' c q.1]
  ·have c:=br'.mp (T' c);have hl:=dJ.mp c.1;have hm:0≤st * len∧st * len≤31 * 64:=⟨Int.mul_nonneg (by omega) (by omega),Int.mul_le_mul (by omega) (by omega) (by omega) (by omega)⟩
   have w1:W (st * len)=st * len:=ce (by omega);have w2:W (st * len+b)=st * len+b:=ce (by omega);have w3:W (st * len+b+1)=st * len+b+1:=ce (by omega);rw[w1,w2,w3]
   refine⟨λd=>?_,λd=>?_⟩
   ·rw[atT,F' λq=>by have:=q.2;omega]
   ·rw[atT,G' ⟨c,by omega⟩]
def Ig(set_:Int)(bit:Int)(length:Int):PC Tryz.prog:=pcO 26 [.k,.k,.k] [.int set_,.int bit,.int length] .k Ou (atT set_ bit length) (λ_=>let ⟨I0,h⟩:=atR_p set_ bit length;⟨_,h,by kernel_rfl⟩) rfl (by kernel_rfl)
abbrev Pt:=i7
def Kd(id:Int)(length:Int)(t0:Bool):NF:=⟨[rI 0 id,rI 1 length,rB 14 t0],[]⟩
@[reducible] def D4:Nat→Type
 | 0=>Bool
 | _=>Unit
def D5(r:Int×Int×Bool):AV:=.tup [.int r.1,.int r.2.1,.bool r.2.2]
def D3(id:Int)(length:Int)(I0:Bool→Prop):Ax Tryz.prog D4 (Int×Int×Bool):=
 (.pass (.pass (.join 0 (Kd id length) (λ(t0:Bool)=>I0 t0) (λb0=>(.callP (jF length)
(.br 112 (!(bz length)) (.bk 0 b0 ((true):Bool) [])
(.callP (mq id 1 256)
(.bk 0 b0 ((!(inP id 1 256)):Bool) []))))) λ(t0:Bool) =>
(.br 0 t0 (.ret (0,0,false))
(.say (λR=>ck (!(length==0))
((ck (!(length==0))
R))) (.ret (W ((W (id-1)).tdiv length),(W (id-1)).tmod length,true)))))))
theorem Ps(id len:Int):∃I,(D3 id len I).vp D5 (Pt id len):=by
 refine⟨λb=>b=decide (¬(bz len=true∧1≤id∧id≤256)),?_⟩;dsimp only[D3,D4,Ax.vp,Ax.vc];simp only[vcU,rfU,B']
 refine⟨⟨λc=>?_,λc=>?_⟩,?_⟩
 ·have c:bz len=false:=by simpa using c
  simp[c]
 ·have c:bz len=true:=by simpa using c
  rw[ae',qi,S'];simp[c]
 ·rintro _ rfl
  refine⟨λc=>?_,λc=>?_⟩
  ·rw[Pt,i7,F' (H' c)]
  ·have c:=br'.mp (T' c);have hl:=dJ.mp c.1;have h0:(!(len==0))=true:=by simp;omega
   have w1:W (id-1)=id-1:=ce (by omega);have hd:0≤(id-1).tdiv len∧(id-1).tdiv len≤id-1:=⟨Int.tdiv_nonneg (by omega) (by omega),Int.tdiv_le_self _ (by omega)⟩
   rw[w1,ce (n:=(id-1).tdiv len) (by omega),Pt,i7,G' c];exact⟨h0,h0,rfl⟩
def D6(id:Int)(length:Int):PC Tryz.prog:=pcO 62 [.k,.k] [.int id,.int length] .k D5 (i7 id length) (λ_=>let ⟨I0,h⟩:=Ps id length;⟨_,h,by kernel_rfl⟩) rfl (by kernel_rfl)
def dd(k:Int):Int:=if k<0∨63<k then 0 else CE .u64 1 k
def MW(k:Int)(t0:Bool):NF:=⟨[rI 0 k,rB 8 t0],[]⟩
@[reducible] def HU:Nat→Type
 | 0=>Bool
 | _=>Unit
def HV(r:Int):AV:=.val (.int .u64 r)
def HT(k:Int)(I0:Bool→Prop):Ax Tryz.prog HU (Int):=
 (.pass (.pass (.join 0 (MW k) (λ(t0:Bool)=>I0 t0) (λb0=>(.br 64 (decide (k<0)) (.bk 0 b0 ((true):Bool) [])
(.bk 0 b0 ((decide (63<k)):Bool) []))) λ(t0:Bool) =>
(.br 0 t0 (.ret (0))
(.say (ck (decide (0≤(IntKind.u64.wrap k)))) (.ret (CE .u64 1 (IntKind.u64.wrap k))))))))
theorem Sj(k:Int):∃I,(HT k I).vp HV (dd k):=by
 refine⟨λb=>b=decide (k<0∨63<k),?_⟩;dsimp only[HT,HU,Ax.vp,Ax.vc];simp only[vcU,rfU,B'];refine⟨⟨λc=>by simp[c],λc=>by simp[c]⟩,?_⟩;rintro _ rfl
 refine⟨λc=>?_,λc=>?_⟩
 ·rw[dd,G' (H' c)]
 ·have c:=T' c;have:=fo (n:=k.toNat) (by omega);rw[av' (by omega)]at this;rw[this,dd,F' c];exact⟨by omega,rfl⟩
def kG(k:Int):PC Tryz.prog:=pcO 28 [.k] [.int k] .k HV (dd k) (λ_=>let ⟨I0,h⟩:=Sj k;⟨_,h,by kernel_rfl⟩) rfl (by kernel_rfl)
abbrev insK:=inK
def Fh(r:Bool):AV:=.bool r
def wU(n:Int)(most:Int):Ax Tryz.prog noS (Bool):=
 (.br 64 (decide (0≤n)) (.ret (decide (n≤most)))
(.ret (false)))
theorem Q0(n m:Int):(wU n m).vp Fh (insK n m):=by
 dsimp only[wU,noS,Ax.vp,Ax.vc];simp only[vcU,rfU,B'];refine⟨λc=>?_,λc=>?_⟩<;>simp[insK,inK,c]
def mr(n:Int)(most:Int):PC Tryz.prog:=pcO 133 [.k,.k] [.int n,.int most] .k Fh (inK n most) (λ_=>⟨(wU n most),Q0 n most,by kernel_rfl⟩) rfl (by kernel_rfl)
def FJ(length:Int)(t0:Int×Int):NF:=⟨[rI 0 length,(3,.k,.val (.int .u64 t0.1)),rI 4 t0.2],[]⟩
@[reducible] def zK:Nat→Type
 | 0=>Int×Int
 | _=>Unit
def zL(r:Int):AV:=.val (.int .u64 r)
def zJ(length:Int)(I0:(Int×Int)→Prop)(m0:(Int×Int)→Nat):Ax Tryz.prog zK (Int):=
 (.callP (jF length)
(.br 64 (!(bz length)) (.ret (0))
(.loop 0 (FJ length) I0 m0 (0,0) [] λ(t0:Int×Int) b0 =>
(.br 48 (decide (t0.2<length)) (.callP (kG t0.2)
(.bk 0 b0 (bOr .u64 t0.1 (dd t0.2),W (t0.2+1)) []))
(.ret (t0.1))))))
theorem PA:∀k<64,(2 ^ k-1) ||| 2 ^ k=2 ^ (k+1)-1:=by decide +kernel
theorem Ly(len:Int):∃I m,(zJ len I m).vp zL (ia len):=by
 refine⟨λt=>∃k:Nat,t.2=k∧k≤len.toNat∧t.1=((2 ^ k-1:Nat):Int),λt=>len.toNat-t.2.toNat,?_⟩;dsimp only[zJ,zK,Ax.vp,Ax.vc];simp only[vcU,rfU,B']
 refine⟨λc=>?_,λc=>⟨⟨0,rfl,by omega,rfl⟩,?_⟩⟩
 ·have c:bz len=false:=by simpa using c
  rw[ia,F' (by rw[c];simp)]
 have c:bz len=true:=by simpa using c
 have hv:=dJ.mp c;rintro⟨b,_⟩ ⟨k,rfl,hk,rfl⟩;simp only at hk ⊢
 refine⟨λd=>?_,λd=>?_⟩
 ·have h2:2 ^ k-1<18446744073709551616:=bU' (Nat.sub_le _ _) (bK' (n:=64) (by omega) (by omega));have h3:2 ^ k<18446744073709551616:=bK' (n:=64) (by omega) (by omega);rw[bf (n:=len.toNat) (by omega) (by omega),dd,F' (by omega),nV (by omega),nK h2 h3,PA k (by omega)];exact⟨⟨k+1,rfl,by omega,rfl⟩,by omega⟩
 ·have:(k:Int)=len:=by omega
  subst this;rw[ia,G' c];have hk:k=8∨k=16∨k=32∨k=64:=by omega
  rcases hk with rfl|rfl|rfl|rfl<;>decide +kernel
def zM(length:Int):PC Tryz.prog:=pcO 101 [.k] [.int length] .k zL (ia length) (λ_=>let ⟨I0,m0,h⟩:=Ly length;⟨_,h,by kernel_rfl⟩) rfl (by kernel_rfl)
abbrev vbtR:=nQ
def Cg(r:Bool):AV:=.bool r
def vn(b:Int)(length:Int):Ax Tryz.prog noS (Bool):=
 (.callP (jF length)
(.br 64 (bz length) (.callP (zM length)
(.ret ((dA .u64 b (ia length))==0)))
(.ret (false))))
theorem O4(b len:Int):(vn b len).vp Cg (vbtR b len):=by
 dsimp only[vn,noS,Ax.vp,Ax.vc];simp only[vcU,rfU,B'];refine⟨λc=>?_,λc=>?_⟩<;>rw[vbtR,nQ,c]<;>rfl
def O5(b:Int)(length:Int):PC Tryz.prog:=pcO 134 [.k,.k] [.val (.int .u64 b),.int length] .k Cg (nQ b length) (λ_=>⟨(vn b length),O4 b length,by kernel_rfl⟩) rfl (by kernel_rfl)
def Ce(r:Bool):AV:=.bool r
def vl(p:Pkt):Ax Tryz.prog noS (Bool):=
 (.br 96 (decide (1≤p.mode)) (.br 176 (decide (p.mode≤3)) (.callP (mr p.sub 7)
(.br 256 (inK p.sub 7) (.callP (mr p.set 31)
(.br 336 (inK p.set 31) (.callP (O5 p.bits p.len)
(.br 448 (nQ p.bits p.len) (.callP (mr p.ttl 63)
(.br 528 (inK p.ttl 63) (.callP (mr p.ent 1023)
(.br 608 (inK p.ent 1023) (.callP (mr p.ing 256)
(.br 688 (inK p.ing 256) (.callP (mr p.proto 7)
(.br 768 (inK p.proto 7) (.ret (decide ((p.pay.size:Int)≤64)))
(.ret (false))))
(.ret (false))))
(.ret (false))))
(.ret (false))))
(.ret (false))))
(.ret (false))))
(.ret (false))))
(.ret (false)))
(.ret (false)))
theorem O2(p:Pkt):(vl p).vp Ce (dQ p):=by
 dsimp only[vl,noS,Ax.vp,Ax.vc];simp only[vcU,rfU,B'];unfold dQ;by_cases h1:1≤p.mode<;>by_cases h2:p.mode≤3<;>cases inK p.sub 7<;>cases inK p.set 31<;>cases nQ p.bits p.len<;>cases inK p.ttl 63<;>cases inK p.ent 1023<;>cases inK p.ing 256<;>cases inK p.proto 7<;>simp[h1,h2]
def qB(p:Pkt):PC Tryz.prog:=pcO 102 [.k] [Pkt.v p] .k Ce (dQ p) (λ_=>⟨(vl p),O2 p,by kernel_rfl⟩) rfl (by kernel_rfl)
abbrev Fb:=inP
def tP(r:Bool):AV:=.bool r
def oG(n:Int)(low:Int)(high:Int):Ax Tryz.prog noS (Bool):=
 (.br 80 (decide (low≤n)) (.ret (decide (n≤high)))
(.ret (false)))
theorem Fa(n a b:Int):(oG n a b).vp tP (Fb n a b):=by
 dsimp only[oG,noS,Ax.vp,Ax.vc];simp only[vcU,rfU,B'];refine⟨λc=>?_,λc=>?_⟩<;>simp[Fb,inP,c]
def l4(n:Int)(low:Int)(high:Int):PC Tryz.prog:=pcO 148 [.k,.k,.k] [.int n,.int low,.int high] .k tP (inP n low high) (λ_=>⟨(oG n low high),Fa n low high,by kernel_rfl⟩) rfl (by kernel_rfl)
def Ij(l:List Int):Bool:=decide (l.Pairwise (·<·))
def P5(n:Int):Bool:=!inP n 1 99
def P3(r:Rw):Bool:=!inP r.id 1 256 || r.nx.any P5
def Bh(r:Rw):Bool:=decide (24<r.nx.length)
def BJ(r:Rw)(b:Tbl):Bool:=decide (1<r.nx.length) && decide (b.router∈r.nx)
def hdB(b:Tbl):Bool:=!((inP b.router 1 99 && inP b.sub 0 7) && (bz b.len || (b.len==0 && decide (b.rows.length=0))))
def re(b:Tbl):Bool:=hdB b || b.rows.any P3
def rG(b:Tbl):Bool:=decide (256<b.rows.length) || b.rows.any Bh
def Kq(l:List Rw):Prop:=(∀r∈l,Ij r.nx=true)∧l.Pairwise λx y=>x.id<y.id
instance (l:List Rw):Decidable (Kq l):=by unfold Kq;infer_instance
def j3(b:Tbl):Int:=if re b=true then 2 else if rG b=true then 3 else if ¬Kq b.rows then 25
 else if(b.rows.any λr=>BJ r b)=true then 8 else 0
theorem zu{b:Tbl}(h:rG b=false):b.rows.length≤256∧∀r∈b.rows,r.nx.length≤24:=by
 unfold rG at h;rw[cE',decide_eq_false_iff_not,aP']at h;refine⟨by omega,λr hr=>?_⟩;have:=h.2 r hr;simp[Bh]at this;exact this
theorem PK{b:Tbl}(ok:okL [AV.agg [.int b.router,.int b.sub,.int b.len,.sl 2 (b.rows.map Rw.v) false]]):b.rows.length≤9223372036854775807∧∀r∈b.rows,r.nx.length≤9223372036854775807:=by
 obtain⟨⟨_,_,_,h,_⟩,_⟩:=ok;obtain⟨h1,h2⟩:=h;rw[B']at h1;refine⟨h1,λr hr=>?_⟩;obtain⟨_,h3,_⟩:=zf.mp h2 r.v (Y'.mpr ⟨r,hr,rfl⟩);have:=h3.1;rw[B']at this;exact this
def RE(b:Tbl):=okL [Tbl.v b]
def Mp(b:Tbl)(t0:Bool):NF:=⟨[rR 1 0,rB 36 t0],[.box (Tbl.v b)]⟩
def Mo(b:Tbl)(t1:Int):NF:=⟨[rR 1 0,rI 3 t1],[.box (Tbl.v b)]⟩
def Mn(b:Tbl)(t1:Int)(t2:Int):NF:=⟨[rR 1 0,rI 3 t1,rI 4 t2],[.box (Tbl.v b)]⟩
def Mm(b:Tbl)(t3:Int):NF:=⟨[rR 1 0,rI 5 t3],[.box (Tbl.v b)]⟩
def Ml(b:Tbl)(t4:Int):NF:=⟨[rR 1 0,rI 6 t4],[.box (Tbl.v b)]⟩
def Mk(b:Tbl)(t4:Int)(x6:Rw)(t5:Bool):NF:=⟨[rR 1 0,rI 6 t4,(7,.k,.sl 1 (x6.nx.map AV.int) false),rB 123 t5],[.box (Tbl.v b)]⟩
def Mj(b:Tbl)(t4:Int)(x6:Rw)(t6:Int):NF:=⟨[rR 1 0,rI 6 t4,(7,.k,.sl 1 (x6.nx.map AV.int) false),rI 8 t6],[.box (Tbl.v b)]⟩
def Mi(b:Tbl)(t7:Int):NF:=⟨[rR 1 0,rI 9 t7],[.box (Tbl.v b)]⟩
def Mh(b:Tbl)(t7:Int)(t8:Bool):NF:=⟨[rR 1 0,rI 9 t7,rB 165 t8],[.box (Tbl.v b)]⟩
@[reducible] def Hk:Nat→Type
 | 0=>Bool
 | 1=>Int
 | 2=>Int
 | 3=>Int
 | 4=>Int
 | 5=>Bool
 | 6=>Int
 | 7=>Int
 | 8=>Bool
 | _=>Unit
def Hl(r:Int):AV:=.int r
def Hj(b:Tbl)(I0:Bool→Prop)(I1:Bool→Int→Prop)(m1:Bool→Int→Nat)(I2:Bool→Int→Rw→Int→Prop)(m2:Bool→Int→Rw→Int→Nat)(I3:Bool→Int→Int→Prop)(m3:Bool→Int→Int→Nat)(I4:Bool→Int→Int→Int→Prop)(m4:Bool→Int→Int→Int→Nat)(I5:Bool→Int→Int→Int→Rw→Bool→Prop)(I6:Bool→Int→Int→Int→Rw→Bool→Int→Prop)(m6:Bool→Int→Int→Int→Rw→Bool→Int→Nat)(I7:Bool→Int→Int→Int→Int→Prop)(m7:Bool→Int→Int→Int→Int→Nat)(I8:Bool→Int→Int→Int→Int→Bool→Prop):Ax Tryz.prog Hk (Int):=
 (.pass (.pass (.join 0 (Mp b) (λ(t0:Bool)=>I0 t0) (λb0=>(.callP (l4 b.router 1 99)
(.br 112 (!(inP b.router 1 99)) (.bk 0 b0 ((true):Bool) [0])
(.callP (l4 b.sub 0 7)
(.br 208 (!(inP b.sub 0 7)) (.bk 0 b0 ((true):Bool) [0])
(.callP (jF b.len)
(.br 288 (!(bz b.len)) (.br 352 (b.len != 0) (.bk 0 b0 ((true):Bool) [0])
(.bk 0 b0 ((decide (0<((b.rows.map Rw.v).length:Int))):Bool) [0]))
(.bk 0 b0 ((false):Bool) [0])))))))) λ(t0:Bool) =>
(.br 1 t0 (.ret (2))
(.loop 1 (Mo b) (I1 t0) (m1 t0) ((0):Int) [0] λ(t1:Int) b1 =>
(.br 81 (decide (t1<((b.rows.map Rw.v).length:Int))) (.elI 129 Rw.v b.rows t1 λx1 =>
(.callP (l4 x1.id 1 256)
(.br 209 (!(inP x1.id 1 256)) (.ret (2))
(.loop 2 (Mn b t1) (I2 t0 t1 x1) (m2 t0 t1 x1) ((0):Int) [0] λ(t2:Int) b2 =>
(.elI 65 Rw.v b.rows t1 λx2 =>
(.br 145 (decide (t2<((x2.nx.map AV.int).length:Int))) (.elI 193 Rw.v b.rows t1 λx3 =>
(.elI 257 AV.int x3.nx t2 λx4 =>
(.callP (l4 x4 1 99)
(.br 321 (!(inP x4 1 99)) (.ret (2))
(.bk 2 b2 ((W (t2+1)):Int) [0])))))
(.bk 1 b1 ((W (t1+1)):Int) [0])))))))
(.br 145 (decide (256<((b.rows.map Rw.v).length:Int))) (.ret (3))
(.loop 3 (Mm b) (I3 t0 t1) (m3 t0 t1) ((0):Int) [0] λ(t3:Int) b3 =>
(.br 81 (decide (t3<((b.rows.map Rw.v).length:Int))) (.elI 129 Rw.v b.rows t3 λx5 =>
(.br 209 (decide (24<((x5.nx.map AV.int).length:Int))) (.ret (3))
(.bk 3 b3 ((W (t3+1)):Int) [0])))
(.loop 4 (Ml b) (I4 t0 t1 t3) (m4 t0 t1 t3) ((0):Int) [0] λ(t4:Int) b4 =>
(.br 81 (decide (t4<((b.rows.map Rw.v).length:Int))) (.elI 129 Rw.v b.rows t4 λx6 =>
(.pass (.join 5 (Mk b t4 x6) (λ(t5:Bool)=>I5 t0 t1 t3 t4 x6 t5) (λb5=>(.br 241 (decide (0<t4)) (.elI 305 Rw.v b.rows (W (t4-1)) λx7 =>
(.elI 401 Rw.v b.rows t4 λx8 =>
(.bk 5 b5 ((decide (x8.id≤x7.id)):Bool) [0])))
(.bk 5 b5 ((false):Bool) [0]))) λ(t5:Bool) =>
(.br 1 t5 (.ret (25))
(.loop 6 (Mj b t4 x6) (I6 t0 t1 t3 t4 x6 t5) (m6 t0 t1 t3 t4 x6 t5) ((1):Int) [0] λ(t6:Int) b6 =>
(.br 65 (decide (t6<((x6.nx.map AV.int).length:Int))) (.elI 113 AV.int x6.nx (W (t6-1)) λx9 =>
(.elI 177 AV.int x6.nx t6 λx10 =>
(.br 225 (decide (x10≤x9)) (.ret (25))
(.bk 6 b6 ((W (t6+1)):Int) [0]))))
(.bk 4 b4 ((W (t4+1)):Int) [0])))))))
(.loop 7 (Mi b) (I7 t0 t1 t3 t4) (m7 t0 t1 t3 t4) ((0):Int) [0] λ(t7:Int) b7 =>
(.br 81 (decide (t7<((b.rows.map Rw.v).length:Int))) (.pass (.join 8 (Mh b t7) (λ(t8:Bool)=>I8 t0 t1 t3 t4 t7 t8) (λb8=>(.elI 129 Rw.v b.rows t7 λx11 =>
(.br 225 (decide (1<((x11.nx.map AV.int).length:Int))) (.elI 273 Rw.v b.rows t7 λx12 =>
(.callP (kA x12.nx b.router)
(.bk 8 b8 ((decide (b.router∈x12.nx)):Bool) [0])))
(.bk 8 b8 ((false):Bool) [0])))) λ(t8:Bool) =>
(.br 1 t8 (.ret (8))
(.bk 7 b7 ((W (t7+1)):Int) [0]))))
(.ret (0)))))))))))))))
theorem ot{b:Tbl}:re b=false↔hdB b=false∧∀r∈b.rows,inP r.id 1 256=true∧∀n∈r.nx,inP n 1 99=true:=by
 unfold re;rw[cE',aP'];refine and_congr_right λ_=>forall_congr' λr=>forall_congr' λ_=>?_;unfold P3 P5;cases inP r.id 1 256<;>simp
theorem RC(b:Tbl)(ok:RE b):∃I0 I1 m1 I2 m2 I3 m3 I4 m4 I5 I6 m6 I7 m7 I8,(Hj b I0 I1 m1 I2 m2 I3 m3 I4 m4 I5 I6 m6 I7 m7 I8).vp Hl (j3 b):=by
 refine⟨λt=>t=hdB b,λ_ i=>ba b.rows (λr=>inP r.id 1 256=true∧∀n∈r.nx,inP n 1 99=true) i,λ_ i=>b.rows.length-i.toNat,
  λ_ _ x i=>ba x.nx (λn=>inP n 1 99=true) i,λ_ _ x i=>x.nx.length-i.toNat,
  λ_ _ i=>ba b.rows (λr=>¬24<r.nx.length) i,λ_ _ i=>b.rows.length-i.toNat,
  λ_ _ _ i=>fN b.rows (λx y=>x.id<y.id) i∧ba b.rows (λr=>Ij r.nx=true) i,λ_ _ _ i=>b.rows.length-i.toNat,
  λ_ _ _ i x t=>t=true↔0<i∧∃p q,b.rows[(W (i-1)).toNat]?=some p∧b.rows[i.toNat]?=some q∧¬p.id<q.id,
  λ_ _ _ _ x _ i=>gQ x.nx (λp q=>p<q) i,λ_ _ _ _ x _ i=>x.nx.length+1-i.toNat,
  λ_ _ _ _ i=>ba b.rows (λr=>BJ r b=false) i,λ_ _ _ _ i=>b.rows.length-i.toNat,λ_ _ _ _ i t=>∀x,b.rows[i.toNat]?=some x→t=BJ x b,?_⟩
 have okn:=PK (b:=b) ok;dsimp only[Hj,Hk,Ax.vp,Ax.vc];simp only[vcU,rfU,B'];unfold j3;obtain⟨ol,on⟩:=okn;have hz:(0<(b.rows.length:Int))↔¬b.rows.length=0:=by omega
 refine⟨⟨λa=>?_,λa=>⟨λc=>?_,λc=>⟨λd=>⟨λf=>?_,λf=>?_⟩,λd=>?_⟩⟩⟩,?_⟩
 ·simp_all [hdB]
 ·simp_all [hdB]
 ·simp_all [hdB]
 ·rw[ae',S',hz];simp_all [hdB]
 ·simp_all [hdB]
 rintro _ rfl;refine⟨λh=>by rw[G' (by rw[re,h];rfl)],λh=>⟨ba.zero,?_⟩⟩;intro (i:Int) h1;have bad:∀{x:Rw} {i:Int},b.rows[i.toNat]?=some x→¬(inP x.id 1 256=true∧∀n∈x.nx,inP n 1 99=true)→re b=true:=λ{x i} hx q=>by
  cases z:re b
  ·exact absurd ((ot.mp z).2 x (cd hx)) q
  ·rfl
 refine⟨λc1=>⟨h1.idx,c1,λx hx=>⟨λe=>?_,λe=>⟨ba.zero,?_⟩⟩⟩,λc1=>?_⟩
 ·rw[G' (bad hx λq=>by rw[q.1]at e;cases e)]
 ·intro (k:Int) h2
  refine⟨h1.idx,c1,λx2 hx2=>⟨λc2=>⟨h1.idx,c1,λx3 hx3=>⟨h2.idx,?_,λn hn=>⟨λe2=>?_,λe2=>?_⟩⟩⟩,λc2=>?_⟩⟩
  ·rw[hx]at hx2 hx3;cases hx2;cases hx3;exact c2
  ·rw[hx]at hx2 hx3;cases hx2;cases hx3;rw[G' (bad hx λq=>by rw[q.2 n (cd hn)]at e2;cases e2)]
  ·rw[hx]at hx2 hx3;cases hx2;cases hx3;exact h2.step (on x (cd hx)) hn (by simpa using e2)
  ·rw[hx]at hx2;cases hx2;exact h1.step ol hx ⟨by simpa using e,h2.done c2⟩
 have hout:re b=false:=ot.mpr ⟨h,h1.done c1⟩;rw[F' (by rw[hout];simp)];refine⟨λg=>by rw[G' (by rw[rG,decide_eq_true (by omega)];rfl)],λg=>⟨ba.zero,?_⟩⟩;intro (i2:Int) h3
 refine⟨λc2=>⟨h3.idx,c2,λx hx=>⟨λe=>?_,λe=>h3.step ol hx (by omega)⟩⟩,λc2=>?_⟩
 ·rw[G'];rw[rG,(ac'.mpr ⟨x,cd hx,by rw[Bh,S'];omega⟩:b.rows.any Bh=true)];simp
 have hlim:rG b=false:=by
  rw[rG,decide_eq_false (by omega),Bool.false_or,aP'];intro x hx;have:=h3.done c2 x hx;simp[Bh];omega
 obtain⟨hr,hn⟩:=zu hlim;rw[F' (by rw[hlim];simp)];refine⟨⟨fN.zero,ba.zero⟩,?_⟩;rintro(i3:Int) ⟨hC,hI⟩
 refine⟨λc3=>⟨hC.idx,c3,λx hx=>⟨⟨λh0=>?_,λh0=>⟨nofun,λq=>absurd q.1 h0⟩⟩,λt ht=>⟨λe=>?_,λe=>⟨gQ.one,?_⟩⟩⟩⟩,λc3=>?_⟩
 ·obtain⟨g1,g2⟩:=hC.rng (by omega) h0 c3;refine⟨g1,g2,λy hy=>⟨hC.idx,c3,λx2 hx2=>?_⟩⟩;refine⟨λq=>⟨h0,y,x2,hy,hx2,by omega⟩,?_⟩;rintro⟨_,y',x',hy',hx',q⟩;rw[hy]at hy';cases hy';rw[hx2]at hx';cases hx';omega
 ·rw[G'];exact λo=>(hC.next (b:=true) (by omega) c3 ⟨λ_=>ht.mp e,λ_=>rfl⟩).1 rfl o.2
 ·intro (k:Int) h4
  refine⟨λc4=>?_,λc4=>?_⟩
  ·obtain⟨i1,i2⟩:=h4.idx (by have:=hn x (cd hx);omega) c4;refine⟨i1.1,i1.2,λp hp=>⟨i2,c4,λq hq=>⟨λe2=>?_,λe2=>h4.step (by have:=hn x (cd hx);omega) hp hq (by omega)⟩⟩⟩;rw[G'];intro o;have:=o.1 x (cd hx);rw[Ij,S']at this;exact h4.bad (S:=λp q=>p<q) (by have:=hn x (cd hx);omega) hp hq (by omega) this
  ·have ha:Ij x.nx=true:=decide_eq_true (h4.done c4 λ_ _ _ q r=>cz' q r);have n2:=(hC.next (b:=false) (by omega) c3 ⟨nofun,λz=>by rw[ht.mpr z]at e;cases e⟩).2 rfl;exact⟨⟨n2.1,(hI.step (by omega) hx ha).1⟩,n2.2⟩
 have hO:Kq b.rows:=⟨hI.done c3,hC.done c3 λ_ _ _ q r=>cz' q r⟩
 rw[F' (not_not_intro hO)];refine⟨ba.zero,?_⟩;intro (i4:Int) h5
 refine⟨λc4=>⟨⟨h5.idx,c4,λx hx=>⟨λq=>⟨h5.idx,c4,λx2 hx2 x3 hx3=>?_⟩,λq x3 hx3=>?_⟩⟩,λt ht=>⟨λe=>?_,λe=>?_⟩⟩,λc4=>?_⟩
 ·rw[hx]at hx2 hx3;cases hx2;cases hx3;rw[BJ,decide_eq_true (by omega:1<x.nx.length)];rfl
 ·rw[hx]at hx3;cases hx3;rw[BJ,decide_eq_false (by omega:¬1<x.nx.length)];rfl
 ·have hx:=u' (show i4.toNat<b.rows.length by have:=h5.idx;omega);rw[G' (ac'.mpr ⟨_,cd hx,by rw[←ht _ hx,e]⟩)]
 ·have hx:=u' (show i4.toNat<b.rows.length by have:=h5.idx;omega);exact h5.step ol hx (by rw[←ht _ hx,e])
 ·rw[F'];rw[ac'];rintro⟨x,hx,q⟩;rw[h5.done c4 x hx]at q;cases q
def RD(b:Tbl):PC Tryz.prog:=pcO 117 [(.a [.k,.k,.k,(.s 2)])] [Tbl.v b] .k Hl (j3 b) (λok=>let ⟨I0,I1,m1,I2,m2,I3,m3,I4,m4,I5,I6,m6,I7,m7,I8,h⟩:=RC b ok;⟨_,h,by kernel_rfl⟩) rfl (by kernel_rfl)
def uR(b:Tbl):Bool:=!(j3 b==0)
def hd0(l:List Tbl):Tbl:=l.headD ⟨0,0,0,[]⟩
def s9(b:Tbl)(l:List Tbl):Bool:=!(b.sub==(hd0 l).sub) || !(b.len==(hd0 l).len)
theorem rP{l:List Tbl}{x:Tbl}(hx:l[0]?=some x):hd0 l=x:=by
 cases l with
 | nil=>cases hx
 | cons y l=>exact af' hx
def uV(l:List Tbl):Prop:=l.Pairwise λa b=>a.router<b.router
instance (l:List Tbl):Decidable (uV l):=by unfold uV;infer_instance
def j4(l:List Tbl):Int:=if 24<l.length then 3 else if l.any uR=true then 1 else if ¬uV l then 25 else if(l.any λb=>s9 b l)=true then 8 else 0
def Hw(l:List Tbl)(t0:Int):NF:=⟨[(0,.k,.sl 4 (l.map Tbl.v) false),rI 3 t0],[]⟩
def Hv(l:List Tbl)(t1:Int):NF:=⟨[(0,.k,.sl 4 (l.map Tbl.v) false),rI 4 t1],[]⟩
def Hu(l:List Tbl)(t2:Int):NF:=⟨[(0,.k,.sl 4 (l.map Tbl.v) false),rI 5 t2],[]⟩
def Ht(l:List Tbl)(t2:Int)(t3:Bool):NF:=⟨[(0,.k,.sl 4 (l.map Tbl.v) false),rI 5 t2,rB 66 t3],[]⟩
@[reducible] def Ar:Nat→Type
 | 0=>Int
 | 1=>Int
 | 2=>Int
 | 3=>Bool
 | _=>Unit
def As(r:Int):AV:=.int r
def Aq(l:List Tbl)(I0:Int→Prop)(m0:Int→Nat)(I1:Int→Int→Prop)(m1:Int→Int→Nat)(I2:Int→Int→Int→Prop)(m2:Int→Int→Int→Nat)(I3:Int→Int→Int→Bool→Prop):Ax Tryz.prog Ar (Int):=
 (.br 64 (decide (24<((l.map Tbl.v).length:Int))) (.ret (3))
(.loop 0 (Hw l) I0 m0 ((0):Int) [] λ(t0:Int) b0 =>
(.br 64 (decide (t0<((l.map Tbl.v).length:Int))) (.elI 96 Tbl.v l t0 λx1 =>
(.callP (RD x1)
(.br 160 ((j3 x1) != 0) (.ret (1))
(.bk 0 b0 ((W (t0+1)):Int) []))))
(.loop 1 (Hv l) (I1 t0) (m1 t0) ((1):Int) [] λ(t1:Int) b1 =>
(.br 64 (decide (t1<((l.map Tbl.v).length:Int))) (.elI 112 Tbl.v l (W (t1-1)) λx2 =>
(.elI 192 Tbl.v l t1 λx3 =>
(.br 256 (decide (x3.router≤x2.router)) (.ret (25))
(.bk 1 b1 ((W (t1+1)):Int) []))))
(.loop 2 (Hu l) (I2 t0 t1) (m2 t0 t1) ((1):Int) [] λ(t2:Int) b2 =>
(.br 64 (decide (t2<((l.map Tbl.v).length:Int))) (.pass (.join 3 (Ht l t2) (λ(t3:Bool)=>I3 t0 t1 t2 t3) (λb3=>(.elI 96 Tbl.v l t2 λx4 =>
(.el 160 Tbl.v l (λR=>Rf (l.map Tbl.v) (ck (decide (0<(l.length:Int)))
(∀x5,l[0]?=some x5 →
(R x5)))) λx5 =>
(.br 240 (x4.sub != x5.sub) (.bk 3 b3 ((true):Bool) [])
(.elI 272 Tbl.v l t2 λx6 =>
(.el 336 Tbl.v l (λR=>Rf (l.map Tbl.v) (ck (decide (0<(l.length:Int)))
(∀x7,l[0]?=some x7 →
(R x7)))) λx7 =>
(.bk 3 b3 ((x6.len != x7.len):Bool) []))))))) λ(t3:Bool) =>
(.br 0 t3 (.ret (8))
(.bk 2 b2 ((W (t2+1)):Int) []))))
(.ret (0)))))))))
theorem Mw(l:List Tbl):∃I0 m0 I1 m1 I2 m2 I3,(Aq l I0 m0 I1 m1 I2 m2 I3).vp As (j4 l):=by
 refine⟨λi=>ba l (λb=>uR b=false) i,λi=>l.length-i.toNat,λ_ i=>gQ l (λx y=>x.router<y.router) i,λ_ i=>l.length+1-i.toNat,
  λ_ _ i=>∃k:Nat,i=k∧1≤k∧k≤l.length+1∧∀j x,j<k→l[j]?=some x→s9 x l=false,λ_ _ i=>l.length+1-i.toNat,
  λ_ _ i t=>∀x,l[i.toNat]?=some x→t=s9 x l,?_⟩
 dsimp only[Aq,Ar,Ax.vp,Ax.vc];simp only[vcU,rfU,B'];unfold j4;refine⟨λg=>by rw[G' (by omega)],λg=>?_⟩;rw[F' (by omega)]
 refine⟨ba.zero,λi h1=>⟨λc1=>⟨h1.idx,c1,λx hx=>⟨λe=>?_,λe=>h1.step (by omega) hx (by unfold uR;simpa using e)⟩⟩,λc1=>?_⟩⟩
 ·rw[G' (ac'.mpr ⟨x,cd hx,by unfold uR;simpa using e⟩)]
 have hb:¬l.any uR=true:=by
  rw[ac'];rintro⟨x,hx,q⟩;rw[h1.done c1 x hx]at q;cases q
 rw[F' hb]
 refine⟨gQ.one,λi2 h2=>⟨λc2=>?_,λc2=>?_⟩⟩
 ·obtain⟨j1,j2⟩:=h2.idx (by omega) c2;refine⟨j1.1,j1.2,λp hp=>⟨j2,c2,λq hq=>⟨λe=>?_,λe=>h2.step (by omega) hp hq (by omega)⟩⟩⟩;rw[G' (show ¬uV l from h2.bad (S:=λa b=>a.router<b.router) (by omega) hp hq (by omega))]
 have hO:uV l:=h2.done c2 λ_ _ _ q r=>cz' q r;rw[F' (not_not_intro hO)]
 refine⟨⟨1,rfl,by omega,by omega,λj x hj hx=>?_⟩,?_⟩
 ·have:j=0:=by omega
  subst this;unfold s9;rw[rP hx];simp
 rintro _ ⟨k,rfl,k1,k2,hk⟩;simp only[Int.toNat_natCast]
 refine⟨λc3=>⟨⟨by omega,c3,λx hx=>⟨by omega,λy hy=>⟨λe=>?_,λe=>⟨by omega,c3,λx2 hx2=>⟨by omega,λy2 hy2=>?_⟩⟩⟩⟩⟩,λt ht=>⟨λe=>?_,λe=>?_⟩⟩,λc3=>?_⟩
 ·intro z hz;rw[hx]at hz;cases hz;unfold s9;rw[rP hy];have e:(x.sub==y.sub)=false:=by simpa using e
  rw[e];rfl
 ·intro z hz;rw[hx]at hz hx2;cases hz;cases hx2;rw[hy]at hy2;cases hy2;unfold s9;rw[rP hy];have e:(x.sub==y.sub)=true:=by simpa using e
  rw[e];rfl
 ·have hx:=u' (show k<l.length by omega);rw[G' (ac'.mpr ⟨_,bt hx,by rw[←ht _ hx,e]⟩)]
 ·have hx:=u' (show k<l.length by omega);rw[bf (n:=l.length) (by omega) (by omega)];refine⟨⟨k+1,rfl,by omega,by omega,λj x hj hxj=>?_⟩,by omega⟩
  by_cases ej:j=k
  ·subst ej;rw[←ht _ hxj,e]
  ·exact hk j x (by omega) hxj
 ·rw[F'];rw[ac'];rintro⟨x,hx,q⟩;obtain⟨j,hj⟩:=cD' hx;rw[hk j x (by have:=ao hj;omega) hj]at q;cases q
def Mx(l:List Tbl):PC Tryz.prog:=pcO 86 [(.s 4)] [.sl 4 (l.map Tbl.v) false] .k As (j4 l) (λ_=>let ⟨I0,m0,I1,m1,I2,m2,I3,h⟩:=Mw l;⟨_,h,by kernel_rfl⟩) rfl (by kernel_rfl)
theorem jz{b:Tbl}(h:j3 b=0):1≤b.router∧b.router≤99∧b.rows.length≤256∧(bz b.len=true∨b.len=0∧b.rows=[])∧(∀r∈b.rows,(1≤r.id∧r.id≤256)∧r.nx.length≤24∧∀n∈r.nx,1≤n∧n≤99)∧b.rows.Pairwise λx y=>x.id<y.id:=by
 unfold j3 at h
 split at h
 ·cases h
 rename_i h1
 split at h
 ·cases h
 rename_i h2
 split at h
 ·cases h
 rename_i h3;have h3:=br'.mp h3;have h1:re b=false:=by simpa using h1
 have h2:=zu (by simpa using h2:rG b=false);obtain⟨h1,h4⟩:=ot.mp h1;unfold hdB at h1;have i1:∀{n a c:Int},inP n a c=true→a≤n∧n≤c:=λq=>mU.mp (by rw[q];rfl);have h1:(inP b.router 1 99=true∧inP b.sub 0 7=true)∧(bz b.len=true∨b.len=0∧b.rows.length=0):=by
  cases q1:inP b.router 1 99<;>cases q2:inP b.sub 0 7<;>cases q3:bz b.len<;>simp_all
 refine⟨(i1 h1.1.1).1,(i1 h1.1.1).2,h2.1,?_,λr hr=>⟨i1 (h4 r hr).1,h2.2 r hr,λn hn=>i1 ((h4 r hr).2 n hn)⟩,h3.2⟩
 rcases h1.2 with q|q
 ·exact .inl q
 ·exact .inr ⟨q.1,bt'.mp q.2⟩
theorem jQ{l:List Tbl}(h:j4 l=0):l.length≤24∧(∀b∈l,j3 b=0)∧uV l:=by
 unfold j4 at h
 split at h
 ·cases h
 rename_i h1
 split at h
 ·cases h
 rename_i h2
 split at h
 ·cases h
 rename_i h3;refine⟨by omega,λb hb=>?_,br'.mp h3⟩;have h2:l.any uR=false:=by simpa using h2
 have:=aP'.mp h2 b hb;unfold uR at this;simpa using this
def iT(nx:List Int)(p:Int):Int:=if nx.length=0 then 0 else nx.getD (p.tmod nx.length).toNat 0
theorem Cx{p:Int}{n:Nat}(h:0≤p)(hn:n≠0):0≤p.tmod n∧p.tmod n<n:=⟨Int.tmod_nonneg _ h,cg' _ (show(0:Int)<n by omega)⟩
theorem Fs{nx:List Int}{p x:Int}(hn:nx.length≠0)(hx:nx[(p.tmod nx.length).toNat]?=some x):iT nx p=x:=by
 unfold iT;rw[F' hn,I',hx];rfl
def gr(b:Tbl)(id:Int):Rw×Bool:=match b.rows.find? λr=>r.id==id with
 | some r=>(r,true)
 | none=>(⟨0,[]⟩,false)
def CO(b:Tbl)(id:Int):=okL [Tbl.v b,.int id]
def J9(b:Tbl)(id:Int)(t0:Int):NF:=⟨[rI 1 id,rR 2 0,rR 4 1,rI 6 t0],[.box (Tbl.v b),.box (.agg [.int 0,.sl 0 [] true])]⟩
@[reducible] def CM:Nat→Type
 | 0=>Int
 | _=>Unit
def CN(r:Rw×Bool):AV:=.tup [Rw.v r.1,.bool r.2]
def CL(b:Tbl)(id:Int)(I0:Int→Prop)(m0:Int→Nat):Ax Tryz.prog CM (Rw×Bool):=
 (.loop 0 (J9 b id) I0 m0 ((0):Int) [0,16] λ(t0:Int) b0 =>
(.br 82 (decide (t0<((b.rows.map Rw.v).length:Int))) (.elI 130 Rw.v b.rows t0 λx1 =>
(.br 210 (x1.id==id) (.elI 258 Rw.v b.rows t0 λx2 =>
(.ret (x2,true)))
(.bk 0 b0 ((W (t0+1)):Int) [0,1])))
(.ret ((⟨0,[]⟩:Rw),false))))
theorem OZ(b:Tbl)(id:Int)(ok:CO b id):∃I m,(CL b id I m).vp CN (gr b id):=by
 refine⟨λt=>ba b.rows (λr=>(r.id==id)=false) t,λt=>b.rows.length-t.toNat,?_⟩;simp only[CO,Tbl.v,okU,Blk.ok,aJ,B']at ok;dsimp only[CL,CM,Ax.vp,Ax.vc];simp only[vcU,rfU,B']
 refine⟨ba.zero,λt h1=>⟨λc=>⟨h1.idx,c,λx hx=>⟨λq=>⟨h1.idx,c,λy hy=>?_⟩,λq=>h1.step (by omega) hx q⟩⟩,λc=>?_⟩⟩
 ·rw[hx]at hy;cases hy;rw[gr,h1.find (p:=λr:Rw=>r.id==id) hx q]
 ·rw[gr,h1.nofind (p:=λr:Rw=>r.id==id) c]
def Pa(b:Tbl)(id:Int):PC Tryz.prog:=pcO 118 [(.a [.k,.k,.k,(.s 2)]),.k] [Tbl.v b,.int id] (.a [(.a [.k,(.s 1)]),.k]) CN (gr b id) (λok=>let ⟨I0,m0,h⟩:=OZ b id ok;⟨_,h,by kernel_rfl⟩) rfl (by kernel_rfl)
def hU(b:Tbl)(id p:Int):Int:=iT (gr b id).1.nx p
def Lo(b:Tbl)(id:Int)(p:Int)(t0:Bool):NF:=⟨[rI 2 p,rR 7 0,rB 22 t0],[.box (Rw.v ((gr b id).1))]⟩
@[reducible] def Fu:Nat→Type
 | 0=>Bool
 | _=>Unit
def Fv(r:Int):AV:=.int r
def Ft(b:Tbl)(id:Int)(p:Int)(I0:Bool→Prop):Ax Tryz.prog Fu (Int):=
 (.callP (Pa b id)
(.pass (.join 0 (Lo b id p) (λ(t0:Bool)=>I0 t0) (λb0=>(.br 224 (!((gr b id).2)) (.bk 0 b0 ((true):Bool) [128])
(.bk 0 b0 (((((((gr b id).1).nx).map AV.int).length:Int)==0):Bool) [128]))) λ(t0:Bool) =>
(.br 1 t0 (.ret (0))
(.say (ck (!((((((gr b id).1).nx).map AV.int).length:Int)==0))) (.elI 113 AV.int (((gr b id).1).nx) (p.tmod (((((gr b id).1).nx).map AV.int).length:Int)) λx1 =>
(.ret (x1))))))))
theorem J8{b:Tbl}{id:Int}(h:(gr b id).2=false):(gr b id).1.nx=[]:=by
 unfold gr at h ⊢
 split at h
 ·cases h
 ·rfl
theorem Q7(b:Tbl)(id p:Int)(h:0≤p):∃I,(Ft b id p I).vp Fv (hU b id p):=by
 refine⟨λt=>t=decide ((gr b id).1.nx.length=0),?_⟩;dsimp only[Ft,Fu,Ax.vp,Ax.vc];simp only[vcU,rfU,B']
 refine⟨⟨λe=>?_,λe=>?_⟩,?_⟩
 ·rw[J8 (by simpa using e)];rfl
 ·rw[ae',aL',S'];omega
 rintro _ rfl;unfold hU;refine⟨λe=>by rw[iT,G' (H' e)],λe=>?_⟩;have e:=T' e;have hr:=Cx h e;exact⟨by simp;intro q;rw[q]at e;exact e rfl,hr.1,hr.2,λx hx=>(Fs e hx).symm⟩
def Fw(b:Tbl)(id:Int)(p:Int)(h:0≤p):PC Tryz.prog:=pcO 88 [(.a [.k,.k,.k,(.s 2)]),.k,.k] [Tbl.v b,.int id,.int p] .k Fv (hU b id p) (λ_=>let ⟨I0,h⟩:=Q7 b id p h;⟨_,h,by kernel_rfl⟩) rfl (by kernel_rfl)
end Go.Proofs.YtdoacjojljgdcaaGreat
namespace Go.Proofs.YtdoacjojljgdcaaGreat
open Go Go.Am Go.RowKit
def OC(b:Int):Int:=(Lib.ctz 64 b.toNat:Nat)
end Go.Proofs.YtdoacjojljgdcaaGreat
namespace Go.Proofs.YtdoacjojljgdcaaGreat
open Go Go.Am
def eE(b:Int):Int:=if b=0 then -1 else OC b
def bN(b:Int):List Int:=((List.range 64).filter b.toNat.testBit).map λ(k:Nat)=>(k:Int)
theorem pd{p q:Nat→Bool}:∀{n k:Nat},k<n→(∀j,j<k→p j=false∧q j=false)→p k=true→q k=false→(∀j,k<j→p j=q j)→(List.range n).filter p=k::(List.range n).filter q
 | n+1,k,hk,h1,h2,h3,h4=>by
  rw[bL',bw',bw']
  by_cases e:k=n
  ·subst e;have a:(List.range k).filter p=[]:=cf'.mpr λj hj=>by simp[(h1 j (al'.mp hj)).1]
   have b:(List.range k).filter q=[]:=cf'.mpr λj hj=>by simp[(h1 j (al'.mp hj)).2]
   rw[a,b];simp[h2,h3]
  ·rw[pd (n:=n) (k:=k) (by omega) h1 h2 h3 h4];have:p n=q n:=h4 n (by omega);rw[aO',aO',this];rfl
theorem o9{x:Nat}(h0:x≠0)(hx:x<18446744073709551616):(List.range 64).filter x.testBit=Lib.ctz 64 x::(List.range 64).filter (x &&& (x-1)).testBit:=by
 obtain⟨m,hm,hk⟩:=Lib.ctzFrom_spec 64 x (by omega) hx;have e:Lib.ctz 64 x=Lib.ctzFrom 64 x:=by rw[Lib.ctz,F' h0]
 rw[e];generalize Lib.ctzFrom 64 x=k at hm hk;have hp:=Nat.two_pow_pos k;have b1:∀j,x.testBit j=if j<k then(0:Nat).testBit j else(2 * m+1).testBit (j-k):=λj=>by
  have q:=Nat.testBit_two_pow_mul_add (2 * m+1) hp j;rw[by']at q;rw[hm,q]
 have b2:∀j,(x-1).testBit j=if j<k then(2 ^ k-1).testBit j else(2 * m).testBit (j-k):=λj=>by
  have:x-1=2 ^ k * (2 * m)+(2 ^ k-1):=by rw[hm,Nat.mul_add,Nat.mul_one];omega
  rw[this,Nat.testBit_two_pow_mul_add _ (by omega)]
 have b3:∀j,(x &&& (x-1)).testBit j=if j<k then false else(2 * m).testBit (j-k):=λj=>by
  rw[cj',b1,b2]
  by_cases c:j<k
  ·simp[c]
  ·simp only[c,if_false];cases d:j-k with
   | zero=>simp[Nat.testBit_zero]
   | succ s =>
    rw[Nat.testBit_succ,Nat.testBit_succ,show(2 * m+1) / 2=m by omega,show 2 * m / 2=m by omega,Bool.and_self]
 refine pd hk (λj hj=>⟨by rw[b1,G' hj];simp,by rw[b3,G' hj]⟩) ?_ ?_ λj hj=>?_
 ·rw[b1,F' (by omega),bz',Nat.testBit_zero];simp
 ·rw[b3,F' (by omega),bz',Nat.testBit_zero];simp
 ·rw[b1,b3,F' (by omega),F' (by omega)];obtain⟨s,hs⟩:∃s,j-k=s+1:=⟨j-k-1,by omega⟩
  rw[hs,Nat.testBit_succ,Nat.testBit_succ,show(2 * m+1) / 2=m by omega,show 2 * m / 2=m by omega]
theorem pC{a b:Nat}(ha:a<18446744073709551616)(hb:b<18446744073709551616):∃z:Nat,dA .u64 (a:Int) (b:Int)=z∧z<18446744073709551616∧∀i,z.testBit i=(a.testBit i && !b.testBit i):=by
 have hz:((BitVec.ofInt 64 (a:Int)) &&& ~~~(BitVec.ofInt 64 (b:Int))).toNat<18446744073709551616:=BitVec.isLt _
 refine⟨_,?_,hz,λi=>?_⟩
 ·unfold dA;rw[show IntKind.u64.bits=64 from rfl];exact fo hz
 ·have e:∀(x:BitVec 64) i,x.toNat.testBit i=x.getLsbD i:=λx i=>rfl;rw[e,BitVec.getLsbD_and,BitVec.getLsbD_not,BitVec.getLsbD,BitVec.getLsbD,uP ha,uP hb]
  by_cases h:i<64
  ·simp[h]
  ·rw[Nat.testBit_lt_two_pow (x:=a) (i:=i) (aU' ha (cF' (show 0<2 by omega) (show 64≤i by omega)))];simp
theorem fA{k:Nat}(h:k<64):dd (k:Int)=((2 ^ k:Nat):Int):=by
 unfold dd;rw[F' (by omega),nV h]
theorem ji{k:Nat}(h:k<64):2 ^ k<18446744073709551616:=bK' (n:=64) (by omega) h
theorem zN{x:Nat}(h0:x≠0)(hx:x<18446744073709551616):∃k:Nat,eE (x:Int)=k∧k<64∧x.testBit k=true:=by
 have h:=o9 h0 hx;have hm:Lib.ctz 64 x∈(List.range 64).filter x.testBit:=by rw[h];simp
 rw[aY',al']at hm;refine⟨Lib.ctz 64 x,?_,hm.1,hm.2⟩;unfold eE OC;rw[F' (by omega),Int.toNat_natCast]
theorem eN(x:Nat):bN (x:Int)=((List.range 64).filter x.testBit).map λ(k:Nat)=>(k:Int):=by unfold bN;rw[Int.toNat_natCast]
theorem j9(x:Int):(bN x).length≤64:=by
 unfold bN;rw[B'];exact aI' (bq' _ _) (by simp)
theorem p8{x:Nat}(h0:x≠0)(hx:x<18446744073709551616):0<(bN x).length:=by
 rw[eN,o9 h0 hx];simp
theorem zS{α:Type}{p q:α→Bool}:∀{l:List α},(∀x∈l,q x=true→p x=true)→(∃x∈l,p x=true∧q x=false)→(l.filter q).length<(l.filter p).length
 | [],_,⟨x,hx,_⟩=>by cases hx
 | y::l,h1,⟨x,hx,h2,h3⟩=>by
  have hle:∀l:List α,(∀x∈l,q x=true→p x=true)→(l.filter q).length≤(l.filter p).length:=λl h=>by
   induction l with
   | nil=>exact V' _
   | cons z l ih =>
    have i1:=ih λw hw=>h w (by simp[hw]);have i2:=h z (by simp);rw[aO',aO'];cases hq:q z<;>cases hp:p z<;>simp_all<;>omega
  rw[aO',aO'];have i2:=h1 y (by simp)
  rcases ad'.mp hx with rfl|hx
  ·have:=hle l λw hw=>h1 w (by simp[hw]);rw[h2,h3];simp;omega
  ·have:=zS (l:=l) (λw hw=>h1 w (by simp[hw])) ⟨x,hx,h2,h3⟩;cases hq:q y<;>cases hp:p y<;>simp_all<;>omega
theorem MX{x z k:Nat}(hk:k<64)(h1:x.testBit k=true)(h2:z.testBit k=false)(h:∀i,z.testBit i=true→x.testBit i=true):(bN z).length<(bN x).length:=by
 rw[eN,eN,B',B'];exact zS (λi _=>h i) ⟨k,al'.mpr hk,h1,h2⟩
def orQ(q:Nat→Bool):Nat→Nat
 | 0=>0
 | n+1=>if q n=true then orQ q n ||| 2 ^ n else orQ q n
theorem li(q:Nat→Bool):∀n i,(orQ q n).testBit i=(decide (i<n) && q i)
 | 0,i=>by simp[orQ]
 | n+1,i=>by
  rw[orQ];have ih:=li q n i
  by_cases e:i=n
  ·subst e;cases h:q i<;>simp[h,ih,Nat.testBit_or,bf']
  ·have e2:decide (i<n+1)=decide (i<n):=decide_eq_decide.mpr (by omega);rw[e2]
   split
   ·rw[Nat.testBit_or,ih,bf',decide_eq_false (show ¬n=i from λh=>e h.symm),Bool.or_false]
   ·exact ih
theorem wz(q:Nat→Bool):∀n,orQ q n<2 ^ n
 | 0=>by simp[orQ]
 | n+1=>by
  have ih:=wz q n;have h2:2 ^ n<2 ^ (n+1):=bK' (by omega) (by omega)
  rw[orQ];split
  ·exact Nat.or_lt_two_pow (Nat.lt_trans ih h2) h2
  ·exact Nat.lt_trans ih h2
theorem lp{a b:Nat}(h:∀i,a.testBit i=b.testBit i):a=b:=Nat.eq_of_testBit_eq h
def o4(b:Tbl)(p st h:Int)(k:Nat):Bool:=(decide ((k:Int)<b.len) && (atT st k b.len).2) && decide (hU b (atT st k b.len).1 p=h)
def tA(b:Tbl)(p st h:Int):Int:=(orQ (o4 b p st h) 64:Nat)
def KA(b:Tbl)(p:Int)(set_:Int)(neighbour:Int)(t0:Int×Int):NF:=⟨[rI 1 p,rI 2 set_,rI 3 neighbour,rR 4 0,(9,.k,.val (.int .u64 t0.1)),rI 10 t0.2],[.box (Tbl.v b)]⟩
def K9(b:Tbl)(p:Int)(set_:Int)(neighbour:Int)(t0:Int×Int)(t1:Bool):NF:=⟨[rI 1 p,rI 2 set_,rI 3 neighbour,rR 4 0,(9,.k,.val (.int .u64 t0.1)),rI 10 t0.2,rB 39 t1],[.box (Tbl.v b)]⟩
@[reducible] def Er:Nat→Type
 | 0=>Int×Int
 | 1=>Bool
 | _=>Unit
def Es(r:Int):AV:=.val (.int .u64 r)
def Ep(b:Tbl)(p:Int)(set_:Int)(neighbour:Int)(I0:(Int×Int)→Prop)(m0:(Int×Int)→Nat)(I1:Int×Int→Bool→Prop):Ax Tryz.prog Er (Int):=
 (.loop 0 (KA b p set_ neighbour) I0 m0 (0,0) [0] λ(t0:Int×Int) b0 =>
(.br 65 (decide (t0.2<b.len)) (.callP (Ig set_ t0.2 b.len)
(.join 1 (K9 b p set_ neighbour t0) (λ(t1:Bool)=>I1 t0 t1) (λb1=>(.br 257 ((atT set_ t0.2 b.len).2) (.br 321 (decide (0<neighbour)) (.req 369 (0≤p) λh1 =>
(.callP (Fw b ((atT set_ t0.2 b.len).1) p h1)
(.bk 1 b1 (((hU b ((atT set_ t0.2 b.len).1) p)==neighbour):Bool) [0])))
(.bk 1 b1 ((false):Bool) [0]))
(.bk 1 b1 ((false):Bool) [0]))) λ(t1:Bool) =>
(.br 1 t1 (.callP (kG t0.2)
(.bk 0 b0 (bOr .u64 t0.1 (dd t0.2),W (t0.2+1)) [0]))
(.bk 0 b0 (t0.1,W (t0.2+1)) [0]))))
(.ret (t0.1))))
theorem PD{q:Nat→Bool}{n m:Nat}(h:∀k,n≤k→q k=false)(hnm:n≤m):orQ q m=orQ q n:=by
 refine lp λi=>?_;rw[li,li]
 by_cases e:i<n
 ·rw[decide_eq_true e,decide_eq_true (by omega)]
 ·rw[h i (by omega)];simp
theorem nb{x:Int}(h:0≤x∧x<18446744073709551616):∃n:Nat,x=n∧n<18446744073709551616:=⟨x.toNat,by omega,by omega⟩
theorem Qd(b:Tbl)(p st n:Int)(h:j3 b=0∧0≤p∧1≤n):∃I0 m0 I1,(Ep b p st n I0 m0 I1).vp Es (tA b p st n):=by
 refine⟨λs=>∃k:Nat,s.2=k∧k≤b.len.toNat∧s.1=(orQ (o4 b p st n) k:Nat),λs=>b.len.toNat-s.2.toNat,λs t=>t=o4 b p st n s.2.toNat,?_⟩;dsimp only[Ep,Er,Ax.vp,Ax.vc];simp only[vcU,rfU,B'];obtain⟨hc,hp,hn⟩:=h;have hl:0≤b.len∧b.len≤64:=by
  rcases(jz hc).2.2.2.1 with q|q
  ·have:=dJ.mp q;omega
  ·omega
 refine⟨⟨0,rfl,by omega,rfl⟩,?_⟩;rintro⟨out,bit⟩ ⟨k,h1,h2,h3⟩;simp only at h1 h3 ⊢;subst h1;subst h3;simp only[Int.toNat_natCast]
 refine⟨λc=>⟨⟨λe=>⟨λe1=>⟨hp,?_⟩,λe1=>by omega⟩,λe=>?_⟩,?_⟩,λc=>?_⟩
 ·rw[o4,decide_eq_true c,e,bQ',bQ',ae',aL',S']
 ·rw[o4,e];simp
 ·rintro _ rfl;rw[bf (n:=b.len.toNat) (by omega) (by omega)]
  refine⟨λe=>⟨⟨k+1,rfl,by omega,?_⟩,by omega⟩,λe=>⟨⟨k+1,rfl,by omega,?_⟩,by omega⟩⟩
  ·rw[fA (by omega),nK (aU' (wz _ k) (Nat.le_of_lt (ji (by omega)))) (ji (by omega)),orQ,G' e]
  ·rw[orQ,F' (by rw[e];simp)]
 ·have:k=b.len.toNat:=by omega
  subst this;have e:orQ (o4 b p st n) 64=orQ (o4 b p st n) b.len.toNat:=PD (λj hj=>by rw[o4,decide_eq_false (by omega:¬(j:Int)<b.len)];rfl) (by omega);rw[tA,e]
def Qe(b:Tbl)(p:Int)(set_:Int)(neighbour:Int)(h:j3 b=0∧0≤p∧1≤neighbour):PC Tryz.prog:=pcO 105 [(.a [.k,.k,.k,(.s 2)]),.k,.k,.k] [Tbl.v b,.int p,.int set_,.int neighbour] .k Es (tA b p set_ neighbour) (λ_=>let ⟨I0,m0,I1,h⟩:=Qd b p set_ neighbour h;⟨_,h,by kernel_rfl⟩) rfl (by kernel_rfl)
def eP(p:Pkt):Int:=if dQ p=true then p.ent.tmod 8 else 0
def D1(r:Int):AV:=.int r
def vZ(p:Pkt):Ax Tryz.prog noS (Int):=
 (.callP (qB p)
(.br 80 (!(dQ p)) (.ret (0))
(.ret (p.ent.tmod 8))))
theorem Pr(p:Pkt):(vZ p).vp D1 (eP p):=by
  dsimp only[vZ,noS,Ax.vp,Ax.vc];simp only[vcU,rfU,B']
  refine⟨λe=>?_,λe=>?_⟩
  ·rw[eP,F' (by simpa using e)]
  ·rw[eP,G' (by simpa using e)]
def D2(p:Pkt):PC Tryz.prog:=pcO 104 [.k] [Pkt.v p] .k D1 (eP p) (λ_=>⟨(vZ p),Pr p,by kernel_rfl⟩) rfl (by kernel_rfl)
def zPk:Pkt:=⟨0,0,0,0,0,0,0,0,0,B []⟩
def KB(p:Pkt)(m:Int):Pkt:=⟨p.mode,p.sub,p.set,p.len,W (p.ttl-1),p.ent,p.ing,p.proto,fc .u64 p.bits m,p.pay⟩
def aF(p:Pkt)(m:Int):Pkt×Bool:=if(!dQ p || (p.ttl==0 || fc .u64 p.bits m==0))=true then(zPk,false)else(KB p m,true)
def Eo(p:Pkt)(m:Int)(t0:Bool):NF:=⟨[(1,.k,.val (.int .u64 m)),rR 2 0,rR 4 1,rB 20 t0],[.box (Pkt.v p),.box (Pkt.v (⟨0,0,0,0,0,0,0,0,0,B []⟩:Pkt))]⟩
@[reducible] def zl:Nat→Type
 | 0=>Bool
 | _=>Unit
def zm(r:Pkt×Bool):AV:=.tup [Pkt.v r.1,.bool r.2]
def zk(p:Pkt)(m:Int)(I0:Bool→Prop):Ax Tryz.prog zl (Pkt×Bool):=
 (.pass (.pass (.join 0 (Eo p m) (λ(t0:Bool)=>I0 t0) (λb0=>(.callP (qB p)
(.br 112 (!(dQ p)) (.bk 0 b0 ((true):Bool) [0,16])
(.br 192 (p.ttl==0) (.bk 0 b0 ((true):Bool) [0,16])
(.bk 0 b0 (((fc .u64 p.bits m)==0):Bool) [0,16]))))) λ(t0:Bool) =>
(.br 2 t0 (.ret ((⟨0,0,0,0,0,0,0,0,0,B []⟩:Pkt),false))
(.ret ((⟨p.mode,p.sub,p.set,p.len,W (p.ttl-1),p.ent,p.ing,p.proto,fc .u64 p.bits m,p.pay⟩:Pkt),true))))))
theorem K7(p:Pkt)(m:Int):∃I,(zk p m I).vp zm (aF p m):=by
  refine⟨λt=>t=(!dQ p || (p.ttl==0 || fc .u64 p.bits m==0)),?_⟩;dsimp only[zk,zl,Ax.vp,Ax.vc];simp only[vcU,rfU,B'];refine⟨⟨λa=>by rw[a];rfl,λa=>⟨λc=>by rw[c,Bool.true_or,Bool.or_true],λc=>by rw[a,c];rfl⟩⟩,?_⟩;rintro _ rfl;unfold aF;exact⟨λe=>by rw[G' e];rfl,λe=>by rw[F' (by rw[e];simp)];rfl⟩
def K8(p:Pkt)(m:Int):PC Tryz.prog:=pcO 106 [.k,.k] [Pkt.v p,.val (.int .u64 m)] .k zm (aF p m) (λ_=>let ⟨I0,h⟩:=K7 p m;⟨_,h,by kernel_rfl⟩) rfl (by kernel_rfl)
def Kt(p:Pkt)(k:Int):Bool:=!dQ p || (decide (k<0) || (decide (63<k) || fc .u64 (vG .u64 p.bits k) 1==0))
def eR(p:Pkt)(k:Int):Pkt:=if Kt p k=true then zPk else⟨p.mode,p.sub,p.set,p.len,p.ttl,p.ent,p.ing,p.proto,CE .u64 1 k,p.pay⟩
def nm(b k:Int):Bool:=(decide (0≤k) && decide (k<64)) && (fc .u64 (vG .u64 b (IntKind.u64.wrap k)) 1==1)
def F4(r:Bool):AV:=.bool r
def xc(b:Int)(k:Int):Ax Tryz.prog noS (Bool):=
 (.br 64 (decide (0≤k)) (.br 128 (decide (k<64)) (.say (ck (decide (0≤(IntKind.u64.wrap k)))) (.ret ((fc .u64 (vG .u64 b (IntKind.u64.wrap k)) 1)==1)))
(.ret (false)))
(.ret (false)))
theorem QA(b k:Int):(xc b k).vp F4 (nm b k):=by
 dsimp only[xc,noS,Ax.vp,Ax.vc];simp only[vcU,rfU,B'];unfold nm;refine⟨λa=>⟨λc=>⟨?_,by rw[decide_eq_true a,decide_eq_true c];rfl⟩,λc=>by rw[decide_eq_false c];simp⟩,λa=>by rw[decide_eq_false a];rfl⟩;obtain⟨n,rfl⟩:∃n:Nat,k=n:=⟨k.toNat,by omega⟩
 rw[fo (by omega)];omega
def F5(b:Int)(k:Int):PC Tryz.prog:=pcO 71 [.k,.k] [.val (.int .u64 b),.int k] .k F4 (nm b k) (λ_=>⟨(xc b k),QA b k,by kernel_rfl⟩) rfl (by kernel_rfl)
theorem uc{b k:Nat}(hb:b<18446744073709551616)(hk:k<64):nm (b:Int) (k:Int)=b.testBit k:=by
 unfold nm;rw[fo (by omega),Si hb hk,decide_eq_true (by omega),decide_eq_true (by omega)];rfl
def E5(b:Int):=okL [.val (.int .u64 b)]
def KL(b:Int)(t0:Int×List Int):NF:=⟨[(0,.k,.val (.int .u64 b)),rV 3 0,rI 4 t0.1],[vB 1 AV.int t0.2 (λ_=>rfl)]⟩
@[reducible] def E3:Nat→Type
 | 0=>Int×List Int
 | _=>Unit
def E4(r:List Int):AV:=.sl 1 (r.map AV.int) false
def E0(b:Int)(I0:(Int×List Int)→Prop)(m0:(Int×List Int)→Nat):Ax Tryz.prog E3 ((List Int)):=
 (.cmdL (.nilT 3 1) (.loop 0 (KL b) I0 m0 (0,[]) [48] λ(t0:Int×List Int) b0 =>
(.br 33 (decide (t0.1<64)) (.callP (F5 b t0.1)
(.br 81 (nm b t0.1) (.apX 129 AV.int t0.2 [t0.1] (t0.2.length+1)
(.bk 0 b0 (W (t0.1+1),t0.2++[t0.1]) [129]))
(.bk 0 b0 (W (t0.1+1),t0.2) [0])))
(.fz 0 AV.int t0.2 (λ_=>rfl) (.ret (t0.2))))))
theorem Ql(b:Int)(ok:E5 b):∃I m,(E0 b I m).vp E4 (bN b):=by
 have hb:0≤b∧b<18446744073709551616:=by
  simp only[E5,okL,AV.ok,aJ,and_true]at ok
  replace ok:IntKind.u64.min≤b∧b≤IntKind.u64.max:=ok
  simp[IntKind.min,IntKind.max,IntKind.bits,IntKind.signed]at ok;omega
 refine⟨λt=>∃k:Nat,t.1=k∧k≤64∧t.2=((List.range k).filter b.toNat.testBit).map λ(k:Nat)=>(k:Int),λt=>64-t.1.toNat,?_⟩;dsimp only[E0,E3,Ax.vp,Ax.vc];simp only[vcU,rfU,B'];obtain⟨x,rfl,hx⟩:=nb hb;simp only[Int.toNat_natCast];refine⟨⟨0,rfl,by omega,rfl⟩,?_⟩;rintro⟨_,out⟩ ⟨k,rfl,hk,ho⟩;simp only at ho ⊢;have hl:out.length≤k:=by
  rw[ho,B'];exact aI' (bq' _ _) (by simp)
 refine⟨λc=>?_,λc=>?_⟩
 ·rw[uc hx (by omega),bf (n:=64) (by omega) (by omega)]
  refine⟨λe=>⟨by omega,⟨k+1,rfl,by omega,?_⟩,by omega⟩,λe=>⟨⟨k+1,rfl,by omega,?_⟩,by omega⟩⟩
  ·rw[ho,bL',bw'];simp[e]
  ·rw[ho,bL',bw'];simp[e]
 ·have:k=64:=by omega
  subst this;rw[ho,eN]
def rA(b:Int):PC Tryz.prog:=pcO 25 [.k] [.val (.int .u64 b)] (.s 1) E4 (bN b) (λok=>let ⟨I0,m0,h⟩:=Ql b ok;⟨_,h,by kernel_rfl⟩) rfl (by kernel_rfl)
def wC(b n:Int):Int:=if n<0∨((bN b).length:Int)≤n then -1 else(bN b).getD n.toNat 0
def Ky(b:Int)(n:Int)(t0:Bool):NF:=⟨[rI 1 n,(5,.k,.sl 1 ((bN b).map AV.int) false),rB 15 t0],[]⟩
@[reducible] def DW:Nat→Type
 | 0=>Bool
 | _=>Unit
def DX(r:Int):AV:=.int r
def DV(b:Int)(n:Int)(I0:Bool→Prop):Ax Tryz.prog DW (Int):=
 (.callP (rA b)
(.pass (.join 0 (Ky b n) (λ(t0:Bool)=>I0 t0) (λb0=>(.br 112 (decide (n<0)) (.bk 0 b0 ((true):Bool) [])
(.bk 0 b0 ((decide ((((bN b).map AV.int).length:Int)≤n)):Bool) []))) λ(t0:Bool) =>
(.br 0 t0 (.ret (-1))
(.elI 32 AV.int (bN b) n λx1 =>
(.ret (x1)))))))
theorem PN(b n:Int):∃I,(DV b n I).vp DX (wC b n):=by
 refine⟨λt=>t=decide (n<0∨((bN b).length:Int)≤n),?_⟩;dsimp only[DV,DW,Ax.vp,Ax.vc];simp only[vcU,rfU,B'];refine⟨⟨λa=>by simp[a],λa=>by simp[a]⟩,?_⟩;rintro _ rfl;unfold wC;refine⟨λe=>by rw[G' (H' e)],λe=>?_⟩;have e:=T' e;rw[F' e];exact⟨by omega,by omega,λx hx=>by rw[I',hx];rfl⟩
def PO(b:Int)(n:Int):PC Tryz.prog:=pcO 135 [.k,.k] [.val (.int .u64 b),.int n] .k DX (wC b n) (λ_=>let ⟨I0,h⟩:=PN b n;⟨_,h,by kernel_rfl⟩) rfl (by kernel_rfl)
def FL(b:Int):=okL [.val (.int .u64 b)]
def FK(r:Int):AV:=.int r
def xf(b:Int):Ax Tryz.prog noS (Int):=
 (.callP (PO b 0)
(.ret (wC b 0)))
theorem PP{b:Int}(hb:0≤b∧b<18446744073709551616):wC b 0=eE b:=by
 obtain⟨x,rfl,hx⟩:=nb hb
 by_cases h:x=0
 ·subst h;have e0:bN ((0:Nat):Int)=[]:=by unfold bN;simp
  unfold wC eE;rw[e0,G' (by simp)];rfl
 ·have hl:=o9 h hx;unfold wC eE OC;rw[eN,hl,Int.toNat_natCast,F' (by simp),F' (by omega)];rfl
theorem QJ(b:Int)(ok:FL b):(xf b).vp FK (eE b):=by
 have hb:0≤b∧b<18446744073709551616:=by
  simp only[FL,okL,AV.ok,aJ,and_true]at ok
  replace ok:IntKind.u64.min≤b∧b≤IntKind.u64.max:=ok
  simp[IntKind.min,IntKind.max,IntKind.bits,IntKind.signed]at ok;omega
 dsimp only[xf,noS,Ax.vp,Ax.vc];simp only[vcU,rfU,B'];exact PP hb
def QK(b:Int):PC Tryz.prog:=pcO 103 [.k] [.val (.int .u64 b)] .k FK (eE b) (λok=>⟨(xf b),QJ b ok,by kernel_rfl⟩) rfl (by kernel_rfl)
def okF(b:Tbl)(p:Pkt):Prop:=j3 b=0∧dQ p=true∧b.len=p.len
def jZ(h:Int)(q:Pkt):Cpy:=⟨h,[],q.mode,q.sub,q.set,q.len,q.ttl,q.ent,q.ing,q.proto,q.bits,q.pay⟩
abbrev FwS:=Int×Int×Int×List Cpy
def fwH(b:Tbl)(p:Pkt)(x:Int):Int:=hU b (atT p.set (eE x) p.len).1 (eP p)
def fwM(b:Tbl)(p:Pkt)(x:Int):Int:=fc .u64 x (tA b (eP p) p.set (fwH b p x))
def fwS(b:Tbl)(p:Pkt)(s:FwS):FwS:=
 if fwH b p s.1=0 then(dA .u64 s.1 (dd (eE s.1)),bOr .u64 s.2.1 (dd (eE s.1)),s.2.2.1,s.2.2.2)
 else if fwH b p s.1=b.router then(dA .u64 s.1 (dd (eE s.1)),s.2.1,bOr .u64 s.2.2.1 (dd (eE s.1)),s.2.2.2)
 else if(aF p (fwM b p s.1)).2=true then(dA .u64 s.1 (fwM b p s.1),s.2.1,s.2.2.1,s.2.2.2++[jZ (fwH b p s.1) (aF p (fwM b p s.1)).1])
 else(dA .u64 s.1 (fwM b p s.1),bOr .u64 s.2.1 (fwM b p s.1),s.2.2.1,s.2.2.2)
def fwL(b:Tbl)(p:Pkt):Nat→FwS→Out
 | 0,s=>⟨s.2.2.1,s.2.1,s.2.2.2⟩
 | n+1,s=>if s.1=0 then⟨s.2.2.1,s.2.1,s.2.2.2⟩else fwL b p n (fwS b p s)
def uf(b:Tbl)(p:Pkt):Out:=fwL b p 64 (p.bits,0,0,[])
section
variable {b : Tbl} {p : Pkt} {x lo lc : Int} {cp : List Cpy}
theorem NY(h:fwH b p x=0):fwS b p (x,lo,lc,cp)=(dA .u64 x (dd (eE x)),bOr .u64 lo (dd (eE x)),lc,cp):=G' h
theorem NX(h:fwH b p x≠0)(h1:fwH b p x=b.router):fwS b p (x,lo,lc,cp)=(dA .u64 x (dd (eE x)),lo,bOr .u64 lc (dd (eE x)),cp):=(F' h).trans (G' h1)
theorem NW(h:fwH b p x≠0)(h1:fwH b p x≠b.router)(h2:(aF p (fwM b p x)).2=true):fwS b p (x,lo,lc,cp)=(dA .u64 x (fwM b p x),lo,lc,cp++[jZ (fwH b p x) (aF p (fwM b p x)).1]):=(F' h).trans ((F' h1).trans (G' h2))
theorem NV(h:fwH b p x≠0)(h1:fwH b p x≠b.router)(h2:¬(aF p (fwM b p x)).2=true):fwS b p (x,lo,lc,cp)=(dA .u64 x (fwM b p x),bOr .u64 lo (fwM b p x),lc,cp):=(F' h).trans ((F' h1).trans (F' h2))
end
theorem FH{b:Tbl}{p:Pkt}{n:Nat}{s:FwS}(h:s.1=0):fwL b p n s=⟨s.2.2.1,s.2.1,s.2.2.2⟩:=by
 cases n with
 | zero=>rfl
 | succ n=>rw[fwL,G' h]
structure FwI (b:Tbl) (p:Pkt) (s:FwS):Prop where
  ex:∃x n:Nat,s.1=x∧x<18446744073709551616∧(∀i,x.testBit i=true→p.bits.toNat.testBit i=true)∧(bN x).length≤n∧s.2.2.2.length+n≤64∧fwL b p n s=uf b p
theorem rM{b:Tbl}(hc:j3 b=0){id p:Int}(h:hU b id p≠0):1≤hU b id p∧(gr b id).2=true∧(gr b id).1∈b.rows∧(gr b id).1.id=id:=by
 have hr:=(jz hc).2.2.2.2.1;unfold hU at h ⊢;unfold gr at h ⊢
 split at h
 ·rename_i r e;have hm:=bl' e;refine⟨?_,rfl,hm,by simpa using cv' e⟩;unfold iT at h ⊢
  split at h
  ·exact absurd rfl h
  ·rename_i hn;simp only at hn h ⊢;rw[F' hn];have hlt:(p.tmod r.nx.length).toNat<r.nx.length:=by
    have:=cg' p (show(0:Int)<r.nx.length by omega);omega
   rw[I',u' hlt];exact((hr r hm).2.2 _ (aA' hlt)).1
 ·exact absurd (by simp[iT]) h
theorem Se{x:Int}(h:IntKind.u64.min≤x∧x≤IntKind.u64.max):0≤x∧x<18446744073709551616:=by
 simp[IntKind.min,IntKind.max,IntKind.bits,IntKind.signed]at h;omega
theorem tD{b:Tbl}{p:Pkt}(hF:okF b p){x k:Nat}(hk:eE (x:Int)=k)(h:fwH b p x≠0):∃o:Nat,tA b (eP p) p.set (fwH b p x)=o∧o<18446744073709551616∧(k<64→o.testBit k=true):=by
 obtain⟨hc,hp,hl⟩:=hF;refine⟨_,rfl,wz _ 64,λh64=>?_⟩;have h2:=rM hc (id:=(atT p.set (eE (x:Int)) p.len).1) (p:=eP p) h;rw[li,decide_eq_true h64,bQ'];unfold o4;rw[hk]at h2;have ha:(atT p.set k p.len).2=true:=by
  cases e:(atT p.set k p.len).2 with
  | true=>rfl
  | false =>
   have e2:(atT p.set (k:Int) p.len).1=0:=by
    unfold atT at e ⊢
    split at e
    ·cases e
    ·rename_i q;rw[F' q]
   have:=((jz hc).2.2.2.2.1 _ h2.2.2.1).1;rw[h2.2.2.2,e2]at this;omega
 have hlt:(k:Int)<p.len:=by
  unfold atT at ha
  split at ha
  ·rename_i q;omega
  ·cases ha
 rw[hl,ha,decide_eq_true hlt];simp only[bQ',decide_eq_true_eq];unfold fwH;rw[hk]
theorem FwI.step{b:Tbl}{p:Pkt}(hF:okF b p){s:FwS}(h:FwI b p s)(h0:s.1≠0):FwI b p (fwS b p s)∧(bN (fwS b p s).1).length<(bN s.1).length:=by
 obtain⟨x,n,h1,h2,h3,h4,h5,h6⟩:=h.ex;have hx0:x≠0:=by omega
 have hpos:=p8 hx0 h2;obtain⟨m,rfl⟩:∃m,n=m+1:=⟨n-1,by omega⟩
 rw[fwL,F' h0]at h6;obtain⟨k,k1,k2,k3⟩:=zN hx0 h2
 -- what is taken away has the bit
 have key:∀o:Nat,o<18446744073709551616→o.testBit k=true→∃z:Nat,dA .u64 (x:Int) (o:Int)=z∧z<18446744073709551616∧(∀i,z.testBit i=true→x.testBit i=true)∧(bN z).length<(bN x).length:=λo o1 o2=>by
  obtain⟨z,z1,z2,z3⟩:=pC h2 o1;have hs:∀i,z.testBit i=true→x.testBit i=true:=λi hi=>by rw[z3]at hi;exact(R' _ _ ▸ hi).1
  exact⟨z,z1,z2,hs,MX k2 k3 (by rw[z3,o2];simp) hs⟩
 have fin:∀{s':FwS} {z:Nat},fwS b p s=s'→s'.1=z→z<18446744073709551616→(∀i,z.testBit i=true→x.testBit i=true)→(bN z).length<(bN x).length→s'.2.2.2.length≤s.2.2.2.length+1→FwI b p (fwS b p s)∧(bN (fwS b p s).1).length<(bN s.1).length:=λ{s' z} e e1 e2 e3 e4 e5=>by
  rw[e]at h6 ⊢;rw[e1,h1];exact⟨⟨z,m,e1,e2,λi hi=>h3 i (e3 i hi),by omega,by omega,h6⟩,e4⟩
 by_cases c1:fwH b p s.1=0
 ·obtain⟨z,z1,z2,z3,z4⟩:=key (2 ^ k) (ji k2) (by rw[bf'];simp);have e:fwS b p s=(dA .u64 s.1 (dd (eE s.1)),bOr .u64 s.2.1 (dd (eE s.1)),s.2.2.1,s.2.2.2):=by rw[fwS,G' c1]
  exact fin e (by simp only;rw[h1,k1,fA k2,z1]) z2 z3 z4 (by simp)
 by_cases c2:fwH b p s.1=b.router
 ·obtain⟨z,z1,z2,z3,z4⟩:=key (2 ^ k) (ji k2) (by rw[bf'];simp);have e:fwS b p s=(dA .u64 s.1 (dd (eE s.1)),s.2.1,bOr .u64 s.2.2.1 (dd (eE s.1)),s.2.2.2):=by rw[fwS,F' c1,G' c2]
  exact fin e (by simp only;rw[h1,k1,fA k2,z1]) z2 z3 z4 (by simp)
 have c1':fwH b p (x:Int)≠0:=by rw[←h1];exact c1
 obtain⟨o,o1,o2,o3⟩:=tD hF k1 c1';have hm:fwM b p s.1=((x &&& o:Nat):Int):=by rw[fwM,h1,o1,gq h2 o2]
 obtain⟨z,z1,z2,z3,z4⟩:=key (x &&& o) (bU' Nat.and_le_left h2) (by rw[cj',k3,o3 k2];rfl)
 by_cases c3:(aF p (fwM b p s.1)).2=true
 ·have e:fwS b p s=(dA .u64 s.1 (fwM b p s.1),s.2.1,s.2.2.1,s.2.2.2++[jZ (fwH b p s.1) (aF p (fwM b p s.1)).1]):=by rw[fwS,F' c1,F' c2,G' c3]
  exact fin e (by simp only;rw[hm,h1,z1]) z2 z3 z4 (by simp)
 ·have e:fwS b p s=(dA .u64 s.1 (fwM b p s.1),bOr .u64 s.2.1 (fwM b p s.1),s.2.2.1,s.2.2.2):=by rw[fwS,F' c1,F' c2,F' c3]
  exact fin e (by simp only;rw[hm,h1,z1]) z2 z3 z4 (by simp)
theorem FwI.zero{b:Tbl}{p:Pkt}(h:0≤p.bits∧p.bits<18446744073709551616):FwI b p (p.bits,0,0,[]):=
 ⟨p.bits.toNat,64,by simp only;omega,by omega,λi h=>h,j9 _,by simp,rfl⟩
theorem qX{p:Pkt}:0≤eP p∧eP p<8:=by
 unfold eP
 split
 ·rename_i h;have:inK p.ent 1023=true:=by
   unfold dQ at h;simp only[R']at h;exact h.2.2.2.2.2.2.1
  unfold inK at this;rw[R',S']at this;exact⟨Int.tmod_nonneg _ this.1,cg' _ (by omega)⟩
 ·omega
def QI(b:Tbl)(p:Pkt):=okL [Tbl.v b,Pkt.v p]
def Lx(b:Tbl)(p:Pkt)(t0:Int×Int×Int×List Cpy):NF:=⟨[rR 2 0,rR 3 1,rR 4 2,rR 5 3,(6,.k,.val (.int .u64 t0.1))],[.box (Tbl.v b),.box (Pkt.v p),.box (.agg [.val (.int .u64 0),.val (.int .u64 0),.sl 0 [] true]),.box (.agg [.val (.int .u64 t0.2.2.1),.val (.int .u64 t0.2.1),.vec 4]),vB 12 Cpy.v t0.2.2.2 (λ_=>rfl)]⟩
def Lw(b:Tbl)(p:Pkt)(t0:Int×Int×Int×List Cpy)(t1:Int):NF:=⟨[rR 2 0,rR 3 1,rR 4 2,rR 5 3,(6,.k,.val (.int .u64 t0.1)),rI 7 (eE t0.1),rI 8 t1],[.box (Tbl.v b),.box (Pkt.v p),.box (.agg [.val (.int .u64 0),.val (.int .u64 0),.sl 0 [] true]),.box (.agg [.val (.int .u64 t0.2.2.1),.val (.int .u64 t0.2.1),.vec 4]),vB 12 Cpy.v t0.2.2.2 (λ_=>rfl)]⟩
def Lv(b:Tbl)(p:Pkt)(t0:Int×Int×Int×List Cpy)(t2:Int):NF:=⟨[rR 2 0,rR 3 1,rR 4 2,rR 5 3,(6,.k,.val (.int .u64 t0.1)),rI 7 (eE t0.1),rI 10 t2],[.box (Tbl.v b),.box (Pkt.v p),.box (.agg [.val (.int .u64 0),.val (.int .u64 0),.sl 0 [] true]),.box (.agg [.val (.int .u64 t0.2.2.1),.val (.int .u64 t0.2.1),.vec 4]),vB 12 Cpy.v t0.2.2.2 (λ_=>rfl)]⟩
def Lu(b:Tbl)(p:Pkt)(t0:Int×Int×Int×List Cpy)(t2:Int)(t3:Int):NF:=⟨[rR 2 0,rR 3 1,rR 4 2,rR 5 3,(6,.k,.val (.int .u64 t0.1)),rI 10 t2,(11,.k,.val (.int .u64 t3))],[.box (Tbl.v b),.box (Pkt.v p),.box (.agg [.val (.int .u64 0),.val (.int .u64 0),.sl 0 [] true]),.box (.agg [.val (.int .u64 t0.2.2.1),.val (.int .u64 t0.2.1),.vec 4]),vB 12 Cpy.v t0.2.2.2 (λ_=>rfl)]⟩
def Lt(b:Tbl)(p:Pkt)(t0:Int×Int×Int×List Cpy)(t2:Int)(t4:Int):NF:=⟨[rR 2 0,rR 3 1,rR 4 2,rR 5 3,(6,.k,.val (.int .u64 t0.1)),rI 10 t2,(11,.k,.val (.int .u64 t4))],[.box (Tbl.v b),.box (Pkt.v p),.box (.agg [.val (.int .u64 0),.val (.int .u64 0),.sl 0 [] true]),.box (.agg [.val (.int .u64 t0.2.2.1),.val (.int .u64 t0.2.1),.vec 4]),vB 12 Cpy.v t0.2.2.2 (λ_=>rfl)]⟩
def Ls(b:Tbl)(p:Pkt)(t0:Int×Int×Int×List Cpy)(t2:Int)(t4:Int)(t5:Bool):NF:=⟨[rR 2 0,rR 3 1,rR 4 2,rR 5 3,(6,.k,.val (.int .u64 t0.1)),rI 10 t2,(11,.k,.val (.int .u64 t4)),rR 12 5,rB 13 t5],[.box (Tbl.v b),.box (Pkt.v p),.box (.agg [.val (.int .u64 0),.val (.int .u64 0),.sl 0 [] true]),.box (.agg [.val (.int .u64 t0.2.2.1),.val (.int .u64 t0.2.1),.vec 4]),vB 12 Cpy.v t0.2.2.2 (λ_=>rfl),.box (Pkt.v ((aF p t4).1))]⟩
@[reducible] def FF:Nat→Type
 | 0=>Int×Int×Int×List Cpy
 | 1=>Int
 | 2=>Int
 | 3=>Int
 | 4=>Int
 | 5=>Bool
 | _=>Unit
def FG(r:Out):AV:=Out.v r
def FE(b:Tbl)(p:Pkt)(I0:(Int×Int×Int×List Cpy)→Prop)(m0:(Int×Int×Int×List Cpy)→Nat):Ax Tryz.prog FF (Out):=
 (.cmdL (.nilB 48 2 12) (.loop 0 (Lx b p) I0 m0 (p.bits,0,0,[]) [0,16,32,48,112] λ(t0:Int×Int×Int×List Cpy) b0 =>
(.br 37 (t0.1 != 0) (.callP (QK t0.1)
(.join 1 (Lw b p t0) (λ(t1:Int)=>t1=(((atT p.set (eE t0.1) p.len).1):Int)) (λb1=>(.callP (Ig p.set (eE t0.1) p.len)
(.bk 1 b1 (((atT p.set (eE t0.1) p.len).1):Int) [0,1,2,3,4]))) λ(t1:Int) =>
(.join 2 (Lv b p t0) (λ(t2:Int)=>t2=((hU b t1 (eP p)):Int)) (λb2=>(.callP (D2 p)
(.req 69 (0≤(eP p)) λh1 =>
(.callP (Fw b t1 (eP p) h1)
(.bk 2 b2 ((hU b t1 (eP p)):Int) [0,1,2,3,4]))))) λ(t2:Int) =>
(.join 3 (Lu b p t0 t2) (λ(t3:Int)=>t3=((dd (eE t0.1)):Int)) (λb3=>(.callP (kG (eE t0.1))
(.bk 3 b3 ((dd (eE t0.1)):Int) [0,1,2,3,4]))) λ(t3:Int) =>
(.br 53 (t2==0) (.bk 0 b0 (dA .u64 t0.1 t3,bOr .u64 t0.2.1 t3,t0.2.2.1,t0.2.2.2) [0,1,2,3,4])
(.br 133 (t2==b.router) (.bk 0 b0 (dA .u64 t0.1 t3,t0.2.1,bOr .u64 t0.2.2.1 t3,t0.2.2.2) [0,1,2,3,4])
(.join 4 (Lt b p t0 t2) (λ(t4:Int)=>t4=((fc .u64 t0.1 (tA b (eP p) p.set t2)):Int)) (λb4=>(.callP (D2 p)
(.req 245 (j3 b=0∧0≤(eP p)∧1≤t2) λh2 =>
(.callP (Qe b (eP p) p.set t2 h2)
(.bk 4 b4 ((fc .u64 t0.1 (tA b (eP p) p.set t2)):Int) [0,1,2,3,4]))))) λ(t4:Int) =>
(.join 5 (Ls b p t0 t2 t4) (λ(t5:Bool)=>t5=(((aF p t4).2):Bool)) (λb5=>(.callP (K8 p t4)
(.bk 5 b5 (((aF p t4).2):Bool) [0,1,2,3,4,101]))) λ(t5:Bool) =>
(.br 22 t5 (.say (λR=>Idt (t0.2.2.2.map Cpy.v) (Rf (α:=List AV) [.agg [.int t2,.sl 0 [] true,.int (((aF p t4).1).mode),.int (((aF p t4).1).sub),.int (((aF p t4).1).set),.int (((aF p t4).1).len),.int (((aF p t4).1).ttl),.int (((aF p t4).1).ent),.int (((aF p t4).1).ing),.int (((aF p t4).1).proto),.val (.int .u64 (((aF p t4).1).bits)),.str (((aF p t4).1).pay)]]
(ck (decide ((t0.2.2.2.map Cpy.v).length+1≤1048576))
R))) (.app 134 (λy:AV=>y) (t0.2.2.2.map Cpy.v) [.agg [.int t2,.sl 0 [] true,.int (((aF p t4).1).mode),.int (((aF p t4).1).sub),.int (((aF p t4).1).set),.int (((aF p t4).1).len),.int (((aF p t4).1).ttl),.int (((aF p t4).1).ent),.int (((aF p t4).1).ing),.int (((aF p t4).1).proto),.val (.int .u64 (((aF p t4).1).bits)),.str (((aF p t4).1).pay)]]
(.say (λR=>IQ (.a [.k,(.s 1),.k,.k,.k,.k,.k,.k,.k,.k,.k,.k]) Cpy.v t0.2.2.2 [(⟨t2,[],((aF p t4).1).mode,((aF p t4).1).sub,((aF p t4).1).set,((aF p t4).1).len,((aF p t4).1).ttl,((aF p t4).1).ent,((aF p t4).1).ing,((aF p t4).1).proto,((aF p t4).1).bits,((aF p t4).1).pay⟩:Cpy)] [.agg [.int t2,.sl 0 [] true,.int (((aF p t4).1).mode),.int (((aF p t4).1).sub),.int (((aF p t4).1).set),.int (((aF p t4).1).len),.int (((aF p t4).1).ttl),.int (((aF p t4).1).ent),.int (((aF p t4).1).ing),.int (((aF p t4).1).proto),.val (.int .u64 (((aF p t4).1).bits)),.str (((aF p t4).1).pay)]] ∧
R) (.cmd (.wkV 134 (.a [.k,(.s 1),.k,.k,.k,.k,.k,.k,.k,.k,.k,.k]) Cpy.v (t0.2.2.2++[(⟨t2,[],((aF p t4).1).mode,((aF p t4).1).sub,((aF p t4).1).set,((aF p t4).1).len,((aF p t4).1).ttl,((aF p t4).1).ent,((aF p t4).1).ing,((aF p t4).1).proto,((aF p t4).1).bits,((aF p t4).1).pay⟩:Cpy)])) (.bk 0 b0 (dA .u64 t0.1 t4,t0.2.1,t0.2.2.1,t0.2.2.2++[(⟨t2,[],((aF p t4).1).mode,((aF p t4).1).sub,((aF p t4).1).set,((aF p t4).1).len,((aF p t4).1).ttl,((aF p t4).1).ent,((aF p t4).1).ing,((aF p t4).1).proto,((aF p t4).1).bits,((aF p t4).1).pay⟩:Cpy)]) [0,1,2,3,134])))))
(.bk 0 b0 (dA .u64 t0.1 t4,bOr .u64 t0.2.1 t4,t0.2.2.1,t0.2.2.2) [0,1,2,3,4]))))))))))
(.fz 4 Cpy.v t0.2.2.2 (λ_=>rfl) (.ret ((⟨t0.2.2.1,t0.2.1,t0.2.2.2⟩:Out)))))))
theorem jk{p:Pkt}(ok:okL (Pkt.v p).cells):0≤p.bits∧p.bits<18446744073709551616:=by
 obtain⟨_,_,_,_,_,_,_,_,h,_⟩:=ok;exact Se h
theorem QG(b:Tbl)(p:Pkt)(hF:okF b p)(ok:QI b p):∃I0 m0,(FE b p I0 m0).vp FG (uf b p):=by
 have hb:0≤p.bits∧p.bits<18446744073709551616:=jk ok.2.1;refine⟨FwI b p,λs=>(bN s.1).length,?_⟩;dsimp only[FE,FF,Ax.vp,Ax.vc];simp only[vcU,rfU,B'];refine⟨FwI.zero hb,?_⟩;rintro s hI;obtain⟨left,lost,loc,cp⟩:=s;simp only at hI ⊢
 refine⟨λc=>⟨trivial,?_⟩,λc=>?_⟩
 ·have c:left≠0:=by simpa using c
  have hs:=hI.step hF c;have hn:cp.length≤64:=by obtain⟨_,_,_,_,_,_,h,_⟩:=hI.ex;simp only at h;omega
  rintro _ rfl;refine⟨⟨qX.1,trivial⟩,?_⟩;rintro _ rfl;refine⟨trivial,?_⟩;rintro _ rfl
  refine⟨λc1=>?_,λc1=>⟨λc2=>?_,λc2=>⟨⟨?_,trivial⟩,?_⟩⟩⟩
  ·rw[NY (eq_of_beq c1)]at hs;exact hs
  ·rw[NX (by simpa[fwH]using c1) (eq_of_beq c2)]at hs;exact hs
  ·exact⟨hF.1,qX.1,(rM hF.1 (by simpa using c1)).1⟩
  ·rintro _ rfl;refine⟨trivial,?_⟩;rintro _ rfl
   refine⟨λc3=>⟨by omega,oZ (λ_=>rfl) rfl,?_⟩,λc3=>?_⟩
   ·rw[NW (by simpa[fwH]using c1) (by simpa[fwH]using c2) c3]at hs;exact hs
   ·rw[NV (by simpa[fwH]using c1) (by simpa[fwH]using c2) (by rw[show(aF p (fwM b p left)).2=false from c3];simp)]at hs;exact hs
 ·have c:left=0:=by simpa using c
  obtain⟨_,n,_,_,_,_,_,h⟩:=hI.ex;rw[←h,FH c]
def QH(b:Tbl)(p:Pkt)(hF:okF b p):PC Tryz.prog:=pcO 66 [(.a [.k,.k,.k,(.s 2)]),.k] [Tbl.v b,Pkt.v p] (.a [.k,.k,(.s 12)]) FG (uf b p) (λok=>let ⟨I0,m0,h⟩:=QG b p hF ok;⟨_,h,by kernel_rfl⟩) rfl (by kernel_rfl)
theorem FI{len:Int}(h:bz len=true):∃n:Nat,ia len=n∧n<18446744073709551616:=by
 unfold ia;rw[G' h];have hv:=dJ.mp h;have e:(64-len)=((64-len).toNat:Nat):=by omega
 rw[e,show(18446744073709551615:Int)=((18446744073709551615:Nat):Int)from rfl,nU (by omega)];exact⟨_,rfl,bU' (Nat.div_le_self _ _) (by omega)⟩
theorem Jb{y x:Nat}{len:Int}(hy:y<18446744073709551616)(hx:x<18446744073709551616)(hs:∀i,x.testBit i=true→y.testBit i=true)(h:nQ y len=true):nQ x len=true:=by
 unfold nQ at h ⊢;rw[R',aL']at h ⊢;refine⟨h.1,?_⟩;obtain⟨n,h1,h2⟩:=FI h.1;have h3:=h.2;rw[h1]at h3 ⊢;obtain⟨z,z1,z2,z3⟩:=pC hy h2;rw[z1]at h3;have z0:z=0:=by omega
 refine qy hx h2 λi hi=>?_;have:=z3 i;rw[z0,hs i hi]at this;simpa using this
theorem Ki{p:Pkt}{y x:Nat}{ttl:Int}(hp:dQ p=true)(hb:p.bits=y)(hy:y<18446744073709551616)(hx:x<18446744073709551616)(hs:∀i,x.testBit i=true→y.testBit i=true)(ht:0≤ttl∧ttl≤63):dQ ⟨p.mode,p.sub,p.set,p.len,ttl,p.ent,p.ing,p.proto,x,p.pay⟩=true:=by
 unfold dQ at hp ⊢;simp only[R']at hp ⊢;obtain⟨h1,h2,h3,h4,h5,h6,h7⟩:=hp;rw[hb]at h5;refine⟨h1,h2,h3,h4,Jb hy hx hs h5,?_,h7⟩;unfold inK;rw[R',S',S'];exact ht
theorem yZ{p:Pkt}(hp:dQ p=true):0≤p.ttl∧p.ttl≤63∧0≤p.set∧p.set≤31:=by
 unfold dQ at hp;simp only[R']at hp;obtain⟨h1,h2,h3,h4,h5,h6,h7⟩:=hp;unfold inK at h6 h4;rw[R',S',S']at h6 h4;omega
def djB(a b:Nat):Prop:=∀k,¬(a.testBit k=true∧b.testBit k=true)
theorem djB.symm{a b:Nat}(h:djB a b):djB b a:=λk q=>h k ⟨q.2,q.1⟩
structure Cov (l:List Nat) (x:Nat):Prop where
  dis:l.Pairwise djB
  all:∀k,x.testBit k=l.any λa=>a.testBit k
theorem Cov.perm{l l':List Nat}{x:Nat}(h:Cov l x)(p:l.Perm l'):Cov l' x:=by
 refine⟨(p.pairwise_iff λ{a b} q=>q.symm).mp h.dis,λk=>?_⟩;rw[h.all k,ae',ac',ac'];exact⟨λ⟨a,ha,q⟩=>⟨a,p.mem_iff.mp ha,q⟩,λ⟨a,ha,q⟩=>⟨a,p.mem_iff.mpr ha,q⟩⟩
theorem Cov.sub{l:List Nat}{x a:Nat}(h:Cov l x)(ha:a∈l){k:Nat}(hk:a.testBit k=true):x.testBit k=true:=by
 rw[h.all k,ac'];exact⟨a,ha,hk⟩
theorem Cov.repl{b:Nat}{r m:List Nat}{x:Nat}(h:Cov (b::r) x)(hm:Cov m b):Cov (m++r) x:=by
 have hd:=an'.mp h.dis;refine⟨bm'.mpr ⟨hm.dis,hd.2,λa ha c hc k q=>hd.1 c hc k ⟨hm.sub ha q.1,q.2⟩⟩,λk=>?_⟩;rw[h.all k,bA',List.any_append,hm.all k]
theorem Cov.one(x:Nat):Cov [x] x:=⟨co' _ _,λk=>by simp⟩
theorem Cov.zero{l:List Nat}{x:Nat}(h:Cov l x):Cov (0::l) x:=⟨an'.mpr ⟨λa _ k q=>by simp at q,h.dis⟩,λk=>by rw[bA',Nat.zero_testBit,Bool.false_or,h.all k]⟩
theorem Cov.unzero{l:List Nat}{x:Nat}(h:Cov (0::l) x):Cov l x:=⟨(an'.mp h.dis).2,λk=>by rw[h.all k,bA',Nat.zero_testBit,Bool.false_or]⟩
def crd(x:Nat):Nat:=((List.range 64).filter x.testBit).length
theorem xC(x:Nat):crd x≤64:=by
 unfold crd;have:=bq' x.testBit (List.range 64);rwa [bY']at this
theorem Ai{x:Nat}(h0:x≠0)(hx:x<18446744073709551616):1≤crd x:=by
 have:=p8 h0 hx;rw[eN,B']at this;exact this
theorem rX{α:Type}{p q r:α→Bool}(h:∀x,r x=(p x || q x))(hd:∀x,¬(p x=true∧q x=true)):∀l:List α,(l.filter r).length=(l.filter p).length+(l.filter q).length
 | []=>rfl
 | x::l=>by
  have ih:=rX h hd l;have h1:=h x;have h2:=hd x;rw[aO',aO',aO'];cases a:p x<;>cases b:q x<;>rw[a,b]at h1 h2<;>simp[h1]at *<;>omega
theorem Cov.sum:∀{l:List Nat} {x:Nat},Cov l x→(l.map crd).sum=crd x
 | [],x,h=>by
  have:(List.range 64).filter x.testBit=[]:=cf'.mpr λk _=>by rw[h.all k];simp
  show 0=crd x;unfold crd;rw[this];rfl
 | a::l,x,h=>by
  have hd:=an'.mp h.dis;rw[am',cI'];have e:∀L:List Nat,L.Pairwise djB→(L.map crd).sum=((List.range 64).filter λk=>L.any λa=>a.testBit k).length:=λL=>by
   induction L with
   | nil =>
    intro _;have:(List.range 64).filter (λk=>([]:List Nat).any λa=>a.testBit k)=[]:=cf'.mpr λk _=>by simp
    rw[this];rfl
   | cons b L ihL =>
    intro hL;have hL:=an'.mp hL;rw[am',cI',ihL hL.2];refine(rX (λk=>by rw[bA']) (λk q=>?_) _).symm;obtain⟨c,hc,q2⟩:=ac'.mp q.2;exact hL.1 c hc k ⟨q.1,q2⟩
  rw[e l hd.2];unfold crd;refine(rX (λk=>by rw[h.all k,bA']) (λk q=>?_) _).symm;obtain⟨c,hc,q2⟩:=ac'.mp q.2;exact hd.1 c hc k ⟨q.1,q2⟩
theorem tb_lt{x k:Nat}(hx:x<18446744073709551616)(h:x.testBit k=true):k<64:=by
 refine P' λq=>?_;have:x<2 ^ k:=aU' hx (by rw[show 18446744073709551616=2 ^ 64 by decide];exact cF' (by decide) (by omega));rw[Nat.testBit_lt_two_pow this]at h;cases h
def hkB(b:Tbl)(p:Pkt)(k:Nat):Int:=hU b (atT p.set k p.len).1 (eP p)
def pkC(c:Cpy):Pkt:=⟨c.mode,c.sub,c.set,c.len,c.ttl,c.ent,c.ing,c.proto,c.bits,c.pay⟩
structure CpOk (p:Pkt) (c:Cpy):Prop where
  ro:c.route=[]
  eq:c.mode=p.mode∧c.sub=p.sub∧c.set=p.set∧c.len=p.len∧c.ent=p.ent∧c.ing=p.ing∧c.proto=p.proto∧c.pay=p.pay
  ttl:c.ttl=p.ttl-1
  pos:0<p.ttl
  rng:0<c.bits∧c.bits<18446744073709551616
  ok:dQ (pkC c)=true
structure FwJ (b:Tbl) (p:Pkt) (s:FwS):Prop where
  cov:Cov (s.1.toNat::s.2.1.toNat::s.2.2.1.toNat::s.2.2.2.map λc=>c.bits.toNat) p.bits.toNat
  r1:0≤s.1∧s.1<18446744073709551616
  r2:0≤s.2.1∧s.2.1<18446744073709551616
  r3:0≤s.2.2.1∧s.2.2.1<18446744073709551616
  los:∀k,s.2.1.toNat.testBit k=true→hkB b p k=0∨p.ttl=0
  loc:∀k,s.2.2.1.toNat.testBit k=true→hkB b p k=b.router∧hkB b p k≠0
  cps:∀c∈s.2.2.2,CpOk p c∧c.to≠b.router∧1≤c.to∧∀k,c.bits.toNat.testBit k=true→hkB b p k=c.to
theorem uT{a b:Nat}(ha:a<18446744073709551616)(hb:b<18446744073709551616):∃z:Nat,bOr .u64 (a:Int) (b:Int)=z∧z<18446744073709551616∧∀k,z.testBit k=(a.testBit k || b.testBit k):=
 ⟨a ||| b,nK ha hb,by rw[show 18446744073709551616=2 ^ 64 by decide]at *;exact Nat.or_lt_two_pow ha hb,λk=>Nat.testBit_or ..⟩
theorem FwJ.step{b:Tbl}{p:Pkt}(hF:okF b p)(hbp:0≤p.bits∧p.bits<18446744073709551616){s:FwS}(h:FwJ b p s)(h0:s.1≠0):FwJ b p (fwS b p s):=by
 obtain⟨left,lost,loc,cp⟩:=s;obtain⟨hcov,r1,r2,r3,hlos,hloc,hcps⟩:=h;simp only at hcov r1 r2 r3 hlos hloc hcps h0;obtain⟨x,rfl,hx⟩:=nb r1;obtain⟨y,rfl,hy⟩:=nb r2;obtain⟨z,rfl,hz⟩:=nb r3;simp only[Int.toNat_natCast]at hcov hlos hloc;obtain⟨k,k1,k2,k3⟩:=zN (show x≠0 by omega) hx
 -- taking o out of x
 have take:∀o:Nat,o<18446744073709551616→(∀i,o.testBit i=true→x.testBit i=true)→∃w:Nat,dA .u64 (x:Int) (o:Int)=w∧w<18446744073709551616∧Cov [w,o] x:=λo o1 o2=>by
  obtain⟨w,w1,w2,w3⟩:=pC hx o1
  refine⟨w,w1,w2,⟨an'.mpr ⟨λa ha i q=>?_,co' _ _⟩,λi=>?_⟩⟩
  ·rw[L'.mp ha]at q;rw[w3]at q;simp[q.2]at q
  ·simp only[bA',List.any_nil,Bool.or_false];rw[w3];cases q:o.testBit i with
   | false=>simp
   | true=>rw[o2 i q];rfl
 have join:∀{u o v:Nat},(∀i,v.testBit i=(u.testBit i || o.testBit i))→∀{w:Nat} {r:List Nat},Cov (w::o::u::r) p.bits.toNat→Cov (w::v::r) p.bits.toNat:=λ{u o v} hv {w r} hc=>by
  have d:=an'.mp hc.dis;have d2:=an'.mp d.2;have d3:=an'.mp d2.2
  refine⟨an'.mpr ⟨λa ha i q=>?_,an'.mpr ⟨λa ha i q=>?_,d3.2⟩⟩,λi=>?_⟩
  ·rcases ad'.mp ha with rfl|ha
   ·rw[hv]at q
    rcases(aK' _ _).mp q.2 with g|g
    ·exact d.1 u (by simp) i ⟨q.1,g⟩
    ·exact d.1 o (by simp) i ⟨q.1,g⟩
   ·exact d.1 a (by simp[ha]) i q
  ·rw[hv]at q
   rcases(aK' _ _).mp q.1 with g|g
   ·exact d3.1 a ha i ⟨g,q.2⟩
   ·exact d2.1 a (by simp[ha]) i ⟨g,q.2⟩
  ·rw[hc.all i];simp only[bA'];rw[hv];cases w.testBit i<;>cases o.testBit i<;>cases u.testBit i<;>rfl
 have hbit:∀i,(2 ^ k).testBit i=true→i=k:=λi q=>by rw[bf']at q;exact(H' q).symm
 have hk0:fwH b p x=hkB b p k:=by unfold fwH hkB;rw[k1]
 by_cases c1:fwH b p x=0
 ·rw[NY c1,k1,fA k2];obtain⟨w,w1,w2,w3⟩:=take (2 ^ k) (ji k2) λi q=>by rw[hbit i q];exact k3
  obtain⟨v,v1,v2,v3⟩:=uT hy (ji k2);rw[w1,v1];have hc:=hcov.repl w3
  refine⟨?_,by simp only;omega,by simp only;omega,by simp only;omega,λi q=>?_,hloc,hcps⟩
  ·simp only[Int.toNat_natCast];exact join v3 hc
  ·simp only[Int.toNat_natCast]at q;rw[v3]at q
   rcases(aK' _ _).mp q with g|g
   ·exact hlos i g
   ·rw[hbit i g,←hk0];exact .inl c1
 by_cases c2:fwH b p x=b.router
 ·rw[NX c1 c2,k1,fA k2];obtain⟨w,w1,w2,w3⟩:=take (2 ^ k) (ji k2) λi q=>by rw[hbit i q];exact k3
  obtain⟨v,v1,v2,v3⟩:=uT hz (ji k2);rw[w1,v1];have hc:=hcov.repl w3
  refine⟨?_,by simp only;omega,by simp only;omega,by simp only;omega,hlos,λi q=>?_,hcps⟩
  ·simp only[Int.toNat_natCast];have hc2:Cov (w::2 ^ k::z::y::cp.map λc=>c.bits.toNat) p.bits.toNat:=hc.perm (by simp only[bJ',bu'];exact(List.Perm.swap _ _ _).cons _ |>.cons _);exact(join v3 hc2).perm ((List.Perm.swap _ _ _).cons _)
  ·simp only[Int.toNat_natCast]at q;rw[v3]at q
   rcases(aK' _ _).mp q with g|g
   ·exact hloc i g
   ·rw[hbit i g,←hk0];exact⟨c2,c1⟩
 obtain⟨o,o1,o2,o3⟩:=tD hF k1 c1;have hm:fwM b p x=((x &&& o:Nat):Int):=by rw[fwM,o1,gq hx o2]
 have hxo:x &&& o<18446744073709551616:=bU' Nat.and_le_left hx;have hsub:∀i,(x &&& o).testBit i=true→x.testBit i=true:=λi q=>by rw[cj']at q;exact((R' _ _).mp q).1
 have hhk:∀i,(x &&& o).testBit i=true→hkB b p i=fwH b p x:=λi q=>by
  rw[cj']at q;have q2:=((R' _ _).mp q).2;have e:o=orQ (o4 b (eP p) p.set (fwH b p x)) 64:=by
   unfold tA at o1;exact_mod_cast o1.symm
  rw[e,li]at q2;have q3:=((R' _ _).mp q2).2;unfold o4 at q3;have q4:=H' ((R' _ _).mp q3).2;unfold hkB;rw[←hF.2.2];exact q4
 have hkm:(x &&& o).testBit k=true:=by rw[cj',k3,o3 k2];rfl
 have hne:x &&& o≠0:=λe=>by rw[e]at hkm;simp at hkm
 obtain⟨w,w1,w2,w3⟩:=take (x &&& o) hxo hsub;have hc:=hcov.repl w3;have hps:∀i,(x &&& o).testBit i=true→p.bits.toNat.testBit i=true:=λi q=>hcov.sub (by simp) (hsub i q);obtain⟨pb,hpb,hpl⟩:=nb hbp;have hand:fc .u64 p.bits ((x &&& o:Nat):Int)=((x &&& o:Nat):Int):=by
  rw[hpb,gq hpl hxo]
  congr 1
  refine lp λi=>?_;rw[cj'];cases q:(x &&& o).testBit i with
  | false=>simp
  | true=>have:=hps i q;rw[hpb,Int.toNat_natCast]at this;rw[this];rfl
 by_cases c3:(aF p (fwM b p x)).2=true
 ·rw[NW c1 c2 c3,hm,w1];rw[hm]at c3;have hms:aF p ((x &&& o:Nat):Int)=(KB p ((x &&& o:Nat):Int),true):=by
   unfold aF at c3 ⊢
   split
   ·rename_i q;rw[G' q]at c3;cases c3
   ·rfl
  have httl:¬p.ttl=0:=λe=>by
   unfold aF at c3;rw[e]at c3;simp at c3
  have ht:=yZ hF.2.1;rw[hms];have hcp:(jZ (fwH b p x) (KB p ((x &&& o:Nat):Int))).bits=((x &&& o:Nat):Int):=hand
  refine⟨?_,by simp only;omega,by simp only;omega,by simp only;omega,hlos,hloc,λc hcm=>?_⟩
  ·simp only[Int.toNat_natCast,ay',am',bI'];rw[hcp,Int.toNat_natCast];refine hc.perm ?_;simp only[bJ',bu'];refine List.Perm.cons _ ?_;have:(y::z::(cp.map (λc=>c.bits.toNat)++[x &&& o]))=(y::z::cp.map (λc=>c.bits.toNat))++[x &&& o]:=rfl;rw[this];exact(List.perm_append_singleton _ _).symm
  ·rcases X'.mp hcm with g|g
   ·exact hcps c g
   ·rw[L'.mp g];have hw:W (p.ttl-1)=p.ttl-1:=ce (by omega)
    refine⟨⟨rfl,⟨rfl,rfl,rfl,rfl,rfl,rfl,rfl,rfl⟩,hw,by omega,by rw[hcp];omega,?_⟩,c2,(rM hF.1 c1).1,λi q=>?_⟩
    ·have:=Ki (ttl:=p.ttl-1) hF.2.1 hpb hpl hxo (λi q=>by have:=hps i q;rw[hpb,Int.toNat_natCast]at this;exact this) (by omega);unfold pkC jZ KB;simp only;rw[hw,hand];exact this
    ·rw[hcp,Int.toNat_natCast]at q;exact hhk i q
 ·rw[NV c1 c2 c3,hm,w1];obtain⟨v,v1,v2,v3⟩:=uT hy hxo;rw[v1]
  refine⟨?_,by simp only;omega,by simp only;omega,by simp only;omega,λi q=>?_,hloc,hcps⟩
  ·simp only[Int.toNat_natCast];exact join v3 hc
  ·simp only[Int.toNat_natCast]at q;rw[v3]at q
   rcases(aK' _ _).mp q with g|g
   ·exact hlos i g
   ·refine .inr ?_;refine P' λe=>c3 ?_;rw[hm];unfold aF;rw[hF.2.1,hand,F'];simp[e];omega
structure NE (b:Tbl) (p:Pkt) (o:Out):Prop where
  cov:Cov (o.lost.toNat::o.local_.toNat::o.copies.map λc=>c.bits.toNat) p.bits.toNat
  r2:0≤o.lost∧o.lost<18446744073709551616
  r3:0≤o.local_∧o.local_<18446744073709551616
  los:∀k,o.lost.toNat.testBit k=true→hkB b p k=0∨p.ttl=0
  loc:∀k,o.local_.toNat.testBit k=true→hkB b p k=b.router∧hkB b p k≠0
  cps:∀c∈o.copies,CpOk p c∧c.to≠b.router∧1≤c.to∧∀k,c.bits.toNat.testBit k=true→hkB b p k=c.to
theorem do_ok{b:Tbl}{p:Pkt}(hF:okF b p)(hbp:0≤p.bits∧p.bits<18446744073709551616):NE b p (uf b p):=by
 have key:∀(n:Nat) (s:FwS),FwJ b p s→FwI b p s→(bN s.1).length≤n→NE b p (fwL b p n s):=λn=>by
  have fin:∀s:FwS,FwJ b p s→s.1=0→NE b p ⟨s.2.2.1,s.2.1,s.2.2.2⟩:=λs hJ h0=>by
   refine⟨?_,hJ.r2,hJ.r3,hJ.los,hJ.loc,hJ.cps⟩;have:=hJ.cov;rw[h0]at this;exact this.unzero
  induction n with
  | zero =>
   intro s hJ hI hn;refine fin s hJ (P' λq=>?_);obtain⟨x,hx,hl⟩:=nb hJ.r1;rw[hx]at hn q;have:=p8 (show x≠0 by omega) hl;omega
  | succ n ih =>
   intro s hJ hI hn;rw[fwL]
   split
   ·rename_i h0;exact fin s hJ h0
   ·rename_i h0;have h1:=hI.step hF h0;exact ih _ (hJ.step hF hbp h0) h1.1 (by omega)
 refine key 64 _ ⟨?_,hbp,by simp,by simp,λk q=>by simp at q,λk q=>by simp at q,λc hc=>by simp at hc⟩ (FwI.zero hbp) (j9 _);exact(Cov.one _).zero.zero.perm (((List.Perm.swap p.bits.toNat 0 []).cons 0).trans (List.Perm.swap p.bits.toNat 0 [0]))
def qA(nx:Int→Int)(b:Int):Nat→Int→List Int→Option (List Int)
 | 0,_,_=>none
 | f+1,a,way=>if a=0 then none else if a=b then some way else qA nx b f (nx a) (way++[a])
def itN(nx:Int→Int)(b:Int):Nat→Int
 | 0=>b
 | k+1=>nx (itN nx b k)
theorem n8(nx:Int→Int)(b:Int)(i:Nat):∀j,itN nx b (i+j)=itN nx (itN nx b i) j
 | 0=>rfl
 | j+1=>by rw[←bb',itN,itN,n8 nx b i j]
def pR(nx:Int→Int)(b:Int)(m:Nat):Prop:=1≤m∧itN nx b m=b∧∀j,1≤j→j<m→itN nx b j≠b∧itN nx b j≠0
def lU(nx:Int→Int)(b:Int)(m:Nat):List Int:=(List.range m).map (itN nx b)
theorem AH(nx:Int→Int)(b:Int)(m:Nat):lU nx b (m+1)=lU nx b m++[itN nx b m]:=by simp[lU,bL']
theorem pU{nx:Int→Int}{b:Int}(hb:b≠0):∀{f k:Nat} {w:List Int},1≤k→(∀j,1≤j→j<k→itN nx b j≠b∧itN nx b j≠0) →
  (qA nx b f (itN nx b k) (lU nx b k)=some w↔∃m,k≤m∧m<k+f∧pR nx b m∧w=lU nx b m)
 | 0,k,w,h1,hk=>by
  rw[qA];exact⟨nofun,λ⟨m,h1,h2,_⟩=>by omega⟩
 | f+1,k,w,h1,hk=>by
  rw[qA]
  by_cases e0:itN nx b k=0
  ·rw[G' e0];refine⟨nofun,λ⟨m,h2,h3,⟨h4,h5,h6⟩,_⟩=>?_⟩
   by_cases e:m=k
   ·subst e;rw[h5]at e0;exact absurd e0 hb
   ·exact absurd e0 (h6 k h1 (by omega)).2
  rw[F' e0]
  by_cases e1:itN nx b k=b
  ·rw[G' e1]
   constructor
   ·intro e;cases e;exact⟨k,V' _,by omega,⟨h1,e1,hk⟩,rfl⟩
   ·rintro⟨m,h2,h3,⟨h4,h5,h6⟩,rfl⟩
    by_cases e:m=k
    ·rw[e]
    ·exact absurd e1 (h6 k h1 (by omega)).1
  rw[F' e1];have hk2:∀j,1≤j→j<k+1→itN nx b j≠b∧itN nx b j≠0:=λj a c=>by
   by_cases e:j=k
   ·subst e;exact⟨e1,e0⟩
   ·exact hk j a (by omega)
  have:=pU hb (f:=f) (k:=k+1) (w:=w) (by omega) hk2;rw[AH]at this;rw[show nx (itN nx b k)=itN nx b (k+1)from rfl,this]
  constructor
  ·rintro⟨m,h2,h3,h4⟩;exact⟨m,by omega,by omega,h4⟩
  ·rintro⟨m,h2,h3,h4,h5⟩;refine⟨m,?_,by omega,h4,h5⟩;have:m≠k:=λe=>by subst e;exact e1 h4.2.1
   omega
theorem pR.ne{nx:Int→Int}{b:Int}(hb:b≠0){m:Nat}(h:pR nx b m){x:Int}(hx:x∈lU nx b m):nx x≠0:=by
 unfold lU at hx;obtain⟨i,hi,rfl⟩:=Y'.mp hx;have hi:=al'.mp hi;show itN nx b (i+1)≠0
 by_cases e:i+1=m
 ·rw[e,h.2.1];exact hb
 ·exact(h.2.2 (i+1) (by omega) (by omega)).2
theorem sc{p:Nat→Prop}(h:∃n,p n):∃n,p n∧∀m,m<n→¬p m:=by
 obtain⟨n,hn⟩:=h
 induction n using Nat.strongRecOn with
 | ind n ih =>
  by_cases e:∃m,m<n∧p m
  ·obtain⟨m,h1,h2⟩:=e;exact ih m h1 h2
  ·exact⟨n,hn,λm h1 h2=>e ⟨m,h1,h2⟩⟩
theorem pR.of{nx:Int→Int}(h0:nx 0=0){b:Int}(hb:b≠0){m:Nat}(h1:1≤m)(h:itN nx b m=b):∃k,k≤m∧pR nx b k:=by
 obtain⟨k,⟨k1,k2⟩,k3⟩:=sc (p:=λk=>1≤k∧itN nx b k=b) ⟨m,h1,h⟩;have hkm:k≤m:=by
  by_cases e:m<k
  ·exact absurd ⟨h1,h⟩ (k3 m e)
  ·omega
 refine⟨k,hkm,k1,k2,λj j1 j2=>⟨λe=>k3 j j2 ⟨j1,e⟩,λe=>?_⟩⟩;have z:∀i,itN nx 0 i=0:=λi=>by
  induction i with
  | zero=>rfl
  | succ i ih=>rw[itN,ih,h0]
 have:itN nx b (j+(k-j))=0:=by rw[n8,e,z]
 rw[show j+(k-j)=k by omega,k2]at this;exact hb this
theorem pR.turn{nx:Int→Int}{b:Int}{m:Nat}(h:pR nx b m){x:Int}(hx:x∈lU nx b m):itN nx x m=x:=by
 unfold lU at hx;obtain⟨i,hi,rfl⟩:=Y'.mp hx;rw[←n8,Nat.add_comm,n8,h.2.1]
def nxT(l:List Tbl)(id pl r:Int):Int:=match l.find? λb=>b.router==r with
 | some b=>if hU b id pl=r then 0 else hU b id pl
 | none=>0
def zr(l:List Tbl)(id pl:Int)(n:Nat):List Tbl→List Int
 | []=>[]
 | b::q=>match qA (nxT l id pl) b.router n (nxT l id pl b.router) [b.router]with
  | some w=>w
  | none=>zr l id pl n q
def zq(l:List Tbl)(id pl:Int):List Int:=zr l id pl l.length l
theorem yh{nx:Int→Int}{b:Int}(hb:b≠0){f:Nat}{w:List Int}:qA nx b f (nx b) [b]=some w↔∃m,m<1+f∧pR nx b m∧w=lU nx b m:=by
 have:=pU (nx:=nx) hb (f:=f) (k:=1) (w:=w) (V' _) (λj a c=>by omega);have e:lU nx b 1=[b]:=rfl;rw[e]at this;rw[show nx b=itN nx b 1 from rfl,this];exact⟨λ⟨m,_,h2,h3,h4⟩=>⟨m,h2,h3,h4⟩,λ⟨m,h2,h3,h4⟩=>⟨m,h3.1,h2,h3,h4⟩⟩
def Sn(l:List Tbl):Prop:=uV l∧∀b∈l,1≤b.router
theorem Hs{l:List Tbl}(h:j4 l=0):Sn l:=⟨(jQ h).2.2,λb hb=>(jz ((jQ h).2.1 b hb)).1⟩
theorem zh{l:List Tbl}{id pl r:Int}(h:nxT l id pl r≠0):∃b∈l,b.router=r∧(l.find? λb=>b.router==r)=some b∧hU b id pl=nxT l id pl r∧nxT l id pl r≠r:=by
 unfold nxT at h ⊢;cases e:l.find? λb=>b.router==r with
 | none=>rw[e]at h;exact absurd rfl h
 | some b =>
  rw[e]at h;simp only at h ⊢
  by_cases c:hU b id pl=r
  ·rw[G' c]at h;exact absurd rfl h
  ·rw[F' c];exact⟨b,bl' e,by simpa using cv' e,rfl,rfl,c⟩
theorem DU{l:List Tbl}(ha:Sn l)(id pl:Int):nxT l id pl 0=0:=by
 refine P' λh=>?_;obtain⟨b,hb,e,_⟩:=zh h;have:=ha.2 b hb;omega
theorem oA{l:List Tbl}{id pl:Int}{n:Nat}:∀{q:List Tbl} {w:List Int},zr l id pl n q=w→w≠[] →
  ∃p b s,q=p++b::s∧qA (nxT l id pl) b.router n (nxT l id pl b.router) [b.router]=some w∧∀c∈p,qA (nxT l id pl) c.router n (nxT l id pl c.router) [c.router]=none
 | [],w,h,hw=>absurd (by rw[←h];rfl) hw
 | b::q,w,h,hw=>by
  rw[zr]at h;cases e:qA (nxT l id pl) b.router n (nxT l id pl b.router) [b.router]with
  | some w'=>rw[e]at h;exact⟨[],b,q,rfl,by rw[←h];exact e,by simp⟩
  | none =>
   rw[e]at h;obtain⟨p,c,s,h1,h2,h3⟩:=oA h hw;exact⟨b::p,c,s,by rw[h1];rfl,h2,λx hx=>by
    rcases ad'.mp hx with rfl|hx
    ·exact e
    ·exact h3 x hx⟩
theorem E6{l:List Tbl}(ha:Sn l){id pl:Int}{w:List Int}(h:zq l id pl=w)(hw:w≠[]):∃b m,b≠0∧pR (nxT l id pl) b m∧w=lU (nxT l id pl) b m∧∀x∈w,b≤x:=by
 obtain⟨p,b,s,h1,h2,h3⟩:=oA h hw;have hb0:∀c∈l,c.router≠0:=λc hc=>by have:=ha.2 c hc;omega
 have hbl:b∈l:=by rw[h1];simp
 obtain⟨m,hm,hB,rfl⟩:=(yh (hb0 b hbl)).mp h2;refine⟨b.router,m,hb0 b hbl,hB,rfl,λx hx=>P' λhlt=>?_⟩;obtain⟨c,hc,rfl,_⟩:=zh (hB.ne (hb0 b hbl) hx);have hcp:c∈p:=by
  rw[h1]at hc
  rcases X'.mp hc with hc|hc
  ·exact hc
  ·have hp:l.Pairwise λa b=>a.router<b.router:=ha.1;rw[h1,bm']at hp
   rcases ad'.mp hc with rfl|hc
   ·exact absurd (bg' _) hlt
   ·have:=(an'.mp hp.2.1).1 c hc;omega
 obtain⟨k,hk,hB2⟩:=pR.of (DU ha id pl) (hb0 c hc) hB.1 (hB.turn hx);have:=(yh (nx:=nxT l id pl) (b:=c.router) (f:=l.length) (w:=lU (nxT l id pl) c.router k) (hb0 c hc)).mpr ⟨k,by omega,hB2,rfl⟩;rw[h3 c hcp]at this;cases this
def okT(b:Tbl):Prop:=b.rows.length≤1000∧∀r∈b.rows,r.nx.length≤100000
def mf(l:List Tbl):Prop:=l.length≤1000∧∀b∈l,okT b
def bu(l:List Tbl)(r:Int):Tbl×Bool:=match l.find? λb=>b.router==r with
 | some b=>(b,true)
 | none=>(⟨0,0,0,[]⟩,false)
def Ga(l:List Tbl)(router:Int):=okL [.sl 4 (l.map Tbl.v) false,.int router]
def L7(l:List Tbl)(router:Int)(t0:Int):NF:=⟨[(0,.k,.sl 4 (l.map Tbl.v) false),rI 1 router,rR 4 0,rI 6 t0],[.box (.agg [.int 0,.int 0,.int 0,.sl 0 [] true])]⟩
@[reducible] def FX:Nat→Type
 | 0=>Int
 | _=>Unit
def FY(r:Tbl×Bool):AV:=.tup [Tbl.v r.1,.bool r.2]
def FW(l:List Tbl)(router:Int)(I0:Int→Prop)(m0:Int→Nat):Ax Tryz.prog FX (Tbl×Bool):=
 (.loop 0 (L7 l router) I0 m0 ((0):Int) [0] λ(t0:Int) b0 =>
(.br 65 (decide (t0<((l.map Tbl.v).length:Int))) (.elI 97 Tbl.v l t0 λx1 =>
(.br 177 (x1.router==router) (.elI 209 Tbl.v l t0 λx2 =>
(.ret (x2,true)))
(.bk 0 b0 ((W (t0+1)):Int) [0])))
(.ret ((⟨0,0,0,[]⟩:Tbl),false))))
theorem QQ(l:List Tbl)(r:Int)(ok:Ga l r):∃I m,(FW l r I m).vp FY (bu l r):=by
 refine⟨λi=>ba l (λb=>(b.router==r)=false) i,λi=>l.length-i.toNat,?_⟩;simp only[Ga,Tbl.v,okU,Blk.ok,aJ,B']at ok;dsimp only[FW,FX,Ax.vp,Ax.vc];simp only[vcU,rfU,B']
 refine⟨ba.zero,λi h=>⟨λc=>⟨h.idx,c,λx hx=>⟨λq=>⟨h.idx,c,λy hy=>?_⟩,λq=>h.step (by omega) hx q⟩⟩,λc=>?_⟩⟩
 ·have e:=lB (p:=λb:Tbl=>b.router==r) h hx q;unfold bu;rw[hx]at hy;cases hy;rw[e]
 ·have e:=nF (p:=λb:Tbl=>b.router==r) h c;unfold bu;rw[e]
def FZ(l:List Tbl)(router:Int):PC Tryz.prog:=pcO 65 [(.s 4),.k] [.sl 4 (l.map Tbl.v) false,.int router] (.a [(.a [.k,.k,.k,(.s 2)]),.k]) FY (bu l router) (λok=>let ⟨I0,m0,h⟩:=QQ l router ok;⟨_,h,by kernel_rfl⟩) rfl (by kernel_rfl)
end Go.Proofs.YtdoacjojljgdcaaGreat
