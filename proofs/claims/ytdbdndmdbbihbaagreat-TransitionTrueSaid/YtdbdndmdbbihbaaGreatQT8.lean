/- Texts joined: W1 TL TA0 TA1 TA2 TA3 TE FA TU. -/
import Derived.Test.YtdbdndmdbbihbaaGreatQT7
set_option linter.unusedVariables false
set_option linter.unusedSimpArgs false
set_option linter.unusedSectionVars false
namespace Go.Proofs.YtdbdndmdbbihbaaGreat
open Go Go.Am
def okT(b:Tbl):Prop:=b.rows.length≤1000∧∀r∈b.rows,r.nx.length≤100000
def Pi(b:Tbl):=okL [.agg [.int b.router,.int b.sub,.int b.len,.sl 2 (b.rows.map Rw.v) false]]
def Kr(b:Tbl)(t0:Int×List Rw):NF:=⟨[(1,.k,.ref 0 0),(2,.k,.ref 1 0),(3,.k,.vec 2),(4,.k,.int t0.1)],[.box (.agg [.int b.router,.int b.sub,.int b.len,.sl 2 (b.rows.map Rw.v) false]),.box (.agg [.int 0,.int 0,.int 0,.sl 0 [] true]),.vec 2 (t0.2.map Rw.v) (ab (λ_=>rfl) t0.2)]⟩
@[reducible] def FX:Nat→Type
 | 0=>Int×List Rw
 | _=>Unit
def qS(r:Tbl):AV:=.agg [.int r.router,.int r.sub,.int r.len,.vec 0]
def qT(r:Tbl):List (Option Blk):=[some (.vec 2 (r.rows.map Rw.v))]
def xH(b:Tbl)(I0:(Int×List Rw)→Prop)(m0:(Int×List Rw)→Nat):Ax Tryz.prog FX (Tbl):=
 (.cmdL (.nilT 3 2) (.loop 0 (Kr b) I0 m0 (0,[]) [0,16,64] λ(t0:Int×List Rw) b0 =>
(.br 83 (decide (t0.1<((b.rows.map Rw.v).length:Int))) (.el 147 Rw.v b.rows (λR=>Rf (b.rows.map Rw.v) (ck (decide (0≤t0.1)) (ck (decide (t0.1<(b.rows.length:Int)))
(∀x1,b.rows[t0.1.toNat]?=some x1 →
(R x1))))) λx1 =>
(.el 259 Rw.v b.rows (λR=>Rf (b.rows.map Rw.v) (ck (decide (0≤t0.1)) (ck (decide (t0.1<(b.rows.length:Int)))
(∀x2,b.rows[t0.1.toNat]?=some x2 →
(R x2))))) λx2 =>
(.say (λR=>Rf (α:=List AV) [] (Rf (α:=List AV) (x2.nx.map AV.int)
(ck (decide (0+x2.nx.length≤1048576))
R))) (.app 307 AV.int [] x2.nx
(.own 339 (.say (λR=>Idt (t0.2.map Rw.v) (Rf (α:=List AV) [.agg [.int x1.id,.vec 307]]
(ck (decide ((t0.2.map Rw.v).length+1≤1048576))
R))) (.app 355 (λy:AV=>y) (t0.2.map Rw.v) [.agg [.int x1.id,.vec 307]]
(.say (λR=>Rf (α:=List AV) (x2.nx.map AV.int) (CO Rw.v t0.2 (⟨x1.id,x2.nx⟩:Rw) (t0.2.map Rw.v) (.agg [.int x1.id,.vec 307])∧Rf (Rw.v (⟨x1.id,x2.nx⟩:Rw))
R)) (.cmd (.frzV 307 355 t0.2.length Rw.v (t0.2++[(⟨x1.id,x2.nx⟩:Rw)]) (.agg [.int x1.id,.vec 307]) (⟨x1.id,x2.nx⟩:Rw) (x2.nx.map AV.int) (ab (λ_=>rfl) x2.nx)) (.bk 0 b0 (W (t0.1+1),zn t0.2 (⟨x1.id,x2.nx⟩:Rw)) [0,1,355]))))))))))
(.retH (⟨b.router,b.sub,b.len,t0.2⟩:Tbl) ⟨[(2,.k,.ref 1 0)],[.vec 2 (t0.2.map Rw.v) (ab (λ_=>rfl) t0.2),.box (.agg [.int b.router,.int b.sub,.int b.len,.vec 0])]⟩ [2,1]))))
def Bg(b:Tbl)(I0:(Int×List Rw)→Prop)(m0:(Int×List Rw)→Nat)(r0:Tbl):=(xH b I0 m0).vc qS qT r0
theorem Pg(b:Tbl)(h:okT b)(ok:Pi b):∃I m,Bg b I m b:=by
 refine⟨λs=>∃k:Nat,s.1=k∧k≤b.rows.length∧s.2=b.rows.take k,λs=>b.rows.length-s.1.toNat,?_⟩
 dsimp only[Bg,xH,FX,Ax.vp,Ax.vc];simp only[vcU,rfU,List.length_map]
 refine⟨⟨0,rfl,by omega,by simp⟩,?_⟩
 rintro⟨i,out⟩ ⟨k,hi,hk,ho⟩
 simp only at hi ho ⊢
 subst hi;subst ho
 have h1:=h.1
 refine⟨λc=>⟨by omega,c,λx hx=>⟨by omega,c,λy hy=>?_⟩⟩,λc=>?_⟩
 ·rw[hx]at hy;cases hy
  rw[Int.toNat_natCast]at hx
  have:=h.2 x (bc hx)
  rw[bx (n:=b.rows.length) (by omega) (by omega)]
  exact⟨by omega,by rw[List.length_take];omega,trivial,⟨k+1,rfl,by omega,(aV hx).symm⟩,by omega⟩
 ·rw[List.take_of_length_le (by omega)]
def Ph(b:Tbl)(h:okT b):HC Tryz.prog:=⟨80,[(.a [.k,.k,.k,(.s 2)])],[.agg [.int b.router,.int b.sub,.int b.len,.sl 2 (b.rows.map Rw.v) false]],[],qS b,qT b,aH.of_okh λok _=>(Pg b h ok).elim λI0 h=>h.elim λm0 h=>dh (sh:=.k) (enc:=qS) (hB:=qT) (a:=(xH b I0 m0).an) h (by kernel_rfl),ap (by kernel_rfl),fw.of (by simp[hcB,cV,AV.belB,allB,eN,dR,qS,qT,ab (v:=Rw.v) (λ_=>rfl)])⟩
def iV(L:List Int)(n r:Int)(x:Rw)(p:Nat):Rw×Nat:=
 if eC L p 3=false then(x,ae L p)
 else if Mod (ao L (ae L p)) 4=0 then(⟨x.id,[]⟩,ae L (ae L p))
 else if Mod (ao L (ae L p)) 4=1 then(⟨x.id,[r]⟩,ae L (ae L p))
 else(⟨x.id,(if W (1+Mod (ao L (ae L (ae L p))) (W (n+1)))<W (1+Mod (ao L (ae L (ae L (ae L p)))) n)∧W (1+Mod (ao L (ae L (ae L p))) (W (n+1)))≠r∧W (1+Mod (ao L (ae L (ae L (ae L p)))) n)≠r
   then [W (1+Mod (ao L (ae L (ae L p))) (W (n+1))),W (1+Mod (ao L (ae L (ae L (ae L p)))) n)]
   else if W (1+Mod (ao L (ae L (ae L p))) (W (n+1)))≠r then [W (1+Mod (ao L (ae L (ae L p))) (W (n+1)))]else x.nx)⟩,ae L (ae L (ae L (ae L p))))
def o7(L:List Int)(n r:Int):List Rw→Nat→List Rw×Nat
 | [],p=>([],p)
 | x::l,p=>((iV L n r x p).1::(o7 L n r l (iV L n r x p).2).1,(o7 L n r l (iV L n r x p).2).2)
def Hq(L:List Int)(n:Int)(b:Tbl)(p:Nat):Tbl×Nat:=(⟨b.router,b.sub,b.len,(o7 L n b.router b.rows p).1⟩,(o7 L n b.router b.rows p).2)
def ia(L:List Int)(n:Int):List Tbl→Nat→List Tbl×Nat
 | [],p=>([],p)
 | b::l,p=>((Hq L n b p).1::(ia L n l (Hq L n b p).2).1,(ia L n l (Hq L n b p).2).2)
def CR(L:List Int)(p:Nat)(l:List Tbl)(routers:Int):=okL [.ref 0 0,.sl 4 (l.map Tbl.v) false,.int routers]∧(.box (.agg [.sl 1 (L.map AV.int) false,.int p]):Blk).ok
def Hu(L:List Int)(l:List Tbl)(routers:Int)(t0:Int×Nat×List Tbl):NF:=⟨[(0,.k,.ref 0 0),(1,.k,.sl 4 (l.map Tbl.v) false),(2,.k,.int routers),(7,.k,.vec 1),(8,.k,.int t0.1)],[.box (.agg [.sl 1 (L.map AV.int) false,.int t0.2.1]),.vec 4 (t0.2.2.map Tbl.v) (ab (λ_=>rfl) t0.2.2)]⟩
def Ht(L:List Int)(l:List Tbl)(routers:Int)(t0:Int×Nat×List Tbl)(x1:Tbl)(t1:Int×Nat×List Rw):NF:=⟨[(0,.k,.ref 0 0),(1,.k,.sl 4 (l.map Tbl.v) false),(2,.k,.int routers),(7,.k,.vec 1),(8,.k,.int t0.1),(9,.k,.ref 2 0),(10,.k,.int t1.1)],[.box (.agg [.sl 1 (L.map AV.int) false,.int t1.2.1]),.vec 4 (t0.2.2.map Tbl.v) (ab (λ_=>rfl) t0.2.2),.box (.agg [.int x1.router,.int x1.sub,.int x1.len,.vec 3]),.vec 2 (t1.2.2.map Rw.v) (ab (λ_=>rfl) t1.2.2)]⟩
def Hs(L:List Int)(l:List Tbl)(routers:Int)(t0:Int×Nat×List Tbl)(x1:Tbl)(t1:Int×Nat×List Rw)(t2:List Rw):NF:=⟨[(0,.k,.ref 0 0),(1,.k,.sl 4 (l.map Tbl.v) false),(2,.k,.int routers),(7,.k,.vec 1),(8,.k,.int t0.1),(9,.k,.ref 2 0),(10,.k,.int t1.1),(11,.k,.int (W (1+(Mod (ao L (ae L (ae L t1.2.1))) (W (routers+1))))))],[.box (.agg [.sl 1 (L.map AV.int) false,.int (((ae L (ae L (ae L t1.2.1))):Nat):Int)]),.vec 4 (t0.2.2.map Tbl.v) (ab (λ_=>rfl) t0.2.2),.box (.agg [.int x1.router,.int x1.sub,.int x1.len,.vec 3]),.vec 2 (t2.map Rw.v) (ab (λ_=>rfl) t2)]⟩
def Hr(L:List Int)(l:List Tbl)(routers:Int)(t0:Int×Nat×List Tbl)(x1:Tbl)(t1:Int×Nat×List Rw)(t2:List Rw)(t3:Bool):NF:=⟨[(0,.k,.ref 0 0),(1,.k,.sl 4 (l.map Tbl.v) false),(2,.k,.int routers),(7,.k,.vec 1),(8,.k,.int t0.1),(9,.k,.ref 2 0),(10,.k,.int t1.1),(11,.k,.int (W (1+(Mod (ao L (ae L (ae L t1.2.1))) (W (routers+1)))))),(12,.k,.int (W (1+(Mod (ao L (ae L (ae L (ae L t1.2.1)))) routers)))),(70,.k,.bool t3)],[.box (.agg [.sl 1 (L.map AV.int) false,.int (((ae L (ae L (ae L (ae L t1.2.1)))):Nat):Int)]),.vec 4 (t0.2.2.map Tbl.v) (ab (λ_=>rfl) t0.2.2),.box (.agg [.int x1.router,.int x1.sub,.int x1.len,.vec 3]),.vec 2 (t2.map Rw.v) (ab (λ_=>rfl) t2)]⟩
@[reducible] def CQ:Nat→Type
 | 0=>Int×Nat×List Tbl
 | 1=>Int×Nat×List Rw
 | 2=>(List Rw)
 | 3=>Bool
 | _=>Unit
def o5(r:Tap×List Tbl):AV:=.sl 4 (r.2.map Tbl.v) false
def o6(r:Tap×List Tbl):List (Option Blk):=[some (.box (.agg [.sl 1 (r.1.L.map AV.int) false,.int r.1.p]))]
def uF(L:List Int)(p:Nat)(l:List Tbl)(routers:Int)(I0:(Int×Nat×List Tbl)→Prop)(m0:(Int×Nat×List Tbl)→Nat)(I1:Int×Nat×List Tbl→Tbl→(Int×Nat×List Rw)→Prop)(m1:Int×Nat×List Tbl→Tbl→(Int×Nat×List Rw)→Nat)(I2:Int×Nat×List Tbl→Tbl→Int×Nat×List Rw→(List Rw)→Prop)(I3:Int×Nat×List Tbl→Tbl→Int×Nat×List Rw→(List Rw)→Bool→Prop):Ax Tryz.prog CQ (Tap×List Tbl):=
 (.cmdL (.nilT 7 4) (.loop 0 (Hu L l routers) I0 m0 (0,p,[]) [0,49] λ(t0:Int×Nat×List Tbl) b0 =>
(.br 66 (decide (t0.1<((l.map Tbl.v).length:Int))) (.el 98 Tbl.v l (λR=>Rf (l.map Tbl.v) (ck (decide (0≤t0.1)) (ck (decide (t0.1<(l.length:Int)))
(∀x1,l[t0.1.toNat]?=some x1 →
(R x1))))) λx1 =>
(.req 130 (okT x1) λh2 =>
(.callH [] (Ph x1 h2) 130
(.loop 1 (Ht L l routers t0 x1) (I1 t0 x1) (m1 t0 x1) (0,t0.2.1,x1.rows) [0,1,146,130] λ(t1:Int×Nat×List Rw) b1 =>
(.br 84 (decide (t1.1<((t1.2.2.map Rw.v).length:Int))) (.callH [0] (jp L t1.2.1 3) 100
(.br 132 (!(eC L t1.2.1 3)) (.bk 1 b1 (W (t1.1+1),ae L t1.2.1,t1.2.2) [0,1,2,3])
(.callH [0] (c7 L (ae L t1.2.1) 4) 148
(.br 196 ((Mod (ao L (ae L t1.2.1)) 4)==0) (.say (ck (cond (decide (0≤t1.1)) (decide (t1.1<((t1.2.2.map Rw.v).length:Int))) false)) (.stI 276 Rw.v t1.2.2 (λR=>Rf (t1.2.2.map Rw.v) (ck (decide (t1.1.toNat<t1.2.2.length))
(∀y3,t1.2.2[t1.1.toNat]?=some y3 →
((R y3))))) λy3 =>
(.say (λR=>Rf (α:=List AV) ((t1.2.2.map Rw.v).set t1.1.toNat (.agg [.int y3.id,.sl 0 [] true])) (Rf (Rw.v (⟨y3.id,[]⟩:Rw))
R)) (.cmd (.wkS 3 t1.1.toNat (.a [.k,(.s 1)]) Rw.v t1.2.2 (.agg [.int y3.id,.sl 0 [] true]) (⟨y3.id,[]⟩:Rw)) (.bk 1 b1 (W (t1.1+1),ae L (ae L t1.2.1),t1.2.2.set t1.1.toNat (⟨y3.id,[]⟩:Rw)) [0,1,2,3])))))
(.br 228 ((Mod (ao L (ae L t1.2.1)) 4)==1) (.say (ck (cond (decide (0≤t1.1)) (decide (t1.1<((t1.2.2.map Rw.v).length:Int))) false)) (.stI 356 Rw.v t1.2.2 (λR=>Rf (t1.2.2.map Rw.v) (ck (decide (t1.1.toNat<t1.2.2.length))
(∀y4,t1.2.2[t1.1.toNat]?=some y4 →
((R y4))))) λy4 =>
(.say (λR=>Rf (α:=List AV) ((t1.2.2.map Rw.v).set t1.1.toNat (.agg [.int y4.id,.sl 1 [.int x1.router] true])) (Rf (Rw.v (⟨y4.id,[x1.router]⟩:Rw))
R)) (.cmd (.wkS 3 t1.1.toNat (.a [.k,(.s 1)]) Rw.v t1.2.2 (.agg [.int y4.id,.sl 1 [.int x1.router] true]) (⟨y4.id,[x1.router]⟩:Rw)) (.bk 1 b1 (W (t1.1+1),ae L (ae L t1.2.1),t1.2.2.set t1.1.toNat (⟨y4.id,[x1.router]⟩:Rw)) [0,1,2,3])))))
(.callH [0] (c7 L (ae L (ae L t1.2.1)) (W (routers+1))) 276
(.join 2 (Hs L l routers t0 x1 t1) (λ(t2:List Rw)=>I2 t0 x1 t1 t2) (λb2=>(.br 388 ((W (1+(Mod (ao L (ae L (ae L t1.2.1))) (W (routers+1))))) != x1.router) (.say (ck (cond (decide (0≤t1.1)) (decide (t1.1<((t1.2.2.map Rw.v).length:Int))) false)) (.stI 500 Rw.v t1.2.2 (λR=>Rf (t1.2.2.map Rw.v) (ck (decide (t1.1.toNat<t1.2.2.length))
(∀y5,t1.2.2[t1.1.toNat]?=some y5 →
((R y5))))) λy5 =>
(.say (λR=>Rf (α:=List AV) ((t1.2.2.map Rw.v).set t1.1.toNat (.agg [.int y5.id,.sl 1 [.int (W (1+(Mod (ao L (ae L (ae L t1.2.1))) (W (routers+1)))))] true])) (Rf (Rw.v (⟨y5.id,[W (1+(Mod (ao L (ae L (ae L t1.2.1))) (W (routers+1))))]⟩:Rw))
R)) (.cmd (.wkS 3 t1.1.toNat (.a [.k,(.s 1)]) Rw.v t1.2.2 (.agg [.int y5.id,.sl 1 [.int (W (1+(Mod (ao L (ae L (ae L t1.2.1))) (W (routers+1)))))] true]) (⟨y5.id,[W (1+(Mod (ao L (ae L (ae L t1.2.1))) (W (routers+1))))]⟩:Rw)) (.bk 2 b2 ((t1.2.2.set t1.1.toNat (⟨y5.id,[W (1+(Mod (ao L (ae L (ae L t1.2.1))) (W (routers+1))))]⟩:Rw)):(List Rw)) [0,1,2,3])))))
(.bk 2 b2 ((t1.2.2):(List Rw)) [0,1,2,3]))) λ(t2:List Rw) =>
(.callH [0] (c7 L (ae L (ae L (ae L t1.2.1))) routers) 36
(.join 3 (Hr L l routers t0 x1 t1 t2) (λ(t3:Bool)=>I3 t0 x1 t1 t2 t3) (λb3=>(.br 148 (decide ((W (1+(Mod (ao L (ae L (ae L t1.2.1))) (W (routers+1)))))<(W (1+(Mod (ao L (ae L (ae L (ae L t1.2.1)))) routers))))) (.br 244 ((W (1+(Mod (ao L (ae L (ae L t1.2.1))) (W (routers+1))))) != x1.router) (.bk 3 b3 (((W (1+(Mod (ao L (ae L (ae L (ae L t1.2.1)))) routers))) != x1.router):Bool) [0,1,2,3])
(.bk 3 b3 ((false):Bool) [0,1,2,3]))
(.bk 3 b3 ((false):Bool) [0,1,2,3]))) λ(t3:Bool) =>
(.br 4 t3 (.say (ck (cond (decide (0≤t1.1)) (decide (t1.1<((t2.map Rw.v).length:Int))) false)) (.stI 132 Rw.v t2 (λR=>Rf (t2.map Rw.v) (ck (decide (t1.1.toNat<t2.length))
(∀y6,t2[t1.1.toNat]?=some y6 →
((R y6))))) λy6 =>
(.say (λR=>Rf (α:=List AV) ((t2.map Rw.v).set t1.1.toNat (.agg [.int y6.id,.sl 1 [.int (W (1+(Mod (ao L (ae L (ae L t1.2.1))) (W (routers+1))))),.int (W (1+(Mod (ao L (ae L (ae L (ae L t1.2.1)))) routers)))] true])) (Rf (Rw.v (⟨y6.id,[W (1+(Mod (ao L (ae L (ae L t1.2.1))) (W (routers+1)))),W (1+(Mod (ao L (ae L (ae L (ae L t1.2.1)))) routers))]⟩:Rw))
R)) (.cmd (.wkS 3 t1.1.toNat (.a [.k,(.s 1)]) Rw.v t2 (.agg [.int y6.id,.sl 1 [.int (W (1+(Mod (ao L (ae L (ae L t1.2.1))) (W (routers+1))))),.int (W (1+(Mod (ao L (ae L (ae L (ae L t1.2.1)))) routers)))] true]) (⟨y6.id,[W (1+(Mod (ao L (ae L (ae L t1.2.1))) (W (routers+1)))),W (1+(Mod (ao L (ae L (ae L (ae L t1.2.1)))) routers))]⟩:Rw)) (.bk 1 b1 (W (t1.1+1),ae L (ae L (ae L (ae L t1.2.1))),t2.set t1.1.toNat (⟨y6.id,[W (1+(Mod (ao L (ae L (ae L t1.2.1))) (W (routers+1)))),W (1+(Mod (ao L (ae L (ae L (ae L t1.2.1)))) routers))]⟩:Rw)) [0,1,2,3])))))
(.bk 1 b1 (W (t1.1+1),ae L (ae L (ae L (ae L t1.2.1))),t2) [0,1,2,3])))))))))))
(.own 116 (.say (λR=>Idt (t0.2.2.map Tbl.v) (Rf (α:=List AV) [.agg [.int x1.router,.int x1.sub,.int x1.len,.vec 3]]
(ck (decide ((t0.2.2.map Tbl.v).length+1≤1048576))
R))) (.app 132 (λy:AV=>y) (t0.2.2.map Tbl.v) [.agg [.int x1.router,.int x1.sub,.int x1.len,.vec 3]]
(.say (λR=>Rf (α:=List AV) (t1.2.2.map Rw.v) (CO Tbl.v t0.2.2 (⟨x1.router,x1.sub,x1.len,t1.2.2⟩:Tbl) (t0.2.2.map Tbl.v) (.agg [.int x1.router,.int x1.sub,.int x1.len,.vec 3])∧Rf (Tbl.v (⟨x1.router,x1.sub,x1.len,t1.2.2⟩:Tbl))
R)) (.cmd (.frzV 3 132 t0.2.2.length Tbl.v (t0.2.2++[(⟨x1.router,x1.sub,x1.len,t1.2.2⟩:Tbl)]) (.agg [.int x1.router,.int x1.sub,.int x1.len,.vec 3]) (⟨x1.router,x1.sub,x1.len,t1.2.2⟩:Tbl) (t1.2.2.map Rw.v) (ab (λ_=>rfl) t1.2.2)) (.bk 0 b0 (W (t0.1+1),t1.2.1,zn t0.2.2 (⟨x1.router,x1.sub,x1.len,t1.2.2⟩:Tbl)) [0,132])))))))))))
(.say (Rf (t0.2.2.map Tbl.v)) (.cmdL (.frzE 1 (t0.2.2.map Tbl.v) (ab (λ_=>rfl) t0.2.2)) (.retH ((⟨L,t0.2.1⟩:Tap),t0.2.2) ⟨[(6,.k,.sl 4 (t0.2.2.map Tbl.v) false)],[.box (.agg [.sl 1 (L.map AV.int) false,.int t0.2.1])]⟩ [0]))))))
def yP(L:List Int)(p:Nat)(l:List Tbl)(routers:Int)(I0:(Int×Nat×List Tbl)→Prop)(m0:(Int×Nat×List Tbl)→Nat)(I1:Int×Nat×List Tbl→Tbl→(Int×Nat×List Rw)→Prop)(m1:Int×Nat×List Tbl→Tbl→(Int×Nat×List Rw)→Nat)(I2:Int×Nat×List Tbl→Tbl→Int×Nat×List Rw→(List Rw)→Prop)(I3:Int×Nat×List Tbl→Tbl→Int×Nat×List Rw→(List Rw)→Bool→Prop)(r0:Tap×List Tbl):=(uF L p l routers I0 m0 I1 m1 I2 I3).vc o5 o6 r0
def Jq(l:List Tbl):Prop:=l.length≤1000∧∀b∈l,okT b
structure rF (L:List Int) (n r:Int) (rows:List Rw) (p:Nat) (j:Nat) (q:Nat) (rs:List Rw):Prop where
  le:j≤rows.length
  ex:∃D:List Rw,D.length=j∧rs=D++rows.drop j∧(D++(o7 L n r (rows.drop j) q).1,(o7 L n r (rows.drop j) q).2)=o7 L n r rows p
theorem rF.len{L:List Int}{n r:Int}{rows:List Rw}{p j q:Nat}{rs:List Rw}(h:rF L n r rows p j q rs):rs.length=rows.length:=by
 obtain⟨D,h1,rfl,_⟩:=h.ex
 have:=h.le
 rw[List.length_append,List.length_drop];omega
theorem rF.at{L:List Int}{n r:Int}{rows:List Rw}{p j q:Nat}{rs:List Rw}(h:rF L n r rows p j q rs)(hj:j<rows.length):rs[j]?=some (rows[j]'hj):=by
 obtain⟨D,h1,rfl,_⟩:=h.ex
 rw[List.getElem?_append_right (by omega),h1,Nat.sub_self,List.getElem?_drop,Nat.add_zero,List.getElem?_eq_getElem hj]
theorem rF.step{L:List Int}{n r:Int}{rows:List Rw}{p j q:Nat}{rs:List Rw}(h:rF L n r rows p j q rs){x:Rw}(hx:rs[j]?=some x)(hj:j<rows.length){rs':List Rw}{q':Nat}(e1:rs'=rs.set j (iV L n r x q).1)(e2:q'=(iV L n r x q).2):rF L n r rows p (j+1) q' rs':=by
 have hx2:=h.at hj
 rw[hx]at hx2
 have hx2:=Option.some.inj hx2
 obtain⟨D,h1,rfl,h3⟩:=h.ex
 have hd:rows.drop j=x::rows.drop (j+1):=by rw[List.drop_eq_getElem_cons hj,hx2]
 rw[hd]at h3 e1
 refine⟨hj,D++[(iV L n r x q).1],by simp[h1],?_,?_⟩
 ·rw[e1,List.set_append_right _ _ (by omega),h1,Nat.sub_self,List.set_cons_zero];simp
 ·rw[←h3,o7,e2];simp
theorem rZ{α:Type}{l:List α}{j:Nat}{x:α}(h:l[j]?=some x):l.set j x=l:=by
 obtain⟨h1,h2⟩:=List.getElem?_eq_some_iff.mp h
 rw[←h2];exact List.set_getElem_self h1
theorem Mn(L:List Int)(p:Nat)(l:List Tbl)(n:Int)(h:Jq l)(ok:CR L p l n):∃I0 m0 I1 m1 I2 I3,yP L p l n I0 m0 I1 m1 I2 I3 ((⟨L,(ia L n l p).2⟩:Tap),(ia L n l p).1):=by
 refine⟨λs=>∃k:Nat,s.1=k∧k≤l.length∧s.2.2.length=k∧(s.2.2++(ia L n (l.drop k) s.2.1).1,(ia L n (l.drop k) s.2.1).2)=ia L n l p,λs=>l.length-s.1.toNat,
  λs b u=>∃j:Nat,u.1=j∧rF L n b.router b.rows s.2.1 j u.2.1 u.2.2,λs b u=>b.rows.length-u.1.toNat,
  λs b u v=>∀x,u.2.2[u.1.toNat]?=some x→v=if W (1+Mod (ao L (ae L (ae L u.2.1))) (W (n+1)))≠b.router then u.2.2.set u.1.toNat ⟨x.id,[W (1+Mod (ao L (ae L (ae L u.2.1))) (W (n+1)))]⟩else u.2.2,
  λs b u v t=>t=decide (W (1+Mod (ao L (ae L (ae L u.2.1))) (W (n+1)))<W (1+Mod (ao L (ae L (ae L (ae L u.2.1)))) n)∧W (1+Mod (ao L (ae L (ae L u.2.1))) (W (n+1)))≠b.router∧W (1+Mod (ao L (ae L (ae L (ae L u.2.1)))) n)≠b.router),?_⟩
 dsimp only[yP,uF,CQ,Ax.vp,Ax.vc];simp only[vcU,rfU,List.length_map]
 obtain⟨hl,hb⟩:=h
 refine⟨⟨0,rfl,by omega,rfl,rfl⟩,?_⟩
 rintro⟨i,q,out⟩ ⟨k,hi,hk,ho,hw⟩
 simp only at hi ho hw ⊢
 subst hi
 refine⟨λc=>⟨by omega,c,λb hx=>⟨hb b (bS hx),⟨0,rfl,by omega,[],rfl,rfl,rfl⟩,?_⟩⟩,λc=>?_⟩
 ·rw[Int.toNat_natCast]at hx
  have hbr:=(hb b (bc hx)).1
  rintro⟨j0,q1,rs⟩ ⟨j,hj,hI⟩
  simp only at hj hI ⊢
  subst hj
  have hlen:=hI.len
  have hjl:=hI.le
  simp only[Int.toNat_natCast,hlen]
  refine⟨λc1=>?_,λc1=>?_⟩
  ·have hj:j<b.rows.length:=by omega
   have hat:=hI.at hj
   have hw1:W ((j:Int)+1)=((j+1:Nat):Int):=bx (n:=b.rows.length) hj (by omega)
   rw[hw1]
   have fin:∀{rs':List Rw} {q':Nat},rs'=rs.set j (iV L n b.router (b.rows[j]'hj) q1).1→q'=(iV L n b.router (b.rows[j]'hj) q1).2→(∃j':Nat,((j+1:Nat):Int)=j'∧rF L n b.router b.rows q j' q' rs')∧b.rows.length-((j+1:Nat):Int).toNat<b.rows.length-j:=λe1 e2 =>
    ⟨⟨j+1,rfl,hI.step hat hj e1 e2⟩,by omega⟩
   generalize b.rows[j]'hj=x at hat fin
   refine⟨λe=>?_,λe=>?_⟩
   ·have e:eC L q1 3=false:=by simpa using e
    have ex:iV L n b.router x q1=(x,ae L q1):=by rw[iV,if_pos e]
    exact fin (by rw[ex,rZ hat]) (by rw[ex])
   have e:¬eC L q1 3=false:=by simpa using e
   refine⟨λe0=>⟨dg (by omega) c1,hj,λy hy=>?_⟩,λe0=>⟨λe1=>⟨dg (by omega) c1,hj,λy hy=>?_⟩,λe1=>⟨⟨λe2=>⟨dg (by omega) c1,hj,λy hy x2 hx2=>?_⟩,λe2 x2 hx2=>?_⟩,?_⟩⟩⟩
   ·rw[hat]at hy;cases hy
    have ex:iV L n b.router x q1=(⟨x.id,[]⟩,ae L (ae L q1)):=by rw[iV,if_neg e,if_pos (eq_of_beq e0)]
    exact fin (by rw[ex]) (by rw[ex])
   ·rw[hat]at hy;cases hy
    have ex:iV L n b.router x q1=(⟨x.id,[b.router]⟩,ae L (ae L q1)):=by rw[iV,if_neg e,if_neg (by simpa using e0),if_pos (eq_of_beq e1)]
    exact fin (by rw[ex]) (by rw[ex])
   ·rw[hat]at hy hx2;cases hy;cases hx2
    rw[if_pos (by simpa using e2)]
   ·rw[if_neg (by simpa using e2)]
   rintro(v:List Rw) hv
   have hv:=hv x hat
   generalize hA:W (1+Mod (ao L (ae L (ae L q1))) (W (n+1)))=A at hv ⊢
   generalize hM:W (1+Mod (ao L (ae L (ae L (ae L q1)))) n)=M
   have ex:iV L n b.router x q1=(⟨x.id,if A<M∧A≠b.router∧M≠b.router then [A,M]else if A≠b.router then [A]else x.nx⟩,ae L (ae L (ae L (ae L q1)))):=by
    rw[iV,if_neg e,if_neg (by simpa using e0),if_neg (by simpa using e1),hA,hM]
   refine⟨⟨λf1=>⟨λf2=>?_,λf2=>?_⟩,λf1=>?_⟩,?_⟩
   ·have f2:A≠b.router:=by simpa using f2
    rw[Bool.eq_iff_iff,decide_eq_true_iff,bne_iff_ne];simp[f1,f2]
   ·have f2:A=b.router:=by simpa using f2
    simp[f2]
   ·simp[f1]
   rintro _ rfl
   refine⟨λg=>?_,λg=>?_⟩
   ·have g:=of_decide_eq_true g
    rw[if_pos g.2.1]at hv
    subst hv
    rw[List.length_set]
    refine⟨dg (by omega) (by omega),by omega,λy hy=>?_⟩
    rw[List.getElem?_set_self (by omega)]at hy;cases hy
    rw[List.set_set]
    exact fin (by rw[ex,if_pos g]) (by rw[ex])
   ·have g:=of_decide_eq_false g
    by_cases f:A≠b.router
    ·rw[if_pos f]at hv
     exact fin (by rw[hv,ex,if_neg g,if_pos f]) (by rw[ex])
    ·rw[if_neg f]at hv
     exact fin (by rw[hv,ex,if_neg g,if_neg f,rZ hat]) (by rw[ex])
  ·have hj:j=b.rows.length:=by omega
   obtain⟨D,d1,d2,d3⟩:=hI.ex
   rw[hj,List.drop_length,o7,List.append_nil]at d3
   rw[hj,List.drop_length,List.append_nil]at d2
   subst d2
   have hd:l.drop k=b::l.drop (k+1):=by
    obtain⟨h1,h2⟩:=List.getElem?_eq_some_iff.mp hx
    rw[List.drop_eq_getElem_cons h1,h2]
   rw[hd,ia,Hq,←d3]at hw
   have hkl:k<l.length:=by omega
   have hw1:W ((k:Int)+1)=((k+1:Nat):Int):=bx (n:=l.length) hkl (by omega)
   rw[hw1]
   exact⟨by omega,trivial,⟨k+1,rfl,hkl,by simp[ho],by rw[←hw];simp⟩,by omega⟩
 ·have:k=l.length:=by omega
  rw[this,List.drop_length,ia,List.append_nil]at hw
  rw[←hw]
def Mo(L:List Int)(p:Nat)(l:List Tbl)(routers:Int)(h:Jq l):HC Tryz.prog:=⟨32,[.k,(.s 4),.k],[.ref 0 0,.sl 4 (l.map Tbl.v) false,.int routers],[.box (.agg [.sl 1 (L.map AV.int) false,.int p])],o5 ((⟨L,(ia L routers l p).2⟩:Tap),(ia L routers l p).1),o6 ((⟨L,(ia L routers l p).2⟩:Tap),(ia L routers l p).1),aH.of_okh λok ok2=>have ok:CR L p l routers:=⟨ok,ok2 _ (by simp)⟩;(Mn L p l routers h ok).elim λI0 h=>h.elim λm0 h=>h.elim λI1 h=>h.elim λm1 h=>h.elim λI2 h=>h.elim λI3 h=>dh (sh:=(.s 4)) (enc:=o5) (hB:=o6) (a:=(uF L p l routers I0 m0 I1 m1 I2 I3).an) h (by kernel_rfl),ap (by kernel_rfl),fw.of (by simp[hcB,cV,AV.belB,allB,eN,dR,o5,o6,ab (v:=AV.int) (λ_=>rfl),ab (v:=Tbl.v) (λ_=>rfl)])⟩
def gc(l:List Tbl)(r:Int):Tbl×Bool:=match l.find? λb=>b.router==r with
 | some b=>(b,true)
 | none=>(⟨0,0,0,[]⟩,false)
def Fy(l:List Tbl)(router:Int):=okL [.sl 4 (l.map Tbl.v) false,.int router]
def JQ(l:List Tbl)(router:Int)(t0:Int):NF:=⟨[(0,.k,.sl 4 (l.map Tbl.v) false),(1,.k,.int router),(4,.k,.ref 0 0),(6,.k,.int t0)],[.box (.agg [.int 0,.int 0,.int 0,.sl 0 [] true])]⟩
@[reducible] def Fw:Nat→Type
 | 0=>Int
 | _=>Unit
def xh(r:Tbl×Bool):AV:=.tup [Tbl.v r.1,.bool r.2]
def xg(l:List Tbl)(router:Int)(I0:Int→Prop)(m0:Int→Nat):Ax Tryz.prog Fw (Tbl×Bool):=
 (.loop 0 (JQ l router) I0 m0 ((0):Int) [0] λ(t0:Int) b0 =>
(.br 65 (decide (t0<((l.map Tbl.v).length:Int))) (.el 97 Tbl.v l (λR=>Rf (l.map Tbl.v) (ck (decide (0≤t0)) (ck (decide (t0<(l.length:Int)))
(∀x1,l[t0.toNat]?=some x1 →
(R x1))))) λx1 =>
(.br 177 (x1.router==router) (.el 209 Tbl.v l (λR=>Rf (l.map Tbl.v) (ck (decide (0≤t0)) (ck (decide (t0<(l.length:Int)))
(∀x2,l[t0.toNat]?=some x2 →
(R x2))))) λx2 =>
(.ret (x2,true)))
(.bk 0 b0 ((W (t0+1)):Int) [0])))
(.ret ((⟨0,0,0,[]⟩:Tbl),false))))
def AK(l:List Tbl)(router:Int)(I0:Int→Prop)(m0:Int→Nat)(r0:Tbl×Bool):=(xg l router I0 m0).vp xh r0
theorem O8(l:List Tbl)(r:Int)(ok:Fy l r):∃I m,AK l r I m (gc l r):=by
 refine⟨λi=>aL l (λb=>(b.router==r)=false) i,λi=>l.length-i.toNat,?_⟩
 simp only[Fy,okU,Blk.ok,aK,List.length_map]at ok
 dsimp only[AK,xg,Fw,Ax.vp,Ax.vc];simp only[vcU,rfU,List.length_map]
 refine⟨aL.zero,λi h=>⟨λc=>⟨h.idx,c,λx hx=>⟨λq=>⟨h.idx,c,λy hy=>?_⟩,λq=>h.step (by omega) hx q⟩⟩,λc=>?_⟩⟩
 ·have e:=lD (p:=λb:Tbl=>b.router==r) h hx q
  unfold gc
  rw[hx]at hy;cases hy
  rw[e]
 ·have e:=qn (p:=λb:Tbl=>b.router==r) h c
  unfold gc;rw[e]
def Fx(l:List Tbl)(router:Int):PC Tryz.prog:=⟨35,[(.s 4),.k],[.sl 4 (l.map Tbl.v) false,.int router],xh (gc l router),aw.of_ok λok=>(O8 l router ok).elim λI0 h=>h.elim λm0 h=>av (sh:=(.a [(.a [.k,.k,.k,(.s 2)]),.k])) (enc:=xh) (a:=(xg l router I0 m0).an) h (by kernel_rfl) (AV.pureB_ok rfl),ap (by kernel_rfl)⟩
theorem E3{q:List Tbl}{b:Tbl}{id pl:Int}(hn:∀a∈q,a.router≠b.router)(x:Int):nxT (q++[b]) id pl x=if x=b.router then(if cY b id pl=b.router then 0 else cY b id pl)else nxT q id pl x:=by
 unfold nxT
 rw[List.find?_append]
 by_cases e:x=b.router
 ·subst e
  rw[if_pos rfl,show(q.find? λa=>a.router==b.router)=none from List.find?_eq_none.mpr λa ha=>by simpa using hn a ha]
  simp
 ·rw[if_neg e]
  cases h:q.find? λa=>a.router==x with
  | some a=>rfl
  | none=>simp[Ne.symm e]
structure NxI (id pl:Int) (q:List Tbl) (M:Dis):Prop where
  nd:(au M).Nodup
  val:∀x,az M x 0=nxT q id pl x
theorem EC{M:Dis}(hn:(au M).Nodup)(k v x:Int):az (bi M k v) x 0=if x=k then v else az M x 0:=by
 have hn':=dI (x:=k) (v:=v) hn
 by_cases e:x=k
 ·subst e
  rw[if_pos rfl]
  exact dE hn' ((bK hn).mpr (.inl rfl))
 ·rw[if_neg e]
  cases h:aU M x with
  | true=>exact dE hn' ((bK hn).mpr (.inr ⟨bG h,e⟩))
  | false =>
   rw[cn h]
   refine cn ?_
   rw[sL hn,h,decide_eq_false e];rfl
def EI(l:List Tbl)(id:Int)(plane:Int):=okL [.sl 4 (l.map Tbl.v) false,.int id,.int plane]
def J5(l:List Tbl)(id:Int)(plane:Int)(t0:Int×(List (Int×Int))):NF:=⟨[(0,.k,.sl 4 (l.map Tbl.v) false),(1,.k,.int id),(2,.k,.int plane),(7,.k,.mref 0),(16,.k,.sl 4 (l.map Tbl.v) false),(17,.k,.int ((l.map Tbl.v).length:Int)),(18,.k,.int t0.1)],[.map none (t0.2.map λp=>MK.n p.1) (t0.2.map λp=>AV.int p.2) (ab (λ_=>rfl) _)]⟩
def J4(l:List Tbl)(t0:Int×(List (Int×Int)))(t1:Int):NF:=⟨[(0,.k,.sl 4 (l.map Tbl.v) false),(7,.k,.mref 0),(35,.k,.sl 4 (l.map Tbl.v) false),(36,.k,.int ((l.map Tbl.v).length:Int)),(37,.k,.int t1)],[.map none (t0.2.map λp=>MK.n p.1) (t0.2.map λp=>AV.int p.2) (ab (λ_=>rfl) _)]⟩
def J3(l:List Tbl)(t0:Int×(List (Int×Int)))(t1:Int)(x2:Tbl)(t2:Int×List Int):NF:=⟨[(0,.k,.sl 4 (l.map Tbl.v) false),(7,.k,.mref 0),(12,.k,.ref 1 0),(13,.k,.vec 2),(14,.k,.int t2.1),(35,.k,.sl 4 (l.map Tbl.v) false),(36,.k,.int ((l.map Tbl.v).length:Int)),(37,.k,.int t1)],[.map none (t0.2.map λp=>MK.n p.1) (t0.2.map λp=>AV.int p.2) (ab (λ_=>rfl) _),.box (.agg [.int x2.router,.int x2.sub,.int x2.len,.sl 2 (x2.rows.map Rw.v) false]),.vec 1 (t2.2.map AV.int) (ab (λ_=>rfl) t2.2)]⟩
def J2(l:List Tbl)(t0:Int×(List (Int×Int)))(t1:Int)(x2:Tbl)(t2:Int×List Int)(t3:Bool):NF:=⟨[(0,.k,.sl 4 (l.map Tbl.v) false),(7,.k,.mref 0),(12,.k,.ref 1 0),(13,.k,.vec 2),(14,.k,.int t2.1),(35,.k,.sl 4 (l.map Tbl.v) false),(36,.k,.int ((l.map Tbl.v).length:Int)),(37,.k,.int t1),(56,.k,.bool t3)],[.map none (t0.2.map λp=>MK.n p.1) (t0.2.map λp=>AV.int p.2) (ab (λ_=>rfl) _),.box (.agg [.int x2.router,.int x2.sub,.int x2.len,.sl 2 (x2.rows.map Rw.v) false]),.vec 1 (t2.2.map AV.int) (ab (λ_=>rfl) t2.2)]⟩
@[reducible] def EH:Nat→Type
 | 0=>Int×(List (Int×Int))
 | 1=>Int
 | 2=>Int×List Int
 | 3=>Bool
 | _=>Unit
def wn(r:List Int):AV:=.sl 1 (r.map AV.int) false
def wm(l:List Tbl)(id:Int)(plane:Int)(I0:(Int×(List (Int×Int)))→Prop)(m0:(Int×(List (Int×Int)))→Nat)(I1:Int×(List (Int×Int))→Int→Prop)(m1:Int×(List (Int×Int))→Int→Nat)(I2:Int×(List (Int×Int))→Int→Tbl→(Int×List Int)→Prop)(m2:Int×(List (Int×Int))→Int→Tbl→(Int×List Int)→Nat)(I3:Int×(List (Int×Int))→Int→Tbl→Int×List Int→Bool→Prop):Ax Tryz.prog EH ((List Int)):=
 (.loop 0 (J5 l id plane) I0 m0 (0,([]:List (Int×Int))) [16] λ(t0:Int×(List (Int×Int))) b0 =>
(.br 17 (decide (t0.1<((l.map Tbl.v).length:Int))) (.el 17 Tbl.v l (λR=>Rf (l.map Tbl.v) (ck (decide (0≤t0.1)) (ck (decide (t0.1<(l.length:Int)))
(∀x1,l[t0.1.toNat]?=some x1 →
(R x1))))) λx1 =>
(.callP (N4 x1 id plane)
(.br 225 ((sI x1 id plane) != x1.router) (.mn 289 (pP AV.int t0.2 x1.router (sI x1 id plane)) (.bk 0 b0 (W (t0.1+1),bi t0.2 x1.router (sI x1 id plane)) [0]))
(.bk 0 b0 (W (t0.1+1),t0.2) [0]))))
(.loop 1 (J4 l t0) (I1 t0) (m1 t0) ((0):Int) [0] λ(t1:Int) b1 =>
(.br 17 (decide (t1<((l.map Tbl.v).length:Int))) (.el 17 Tbl.v l (λR=>Rf (l.map Tbl.v) (ck (decide (0≤t1)) (ck (decide (t1<(l.length:Int)))
(∀x2,l[t1.toNat]?=some x2 →
(R x2))))) λx2 =>
(.own 113 (.mn 193 (kB AV.int t0.2 x2.router 0) (.loop 2 (J3 l t0 t1 x2) (I2 t0 t1 x2) (m2 t0 t1 x2) (az t0.2 x2.router 0,[x2.router]) [0,49,113] λ(t2:Int×List Int) b2 =>
(.pass (.join 3 (J2 l t0 t1 x2 t2) (λ(t3:Bool)=>I3 t0 t1 x2 t2 t3) (λb3=>(.br 51 (t2.1 != 0) (.bk 3 b3 ((decide (((t2.2.map AV.int).length:Int)≤((l.map Tbl.v).length:Int))):Bool) [0,1,2])
(.bk 3 b3 ((false):Bool) [0,1,2]))) λ(t3:Bool) =>
(.br 3 t3 (.br 67 (t2.1==x2.router) (.say (Rf (t2.2.map AV.int)) (.cmdL (.frzE 2 (t2.2.map AV.int) (ab (λ_=>rfl) t2.2)) (.ret (t2.2))))
(.say (λR=>Rf (α:=List AV) (t2.2.map AV.int) (Rf (α:=List AV) [.int t2.1]
(ck (decide (t2.2.length+1≤1048576))
R))) (.app 115 AV.int t2.2 [t2.1]
(.mn 179 (kB AV.int t0.2 t2.1 0) (.bk 2 b2 (az t0.2 t2.1 0,t2.2++[t2.1]) [0,1,115])))))
(.bk 1 b1 ((W (t1+1)):Int) [0]))))))))
(.ret ([]))))))
def Al(l:List Tbl)(id:Int)(plane:Int)(I0:(Int×(List (Int×Int)))→Prop)(m0:(Int×(List (Int×Int)))→Nat)(I1:Int×(List (Int×Int))→Int→Prop)(m1:Int×(List (Int×Int))→Int→Nat)(I2:Int×(List (Int×Int))→Int→Tbl→(Int×List Int)→Prop)(m2:Int×(List (Int×Int))→Int→Tbl→(Int×List Int)→Nat)(I3:Int×(List (Int×Int))→Int→Tbl→Int×List Int→Bool→Prop)(r0:List Int):=(wm l id plane I0 m0 I1 m1 I2 m2 I3).vp wn r0
theorem NO(l:List Tbl)(id pl:Int)(hc:fJ l=0)(hp:0≤pl∧pl<8)(ok:EI l id pl):∃I0 m0 I1 m1 I2 m2 I3,Al l id pl I0 m0 I1 m1 I2 m2 I3 (ji l id pl):=by
 refine⟨λs=>∃k:Nat,s.1=k∧k≤l.length∧NxI id pl (l.take k) s.2,λs=>l.length-s.1.toNat,
  λt i=>(∀x,az t.2 x 0=nxT l id pl x)∧∃k:Nat,i=k∧k≤l.length∧jP l id pl l.length (l.drop k)=ji l id pl,λt i=>l.length-i.toNat,
  λt i b q=>((∀x,az t.2 x 0=nxT l id pl x)∧∃k:Nat,i=k∧k<l.length∧l[k]?=some b∧jP l id pl l.length (l.drop k)=ji l id pl)∧(1≤q.2.length∧q.2.length≤l.length+1)∧iW (nxT l id pl) b.router (l.length+1-q.2.length) q.1 q.2=iW (nxT l id pl) b.router l.length (nxT l id pl b.router) [b.router],
  λt i b q=>l.length+2-q.2.length,λt i b q u=>u=decide (q.1≠0∧q.2.length≤l.length),?_⟩
 obtain⟨hl,hb,ha⟩:=gj hc
 simp only[EI,okU,Blk.ok,aK,List.length_map]at ok
 dsimp only[Al,wm,EH,Ax.vp,Ax.vc];simp only[vcU,rfU,List.length_map]
 refine⟨⟨0,rfl,by omega,List.nodup_nil,λx=>by rw[cn (by unfold aU au;simp)];rfl⟩,?_⟩
 rintro⟨_,M⟩ ⟨k,rfl,hk,hM⟩
 simp only at hM ⊢
 rw[Int.toNat_natCast]
 refine⟨λc=>⟨by omega,c,λb hbk=>?_⟩,λc=>⟨⟨λx=>?_,0,rfl,by omega,rfl⟩,?_⟩⟩
 ·have hbm:=List.mem_of_getElem? hbk
  have e:sI b id pl=cY b id pl:=by unfold sI;rw[if_pos (Ah.mpr ⟨hb b hbm,hp,by omega,by omega⟩)]
  have w:W ((k:Int)+1)=((k+1:Nat):Int):=bx (n:=l.length) (by omega) (by omega)
  have hn:∀a∈l.take k,a.router≠b.router:=λa ha'=>by
   obtain⟨j,hj,rfl⟩:=List.mem_take_iff_getElem.mp ha'
   have hkl:=aq hbk
   have h2:=(List.pairwise_iff_getElem.mp ha) j k (by omega) hkl (by omega)
   rw[List.getElem?_eq_getElem hkl]at hbk
   rw[←Option.some.inj hbk];omega
  have hs:=λx=>E3 (id:=id) (pl:=pl) hn x
  rw[e,w]
  refine⟨λd=>⟨⟨k+1,rfl,by omega,?_⟩,by omega⟩,λd=>⟨⟨k+1,rfl,by omega,?_⟩,by omega⟩⟩
  ·have d:cY b id pl≠b.router:=by simpa using d
   rw[aV hbk]
   refine⟨dI hM.nd,λx=>?_⟩
   rw[EC hM.nd,hs,if_neg d,hM.val]
  ·have d:cY b id pl=b.router:=by simpa using d
   rw[aV hbk]
   refine⟨hM.nd,λx=>?_⟩
   rw[hs,if_pos d,hM.val]
   split
   ·rename_i q
    subst q
    unfold nxT
    rw[show((l.take k).find? λa=>a.router==b.router)=none from List.find?_eq_none.mpr λa ha=>by simpa using hn a ha]
   ·rfl
 ·have:=hM.val x
  rw[List.take_of_length_le (by omega)]at this;exact this
 ·rintro i ⟨hv,j,rfl,hj,hf⟩
  rw[Int.toNat_natCast]
  refine⟨λd=>⟨by omega,d,λb hbj=>⟨⟨⟨hv,j,rfl,by omega,hbj,hf⟩,⟨by simp,by simp⟩,?_⟩,?_⟩⟩,λd=>?_⟩
  ·simp only[List.length_singleton,Nat.add_sub_cancel];rw[hv]
  ·rintro⟨a,way⟩ ⟨⟨_,j',hj',hjl,hbj',hf'⟩,⟨g1,g2⟩,g3⟩
   simp only at g1 g2 g3 ⊢
   have hjj:j'=j:=by omega
   subst hjj
   refine⟨⟨λe=>?_,λe=>?_⟩,?_⟩
   ·rw[decide_eq_decide]
    have e:a≠0:=by simpa using e
    exact⟨λh=>⟨e,by omega⟩,λh=>by omega⟩
   ·have e:a=0:=by simpa using e
    rw[eq_comm,decide_eq_false_iff_not];simp[e]
   rintro _ rfl
   have hd:l.drop j'=b::l.drop (j'+1):=by
    have hlt:=aq hbj
    rw[List.drop_eq_getElem_cons hlt]
    rw[List.getElem?_eq_getElem hlt]at hbj
    rw[Option.some.inj hbj]
   rw[hd,jP,←g3]at hf
   refine⟨λe=>?_,λe=>?_⟩
   ·obtain⟨e1,e2⟩:=of_decide_eq_true e
    obtain⟨f,hfu⟩:∃f,l.length+1-way.length=f+1:=⟨l.length-way.length,by omega⟩
    rw[hfu,iW,if_neg e1]at hf g3
    refine⟨λq=>?_,λq=>⟨by omega,⟨⟨hv,j',rfl,hjl,hbj,hf'⟩,⟨by simp,by simp;omega⟩,?_⟩,by simp;omega⟩⟩
    ·have q:a=b.router:=eq_of_beq q
     rw[if_pos q]at hf;exact hf
    ·have q:a≠b.router:=by simpa using q
     rw[if_neg q]at g3
     rw[hv,←g3,List.length_append,List.length_singleton,show l.length+1-(way.length+1)=f by omega]
   ·have e:=of_decide_eq_false e
    have hnone:iW (nxT l id pl) b.router (l.length+1-way.length) a way=none:=by
     by_cases e1:a=0
     ·cases l.length+1-way.length with
      | zero=>rfl
      | succ f=>rw[iW,if_pos e1]
     ·rw[show l.length+1-way.length=0 from by
       have:¬way.length≤l.length:=λh=>e ⟨e1,h⟩
       omega];rfl
    rw[hnone]at hf
    have w:W ((j':Int)+1)=((j'+1:Nat):Int):=bx (n:=l.length) (by omega) (by omega)
    rw[w]
    exact⟨⟨hv,j'+1,rfl,by omega,hf⟩,by omega⟩
  ·rw[←hf,List.drop_of_length_le (by omega)];rfl
def NP(l:List Tbl)(id:Int)(plane:Int)(hc:fJ l=0)(hp:0≤plane∧plane<8):PC Tryz.prog:=⟨84,[(.s 4),.k,.k],[.sl 4 (l.map Tbl.v) false,.int id,.int plane],wn (ji l id plane),aw.of_ok λok=>(NO l id plane hc hp ok).elim λI0 h=>h.elim λm0 h=>h.elim λI1 h=>h.elim λm1 h=>h.elim λI2 h=>h.elim λm2 h=>h.elim λI3 h=>av (sh:=(.s 1)) (enc:=wn) (a:=(wm l id plane I0 m0 I1 m1 I2 m2 I3).an) h (by kernel_rfl) (AV.pureB_ok rfl),ap (by kernel_rfl)⟩
def fk(l:List Tbl)(id pl:Int):List Int:=if fJ l=0∧0≤pl∧pl<8 then ji l id pl else []
def NN(l:List Tbl)(id:Int)(plane:Int):=okL [.sl 4 (l.map Tbl.v) false,.int id,.int plane]
def J1(l:List Tbl)(id:Int)(plane:Int)(t0:Bool):NF:=⟨[(0,.k,.sl 4 (l.map Tbl.v) false),(1,.k,.int id),(2,.k,.int plane),(17,.k,.bool t0)],[]⟩
@[reducible] def EG:Nat→Type
 | 0=>Bool
 | _=>Unit
def wl(r:List Int):AV:=.sl 1 (r.map AV.int) false
def wk(l:List Tbl)(id:Int)(plane:Int)(I0:Bool→Prop):Ax Tryz.prog EG ((List Int)):=
 (.pass (.pass (.join 0 (J1 l id plane) (λ(t0:Bool)=>I0 t0) (λb0=>(.callP (P9 l)
(.br 80 ((fJ l) != 0) (.bk 0 b0 ((true):Bool) [])
(.br 144 (decide (plane<0)) (.bk 0 b0 ((true):Bool) [])
(.bk 0 b0 ((decide (8≤plane)):Bool) []))))) λ(t0:Bool) =>
(.br 0 t0 (.ret ([]))
(.req 48 (fJ l=0) λh1 =>
(.req 48 (0≤plane∧plane<8) λh2 =>
(.callP (NP l id plane h1 h2)
(.ret (ji l id plane)))))))))
def Ak(l:List Tbl)(id:Int)(plane:Int)(I0:Bool→Prop)(r0:List Int):=(wk l id plane I0).vp wl r0
theorem NL(l:List Tbl)(id pl:Int)(ok:NN l id pl):∃I0,Ak l id pl I0 (fk l id pl):=by
 refine⟨λb=>b=decide (¬(fJ l=0∧0≤pl∧pl<8)),?_⟩
 dsimp only[Ak,wk,EG,Ax.vp,Ax.vc];simp only[vcU,rfU,List.length_map]
 refine⟨⟨λc=>?_,λc=>⟨λd=>?_,λd=>?_⟩⟩,?_⟩
 ·have c:fJ l≠0:=by simpa using c
  rw[eq_comm,decide_eq_true_iff];exact λh=>c h.1
 ·rw[eq_comm,decide_eq_true_iff];omega
 ·have c:fJ l=0:=by simpa using c
  rw[decide_eq_decide];omega
 ·rintro _ rfl
  unfold fk
  refine⟨λc=>by rw[if_neg (of_decide_eq_true c)],λc=>?_⟩
  have c:=Classical.not_not.mp (of_decide_eq_false c)
  exact⟨c.1,c.2,by rw[if_pos c]⟩
def NM(l:List Tbl)(id:Int)(plane:Int):PC Tryz.prog:=⟨34,[(.s 4),.k,.k],[.sl 4 (l.map Tbl.v) false,.int id,.int plane],wl (fk l id plane),aw.of_ok λok=>(NL l id plane ok).elim λI0 h=>av (sh:=(.s 1)) (enc:=wl) (a:=(wk l id plane I0).an) h (by kernel_rfl) (AV.pureB_ok rfl),ap (by kernel_rfl)⟩
def DY(l:List Tbl)(from_:Int)(id:Int)(plane:Int):=okL [.sl 4 (l.map Tbl.v) false,.int from_,.int id,.int plane]
def IP(l:List Tbl)(from_:Int)(id:Int)(plane:Int)(t0:Bool):NF:=⟨[(0,.k,.sl 4 (l.map Tbl.v) false),(1,.k,.int from_),(2,.k,.int id),(3,.k,.int plane),(23,.k,.bool t0)],[]⟩
def IN(l:List Tbl)(id:Int)(plane:Int)(t1:List Int):NF:=⟨[(0,.k,.sl 4 (l.map Tbl.v) false),(2,.k,.int id),(3,.k,.int plane),(10,.k,.vec 0)],[.vec 1 (t1.map AV.int) (ab (λ_=>rfl) t1)]⟩
@[reducible] def DX:Nat→Type
 | 0=>Bool
 | 1=>(List Int)
 | _=>Unit
def vC(r:List Int×Int):AV:=.tup [.sl 1 (r.1.map AV.int) false,.int r.2]
def vB(l:List Tbl)(from_:Int)(id:Int)(plane:Int)(I0:Bool→Prop)(I1:Bool→(List Int)→Prop)(m1:Bool→(List Int)→Nat):Ax Tryz.prog DX (List Int×Int):=
 (.callP (KQ l)
(.br 80 ((fJ l) != 0) (.ret ([],1))
(.pass (.join 0 (IP l from_ id plane) (λ(t0:Bool)=>I0 t0) (λb0=>(.br 128 (decide (plane<0)) (.bk 0 b0 ((true):Bool) [])
(.bk 0 b0 ((decide (8≤plane)):Bool) []))) λ(t0:Bool) =>
(.br 0 t0 (.ret ([],2))
(.own 16 (.loop 1 (IN l id plane) (I1 t0) (m1 t0) (([from_]):(List Int)) [16] λ(t1:List Int) b1 =>
(.say (ck (cond (decide (0≤(W (((t1.map AV.int).length:Int)-1)))) (decide ((W (((t1.map AV.int).length:Int)-1))<((t1.map AV.int).length:Int))) false)) (.el 81 AV.int t1 (λR=>Rf (t1.map AV.int) (ck (decide ((W (((t1.map AV.int).length:Int)-1)).toNat<t1.length))
(∀x1,t1[(W (((t1.map AV.int).length:Int)-1)).toNat]?=some x1 →
(R x1)))) λx1 =>
(.callP (Fx l x1)
(.br 289 (!((gc l x1).2)) (.ret ([],4))
(.req 337 (0≤plane) λh2 =>
(.callP (Ou ((gc l x1).1) id plane h2)
(.br 401 ((cY ((gc l x1).1) id plane)==0) (.ret ([],9))
(.br 449 ((cY ((gc l x1).1) id plane)==x1) (.say (Rf (t1.map AV.int)) (.cmd (.frzE 0 (t1.map AV.int) (ab (λ_=>rfl) t1)) (.say (λR=>Rf (α:=List AV) (t1.map AV.int) (ck (f9 t1.length 1 (t1.length:Int) (t1.length:Int))
R)) (.sub 465 AV.int t1 false
(.ret ((t1.take ((t1.length:Int).toNat)).drop 1,0))))))
(.callP (wU t1 (cY ((gc l x1).1) id plane))
(.say (ck (cD [(t1.map AV.int)])) (.br 497 (decide ((cY ((gc l x1).1) id plane)∈t1)) (.ret ([],10))
(.say (λR=>Rf (α:=List AV) (t1.map AV.int) (Rf (α:=List AV) [.int (cY ((gc l x1).1) id plane)]
(ck (decide (t1.length+1≤1048576))
R))) (.app 545 AV.int t1 [cY ((gc l x1).1) id plane]
(.bk 1 b1 ((t1++[cY ((gc l x1).1) id plane]):(List Int)) [545])))))))))))))))))))))
def zI(l:List Tbl)(from_:Int)(id:Int)(plane:Int)(I0:Bool→Prop)(I1:Bool→(List Int)→Prop)(m1:Bool→(List Int)→Nat)(r0:List Int×Int):=(vB l from_ id plane I0 I1 m1).vp vC r0
def vA(l:List Tbl)(f id pl:Int):List Int×Int:=if ¬fJ l=0 then([],1)else if pl<0∨8≤pl then([],2)else kX l id pl (l.length+1) [f] f
structure Qn (l:List Tbl) (id pl f:Int) (s:List Int):Prop where
  nd:s.Nodup
  fd:∀x∈s.dropLast,∃b∈l,b.router=x
  go:∃x,s.getLast?=some x∧kX l id pl (l.length+2-s.length) s x=kX l id pl (l.length+1) [f] f
theorem Qn.len{l:List Tbl}{id pl f:Int}{s:List Int}(h:Qn l id pl f s):s.dropLast.length≤l.length:=by
 have:=List.Nodup.length_le_of_subset (h.nd.sublist (List.dropLast_sublist s)) (show s.dropLast ⊆ l.map (·.router)from λx hx=>by obtain⟨b,hb,e⟩:=h.fd x hx;exact List.mem_map.mpr ⟨b,hb,e⟩)
 rwa [List.length_map]at this
theorem Ng(l:List Tbl)(f id pl:Int)(ok:DY l f id pl):∃I0 I1 m1,zI l f id pl I0 I1 m1 (vA l f id pl):=by
 refine⟨λb=>b=decide (pl<0∨8≤pl),λb s=>Qn l id pl f s,λ_ s=>l.length+2-s.length,?_⟩
 simp only[DY,okU,Blk.ok,aK,List.length_map]at ok
 dsimp only[zI,vB,DX,Ax.vp,Ax.vc];simp only[vcU,rfU,List.length_map]
 unfold vA
 refine⟨λc=>by rw[if_pos (by simpa using c)],λc=>?_⟩
 have c:fJ l=0:=by simpa using c
 have hl:=(gj c).1
 rw[if_neg (by simp[c])]
 refine⟨⟨λd=>by rw[eq_comm,decide_eq_true_iff];exact .inl d,λd=>by rw[decide_eq_decide];omega⟩,?_⟩
 rintro _ rfl
 refine⟨λd=>by rw[if_pos (of_decide_eq_true d)],λd=>?_⟩
 have d:=of_decide_eq_false d
 rw[if_neg d]
 refine⟨⟨by simp,λx hx=>by simp at hx,f,rfl,by simp⟩,λs hs=>?_⟩
 have hlen:=hs.len
 obtain⟨nd,fd,x,hx,hg⟩:=hs
 have hne:s≠[]:=λe=>by subst e;cases hx
 have hpos:=List.length_pos_iff.mpr hne
 rw[List.length_dropLast]at hlen
 have w:W ((s.length:Int)-1)=((s.length-1:Nat):Int):=by rw[dY (by omega)];omega
 rw[w,Int.toNat_natCast]
 refine⟨by rw[decide_eq_true (by omega),decide_eq_true (by omega)];rfl,by omega,λy hy=>?_⟩
 have hxy:y=x:=by rw[List.getLast?_eq_getElem?]at hx;rw[hx]at hy;exact(Option.some.inj hy).symm
 subst hxy
 obtain⟨g,hgf⟩:∃g,l.length+2-s.length=g+1:=⟨l.length+1-s.length,by omega⟩
 rw[hgf,kX]at hg
 unfold gc
 cases hf:l.find? λb=>b.router==y with
 | none =>
  rw[hf]at hg
  exact⟨λ_=>hg,λh=>by simp at h⟩
 | some b =>
  rw[hf]at hg
  simp only at hg ⊢
  have hbm:=List.mem_of_find?_eq_some hf
  have hbr:b.router=y:=by have:=List.find?_some hf;exact eq_of_beq this
  refine⟨λh=>by simp at h,λ_=>⟨by omega,λe=>?_,λe=>⟨λe2=>⟨?_,?_⟩,λe2=>⟨by simp[cD,ab],λe3=>?_,λe3=>⟨by omega,⟨?_,λz hz=>?_,cY b id pl,by simp,?_⟩,by simp;omega⟩⟩⟩⟩⟩
  ·rw[if_pos (eq_of_beq e)]at hg;exact hg
  ·simp[f9];omega
  ·have e:cY b id pl≠0:=by simpa using e
   rw[if_neg e,if_pos (eq_of_beq e2)]at hg
   rw[←hg,Int.toNat_natCast,List.take_length]
  ·have e:cY b id pl≠0:=by simpa using e
   have e2:cY b id pl≠y:=by simpa using e2
   rw[if_neg e,if_neg e2,if_pos e3]at hg;exact hg
  ·exact List.nodup_append.mpr ⟨nd,by simp,λa ha b' hb'=>by rw[List.mem_singleton.mp hb'];rintro rfl;exact e3 ha⟩
  ·rw[List.dropLast_concat]at hz
   by_cases q:z=y
   ·exact⟨b,hbm,by rw[q];exact hbr⟩
   ·have hs:s.dropLast++[y]=s:=by obtain⟨ys,e⟩:=List.getLast?_eq_some_iff.mp hx;rw[e,List.dropLast_concat]
    rw[←hs]at hz
    rcases List.mem_append.mp hz with hz|hz
    ·exact fd z hz
    ·exact absurd (List.mem_singleton.mp hz) q
  ·have e:cY b id pl≠0:=by simpa using e
   have e2:cY b id pl≠y:=by simpa using e2
   rw[if_neg e,if_neg e2,if_neg e3]at hg
   rw[List.length_append,List.length_singleton,show l.length+2-(s.length+1)=g by omega];exact hg
def Nh(l:List Tbl)(from_:Int)(id:Int)(plane:Int):PC Tryz.prog:=⟨37,[(.s 4),.k,.k,.k],[.sl 4 (l.map Tbl.v) false,.int from_,.int id,.int plane],vC (vA l from_ id plane),aw.of_ok λok=>(Ng l from_ id plane ok).elim λI0 h=>h.elim λI1 h=>h.elim λm1 h=>av (sh:=(.a [(.s 1),.k])) (enc:=vC) (a:=(vB l from_ id plane I0 I1 m1).an) h (by kernel_rfl) (AV.pureB_ok rfl),ap (by kernel_rfl)⟩
theorem gf{k n:Nat}{res:List AR}{r:AV}{h':List (Option Blk)}{s s1:S3}(hw:ay k n s s1)(h:fin k n res r h' .ret s1):fin k n res r h' .ret s:=by
 obtain⟨s',g1,g2⟩:=h
 exact⟨s',hw.trans g1,g2⟩
theorem gu{xs ys:List AV}(h:aR xs)(h':aR ys):aR (xs++ys):=by
 rw[iP]at *
 intro x hx
 rcases List.mem_append.mp hx with hx|hx
 ·exact h x hx
 ·exact h' x hx
theorem lU{xs:List AV}(h:aR xs)(n:Nat):aR (xs.take n):=by
 rw[iP]at *;exact λx hx=>h x (List.mem_of_mem_take hx)
theorem lV{xs:List AV}(h:aR xs)(n:Nat):aR (xs.drop n):=by
 rw[iP]at *;exact λx hx=>h x (List.mem_of_mem_drop hx)
theorem dL{es:List AV}{x:AV}(h:aR es)(hx:x.pure)(i:Nat):aR (bM es i x):=gu (gu (lU h i) ⟨hx,trivial⟩) (lV h i)
theorem eu{k m:Nat}{es:List AV}{π:Nat→Nat}(h:aR es):(Blk.vec k es).ren π=.vec k es∧(Blk.vec k es).bel m:=⟨by rw[Blk.ren,aT _ h],aQ h⟩
theorem Ci{α β:Type}(f:α→β)(l:List α)(i:Nat)(x:α):bM (l.map f) i (f x)=(bM l i x).map f:=by
 simp[bM]
def uk:AF:=
 ⟨95,3,[.tmp 6],
 .seq (.reg [⟨(some 6),.move (.c (.sl 0 [] true)),none⟩])
 (.seq (.reg [⟨(some 10),.move (.t 0),none⟩,⟨(some 11),.move (.t 1),none⟩,⟨(some 12),.slice 5 (.t 10) (some (.t 11)) none none,none⟩])
 (.seq (.reg [⟨(some 13),.move (.t 2),none⟩,⟨(some 14),.len (.t 13),none⟩,⟨(some 7),.move (.t 14),none⟩])
 (.seq (.seq (.reg [⟨(some 15),.move (.t 7),none⟩,⟨(some 16),.bin .eql (.t 15) (.c (.val (.int .i64 0))),none⟩])
 (.cond (.t 16) (.seq (.reg [⟨(some 17),.move (.t 0),none⟩,⟨(some 6),.move (.t 17),none⟩])
 (.ret)) (.skip)))
 (.seq (.reg [⟨(some 18),.move (.t 0),none⟩,⟨(some 19),.len (.t 18),none⟩,⟨(some 8),.move (.t 19),none⟩])
 (.seq (.seq (.reg [⟨(some 20),.move (.t 1),none⟩,⟨(some 21),.move (.t 8),none⟩,⟨(some 22),.bin .eql (.t 20) (.t 21),none⟩])
 (.cond (.t 22) (.seq (.reg [⟨(some 23),.move (.t 0),none⟩,⟨(some 24),.move (.t 2),none⟩,⟨(some 25),.append 5 40 (.t 23) (.t 24),none⟩,⟨(some 6),.move (.t 25),none⟩])
 (.ret)) (.skip)))
 (.seq (.seq (.reg [⟨(some 26),.move (.t 8),none⟩,⟨(some 27),.move (.t 7),none⟩,⟨(some 28),.bin .add (.t 26) (.t 27),none⟩,⟨(some 29),.move (.t 0),none⟩,⟨(some 30),.cap (.t 29),none⟩,⟨(some 31),.bin .gtr (.t 28) (.t 30),none⟩])
 (.cond (.t 31) (.seq (.reg [⟨(some 32),.move (.t 0),none⟩,⟨(some 33),.move (.t 1),none⟩,⟨(some 34),.slice 5 (.t 32) none (some (.t 33)) none,none⟩,⟨(some 35),.move (.t 8),none⟩,⟨(some 36),.move (.t 7),none⟩,⟨(some 37),.bin .add (.t 35) (.t 36),none⟩,⟨(some 38),.move (.t 1),none⟩,⟨(some 39),.bin .sub (.t 37) (.t 38),none⟩,⟨(some 40),.appendZ 5 40 ((.agg [(.val (.int .i64 0)),(.val (.int .i64 0)),(.val (.int .i64 0)),(.val (.int .i64 0)),(.val (.int .i64 0))])) (.t 34) (.t 39),none⟩,⟨(some 9),.move (.t 40),none⟩])
 (.seq (.reg [⟨(some 41),.move (.t 9),none⟩,⟨(some 42),.move (.t 1),none⟩,⟨(some 43),.slice 5 (.t 41) (some (.t 42)) none none,none⟩,⟨(some 44),.move (.t 2),none⟩,⟨(some 45),.copy 5 (.t 43) (.t 44),none⟩])
 (.seq (.dreg [⟨(some 46),.move (.t 9),none⟩,⟨(some 47),.move (.t 1),none⟩,⟨(some 48),.move (.t 7),none⟩,⟨(some 49),.bin .add (.t 47) (.t 48),none⟩,⟨(some 50),.slice 5 (.t 46) (some (.t 49)) none none,none⟩,⟨(some 51),.move (.t 0),none⟩,⟨(some 52),.move (.t 1),none⟩,⟨(some 53),.slice 5 (.t 51) (some (.t 52)) none none,none⟩,⟨(some 54),.copy 5 (.t 50) (.t 53),none⟩] [(4,7)])
 (.seq (.reg [⟨(some 55),.move (.t 9),none⟩,⟨(some 6),.move (.t 55),none⟩])
 (.ret))))) (.skip)))
 (.seq (.reg [⟨(some 56),.move (.t 0),none⟩,⟨(some 57),.move (.t 8),none⟩,⟨(some 58),.move (.t 7),none⟩,⟨(some 59),.bin .add (.t 57) (.t 58),none⟩,⟨(some 60),.slice 5 (.t 56) none (some (.t 59)) none,none⟩,⟨(some 0),.move (.t 60),none⟩])
 (.seq (.seq (.reg [⟨(some 61),.move (.t 2),none⟩,⟨(some 62),.move (.t 0),none⟩,⟨(some 63),.move (.t 1),none⟩,⟨(some 64),.move (.t 7),none⟩,⟨(some 65),.bin .add (.t 63) (.t 64),none⟩,⟨(some 66),.slice 5 (.t 62) (some (.t 65)) none none,none⟩,⟨(some 67),.call (.c (.func 155 [])) [(.t 61),(.t 66)],none⟩,⟨(some 68),.un .not (.t 67),none⟩])
 (.cond (.t 68) (.seq (.dreg [⟨(some 69),.move (.t 0),none⟩,⟨(some 70),.move (.t 1),none⟩,⟨(some 71),.move (.t 7),none⟩,⟨(some 72),.bin .add (.t 70) (.t 71),none⟩,⟨(some 73),.slice 5 (.t 69) (some (.t 72)) none none,none⟩,⟨(some 74),.move (.t 0),none⟩,⟨(some 75),.move (.t 1),none⟩,⟨(some 76),.slice 5 (.t 74) (some (.t 75)) none none,none⟩,⟨(some 77),.copy 5 (.t 73) (.t 76),none⟩] [(4,7)])
 (.seq (.reg [⟨(some 78),.move (.t 0),none⟩,⟨(some 79),.move (.t 1),none⟩,⟨(some 80),.slice 5 (.t 78) (some (.t 79)) none none,none⟩,⟨(some 81),.move (.t 2),none⟩,⟨(some 82),.copy 5 (.t 80) (.t 81),none⟩])
 (.seq (.reg [⟨(some 83),.move (.t 0),none⟩,⟨(some 6),.move (.t 83),none⟩])
 (.ret)))) (.skip)))
 (.seq (.reg [⟨(some 84),.move (.t 0),none⟩,⟨(some 85),.move (.t 8),none⟩,⟨(some 86),.slice 5 (.t 84) (some (.t 85)) none none,none⟩,⟨(some 87),.move (.t 2),none⟩,⟨(some 88),.copy 5 (.t 86) (.t 87),none⟩])
 (.seq (.reg [⟨(some 89),.move (.t 0),none⟩,⟨(some 90),.move (.t 1),none⟩,⟨(some 91),.slice 5 (.t 89) (some (.t 90)) none none,none⟩,⟨(some 92),.move (.t 7),none⟩,⟨(some 93),.call (.c (.func 156 [])) [(.t 91),(.t 92)],none⟩])
 (.seq (.reg [⟨(some 94),.move (.t 0),none⟩,⟨(some 6),.move (.t 94),none⟩])
 (.ret))))))))))))⟩
theorem uj:fp Tryz.prog Tryz.f129=some uk:=by kernel_rfl
theorem iq : (Tryz.f155.name == "runtime.NumGoroutine") = false ∧ Tryz.f155.body.isNone = true := ⟨by kernel_rfl, by kernel_rfl⟩
theorem md:Extern.findNext Tryz.f155=none:=by kernel_rfl
theorem me:Extern.find Tryz.f155=some (Extern.SlicesOverlaps.overlaps #[28,28] #[4]):=by kernel_rfl
theorem mc:sizeOf? Tryz.prog 112=some 5:=by kernel_rfl
theorem po:Program.underlying Tryz.prog 28=some (.slice 112):=by kernel_rfl
theorem uB(es:List AV)(x:AV)(i cap:Nat)(hi:i≤es.length)(hx:x.solid=true)(h1:es.length≤cap)(h2:cap≤maxLen)(hs:es.length≤1000000)(hp:aR es∧x.pure) :
  aH Tryz.prog 129 [.vec 0,.int i,.vec 1] [.row 5 es es.length cap,.vec 5 [x]] (.vec 2) [none,none,some (.vec 5 (bM es i x))]:=by
 have hml:=bj
 refine aH.walk Tryz.func129 uj (by simp[uk]) ?_
 unfold uk
 simp only[eT,fm,List.length_cons,List.length_nil]
 refine AWP.seq' ?_
 refine AWP.reg' λK hK=>?_
 try simp only[ak,am,al,eq_self,implies_true,forall_eq_or_imp,forall_eq,Nat.reduceEqDiff,↓reduceIte,Nat.reduceAdd,Nat.reduceLeDiff,Nat.reduceSub,Nat.reduceMul,Nat.reduceLT,Int.reduceBEq,Int.reduceBNe,Int.reduceToNat,Int.reduceLT,Int.reduceLE,Int.reduceAdd,Int.reduceSub,Int.reduceMul,reduceCtorEq]
 refine hK _ _ _ ?_
 clear hK K
 refine AWP.seq' ?_
 refine AWP.reg' λK hK=>?_
 try simp only[ak,am,al,eq_self,implies_true,forall_eq_or_imp,forall_eq,Nat.reduceEqDiff,↓reduceIte,Nat.reduceAdd,Nat.reduceLeDiff,Nat.reduceSub,Nat.reduceMul,Nat.reduceLT,Int.reduceBEq,Int.reduceBNe,Int.reduceToNat,Int.reduceLT,Int.reduceLE,Int.reduceAdd,Int.reduceSub,Int.reduceMul,reduceCtorEq]
 repeat (refine And.intro (by omega) ?_)
 refine hK _ _ _ ?_
 clear hK K
 refine AWP.seq' ?_
 refine AWP.reg' λK hK=>?_
 try simp only[ak,am,al,eq_self,implies_true,forall_eq_or_imp,forall_eq,Nat.reduceEqDiff,↓reduceIte,Nat.reduceAdd,Nat.reduceLeDiff,Nat.reduceSub,Nat.reduceMul,Nat.reduceLT,Int.reduceBEq,Int.reduceBNe,Int.reduceToNat,Int.reduceLT,Int.reduceLE,Int.reduceAdd,Int.reduceSub,Int.reduceMul,reduceCtorEq]
 refine hK _ _ _ ?_
 clear hK K
 refine AWP.seq' (AWP.seq' ?_)
 refine AWP.reg' λK hK=>?_
 try simp only[ak,am,al,eq_self,implies_true,forall_eq_or_imp,forall_eq,Nat.reduceEqDiff,↓reduceIte,Nat.reduceAdd,Nat.reduceLeDiff,Nat.reduceSub,Nat.reduceMul,Nat.reduceLT,Int.reduceBEq,Int.reduceBNe,Int.reduceToNat,Int.reduceLT,Int.reduceLE,Int.reduceAdd,Int.reduceSub,Int.reduceMul,reduceCtorEq]
 refine hK _ _ _ ?_
 clear hK K
 refine AWP.cond (b:=false) rfl (λh=>by cases h) (λ_=>?_)
 refine AWP.skip ?_
 refine AWP.seq' ?_
 refine AWP.reg' λK hK=>?_
 try simp only[ak,am,al,eq_self,implies_true,forall_eq_or_imp,forall_eq,Nat.reduceEqDiff,↓reduceIte,Nat.reduceAdd,Nat.reduceLeDiff,Nat.reduceSub,Nat.reduceMul,Nat.reduceLT,Int.reduceBEq,Int.reduceBNe,Int.reduceToNat,Int.reduceLT,Int.reduceLE,Int.reduceAdd,Int.reduceSub,Int.reduceMul,reduceCtorEq]
 refine hK _ _ _ ?_
 clear hK K
 refine AWP.seq' (AWP.seq' ?_)
 refine AWP.reg' λK hK=>?_
 try simp only[ak,am,al,eq_self,implies_true,forall_eq_or_imp,forall_eq,Nat.reduceEqDiff,↓reduceIte,Nat.reduceAdd,Nat.reduceLeDiff,Nat.reduceSub,Nat.reduceMul,Nat.reduceLT,Int.reduceBEq,Int.reduceBNe,Int.reduceToNat,Int.reduceLT,Int.reduceLE,Int.reduceAdd,Int.reduceSub,Int.reduceMul,reduceCtorEq]
 refine hK _ _ _ ?_
 clear hK K
 refine AWP.cond (b:=((i:Int)==(es.length:Int))) rfl (λh=>?_) (λh=>?_)
 ·have h:i=es.length:=by have:=eq_of_beq h;omega
  refine AWP.seq' ?_
  refine AWP.reg' λK hK=>?_
  try simp only[ak,am,al,eq_self,implies_true,forall_eq_or_imp,forall_eq,Nat.reduceEqDiff,↓reduceIte,Nat.reduceAdd,Nat.reduceLeDiff,Nat.reduceSub,Nat.reduceMul,Nat.reduceLT,Int.reduceBEq,Int.reduceBNe,Int.reduceToNat,Int.reduceLT,Int.reduceLE,Int.reduceAdd,Int.reduceSub,Int.reduceMul,reduceCtorEq,aZ,dN]
  repeat (refine And.intro (by omega) ?_)
  refine hK _ _ _ ?_
  clear hK K
  refine AWP.ret (gC [0,1,274] [(6,.vec 2)] rfl rfl ?_ ?_ rfl (by simp) ?_ (by simp))
  ·simp only[List.mem_singleton,forall_eq]
   exact⟨rfl,show(2:Nat)<3 by omega⟩
  ·refine⟨⟨?_,?_⟩,trivial⟩
   ·rw[(eu (m:=0) (dL hp.1 hp.2 i)).1]
    show some (Blk.vec 5 (es++[x]))=_
    rw[bM,h,List.take_length,List.drop_length,List.append_nil]
   ·exact(eu (π:=id) (dL hp.1 hp.2 i)).2
  ·intro b hb
   match b,hb with
   | 0,_=>rfl
   | 1,_=>rfl
 have h:¬i=es.length:=by intro e;subst e;simp at h
 refine AWP.skip ?_
 refine AWP.seq' (AWP.seq' ?_)
 have w1:IntKind.i64.wrap ((es.length:Int)+1)=es.length+1:=lJ (by omega)
 refine AWP.reg' λK hK=>?_
 try simp only[ak,am,al,eq_self,implies_true,forall_eq_or_imp,forall_eq,Nat.reduceEqDiff,↓reduceIte,Nat.reduceAdd,Nat.reduceLeDiff,Nat.reduceSub,Nat.reduceMul,Nat.reduceLT,Int.reduceBEq,Int.reduceBNe,Int.reduceToNat,Int.reduceLT,Int.reduceLE,Int.reduceAdd,Int.reduceSub,Int.reduceMul,reduceCtorEq,w1]
 refine hK _ _ _ ?_
 clear hK K
 refine AWP.cond (b:=decide ((cap:Int)<(es.length:Int)+1)) rfl (λh3=>?_) (λh3=>?_)
 ·have h3:cap=es.length:=by have:=of_decide_eq_true h3;omega
  refine AWP.seq' ?_
  have w2:IntKind.i64.wrap ((es.length:Int)+1-i)=es.length+1-i:=lJ (by omega)
  have hlt:¬((es.length:Int)<(i:Int)):=by omega
  refine AWP.reg' λK hK=>?_
  try simp only[ak,am,al,eq_self,implies_true,forall_eq_or_imp,forall_eq,Nat.reduceEqDiff,↓reduceIte,Nat.reduceAdd,Nat.reduceLeDiff,Nat.reduceSub,Nat.reduceMul,Nat.reduceLT,Int.reduceBEq,Int.reduceBNe,Int.reduceToNat,Int.reduceLT,Int.reduceLE,Int.reduceAdd,Int.reduceSub,Int.reduceMul,reduceCtorEq,w1,w2,eH,Int.toNat_natCast,hlt]
  repeat (refine And.intro (by omega) ?_)
  refine hK _ _ _ ?_
  clear hK K
  have hn:((es.length:Int)+1-i).toNat=es.length+1-i:=by omega
  rw[hn]
  generalize hL:es.take i++List.replicate (es.length+1-i) (AV.agg [AV.val (Value.int IntKind.i64 0),AV.val (Value.int IntKind.i64 0),AV.val (Value.int IntKind.i64 0),AV.val (Value.int IntKind.i64 0),AV.val (Value.int IntKind.i64 0)])=L
  have hLl:L.length=es.length+1:=by rw[←hL];simp;omega
  refine AWP.seq' ?_
  have hpos:0<es.length+1:=by omega
  have hsub:(((es.length+1:Nat):Int)-(i:Int)).toNat=es.length+1-i:=by omega
  have hmin:Nat.min 1 (es.length+1-i)=1:=Nat.min_eq_left (by omega)
  refine AWP.reg' λK hK=>?_
  try simp only[ak,am,al,eq_self,implies_true,forall_eq_or_imp,forall_eq,Nat.reduceEqDiff,↓reduceIte,Nat.reduceAdd,Nat.reduceLeDiff,Nat.reduceSub,Nat.reduceMul,Nat.reduceLT,Int.reduceBEq,Int.reduceBNe,Int.reduceToNat,Int.reduceLT,Int.reduceLE,Int.reduceAdd,Int.reduceSub,Int.reduceMul,reduceCtorEq,hLl,iC,ku,dN,Int.toNat_natCast,hpos,hsub,hmin]
  repeat (refine And.intro (by omega) ?_)
  refine hK _ _ _ ?_
  clear hK K
  have ht1:List.take 1 [x]=[x]:=rfl
  have w3:IntKind.i64.wrap ((i:Int)+1)=i+1:=lJ (by omega)
  generalize hM:over L i [x]=M
  have hMl:M.length=es.length+1:=by rw[←hM,ir (by omega),Nat.max_def];split<;>simp at *<;>omega
  refine AWP.seq' ?_
  have ha:((es.length:Int)-(i:Int)).toNat=es.length-i:=by omega
  have hb:(((es.length+1:Nat):Int)-((i:Int)+1)).toNat=es.length-i:=by omega
  have hc:((i:Int)+1).toNat=i+1:=by omega
  have hd:Nat.min (es.length-i) (es.length-i)=es.length-i:=Nat.min_self _
  have he:(es.drop i).take (es.length-i)=es.drop i:=List.take_of_length_le (by simp)
  have hf:(es.drop i).length=es.length-i:=List.length_drop ..
  refine AWP.dreg' λK hK=>?_
  try simp only[ak,am,al,eq_self,implies_true,forall_eq_or_imp,forall_eq,Nat.reduceEqDiff,↓reduceIte,Nat.reduceAdd,Nat.reduceLeDiff,Nat.reduceSub,Nat.reduceMul,Nat.reduceLT,Int.reduceBEq,Int.reduceBNe,Int.reduceToNat,Int.reduceLT,Int.reduceLE,Int.reduceAdd,Int.reduceSub,Int.reduceMul,reduceCtorEq,hMl,iC,ku,dN,Int.toNat_natCast,hpos,w3,ha,hb,hc,hd,he,hf]
  repeat (refine And.intro (by omega) ?_)
  refine⟨by rfl,hK _ _ _ ?_⟩
  clear hK K
  refine AWP.seq' ?_
  refine AWP.reg' λK hK=>?_
  try simp only[ak,am,al,eq_self,implies_true,forall_eq_or_imp,forall_eq,Nat.reduceEqDiff,↓reduceIte,Nat.reduceAdd,Nat.reduceLeDiff,Nat.reduceSub,Nat.reduceMul,Nat.reduceLT,Int.reduceBEq,Int.reduceBNe,Int.reduceToNat,Int.reduceLT,Int.reduceLE,Int.reduceAdd,Int.reduceSub,Int.reduceMul,reduceCtorEq]
  refine hK _ _ _ ?_
  clear hK K
  have hfin:over M (i+1) (es.drop i)=bM es i x:=by
   have hLi:L.take i=es.take i:=by
    rw[←hL,List.take_append_of_le_length (by simp;omega),List.take_take,Nat.min_self]
   have hMi:M.take (i+1)=es.take i++[x]:=by
    have e1:(es.take i++[x]).length=i+1:=by simp;omega
    rw[←hM,over,hLi,←e1]
    exact List.take_left
   have hMd:M.drop (i+1+(es.drop i).length)=[]:=List.drop_of_length_le (by rw[hMl,hf];omega)
   unfold over bM
   rw[hMi,hMd,List.append_nil]
  refine AWP.ret (gC [0,1,466] [(6,.vec 2)] rfl rfl ?_ ?_ rfl (by simp) ?_ (by simp))
  ·simp only[List.mem_singleton,forall_eq]
   exact⟨rfl,show(2:Nat)<3 by omega⟩
  ·refine⟨⟨?_,?_⟩,trivial⟩
   ·rw[(eu (m:=0) (dL hp.1 hp.2 i)).1,←hfin]
    rfl
   ·exact(eu (π:=id) (dL hp.1 hp.2 i)).2
  ·intro b hb
   match b,hb with
   | 0,_=>rfl
   | 1,_=>rfl
 have h3:es.length+1≤cap:=by have:=of_decide_eq_false h3;omega
 refine AWP.skip ?_
 refine AWP.seq' ?_
 have hgt:((es.length:Int)<(es.length:Int)+1):=by omega
 refine AWP.reg' λK hK=>?_
 try simp only[ak,am,al,eq_self,implies_true,forall_eq_or_imp,forall_eq,Nat.reduceEqDiff,↓reduceIte,Nat.reduceAdd,Nat.reduceLeDiff,Nat.reduceSub,Nat.reduceMul,Nat.reduceLT,Int.reduceBEq,Int.reduceBNe,Int.reduceToNat,Int.reduceLT,Int.reduceLE,Int.reduceAdd,Int.reduceSub,Int.reduceMul,reduceCtorEq,w1,hgt]
 repeat (refine And.intro (by omega) ?_)
 refine hK _ _ _ ?_
 clear hK K
 have w3:IntKind.i64.wrap ((i:Int)+1)=i+1:=lJ (by omega)
 refine AWP.seq' (AWP.seq' ?_)
 have hn1:((es.length:Int)+1).toNat=es.length+1:=by omega
 refine AWP.reg' λK hK=>?_
 try simp only[ak,am,al,eq_self,implies_true,forall_eq_or_imp,forall_eq,Nat.reduceEqDiff,↓reduceIte,Nat.reduceAdd,Nat.reduceLeDiff,Nat.reduceSub,Nat.reduceMul,Nat.reduceLT,Int.reduceBEq,Int.reduceBNe,Int.reduceToNat,Int.reduceLT,Int.reduceLE,Int.reduceAdd,Int.reduceSub,Int.reduceMul,reduceCtorEq,w3,Int.toNat_natCast,hn1]
 repeat (refine And.intro (by omega) ?_)
 refine JS rfl rfl (qp Tryz.func155 iq.1 iq.2 md me po mc (by omega) rfl rfl (by omega) (by simp) (by omega)) ?_
 try simp only[ak,am,al,eq_self,implies_true,forall_eq_or_imp,forall_eq,Nat.reduceEqDiff,↓reduceIte,Nat.reduceAdd,Nat.reduceLeDiff,Nat.reduceSub,Nat.reduceMul,Nat.reduceLT,Int.reduceBEq,Int.reduceBNe,Int.reduceToNat,Int.reduceLT,Int.reduceLE,Int.reduceAdd,Int.reduceSub,Int.reduceMul,reduceCtorEq,w3]
 refine hK _ _ _ ?_
 clear hK K
 refine AWP.cond (b:=true) rfl (λ_=>?_) (λh=>by cases h)
 refine AWP.seq' ?_
 have hb:(((es.length+1:Nat):Int)-((i:Int)+1)).toNat=es.length-i:=by omega
 have hc:((i:Int)+1).toNat=i+1:=by omega
 have hsub:(((es.length+1:Nat):Int)-(i:Int)).toNat=es.length+1-i:=by omega
 have hd:Nat.min (es.length+1-i) (es.length-i)=es.length-i:=Nat.min_eq_right (by omega)
 have he:(es.drop i).take (es.length+1-i)=es.drop i:=List.take_of_length_le (by simp;omega)
 have he2:(es.drop i).take (es.length-i)=es.drop i:=List.take_of_length_le (by simp)
 have hf:(es.drop i).length=es.length-i:=List.length_drop ..
 refine AWP.dreg' λK hK=>?_
 try simp only[ak,am,al,eq_self,implies_true,forall_eq_or_imp,forall_eq,Nat.reduceEqDiff,↓reduceIte,Nat.reduceAdd,Nat.reduceLeDiff,Nat.reduceSub,Nat.reduceMul,Nat.reduceLT,Int.reduceBEq,Int.reduceBNe,Int.reduceToNat,Int.reduceLT,Int.reduceLE,Int.reduceAdd,Int.reduceSub,Int.reduceMul,reduceCtorEq,w3,iC,ku,dN,Int.toNat_natCast,hb,hc,hsub,hd,he,he2,hf]
 repeat (refine And.intro (by omega) ?_)
 refine⟨by rfl,hK _ _ _ ?_⟩
 clear hK K
 have hMl:(over es (i+1) (es.drop i)).length=es.length+1:=by simp[over];omega
 have hMt:(over es (i+1) (es.drop i)).take i=es.take i:=by
  unfold over
  rw[List.append_assoc,List.take_append_of_le_length (by simp;omega),List.take_take,Nat.min_eq_left (by omega)]
 have hMd:(over es (i+1) (es.drop i)).drop (i+1)=es.drop i:=by
  unfold over
  have e1:(es.take (i+1)).length=i+1:=by simp;omega
  have e2:es.drop (i+1+(es.drop i).length)=[]:=List.drop_of_length_le (by simp;omega)
  rw[e2,List.append_nil]
  have e3:=List.drop_left (l₁:=es.take (i+1)) (l₂:=es.drop i)
  rw[e1]at e3;exact e3
 generalize hM:over es (i+1) (es.drop i)=M at *
 refine AWP.seq' ?_
 have hsub:(((es.length+1:Nat):Int)-(i:Int)).toNat=es.length+1-i:=by omega
 have hmin:Nat.min 1 (es.length+1-i)=1:=Nat.min_eq_left (by omega)
 have ht1:List.take 1 [x]=[x]:=rfl
 refine AWP.reg' λK hK=>?_
 try simp only[ak,am,al,eq_self,implies_true,forall_eq_or_imp,forall_eq,Nat.reduceEqDiff,↓reduceIte,Nat.reduceAdd,Nat.reduceLeDiff,Nat.reduceSub,Nat.reduceMul,Nat.reduceLT,Int.reduceBEq,Int.reduceBNe,Int.reduceToNat,Int.reduceLT,Int.reduceLE,Int.reduceAdd,Int.reduceSub,Int.reduceMul,reduceCtorEq,hMl,iC,ku,dN,Int.toNat_natCast,hsub,hmin]
 repeat (refine And.intro (by omega) ?_)
 refine hK _ _ _ ?_
 clear hK K
 refine AWP.seq' ?_
 refine AWP.reg' λK hK=>?_
 try simp only[ak,am,al,eq_self,implies_true,forall_eq_or_imp,forall_eq,Nat.reduceEqDiff,↓reduceIte,Nat.reduceAdd,Nat.reduceLeDiff,Nat.reduceSub,Nat.reduceMul,Nat.reduceLT,Int.reduceBEq,Int.reduceBNe,Int.reduceToNat,Int.reduceLT,Int.reduceLE,Int.reduceAdd,Int.reduceSub,Int.reduceMul,reduceCtorEq]
 refine hK _ _ _ ?_
 clear hK K
 have hfin:over M i [x]=bM es i x:=by
  unfold over bM
  rw[hMt,show i+[x].length=i+1 from rfl,hMd]
 have hfl:(bM es i x).length=es.length+1:=by unfold bM;simp;omega
 rw[hfin]
 refine AWP.ret (gf (ay.row (b:=402) (cap:=cap) (k:=5) (es:=bM es i x) (by rw[hfl];rfl)) (gC [0,1,402] [(6,.vec 2)] rfl rfl ?_ ?_ rfl (by simp) ?_ (by simp)))
 ·simp only[List.mem_singleton,forall_eq]
  exact⟨rfl,show(2:Nat)<3 by omega⟩
 ·refine⟨⟨?_,?_⟩,trivial⟩
  ·rw[(eu (m:=0) (dL hp.1 hp.2 i)).1]
   rfl
  ·exact(eu (π:=id) (dL hp.1 hp.2 i)).2
 ·intro b hb
  match b,hb with
  | 0,_=>rfl
  | 1,_=>rfl
theorem uC(x:AV)(hx:x.solid=true)(hp:x.pure) :
  aH Tryz.prog 129 [.vec 0,.int 0,.vec 1] [.vec 5 [],.vec 5 [x]] (.vec 2) [none,none,some (.vec 5 [x])]:=by
 have hml:=bj
 refine aH.walk Tryz.func129 uj (by simp[uk]) ?_
 unfold uk
 simp only[eT,fm,List.length_cons,List.length_nil]
 refine AWP.seq' ?_
 refine AWP.reg' λK hK=>?_
 try simp only[ak,am,al,eq_self,implies_true,forall_eq_or_imp,forall_eq,Nat.reduceEqDiff,↓reduceIte,Nat.reduceAdd,Nat.reduceLeDiff,Nat.reduceSub,Nat.reduceMul,Nat.reduceLT,Int.reduceBEq,Int.reduceBNe,Int.reduceToNat,Int.reduceLT,Int.reduceLE,Int.reduceAdd,Int.reduceSub,Int.reduceMul,reduceCtorEq]
 refine hK _ _ _ ?_
 clear hK K
 refine AWP.seq' ?_
 refine AWP.reg' λK hK=>?_
 try simp only[ak,am,al,eq_self,implies_true,forall_eq_or_imp,forall_eq,Nat.reduceEqDiff,↓reduceIte,Nat.reduceAdd,Nat.reduceLeDiff,Nat.reduceSub,Nat.reduceMul,Nat.reduceLT,Int.reduceBEq,Int.reduceBNe,Int.reduceToNat,Int.reduceLT,Int.reduceLE,Int.reduceAdd,Int.reduceSub,Int.reduceMul,reduceCtorEq]
 refine hK _ _ _ ?_
 clear hK K
 refine AWP.seq' ?_
 refine AWP.reg' λK hK=>?_
 try simp only[ak,am,al,eq_self,implies_true,forall_eq_or_imp,forall_eq,Nat.reduceEqDiff,↓reduceIte,Nat.reduceAdd,Nat.reduceLeDiff,Nat.reduceSub,Nat.reduceMul,Nat.reduceLT,Int.reduceBEq,Int.reduceBNe,Int.reduceToNat,Int.reduceLT,Int.reduceLE,Int.reduceAdd,Int.reduceSub,Int.reduceMul,reduceCtorEq]
 refine hK _ _ _ ?_
 clear hK K
 refine AWP.seq' (AWP.seq' ?_)
 refine AWP.reg' λK hK=>?_
 try simp only[ak,am,al,eq_self,implies_true,forall_eq_or_imp,forall_eq,Nat.reduceEqDiff,↓reduceIte,Nat.reduceAdd,Nat.reduceLeDiff,Nat.reduceSub,Nat.reduceMul,Nat.reduceLT,Int.reduceBEq,Int.reduceBNe,Int.reduceToNat,Int.reduceLT,Int.reduceLE,Int.reduceAdd,Int.reduceSub,Int.reduceMul,reduceCtorEq]
 refine hK _ _ _ ?_
 clear hK K
 refine AWP.cond (b:=false) rfl (λh=>by cases h) (λ_=>?_)
 refine AWP.skip ?_
 refine AWP.seq' ?_
 refine AWP.reg' λK hK=>?_
 try simp only[ak,am,al,eq_self,implies_true,forall_eq_or_imp,forall_eq,Nat.reduceEqDiff,↓reduceIte,Nat.reduceAdd,Nat.reduceLeDiff,Nat.reduceSub,Nat.reduceMul,Nat.reduceLT,Int.reduceBEq,Int.reduceBNe,Int.reduceToNat,Int.reduceLT,Int.reduceLE,Int.reduceAdd,Int.reduceSub,Int.reduceMul,reduceCtorEq]
 refine hK _ _ _ ?_
 clear hK K
 refine AWP.seq' (AWP.seq' ?_)
 refine AWP.reg' λK hK=>?_
 try simp only[ak,am,al,eq_self,implies_true,forall_eq_or_imp,forall_eq,Nat.reduceEqDiff,↓reduceIte,Nat.reduceAdd,Nat.reduceLeDiff,Nat.reduceSub,Nat.reduceMul,Nat.reduceLT,Int.reduceBEq,Int.reduceBNe,Int.reduceToNat,Int.reduceLT,Int.reduceLE,Int.reduceAdd,Int.reduceSub,Int.reduceMul,reduceCtorEq]
 refine hK _ _ _ ?_
 clear hK K
 refine AWP.cond (b:=true) rfl (λh=>?_) (λh=>by cases h)
 refine AWP.seq' ?_
 refine AWP.reg' λK hK=>?_
 try simp only[ak,am,al,eq_self,implies_true,forall_eq_or_imp,forall_eq,Nat.reduceEqDiff,↓reduceIte,Nat.reduceAdd,Nat.reduceLeDiff,Nat.reduceSub,Nat.reduceMul,Nat.reduceLT,Int.reduceBEq,Int.reduceBNe,Int.reduceToNat,Int.reduceLT,Int.reduceLE,Int.reduceAdd,Int.reduceSub,Int.reduceMul,reduceCtorEq,aZ,dN]
 repeat (refine And.intro (by omega) ?_)
 refine hK _ _ _ ?_
 clear hK K
 refine AWP.ret (gC [0,1,274] [(6,.vec 2)] rfl rfl ?_ ?_ rfl (by simp) ?_ (by simp))
 ·simp only[List.mem_singleton,forall_eq]
  exact⟨rfl,show(2:Nat)<3 by omega⟩
 ·have hp':aR [x]:=⟨hp,trivial⟩
  refine⟨⟨?_,?_⟩,trivial⟩
  ·rw[(eu (m:=0) hp').1]
   rfl
  ·exact(eu (π:=id) hp').2
 ·intro b hb
  match b,hb with
  | 0,_=>rfl
  | 1,_=>rfl
theorem rH(es:List AV)(x:AV)(i:Nat)(hi:i≤es.length)(hx:x.solid=true)(hs:es.length≤1000000)(hp:aR es∧x.pure) :
  aH Tryz.prog 129 [.vec 0,.int i,.vec 1] [.vec 5 es,.vec 5 [x]] (.vec 2) [none,none,some (.vec 5 (bM es i x))]:=by
 refine aH.of_row (λcap h1 h2=>uB es x i cap hi hx h1 h2 hs hp) (λh=>?_)
 subst h
 have:i=0:=by simpa using hi
 subst this
 exact uC x hx hp.2
theorem yM:j5 Tryz.prog 129:=ap (by kernel_rfl)
def Gz:AF:=
 ⟨33,3,[.tmp 6],
 .seq (.reg [⟨(some 6),.move (.c (.sl 0 [] true)),none⟩])
 (.seq (.reg [⟨(some 8),.move (.t 0),none⟩,⟨(some 9),.move (.t 1),none⟩,⟨(some 10),.move (.t 2),none⟩,⟨(some 11),.move (.t 0),none⟩,⟨(some 12),.len (.t 11),none⟩,⟨(some 13),.slice 5 (.t 8) (some (.t 9)) (some (.t 10)) (some (.t 12)),none⟩])
 (.seq (.seq (.reg [⟨(some 14),.move (.t 1),none⟩,⟨(some 15),.move (.t 2),none⟩,⟨(some 16),.bin .eql (.t 14) (.t 15),none⟩])
 (.cond (.t 16) (.seq (.reg [⟨(some 17),.move (.t 0),none⟩,⟨(some 6),.move (.t 17),none⟩])
 (.ret)) (.skip)))
 (.seq (.reg [⟨(some 18),.move (.t 0),none⟩,⟨(some 19),.len (.t 18),none⟩,⟨(some 7),.move (.t 19),none⟩])
 (.seq (.dreg [⟨(some 20),.move (.t 0),none⟩,⟨(some 21),.move (.t 1),none⟩,⟨(some 22),.slice 5 (.t 20) none (some (.t 21)) none,none⟩,⟨(some 23),.move (.t 0),none⟩,⟨(some 24),.move (.t 2),none⟩,⟨(some 25),.slice 5 (.t 23) (some (.t 24)) none none,none⟩,⟨(some 26),.append 5 40 (.t 22) (.t 25),none⟩,⟨(some 0),.move (.t 26),none⟩] [(2,5)])
 (.seq (.reg [⟨(some 27),.move (.t 0),none⟩,⟨(some 28),.move (.t 0),none⟩,⟨(some 29),.len (.t 28),none⟩,⟨(some 30),.move (.t 7),none⟩,⟨(some 31),.slice 5 (.t 27) (some (.t 29)) (some (.t 30)) none,none⟩,⟨none,.clear 5 ((.agg [(.val (.int .i64 0)),(.val (.int .i64 0)),(.val (.int .i64 0)),(.val (.int .i64 0)),(.val (.int .i64 0))])) (.t 31),none⟩])
 (.seq (.reg [⟨(some 32),.move (.t 0),none⟩,⟨(some 6),.move (.t 32),none⟩])
 (.ret)))))))⟩
theorem Gy:fp Tryz.prog Tryz.f128=some Gz:=by kernel_rfl
theorem yO:j5 Tryz.prog 128:=ap (by kernel_rfl)
def fo{α:Type}(es:List α)(i:Nat):List α:=es.take i++es.drop (i+1)
theorem kV{es:List AV}(h:aR es)(i:Nat):aR (fo es i):=gu (lU h i) (lV h (i+1))
theorem rK(es:List AV)(i:Nat)(hi:i<es.length)(hs:es.length≤1000000)(hp:aR es) :
  aH Tryz.prog 128 [.vec 0,.int i,.int ((i+1:Nat):Int)] [.vec 5 es] (.vec 1) [none,some (.vec 5 (fo es i))]:=by
 refine aH.of_row (λcap h1 h2=>?_) (λh=>by subst h;simp at hi)
 have hml:=bj
 refine aH.walk Tryz.func128 Gy (by simp[Gz]) ?_
 unfold Gz
 simp only[eT,fm,List.length_cons,List.length_nil]
 have e1:((i:Int)==((i+1:Nat):Int))=false:=by simp;omega
 repeat (first
  | refine AWP.seq' ?_
  | refine AWP.skip ?_
  | (refine AWP.reg' λK hK=>?_;simp only[ak,am,al,eq_self,implies_true,forall_eq_or_imp,forall_eq,Nat.reduceEqDiff,↓reduceIte,Nat.reduceAdd,Nat.reduceLeDiff,Nat.reduceSub,Nat.reduceMul,Nat.reduceLT,Int.reduceBEq,Int.reduceBNe,Int.reduceToNat,Int.reduceLT,Int.reduceLE,Int.reduceAdd,Int.reduceSub,Int.reduceMul,reduceCtorEq,e1];(repeat (refine And.intro (by omega) ?_));refine hK _ _ _ ?_;clear hK K))
 refine AWP.cond (b:=false) rfl (λh=>by cases h) (λh=>?_)
 repeat (first
  | refine AWP.seq' ?_
  | refine AWP.skip ?_
  | (refine AWP.reg' λK hK=>?_;simp only[ak,am,al,eq_self,implies_true,forall_eq_or_imp,forall_eq,Nat.reduceEqDiff,↓reduceIte,Nat.reduceAdd,Nat.reduceLeDiff,Nat.reduceSub,Nat.reduceMul,Nat.reduceLT,Int.reduceBEq,Int.reduceBNe,Int.reduceToNat,Int.reduceLT,Int.reduceLE,Int.reduceAdd,Int.reduceSub,Int.reduceMul,reduceCtorEq];(repeat (refine And.intro (by omega) ?_));refine hK _ _ _ ?_;clear hK K))
 have g1:((es.length:Int)-((i+1:Nat):Int)).toNat=es.length-(i+1):=by omega
 have g2:((i:Int)-0).toNat=i:=by omega
 have g3:(es.drop (i+1)).take (es.length-(i+1))=es.drop (i+1):=List.take_of_length_le (by simp)
 have g4:(es.drop (i+1)).length=es.length-(i+1):=List.length_drop ..
 have g5:i+(es.length-(i+1))=es.length-1:=by omega
 have g6:¬((es.length:Int)<(i:Int)):=by omega
 have g7:i+1+(es.length-(i+1))≤es.length:=by omega
 refine AWP.dreg' λK hK=>?_
 try simp only[ak,am,al,eq_self,implies_true,forall_eq_or_imp,forall_eq,Nat.reduceEqDiff,↓reduceIte,Nat.reduceAdd,Nat.reduceLeDiff,Nat.reduceSub,Nat.reduceMul,Nat.reduceLT,Int.reduceBEq,Int.reduceBNe,Int.reduceToNat,Int.reduceLT,Int.reduceLE,Int.reduceAdd,Int.reduceSub,Int.reduceMul,reduceCtorEq,aZ,dN,g1,g2,g3,g4,g5,g6,g7]
 repeat (refine And.intro (by omega) ?_)
 refine⟨by rfl,hK _ _ _ ?_⟩
 clear hK K
 have hd:es.take i++es.drop (i+1)=fo es i:=rfl
 have hdl:(fo es i).length=es.length-1:=by unfold fo;simp;omega
 refine AWP.seq' ?_
 have g8:((es.length:Int)-((es.length-1:Nat):Int)).toNat=1:=by omega
 refine AWP.reg' λK hK=>?_
 try simp only[ak,am,al,eq_self,implies_true,forall_eq_or_imp,forall_eq,Nat.reduceEqDiff,↓reduceIte,Nat.reduceAdd,Nat.reduceLeDiff,Nat.reduceSub,Nat.reduceMul,Nat.reduceLT,Int.reduceBEq,Int.reduceBNe,Int.reduceToNat,Int.reduceLT,Int.reduceLE,Int.reduceAdd,Int.reduceSub,Int.reduceMul,reduceCtorEq,hd,hdl,g8,iD]
 repeat (refine And.intro (by omega) ?_)
 refine hK _ _ _ ?_
 clear hK K
 repeat (first
  | refine AWP.seq' ?_
  | refine AWP.skip ?_
  | (refine AWP.reg' λK hK=>?_;simp only[ak,am,al,eq_self,implies_true,forall_eq_or_imp,forall_eq,Nat.reduceEqDiff,↓reduceIte,Nat.reduceAdd,Nat.reduceLeDiff,Nat.reduceSub,Nat.reduceMul,Nat.reduceLT,Int.reduceBEq,Int.reduceBNe,Int.reduceToNat,Int.reduceLT,Int.reduceLE,Int.reduceAdd,Int.reduceSub,Int.reduceMul,reduceCtorEq];(repeat (refine And.intro (by omega) ?_));refine hK _ _ _ ?_;clear hK K))
 refine AWP.ret (gf (ay.row (b:=305) (cap:=cap) (k:=5) (es:=fo es i) (by rw[hdl];rfl)) (gC [0,305] [(6,.vec 1)] rfl rfl ?_ ?_ rfl (by simp) ?_ (by simp)))
 ·simp only[List.mem_singleton,forall_eq]
  exact⟨rfl,show(1:Nat)<2 by omega⟩
 ·refine⟨⟨?_,?_⟩,trivial⟩
  ·rw[(eu (m:=0) (kV hp i)).1]
   rfl
  ·exact(eu (π:=id) (kV hp i)).2
 ·intro b hb
  match b,hb with
  | 0,_=>rfl
theorem CF{α β:Type}(f:α→β)(l:List α)(i:Nat):fo (l.map f) i=(fo l i).map f:=by simp[fo]
def OY(l:List Lnk)(i j:Int)(hi:(0≤i∧i<l.length)∧j=i+1)(hl:l.length≤1000000):HC Tryz.prog:=
 ⟨128,[.k,.k,.k],[.vec 0,.int i,.int j],[.vec 5 (l.map Lnk.v)],.vec 1,[none,some (.vec 5 ((fo l i.toNat).map Lnk.v))],by
  have h:=rK (l.map Lnk.v) i.toNat (by rw[List.length_map];omega) (by simpa using hl) (aB (ab (λ_=>rfl) l))
  rw[CF]at h
  have e1:((i.toNat:Nat):Int)=i:=by omega
  have e2:((i.toNat+1:Nat):Int)=j:=by omega
  rw[e1,e2]at h
  exact h,yO,fw.of (by simp[hcB,cV,AV.belB,allB,eN,dR,ab (v:=Lnk.v) (λ_=>rfl),bJ,AV.pureB])⟩
def Od(l:List Lnk)(x:Lnk)(i:Int)(hi:0≤i∧i≤l.length)(hl:l.length≤1000000):HC Tryz.prog:=
 ⟨129,[.k,.k,.k],[.vec 0,.int i,.vec 1],[.vec 5 (l.map Lnk.v),.vec 5 [x.v]],.vec 2,[none,none,some (.vec 5 ((bM l i.toNat x).map Lnk.v))],by
  have h:=rH (l.map Lnk.v) (Lnk.v x) i.toNat (by rw[List.length_map];omega) rfl (by simpa using hl) ⟨aB (ab (λ_=>rfl) l),AV.pureB_ok rfl⟩
  rw[Ci]at h
  have e1:((i.toNat:Nat):Int)=i:=by omega
  rw[e1]at h
  exact h,yM,fw.of (by have e:x.v.pureB=true:=rfl;simp[e,hcB,cV,AV.belB,allB,eN,dR,ab (v:=Lnk.v) (λ_=>rfl),bJ,AV.pureB])⟩
def Py(s:List Lnk):=okL [.sl 5 (s.map Lnk.v) false]
def rc(r:List Lnk):AV:=.vec 0
def re(r:List Lnk):List (Option Blk):=[some (.vec 5 (r.map Lnk.v))]
def yc(s:List Lnk):Ax Tryz.prog noS ((List Lnk)):=
 (.allB (λb1=>((s.map Lnk.v)≠[]→b1=false)) λb1 =>
(.br 48 (b1 != false) (.cmdL (.nilT 2 5) (.retH [] ⟨[(2,.k,.vec 0)],[.vec 5 [] rfl]⟩ [64]))
(.say (λR=>Rf (α:=List AV) [] (Rf (α:=List AV) (s.map Lnk.v)
(ck (decide (0+s.length≤1048576))
R))) (.app 80 Lnk.v [] s
(.retH s ⟨[(2,.k,.vec 0)],[.vec 5 (s.map Lnk.v) (ab (λ_=>rfl) s)]⟩ [80])))))
def Bw(s:List Lnk)(r0:List Lnk):=(yc s).vc rc re r0
theorem Pw(s:List Lnk)(h:s.length≤1000000)(ok:Py s):Bw s s:=by
 dsimp only[Bw,yc,noS,Ax.vp,Ax.vc];simp only[vcU,rfU,List.length_map]
 intro b hb
 refine⟨λh1=>?_,λ_=>by first|omega|exact⟨by omega,trivial⟩|(trace_state;simpa using h)⟩
 cases s with
 | nil=>rfl
 | cons x s=>simp at hb;simp[hb]at h1
def Px(s:List Lnk)(h:s.length≤1000000):HC Tryz.prog:=⟨127,[(.s 5)],[.sl 5 (s.map Lnk.v) false],[],rc s,re s,aH.of_okh λok _=>dh (sh:=.k) (enc:=rc) (hB:=re) (a:=(yc s).an) (Pw s h ok) (by kernel_rfl),ap (by kernel_rfl),fw.of (by simp[hcB,cV,AV.belB,allB,eN,dR,rc,re,ab (v:=Lnk.v) (λ_=>rfl)])⟩
def Pv(s:List Rtr):=okL [.sl 2 (s.map Rtr.v) false]
def xZ(r:List Rtr):AV:=.sl 2 (r.map Rtr.v) false
def xY(s:List Rtr):Ax Tryz.prog noS ((List Rtr)):=
 (.allB (λb1=>((s.map Rtr.v)≠[]→b1=false)) λb1 =>
(.br 48 (b1 != false) (.ret ([]))
(.say (λR=>Rf (α:=List AV) [] (Rf (α:=List AV) (s.map Rtr.v)
(ck (decide (0+s.length≤1048576))
R))) (.app 80 Rtr.v [] s
(.say (Rf (s.map Rtr.v)) (.cmdL (.frzE 80 (s.map Rtr.v) (ab (λ_=>rfl) s)) (.ret (s))))))))
def Bv(s:List Rtr)(r0:List Rtr):=(xY s).vp xZ r0
theorem Pt(s:List Rtr)(h:s.length≤1000000)(ok:Pv s):Bv s s:=by
 dsimp only[Bv,xY,noS,Ax.vp,Ax.vc];simp only[vcU,rfU,List.length_map]
 intro b hb
 refine⟨λh1=>?_,λ_=>by first|omega|exact⟨by omega,trivial⟩|(trace_state;simpa using h)⟩
 cases s with
 | nil=>rfl
 | cons x s=>simp at hb;simp[hb]at h1
def Pu(s:List Rtr)(h:s.length≤1000000):PC Tryz.prog:=⟨126,[(.s 2)],[.sl 2 (s.map Rtr.v) false],xZ s,aw.of_ok λok=>av (sh:=(.s 2)) (enc:=xZ) (a:=(xY s).an) (Pt s h ok) (by kernel_rfl) (AV.pureB_ok rfl),ap (by kernel_rfl)⟩
def Cr(t:Tpl)(r:Int):Rtr×Bool:=if lw t.rs r=true then(t.rs.getD (lW t.rs r) ⟨0,false⟩,true)else(⟨0,false⟩,false)
def O7(t:Tpl)(router:Int):=okL [.agg [.sl 2 (t.rs.map Rtr.v) false,.sl 5 (t.ls.map Lnk.v) false],.int router]
def xf(r:Rtr×Bool):AV:=.tup [Rtr.v r.1,.bool r.2]
def xe(t:Tpl)(router:Int):Ax Tryz.prog noS (Rtr×Bool):=
 (.req 96 (t.rs.length≤1000000) λh1 =>
(.callP (Mf t.rs router h1)
(.br 224 (!(lw t.rs router)) (.ret ((⟨0,false⟩:Rtr),false))
(.el 272 Rtr.v t.rs (λR=>Rf (t.rs.map Rtr.v) (ck (decide (0≤(lW t.rs router:Int))) (ck (decide ((lW t.rs router:Int)<(t.rs.length:Int)))
(∀x2,t.rs[(lW t.rs router:Int).toNat]?=some x2 →
(R x2))))) λx2 =>
(.ret (x2,true))))))
def AJ(t:Tpl)(router:Int)(r0:Rtr×Bool):=(xe t router).vp xf r0
theorem O5(t:Tpl)(r:Int)(h:t.rs.length≤1000000)(ok:O7 t r):AJ t r (Cr t r):=by
 dsimp only[AJ,xe,noS,Ax.vp,Ax.vc];simp only[vcU,rfU,List.length_map]
 unfold Cr
 refine⟨h,λc=>by rw[if_neg (by simpa using c)],λc=>?_⟩
 have c:lw t.rs r=true:=by simpa using c
 have hp:lW t.rs r<t.rs.length:=by
  refine Classical.byContradiction λq=>?_
  unfold lw bsH at c
  rw[List.getElem?_eq_none (by unfold lW at q;omega)]at c;cases c
 refine⟨by omega,by omega,λx hx=>?_⟩
 rw[Int.toNat_natCast]at hx
 rw[if_pos c,List.getD_eq_getElem?_getD,hx];rfl
def O6(t:Tpl)(router:Int)(h:t.rs.length≤1000000):PC Tryz.prog:=⟨154,[(.a [(.s 2),(.s 5)]),.k],[.agg [.sl 2 (t.rs.map Rtr.v) false,.sl 5 (t.ls.map Lnk.v) false],.int router],xf (Cr t router),aw.of_ok λok=>av (sh:=.k) (enc:=xf) (a:=(xe t router).an) (O5 t router h ok) (by kernel_rfl) (AV.pureB_ok rfl),ap (by kernel_rfl)⟩
def Ox(t:Tpl)(router:Int):=okL [.agg [.sl 2 (t.rs.map Rtr.v) false,.sl 5 (t.ls.map Lnk.v) false],.int router]
def wR(r:Bool):AV:=.bool r
def wQ(t:Tpl)(router:Int):Ax Tryz.prog noS (Bool):=
 (.req 64 (t.rs.length≤1000000) λh1 =>
(.callP (O6 t router h1)
(.callP (uK t)
(.br 224 (ie t) (.ret ((Cr t router).2))
(.ret (false))))))
def AA(t:Tpl)(router:Int)(r0:Bool):=(wQ t router).vp wR r0
theorem Ow(t:Tpl)(r:Int)(h:t.rs.length≤1000000)(ok:Ox t r):AA t r (hs5 t r):=by
 dsimp only[AA,wQ,noS,Ax.vp,Ax.vc];simp only[vcU,rfU,List.length_map]
 refine⟨h,λc=>?_,λc=>?_⟩
 ·have hc:aJ t=0:=by unfold ie at c;exact eq_of_beq c
  have e:(Cr t r).2=lw t.rs r:=by
   unfold Cr;split
   ·rename_i q;rw[q]
   ·rename_i q;simpa using q
  rw[e,(mP (aC hc).asc r).1]
  unfold hs5 aI;rw[hc];rfl
 ·unfold ie at c;unfold hs5;rw[c];rfl
def Fn(t:Tpl)(router:Int)(h:t.rs.length≤1000000):PC Tryz.prog:=⟨124,[(.a [(.s 2),(.s 5)]),.k],[.agg [.sl 2 (t.rs.map Rtr.v) false,.sl 5 (t.ls.map Lnk.v) false],.int router],wR (hs5 t router),aw.of_ok λok=>av (sh:=.k) (enc:=wR) (a:=(wQ t router).an) (Ow t router h ok) (by kernel_rfl) (AV.pureB_ok rfl),ap (by kernel_rfl)⟩
structure Chg where
  a:Int
  b:Int
  ca:Int
  cb:Int
  deriving DecidableEq
def Chg.v(c:Chg):AV:=.agg [.int c.a,.int c.b,.int c.ca,.int c.cb]
structure Rnk where
  r:Int
  n:Int
  deriving DecidableEq
def Rnk.v(c:Rnk):AV:=.agg [.int c.r,.int c.n]
def lu(c:Chg):Bool:=c.ca==0 && c.cb==0
def eP(c:Chg):Lnk:=if c.b<c.a then⟨c.b,c.a,c.cb,c.ca,0⟩else⟨c.a,c.b,c.ca,c.cb,0⟩
def bT(t:Tpl)(c:Chg):Tpl×Int:=
 if ¬aJ t=0 then(⟨[],[]⟩,1)
 else if hs5 t c.a=false∨hs5 t c.b=false then(⟨[],[]⟩,4)
 else if c.a=c.b then(⟨[],[]⟩,8)
 else if lu c=false∧(gE c.ca=false∨gE c.cb=false)then(⟨[],[]⟩,2)
 else if lu c=true∧dW t.ls (eP c)=false then(⟨[],[]⟩,9)
 else if dW t.ls (eP c)=false∧t.ls.length=60 then(⟨[],[]⟩,3)
 else if lu c=true then(⟨t.rs,fo t.ls (bE t.ls (eP c))⟩,0)
 else if dW t.ls (eP c)=true then(⟨t.rs,t.ls.set (bE t.ls (eP c)) { eP c with w:=(t.ls.getD (bE t.ls (eP c)) ⟨0,0,0,0,0⟩).w }⟩,0)
 else(⟨t.rs,bM t.ls (bE t.ls (eP c)) (eP c)⟩,0)
theorem yp{α:Type}{lt:α→Bool}{l:List α}:∀{f i j:Nat},i≤j→bsI lt l f i j≤j
 | 0,i,j,h=>h
 | f+1,i,j,h=>by
  unfold bsI
  split
  ·split
   ·split
    ·exact yp (by omega)
    ·have:=@yp α lt l f i ((i+j) / 2) (by omega)
     omega
   ·exact h
  ·exact h
theorem IU(l:List Lnk)(y:Lnk):bE l y≤l.length:=yp (Nat.zero_le _)
def Hf(t:Tpl)(c:Chg):=okL [.agg [.sl 2 (t.rs.map Rtr.v) false,.sl 5 (t.ls.map Lnk.v) false],.agg [.int c.a,.int c.b,.int c.ca,.int c.cb]]
def LB(t:Tpl)(c:Chg)(t0:Lnk):NF:=⟨[(2,.k,.ref 0 0),(3,.k,.ref 1 0),(4,.k,.ref 2 0),(6,.k,.ref 3 0)],[.box (.agg [.sl 2 (t.rs.map Rtr.v) false,.sl 5 (t.ls.map Lnk.v) false]),.box (.agg [.int c.a,.int c.b,.int c.ca,.int c.cb]),.box (.agg [.sl 0 [] true,.sl 0 [] true]),.box (.agg [.int t0.a,.int t0.b,.int t0.ca,.int t0.cb,.int t0.w])]⟩
def LA(t:Tpl)(c:Chg)(t0:Lnk)(t1:Bool):NF:=⟨[(2,.k,.ref 0 0),(3,.k,.ref 1 0),(4,.k,.ref 2 0),(6,.k,.ref 3 0),(7,.k,.bool t1)],[.box (.agg [.sl 2 (t.rs.map Rtr.v) false,.sl 5 (t.ls.map Lnk.v) false]),.box (.agg [.int c.a,.int c.b,.int c.ca,.int c.cb]),.box (.agg [.sl 0 [] true,.sl 0 [] true]),.box (.agg [.int t0.a,.int t0.b,.int t0.ca,.int t0.cb,.int t0.w])]⟩
def L9(t:Tpl)(c:Chg)(t0:Lnk)(t1:Bool)(t2:Bool):NF:=⟨[(2,.k,.ref 0 0),(3,.k,.ref 1 0),(4,.k,.ref 2 0),(6,.k,.ref 3 0),(7,.k,.bool t1),(8,.k,.int (bE t.ls t0:Int)),(9,.k,.bool (dW t.ls t0)),(53,.k,.bool t2)],[.box (.agg [.sl 2 (t.rs.map Rtr.v) false,.sl 5 (t.ls.map Lnk.v) false]),.box (.agg [.int c.a,.int c.b,.int c.ca,.int c.cb]),.box (.agg [.sl 0 [] true,.sl 0 [] true]),.box (.agg [.int t0.a,.int t0.b,.int t0.ca,.int t0.cb,.int t0.w])]⟩
def L8(t:Tpl)(t0:Lnk)(t1:Bool)(t3:Bool):NF:=⟨[(2,.k,.ref 0 0),(4,.k,.ref 1 0),(6,.k,.ref 2 0),(7,.k,.bool t1),(8,.k,.int (bE t.ls t0:Int)),(9,.k,.bool (dW t.ls t0)),(74,.k,.bool t3)],[.box (.agg [.sl 2 (t.rs.map Rtr.v) false,.sl 5 (t.ls.map Lnk.v) false]),.box (.agg [.sl 0 [] true,.sl 0 [] true]),.box (.agg [.int t0.a,.int t0.b,.int t0.ca,.int t0.cb,.int t0.w])]⟩
def L7(t:Tpl)(t0:Lnk)(t1:Bool)(t4:Bool):NF:=⟨[(2,.k,.ref 0 0),(4,.k,.ref 1 0),(6,.k,.ref 2 0),(7,.k,.bool t1),(8,.k,.int (bE t.ls t0:Int)),(9,.k,.bool (dW t.ls t0)),(90,.k,.bool t4)],[.box (.agg [.sl 2 (t.rs.map Rtr.v) false,.sl 5 (t.ls.map Lnk.v) false]),.box (.agg [.sl 0 [] true,.sl 0 [] true]),.box (.agg [.int t0.a,.int t0.b,.int t0.ca,.int t0.cb,.int t0.w])]⟩
def L6(t:Tpl)(t0:Lnk)(t1:Bool)(t5:Bool):NF:=⟨[(2,.k,.ref 0 0),(4,.k,.ref 1 0),(6,.k,.ref 2 0),(7,.k,.bool t1),(8,.k,.int (bE t.ls t0:Int)),(9,.k,.bool (dW t.ls t0)),(97,.k,.bool t5)],[.box (.agg [.sl 2 (t.rs.map Rtr.v) false,.sl 5 (t.ls.map Lnk.v) false]),.box (.agg [.sl 0 [] true,.sl 0 [] true]),.box (.agg [.int t0.a,.int t0.b,.int t0.ca,.int t0.cb,.int t0.w])]⟩
@[reducible] def He:Nat→Type
 | 0=>Lnk
 | 1=>Bool
 | 2=>Bool
 | 3=>Bool
 | 4=>Bool
 | 5=>Bool
 | _=>Unit
def yA(r:Tpl×Int):AV:=.tup [Tpl.v r.1,.int r.2]
def y7(t:Tpl)(c:Chg)(I0:Lnk→Prop)(I1:Lnk→Bool→Prop)(I2:Lnk→Bool→Bool→Prop)(I3:Lnk→Bool→Bool→Bool→Prop)(I4:Lnk→Bool→Bool→Bool→Bool→Prop)(I5:Lnk→Bool→Bool→Bool→Bool→Bool→Prop):Ax Tryz.prog He (Tpl×Int):=
 (.callP (uK t)
(.br 112 (!(ie t)) (.ret ((⟨[],[]⟩:Tpl),1))
(.pass (.join 0 (LB t c) (λ(t0:Lnk)=>I0 t0) (λb0=>(.br 368 (decide (c.b<c.a)) (.bk 0 b0 (((⟨c.b,c.a,c.cb,c.ca,0⟩:Lnk)):Lnk) [0,16,32,256])
(.bk 0 b0 (((⟨c.a,c.b,c.ca,c.cb,0⟩:Lnk)):Lnk) [0,16,32,256]))) λ(t0:Lnk) =>
(.join 1 (LA t c t0) (λ(t1:Bool)=>I1 t0 t1) (λb1=>(.br 68 (c.ca==0) (.bk 1 b1 ((c.cb==0):Bool) [0,1,2,3])
(.bk 1 b1 ((false):Bool) [0,1,2,3]))) λ(t1:Bool) =>
(.req 52 (t.ls.length≤1000000) λh1 =>
(.callP (Mi t.ls t0 h1)
(.pass (.join 2 (L9 t c t0 t1) (λ(t2:Bool)=>I2 t0 t1 t2) (λb2=>(.req 196 (t.rs.length≤1000000) λh2 =>
(.callP (Fn t c.a h2)
(.br 244 (!(hs5 t c.a)) (.bk 2 b2 ((true):Bool) [0,1,2,3])
(.req 292 (t.rs.length≤1000000) λh3 =>
(.callP (Fn t c.b h3)
(.bk 2 b2 ((!(hs5 t c.b)):Bool) [0,1,2,3]))))))) λ(t2:Bool) =>
(.br 4 t2 (.ret ((⟨[],[]⟩:Tpl),4))
(.br 100 (c.a==c.b) (.ret ((⟨[],[]⟩:Tpl),8))
(.join 3 (L8 t t0 t1) (λ(t3:Bool)=>I3 t0 t1 t2 t3) (λb3=>(.br 148 (!t1) (.callP (ob c.ca 1 1000)
(.br 228 (!(inT c.ca 1 1000)) (.bk 3 b3 ((true):Bool) [0,2,3])
(.callP (ob c.cb 1 1000)
(.bk 3 b3 ((!(inT c.cb 1 1000)):Bool) [0,2,3]))))
(.bk 3 b3 ((false):Bool) [0,2,3]))) λ(t3:Bool) =>
(.br 3 t3 (.ret ((⟨[],[]⟩:Tpl),2))
(.join 4 (L7 t t0 t1) (λ(t4:Bool)=>I4 t0 t1 t2 t3 t4) (λb4=>(.br 35 t1 (.bk 4 b4 ((!(dW t.ls t0)):Bool) [0,1,2])
(.bk 4 b4 ((false):Bool) [0,1,2]))) λ(t4:Bool) =>
(.br 3 t4 (.ret ((⟨[],[]⟩:Tpl),9))
(.join 5 (L6 t t0 t1) (λ(t5:Bool)=>I5 t0 t1 t2 t3 t4 t5) (λb5=>(.br 51 (!(dW t.ls t0)) (.bk 5 b5 ((((t.ls.map Lnk.v).length:Int)==60):Bool) [0,1,2])
(.bk 5 b5 ((false):Bool) [0,1,2]))) λ(t5:Bool) =>
(.br 3 t5 (.ret ((⟨[],[]⟩:Tpl),3))
(.req 35 (t.rs.length≤1000000) λh4 =>
(.callP (Pu t.rs h4)
(.req 83 (t.ls.length≤1000000) λh5 =>
(.callH [] (Px t.ls h5) 83
(.br 179 t1 (.req 259 ((0≤(bE t.ls t0:Int)∧(bE t.ls t0:Int)<t.ls.length)∧(W ((bE t.ls t0:Int)+1))=(bE t.ls t0:Int)+1) λh6 =>
(.req 259 (t.ls.length≤1000000) λh7 =>
(.callH [83] (OY t.ls (bE t.ls t0:Int) (W ((bE t.ls t0:Int)+1)) h6 h7) 259
(.say (Rf ((fo t.ls (Int.toNat (bE t.ls t0:Int))).map Lnk.v)) (.cmdL (.frzE 259 ((fo t.ls (Int.toNat (bE t.ls t0:Int))).map Lnk.v) (ab (λ_=>rfl) (fo t.ls (Int.toNat (bE t.ls t0:Int))))) (.ret ((⟨t.rs,fo t.ls (Int.toNat (bE t.ls t0:Int))⟩:Tpl),0)))))))
(.br 211 (dW t.ls t0) (.say (ck (cond (decide (0≤(bE t.ls t0:Int))) (decide ((bE t.ls t0:Int)<((t.ls.map Lnk.v).length:Int))) false)) (.el 291 Lnk.v t.ls (λR=>Rf (t.ls.map Lnk.v) (ck (decide ((bE t.ls t0:Int).toNat<t.ls.length))
(∀x8,t.ls[(bE t.ls t0:Int).toNat]?=some x8 →
(R x8)))) λx8 =>
(.say (ck (cond (decide (0≤(bE t.ls t0:Int))) (decide ((bE t.ls t0:Int)<((t.ls.map Lnk.v).length:Int))) false)) (.st 419 Lnk.v t.ls (λy9=>(⟨t0.a,t0.b,t0.ca,t0.cb,x8.w⟩:Lnk)) (λR=>Rf (t.ls.map Lnk.v) (ck (decide ((bE t.ls t0:Int).toNat<t.ls.length))
(∀y9,t.ls[(bE t.ls t0:Int).toNat]?=some y9→Rf (Lnk.v (⟨t0.a,t0.b,t0.ca,t0.cb,x8.w⟩:Lnk))
((R y9))))) λy9 =>
(.say (Rf ((t.ls.set ((bE t.ls t0:Int).toNat) (⟨t0.a,t0.b,t0.ca,t0.cb,x8.w⟩:Lnk)).map Lnk.v)) (.cmdL (.frzE 83 ((t.ls.set ((bE t.ls t0:Int).toNat) (⟨t0.a,t0.b,t0.ca,t0.cb,x8.w⟩:Lnk)).map Lnk.v) (ab (λ_=>rfl) (t.ls.set ((bE t.ls t0:Int).toNat) (⟨t0.a,t0.b,t0.ca,t0.cb,x8.w⟩:Lnk)))) (.ret ((⟨t.rs,t.ls.set ((bE t.ls t0:Int).toNat) (⟨t0.a,t0.b,t0.ca,t0.cb,x8.w⟩:Lnk)⟩:Tpl),0))))))))
(.own 275 (.req 291 (0≤(bE t.ls t0:Int)∧(bE t.ls t0:Int)≤t.ls.length) λh10 =>
(.req 291 (t.ls.length≤1000000) λh11 =>
(.callH [83,275] (Od t.ls t0 (bE t.ls t0:Int) h10 h11) 291
(.say (Rf ((bM t.ls (Int.toNat (bE t.ls t0:Int)) t0).map Lnk.v)) (.cmdL (.frzE 291 ((bM t.ls (Int.toNat (bE t.ls t0:Int)) t0).map Lnk.v) (ab (λ_=>rfl) (bM t.ls (Int.toNat (bE t.ls t0:Int)) t0))) (.ret ((⟨t.rs,bM t.ls (Int.toNat (bE t.ls t0:Int)) t0⟩:Tpl),0)))))))))))))))))))))))))))))))
def BC(t:Tpl)(c:Chg)(I0:Lnk→Prop)(I1:Lnk→Bool→Prop)(I2:Lnk→Bool→Bool→Prop)(I3:Lnk→Bool→Bool→Bool→Prop)(I4:Lnk→Bool→Bool→Bool→Bool→Prop)(I5:Lnk→Bool→Bool→Bool→Bool→Bool→Prop)(r0:Tpl×Int):=(y7 t c I0 I1 I2 I3 I4 I5).vp yA r0
theorem Qb(t:Tpl)(c:Chg)(ok:Hf t c):∃I0 I1 I2 I3 I4 I5,BC t c I0 I1 I2 I3 I4 I5 (bT t c):=by
 refine⟨λl=>l=eP c,λl b=>l=eP c∧b=lu c,λl b u=>(l=eP c∧b=lu c)∧u=decide (hs5 t c.a=false∨hs5 t c.b=false),
  λl b _ u=>(l=eP c∧b=lu c)∧u=decide (lu c=false∧(gE c.ca=false∨gE c.cb=false)),
  λl b _ _ u=>(l=eP c∧b=lu c)∧u=decide (lu c=true∧dW t.ls (eP c)=false),
  λl b _ _ _ u=>(l=eP c∧b=lu c)∧u=decide (dW t.ls (eP c)=false∧t.ls.length=60),?_⟩
 simp only[Hf,okU,Blk.ok,aK,List.length_map]at ok
 dsimp only[BC,y7,He,Ax.vp,Ax.vc];simp only[vcU,rfU,List.length_map]
 have e1:ie t=decide (aJ t=0):=by unfold ie;rw[Bool.eq_iff_iff];simp
 have e2:∀x,inT x 1 1000=gE x:=λx=>by unfold inT gE;rfl
 rw[e1,e2,e2]
 unfold bT
 refine⟨λq=>by rw[if_pos (by simpa using q)],λq=>?_⟩
 have q:aJ t=0:=by simpa using q
 have hl:=(cH q).1
 have hl2:=(cH q).2
 rw[if_neg (by simpa using q)]
 refine⟨⟨λd=>by unfold eP;rw[if_pos d],λd=>by unfold eP;rw[if_neg d]⟩,?_⟩
 rintro _ rfl
 refine⟨⟨λd=>⟨rfl,by unfold lu;rw[d];rfl⟩,λd=>⟨rfl,by unfold lu;rw[d];rfl⟩⟩,?_⟩
 rintro _ ⟨_,rfl⟩
 refine⟨by omega,⟨by omega,λd=>⟨⟨rfl,rfl⟩,by rw[eq_comm,decide_eq_true_iff];exact .inl (by simpa using d)⟩,λd=>⟨by omega,⟨rfl,rfl⟩,by rw[Bool.eq_iff_iff,decide_eq_true_iff];simp at d ⊢;simp[d]⟩⟩,?_⟩
 rintro _ ⟨_,rfl⟩
 refine⟨λd=>by rw[if_pos (of_decide_eq_true d)],λd=>?_⟩
 rw[if_neg (of_decide_eq_false d)]
 refine⟨λd=>by rw[if_pos (eq_of_beq d)],λd=>?_⟩
 rw[if_neg (by simpa using d)]
 refine⟨⟨λd=>⟨λg=>⟨⟨rfl,rfl⟩,?_⟩,λg=>⟨⟨rfl,rfl⟩,?_⟩⟩,λd=>⟨⟨rfl,rfl⟩,?_⟩⟩,?_⟩
 ·rw[eq_comm,decide_eq_true_iff];exact⟨by simpa using d,.inl (by simpa using g)⟩
 ·rw[Bool.eq_iff_iff,decide_eq_true_iff];simp at d g ⊢;simp[d,g]
 ·rw[eq_comm,decide_eq_false_iff_not];simp at d;simp[d]
 rintro _ ⟨_,rfl⟩
 refine⟨λd=>by rw[if_pos (of_decide_eq_true d)],λd=>?_⟩
 rw[if_neg (of_decide_eq_false d)]
 refine⟨⟨λd=>⟨⟨rfl,rfl⟩,by rw[Bool.eq_iff_iff,decide_eq_true_iff];simp[d]⟩,λd=>⟨⟨rfl,rfl⟩,by rw[eq_comm,decide_eq_false_iff_not];simp[d]⟩⟩,?_⟩
 rintro _ ⟨_,rfl⟩
 refine⟨λd=>by rw[if_pos (of_decide_eq_true d)],λd9=>?_⟩
 rw[if_neg (of_decide_eq_false d9)]
 have d9:=of_decide_eq_false d9
 refine⟨⟨λd=>⟨⟨rfl,rfl⟩,?_⟩,λd=>⟨⟨rfl,rfl⟩,?_⟩⟩,?_⟩
 ·rw[Bool.eq_iff_iff,decide_eq_true_iff,beq_iff_eq];simp at d;simp[d];omega
 ·rw[eq_comm,decide_eq_false_iff_not];simp at d;simp[d]
 rintro _ ⟨_,rfl⟩
 refine⟨λd=>by rw[if_pos (of_decide_eq_true d)],λd=>?_⟩
 rw[if_neg (of_decide_eq_false d)]
 have hp:dW t.ls (eP c)=true→bE t.ls (eP c)<t.ls.length:=λg=>by
  refine Classical.byContradiction λr=>?_
  unfold dW bsH at g
  rw[List.getElem?_eq_none (by unfold bE at r;omega)]at g;cases g
 have hq:=IU t.ls (eP c)
 refine⟨by omega,by omega,λd=>?_,λd=>⟨λg=>?_,λg=>⟨⟨by omega,by omega⟩,by omega,?_⟩⟩⟩
 ·have g:dW t.ls (eP c)=true:=by simpa[d]using d9
  have:=hp g
  refine⟨⟨⟨by omega,by omega⟩,?_⟩,by omega,?_⟩
  ·exact dY (by omega)
  ·rw[if_pos d,Int.toNat_natCast]
 ·have:=hp g
  have r:(bif decide (0≤(bE t.ls (eP c):Int))then decide ((bE t.ls (eP c):Int)<t.ls.length)else false)=true:=by
   rw[decide_eq_true (by omega),decide_eq_true (by omega)];rfl
  refine⟨r,by omega,λx hx=>⟨r,by omega,λy hy=>?_⟩⟩
  rw[Int.toNat_natCast]at hx
  rw[if_neg (by simp[d]),if_pos g,Int.toNat_natCast,List.getD_eq_getElem?_getD,hx]
  rfl
 ·rw[if_neg (by simp[d]),if_neg (by simp[g]),Int.toNat_natCast]
def Qc(t:Tpl)(c:Chg):PC Tryz.prog:=⟨94,[(.a [(.s 2),(.s 5)]),.k],[.agg [.sl 2 (t.rs.map Rtr.v) false,.sl 5 (t.ls.map Lnk.v) false],.agg [.int c.a,.int c.b,.int c.ca,.int c.cb]],yA (bT t c),aw.of_ok λok=>(Qb t c ok).elim λI0 h=>h.elim λI1 h=>h.elim λI2 h=>h.elim λI3 h=>h.elim λI4 h=>h.elim λI5 h=>av (sh:=(.a [(.a [(.s 2),(.s 5)]),.k])) (enc:=yA) (a:=(y7 t c I0 I1 I2 I3 I4 I5).an) h (by kernel_rfl) (AV.pureB_ok rfl),ap (by kernel_rfl)⟩
def upH(t t':Tpl)(h:Hop):Bool:=(bR t h.a h.b).2 && (!(bR t' h.a h.b).2 || decide ((bR t h.a h.b).1<(bR t' h.a h.b).1))
def dnH(t t':Tpl)(h:Hop):Bool:=(bR t' h.a h.b).2 && (!(bR t h.a h.b).2 || decide ((bR t' h.a h.b).1<(bR t h.a h.b).1))
def chH(t t':Tpl)(h:Hop):Bool:=((bR t h.a h.b).2 != (bR t' h.a h.b).2) || ((bR t' h.a h.b).1 != (bR t h.a h.b).1)
def eU(c:Chg):List Hop:=[⟨c.a,c.b⟩,⟨c.b,c.a⟩]
def bt(t:Tpl)(c:Chg):Int×Tpl×List Hop×Int:=
 if ¬(bT t c).2=0 then(0,⟨[],[]⟩,[],(bT t c).2)
 else if(eU c).any (upH t (bT t c).1)=true∧(eU c).any (dnH t (bT t c).1)=true then(0,⟨[],[]⟩,[],8)
 else if(eU c).any (dnH t (bT t c).1)=true then(2,(bT t c).1,(eU c).filter (chH t (bT t c).1),0)
 else(1,t,(eU c).filter (chH t (bT t c).1),0)
def DI(t:Tpl)(c:Chg):=okL [.agg [.sl 2 (t.rs.map Rtr.v) false,.sl 5 (t.ls.map Lnk.v) false],.agg [.int c.a,.int c.b,.int c.ca,.int c.cb]]
def IH(t:Tpl)(c:Chg)(t0:Bool×Bool×Int×List Hop):NF:=⟨[(2,.k,.ref 0 0),(5,.k,.ref 1 0),(6,.k,.vec 2),(8,.k,.ref 3 0),(9,.k,.bool t0.1),(10,.k,.bool t0.2.1),(37,.k,.sl 2 [.agg [.int c.a,.int c.b],.agg [.int c.b,.int c.a]] true),(38,.k,.int 2),(39,.k,.int t0.2.2.1)],[.box (.agg [.sl 2 (t.rs.map Rtr.v) false,.sl 5 (t.ls.map Lnk.v) false]),.box (.agg [.sl 0 [] true,.sl 0 [] true]),.vec 2 (t0.2.2.2.map Hop.v) (ab (λ_=>rfl) t0.2.2.2),.box (.agg [.sl 2 ((((bT t c).1).rs).map Rtr.v) false,.sl 5 ((((bT t c).1).ls).map Lnk.v) false])]⟩
def IG(t:Tpl)(c:Chg)(t0:Bool×Bool×Int×List Hop)(x1:Hop)(t1:Bool):NF:=⟨[(2,.k,.ref 0 0),(5,.k,.ref 1 0),(6,.k,.vec 2),(8,.k,.ref 3 0),(9,.k,.bool t1),(10,.k,.bool t0.2.1),(12,.k,.ref 4 0),(13,.k,.int ((bR t x1.a x1.b).1)),(14,.k,.bool ((bR t x1.a x1.b).2)),(15,.k,.int ((bR ((bT t c).1) x1.a x1.b).1)),(16,.k,.bool ((bR ((bT t c).1) x1.a x1.b).2)),(37,.k,.sl 2 [.agg [.int c.a,.int c.b],.agg [.int c.b,.int c.a]] true),(38,.k,.int 2),(39,.k,.int t0.2.2.1)],[.box (.agg [.sl 2 (t.rs.map Rtr.v) false,.sl 5 (t.ls.map Lnk.v) false]),.box (.agg [.sl 0 [] true,.sl 0 [] true]),.vec 2 (t0.2.2.2.map Hop.v) (ab (λ_=>rfl) t0.2.2.2),.box (.agg [.sl 2 ((((bT t c).1).rs).map Rtr.v) false,.sl 5 ((((bT t c).1).ls).map Lnk.v) false]),.box (.agg [.int x1.a,.int x1.b])]⟩
def IF(t:Tpl)(c:Chg)(t0:Bool×Bool×Int×List Hop)(x1:Hop)(t1:Bool)(t2:Bool):NF:=⟨[(2,.k,.ref 0 0),(5,.k,.ref 1 0),(6,.k,.vec 2),(8,.k,.ref 3 0),(9,.k,.bool t1),(10,.k,.bool t2),(12,.k,.ref 4 0),(13,.k,.int ((bR t x1.a x1.b).1)),(14,.k,.bool ((bR t x1.a x1.b).2)),(15,.k,.int ((bR ((bT t c).1) x1.a x1.b).1)),(16,.k,.bool ((bR ((bT t c).1) x1.a x1.b).2)),(37,.k,.sl 2 [.agg [.int c.a,.int c.b],.agg [.int c.b,.int c.a]] true),(38,.k,.int 2),(39,.k,.int t0.2.2.1)],[.box (.agg [.sl 2 (t.rs.map Rtr.v) false,.sl 5 (t.ls.map Lnk.v) false]),.box (.agg [.sl 0 [] true,.sl 0 [] true]),.vec 2 (t0.2.2.2.map Hop.v) (ab (λ_=>rfl) t0.2.2.2),.box (.agg [.sl 2 ((((bT t c).1).rs).map Rtr.v) false,.sl 5 ((((bT t c).1).ls).map Lnk.v) false]),.box (.agg [.int x1.a,.int x1.b])]⟩
def IE(t:Tpl)(c:Chg)(t0:Bool×Bool×Int×List Hop)(x1:Hop)(t1:Bool)(t2:Bool)(t3:Bool):NF:=⟨[(2,.k,.ref 0 0),(5,.k,.ref 1 0),(6,.k,.vec 2),(8,.k,.ref 3 0),(9,.k,.bool t1),(10,.k,.bool t2),(12,.k,.ref 4 0),(37,.k,.sl 2 [.agg [.int c.a,.int c.b],.agg [.int c.b,.int c.a]] true),(38,.k,.int 2),(39,.k,.int t0.2.2.1),(94,.k,.bool t3)],[.box (.agg [.sl 2 (t.rs.map Rtr.v) false,.sl 5 (t.ls.map Lnk.v) false]),.box (.agg [.sl 0 [] true,.sl 0 [] true]),.vec 2 (t0.2.2.2.map Hop.v) (ab (λ_=>rfl) t0.2.2.2),.box (.agg [.sl 2 ((((bT t c).1).rs).map Rtr.v) false,.sl 5 ((((bT t c).1).ls).map Lnk.v) false]),.box (.agg [.int x1.a,.int x1.b])]⟩
def ID(t:Tpl)(c:Chg)(t0:Bool×Bool×Int×List Hop)(t4:Bool):NF:=⟨[(2,.k,.ref 0 0),(5,.k,.ref 1 0),(6,.k,.vec 2),(8,.k,.ref 3 0),(10,.k,.bool t0.2.1),(100,.k,.bool t4)],[.box (.agg [.sl 2 (t.rs.map Rtr.v) false,.sl 5 (t.ls.map Lnk.v) false]),.box (.agg [.sl 0 [] true,.sl 0 [] true]),.vec 2 (t0.2.2.2.map Hop.v) (ab (λ_=>rfl) t0.2.2.2),.box (.agg [.sl 2 ((((bT t c).1).rs).map Rtr.v) false,.sl 5 ((((bT t c).1).ls).map Lnk.v) false])]⟩
@[reducible] def DH:Nat→Type
 | 0=>Bool×Bool×Int×List Hop
 | 1=>Bool
 | 2=>Bool
 | 3=>Bool
 | 4=>Bool
 | _=>Unit
def vx(r:Int×Tpl×List Hop×Int):AV:=.tup [.int r.1,Tpl.v r.2.1,.sl 2 (r.2.2.1.map Hop.v) false,.int r.2.2.2]
def vw(t:Tpl)(c:Chg)(I0:(Bool×Bool×Int×List Hop)→Prop)(m0:(Bool×Bool×Int×List Hop)→Nat)(I1:Bool×Bool×Int×List Hop→Hop→Bool→Prop)(I2:Bool×Bool×Int×List Hop→Hop→Bool→Bool→Prop)(I3:Bool×Bool×Int×List Hop→Hop→Bool→Bool→Bool→Prop)(I4:Bool×Bool×Int×List Hop→Bool→Prop):Ax Tryz.prog DH (Int×Tpl×List Hop×Int):=
 (.callP (Qc t c)
(.br 272 (((bT t c).2) != 0) (.ret (0,(⟨[],[]⟩:Tpl),[],(bT t c).2))
(.cmdL (.nilT 6 2) (.loop 0 (IH t c) I0 m0 (false,false,0,[]) [0,48,512,192] λ(t0:Bool×Bool×Int×List Hop) b0 =>
(.br 20 (decide (t0.2.2.1<2)) (.el 20 Hop.v [(⟨c.a,c.b⟩:Hop),(⟨c.b,c.a⟩:Hop)] (λR=>Rf (α:=List AV) [.agg [.int c.a,.int c.b],.agg [.int c.b,.int c.a]] (ck (decide (0≤t0.2.2.1)) (ck (decide (t0.2.2.1<([(⟨c.a,c.b⟩:Hop),(⟨c.b,c.a⟩:Hop)].length:Int)))
(∀x1,[(⟨c.a,c.b⟩:Hop),(⟨c.b,c.a⟩:Hop)][t0.2.2.1.toNat]?=some x1 →
(R x1))))) λx1 =>
(.callP (nm t x1.a x1.b)
(.callP (nm ((bT t c).1) x1.a x1.b)
(.join 1 (IG t c t0 x1) (λ(t1:Bool)=>I1 t0 x1 t1) (λb1=>(.br 468 t0.1 (.bk 1 b1 ((true):Bool) [0,1,2,3,52])
(.br 500 ((bR t x1.a x1.b).2) (.br 548 (!((bR ((bT t c).1) x1.a x1.b).2)) (.bk 1 b1 ((true):Bool) [0,1,2,3,52])
(.bk 1 b1 ((decide (((bR t x1.a x1.b).1)<((bR ((bT t c).1) x1.a x1.b).1))):Bool) [0,1,2,3,52]))
(.bk 1 b1 ((false):Bool) [0,1,2,3,52])))) λ(t1:Bool) =>
(.join 2 (IF t c t0 x1 t1) (λ(t2:Bool)=>I2 t0 x1 t1 t2) (λb2=>(.br 37 t0.2.1 (.bk 2 b2 ((true):Bool) [0,1,2,3,4])
(.br 69 ((bR ((bT t c).1) x1.a x1.b).2) (.br 117 (!((bR t x1.a x1.b).2)) (.bk 2 b2 ((true):Bool) [0,1,2,3,4])
(.bk 2 b2 ((decide (((bR ((bT t c).1) x1.a x1.b).1)<((bR t x1.a x1.b).1))):Bool) [0,1,2,3,4]))
(.bk 2 b2 ((false):Bool) [0,1,2,3,4])))) λ(t2:Bool) =>
(.join 3 (IE t c t0 x1 t1 t2) (λ(t3:Bool)=>I3 t0 x1 t1 t2 t3) (λb3=>(.br 69 (!(((bR t x1.a x1.b).2)==((bR ((bT t c).1) x1.a x1.b).2))) (.bk 3 b3 ((true):Bool) [0,1,2,3,4])
(.bk 3 b3 ((((bR ((bT t c).1) x1.a x1.b).1) != ((bR t x1.a x1.b).1)):Bool) [0,1,2,3,4]))) λ(t3:Bool) =>
(.br 5 t3 (.say (λR=>Rf (α:=List AV) (t0.2.2.2.map Hop.v) (Rf (α:=List AV) [.agg [.int x1.a,.int x1.b]]
(ck (decide (t0.2.2.2.length+1≤1048576))
R))) (.app 53 Hop.v t0.2.2.2 [x1]
(.bk 0 b0 (t1,t2,W (t0.2.2.1+1),t0.2.2.2++[x1]) [0,1,53,3])))
(.bk 0 b0 (t1,t2,W (t0.2.2.1+1),t0.2.2.2) [0,1,2,3]))))))))
(.pass (.join 4 (ID t c t0) (λ(t4:Bool)=>I4 t0 t4) (λb4=>(.br 52 t0.1 (.bk 4 b4 ((t0.2.1):Bool) [0,1,2,3])
(.bk 4 b4 ((false):Bool) [0,1,2,3]))) λ(t4:Bool) =>
(.br 4 t4 (.ret (0,(⟨[],[]⟩:Tpl),[],8))
(.br 36 t0.2.1 (.say (Rf (t0.2.2.2.map Hop.v)) (.cmdL (.frzE 2 (t0.2.2.2.map Hop.v) (ab (λ_=>rfl) t0.2.2.2)) (.ret (2,(bT t c).1,t0.2.2.2,0))))
(.say (Rf (t0.2.2.2.map Hop.v)) (.cmdL (.frzE 2 (t0.2.2.2.map Hop.v) (ab (λ_=>rfl) t0.2.2.2)) (.ret (1,t,t0.2.2.2,0)))))))))))))
def zG(t:Tpl)(c:Chg)(I0:(Bool×Bool×Int×List Hop)→Prop)(m0:(Bool×Bool×Int×List Hop)→Nat)(I1:Bool×Bool×Int×List Hop→Hop→Bool→Prop)(I2:Bool×Bool×Int×List Hop→Hop→Bool→Bool→Prop)(I3:Bool×Bool×Int×List Hop→Hop→Bool→Bool→Bool→Prop)(I4:Bool×Bool×Int×List Hop→Bool→Prop)(r0:Int×Tpl×List Hop×Int):=(vw t c I0 m0 I1 I2 I3 I4).vp vx r0
def RedI(t t':Tpl)(l:List Hop)(s:Bool×Bool×Int×List Hop):Prop:=∃k:Nat,s.2.2.1=k∧k≤l.length∧s.1=(l.take k).any (upH t t')∧s.2.1=(l.take k).any (dnH t t')∧s.2.2.2=(l.take k).filter (chH t t')
theorem MZ(t:Tpl)(c:Chg)(ok:DI t c):∃I0 m0 I1 I2 I3 I4,zG t c I0 m0 I1 I2 I3 I4 (bt t c):=by
 refine⟨RedI t (bT t c).1 (eU c),λs=>2-s.2.2.1.toNat,λs h u=>u=(s.1 || upH t (bT t c).1 h),λs h u d=>u=(s.1 || upH t (bT t c).1 h)∧d=(s.2.1 || dnH t (bT t c).1 h),
  λs h u d x=>(u=(s.1 || upH t (bT t c).1 h)∧d=(s.2.1 || dnH t (bT t c).1 h))∧x=chH t (bT t c).1 h,λs b=>b=(s.1 && s.2.1),?_⟩
 simp only[DI,okU,Blk.ok,aK,List.length_map]at ok
 dsimp only[zG,vw,DH,Ax.vp,Ax.vc];simp only[vcU,rfU,List.length_map]
 have hl:(eU c).length=2:=rfl
 refine⟨λd=>by unfold bt;rw[if_pos (by simpa using d)],λd=>⟨⟨0,rfl,by omega,rfl,rfl,rfl⟩,?_⟩⟩
 have d:(bT t c).2=0:=by simpa using d
 rintro⟨u0,d0,_,ds⟩ ⟨k,rfl,hk,e1,e2,e3⟩
 simp only at e1 e2 e3 ⊢
 rw[Int.toNat_natCast]
 refine⟨λq=>⟨by omega,by simp only[List.length_cons,List.length_nil];omega,λx hx=>⟨⟨λg=>?_,λg=>⟨λg1=>⟨λg2=>?_,λg2=>?_⟩,λg1=>?_⟩⟩,?_⟩⟩,λq=>?_⟩
 ·rw[g];rfl
 ·unfold upH;rw[g1,g2];simp
 ·unfold upH;rw[g,g1,g2];rfl
 ·unfold upH;rw[g,g1];rfl
 ·rintro _ rfl
  refine⟨⟨λg=>⟨rfl,by rw[g];rfl⟩,λg=>⟨λg1=>⟨λg2=>⟨rfl,?_⟩,λg2=>⟨rfl,?_⟩⟩,λg1=>⟨rfl,?_⟩⟩⟩,?_⟩
  ·unfold dnH;rw[g1,g2];simp
  ·unfold dnH;rw[g,g1,g2];rfl
  ·unfold dnH;rw[g,g1];rfl
  rintro _ ⟨_,rfl⟩
  refine⟨⟨λg=>⟨⟨rfl,rfl⟩,?_⟩,λg=>⟨⟨rfl,rfl⟩,?_⟩⟩,?_⟩
  ·unfold chH bne;rw[g];rfl
  ·unfold chH;have g':((bR t x.a x.b).2 != (bR (bT t c).1 x.a x.b).2)=false:=g
   rw[g'];rfl
  rintro _ ⟨_,rfl⟩
  have w:W ((k:Int)+1)=((k+1:Nat):Int):=bx (n:=2) (by omega) (by omega)
  have hx':(eU c)[k]?=some x:=hx
  have f1:∀p:Hop→Bool,((eU c).take (k+1)).any p=(((eU c).take k).any p || p x):=λp=>by rw[aV hx'];simp
  have hdl:ds.length≤2:=by rw[e3];exact Nat.le_trans (List.length_filter_le _ _) (by rw[List.length_take];omega)
  rw[w]
  refine⟨λg=>⟨by omega,⟨k+1,rfl,by omega,by simp only;rw[f1,e1],by simp only;rw[f1,e2],?_⟩,by omega⟩,λg=>⟨⟨k+1,rfl,by omega,by simp only;rw[f1,e1],by simp only;rw[f1,e2],?_⟩,by omega⟩⟩
  ·simp only;rw[aV hx',List.filter_append,e3];simp[g]
  ·simp only;rw[aV hx',List.filter_append,e3];simp[g]
 ·have hk2:(eU c).take k=eU c:=List.take_of_length_le (by omega)
  rw[hk2]at e1 e2 e3
  refine⟨⟨λg=>by rw[g];rfl,λg=>by rw[g];rfl⟩,?_⟩
  rintro _ rfl
  unfold bt
  rw[if_neg (by simp[d])]
  refine⟨λg=>?_,λg=>⟨λg1=>?_,λg1=>?_⟩⟩
  ·rw[e1,e2]at g;rw[if_pos (by simpa using g)]
  ·rw[g1,e1]at g;rw[e2]at g1;rw[if_neg (λh=>by rw[h.1]at g;cases g),if_pos g1,e3]
  ·rw[e2]at g1;rw[if_neg (by simp[g1]),if_neg (by simp[g1]),e3]
def pd(t:Tpl)(c:Chg):PC Tryz.prog:=⟨51,[(.a [(.s 2),(.s 5)]),.k],[.agg [.sl 2 (t.rs.map Rtr.v) false,.sl 5 (t.ls.map Lnk.v) false],.agg [.int c.a,.int c.b,.int c.ca,.int c.cb]],vx (bt t c),aw.of_ok λok=>(MZ t c ok).elim λI0 h=>h.elim λm0 h=>h.elim λI1 h=>h.elim λI2 h=>h.elim λI3 h=>h.elim λI4 h=>av (sh:=(.a [.k,(.a [(.s 2),(.s 5)]),(.s 2),.k])) (enc:=vx) (a:=(vw t c I0 m0 I1 I2 I3 I4).an) h (by kernel_rfl) (AV.pureB_ok rfl),ap (by kernel_rfl)⟩
def NX(t:Tpl)(c:Chg):=okL [.agg [.sl 2 (t.rs.map Rtr.v) false,.sl 5 (t.ls.map Lnk.v) false],.agg [.int c.a,.int c.b,.int c.ca,.int c.cb]]
def w6(r:Int×Int):AV:=.tup [.int r.1,.int r.2]
def w5(t:Tpl)(c:Chg):Ax Tryz.prog noS (Int×Int):=
 (.callP (pd t c)
(.ret ((bt t c).1,(bt t c).2.2.2)))
def Au(t:Tpl)(c:Chg)(r0:Int×Int):=(w5 t c).vp w6 r0
theorem NV(t:Tpl)(c:Chg)(ok:NX t c):Au t c ((bt t c).1,(bt t c).2.2.2):=by
 dsimp only[Au,w5,noS,Ax.vp,Ax.vc];simp only[vcU,rfU,List.length_map]
def NW(t:Tpl)(c:Chg):PC Tryz.prog:=⟨11,[(.a [(.s 2),(.s 5)]),.k],[.agg [.sl 2 (t.rs.map Rtr.v) false,.sl 5 (t.ls.map Lnk.v) false],.agg [.int c.a,.int c.b,.int c.ca,.int c.cb]],w6 ((bt t c).1,(bt t c).2.2.2),aw.of_ok λok=>av (sh:=.k) (enc:=w6) (a:=(w5 t c).an) (NV t c ok) (by kernel_rfl) (AV.pureB_ok rfl),ap (by kernel_rfl)⟩
structure Dst where
  r:Int
  c:Int
  deriving DecidableEq
def Dst.v(x:Dst):AV:=.agg [.int x.r,.int x.c]
def mC(h:Hop):MK:=.c [h.a,h.b]
theorem sV(x y:Hop)(h:mC x=mC y):x=y:=by
 cases x;cases y;unfold mC at h;simp at h;simp[h]
def mq{β:Type}(vf:β→AV)(l:List (Hop×β))(x:Hop)(z:β):MN:=.get inferInstance mC sV vf l x z
def EE{β:Type}(vf:β→AV)(l:List (Hop×β))(x:Hop)(v:β):MN:=.put inferInstance mC sV vf l x v
def lz(t:Tpl)(f:Int)(r:Rtr):List Dst:=if(bg t f r.id).2=true then [⟨r.id,(bg t f r.id).1⟩]else []
def eR(t:Tpl)(f:Int):List Dst:=if aJ t=0 then t.rs.flatMap (lz t f)else []
def FF(t:Tpl)(from_:Int):=okL [.agg [.sl 2 (t.rs.map Rtr.v) false,.sl 5 (t.ls.map Lnk.v) false],.int from_]
def JZ(t:Tpl)(from_:Int)(t0:Int×List Dst):NF:=⟨[(5,.k,.mp none ((cr ((kK t).out) from_).map λp:Int×Int=>MK.n p.1) ((cr ((kK t).out) from_).map λp:Int×Int=>AV.int p.2)),(6,.k,.vec 0),(20,.k,.sl 2 (t.rs.map Rtr.v) false),(21,.k,.int ((t.rs.map Rtr.v).length:Int)),(22,.k,.int t0.1)],[.vec 2 (t0.2.map Dst.v) (ab (λ_=>rfl) t0.2)]⟩
@[reducible] def FE:Nat→Type
 | 0=>Int×List Dst
 | _=>Unit
def xl(r:List Dst):AV:=.sl 2 (r.map Dst.v) false
def xk(t:Tpl)(from_:Int)(I0:(Int×List Dst)→Prop)(m0:(Int×List Dst)→Nat):Ax Tryz.prog FE ((List Dst)):=
 (.callP (H5 t)
(.br 80 (!(ie t)) (.ret ([]))
(.req 96 (aJ t=0) λh1 =>
(.callP (O1 t h1)
(.req 144 (zZ ((kK t).out)) λh2 =>
(.callP (OT ((kK t).out) from_ h2)
(.cmdL (.nilT 6 2) (.loop 0 (JZ t from_) I0 m0 (0,[]) [256] λ(t0:Int×List Dst) b0 =>
(.br 17 (decide (t0.1<((t.rs.map Rtr.v).length:Int))) (.el 17 Rtr.v t.rs (λR=>Rf (t.rs.map Rtr.v) (ck (decide (0≤t0.1)) (ck (decide (t0.1<(t.rs.length:Int)))
(∀x3,t.rs[t0.1.toNat]?=some x3 →
(R x3))))) λx3 =>
(.mn 129 (kB AV.int (cr ((kK t).out) from_) x3.id 0) (.br 241 (aU (cr ((kK t).out) from_) x3.id) (.say (λR=>Rf (α:=List AV) (t0.2.map Dst.v) (Rf (α:=List AV) [.agg [.int x3.id,.int (az (cr ((kK t).out) from_) x3.id 0)]]
(ck (decide (t0.2.length+1≤1048576))
R))) (.app 337 Dst.v t0.2 [(⟨x3.id,az (cr ((kK t).out) from_) x3.id 0⟩:Dst)]
(.bk 0 b0 (W (t0.1+1),t0.2++[(⟨x3.id,az (cr ((kK t).out) from_) x3.id 0⟩:Dst)]) [337])))
(.bk 0 b0 (W (t0.1+1),t0.2) [0]))))
(.say (Rf (t0.2.map Dst.v)) (.cmdL (.frzE 0 (t0.2.map Dst.v) (ab (λ_=>rfl) t0.2)) (.ret (t0.2)))))))))))))
def AN(t:Tpl)(from_:Int)(I0:(Int×List Dst)→Prop)(m0:(Int×List Dst)→Nat)(r0:List Dst):=(xk t from_ I0 m0).vp xl r0
theorem OM(t:Tpl)(f:Int)(ok:FF t f):∃I0 m0,AN t f I0 m0 (eR t f):=by
 refine⟨λs=>fz t.rs (lz t f) s.1 s.2,λs=>t.rs.length-s.1.toNat,?_⟩
 simp only[FF,okU,Blk.ok,aK,List.length_map]at ok
 dsimp only[AN,xk,FE,Ax.vp,Ax.vc];simp only[vcU,rfU,List.length_map]
 by_cases hc:aJ t=0
 case neg =>
  have hv:ie t=false:=by unfold ie;simpa using hc
  rw[hv]
  exact⟨λ_=>by unfold eR;rw[if_neg hc],λe=>by simp at e⟩
 have hv:ie t=true:=by unfold ie;rw[hc];rfl
 have hn:=(cH hc).1
 rw[hv,show(kK t).out=cR t from rfl]
 refine⟨λe=>by simp at e,λ_=>⟨hc,Jb hc,fz.zero,λs h=>⟨λc=>⟨h.idx,c,λx hx=>⟨λe=>?_,λe=>?_⟩⟩,λc=>?_⟩⟩⟩
 ·have hl:=h.len (b:=1) (λr _=>by unfold lz;split<;>simp)
  have q:lz t f x=[⟨x.id,az (cr (cR t) f) x.id 0⟩]:=by unfold lz;rw[Bl hc,if_pos e];rfl
  exact⟨by omega,h.step (by omega) hx (by rw[q])⟩
 ·have q:lz t f x=[]:=by unfold lz;rw[Bl hc,if_neg (by rw[e];simp)]
  exact h.step (by omega) hx (by rw[q,List.append_nil])
 ·rw[h.done c];unfold eR;rw[if_pos hc]
def ON(t:Tpl)(from_:Int):PC Tryz.prog:=⟨130,[(.a [(.s 2),(.s 5)]),.k],[.agg [.sl 2 (t.rs.map Rtr.v) false,.sl 5 (t.ls.map Lnk.v) false],.int from_],xl (eR t from_),aw.of_ok λok=>(OM t from_ ok).elim λI0 h=>h.elim λm0 h=>av (sh:=(.s 2)) (enc:=xl) (a:=(xk t from_ I0 m0).an) h (by kernel_rfl) (AV.pureB_ok rfl),ap (by kernel_rfl)⟩
theorem FD(t:Tpl)(f:Int):(eR t f).length≤24:=by
  unfold eR
  split
  · rename_i hc
    have hn:=(cH hc).1
    have:∀l:List Rtr,(l.flatMap (lz t f)).length≤l.length:=λl=>by
      induction l with
      | nil=>simp
      | cons r l ih => rw [List.flatMap_cons, List.length_append, List.length_cons]; have : (lz t f r).length ≤ 1 := by unfold lz; split <;> simp
                       omega
    have:=this t.rs;omega
  · simp
def xw(t:Tpl)(M:List (Hop×Int))(r:Rtr):List (Hop×Int):=(eR t r.id).foldl (λm d=>bi m ⟨r.id,d.r⟩ d.c) M
def cZ(t:Tpl):List (Hop×Int):=t.rs.foldl (xw t) []
def Hl(t:Tpl):=okL [.agg [.sl 2 (t.rs.map Rtr.v) false,.sl 5 (t.ls.map Lnk.v) false]]
def LJ(t:Tpl)(t0:Int×(List (Hop×Int))):NF:=⟨[(1,.k,.ref 0 0),(3,.k,.mref 1),(10,.k,.sl 2 (t.rs.map Rtr.v) false),(11,.k,.int ((t.rs.map Rtr.v).length:Int)),(12,.k,.int t0.1)],[.box (.agg [.sl 2 (t.rs.map Rtr.v) false,.sl 5 (t.ls.map Lnk.v) false]),.map (some 2) (t0.2.map λp=>mC p.1) (t0.2.map λp=>AV.int p.2) (ab (λ_=>rfl) _)]⟩
def LI(t:Tpl)(t0:Int×(List (Hop×Int)))(x1:Rtr)(t1:Int×(List (Hop×Int))):NF:=⟨[(1,.k,.ref 0 0),(3,.k,.mref 1),(5,.k,.ref 2 0),(10,.k,.sl 2 (t.rs.map Rtr.v) false),(11,.k,.int ((t.rs.map Rtr.v).length:Int)),(12,.k,.int t0.1),(19,.k,.sl 2 ((eR t x1.id).map Dst.v) false),(20,.k,.int (((eR t x1.id).map Dst.v).length:Int)),(21,.k,.int t1.1)],[.box (.agg [.sl 2 (t.rs.map Rtr.v) false,.sl 5 (t.ls.map Lnk.v) false]),.map (some 2) (t1.2.map λp=>mC p.1) (t1.2.map λp=>AV.int p.2) (ab (λ_=>rfl) _),.box (.agg [.int x1.id,.bool x1.cap])]⟩
@[reducible] def Hk:Nat→Type
 | 0=>Int×(List (Hop×Int))
 | 1=>Int×(List (Hop×Int))
 | _=>Unit
def yH(r:(List (Hop×Int))):AV:=.mp (some 2) (r.map λp:Hop×Int=>mC p.1) (r.map λp:Hop×Int=>AV.int p.2)
def yG(t:Tpl)(I0:(Int×(List (Hop×Int)))→Prop)(m0:(Int×(List (Hop×Int)))→Nat)(I1:Int×(List (Hop×Int))→Rtr→(Int×(List (Hop×Int)))→Prop)(m1:Int×(List (Hop×Int))→Rtr→(Int×(List (Hop×Int)))→Nat):Ax Tryz.prog Hk ((List (Hop×Int))):=
 (.loop 0 (LJ t) I0 m0 (0,([]:List (Hop×Int))) [0,32] λ(t0:Int×(List (Hop×Int))) b0 =>
(.br 18 (decide (t0.1<((t.rs.map Rtr.v).length:Int))) (.el 18 Rtr.v t.rs (λR=>Rf (t.rs.map Rtr.v) (ck (decide (0≤t0.1)) (ck (decide (t0.1<(t.rs.length:Int)))
(∀x1,t.rs[t0.1.toNat]?=some x1 →
(R x1))))) λx1 =>
(.callP (ON t x1.id)
(.loop 1 (LI t t0 x1) (I1 t0 x1) (m1 t0 x1) (0,t0.2) [0,1,50] λ(t1:Int×(List (Hop×Int))) b1 =>
(.br 19 (decide (t1.1<(((eR t x1.id).map Dst.v).length:Int))) (.el 19 Dst.v (eR t x1.id) (λR=>Rf ((eR t x1.id).map Dst.v) (ck (decide (0≤t1.1)) (ck (decide (t1.1<((eR t x1.id).length:Int)))
(∀x2,(eR t x1.id)[t1.1.toNat]?=some x2 →
(R x2))))) λx2 =>
(.mn 211 (EE AV.int t1.2 (⟨x1.id,x2.r⟩:Hop) x2.c) (.bk 1 b1 (W (t1.1+1),bi t1.2 (⟨x1.id,x2.r⟩:Hop) x2.c) [0,1,2])))
(.bk 0 b0 (W (t0.1+1),t1.2) [0,1])))))
(.say (Rf (t0.2.map λp=>AV.int p.2)) (.cmdL (.frzM 1 (t0.2.map λp=>AV.int p.2) (ab (λ_=>rfl) _)) (.ret (t0.2))))))
def BF(t:Tpl)(I0:(Int×(List (Hop×Int)))→Prop)(m0:(Int×(List (Hop×Int)))→Nat)(I1:Int×(List (Hop×Int))→Rtr→(Int×(List (Hop×Int)))→Prop)(m1:Int×(List (Hop×Int))→Rtr→(Int×(List (Hop×Int)))→Nat)(r0:(List (Hop×Int))):=(yG t I0 m0 I1 m1).vp yH r0
theorem Qh(t:Tpl)(ok:Hl t):∃I0 m0 I1 m1,BF t I0 m0 I1 m1 (cZ t):=by
 refine⟨λs=>∃k:Nat,s.1=k∧k≤t.rs.length∧s.2=(t.rs.take k).foldl (xw t) [],λs=>t.rs.length-s.1.toNat,
  λs r q=>∃k:Nat,q.1=k∧k≤(eR t r.id).length∧q.2=((eR t r.id).take k).foldl (λm d=>bi m ⟨r.id,d.r⟩ d.c) s.2,λs r q=>(eR t r.id).length-q.1.toNat,?_⟩
 simp only[Hl,okU,Blk.ok,aK,List.length_map]at ok
 dsimp only[BF,yG,Hk,Ax.vp,Ax.vc];simp only[vcU,rfU,List.length_map]
 refine⟨⟨0,rfl,by omega,rfl⟩,?_⟩
 rintro⟨_,M⟩ ⟨k,rfl,hk,hM⟩
 simp only at hM ⊢
 refine⟨λc=>⟨by omega,c,λr hr=>⟨⟨0,rfl,by omega,rfl⟩,?_⟩⟩,λc=>by rw[hM,List.take_of_length_le (by omega)];rfl⟩
 rintro⟨_,N⟩ ⟨j,rfl,hj,hN⟩
 simp only at hN ⊢
 have hdl:=FD t r.id
 refine⟨λd=>⟨by omega,d,λy hy=>⟨⟨j+1,bx (n:=(eR t r.id).length) (by omega) (by omega),by omega,?_⟩,?_⟩⟩,λd=>⟨⟨k+1,bx (n:=t.rs.length) (by omega) (by omega),by omega,?_⟩,?_⟩⟩
 ·rw[Int.toNat_natCast]at hy
  rw[aV hy,List.foldl_append,←hN];rfl
 ·rw[bx (n:=(eR t r.id).length) (by omega) (by omega)];omega
 ·rw[Int.toNat_natCast]at hr
  rw[aV hr,List.foldl_append,←hM]
  show N=xw t M r
  rw[hN,List.take_of_length_le (by omega)];rfl
 ·rw[bx (n:=t.rs.length) (by omega) (by omega)];omega
def yI(t:Tpl):PC Tryz.prog:=⟨96,[(.a [(.s 2),(.s 5)])],[.agg [.sl 2 (t.rs.map Rtr.v) false,.sl 5 (t.ls.map Lnk.v) false]],yH (cZ t),aw.of_ok λok=>(Qh t ok).elim λI0 h=>h.elim λm0 h=>h.elim λI1 h=>h.elim λm1 h=>av (sh:=.k) (enc:=yH) (a:=(yG t I0 m0 I1 m1).an) h (by kernel_rfl) (AV.pureB_ok rfl),ap (by kernel_rfl)⟩
structure yN (t:Tpl) (M:List (Hop×Int)):Prop where
  nd:(au M).Nodup
  ok:∀p∈M,bg t p.1.a p.1.b=(p.2,true)
theorem JY{t:Tpl}{f:Int}{d:Dst}(h:d∈eR t f):bg t f d.r=(d.c,true):=by
 unfold eR at h
 split at h
 ·obtain⟨r,_,h⟩:=List.mem_flatMap.mp h
  unfold lz at h
  split at h
  ·rename_i e
   rw[List.mem_singleton]at h
   subst h
   exact Prod.ext rfl e
  ·cases h
 ·cases h
theorem OK{t:Tpl}(hc:aJ t=0){f g:Int}(h:(bg t f g).2=true)(hg:aI t g=true):⟨g,(bg t f g).1⟩∈eR t f:=by
 unfold eR
 rw[if_pos hc]
 obtain⟨r,hr,e⟩:=List.any_eq_true.mp hg
 have e:r.id=g:=eq_of_beq e
 refine List.mem_flatMap.mpr ⟨r,hr,?_⟩
 unfold lz
 rw[e,if_pos h];exact List.mem_singleton.mpr rfl
theorem yN.put{t:Tpl}{M:List (Hop×Int)}(h:yN t M){x y c:Int}(e:bg t x y=(c,true)):yN t (bi M ⟨x,y⟩ c)∧(⟨x,y⟩,c)∈bi M ⟨x,y⟩ c∧∀p∈M,p∈bi M ⟨x,y⟩ c:=by
 refine⟨⟨dI h.nd,λp hp=>?_⟩,(bK h.nd).mpr (.inl rfl),λp hp=>?_⟩
 ·rcases(bK h.nd).mp hp with rfl|⟨hp,_⟩
  ·exact e
  ·exact h.ok p hp
 ·rw[bK h.nd]
  by_cases q:p.1=⟨x,y⟩
  ·left
   have:=h.ok p hp
   rw[q,e]at this
   exact Prod.ext q (Prod.mk.inj this).1.symm
  ·exact .inr ⟨hp,q⟩
theorem AQ{t:Tpl}(x:Int):∀(l:List Dst) (M:List (Hop×Int)),(∀d∈l,bg t x d.r=(d.c,true))→yN t M →
  yN t (l.foldl (λm d=>bi m ⟨x,d.r⟩ d.c) M)∧(∀p∈M,p∈l.foldl (λm d=>bi m ⟨x,d.r⟩ d.c) M)∧∀d∈l,(⟨x,d.r⟩,d.c)∈l.foldl (λm d=>bi m ⟨x,d.r⟩ d.c) M
 | [],M,_,h=>⟨h,λp hp=>hp,λd hd=>by simp at hd⟩
 | d::l,M,hl,h=>by
  obtain⟨g1,g2,g3⟩:=h.put (hl d (by simp))
  obtain⟨k1,k2,k3⟩:=AQ x l _ (λd hd=>hl d (by simp[hd])) g1
  refine⟨k1,λp hp=>k2 p (g3 p hp),λd' hd'=>?_⟩
  rcases List.mem_cons.mp hd' with rfl|hd'
  ·exact k2 _ g2
  ·exact k3 d' hd'
theorem qF{t:Tpl}:∀(l:List Rtr) (M:List (Hop×Int)),yN t M→yN t (l.foldl (xw t) M)∧(∀p∈M,p∈l.foldl (xw t) M)∧∀r∈l,∀d∈eR t r.id,(⟨r.id,d.r⟩,d.c)∈l.foldl (xw t) M
 | [],M,h=>⟨h,λp hp=>hp,λr hr=>by simp at hr⟩
 | r::l,M,h=>by
  obtain⟨g1,g2,g3⟩:=AQ r.id (eR t r.id) M (λd hd=>JY hd) h
  obtain⟨k1,k2,k3⟩:=qF l (xw t M r) g1
  refine⟨k1,λp hp=>k2 p (g2 p hp),λr' hr' d hd=>?_⟩
  rcases List.mem_cons.mp hr' with rfl|hr'
  ·exact k2 _ (g3 d hd)
  ·exact k3 r' hr' d hd
theorem nq{t:Tpl}{x y:Int}(h:(bg t x y).2=true):aJ t=0∧aI t x=true∧aI t y=true:=by
 unfold bg at h
 split at h
 ·cases h
 ·rename_i e
  have h1:hs5 t x=true:=by simp at e;exact e.1
  have h2:hs5 t y=true:=by simp at e;exact e.2
  exact⟨(eX.mp h1).1,(eX.mp h1).2,(eX.mp h2).2⟩
theorem Bo{t:Tpl}{x y:Int}(h:(bg t x y).2=false):(bg t x y).1=0:=by
 unfold bg at *
 split
 ·rfl
 ·rename_i e
  rw[if_neg e]at h
  split
  ·rfl
  ·rename_i g;rw[if_neg g]at h;cases h
theorem qE(t:Tpl)(x y:Int):aU (cZ t) ⟨x,y⟩=(bg t x y).2:=by
 obtain⟨g1,_,g3⟩:=qF (t:=t) t.rs [] ⟨List.nodup_nil,λp hp=>by simp at hp⟩
 rw[Bool.eq_iff_iff,bP]
 constructor
 ·rintro⟨v,hv⟩
  have:=g1.ok _ hv
  rw[show bg t x y=_ from this]
 ·intro h
  obtain⟨hc,hx,hy⟩:=nq h
  obtain⟨r,hr,e⟩:=List.any_eq_true.mp hx
  have e:r.id=x:=eq_of_beq e
  have:=g3 r hr _ (OK hc (by rw[e];exact h) hy)
  rw[e]at this
  exact⟨_,this⟩
theorem Kb(t:Tpl)(x y:Int):az (cZ t) ⟨x,y⟩ 0=(bg t x y).1:=by
 obtain⟨g1,_,g3⟩:=qF (t:=t) t.rs [] ⟨List.nodup_nil,λp hp=>by simp at hp⟩
 cases e:(bg t x y).2 with
 | false=>rw[cn (by rw[qE,e]),Bo e]
 | true =>
  have h:=bG (z:=0) (show aU (cZ t) ⟨x,y⟩=true by rw[qE,e])
  have:=g1.ok _ h
  rw[show bg t x y=_ from this]
def lm(m:List (Hop×Int))(x d:Int)(h:Hop)(c:Int):Bool:=aU m ⟨x,h.a⟩ && (aU m ⟨h.b,d⟩ && (W (W (az m ⟨x,h.a⟩ 0+c)+az m ⟨h.b,d⟩ 0)==az m ⟨x,d⟩ 0))
def MB(m:(List (Hop×Int)))(x:Int)(d:Int)(h_:Hop)(cost:Int):=okL [.mp (some 2) (m.map λp:Hop×Int=>mC p.1) (m.map λp:Hop×Int=>AV.int p.2),.int x,.int d,.agg [.int h_.a,.int h_.b],.int cost]
def uV(r:Bool):AV:=.bool r
def uU(m:(List (Hop×Int)))(x:Int)(d:Int)(h_:Hop)(cost:Int):Ax Tryz.prog noS (Bool):=
 (.mn 112 (mq AV.int m (⟨x,h_.a⟩:Hop) 0) (.mn 288 (mq AV.int m (⟨h_.b,d⟩:Hop) 0) (.br 416 (aU m (⟨x,h_.a⟩:Hop)) (.br 464 (aU m (⟨h_.b,d⟩:Hop)) (.mn 608 (mq AV.int m (⟨x,d⟩:Hop) 0) (.ret ((W ((W ((az m (⟨x,h_.a⟩:Hop) 0)+cost))+(az m (⟨h_.b,d⟩:Hop) 0)))==(az m (⟨x,d⟩:Hop) 0))))
(.ret (false)))
(.ret (false)))))
def zh(m:(List (Hop×Int)))(x:Int)(d:Int)(h_:Hop)(cost:Int)(r0:Bool):=(uU m x d h_ cost).vp uV r0
theorem MA(m:List (Hop×Int))(x d:Int)(h:Hop)(c:Int)(ok:MB m x d h c):zh m x d h c (lm m x d h c):=by
 dsimp only[zh,uU,noS,Ax.vp,Ax.vc];simp only[vcU,rfU,List.length_map]
 unfold lm
 refine⟨λa=>⟨λb=>by rw[a,b];rfl,λb=>by rw[a,b];rfl⟩,λa=>by rw[a];rfl⟩
def cp(m:(List (Hop×Int)))(x:Int)(d:Int)(h_:Hop)(cost:Int):PC Tryz.prog:=⟨97,[.k,.k,.k,.k,.k],[.mp (some 2) (m.map λp:Hop×Int=>mC p.1) (m.map λp:Hop×Int=>AV.int p.2),.int x,.int d,.agg [.int h_.a,.int h_.b],.int cost],uV (lm m x d h_ cost),aw.of_ok λok=>av (sh:=.k) (enc:=uV) (a:=(uU m x d h_ cost).an) (MA m x d h_ cost ok) (by kernel_rfl) (AV.pureB_ok rfl),ap (by kernel_rfl)⟩
theorem BP{P:Program}{n:Nat}{o:Oper}{f:Nat}{tm:Nat→AV}{hp:Hp}{g:AO}{xs:List AO}(ho:cOp P o.op o.type=.call g xs)(hd:∀d,o.dst=some d→d<n)
  {fid:FuncId} {caps:List AV} (hg:evO tm g=.func fid caps) {foot:List Nat} {Qv:AV→Eff→Prop} (h:iK P n fid (xs.map (evO tm)++caps) f hp foot Qv)
  {c:Ctx} {A:Nat→Prop} {μ:Mu} {fr:Nat→Prop} {a:Act} {w:World} {K:Act→World→Prop} {Q:Exit→Act→World→Prop} (H:aA P c A μ fr tm hp n a w) (h3:∀j,j<16→fr (f+j))
  (hK:∀v e,Qv v e→∀a' w' A' μ',aA P c A' μ' (λb=>fr b∧¬(f≤b∧b<f+16)) (aG o.dst v tm) (bN e hp) n a' w'→K a' w'):o.wp P a w K Q:=by
 obtain⟨⟨fn,f1,f2,f3⟩,hcall⟩:=h
 have hop:=ny ho
 obtain⟨g',args,ts,ho',rfl,rfl⟩:=hop
 have hgr:=H.ev g'
 rw[hg]at hgr
 obtain⟨cvs,e1,e2⟩:=hgr
 have hxs:(args.toList.map (cO P)).map (evO tm)=args.toList.map λx=>evO tm (cO P x):=by rw[List.map_map];rfl
 rw[hxs]at hcall
 have hargs:=(H.evs args.toList).append e2
 have:=hcall c A μ fr tm hp a w _ H (λ_ _=>rfl) h3 hargs
 unfold Oper.wp
 rw[nc ho' e1 f1 f2 f3,Oper.upon_enter]
 have ea:args.map a.eval++cvs.toArray=(args.toList.map a.eval++cvs).toArray:=by apply Array.ext';simp
 rw[ea]
 refine this.mono ?_
 rintro e' w' ⟨v,e,hq,cv,A',μ',rfl,r1,r2⟩
 exact hK v e hq _ _ _ _ (r1.put o.dst hd r2)
theorem AWP.regE{P:Program}{k n:Nat}{Q:X→S3→Prop}{s:S3}{os1 os2:List aF}{d:Option Nat}{g:AO}{xs:List AO}
  (h:evT P n os1 s.nx ⟨s.tm,s.hp⟩ (λs1 f1=>∃fid caps foot Qv,evO s1.tm g=.func fid caps∧iK P n fid (xs.map (evO s1.tm)++caps) f1 s1.hp foot Qv ∧
   ∀v e,Qv v e→evT P n os2 (f1+16) ⟨aG d v s1.tm,bN e s1.hp⟩ (λs' f=>Q .normal ⟨s'.tm,s'.hp,f⟩))):AWP P k n (.reg (os1++⟨d,.call g xs,none⟩::os2)) Q s:=by
 intro code hc c a w H
 cases code<;>simp only[dD]at hc<;>try cases hc
 rename_i id ops' draw
 rcases cI hc with h'|⟨hd,h'⟩|⟨_,_,_,h'⟩
 ·cases h'
 ·subst hd
  have h':os1++⟨d,.call g xs,none⟩::os2=ops'.toList.map (eG P n ops'):=AC.reg.inj h'
  obtain⟨h0,A,μ,hr⟩:=H
  obtain⟨l1,l2,e1,rfl,e3⟩:=List.map_eq_append_iff.mp h'.symm
  cases l2 with
  | nil=>cases e3
  | cons o l2 =>
   rw[List.map_cons]at e3
   obtain⟨e4,rfl⟩:=List.cons.inj e3
   refine wp_region_list ?_
   rw[e1]
   refine js (c:=c) _ (o::l2) (λs1 f1 a1 w1 A1 μ1 hK hr1=>?_) l1 s.nx ⟨s.tm,s.hp⟩ a w A μ h hr
   obtain⟨fid,caps,foot,Qv,k1,k2,k3⟩:=hK
   rcases iF P n ops' o with hb|⟨gd,hg,hd,hb⟩
   ·rw[hb]at e4;cases e4
   rw[hb]at e4
   obtain⟨rfl,e5,rfl⟩:o.dst=d∧cOp P o.op o.type=.call g xs∧gd=none:=by
    have e6:=aF.mk.inj e4
    exact⟨e6.1,e6.2.1,e6.2.2⟩
   have hgd:o.guard=none:=by
    cases q:o.guard with
    | none=>rfl
    | some jw=>rw[q]at hg;obtain⟨j,wt⟩:=jw;simp only[eS]at hg;split at hg<;>cases hg
   unfold wpList
   rw[if_pos (by simp[Region.wanted,hgd])]
   refine .inl (BP e5 hd k1 k2 hr1 (λj _=>by omega) λv e hq a' w' A' μ' hr'=>?_)
   exact oj (c:=c) _ (λs' f a w A μ hK hr=>⟨⟨s'.tm,s'.hp,f⟩,hK,h0,A,μ,hr⟩) l2 (f1+16) _ a' w' A' μ' (k3 v e hq) (hr'.free λb hb=>⟨by omega,λh=>by omega⟩)
 ·cases h'
abbrev Rws:=List (Int×List Int)
def kyL(L:Rws):List MK:=L.map λp=>MK.n p.1
structure Fam (hp:Hp) (nx bm:Nat) (ns:List Nat) (L:Rws):Prop where
  hm:hp bm=some (.map none (kyL L) (ns.map AV.vec))
  ln:ns.length=L.length
  nd:ns.Nodup
  kd:(au L).Nodup
  lt:∀b∈ns,b<nx
  bl:bm<nx
  row:∀(i:Nat) b p,ns[i]?=some b→L[i]?=some p→hp b=some (.vec 1 (p.2.map AV.int))
theorem Fam.vec{hp:Hp}{nx bm:Nat}{ns:List Nat}{L:Rws}(h:Fam hp nx bm ns L){b:Nat}(hb:b∈ns):∃es,hp b=some (.vec 1 es):=by
 obtain⟨i,hi⟩:=List.mem_iff_getElem?.mp hb
 have hl:=aq hi
 have hl':i<L.length:=by rw[←h.ln];exact hl
 exact⟨_,h.row i b _ hi (List.getElem?_eq_getElem hl')⟩
theorem Fam.ne{hp:Hp}{nx bm:Nat}{ns:List Nat}{L:Rws}(h:Fam hp nx bm ns L){b:Nat}(hb:∀es,hp b≠some (.vec 1 es)):b ∉ ns:=λc=>by
 obtain⟨es,e⟩:=h.vec c;exact hb es e
theorem Fam.bm_no{hp:Hp}{nx bm:Nat}{ns:List Nat}{L:Rws}(h:Fam hp nx bm ns L):bm ∉ ns:=h.ne λes e=>by rw[h.hm]at e;cases e
theorem Fam.keep{hp hp':Hp}{nx nx' bm:Nat}{ns:List Nat}{L:Rws}(h:Fam hp nx bm ns L)(e:∀b,b<nx→(b=bm∨b∈ns)→hp' b=hp b)(hn:nx≤nx'):Fam hp' nx' bm ns L:=
 ⟨(e bm h.bl (.inl rfl)).trans h.hm,h.ln,h.nd,h.kd,λb hb=>Nat.lt_of_lt_of_le (h.lt b hb) hn,Nat.lt_of_lt_of_le h.bl hn,λi b p hi hp=>(e b (h.lt b (List.mem_of_getElem? hi)) (.inr (List.mem_of_getElem? hi))).trans (h.row i b p hi hp)⟩
theorem qd{L:Rws}{k:Int}:MK.n k∈kyL L↔k∈au L:=by
 unfold kyL au
 constructor
 ·intro h;obtain⟨p,hp,e⟩:=List.mem_map.mp h;exact List.mem_map.mpr ⟨p,hp,MK.n.inj e⟩
 ·intro h;obtain⟨p,hp,rfl⟩:=List.mem_map.mp h;exact List.mem_map.mpr ⟨p,hp,rfl⟩
theorem JB{L:Rws}(hn:(au L).Nodup){k:Int}{i:Nat}{p:Int×List Int}(hp:L[i]?=some p)(e:p.1=k):(kyL L).idxOf (MK.n k)=i∧dS L k=i:=by
 have h1:(au L)[i]?=some k:=by unfold au;rw[List.getElem?_map,hp,←e];rfl
 have h2:(kyL L)[i]?=some (MK.n k):=by unfold kyL;rw[List.getElem?_map,hp,←e];rfl
 refine⟨mN ?_ h2,?_⟩
 ·have:kyL L=(au L).map MK.n:=by unfold kyL au;rw[List.map_map];rfl
  rw[this]
  exact List.Pairwise.map MK.n (λa b h e=>h (MK.n.inj e)) hn
 ·obtain⟨hl,rfl⟩:=List.getElem?_eq_some_iff.mp h1
  exact hn.idxOf_getElem i hl
theorem Fam.no{hp:Hp}{nx bm:Nat}{ns:List Nat}{L:Rws}(h:Fam hp nx bm ns L){k:Int}(hk:aU L k=false)(z v:AV)(kk:Option Nat) :
  cF (kyL L) (ns.map AV.vec) (MK.n k) z false=z∧d8 kk (kyL L) (ns.map AV.vec) (MK.n k) v=.map kk (kyL L++[MK.n k]) (ns.map AV.vec++[v]):=by
 have hn:MK.n k ∉ kyL L:=λc=>by rw[qd]at c;unfold aU at hk;simp[c]at hk
 unfold cF d8
 rw[if_neg hn,if_neg hn];exact⟨rfl,rfl⟩
theorem Fam.yes{hp:Hp}{nx bm:Nat}{ns:List Nat}{L:Rws}(h:Fam hp nx bm ns L){k:Int}(hk:aU L k=true):∃(i b:Nat),ns[i]?=some b∧L[i]?=some (k,az L k [])∧dS L k=i∧hp b=some (.vec 1 ((az L k []).map AV.int)) ∧
  (∀z,cF (kyL L) (ns.map AV.vec) (MK.n k) z false=.vec b)∧∀kk v,d8 kk (kyL L) (ns.map AV.vec) (MK.n k) v=.map kk (kyL L) ((ns.map AV.vec).set i v):=by
 have hm:k∈au L:=by unfold aU at hk;simpa using hk
 obtain⟨v,hv⟩:=jO hm
 have hval:az L k []=v:=by unfold az;rw[hv]
 have hi:=aq hv
 have hb:ns[dS L k]?=some (ns[dS L k]'(by rw[h.ln];exact hi)):=List.getElem?_eq_getElem _
 generalize ns[dS L k]'(by rw[h.ln];exact hi)=b at hb
 obtain⟨e1,_⟩:=JB h.kd hv rfl
 refine⟨dS L k,b,hb,by rw[hval];exact hv,rfl,by rw[hval];exact h.row _ b _ hb hv,λz=>?_,λkk v=>?_⟩
 ·unfold cF
  rw[if_pos (qd.mpr hm),e1,List.getD_eq_getElem?_getD,List.getElem?_map,hb];rfl
 ·unfold d8
  rw[if_pos (qd.mpr hm),e1]
theorem pO{L:Rws}{k:Int}(hk:aU L k=false)(v:List Int):bi L k v=L++[(k,v)]:=by
 have hn:k ∉ au L:=λc=>by unfold aU at hk;simp[c]at hk
 unfold bi;rw[if_neg hn]
theorem mo{L:Rws}{k:Int}(hk:aU L k=true)(v:List Int):bi L k v=L.set (dS L k) (k,v):=by
 have hm:k∈au L:=by unfold aU at hk;simpa using hk
 unfold bi;rw[if_pos hm]
theorem Fam.put_no{hp hp':Hp}{nx nx' bm f:Nat}{ns:List Nat}{L:Rws}(h:Fam hp nx bm ns L){k y:Int}(hk:aU L k=false)(hf:nx≤f)(hf':f<nx')
  (e1:hp' bm=some (.map none (kyL L++[MK.n k]) (ns.map AV.vec++[.vec f]))) (e2:hp' f=some (.vec 1 [.int y])) (e3:∀b,b<nx→b≠bm→hp' b=hp b):Fam hp' nx' bm (ns++[f]) (bi L k (az L k []++[y])):=by
 have hv:az L k []=[]:=cn hk
 rw[hv,pO hk]
 refine⟨by rw[e1];simp[kyL],by simp[h.ln],?_,?_,λb hb=>?_,by have:=h.bl;omega,λi b p hi hp=>?_⟩
 ·refine List.nodup_append.mpr ⟨h.nd,by simp,λa ha b hb=>?_⟩
  rw[List.mem_singleton.mp hb];have:=h.lt a ha;omega
 ·rw[show au (L++[(k,[]++[y])])=au L++[k] by simp[au]]
  refine List.nodup_append.mpr ⟨h.kd,by simp,λa ha b hb=>?_⟩
  rw[List.mem_singleton.mp hb];rintro rfl;unfold aU at hk;simp[ha]at hk
 ·rcases List.mem_append.mp hb with hb|hb
  ·have:=h.lt b hb;omega
  ·rw[List.mem_singleton.mp hb];exact hf'
 ·by_cases c:i<ns.length
  ·rw[List.getElem?_append_left c]at hi
   rw[List.getElem?_append_left (by rw[←h.ln];exact c)]at hp
   have hbm:=List.mem_of_getElem? hi
   rw[e3 b (h.lt b hbm) (λq=>h.bm_no (q ▸ hbm))]
   exact h.row i b p hi hp
  ·have hl:=aq hi
   rw[List.length_append,List.length_singleton]at hl
   obtain rfl:i=ns.length:=by omega
   rw[List.getElem?_append_right (Nat.le_refl _),Nat.sub_self]at hi
   rw[List.getElem?_append_right (by rw[h.ln];exact Nat.le_refl _),h.ln,Nat.sub_self]at hp
   cases hi;cases hp
   exact e2
theorem Fam.put_yes{hp hp':Hp}{nx nx' bm f i b0:Nat}{ns:List Nat}{L:Rws}(h:Fam hp nx bm ns L){k y:Int}(hk:aU L k=true)(hi:ns[i]?=some b0)(hL:L[i]?=some (k,az L k []))(hx:dS L k=i)(hf:nx≤f)(hf':f<nx')
  (e1:hp' bm=some (.map none (kyL L) ((ns.map AV.vec).set i (.vec f)))) (e2:hp' f=some (.vec 1 ((az L k []).map AV.int++[.int y]))) (e3:∀b,b<nx→b≠bm→b≠b0→hp' b=hp b):Fam hp' nx' bm (ns.set i f) (bi L k (az L k []++[y])):=by
 rw[mo hk,hx]
 have hil:=aq hi
 have hky:kyL (L.set i (k,az L k []++[y]))=kyL L:=by
  unfold kyL
  rw[List.map_set]
  refine List.ext_getElem? λj=>?_
  rw[List.getElem?_set]
  split
  ·rename_i e;subst e
   rw[List.length_map,if_pos (aq hL),List.getElem?_map,hL];rfl
  ·rfl
 have hmk:au (L.set i (k,az L k []++[y]))=au L:=by
  unfold au
  rw[List.map_set]
  refine List.ext_getElem? λj=>?_
  rw[List.getElem?_set]
  split
  ·rename_i e;subst e
   rw[List.length_map,if_pos (aq hL),List.getElem?_map,hL];rfl
  ·rfl
 refine⟨by rw[e1,hky,List.map_set],by simp[h.ln],?_,by rw[hmk];exact h.kd,λb hb=>?_,by have:=h.bl;omega,λj b p hj hp=>?_⟩
 ·have hset:ns.set i f=ns.take i++f::ns.drop (i+1):=by rw[List.set_eq_take_append_cons_drop,if_pos hil]
  rw[hset]
  have hnd:=h.nd
  rw[←List.take_append_drop i ns,List.drop_eq_getElem_cons hil]at hnd
  obtain⟨q1,q2,q3⟩:=List.nodup_append.mp hnd
  refine List.nodup_append.mpr ⟨q1,List.nodup_cons.mpr ⟨λc=>?_,(List.nodup_cons.mp q2).2⟩,λa ha b hb=>?_⟩
  ·have:=h.lt f (List.mem_of_mem_drop c);omega
  ·rcases List.mem_cons.mp hb with rfl|hb
   ·have:=h.lt a (List.mem_of_mem_take ha);omega
   ·exact q3 a ha b (List.mem_cons_of_mem _ hb)
 ·rcases List.mem_or_eq_of_mem_set hb with hb|rfl
  ·have:=h.lt b hb;omega
  ·exact hf'
 ·rw[List.getElem?_set]at hj hp
  by_cases c:i=j
  ·subst c
   rw[if_pos rfl,if_pos hil]at hj
   rw[if_pos rfl,if_pos (aq hL)]at hp
   cases hj;cases hp
   rw[e2];simp
  ·rw[if_neg c]at hj hp
   have hbm:=List.mem_of_getElem? hj
   have hne:b≠b0:=λq=>by subst q;exact c ((List.getElem?_inj hil h.nd).mp (hi.trans hj.symm))
   rw[e3 b (h.lt b hbm) (λq=>h.bm_no (q ▸ hbm)) hne]
   exact h.row j b p hj hp
theorem Fam.give{k n:Nat}{tm:Nat→AV}{hp:Hp}{nx bm:Nat}{ns:List Nat}{L:Rws}(h:Fam hp nx bm ns L) :
  ∃hp',ay k n ⟨tm,hp,nx⟩ ⟨tm,hp',nx⟩∧hp' bm=some (.map none (kyL L) (L.map λp=>AV.sl 1 (p.2.map AV.int) false))∧∀b,b≠bm→b ∉ ns→hp' b=hp b:=by
 let f:Nat→Nat:=λi=>(ns[i]?).getD (nx+i)
 have hf1:∀i,i<ns.length→ns[i]?=some (f i):=λi hi=>by simp only[f];rw[List.getElem?_eq_getElem hi];rfl
 have hf2:∀i,¬i<ns.length→f i=nx+i:=λi hi=>by simp only[f];rw[List.getElem?_eq_none (by omega)];rfl
 obtain⟨hp',vs',w,a1,a2,a3,a4,a5⟩:=ay.giveRows (k:=k) (n:=n) (tm:=tm) (nx:=nx) (kk:=1) bm f (λi=>((L[i]?).elim [] (·.2)).map AV.int) (λi=>aB (ab (λ_=>rfl) _)) (λi j e=>by
   by_cases ci:i<ns.length<;>by_cases cj:j<ns.length
   ·have h1:=hf1 i ci;have h2:=hf1 j cj
    rw[←e]at h2
    exact(List.getElem?_inj ci h.nd).mp (h1.trans h2.symm)
   ·have h1:=h.lt _ (List.mem_of_getElem? (hf1 i ci));have h2:=hf2 j cj;omega
   ·have h1:=h.lt _ (List.mem_of_getElem? (hf1 j cj));have h2:=hf2 i ci;omega
   ·have h1:=hf2 i ci;have h2:=hf2 j cj;omega)
  (λi e=>by
   by_cases ci:i<ns.length
   ·exact h.bm_no (e ▸ List.mem_of_getElem? (hf1 i ci))
   ·have h1:=hf2 i ci;have:=h.bl;omega) h.hm ns.length (λi hi=>⟨by rw[List.getElem?_map,hf1 i hi];rfl,by
    have hl':i<L.length:=by rw[←h.ln];exact hi
    have hL:=List.getElem?_eq_getElem hl'
    rw[h.row i _ _ (hf1 i hi) hL,hL];rfl⟩)
 refine⟨hp',w,?_,λb hb hn=>a5 b hb λi hi e=>hn (e ▸ List.mem_of_getElem? (hf1 i hi))⟩
 rw[a1]
 congr 2
 refine List.ext_getElem? λi=>?_
 by_cases hi:i<ns.length
 ·have hl':i<L.length:=by rw[←h.ln];exact hi
  have hL:=List.getElem?_eq_getElem hl'
  rw[a3 i hi,List.getElem?_map,hL];rfl
 ·rw[List.getElem?_eq_none (by rw[a2];simpa using hi),List.getElem?_eq_none (by rw[List.length_map,←h.ln];omega)]
def PF:AF:=
 ⟨32,1,[.tmp 2],
 .seq (.reg [⟨(some 2),.move (.c (.val (.map none))),none⟩])
 (.seq (.reg [⟨(some 8),.mkm none,none⟩,⟨(some 3),.move (.t 8),none⟩])
 (.seq (.seq (.reg [⟨(some 9),.move (.t 0),none⟩,⟨(some 10),.rng (.t 9),none⟩])
 (.block 0 (.loop (.seq (.reg [⟨(some 11),.nxt (.t 10),none⟩,⟨(some 12),.ext 0 (.t 11),none⟩])
 (.seq (.cond (.t 12) (.skip) (.exit 0))
 (.block 1 (.seq (.reg [⟨(some 13),.ent (.t 10),none⟩,⟨(some 14),.ext 0 (.t 13),none⟩,⟨(some 15),.ext 1 (.t 13),none⟩,⟨(some 4),.move (.t 14),none⟩,⟨(some 5),.move (.t 15),none⟩])
 (.seq (.reg [⟨(some 16),.move (.t 5),none⟩,⟨(some 17),.len (.t 16),none⟩,⟨(some 18),.move (.c (.val (.int .i64 0))),none⟩])
 (.block 2 (.loop (.seq (.reg [⟨(some 19),.bin .lss (.t 18) (.t 17),none⟩])
 (.seq (.cond (.t 19) (.skip) (.exit 2))
 (.seq (.block 3 (.seq (.reg [⟨(some 20),.iaddr 1 (.t 16) (.t 18),none⟩,⟨(some 21),.load false 1 (.t 20),none⟩,⟨(some 7),.move (.t 21),none⟩])
 (.reg [⟨(some 22),.move (.t 3),none⟩,⟨(some 23),.move (.t 7),none⟩,⟨(some 24),.move (.t 3),none⟩,⟨(some 25),.move (.t 7),none⟩,⟨(some 26),.mget none ((.sl 0 [] true)) false (.t 24) (.t 25),none⟩,⟨(some 27),.move (.t 4),none⟩,⟨(some 28),.lit 1 1 (.val (.int .i64 0)) [(0,(.t 27))],none⟩,⟨(some 29),.append 1 8 (.t 26) (.t 28),none⟩,⟨none,.mset none (.t 22) (.t 23) (.t 29),none⟩])))
 (.reg [⟨(some 30),.bin .add (.t 18) (.c (.val (.int .i64 1))),none⟩,⟨(some 18),.move (.t 30),none⟩]))))))))))))))
 (.seq (.reg [⟨(some 31),.move (.t 3),none⟩,⟨(some 2),.move (.t 31),none⟩])
 (.ret))))⟩
theorem Lf:fp Tryz.prog Tryz.f54=some PF:=by kernel_rfl
def pu(M:Rws)(k y:Int):Rws:=bi M k (az M k []++[y])
def iX(x:Int)(M:Rws)(l:List Int):Rws:=l.foldl (λM y=>pu M y x) M
def fP(L:Rws)(is:List Nat):Rws:=is.foldl (λM i=>iX (L.getD i (0,[])).1 M (L.getD i (0,[])).2) []
def gY(L:Rws):Blk:=.map none (kyL L) (L.map λp=>AV.sl 1 (p.2.map AV.int) false)
theorem dB(L:Rws):aR (L.map λp=>AV.sl 1 (p.2.map AV.int) false):=aB (ab (λp=>by show AV.pureB (AV.sl 1 (p.2.map AV.int) false)=true;rw[AV.pureB];first|done|exact ab (λ_=>rfl) _) _)
structure uA (L:Rws):Prop where
  len:L.length≤100
  ky:∀p∈L,Am.inK .i64 p.1
  row:∀p∈L,p.2.length≤100
  el:∀p∈L,∀y∈p.2,Am.inK .i64 y
theorem nxF{b nx:Nat}(h:b<nx):(∀k,(b=nx+k)=False)∧(∀k,(nx+k=b)=False)∧(b=nx)=False∧(nx=b)=False:=
 ⟨λk=>by simp;omega,λk=>by simp;omega,by simp;omega,by simp;omega⟩
theorem v8{M:Rws}{m:Nat}(h:∀p∈M,p.2.length≤m)(k y:Int):∀p∈pu M k y,p.2.length≤m+1:=λp hp=>by
 unfold pu at hp
 have hv:(az M k []).length≤m:=by
  cases e:aU M k with
  | false=>rw[cn e];simp
  | true=>exact h _ (bG e)
 cases e:aU M k with
 | false =>
  rw[pO e]at hp
  rcases List.mem_append.mp hp with hp|hp
  ·have:=h p hp;omega
  ·rw[List.mem_singleton.mp hp];simp;omega
 | true =>
  rw[mo e]at hp
  rcases List.mem_or_eq_of_mem_set hp with hp|rfl
  ·have:=h p hp;omega
  ·simp;omega
theorem q9{kk:Option Nat}{f:Nat}{ρ:AO→AV}{hp:Hp}:evA (.mkm kk) f ρ hp={ c:=True,v:=.mref f,ad:=some (f,.map kk [] []) }:=rfl
structure TuI (L:Rws) (st:List Nat) (ck:Nat) (s:S3) (M:Rws) (is:List Nat):Prop where
  nx:81≤s.nx
  t3:s.tm 3=.mref 17
  t10:s.tm 10=.ref 65 0
  h0:s.hp 0=some (.mst none (kyL L) (L.map λp=>AV.sl 1 (p.2.map AV.int) false) st ck)
  hi:s.hp 65=some (.itr 0 st ck (is.map λi=>st.getD i 0))
  fam:∃ns,Fam s.hp s.nx 17 ns M
theorem Db(L:Rws)(hL:uA L):ep Tryz.prog 54 [.mref 0] [gY L] (λr h'=>∃is:List Nat,is.Nodup∧(∀i∈is,i<L.length)∧(∀i,i<L.length→i∈is)∧r=.mref 1∧h'=[none,some (gY (fP L is))]):=by
 refine ep.walk Tryz.func54 Lf (by simp[PF]) ?_
 unfold PF
 simp only[eT,fm,List.length_cons,List.length_nil]
 refine AWP.open 0 (ai _ _ _) λst ck hs1 hs2 hn hv=>?_
 have hs2:st.length=L.length:=by rw[hs2];simp[kyL]
 have hkO:∀q∈kyL L,kOk q:=λq hq=>by
  obtain⟨p,hp,rfl⟩:=List.mem_map.mp hq
  exact hL.ky p hp
 refine AWP.seq' ?_
 refine AWP.reg' λK hK=>?_
 try simp only[ak,am,al,eq_self,implies_true,forall_eq_or_imp,forall_eq,Nat.reduceEqDiff,↓reduceIte,Nat.reduceAdd,Nat.reduceLeDiff,Nat.reduceSub,Nat.reduceMul,Nat.reduceLT,Int.reduceBEq,Int.reduceBNe,Int.reduceToNat,Int.reduceLT,Int.reduceLE,Int.reduceAdd,Int.reduceSub,Int.reduceMul,reduceCtorEq]
 refine hK _ _ _ ?_
 clear hK K
 refine AWP.seq' ?_
 refine AWP.reg' λK hK=>?_
 try simp only[ak,am,al,eq_self,implies_true,forall_eq_or_imp,forall_eq,Nat.reduceEqDiff,↓reduceIte,Nat.reduceAdd,Nat.reduceLeDiff,Nat.reduceSub,Nat.reduceMul,Nat.reduceLT,Int.reduceBEq,Int.reduceBNe,Int.reduceToNat,Int.reduceLT,Int.reduceLE,Int.reduceAdd,Int.reduceSub,Int.reduceMul,reduceCtorEq,q9]
 refine hK _ _ _ ?_
 clear hK K
 refine AWP.seq' (AWP.seq' ?_)
 refine AWP.reg' λK hK=>?_
 try simp only[ak,am,al,eq_self,implies_true,forall_eq_or_imp,forall_eq,Nat.reduceEqDiff,↓reduceIte,Nat.reduceAdd,Nat.reduceLeDiff,Nat.reduceSub,Nat.reduceMul,Nat.reduceLT,Int.reduceBEq,Int.reduceBNe,Int.reduceToNat,Int.reduceLT,Int.reduceLE,Int.reduceAdd,Int.reduceSub,Int.reduceMul,reduceCtorEq]
 refine qt rfl (by simp only[ah];rfl) ?_
 try simp only[ak,am,al,eq_self,implies_true,forall_eq_or_imp,forall_eq,Nat.reduceEqDiff,↓reduceIte,Nat.reduceAdd,Nat.reduceLeDiff,Nat.reduceSub,Nat.reduceMul,Nat.reduceLT,Int.reduceBEq,Int.reduceBNe,Int.reduceToNat,Int.reduceLT,Int.reduceLE,Int.reduceAdd,Int.reduceSub,Int.reduceMul,reduceCtorEq]
 refine hK _ _ _ ?_
 clear hK K
 refine AWP.block ?_
 refine AWP.loopS (λt:S3×List Nat=>t.1) (λt=>(t.2.Nodup∧(∀i∈t.2,i<L.length)∧∀p∈fP L t.2,p.2.length≤100 * t.2.length)∧TuI L st ck t.1 (fP L t.2) t.2) (λt=>L.length-t.2.length) (i0:=(_,[])) ?_ ay.refl ?_
 ·refine⟨⟨List.nodup_nil,λi hi=>by simp at hi,λp hp=>by simp[fP]at hp⟩,?_⟩
  exact⟨Nat.le_refl _,rfl,rfl,rfl,rfl,[],⟨rfl,rfl,List.nodup_nil,List.nodup_nil,by simp,by show 17<81;omega,by simp⟩⟩
 ·rintro⟨⟨tm,hp,nx⟩,is⟩ ⟨⟨i1,i2,i3⟩,hI⟩
  obtain⟨n1,g3,g10,g0,gi,ns,hF⟩:=hI
  simp only at n1 g3 g10 g0 gi hF i1 i2 i3 ⊢
  refine AWP.seq' ?_
  refine AWP.reg' λK hK=>?_
  try simp only[ak,am,al,eq_self,implies_true,forall_eq_or_imp,forall_eq,Nat.reduceEqDiff,↓reduceIte,Nat.reduceAdd,Nat.reduceLeDiff,Nat.reduceSub,Nat.reduceMul,Nat.reduceLT,Int.reduceBEq,Int.reduceBNe,Int.reduceToNat,Int.reduceLT,Int.reduceLE,Int.reduceAdd,Int.reduceSub,Int.reduceMul,reduceCtorEq]
  refine qu g10 gi g0 hkO (λhs=>?_) (λi q v s0 e1 e2 e3 e4=>?_)
  ·try simp only[ak,am,al,eq_self,implies_true,forall_eq_or_imp,forall_eq,Nat.reduceEqDiff,↓reduceIte,Nat.reduceAdd,Nat.reduceLeDiff,Nat.reduceSub,Nat.reduceMul,Nat.reduceLT,Int.reduceBEq,Int.reduceBNe,Int.reduceToNat,Int.reduceLT,Int.reduceLE,Int.reduceAdd,Int.reduceSub,Int.reduceMul,reduceCtorEq]
   refine hK _ _ _ ?_
   clear hK K
   refine AWP.seq' (AWP.cond (b:=false) rfl (λh=>by cases h) (λ_=>AWP.exit ?_))
   refine(show AWP _ _ _ _ _ _ from ?_)
   refine AWP.seq' ?_
   refine AWP.reg' λK hK=>?_
   try simp only[ak,am,al,eq_self,implies_true,forall_eq_or_imp,forall_eq,Nat.reduceEqDiff,↓reduceIte,Nat.reduceAdd,Nat.reduceLeDiff,Nat.reduceSub,Nat.reduceMul,Nat.reduceLT,Int.reduceBEq,Int.reduceBNe,Int.reduceToNat,Int.reduceLT,Int.reduceLE,Int.reduceAdd,Int.reduceSub,Int.reduceMul,reduceCtorEq,g3]
   refine hK _ _ _ ?_
   clear hK K
   refine(show AWP _ _ _ _ _ _ from ?_)
   obtain⟨hp',w,h1,h2⟩:=(hF.keep (nx':=nx+16+16+16+16) (λ_ _ _=>rfl) (by omega)).give (k:=1) (n:=32) (tm:=upd (upd (upd (upd tm 11 (AV.tup [AV.bool false])) 12 (AV.bool false)) 31 (AV.mref 17)) 2 (AV.mref 17))
   refine AWP.ret ⟨_,_,⟨is,i1,i2,λi hi=>?_,rfl,rfl⟩,gf w (gC [0,17] [(2,.mref 1)] rfl rfl ?_ ?_ rfl (by decide) ?_ (by simp))⟩
   ·have hi':i<st.length:=by omega
    have h3:=hs _ (List.mem_of_getElem? (List.getElem?_eq_getElem hi'))
    obtain⟨j,hj,e⟩:=List.mem_map.mp h3
    have hj':j<st.length:=by have:=i2 j hj;omega
    rw[List.getD_eq_getElem?_getD,List.getElem?_eq_getElem hj']at e
    have e':st[j]?=st[i]?:=by rw[List.getElem?_eq_getElem hj',List.getElem?_eq_getElem hi'];exact congrArg some e
    rw[←(List.getElem?_inj hj' hs1).mp e'];exact hj
   ·simp only[List.mem_singleton,forall_eq]
    exact⟨rfl,show(1:Nat)<2 by omega⟩
   ·refine⟨⟨?_,?_⟩,trivial⟩
    ·show hp' 17=_
     rw[h1,gY,Blk.ren,aT _ (dB _)]
    ·exact aQ (dB _)
   ·intro b hb
    match b,hb with
    | 0,_=>rfl
  ·have hil:i<L.length:=by have:=aq e3;omega
   have hp':L[i]?=some L[i]:=List.getElem?_eq_getElem hil
   generalize L[i]=p at hp'
   obtain⟨x,l⟩:=p
   have e1':(kyL L)[i]?=some (MK.n x):=by rw[kyL,List.getElem?_map,hp'];rfl
   have e2':(L.map λp=>AV.sl 1 (p.2.map AV.int) false)[i]?=some (.sl 1 (l.map AV.int) false):=by rw[List.getElem?_map,hp'];rfl
   rw[e1']at e1;cases e1
   rw[e2']at e2;cases e2
   have hpm:=List.mem_of_getElem? hp'
   have hll:=hL.row _ hpm
   have hxk:=hL.ky _ hpm
   have hel:=hL.el _ hpm
   simp only at hll hxk hel
   have hml:=bj
   try simp only[ak,am,al,eq_self,implies_true,forall_eq_or_imp,forall_eq,Nat.reduceEqDiff,↓reduceIte,Nat.reduceAdd,Nat.reduceLeDiff,Nat.reduceSub,Nat.reduceMul,Nat.reduceLT,Int.reduceBEq,Int.reduceBNe,Int.reduceToNat,Int.reduceLT,Int.reduceLE,Int.reduceAdd,Int.reduceSub,Int.reduceMul,reduceCtorEq]
   refine hK _ _ _ ?_
   clear hK K
   refine AWP.seq' (AWP.cond (b:=true) rfl (λ_=>?_) (λh=>by cases h))
   refine AWP.skip ?_
   refine AWP.block (AWP.seq' ?_)
   refine AWP.reg' λK hK=>?_
   try simp only[ak,am,al,eq_self,implies_true,forall_eq_or_imp,forall_eq,Nat.reduceEqDiff,↓reduceIte,Nat.reduceAdd,Nat.reduceLeDiff,Nat.reduceSub,Nat.reduceMul,Nat.reduceLT,Int.reduceBEq,Int.reduceBNe,Int.reduceToNat,Int.reduceLT,Int.reduceLE,Int.reduceAdd,Int.reduceSub,Int.reduceMul,reduceCtorEq]
   refine qw (m:=0) g10 (ai _ _ _) ((aj _ _ (by decide)).trans ((aj _ _ (by decide)).trans g0)) e3 e1' e2' hxk ?_
   try simp only[ak,am,al,eq_self,implies_true,forall_eq_or_imp,forall_eq,Nat.reduceEqDiff,↓reduceIte,Nat.reduceAdd,Nat.reduceLeDiff,Nat.reduceSub,Nat.reduceMul,Nat.reduceLT,Int.reduceBEq,Int.reduceBNe,Int.reduceToNat,Int.reduceLT,Int.reduceLE,Int.reduceAdd,Int.reduceSub,Int.reduceMul,reduceCtorEq,kAV]
   refine hK _ _ _ ?_
   clear hK K
   refine AWP.seq' ?_
   refine AWP.reg' λK hK=>?_
   try simp only[ak,am,al,eq_self,implies_true,forall_eq_or_imp,forall_eq,Nat.reduceEqDiff,↓reduceIte,Nat.reduceAdd,Nat.reduceLeDiff,Nat.reduceSub,Nat.reduceMul,Nat.reduceLT,Int.reduceBEq,Int.reduceBNe,Int.reduceToNat,Int.reduceLT,Int.reduceLE,Int.reduceAdd,Int.reduceSub,Int.reduceMul,reduceCtorEq,List.length_map]
   repeat (refine And.intro (by omega) ?_)
   refine hK _ _ _ ?_
   clear hK K
   refine AWP.block ?_
   have hst:st.getD i 0=s0:=by rw[List.getD_eq_getElem?_getD,e3];rfl
   have hni:i ∉ is:=λc=>e4 (List.mem_map.mpr ⟨i,c,hst⟩)
   have hF1:∀b,b<nx→(b=17∨b∈ns)→b≠65:=λb _ hb e=>by
    subst e
    rcases hb with h|h
    ·omega
    ·obtain⟨es,q⟩:=hF.vec h;rw[gi]at q;cases q
   refine AWP.loopS (λt:S3×Nat=>t.1) (λt=>(t.2≤l.length∧∀p∈iX x (fP L is) (l.take t.2),p.2.length≤100 * is.length+t.2)∧TuI L st ck t.1 (iX x (fP L is) (l.take t.2)) (is++[i]) ∧
    t.1.tm 4=.int x∧t.1.tm 16=.sl 1 (l.map AV.int) false∧t.1.tm 17=.int l.length∧t.1.tm 18=.int (t.2:Nat)) (λt=>l.length-t.2) (i0:=(_,0)) ?_ ay.refl ?_
   ·refine⟨⟨Nat.zero_le _,λp hp=>i3 p hp⟩,⟨by dsimp only;omega,?_,?_,?_,?_,ns,hF.keep (λb hb hn=>?_) (by dsimp only;omega)⟩,rfl,rfl,rfl,rfl⟩
    ·simp only[ah];exact g3
    ·simp only[ah];exact g10
    ·simp only[ah];exact g0
    ·simp only[ah,List.map_append,List.map_cons,List.map_nil,hst];rfl
    ·have:=hF1 b hb hn
     simp only[ah,if_neg this]
   ·rintro⟨⟨tm1,hp1,nx1⟩,j⟩ ⟨⟨j1,j2⟩,⟨n1',g3',g10',g0',gi',ns',hF'⟩,t4,t16,t17,t18⟩
    simp only at n1' g3' g10' g0' gi' hF' t4 t16 t17 t18 j1 j2 ⊢
    refine AWP.seq' ?_
    refine AWP.reg' λK hK=>?_
    try simp only[ak,am,al,eq_self,implies_true,forall_eq_or_imp,forall_eq,Nat.reduceEqDiff,↓reduceIte,Nat.reduceAdd,Nat.reduceLeDiff,Nat.reduceSub,Nat.reduceMul,Nat.reduceLT,Int.reduceBEq,Int.reduceBNe,Int.reduceToNat,Int.reduceLT,Int.reduceLE,Int.reduceAdd,Int.reduceSub,Int.reduceMul,reduceCtorEq,t17,t18]
    refine hK _ _ _ ?_
    clear hK K
    refine AWP.seq' ?_
    refine AWP.cond (b:=decide ((j:Int)<(l.length:Int))) rfl (λh=>?_) (λh=>?_)
    ·have h:j<l.length:=by have:=of_decide_eq_true h;omega
     refine AWP.skip ?_
     refine AWP.seq' (AWP.block (AWP.seq' ?_))
     have hy:l[j]?=some l[j]:=List.getElem?_eq_getElem h
     generalize l[j]=y at hy
     have hge:(l.map AV.int).getD j .unk=.int y:=by rw[List.getD_eq_getElem?_getD,List.getElem?_map,hy];rfl
     refine AWP.reg' λK hK=>?_
     try simp only[ak,am,al,eq_self,implies_true,forall_eq_or_imp,forall_eq,Nat.reduceEqDiff,↓reduceIte,Nat.reduceAdd,Nat.reduceLeDiff,Nat.reduceSub,Nat.reduceMul,Nat.reduceLT,Int.reduceBEq,Int.reduceBNe,Int.reduceToNat,Int.reduceLT,Int.reduceLE,Int.reduceAdd,Int.reduceSub,Int.reduceMul,reduceCtorEq,t16,t18,hge,Int.toNat_natCast,List.length_map]
     refine⟨⟨by omega,by omega⟩,?_⟩
     refine hK _ _ _ ?_
     clear hK K
     refine(show AWP _ _ _ _ _ _ from ?_)
     obtain⟨f17a,f17b,f17c,f17d⟩:=nxF (show 17<nx1 by omega)
     generalize hM:iX x (fP L is) (l.take j)=M at hF' j2
     have hM1:iX x (fP L is) (l.take (j+1))=pu M y x:=by rw[aV hy,←hM];unfold iX;rw[List.foldl_append];rfl
     have hw:IntKind.i64.wrap ((j:Int)+1)=((j+1:Nat):Int):=j8 (by omega) (by omega)
     obtain⟨f0,_⟩:=nxF (show 0<nx1 by omega)
     obtain⟨f65,_⟩:=nxF (show 65<nx1 by omega)
     have h0':∀k,(0=nx1+k)=False:=f0
     have h65':∀k,(65=nx1+k)=False:=f65
     have f17d':∀k,(nx1+k=17)=False:=f17b
     cases e:aU M y with
     | false =>
      have q1:=λz v kk=>(hF'.no e z v kk).1
      have q2:=λz v kk=>(hF'.no e z v kk).2
      refine AWP.reg' λK hK=>?_
      try simp only[ak,am,al,eq_self,implies_true,forall_eq_or_imp,forall_eq,Nat.reduceEqDiff,↓reduceIte,Nat.reduceAdd,Nat.reduceLeDiff,Nat.reduceSub,Nat.reduceMul,Nat.reduceLT,Int.reduceBEq,Int.reduceBNe,Int.reduceToNat,Int.reduceLT,Int.reduceLE,Int.reduceAdd,Int.reduceSub,Int.reduceMul,reduceCtorEq,g3',t4,hF'.hm,bo,bC,du,AV.key,MK.fits,q1 _ .unk none,and_self,true_and]
      refine qv ?_
      try simp only[ak,am,al,eq_self,implies_true,forall_eq_or_imp,forall_eq,Nat.reduceEqDiff,↓reduceIte,Nat.reduceAdd,Nat.reduceLeDiff,Nat.reduceSub,Nat.reduceMul,Nat.reduceLT,Int.reduceBEq,Int.reduceBNe,Int.reduceToNat,Int.reduceLT,Int.reduceLE,Int.reduceAdd,Int.reduceSub,Int.reduceMul,reduceCtorEq,g3',t4,hF'.hm,bo,bC,du,AV.key,MK.fits,and_self,true_and,aZ,dN,f17a,f17b,f17c,f17d,Nat.add_assoc]
      refine⟨⟨by decide,by omega⟩,?_⟩
      refine hK _ _ _ ?_
      clear hK K
      refine(show AWP _ _ _ _ _ _ from ?_)
      refine AWP.reg' λK hK=>?_
      try simp only[ak,am,al,eq_self,implies_true,forall_eq_or_imp,forall_eq,Nat.reduceEqDiff,↓reduceIte,Nat.reduceAdd,Nat.reduceLeDiff,Nat.reduceSub,Nat.reduceMul,Nat.reduceLT,Int.reduceBEq,Int.reduceBNe,Int.reduceToNat,Int.reduceLT,Int.reduceLE,Int.reduceAdd,Int.reduceSub,Int.reduceMul,reduceCtorEq,t18,hw]
      refine hK _ _ _ ?_
      clear hK K
      refine⟨(_,j+1),⟨⟨by dsimp only;omega,?_⟩,⟨by dsimp only;omega,?_,?_,?_,?_,ns'++[nx1+176],?_⟩,?_,?_,?_,rfl⟩,by dsimp only;omega,ay.refl⟩
      ·rw[hM1];exact λp hp=>by have:=v8 j2 y x p hp;dsimp only;omega
      ·simp only[ah];exact g3'
      ·simp only[ah];exact g10'
      ·simp only[ah,h0'];exact g0'
      ·simp only[ah,h65'];exact gi'
      ·rw[hM1]
       exact hF'.put_no e (f:=nx1+176) (by omega) (by dsimp only;omega) (by simp only[ah,↓reduceIte];exact congrArg some (q2 (.sl 0 [] true) _ none)) (by simp only[ah,f17d',↓reduceIte]) (λb hb hne=>by simp only[ah,if_neg hne];rw[if_neg (by omega)])
      ·simp only[ah];exact t4
      ·simp only[ah];exact t16
      ·simp only[ah];exact t17
     | true =>
      obtain⟨i0,b0,y1,y2,y3,y4,y5,y6⟩:=hF'.yes e
      have hb0:=hF'.lt b0 (List.mem_of_getElem? y1)
      obtain⟨b0a,b0b,_,_⟩:=nxF hb0
      have hb17:(17=b0)=False:=by simp;rintro rfl;exact hF'.bm_no (List.mem_of_getElem? y1)
      have hb0':(0=b0)=False:=by simp;rintro rfl;rw[g0']at y4;cases y4
      have hb65:(65=b0)=False:=by simp;rintro rfl;rw[gi']at y4;cases y4
      have hrl:=j2 _ (List.mem_of_getElem? y2)
      simp only at hrl
      have hisl:is.length≤100:=by
       have:=List.Nodup.length_le_of_subset i1 (show is ⊆ List.range L.length from λa ha=>List.mem_range.mpr (i2 a ha))
       rw[List.length_range]at this;have:=hL.len;omega
      refine AWP.reg' λK hK=>?_
      try simp only[ak,am,al,eq_self,implies_true,forall_eq_or_imp,forall_eq,Nat.reduceEqDiff,↓reduceIte,Nat.reduceAdd,Nat.reduceLeDiff,Nat.reduceSub,Nat.reduceMul,Nat.reduceLT,Int.reduceBEq,Int.reduceBNe,Int.reduceToNat,Int.reduceLT,Int.reduceLE,Int.reduceAdd,Int.reduceSub,Int.reduceMul,reduceCtorEq,g3',t4,hF'.hm,bo,bC,du,AV.key,MK.fits,y5,and_self,true_and]
      refine qv ?_
      try simp only[ak,am,al,eq_self,implies_true,forall_eq_or_imp,forall_eq,Nat.reduceEqDiff,↓reduceIte,Nat.reduceAdd,Nat.reduceLeDiff,Nat.reduceSub,Nat.reduceMul,Nat.reduceLT,Int.reduceBEq,Int.reduceBNe,Int.reduceToNat,Int.reduceLT,Int.reduceLE,Int.reduceAdd,Int.reduceSub,Int.reduceMul,reduceCtorEq,g3',t4,hF'.hm,bo,bC,du,AV.key,MK.fits,and_self,true_and,aZ,dN,y4,f17a,f17b,f17c,f17d,hb17,Nat.add_assoc,List.length_map]
      refine⟨⟨by omega,by omega⟩,?_⟩
      refine hK _ _ _ ?_
      clear hK K
      refine(show AWP _ _ _ _ _ _ from ?_)
      refine AWP.reg' λK hK=>?_
      try simp only[ak,am,al,eq_self,implies_true,forall_eq_or_imp,forall_eq,Nat.reduceEqDiff,↓reduceIte,Nat.reduceAdd,Nat.reduceLeDiff,Nat.reduceSub,Nat.reduceMul,Nat.reduceLT,Int.reduceBEq,Int.reduceBNe,Int.reduceToNat,Int.reduceLT,Int.reduceLE,Int.reduceAdd,Int.reduceSub,Int.reduceMul,reduceCtorEq,t18,hw]
      refine hK _ _ _ ?_
      clear hK K
      refine⟨(_,j+1),⟨⟨by dsimp only;omega,?_⟩,⟨by dsimp only;omega,?_,?_,?_,?_,ns'.set i0 (nx1+176),?_⟩,?_,?_,?_,rfl⟩,by dsimp only;omega,ay.refl⟩
      ·rw[hM1];exact λp hp=>by have:=v8 j2 y x p hp;dsimp only;omega
      ·simp only[ah];exact g3'
      ·simp only[ah];exact g10'
      ·simp only[ah,h0',hb0'];exact g0'
      ·simp only[ah,h65',hb65];exact gi'
      ·rw[hM1]
       exact hF'.put_yes e y1 y2 y3 (f:=nx1+176) (by omega) (by dsimp only;omega) (by simp only[ah,↓reduceIte];exact congrArg some (y6 none _)) (by simp only[ah,f17d',↓reduceIte]) (λb hb hne hnb=>by simp only[ah,if_neg hne,if_neg hnb];rw[if_neg (by omega)])
      ·simp only[ah];exact t4
      ·simp only[ah];exact t16
      ·simp only[ah];exact t17
    ·have h:j=l.length:=by have:=of_decide_eq_false h;omega
     refine AWP.exit ?_
     refine(show ∃jj:S3×List Nat,_ from ?_)
     have hT:fP L (is++[i])=iX x (fP L is) (l.take j):=by
      rw[List.take_of_length_le (by omega)]
      unfold fP
      rw[List.foldl_append,List.foldl_cons,List.foldl_nil,List.getD_eq_getElem?_getD,hp'];rfl
     have hN:(is++[i]).Nodup:=List.nodup_append.mpr ⟨i1,by simp,λa ha b hb=>by rw[List.mem_singleton.mp hb];rintro rfl;exact hni ha⟩
     have hS:∀a∈is++[i],a<L.length:=λa ha=>by
      rcases List.mem_append.mp ha with ha|ha
      ·exact i2 a ha
      ·rw[List.mem_singleton.mp ha];exact hil
     have hLn:=List.Nodup.length_le_of_subset hN (show is++[i] ⊆ List.range L.length from λa ha=>List.mem_range.mpr (hS a ha))
     rw[List.length_range,List.length_append,List.length_singleton]at hLn
     refine⟨(_,is++[i]),⟨⟨hN,hS,?_⟩,⟨?_,?_,?_,?_,?_,ns',?_⟩⟩,?_,ay.refl⟩
     ·dsimp only;rw[hT,List.length_append,List.length_singleton];exact λp hp=>by have:=j2 p hp;omega
     ·dsimp only;omega
     ·simp only[ah];exact g3'
     ·simp only[ah];exact g10'
     ·exact g0'
     ·exact gi'
     ·dsimp only;rw[hT];exact hF'.keep (λ_ _ _=>rfl) (by omega)
     ·dsimp only;rw[List.length_append,List.length_singleton];omega
end Go.Proofs.YtdbdndmdbbihbaaGreat
