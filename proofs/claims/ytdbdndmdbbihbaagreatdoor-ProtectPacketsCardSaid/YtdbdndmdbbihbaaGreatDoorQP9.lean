/- Texts joined: PP1 PP2 PP3 PP4 KW2 W1 KM5 PP5. -/
import Derived.Test.YtdbdndmdbbihbaaGreatDoorQP8
set_option linter.unusedVariables false
set_option linter.unusedSimpArgs false
set_option linter.unusedSectionVars false
namespace Go.Proofs.YtdbdndmdbbihbaaGreatDoor
open Go Go.Am
def whl(c:Cpy):List Int:=c.to::c.route
def whl_a(c:Cpy):=okL [.agg [.int c.to,.sl 1 (c.route.map AV.int) false,.int c.mode,.int c.sub,.int c.set,.int c.len,.int c.ttl,.int c.ent,.int c.ing,.int c.proto,.val (.int .u64 c.bits),.str c.pay]]
def E7(r:List Int):AV:=.sl 1 (r.map AV.int) false
def E5(c:Cpy):Ax Tryz.prog noS ((List Int)):=
 (.own 64 (.say (λR=>Rf (α:=List AV) [.int c.to] (Rf (α:=List AV) (c.route.map AV.int)
(ck (decide ([c.to].length+c.route.length≤1048576))
R))) (.app 128 AV.int [c.to] c.route
(.say (Rf (([c.to]++c.route).map AV.int)) (.cmdL (.frzE 128 (([c.to]++c.route).map AV.int) (ab (λ_=>rfl) ([c.to]++c.route))) (.ret ([c.to]++c.route)))))))
def E6(c:Cpy)(r0:List Int):=(E5 c).vp E7 r0
theorem whl_p(c:Cpy)(h:c.route.length≤1000)(ok:whl_a c):E6 c (whl c):=by
 dsimp only[E6,E5,noS,Ax.vp,Ax.vc];simp only[vcU,rfU,List.length_map]
 exact⟨by simp;omega,rfl⟩
def whl_c(c:Cpy)(h:c.route.length≤1000):PC Tryz.prog:=⟨47,[(.a [.k,(.s 1),.k,.k,.k,.k,.k,.k,.k,.k,.k,.k])],[.agg [.int c.to,.sl 1 (c.route.map AV.int) false,.int c.mode,.int c.sub,.int c.set,.int c.len,.int c.ttl,.int c.ent,.int c.ing,.int c.proto,.val (.int .u64 c.bits),.str c.pay]],E7 (whl c),ao.of_ok λok=>aj (sh:=(.s 1)) (enc:=E7) (a:=(E5 c).an) (whl_p c h ok) (by kernel_rfl) (AV.pureB_ok rfl),ah (by kernel_rfl)⟩
theorem szL(s:ByteArray):s.data.toList.length=s.size:=by rw[Array.length_toList];rfl
theorem OY(b:ByteArray):∀(n i:Nat) (r:List UInt8),b.size-i=n→ByteArray.toList.loop b i r=r.reverse++b.data.toList.drop i:=by
 intro n
 induction n with
 | zero =>
  intro i r h
  rw[ByteArray.toList.loop,if_neg (by omega),List.drop_of_length_le (by rw[szL];omega),List.append_nil]
 | succ n ih =>
  intro i r h
  have hi:i<b.data.toList.length:=by rw[szL];omega
  rw[ByteArray.toList.loop,if_pos (by omega),ih _ _ (by omega),List.drop_eq_getElem_cons hi]
  have:b.get! i=b.data.toList[i]:=by
   show(b.data[i]!)=_
   rw[getElem!_pos b.data i (by rw[szL]at hi;exact hi)];simp
  rw[this];simp
theorem bEq(a b:ByteArray):(a.toList==b.toList)=decide (a=b):=by
 have key:∀x:ByteArray,x.toList=x.data.toList:=λx=>by rw[ByteArray.toList,OY x _ 0 [] rfl];simp
 rw[key,key,Bool.eq_iff_iff,beq_iff_eq,decide_eq_true_eq,Array.toList_inj]
 exact⟨λh=>by cases a;cases b;simp_all,λh=>by rw[h]⟩
def smF_a(a:Frx)(b:Frx):=okL [.agg [.sl 1 (a.route.map AV.int) false,.int a.mode,.int a.sub,.int a.set,.int a.len,.int a.ttl,.int a.ent,.int a.ing,.int a.proto,.val (.int .u64 a.bits),.str a.pay],.agg [.sl 1 (b.route.map AV.int) false,.int b.mode,.int b.sub,.int b.set,.int b.len,.int b.ttl,.int b.ent,.int b.ing,.int b.proto,.val (.int .u64 b.bits),.str b.pay]]
def Fk(r:Bool):AV:=.bool r
def Fi(a:Frx)(b:Frx):Ax Tryz.prog noS (Bool):=
 (.br 144 ((a.mode==b.mode) && ((a.sub==b.sub) && ((a.set==b.set) && ((a.len==b.len) && ((a.ttl==b.ttl) && ((a.ent==b.ent) && ((a.ing==b.ing) && ((a.proto==b.proto) && ((a.bits==b.bits) && ((a.pay.toList==b.pay.toList) && true)))))))))) (.callP (qi a.route b.route)
(.ret (decide (a.route=b.route))))
(.ret (false)))
def Fj(a:Frx)(b:Frx)(r0:Bool):=(Fi a b).vp Fk r0
theorem smF_p(a b:Frx)(ok:smF_a a b):Fj a b (decide (a=b)):=by
 dsimp only[Fj,Fi,noS,Ax.vp,Ax.vc];simp only[vcU,rfU,List.length_map]
 have key:(a=b)↔(a.mode==b.mode)=true∧(a.sub==b.sub)=true∧(a.set==b.set)=true∧(a.len==b.len)=true∧(a.ttl==b.ttl)=true∧(a.ent==b.ent)=true∧(a.ing==b.ing)=true∧(a.proto==b.proto)=true∧(a.bits==b.bits)=true∧(a.pay.toList==b.pay.toList)=true∧a.route=b.route:=by
  rw[bEq]
  cases a;cases b
  simp
  constructor
  ·rintro⟨rfl,rfl,rfl,rfl,rfl,rfl,rfl,rfl,rfl,rfl,rfl⟩;simp
  ·rintro⟨rfl,rfl,rfl,rfl,rfl,rfl,rfl,rfl,rfl,rfl,rfl⟩;simp
 refine⟨λh=>?_,λh=>?_⟩
 ·rw[decide_eq_decide,key]
  obtain⟨h1,h2,h3,h4,h5,h6,h7,h8,h9,h10,_⟩:=h
  simp only[h1,h2,h3,h4,h5,h6,h7,h8,h9,h10,true_and]
 ·symm
  rw[decide_eq_false_iff_not,key]
  rintro⟨h1,h2,h3,h4,h5,h6,h7,h8,h9,h10,_⟩
  rw[h1,h2,h3,h4,h5,h6,h7,h8,h9,h10]at h;cases h
def smF_c(a:Frx)(b:Frx):PC Tryz.prog:=⟨52,[(.a [(.s 1),.k,.k,.k,.k,.k,.k,.k,.k,.k,.k]),(.a [(.s 1),.k,.k,.k,.k,.k,.k,.k,.k,.k,.k])],[.agg [.sl 1 (a.route.map AV.int) false,.int a.mode,.int a.sub,.int a.set,.int a.len,.int a.ttl,.int a.ent,.int a.ing,.int a.proto,.val (.int .u64 a.bits),.str a.pay],.agg [.sl 1 (b.route.map AV.int) false,.int b.mode,.int b.sub,.int b.set,.int b.len,.int b.ttl,.int b.ent,.int b.ing,.int b.proto,.val (.int .u64 b.bits),.str b.pay]],Fk (decide (a=b)),ao.of_ok λok=>aj (sh:=.k) (enc:=Fk) (a:=(Fi a b).an) (smF_p a b ok) (by kernel_rfl) (AV.pureB_ok rfl),ah (by kernel_rfl)⟩
def Pv(a:Out)(b:Out):=okL [.agg [.val (.int .u64 a.local_),.val (.int .u64 a.lost),.sl 12 (a.copies.map Cpy.v) false],.agg [.val (.int .u64 b.local_),.val (.int .u64 b.lost),.sl 12 (b.copies.map Cpy.v) false]]
def Q8(a:Out)(b:Out)(t0:Bool):NF:=⟨[(2,.k,.ref 0 0),(3,.k,.ref 1 0),(26,.k,.bool t0)],[.box (.agg [.val (.int .u64 a.local_),.val (.int .u64 a.lost),.sl 12 (a.copies.map Cpy.v) false]),.box (.agg [.val (.int .u64 b.local_),.val (.int .u64 b.lost),.sl 12 (b.copies.map Cpy.v) false])]⟩
def Q7(a:Out)(b:Out)(t1:Int):NF:=⟨[(2,.k,.ref 0 0),(3,.k,.ref 1 0),(5,.k,.int t1)],[.box (.agg [.val (.int .u64 a.local_),.val (.int .u64 a.lost),.sl 12 (a.copies.map Cpy.v) false]),.box (.agg [.val (.int .u64 b.local_),.val (.int .u64 b.lost),.sl 12 (b.copies.map Cpy.v) false])]⟩
def Q6(a:Out)(b:Out)(t1:Int)(t2:Bool):NF:=⟨[(2,.k,.ref 0 0),(3,.k,.ref 1 0),(5,.k,.int t1),(62,.k,.bool t2)],[.box (.agg [.val (.int .u64 a.local_),.val (.int .u64 a.lost),.sl 12 (a.copies.map Cpy.v) false]),.box (.agg [.val (.int .u64 b.local_),.val (.int .u64 b.lost),.sl 12 (b.copies.map Cpy.v) false])]⟩
@[reducible] def Pu:Nat→Type
 | 0=>Bool
 | 1=>Int
 | 2=>Bool
 | _=>Unit
def Fh(r:Bool):AV:=.bool r
def Ff(a:Out)(b:Out)(I0:Bool→Prop)(I1:Bool→Int→Prop)(m1:Bool→Int→Nat)(I2:Bool→Int→Bool→Prop):Ax Tryz.prog Pu (Bool):=
 (.pass (.pass (.join 0 (Q8 a b) (λ(t0:Bool)=>I0 t0) (λb0=>(.br 144 (a.local_ != b.local_) (.bk 0 b0 ((true):Bool) [0,16])
(.br 256 (a.lost != b.lost) (.bk 0 b0 ((true):Bool) [0,16])
(.bk 0 b0 ((((a.copies.map Cpy.v).length:Int) != ((b.copies.map Cpy.v).length:Int)):Bool) [0,16])))) λ(t0:Bool) =>
(.br 2 t0 (.ret (false))
(.loop 1 (Q7 a b) (I1 t0) (m1 t0) ((0):Int) [0,1] λ(t1:Int) b1 =>
(.br 82 (decide (t1<((a.copies.map Cpy.v).length:Int))) (.pass (.join 2 (Q6 a b t1) (λ(t2:Bool)=>I2 t0 t1 t2) (λb2=>(.el 130 Cpy.v a.copies (λR=>Rf (a.copies.map Cpy.v) (ck (decide (0≤t1)) (ck (decide (t1<(a.copies.length:Int)))
(∀x1,a.copies[t1.toNat]?=some x1 →
(R x1))))) λx1 =>
(.el 226 Cpy.v b.copies (λR=>Rf (b.copies.map Cpy.v) (ck (decide (0≤t1)) (ck (decide (t1<(b.copies.length:Int)))
(∀x2,b.copies[t1.toNat]?=some x2 →
(R x2))))) λx2 =>
(.br 306 (x1.to != x2.to) (.bk 2 b2 ((true):Bool) [0,1])
(.el 354 Cpy.v a.copies (λR=>Rf (a.copies.map Cpy.v) (ck (decide (0≤t1)) (ck (decide (t1<(a.copies.length:Int)))
(∀x3,a.copies[t1.toNat]?=some x3 →
(R x3))))) λx3 =>
(.el 450 Cpy.v b.copies (λR=>Rf (b.copies.map Cpy.v) (ck (decide (0≤t1)) (ck (decide (t1<(b.copies.length:Int)))
(∀x4,b.copies[t1.toNat]?=some x4 →
(R x4))))) λx4 =>
(.callP (smF_c (⟨x3.route,x3.mode,x3.sub,x3.set,x3.len,x3.ttl,x3.ent,x3.ing,x3.proto,x3.bits,x3.pay⟩:Frx) (⟨x4.route,x4.mode,x4.sub,x4.set,x4.len,x4.ttl,x4.ent,x4.ing,x4.proto,x4.bits,x4.pay⟩:Frx))
(.bk 2 b2 ((!(decide ((⟨x3.route,x3.mode,x3.sub,x3.set,x3.len,x3.ttl,x3.ent,x3.ing,x3.proto,x3.bits,x3.pay⟩:Frx)=(⟨x4.route,x4.mode,x4.sub,x4.set,x4.len,x4.ttl,x4.ent,x4.ing,x4.proto,x4.bits,x4.pay⟩:Frx)))):Bool) [0,1])))))))) λ(t2:Bool) =>
(.br 2 t2 (.ret (false))
(.bk 1 b1 ((W (t1+1)):Int) [0,1]))))
(.ret (true))))))))
def Fg(a:Out)(b:Out)(I0:Bool→Prop)(I1:Bool→Int→Prop)(m1:Bool→Int→Nat)(I2:Bool→Int→Bool→Prop)(r0:Bool):=(Ff a b I0 I1 m1 I2).vp Fh r0
theorem smO_p(a b:Out)(ok:Pv a b):∃I0 I1 m1 I2,Fg a b I0 I1 m1 I2 (decide (a=b)):=by
 refine⟨λt=>t=decide (¬(a.local_=b.local_∧a.lost=b.lost∧a.copies.length=b.copies.length)),λ_ i=>∃k:Nat,i=k∧k≤a.copies.length∧a.copies.take k=b.copies.take k,λ_ i=>a.copies.length-i.toNat,
  λ_ i t=>∀x y,a.copies[i.toNat]?=some x→b.copies[i.toNat]?=some y→t=decide (x≠y),?_⟩
 simp only[Pv,okU,Blk.ok,az,List.length_map]at ok
 dsimp only[Fg,Ff,Pu,Ax.vp,Ax.vc];simp only[vcU,rfU,List.length_map]
 refine⟨⟨λc=>?_,λc=>⟨λd=>?_,λd=>?_⟩⟩,?_⟩
 ·have c:a.local_≠b.local_:=by simpa using c
  simp[c]
 ·have d:a.lost≠b.lost:=by simpa using d
  simp[d]
 ·have c:a.local_=b.local_:=by simpa using c
  have d:a.lost=b.lost:=by simpa using d
  rw[Bool.eq_iff_iff,bne_iff_ne,decide_eq_true_iff];simp[c,d];omega
 rintro _ rfl
 refine⟨λc=>?_,λc=>⟨⟨0,rfl,by omega,rfl⟩,?_⟩⟩
 ·have c:=of_decide_eq_true c
  rw[decide_eq_false];rintro rfl;exact c ⟨rfl,rfl,rfl⟩
 have c:=Classical.not_not.mp (of_decide_eq_false c)
 rintro _ ⟨k,rfl,hk,ht⟩
 simp only[Int.toNat_natCast]
 refine⟨λd=>⟨⟨by omega,d,λx hx=>⟨by omega,by omega,λy hy=>⟨λe x' y' hx' hy'=>?_,λe=>⟨by omega,d,λx2 hx2=>⟨by omega,by omega,λy2 hy2 x' y' hx' hy'=>?_⟩⟩⟩⟩⟩,λt hT=>⟨λe=>?_,λe=>?_⟩⟩,λd=>?_⟩
 ·rw[hx]at hx';rw[hy]at hy';cases hx';cases hy'
  have e:x.to≠y.to:=by simpa using e
  rw[decide_eq_true];rintro rfl;exact e rfl
 ·rw[hx]at hx' hx2;rw[hy]at hy' hy2;cases hx';cases hy';cases hx2;cases hy2
  have e:x.to=y.to:=by simpa using e
  rw[←decide_not,decide_eq_decide]
  refine not_congr ?_
  cases x;cases y;simp at e ⊢;simp[e]
 ·have hx:=List.getElem?_eq_getElem (show k<a.copies.length by omega)
  have hy:=List.getElem?_eq_getElem (show k<b.copies.length by omega)
  have:=hT _ _ hx hy
  rw[e]at this
  have:=of_decide_eq_true this.symm
  rw[decide_eq_false];rintro rfl;exact this rfl
 ·have hx:=List.getElem?_eq_getElem (show k<a.copies.length by omega)
  have hy:=List.getElem?_eq_getElem (show k<b.copies.length by omega)
  have:=hT _ _ hx hy
  rw[e]at this
  have:=Classical.not_not.mp (of_decide_eq_false this.symm)
  rw[aU (n:=a.copies.length) (by omega) (by omega)]
  exact⟨⟨k+1,rfl,by omega,by rw[aO hx,aO hy,ht,this]⟩,by omega⟩
 ·have:k=a.copies.length:=by omega
  rw[this,List.take_length,c.2.2,List.take_length]at ht
  rw[decide_eq_true]
  cases a;cases b;simp at c ht ⊢;simp[c,ht]
def smO_c(a:Out)(b:Out):PC Tryz.prog:=⟨16,[(.a [.k,.k,(.s 12)]),(.a [.k,.k,(.s 12)])],[.agg [.val (.int .u64 a.local_),.val (.int .u64 a.lost),.sl 12 (a.copies.map Cpy.v) false],.agg [.val (.int .u64 b.local_),.val (.int .u64 b.lost),.sl 12 (b.copies.map Cpy.v) false]],Fh (decide (a=b)),ao.of_ok λok=>(smO_p a b ok).elim λI0 h=>h.elim λI1 h=>h.elim λm1 h=>h.elim λI2 h=>aj (sh:=.k) (enc:=Fh) (a:=(Ff a b I0 I1 m1 I2).an) h (by kernel_rfl) (AV.pureB_ok rfl),ah (by kernel_rfl)⟩
abbrev GdS:=Int×List Bool×List Cpy
def HV(c:Cpy)(b:Int):Cpy:=⟨c.to,c.route,c.mode,c.sub,c.set,c.len,c.ttl,c.ent,c.ing,c.proto,bOr .u64 c.bits b,c.pay⟩
def qn(x:Cpy)(r:List Int)(b:Int):Cpy:=⟨r.headD 0,r.drop 1,x.mode,x.sub,x.set,x.len,x.ttl,x.ent,x.ing,x.proto,b,x.pay⟩
def dV(r:List Int)(mk:List Bool)(cs:List Cpy)(j:Nat):Bool:=mk[j]?==some true && (match cs[j]? with
 | some c=>decide (whl c=r)
 | none=>false)
def bK(t:Tpl)(p:Pln)(rt:Int)(q:Pkt)(x:Cpy)(k:Int):List Int×Bool:=cQ t p rt x.to (atT q.set k q.len).1
def mo(s:GdS)(j:Nat)(b:Int):GdS:=match s.2.2[j]? with
 | some c=>(s.1,s.2.1,s.2.2.set j (HV c b))
 | none=>s
def gS(t:Tpl)(p:Pln)(rt:Int)(q:Pkt)(x:Cpy)(s:GdS)(k:Int):GdS:=
 if(bK t p rt q x k).2=false then(bOr .u64 s.1 (bB k),s.2)
 else match (List.range s.2.2.length).find? (dV (bK t p rt q x k).1 s.2.1 s.2.2)with
  | some j=>mo s j (bB k)
  | none=>(s.1,s.2.1++[true],s.2.2++[qn x (bK t p rt q x k).1 (bB k)])
def gC(t:Tpl)(p:Pln)(rt:Int)(down:List Int)(q:Pkt)(s:GdS)(x:Cpy):GdS:=
 if x.to∈down then(bG x.bits).foldl (gS t p rt q x) s else(s.1,s.2.1++[false],s.2.2++[x])
def DL(t:Tpl)(p:Pln)(rt:Int)(down:List Int)(o:Out)(q:Pkt):Out:=
 ⟨o.local_,(o.copies.foldl (gC t p rt down q) (o.lost,[],[])).1,(o.copies.foldl (gC t p rt down q) (o.lost,[],[])).2.2⟩
structure GI (s:GdS):Prop where
  le:s.2.1.length=s.2.2.length
  un:∀(r:List Int) (i j:Nat),dV r s.2.1 s.2.2 i=true→dV r s.2.1 s.2.2 j=true→i=j
  ro:∀(j:Nat) (c:Cpy),s.2.1[j]?=some true→s.2.2[j]?=some c→c.route.length≤100
theorem il{r:List Int}{mk:List Bool}{cs:List Cpy}{j:Nat}:dV r mk cs j=true↔mk[j]?=some true∧∃c,cs[j]?=some c∧whl c=r:=by
 unfold dV
 rw[Bool.and_eq_true,beq_iff_eq]
 refine and_congr_right λ_=>?_
 cases cs[j]? with
 | none=>simp
 | some c=>simp
theorem GI.nil{x:Int}:GI (x,[],[]):=⟨rfl,λr i j h=>by rw[il]at h;simp at h,λj c h=>by simp at h⟩
theorem N5{t:Tpl}{p:Pln}{r n id:Int}:(cQ t p r n id).1.length≤25:=by
 unfold cQ
 split
 ·simp
 ·unfold dtl
  simp only
  split
  ·have:(dtA t r n (bf p id).1.router).length≤25:=hU _ _ _
   rw[List.length_take];omega
  ·exact hU _ _ _
theorem qG{t:Tpl}{p:Pln}{r n id:Int}(h:(cQ t p r n id).2=true):0<(cQ t p r n id).1.length:=by
 unfold cQ at h ⊢
 split at h
 ·cases h
 ·rename_i e
  rw[if_neg e]
  exact of_decide_eq_true h
theorem Kq{x:Cpy}{r:List Int}{b:Int}(h:0<r.length):whl (qn x r b)=r:=by
 cases r with
 | nil=>simp at h
 | cons a r=>rfl
theorem tD{s:GdS}{i:Nat}{b:Int}(r:List Int)(j:Nat):dV r (mo s i b).2.1 (mo s i b).2.2 j=dV r s.2.1 s.2.2 j:=by
 unfold mo
 cases e:s.2.2[i]? with
 | none=>rfl
 | some c =>
  unfold dV
  simp only
  congr 1
  have hlt:=ap e
  by_cases q:i=j
  ·subst q
   rw[List.getElem?_set_self hlt,e];rfl
  ·rw[List.getElem?_set_ne q]
theorem GI.put{s:GdS}(h:GI s)(i:Nat)(b:Int):GI (mo s i b):=by
 refine⟨?_,λr j k=>?_,λj c=>?_⟩
 ·unfold mo
  cases e:s.2.2[i]? with
  | none=>exact h.le
  | some c=>simp only;rw[List.length_set];exact h.le
 ·rw[tD,tD];exact h.un r j k
 ·unfold mo
  cases e:s.2.2[i]? with
  | none=>exact h.ro j c
  | some d =>
   simp only
   have hlt:=ap e
   by_cases q:i=j
   ·subst q
    rw[List.getElem?_set_self hlt]
    intro h1 h2
    cases h2
    exact h.ro i d h1 e
   ·rw[List.getElem?_set_ne q];exact h.ro j c
theorem nI{s:GdS}(h:s.2.1.length=s.2.2.length){m:Bool}{c:Cpy}(r:List Int)(j:Nat):dV r (s.2.1++[m]) (s.2.2++[c]) j=if j=s.2.2.length then m && decide (whl c=r)else dV r s.2.1 s.2.2 j:=by
 unfold dV
 by_cases e:j=s.2.2.length
 ·subst e
  rw[if_pos rfl,List.getElem?_append_right (by omega),List.getElem?_append_right (Nat.le_refl _),h,Nat.sub_self]
  simp
 ·rw[if_neg e]
  by_cases q:j<s.2.2.length
  ·rw[List.getElem?_append_left (by omega),List.getElem?_append_left q]
  ·rw[List.getElem?_eq_none (by simp;omega),List.getElem?_eq_none (by simp;omega),List.getElem?_eq_none (by omega),List.getElem?_eq_none (by omega)]
theorem GI.snoc{s:GdS}(h:GI s){m:Bool}{c:Cpy}{x:Int}(hu:m=true→(∀j,dV (whl c) s.2.1 s.2.2 j=false)∧c.route.length≤100):GI (x,s.2.1++[m],s.2.2++[c]):=by
 refine⟨by simp[h.le],λr i j=>?_,λj d h1 h2=>?_⟩
 ·simp only
  rw[nI h.le,nI h.le]
  intro h1 h2
  have key:∀i,(m && decide (whl c=r))=true→dV r s.2.1 s.2.2 i=true→False:=λi a b=>by
   rw[Bool.and_eq_true,decide_eq_true_iff]at a
   rw[←a.2,(hu a.1).1]at b;cases b
  by_cases e1:i=s.2.2.length<;>by_cases e2:j=s.2.2.length
  ·omega
  ·rw[if_pos e1]at h1;rw[if_neg e2]at h2;exact(key j h1 h2).elim
  ·rw[if_neg e1]at h1;rw[if_pos e2]at h2;exact(key i h2 h1).elim
  ·rw[if_neg e1]at h1;rw[if_neg e2]at h2;exact h.un r i j h1 h2
 ·simp only at h1 h2
  by_cases e:j<s.2.2.length
  ·rw[List.getElem?_append_left (by have:=h.le;omega)]at h1
   rw[List.getElem?_append_left e]at h2
   exact h.ro j d h1 h2
  ·have hj:j=s.2.2.length:=by have:=ap h2;simp at this;omega
   subst hj
   rw[List.getElem?_append_right (by have:=h.le;omega),h.le,Nat.sub_self]at h1
   rw[List.getElem?_append_right (Nat.le_refl _),Nat.sub_self]at h2
   cases h1;cases h2
   exact(hu rfl).2
theorem DQ{p:Nat→Bool}{j n:Nat}(hj:j<n)(hp:p j=true)(hu:∀i,p i=true→i=j):(List.range n).find? p=some j:=by
 rw[List.find?_range_eq_some]
 exact⟨hp,List.mem_range.mpr hj,λi hi=>by
  cases e:p i
  ·rfl
  ·have:=hu i e;omega⟩
theorem DS{p:Nat→Bool}{n:Nat}(h:∀i,i<n→p i=false):(List.range n).find? p=none:=by
 rw[List.find?_eq_none]
 intro i hi
 rw[h i (List.mem_range.mp hi)];simp
section
variable {t : Tpl} {p : Pln} {rt : Int} {q : Pkt} {x : Cpy} {s : GdS} {k : Int}
theorem HU(h:(bK t p rt q x k).2=false):gS t p rt q x s k=(bOr .u64 s.1 (bB k),s.2):=if_pos h
theorem xT(hI:GI s)(h:(bK t p rt q x k).2=true){j:Nat}(hj:dV (bK t p rt q x k).1 s.2.1 s.2.2 j=true):gS t p rt q x s k=mo s j (bB k):=by
 unfold gS
 rw[if_neg (by rw[h];simp)]
 obtain⟨_,c,hc,_⟩:=il.mp hj
 rw[DQ (ap hc) hj λi hi=>hI.un _ i j hi hj]
theorem xS(h:(bK t p rt q x k).2=true)(hn:∀j,j<s.2.2.length→dV (bK t p rt q x k).1 s.2.1 s.2.2 j=false):gS t p rt q x s k=(s.1,s.2.1++[true],s.2.2++[qn x (bK t p rt q x k).1 (bB k)]):=by
 unfold gS
 rw[if_neg (by rw[h];simp),DS hn]
theorem GI.step(hI:GI s):GI (gS t p rt q x s k)∧(gS t p rt q x s k).2.2.length≤s.2.2.length+1:=by
 cases h:(bK t p rt q x k).2 with
 | false=>rw[HU h];exact⟨⟨hI.le,hI.un,hI.ro⟩,by simp⟩
 | true =>
  by_cases e:∃j,dV (bK t p rt q x k).1 s.2.1 s.2.2 j=true
  ·obtain⟨j,hj⟩:=e
   rw[xT hI h hj]
   refine⟨hI.put _ _,?_⟩
   unfold mo
   cases s.2.2[j]?<;>simp
  ·have hn:∀j,dV (bK t p rt q x k).1 s.2.1 s.2.2 j=false:=λj=>by
    cases z:dV (bK t p rt q x k).1 s.2.1 s.2.2 j
    ·rfl
    ·exact absurd ⟨j,z⟩ e
   rw[xS h λj _=>hn j]
   refine⟨hI.snoc λ_=>⟨λj=>by rw[Kq (r:=(bK t p rt q x k).1) (qG h)];exact hn j,?_⟩,by simp⟩
   show((bK t p rt q x k).1.drop 1).length≤100
   have:(bK t p rt q x k).1.length≤25:=N5
   rw[List.length_drop];omega
theorem GI.fold:∀{l:List Int} {s:GdS},GI s→GI (l.foldl (gS t p rt q x) s)∧(l.foldl (gS t p rt q x) s).2.2.length≤s.2.2.length+l.length
 | [],s,h=>⟨h,by simp⟩
 | k::l,s,h=>by
  have h1:=h.step (t:=t) (p:=p) (rt:=rt) (q:=q) (x:=x) (k:=k)
  have h2:=GI.fold (l:=l) h1.1
  rw[List.foldl_cons,List.length_cons]
  exact⟨h2.1,by omega⟩
theorem GI.copy{down:List Int}(h:GI s):GI (gC t p rt down q s x)∧(gC t p rt down q s x).2.2.length≤s.2.2.length+64:=by
 unfold gC
 split
 ·have h2:=h.fold (t:=t) (p:=p) (rt:=rt) (q:=q) (x:=x) (l:=bG x.bits)
  have:=jF x.bits
  exact⟨h2.1,by omega⟩
 ·exact⟨h.snoc λe=>(by cases e),by simp⟩
end
theorem mO{x k:Int}(h:k∈bG x):0≤k∧k<64:=by
 unfold bG at h
 obtain⟨n,hn,rfl⟩:=List.mem_map.mp h
 have:=List.mem_range.mp (List.mem_filter.mp hn).1
 omega
theorem JF{k:Int}(h:0≤k∧k<64):∃n:Nat,bB k=n∧n<18446744073709551616:=by
 obtain⟨j,rfl⟩:∃j:Nat,k=j:=⟨k.toNat,by omega⟩
 exact⟨2 ^ j,jE (by omega),lC (by omega)⟩
theorem JH{k:Int}(h:0≤k∧k<64):bOr .u64 0 (bB k)=bB k:=by
 obtain⟨n,e,hn⟩:=JF h
 rw[e,show(0:Int)=((0:Nat):Int)from rfl,li (by omega) hn,Nat.zero_or]
def grd_a(t:Tpl)(p:Pln)(router:Int)(down:List Int)(o:Out)(q:Pkt):=okL [.agg [.sl 2 (t.rs.map Rtr.v) false,.sl 5 (t.ls.map Lnk.v) false],.agg [.int p.sub,.int p.len,.sl 2 (p.es.map Edg.v) false],.int router,.sl 1 (down.map AV.int) false,.agg [.val (.int .u64 o.local_),.val (.int .u64 o.lost),.sl 12 (o.copies.map Cpy.v) false],.agg [.int q.mode,.int q.sub,.int q.set,.int q.len,.int q.ttl,.int q.ent,.int q.ing,.int q.proto,.val (.int .u64 q.bits),.str q.pay]]
def Ti(t:Tpl)(p:Pln)(router:Int)(down:List Int)(o:Out)(q:Pkt)(t0:Int×Int×List Bool×List Cpy):NF:=⟨[(2,.k,.int router),(3,.k,.sl 1 (down.map AV.int) false),(6,.k,.ref 0 0),(7,.k,.ref 1 0),(10,.k,.ref 2 0),(11,.k,.ref 3 0),(12,.k,.ref 4 0),(13,.k,.ref 5 0),(14,.k,.vec 7),(15,.k,.int t0.1)],[.box (.agg [.sl 2 (t.rs.map Rtr.v) false,.sl 5 (t.ls.map Lnk.v) false]),.box (.agg [.int p.sub,.int p.len,.sl 2 (p.es.map Edg.v) false]),.box (.agg [.val (.int .u64 o.local_),.val (.int .u64 o.lost),.sl 12 (o.copies.map Cpy.v) false]),.box (.agg [.int q.mode,.int q.sub,.int q.set,.int q.len,.int q.ttl,.int q.ent,.int q.ing,.int q.proto,.val (.int .u64 q.bits),.str q.pay]),.box (.agg [.val (.int .u64 0),.val (.int .u64 0),.sl 0 [] true]),.box (.agg [.val (.int .u64 o.local_),.val (.int .u64 t0.2.1),.vec 6]),.vec 12 (t0.2.2.2.map Cpy.v) (ab (λ_=>rfl) t0.2.2.2),.vec 1 (t0.2.2.1.map AV.bool) (ab (λ_=>rfl) t0.2.2.1)]⟩
def Th(t:Tpl)(p:Pln)(router:Int)(down:List Int)(o:Out)(q:Pkt)(t0:Int×Int×List Bool×List Cpy)(x1:Cpy)(t1:Bool):NF:=⟨[(2,.k,.int router),(3,.k,.sl 1 (down.map AV.int) false),(6,.k,.ref 0 0),(7,.k,.ref 1 0),(10,.k,.ref 2 0),(11,.k,.ref 3 0),(12,.k,.ref 4 0),(13,.k,.ref 5 0),(14,.k,.vec 7),(15,.k,.int t0.1),(16,.k,.ref 8 0),(47,.k,.bool t1)],[.box (.agg [.sl 2 (t.rs.map Rtr.v) false,.sl 5 (t.ls.map Lnk.v) false]),.box (.agg [.int p.sub,.int p.len,.sl 2 (p.es.map Edg.v) false]),.box (.agg [.val (.int .u64 o.local_),.val (.int .u64 o.lost),.sl 12 (o.copies.map Cpy.v) false]),.box (.agg [.int q.mode,.int q.sub,.int q.set,.int q.len,.int q.ttl,.int q.ent,.int q.ing,.int q.proto,.val (.int .u64 q.bits),.str q.pay]),.box (.agg [.val (.int .u64 0),.val (.int .u64 0),.sl 0 [] true]),.box (.agg [.val (.int .u64 o.local_),.val (.int .u64 t0.2.1),.vec 6]),.vec 12 (t0.2.2.2.map Cpy.v) (ab (λ_=>rfl) t0.2.2.2),.vec 1 (t0.2.2.1.map AV.bool) (ab (λ_=>rfl) t0.2.2.1),.box (.agg [.int x1.to,.sl 1 (x1.route.map AV.int) false,.int x1.mode,.int x1.sub,.int x1.set,.int x1.len,.int x1.ttl,.int x1.ent,.int x1.ing,.int x1.proto,.val (.int .u64 x1.bits),.str x1.pay])]⟩
def Tg(t:Tpl)(p:Pln)(router:Int)(down:List Int)(o:Out)(q:Pkt)(t0:Int×Int×List Bool×List Cpy)(x1:Cpy)(t2:List Int):NF:=⟨[(2,.k,.int router),(3,.k,.sl 1 (down.map AV.int) false),(6,.k,.ref 0 0),(7,.k,.ref 1 0),(10,.k,.ref 2 0),(11,.k,.ref 3 0),(12,.k,.ref 4 0),(13,.k,.ref 5 0),(14,.k,.vec 7),(15,.k,.int t0.1),(16,.k,.ref 8 0),(17,(.s 1),.sl 1 (t2.map AV.int) false)],[.box (.agg [.sl 2 (t.rs.map Rtr.v) false,.sl 5 (t.ls.map Lnk.v) false]),.box (.agg [.int p.sub,.int p.len,.sl 2 (p.es.map Edg.v) false]),.box (.agg [.val (.int .u64 o.local_),.val (.int .u64 o.lost),.sl 12 (o.copies.map Cpy.v) false]),.box (.agg [.int q.mode,.int q.sub,.int q.set,.int q.len,.int q.ttl,.int q.ent,.int q.ing,.int q.proto,.val (.int .u64 q.bits),.str q.pay]),.box (.agg [.val (.int .u64 0),.val (.int .u64 0),.sl 0 [] true]),.box (.agg [.val (.int .u64 o.local_),.val (.int .u64 t0.2.1),.vec 6]),.vec 12 (t0.2.2.2.map Cpy.v) (ab (λ_=>rfl) t0.2.2.2),.vec 1 (t0.2.2.1.map AV.bool) (ab (λ_=>rfl) t0.2.2.1),.box (.agg [.int x1.to,.sl 1 (x1.route.map AV.int) false,.int x1.mode,.int x1.sub,.int x1.set,.int x1.len,.int x1.ttl,.int x1.ent,.int x1.ing,.int x1.proto,.val (.int .u64 x1.bits),.str x1.pay])]⟩
def Tf(t:Tpl)(p:Pln)(router:Int)(down:List Int)(o:Out)(q:Pkt)(t0:Int×Int×List Bool×List Cpy)(x1:Cpy)(t2:List Int)(t3:Int×Int×List Bool×List Cpy):NF:=⟨[(2,.k,.int router),(3,.k,.sl 1 (down.map AV.int) false),(6,.k,.ref 0 0),(7,.k,.ref 1 0),(10,.k,.ref 2 0),(11,.k,.ref 3 0),(12,.k,.ref 4 0),(13,.k,.ref 5 0),(14,.k,.vec 7),(15,.k,.int t0.1),(16,.k,.ref 8 0),(17,.k,.sl 1 (t2.map AV.int) false),(18,.k,.int t3.1)],[.box (.agg [.sl 2 (t.rs.map Rtr.v) false,.sl 5 (t.ls.map Lnk.v) false]),.box (.agg [.int p.sub,.int p.len,.sl 2 (p.es.map Edg.v) false]),.box (.agg [.val (.int .u64 o.local_),.val (.int .u64 o.lost),.sl 12 (o.copies.map Cpy.v) false]),.box (.agg [.int q.mode,.int q.sub,.int q.set,.int q.len,.int q.ttl,.int q.ent,.int q.ing,.int q.proto,.val (.int .u64 q.bits),.str q.pay]),.box (.agg [.val (.int .u64 0),.val (.int .u64 0),.sl 0 [] true]),.box (.agg [.val (.int .u64 o.local_),.val (.int .u64 t3.2.1),.vec 6]),.vec 12 (t3.2.2.2.map Cpy.v) (ab (λ_=>rfl) t3.2.2.2),.vec 1 (t3.2.2.1.map AV.bool) (ab (λ_=>rfl) t3.2.2.1),.box (.agg [.int x1.to,.sl 1 (x1.route.map AV.int) false,.int x1.mode,.int x1.sub,.int x1.set,.int x1.len,.int x1.ttl,.int x1.ent,.int x1.ing,.int x1.proto,.val (.int .u64 x1.bits),.str x1.pay])]⟩
def Te(t:Tpl)(p:Pln)(router:Int)(down:List Int)(o:Out)(q:Pkt)(t0:Int×Int×List Bool×List Cpy)(x1:Cpy)(t2:List Int)(t3:Int×Int×List Bool×List Cpy)(t4:Int):NF:=⟨[(2,.k,.int router),(3,.k,.sl 1 (down.map AV.int) false),(6,.k,.ref 0 0),(7,.k,.ref 1 0),(10,.k,.ref 2 0),(11,.k,.ref 3 0),(12,.k,.ref 4 0),(13,.k,.ref 5 0),(14,.k,.vec 7),(15,.k,.int t0.1),(16,.k,.ref 8 0),(17,.k,.sl 1 (t2.map AV.int) false),(18,.k,.int t3.1),(19,.k,.int t4)],[.box (.agg [.sl 2 (t.rs.map Rtr.v) false,.sl 5 (t.ls.map Lnk.v) false]),.box (.agg [.int p.sub,.int p.len,.sl 2 (p.es.map Edg.v) false]),.box (.agg [.val (.int .u64 o.local_),.val (.int .u64 o.lost),.sl 12 (o.copies.map Cpy.v) false]),.box (.agg [.int q.mode,.int q.sub,.int q.set,.int q.len,.int q.ttl,.int q.ent,.int q.ing,.int q.proto,.val (.int .u64 q.bits),.str q.pay]),.box (.agg [.val (.int .u64 0),.val (.int .u64 0),.sl 0 [] true]),.box (.agg [.val (.int .u64 o.local_),.val (.int .u64 t3.2.1),.vec 6]),.vec 12 (t3.2.2.2.map Cpy.v) (ab (λ_=>rfl) t3.2.2.2),.vec 1 (t3.2.2.1.map AV.bool) (ab (λ_=>rfl) t3.2.2.1),.box (.agg [.int x1.to,.sl 1 (x1.route.map AV.int) false,.int x1.mode,.int x1.sub,.int x1.set,.int x1.len,.int x1.ttl,.int x1.ent,.int x1.ing,.int x1.proto,.val (.int .u64 x1.bits),.str x1.pay])]⟩
def Td(t:Tpl)(p:Pln)(router:Int)(down:List Int)(o:Out)(q:Pkt)(t0:Int×Int×List Bool×List Cpy)(x1:Cpy)(t2:List Int)(t3:Int×Int×List Bool×List Cpy)(t5:List Int×Bool):NF:=⟨[(2,.k,.int router),(3,.k,.sl 1 (down.map AV.int) false),(6,.k,.ref 0 0),(7,.k,.ref 1 0),(10,.k,.ref 2 0),(11,.k,.ref 3 0),(12,.k,.ref 4 0),(13,.k,.ref 5 0),(14,.k,.vec 7),(15,.k,.int t0.1),(16,.k,.ref 8 0),(17,.k,.sl 1 (t2.map AV.int) false),(18,.k,.int t3.1),(21,(.s 1),.sl 1 (t5.1.map AV.int) false),(22,.k,.bool t5.2)],[.box (.agg [.sl 2 (t.rs.map Rtr.v) false,.sl 5 (t.ls.map Lnk.v) false]),.box (.agg [.int p.sub,.int p.len,.sl 2 (p.es.map Edg.v) false]),.box (.agg [.val (.int .u64 o.local_),.val (.int .u64 o.lost),.sl 12 (o.copies.map Cpy.v) false]),.box (.agg [.int q.mode,.int q.sub,.int q.set,.int q.len,.int q.ttl,.int q.ent,.int q.ing,.int q.proto,.val (.int .u64 q.bits),.str q.pay]),.box (.agg [.val (.int .u64 0),.val (.int .u64 0),.sl 0 [] true]),.box (.agg [.val (.int .u64 o.local_),.val (.int .u64 t3.2.1),.vec 6]),.vec 12 (t3.2.2.2.map Cpy.v) (ab (λ_=>rfl) t3.2.2.2),.vec 1 (t3.2.2.1.map AV.bool) (ab (λ_=>rfl) t3.2.2.1),.box (.agg [.int x1.to,.sl 1 (x1.route.map AV.int) false,.int x1.mode,.int x1.sub,.int x1.set,.int x1.len,.int x1.ttl,.int x1.ent,.int x1.ing,.int x1.proto,.val (.int .u64 x1.bits),.str x1.pay])]⟩
def Tc(t:Tpl)(p:Pln)(router:Int)(down:List Int)(o:Out)(q:Pkt)(t0:Int×Int×List Bool×List Cpy)(x1:Cpy)(t2:List Int)(t3:Int×Int×List Bool×List Cpy)(t5:List Int×Bool)(t6:Int×Int):NF:=⟨[(2,.k,.int router),(3,.k,.sl 1 (down.map AV.int) false),(6,.k,.ref 0 0),(7,.k,.ref 1 0),(10,.k,.ref 2 0),(11,.k,.ref 3 0),(12,.k,.ref 4 0),(13,.k,.ref 5 0),(14,.k,.vec 7),(15,.k,.int t0.1),(16,.k,.ref 8 0),(17,.k,.sl 1 (t2.map AV.int) false),(18,.k,.int t3.1),(21,.k,.sl 1 (t5.1.map AV.int) false),(23,.k,.int t6.1),(24,.k,.int t6.2)],[.box (.agg [.sl 2 (t.rs.map Rtr.v) false,.sl 5 (t.ls.map Lnk.v) false]),.box (.agg [.int p.sub,.int p.len,.sl 2 (p.es.map Edg.v) false]),.box (.agg [.val (.int .u64 o.local_),.val (.int .u64 o.lost),.sl 12 (o.copies.map Cpy.v) false]),.box (.agg [.int q.mode,.int q.sub,.int q.set,.int q.len,.int q.ttl,.int q.ent,.int q.ing,.int q.proto,.val (.int .u64 q.bits),.str q.pay]),.box (.agg [.val (.int .u64 0),.val (.int .u64 0),.sl 0 [] true]),.box (.agg [.val (.int .u64 o.local_),.val (.int .u64 t3.2.1),.vec 6]),.vec 12 (t3.2.2.2.map Cpy.v) (ab (λ_=>rfl) t3.2.2.2),.vec 1 (t3.2.2.1.map AV.bool) (ab (λ_=>rfl) t3.2.2.1),.box (.agg [.int x1.to,.sl 1 (x1.route.map AV.int) false,.int x1.mode,.int x1.sub,.int x1.set,.int x1.len,.int x1.ttl,.int x1.ent,.int x1.ing,.int x1.proto,.val (.int .u64 x1.bits),.str x1.pay])]⟩
def Tb(t:Tpl)(p:Pln)(router:Int)(down:List Int)(o:Out)(q:Pkt)(t0:Int×Int×List Bool×List Cpy)(x1:Cpy)(t2:List Int)(t3:Int×Int×List Bool×List Cpy)(t5:List Int×Bool)(t6:Int×Int)(t7:Bool):NF:=⟨[(2,.k,.int router),(3,.k,.sl 1 (down.map AV.int) false),(6,.k,.ref 0 0),(7,.k,.ref 1 0),(10,.k,.ref 2 0),(11,.k,.ref 3 0),(12,.k,.ref 4 0),(13,.k,.ref 5 0),(14,.k,.vec 7),(15,.k,.int t0.1),(16,.k,.ref 8 0),(17,.k,.sl 1 (t2.map AV.int) false),(18,.k,.int t3.1),(21,.k,.sl 1 (t5.1.map AV.int) false),(23,.k,.int t6.1),(24,.k,.int t6.2),(135,.k,.bool t7)],[.box (.agg [.sl 2 (t.rs.map Rtr.v) false,.sl 5 (t.ls.map Lnk.v) false]),.box (.agg [.int p.sub,.int p.len,.sl 2 (p.es.map Edg.v) false]),.box (.agg [.val (.int .u64 o.local_),.val (.int .u64 o.lost),.sl 12 (o.copies.map Cpy.v) false]),.box (.agg [.int q.mode,.int q.sub,.int q.set,.int q.len,.int q.ttl,.int q.ent,.int q.ing,.int q.proto,.val (.int .u64 q.bits),.str q.pay]),.box (.agg [.val (.int .u64 0),.val (.int .u64 0),.sl 0 [] true]),.box (.agg [.val (.int .u64 o.local_),.val (.int .u64 t3.2.1),.vec 6]),.vec 12 (t3.2.2.2.map Cpy.v) (ab (λ_=>rfl) t3.2.2.2),.vec 1 (t3.2.2.1.map AV.bool) (ab (λ_=>rfl) t3.2.2.1),.box (.agg [.int x1.to,.sl 1 (x1.route.map AV.int) false,.int x1.mode,.int x1.sub,.int x1.set,.int x1.len,.int x1.ttl,.int x1.ent,.int x1.ing,.int x1.proto,.val (.int .u64 x1.bits),.str x1.pay])]⟩
def Ta(t:Tpl)(p:Pln)(router:Int)(down:List Int)(o:Out)(q:Pkt)(t0:Int×Int×List Bool×List Cpy)(x1:Cpy)(t2:List Int)(t3:Int×Int×List Bool×List Cpy)(t8:Int×List Bool×List Cpy):NF:=⟨[(2,.k,.int router),(3,.k,.sl 1 (down.map AV.int) false),(6,.k,.ref 0 0),(7,.k,.ref 1 0),(10,.k,.ref 2 0),(11,.k,.ref 3 0),(12,.k,.ref 4 0),(13,.k,.ref 5 0),(14,.k,.vec 7),(15,.k,.int t0.1),(16,.k,.ref 8 0),(17,.k,.sl 1 (t2.map AV.int) false),(18,.k,.int t3.1),(23,.k,.int t8.1)],[.box (.agg [.sl 2 (t.rs.map Rtr.v) false,.sl 5 (t.ls.map Lnk.v) false]),.box (.agg [.int p.sub,.int p.len,.sl 2 (p.es.map Edg.v) false]),.box (.agg [.val (.int .u64 o.local_),.val (.int .u64 o.lost),.sl 12 (o.copies.map Cpy.v) false]),.box (.agg [.int q.mode,.int q.sub,.int q.set,.int q.len,.int q.ttl,.int q.ent,.int q.ing,.int q.proto,.val (.int .u64 q.bits),.str q.pay]),.box (.agg [.val (.int .u64 0),.val (.int .u64 0),.sl 0 [] true]),.box (.agg [.val (.int .u64 o.local_),.val (.int .u64 t3.2.1),.vec 6]),.vec 12 (t8.2.2.map Cpy.v) (ab (λ_=>rfl) t8.2.2),.vec 1 (t8.2.1.map AV.bool) (ab (λ_=>rfl) t8.2.1),.box (.agg [.int x1.to,.sl 1 (x1.route.map AV.int) false,.int x1.mode,.int x1.sub,.int x1.set,.int x1.len,.int x1.ttl,.int x1.ent,.int x1.ing,.int x1.proto,.val (.int .u64 x1.bits),.str x1.pay])]⟩
@[reducible] def P6:Nat→Type
 | 0=>Int×Int×List Bool×List Cpy
 | 1=>Bool
 | 2=>(List Int)
 | 3=>Int×Int×List Bool×List Cpy
 | 4=>Int
 | 5=>(List Int)×Bool
 | 6=>Int×Int
 | 7=>Bool
 | 8=>Int×List Bool×List Cpy
 | _=>Unit
def HT(r:Out):AV:=Out.v r
def HR(t:Tpl)(p:Pln)(router:Int)(down:List Int)(o:Out)(q:Pkt)(I0:(Int×Int×List Bool×List Cpy)→Prop)(m0:(Int×Int×List Bool×List Cpy)→Nat)(I3:Int×Int×List Bool×List Cpy→Cpy→Bool→(List Int)→(Int×Int×List Bool×List Cpy)→Prop)(m3:Int×Int×List Bool×List Cpy→Cpy→Bool→(List Int)→(Int×Int×List Bool×List Cpy)→Nat)(I6:Int×Int×List Bool×List Cpy→Cpy→Bool→(List Int)→Int×Int×List Bool×List Cpy→Int→(List Int)×Bool→(Int×Int)→Prop)(m6:Int×Int×List Bool×List Cpy→Cpy→Bool→(List Int)→Int×Int×List Bool×List Cpy→Int→(List Int)×Bool→(Int×Int)→Nat)(I7:Int×Int×List Bool×List Cpy→Cpy→Bool→(List Int)→Int×Int×List Bool×List Cpy→Int→(List Int)×Bool→Int×Int→Bool→Prop)(I8:Int×Int×List Bool×List Cpy→Cpy→Bool→(List Int)→Int×Int×List Bool×List Cpy→Int→(List Int)×Bool→Int×Int→(Int×List Bool×List Cpy)→Prop):Ax Tryz.prog P6 (Out):=
 (.cmdL (.nilT 14 1) (.cmdL (.nilB 160 2 12) (.loop 0 (Ti t p router down o q) I0 m0 (0,o.lost,[],[]) [0,16,32,48,64,160,225,224] λ(t0:Int×Int×List Bool×List Cpy) b0 =>
(.br 88 (decide (t0.1<((o.copies.map Cpy.v).length:Int))) (.el 136 Cpy.v o.copies (λR=>Rf (o.copies.map Cpy.v) (ck (decide (0≤t0.1)) (ck (decide (t0.1<(o.copies.length:Int)))
(∀x1,o.copies[t0.1.toNat]?=some x1 →
(R x1))))) λx1 =>
(.pass (.join 1 (Th t p router down o q t0 x1) (λ(t1:Bool)=>t1=((!(decide (x1.to∈down))):Bool)) (λb1=>(.callP (jW down x1.to)
(.bk 1 b1 ((!(decide (x1.to∈down))):Bool) [0,1,2,3,4,5,6,7,168]))) λ(t1:Bool) =>
(.br 9 t1 (.say (λR=>Rf (α:=List AV) (t0.2.2.2.map Cpy.v) (Rf (α:=List AV) [.agg [.int x1.to,.sl 1 (x1.route.map AV.int) false,.int x1.mode,.int x1.sub,.int x1.set,.int x1.len,.int x1.ttl,.int x1.ent,.int x1.ing,.int x1.proto,.val (.int .u64 x1.bits),.str x1.pay]]
(ck (decide (t0.2.2.2.length+1≤1048576))
R))) (.app 73 Cpy.v t0.2.2.2 [x1]
(.say (λR=>Rf (α:=List AV) (t0.2.2.1.map AV.bool) (Rf (α:=List AV) [.bool false]
(ck (decide (t0.2.2.1.length+1≤1048576))
R))) (.app 121 AV.bool t0.2.2.1 [false]
(.bk 0 b0 (W (t0.1+1),t0.2.1,t0.2.2.1++[false],t0.2.2.2++[x1]) [0,1,2,3,4,5,73,121])))))
(.join 2 (Tg t p router down o q t0 x1) (λ(t2:List Int)=>t2=((bG x1.bits):(List Int))) (λb2=>(.callP (GU x1.bits)
(.bk 2 b2 ((bG x1.bits):(List Int)) [0,1,2,3,4,5,6,7,8]))) λ(t2:List Int) =>
(.loop 3 (Tf t p router down o q t0 x1 t2) (I3 t0 x1 t1 t2) (m3 t0 x1 t1 t2) (0,t0.2.1,t0.2.2.1,t0.2.2.2) [0,1,2,3,4,5,6,7,8] λ(t3:Int×Int×List Bool×List Cpy) b3 =>
(.br 73 (decide (t3.1<((t2.map AV.int).length:Int))) (.pass (.join 4 (Te t p router down o q t0 x1 t2 t3) (λ(t4:Int)=>(∃x2':Int,t2[t3.1.toNat]?=some x2'∧t4=(((atT q.set x2' q.len).1):Int))) (λb4=>(.el 137 AV.int t2 (λR=>Rf (t2.map AV.int) (ck (decide (0≤t3.1)) (ck (decide (t3.1<(t2.length:Int)))
(∀x2,t2[t3.1.toNat]?=some x2 →
(R x2))))) λx2 =>
(.callP (JN q.set x2 q.len)
(.bk 4 b4 (((atT q.set x2 q.len).1):Int) [0,1,2,3,4,5,6,7,8])))) λ(t4:Int) =>
(.join 5 (Td t p router down o q t0 x1 t2 t3) (λ(t5:List Int×Bool)=>t5=(((cQ t p router x1.to t4).1,(cQ t p router x1.to t4).2):List Int×Bool)) (λb5=>(.callP (TK t p router x1.to t4)
(.bk 5 b5 ((cQ t p router x1.to t4).1,(cQ t p router x1.to t4).2) [0,1,2,3,4,5,6,7,8]))) λ(t5:List Int×Bool) =>
(.br 41 (!t5.2) (.el 105 AV.int t2 (λR=>Rf (t2.map AV.int) (ck (decide (0≤t3.1)) (ck (decide (t3.1<(t2.length:Int)))
(∀x3,t2[t3.1.toNat]?=some x3 →
(R x3))))) λx3 =>
(.callP (iW x3)
(.bk 3 b3 (W (t3.1+1),bOr .u64 t3.2.1 (bB x3),t3.2.2.1,t3.2.2.2) [0,1,2,3,4,5,6,7,8])))
(.loop 6 (Tc t p router down o q t0 x1 t2 t3 t5) (I6 t0 x1 t1 t2 t3 t4 t5) (m6 t0 x1 t1 t2 t3 t4 t5) (-1,0) [0,1,2,3,4,5,6,7,8] λ(t6:Int×Int) b6 =>
(.br 89 (decide (t6.2<((t3.2.2.2.map Cpy.v).length:Int))) (.pass (.join 7 (Tb t p router down o q t0 x1 t2 t3 t5 t6) (λ(t7:Bool)=>I7 t0 x1 t1 t2 t3 t4 t5 t6 t7) (λb7=>(.say (ck (cond (decide (0≤t6.2)) (decide (t6.2<((t3.2.2.1.map AV.bool).length:Int))) false)) (.el 137 AV.bool t3.2.2.1 (λR=>Rf (t3.2.2.1.map AV.bool) (ck (decide (t6.2.toNat<t3.2.2.1.length))
(∀x4,t3.2.2.1[t6.2.toNat]?=some x4 →
(R x4)))) λx4 =>
(.br 169 x4 (.say (ck (cond (decide (0≤t6.2)) (decide (t6.2<((t3.2.2.2.map Cpy.v).length:Int))) false)) (.el 249 Cpy.v t3.2.2.2 (λR=>Rf (t3.2.2.2.map Cpy.v) (ck (decide (t6.2.toNat<t3.2.2.2.length))
(∀x5,t3.2.2.2[t6.2.toNat]?=some x5 →
(R x5)))) λx5 =>
(.el 281 AV.int t5.1 (λR=>Rf (t5.1.map AV.int) (ck (decide (0<(t5.1.length:Int)))
(∀x6,t5.1[0]?=some x6 →
(R x6)))) λx6 =>
(.br 361 (x5.to==x6) (.say (ck (cond (decide (0≤t6.2)) (decide (t6.2<((t3.2.2.2.map Cpy.v).length:Int))) false)) (.el 457 Cpy.v t3.2.2.2 (λR=>Rf (t3.2.2.2.map Cpy.v) (ck (decide (t6.2.toNat<t3.2.2.2.length))
(∀x7,t3.2.2.2[t6.2.toNat]?=some x7 →
(R x7)))) λx7 =>
(.say (λR=>Rf (α:=List AV) (t5.1.map AV.int) (ck (dD t5.1.length 1 (t5.1.length:Int) (t5.1.length:Int))
R)) (.sub 489 AV.int t5.1 false
(.callP (qi x7.route ((t5.1.take ((t5.1.length:Int).toNat)).drop 1))
(.bk 7 b7 ((decide (x7.route=((t5.1.take ((t5.1.length:Int).toNat)).drop 1))):Bool) [0,1,2,3,4,5,6,7,8]))))))
(.bk 7 b7 ((false):Bool) [0,1,2,3,4,5,6,7,8])))))
(.bk 7 b7 ((false):Bool) [0,1,2,3,4,5,6,7,8]))))) λ(t7:Bool) =>
(.br 9 t7 (.bk 6 b6 (t6.2,W (t6.2+1)) [0,1,2,3,4,5,6,7,8])
(.bk 6 b6 (t6.1,W (t6.2+1)) [0,1,2,3,4,5,6,7,8]))))
(.join 8 (Ta t p router down o q t0 x1 t2 t3) (λ(t8:Int×List Bool×List Cpy)=>I8 t0 x1 t1 t2 t3 t4 t5 t6 t8) (λb8=>(.br 121 (decide (t6.1<0)) (.el 345 AV.int t5.1 (λR=>Rf (t5.1.map AV.int) (ck (decide (0<(t5.1.length:Int)))
(∀x8,t5.1[0]?=some x8 →
(R x8)))) λx8 =>
(.say (λR=>Rf (α:=List AV) (t5.1.map AV.int) (ck (dD t5.1.length 1 (t5.1.length:Int) (t5.1.length:Int))
R)) (.sub 393 AV.int t5.1 false
(.say (λR=>Rf (α:=List AV) (t3.2.2.2.map Cpy.v) (Rf (α:=List AV) [.agg [.int x8,.sl 1 (((t5.1.take ((t5.1.length:Int).toNat)).drop 1).map AV.int) false,.int x1.mode,.int x1.sub,.int x1.set,.int x1.len,.int x1.ttl,.int x1.ent,.int x1.ing,.int x1.proto,.val (.int .u64 0),.str x1.pay]]
(ck (decide (t3.2.2.2.length+1≤1048576))
R))) (.app 473 Cpy.v t3.2.2.2 [(⟨x8,(t5.1.take ((t5.1.length:Int).toNat)).drop 1,x1.mode,x1.sub,x1.set,x1.len,x1.ttl,x1.ent,x1.ing,x1.proto,0,x1.pay⟩:Cpy)]
(.say (λR=>Rf (α:=List AV) (t3.2.2.1.map AV.bool) (Rf (α:=List AV) [.bool true]
(ck (decide (t3.2.2.1.length+1≤1048576))
R))) (.app 521 AV.bool t3.2.2.1 [true]
(.bk 8 b8 (((t3.2.2.2.map Cpy.v).length:Int),t3.2.2.1++[true],t3.2.2.2++[(⟨x8,(t5.1.take ((t5.1.length:Int).toNat)).drop 1,x1.mode,x1.sub,x1.set,x1.len,x1.ttl,x1.ent,x1.ing,x1.proto,0,x1.pay⟩:Cpy)]) [0,1,2,3,4,5,473,521,8]))))))))
(.bk 8 b8 (t6.1,t3.2.2.1,t3.2.2.2) [0,1,2,3,4,5,6,7,8]))) λ(t8:Int×List Bool×List Cpy) =>
(.say (ck (cond (decide (0≤t8.1)) (decide (t8.1<((t8.2.2.map Cpy.v).length:Int))) false)) (.el 121 Cpy.v t8.2.2 (λR=>Rf (t8.2.2.map Cpy.v) (ck (decide (t8.1.toNat<t8.2.2.length))
(∀x9,t8.2.2[t8.1.toNat]?=some x9 →
(R x9)))) λx9 =>
(.el 169 AV.int t2 (λR=>Rf (t2.map AV.int) (ck (decide (0≤t3.1)) (ck (decide (t3.1<(t2.length:Int)))
(∀x10,t2[t3.1.toNat]?=some x10 →
(R x10))))) λx10 =>
(.callP (iW x10)
(.say (ck (cond (decide (0≤t8.1)) (decide (t8.1<((t8.2.2.map Cpy.v).length:Int))) false)) (.st 297 Cpy.v t8.2.2 (λy11=>(⟨y11.to,y11.route,y11.mode,y11.sub,y11.set,y11.len,y11.ttl,y11.ent,y11.ing,y11.proto,bOr .u64 x9.bits (bB x10),y11.pay⟩:Cpy)) (λR=>Rf (t8.2.2.map Cpy.v) (ck (decide (t8.1.toNat<t8.2.2.length))
(∀y11,t8.2.2[t8.1.toNat]?=some y11→Rf (Cpy.v (⟨y11.to,y11.route,y11.mode,y11.sub,y11.set,y11.len,y11.ttl,y11.ent,y11.ing,y11.proto,bOr .u64 x9.bits (bB x10),y11.pay⟩:Cpy))
((R y11))))) λy11 =>
(.bk 3 b3 (W (t3.1+1),t3.2.1,t8.2.1,t8.2.2.set t8.1.toNat (⟨y11.to,y11.route,y11.mode,y11.sub,y11.set,y11.len,y11.ttl,y11.ent,y11.ing,y11.proto,bOr .u64 x9.bits (bB x10),y11.pay⟩:Cpy)) [0,1,2,3,4,5,6,7,8]))))))))))))))
(.bk 0 b0 (W (t0.1+1),t3.2.1,t3.2.2.1,t3.2.2.2) [0,1,2,3,4,5,6,7]))))))))
(.say (Rf (t0.2.2.2.map Cpy.v)) (.cmdL (.frzE 6 (t0.2.2.2.map Cpy.v) (ab (λ_=>rfl) t0.2.2.2)) (.ret ((⟨o.local_,t0.2.1,t0.2.2.2⟩:Out)))))))))
def HS(t:Tpl)(p:Pln)(router:Int)(down:List Int)(o:Out)(q:Pkt)(I0:(Int×Int×List Bool×List Cpy)→Prop)(m0:(Int×Int×List Bool×List Cpy)→Nat)(I3:Int×Int×List Bool×List Cpy→Cpy→Bool→(List Int)→(Int×Int×List Bool×List Cpy)→Prop)(m3:Int×Int×List Bool×List Cpy→Cpy→Bool→(List Int)→(Int×Int×List Bool×List Cpy)→Nat)(I6:Int×Int×List Bool×List Cpy→Cpy→Bool→(List Int)→Int×Int×List Bool×List Cpy→Int→(List Int)×Bool→(Int×Int)→Prop)(m6:Int×Int×List Bool×List Cpy→Cpy→Bool→(List Int)→Int×Int×List Bool×List Cpy→Int→(List Int)×Bool→(Int×Int)→Nat)(I7:Int×Int×List Bool×List Cpy→Cpy→Bool→(List Int)→Int×Int×List Bool×List Cpy→Int→(List Int)×Bool→Int×Int→Bool→Prop)(I8:Int×Int×List Bool×List Cpy→Cpy→Bool→(List Int)→Int×Int×List Bool×List Cpy→Int→(List Int)×Bool→Int×Int→(Int×List Bool×List Cpy)→Prop)(r0:Out):=(HR t p router down o q I0 m0 I3 m3 I6 m6 I7 I8).vp HT r0
theorem dW.next{α σ:Type}{l:List α}{g:σ→α→σ}{s0 s s':σ}{t:Int}{x:α}(h:dW l g s0 t s)(hl:l.length≤1000000)(hx:l[t.toNat]?=some x)(e:s'=g s x):dW l g s0 (W (t+1)) s'∧l.length-(W (t+1)).toNat<l.length-t.toNat∧(W (t+1)).toNat=t.toNat+1:=by
 obtain⟨a,b⟩:=h.step (by omega) hx e
 refine⟨a,b,?_⟩
 obtain⟨k,rfl,hk,_⟩:=h
 rw[Int.toNat_natCast]at hx
 have:=ap hx
 rw[aU (n:=l.length) this (by omega)];rfl
theorem grd_p(t:Tpl)(p:Pln)(rt:Int)(down:List Int)(o:Out)(q:Pkt)(h:o.copies.length≤1000)(ok:grd_a t p rt down o q):∃I0 m0 I3 m3 I6 m6 I7 I8,HS t p rt down o q I0 m0 I3 m3 I6 m6 I7 I8 (DL t p rt down o q):=by
 refine⟨λs=>dW o.copies (gC t p rt down q) (o.lost,[],[]) s.1 s.2∧GI s.2∧s.2.2.2.length≤64 * s.1.toNat,λs=>o.copies.length-s.1.toNat,
  λs x _ l u=>dW l (gS t p rt q x) s.2 u.1 u.2∧GI u.2∧u.2.2.2.length≤64 * s.1.toNat+u.1.toNat,λs x _ l u=>l.length-u.1.toNat,
  λs x _ l u _ d v=>∃k:Nat,v.2=k∧k≤u.2.2.2.length∧((v.1=-1∧∀i,i<k→dV d.1 u.2.2.1 u.2.2.2 i=false)∨∃i:Nat,v.1=i∧dV d.1 u.2.2.1 u.2.2.2 i=true),λs x _ l u _ d v=>u.2.2.2.length-v.2.toNat,
  λs x _ l u _ d v b=>b=dV d.1 u.2.2.1 u.2.2.2 v.2.toNat,
  λs x _ l u _ d v w=>∃(j:Nat) (c:Cpy),w.1=j∧w.2.2[j]?=some c∧∀k,l[u.1.toNat]?=some k→(u.2.1,w.2.1,w.2.2.set j (HV c (bB k)))=gS t p rt q x u.2 k,?_⟩
 dsimp only[HS,HR,P6,Ax.vp,Ax.vc];simp only[vcU,rfU,List.length_map]
 refine⟨⟨dW.zero,GI.nil,by simp⟩,?_⟩
 rintro⟨i,lost,mk,cs⟩ ⟨hG,hI,hL⟩
 simp only at hG hI hL ⊢
 refine⟨λc=>⟨hG.idx,c,λx hx=>⟨trivial,?_⟩⟩,λc=>?_⟩
 ·have hlt:=ap hx
  rintro _ rfl
  refine⟨λe=>?_,λe=>⟨trivial,?_⟩⟩
  ·have e:x.to ∉ down:=by simpa using e
   have hs:(lost,mk++[false],cs++[x])=gC t p rt down q (lost,mk,cs) x:=by unfold gC;rw[if_neg e]
   obtain⟨a1,a2,a3⟩:=hG.next (by omega) hx hs
   have hc:=hI.copy (t:=t) (p:=p) (rt:=rt) (q:=q) (x:=x) (down:=down)
   rw[←hs]at hc
   have hle:=hI.le
   simp only at hle hc
   rw[a3]
   exact⟨by omega,by omega,⟨a1,hc.1,by omega⟩,by omega⟩
  ·have e:x.to∈down:=by simpa using e
   rintro _ rfl
   have hbl:=jF x.bits
   refine⟨⟨dW.zero,hI,by simp;omega⟩,?_⟩
   rintro⟨i2,lost2,mk2,cs2⟩ ⟨hG2,hI2,hL2⟩
   simp only at hG2 hI2 hL2 ⊢
   refine⟨λc2=>⟨⟨hG2.idx,c2,λk hk=>⟨k,hk,rfl⟩⟩,?_⟩,λc2=>?_⟩
   ·rintro t5 ⟨k,hk,e5⟩
    subst e5
    have hkb:=mO (bq hk)
    have hlt2:=ap hk
    refine⟨trivial,?_⟩
    rintro _ rfl
    simp only
    refine⟨λe1=>⟨hG2.idx,c2,λk' hk'=>?_⟩,λe1=>⟨⟨0,rfl,by omega,.inl ⟨trivial,λi h=>by omega⟩⟩,?_⟩⟩
    ·rw[hk]at hk';cases hk'
     have hs:(bOr .u64 lost2 (bB k),mk2,cs2)=gS t p rt q x (lost2,mk2,cs2) k:=by rw[HU ((Bool.not_eq_true' _).mp e1)]
     obtain⟨a1,a2,a3⟩:=hG2.next (by omega) hk hs
     have hc:=hI2.step (t:=t) (p:=p) (rt:=rt) (q:=q) (x:=x) (k:=k)
     rw[←hs]at hc
     rw[a3]
     exact⟨⟨a1,hc.1,by omega⟩,by omega⟩
    have e1:(bK t p rt q x k).2=true:=(Bool.not_eq_false' _).mp e1
    have hpos:=qG e1
    rintro⟨at_,j0⟩ ⟨j,hj0,hj,hm⟩
    simp only at hj0 hm ⊢
    subst hj0
    have hle2:=hI2.le
    simp only at hle2
    simp only[Int.toNat_natCast]
    have hcons:∀r0,(bK t p rt q x k).1[0]?=some r0→(bK t p rt q x k).1=r0::(bK t p rt q x k).1.drop 1:=λr0 h0=>by
     cases hr:(bK t p rt q x k).1 with
     | nil=>rw[hr]at h0;cases h0
     | cons a l=>rw[hr]at h0;cases h0;rfl
    have hdt:List.drop 1 (List.take (((bK t p rt q x k).1.length:Int)).toNat (bK t p rt q x k).1)=(bK t p rt q x k).1.drop 1:=by rw[Int.toNat_natCast,List.take_length]
    have hbnd:dD (bK t p rt q x k).1.length 1 ((bK t p rt q x k).1.length:Int) ((bK t p rt q x k).1.length:Int)=true:=by
     have:0<(bK t p rt q x k).1.length:=hpos
     simp[dD];omega
    refine⟨λc3=>⟨⟨bA (by omega) (by omega),by omega,λb hb=>⟨λeb=>⟨bA (by omega) (by omega),by omega,λy hy=>⟨?_,λr0 hr0=>⟨λe3=>⟨bA (by omega) (by omega),by omega,λz hz=>⟨?_,?_⟩⟩,λe3=>?_⟩⟩⟩,λeb=>?_⟩⟩,?_⟩,λc3=>⟨⟨λe3=>⟨?_,λr0 hr0=>⟨?_,by omega,by omega,cs2.length,qn x (bK t p rt q x k).1 0,rfl,?_,λk' hk'=>?_⟩⟩,λe3=>?_⟩,?_⟩⟩
    ·have:0<(bK t p rt q x k).1.length:=hpos
     show(0:Int)<(bK t p rt q x k).1.length
     omega
    ·exact hbnd
    ·rw[hy]at hz;cases hz;subst eb
     have h1:=hcons r0 hr0
     show decide (y.route=List.drop 1 (List.take (((bK t p rt q x k).1.length:Int)).toNat (bK t p rt q x k).1))=_
     rw[hdt]
     unfold dV
     rw[hb,hy]
     simp only[beq_self_eq_true,Bool.true_and]
     rw[decide_eq_decide]
     show _↔whl y=(bK t p rt q x k).1
     rw[h1,whl,eq_of_beq e3]
     simp
    ·subst eb
     have h1:=hcons r0 hr0
     have e3:y.to≠r0:=by simpa using e3
     unfold dV
     rw[hb,hy]
     simp only[beq_self_eq_true,Bool.true_and]
     symm
     rw[decide_eq_false_iff_not]
     show ¬whl y=(bK t p rt q x k).1
     rw[h1,whl]
     intro q;exact e3 (List.cons.inj q).1
    ·subst eb
     unfold dV;rw[hb];rfl
    ·rintro _ rfl
     rw[aU (n:=cs2.length) (by omega) (by omega)]
     refine⟨λg=>⟨⟨j+1,rfl,by omega,.inr ⟨j,rfl,g⟩⟩,by omega⟩,λg=>⟨⟨j+1,rfl,by omega,?_⟩,by omega⟩⟩
     rcases hm with⟨m1,m2⟩|m1
     ·refine .inl ⟨m1,λi hi=>?_⟩
      by_cases ei:i=j
      ·subst ei;exact g
      ·exact m2 i (by omega)
     ·exact .inr m1
    ·have:0<(bK t p rt q x k).1.length:=hpos
     show(0:Int)<(bK t p rt q x k).1.length
     omega
    ·exact hbnd
    ·rw[List.getElem?_append_right (Nat.le_refl _),Nat.sub_self]
     have h1:=hcons r0 hr0
     show some _=some _
     unfold qn
     congr 2
     ·rw[h1];rfl
    ·rw[hk]at hk';cases hk'
     have hn:∀i,i<cs2.length→dV (bK t p rt q x k).1 mk2 cs2 i=false:=by
      rcases hm with⟨m1,m2⟩|⟨i,m1,m2⟩
      ·exact λi hi=>m2 i (by omega)
      ·omega
     rw[xS e1 hn,List.set_append_right _ _ (Nat.le_refl _),Nat.sub_self,List.set_cons_zero]
     unfold HV qn
     simp only
     rw[JH hkb]
    ·rcases hm with⟨m1,m2⟩|⟨i,m1,m2⟩
     ·omega
     obtain⟨_,cc,hcc,_⟩:=il.mp m2
     refine⟨i,cc,m1,hcc,λk' hk'=>?_⟩
     rw[hk]at hk';cases hk'
     rw[xT hI2 e1 m2]
     unfold mo
     simp only
     rw[hcc]
    ·rintro⟨w1,mk3,cs3⟩ ⟨n,cc,hw,hcc,hgs⟩
     simp only at hw hcc hgs ⊢
     subst hw
     have hn:=ap hcc
     simp only[Int.toNat_natCast]
     refine⟨bA (by omega) (by omega),hn,λy hy=>⟨hG2.idx,c2,λk' hk'=>⟨bA (by omega) (by omega),hn,λz hz=>?_⟩⟩⟩
     rw[hcc]at hy hz;cases hy;cases hz
     rw[hk]at hk';cases hk'
     have hs:=hgs k hk
     obtain⟨a1,a2,a3⟩:=hG2.next (by omega) hk hs
     have hc:=hI2.step (t:=t) (p:=p) (rt:=rt) (q:=q) (x:=x) (k:=k)
     rw[←hs]at hc
     simp only at hc
     rw[a3]
     have hl:(cs3.set n (HV cc (bB k))).length≤cs2.length+1:=hc.2
     rw[List.length_set]at hl
     exact⟨⟨a1,hc.1,by rw[List.length_set];omega⟩,by omega⟩
   ·have hfin:=hG2.done c2
    have hs:(lost2,mk2,cs2)=gC t p rt down q (lost,mk,cs) x:=by unfold gC;rw[if_pos e,hfin]
    obtain⟨a1,a2,a3⟩:=hG.next (by omega) hx hs
    have hc:=hI.copy (t:=t) (p:=p) (rt:=rt) (q:=q) (x:=x) (down:=down)
    rw[←hs]at hc
    simp only at hc
    rw[a3]
    exact⟨⟨a1,hc.1,by omega⟩,by omega⟩
 ·have:=hG.done c
  unfold DL
  rw[←this]
def grd_c(t:Tpl)(p:Pln)(router:Int)(down:List Int)(o:Out)(q:Pkt)(h:o.copies.length≤1000):PC Tryz.prog:=⟨51,[(.a [(.s 2),(.s 5)]),(.a [.k,.k,(.s 2)]),.k,(.s 1),(.a [.k,.k,(.s 12)]),.k],[.agg [.sl 2 (t.rs.map Rtr.v) false,.sl 5 (t.ls.map Lnk.v) false],.agg [.int p.sub,.int p.len,.sl 2 (p.es.map Edg.v) false],.int router,.sl 1 (down.map AV.int) false,.agg [.val (.int .u64 o.local_),.val (.int .u64 o.lost),.sl 12 (o.copies.map Cpy.v) false],.agg [.int q.mode,.int q.sub,.int q.set,.int q.len,.int q.ttl,.int q.ent,.int q.ing,.int q.proto,.val (.int .u64 q.bits),.str q.pay]],HT (DL t p router down o q),ao.of_ok λok=>(grd_p t p router down o q h ok).elim λI0 h=>h.elim λm0 h=>h.elim λI3 h=>h.elim λm3 h=>h.elim λI6 h=>h.elim λm6 h=>h.elim λI7 h=>h.elim λI8 h=>aj (sh:=(.a [.k,.k,(.s 12)])) (enc:=HT) (a:=(HR t p router down o q I0 m0 I3 m3 I6 m6 I7 I8).an) h (by kernel_rfl) (AV.pureB_ok rfl),ah (by kernel_rfl)⟩
def Cpy.pk(c:Cpy):Pkt:=⟨c.mode,c.sub,c.set,c.len,c.ttl,c.ent,c.ing,c.proto,c.bits,c.pay⟩
def Ev(c:Cpy):Prop:=cN c.pk=true∧0≤c.bits∧c.bits<18446744073709551616
theorem JI{a:Nat}(ha:a<18446744073709551616)(m:Int):∃z:Nat,dF .u64 (a:Int) m=z∧z<18446744073709551616∧∀i,z.testBit i=true→a.testBit i=true:=by
 have hz:((BitVec.ofInt 64 (a:Int)) &&& (BitVec.ofInt 64 m)).toNat<18446744073709551616:=BitVec.isLt _
 refine⟨_,?_,hz,λi hi=>?_⟩
 ·unfold dF
  rw[show IntKind.u64.bits=64 from rfl]
  exact dO hz
 ·have e:∀(x:BitVec 64) i,x.toNat.testBit i=x.getLsbD i:=λx i=>rfl
  rw[e,BitVec.getLsbD_and,BitVec.getLsbD,rp ha]at hi
  exact(Bool.and_eq_true _ _ ▸ hi).1
theorem Mj{p:Pkt}(hb:0≤p.bits∧p.bits<18446744073709551616){m h:Int}(e:(am p m).2=true):Ev (IW h (am p m).1):=by
 unfold am at e ⊢
 split at e
 ·cases e
 rename_i c
 rw[if_neg c]
 have c:(!cN p || (p.ttl==0 || dF .u64 p.bits m==0))=false:=by simpa using c
 rw[Bool.or_eq_false_iff,Bool.or_eq_false_iff]at c
 have hp:cN p=true:=by simpa using c.1
 have ht:p.ttl≠0:=by simpa using c.2.1
 have h1:=kP hp
 have hy:p.bits=(p.bits.toNat:Nat):=by omega
 obtain⟨z,z1,z2,z3⟩:=JI (a:=p.bits.toNat) (by omega) m
 rw[←hy]at z1
 unfold Ev Cpy.pk IW Ss
 simp only
 rw[z1,cn (by omega)]
 exact⟨AX hp hy (by omega) z2 z3 (by omega),by omega,by omega⟩
theorem HZ{b:Tbl}{p:Pkt}(hb:0≤p.bits∧p.bits<18446744073709551616):∀{n:Nat} {s:FwS},(∀c∈s.2.2.2,Ev c)→∀c∈(fwL b p n s).copies,Ev c
 | 0,s,h=>h
 | n+1,s,h=>by
  rw[fwL]
  split
  ·exact h
  ·refine HZ hb ?_
   unfold fwS
   repeat' split
   all_goals first|exact h|skip
   rename_i e
   intro c hc
   rcases List.mem_append.mp hc with hc|hc
   ·exact h c hc
   ·rw[List.mem_singleton.mp hc];exact Mj hb e
theorem Tl{b:Tbl}{p:Pkt}(hb:0≤p.bits∧p.bits<18446744073709551616):∀c∈(bV b p).1.copies,Ev c:=by
 unfold bV
 repeat' split
 all_goals first|exact HZ hb (by simp)|simp
theorem Cg{b:Tbl}{p:Pkt}:∀{n:Nat} {s:FwS},(fwL b p n s).copies.length≤s.2.2.2.length+n
 | 0,s=>by simp[fwL]
 | n+1,s=>by
  rw[fwL]
  split
  ·simp only;omega
  ·have h1:=Cg (b:=b) (p:=p) (n:=n) (s:=fwS b p s)
   have h2:(fwS b p s).2.2.2.length≤s.2.2.2.length+1:=by
    unfold fwS
    repeat' split
    all_goals simp
   omega
theorem Cc{b:Tbl}{p:Pkt}:(bV b p).1.copies.length≤64:=by
 unfold bV
 repeat' split
 all_goals first|simp;done|skip
 have:=Cg (b:=b) (p:=p) (n:=64) (s:=(p.bits,0,0,[]))
 unfold ya
 simpa using this
theorem RF{c:Cpy}(h:Ev c){k:Int}(hk:k∈bG c.bits):cW c.pk k=⟨c.mode,c.sub,c.set,c.len,c.ttl,c.ent,c.ing,c.proto,bB k,c.pay⟩:=by
 have hr:=mO hk
 obtain⟨x,hx,hx2⟩:=Qp h.2
 obtain⟨j,rfl⟩:∃j:Nat,k=j:=⟨k.toNat,by omega⟩
 rw[hx,fZ]at hk
 obtain⟨i,hi,e⟩:=List.mem_map.mp hk
 have:i=j:=by omega
 subst this
 have hb:=(List.mem_filter.mp hi).2
 have h1:=JD hx2 (by omega:i<64)
 have ho:pz c.pk i=false:=by
  unfold pz
  rw[h.1,decide_eq_false (by omega),decide_eq_false (by omega)]
  show(false || (false || (false || dF .u64 (mW .u64 c.bits i) 1==0)))=false
  rw[hb,←hx]at h1
  rw[eq_of_beq h1];rfl
 unfold cW
 rw[ho,if_neg (by simp),bB,if_neg (by omega)];rfl
def nh(mk:List Bool):List Int:=((List.range mk.length).filter λj=>mk[j]?==some true).map λ(j:Nat)=>(j:Int)
theorem nT(mk:List Bool)(m:Bool):nh (mk++[m])=if m=true then nh mk++[(mk.length:Int)]else nh mk:=by
 unfold nh
 rw[List.length_append,List.length_singleton,List.range_succ,List.filter_append]
 have e:(List.range mk.length).filter (λj=>(mk++[m])[j]?==some true)=(List.range mk.length).filter λj=>mk[j]?==some true:=by
  refine List.filter_congr λj hj=>?_
  rw[List.getElem?_append_left (List.mem_range.mp hj)]
 rw[e]
 cases m<;>simp
theorem uf{mk:List Bool}{x:Int}:x∈nh mk↔∃j:Nat,x=j∧mk[j]?=some true:=by
 unfold nh
 rw[List.mem_map]
 constructor
 ·rintro⟨j,hj,rfl⟩
  exact⟨j,rfl,by simpa using(List.mem_filter.mp hj).2⟩
 ·rintro⟨j,rfl,hj⟩
  exact⟨j,List.mem_filter.mpr ⟨List.mem_range.mpr (ap hj),by simp[hj]⟩,rfl⟩
def jp(t:Tpl)(p:Pln)(b:Tbl)(down:List Int)(q:Pkt):Out×Int:=
 if(bV b q).2≠0 then(⟨0,0,[]⟩,(bV b q).2)else if aB t≠0∨bd p=false then(⟨0,0,[]⟩,1)else if kM t=false then(⟨0,0,[]⟩,26)
 else(DL t p b.router down (bV b q).1 q,0)
def ppr_a(t:Tpl)(p:Pln)(b:Tbl)(down:List Int)(q:Pkt):=okL [.agg [.sl 2 (t.rs.map Rtr.v) false,.sl 5 (t.ls.map Lnk.v) false],.agg [.int p.sub,.int p.len,.sl 2 (p.es.map Edg.v) false],.agg [.int b.router,.int b.sub,.int b.len,.sl 2 (b.rows.map Rw.v) false],.sl 1 (down.map AV.int) false,.agg [.int q.mode,.int q.sub,.int q.set,.int q.len,.int q.ttl,.int q.ent,.int q.ing,.int q.proto,.val (.int .u64 q.bits),.str q.pay]]
def QS(t:Tpl)(p:Pln)(b:Tbl)(down:List Int)(q:Pkt)(t0:Bool):NF:=⟨[(3,.k,.sl 1 (down.map AV.int) false),(5,.k,.ref 0 0),(6,.k,.ref 1 0),(7,.k,.ref 2 0),(9,.k,.ref 3 0),(10,.k,.ref 4 0),(12,.k,.ref 5 0),(31,.k,.bool t0)],[.box (.agg [.sl 2 (t.rs.map Rtr.v) false,.sl 5 (t.ls.map Lnk.v) false]),.box (.agg [.int p.sub,.int p.len,.sl 2 (p.es.map Edg.v) false]),.box (.agg [.int b.router,.int b.sub,.int b.len,.sl 2 (b.rows.map Rw.v) false]),.box (.agg [.int q.mode,.int q.sub,.int q.set,.int q.len,.int q.ttl,.int q.ent,.int q.ing,.int q.proto,.val (.int .u64 q.bits),.str q.pay]),.box (.agg [.val (.int .u64 0),.val (.int .u64 0),.sl 0 [] true]),.box ((Out.v ((bV b q).1)))]⟩
@[reducible] def Px:Nat→Type
 | 0=>Bool
 | _=>Unit
def FJ(r:Out×Int):AV:=.tup [Out.v r.1,.int r.2]
def FH(t:Tpl)(p:Pln)(b:Tbl)(down:List Int)(q:Pkt)(I0:Bool→Prop):Ax Tryz.prog Px (Out×Int):=
 (.callP (Tq b q)
(.br 272 (((bV b q).2) != 0) (.ret ((⟨0,0,[]⟩:Out),(bV b q).2))
(.pass (.join 0 (QS t p b down q) (λ(t0:Bool)=>I0 t0) (λb0=>(.callP (kg t)
(.br 336 ((aB t) != 0) (.bk 0 b0 ((true):Bool) [0,16,32,48,64,192])
(.callP (oi p)
(.bk 0 b0 ((!(bd p)):Bool) [0,16,32,48,64,192]))))) λ(t0:Bool) =>
(.br 6 t0 (.ret ((⟨0,0,[]⟩:Out),1))
(.callP (Js t)
(.br 54 (!(kM t)) (.ret ((⟨0,0,[]⟩:Out),26))
(.req 166 (((bV b q).1).copies.length≤1000) λh1 =>
(.callP (grd_c t p b.router down ((bV b q).1) q h1)
(.ret (DL t p b.router down ((bV b q).1) q,0)))))))))))
def FI(t:Tpl)(p:Pln)(b:Tbl)(down:List Int)(q:Pkt)(I0:Bool→Prop)(r0:Out×Int):=(FH t p b down q I0).vp FJ r0
theorem ppr_p(t:Tpl)(p:Pln)(b:Tbl)(down:List Int)(q:Pkt)(ok:ppr_a t p b down q):∃I0,FI t p b down q I0 (jp t p b down q):=by
 refine⟨λu=>u=decide (aB t≠0∨bd p=false),?_⟩
 dsimp only[FI,FH,Px,Ax.vp,Ax.vc];simp only[vcU,rfU,List.length_map]
 have hl:=Cc (b:=b) (p:=q)
 unfold jp
 refine⟨λc=>by rw[if_pos (by simpa using c)],λc=>?_⟩
 rw[if_neg (by simpa using c)]
 refine⟨⟨λd=>?_,λd=>?_⟩,?_⟩
 ·have d:aB t≠0:=by simpa using d
  simp[d]
 ·have d:aB t=0:=by simpa using d
  cases bd p<;>simp[d]
 rintro _ rfl
 refine⟨λd=>by rw[if_pos (of_decide_eq_true d)],λd=>?_⟩
 rw[if_neg (of_decide_eq_false d)]
 exact⟨λe=>by rw[if_pos (by simpa using e)],λe=>⟨by omega,by rw[if_neg (by simpa using e)]⟩⟩
def ppr_c(t:Tpl)(p:Pln)(b:Tbl)(down:List Int)(q:Pkt):PC Tryz.prog:=⟨15,[(.a [(.s 2),(.s 5)]),(.a [.k,.k,(.s 2)]),(.a [.k,.k,.k,(.s 2)]),(.s 1),.k],[.agg [.sl 2 (t.rs.map Rtr.v) false,.sl 5 (t.ls.map Lnk.v) false],.agg [.int p.sub,.int p.len,.sl 2 (p.es.map Edg.v) false],.agg [.int b.router,.int b.sub,.int b.len,.sl 2 (b.rows.map Rw.v) false],.sl 1 (down.map AV.int) false,.agg [.int q.mode,.int q.sub,.int q.set,.int q.len,.int q.ttl,.int q.ent,.int q.ing,.int q.proto,.val (.int .u64 q.bits),.str q.pay]],FJ (jp t p b down q),ao.of_ok λok=>(ppr_p t p b down q ok).elim λI0 h=>aj (sh:=(.a [(.a [.k,.k,(.s 12)]),.k])) (enc:=FJ) (a:=(FH t p b down q I0).an) h (by kernel_rfl) (AV.pureB_ok rfl),ah (by kernel_rfl)⟩
structure PkO (t:Tpl) (p:Pln) (b:Tbl) (down:List Int) (q:Pkt) (s:List Cpy×Int×Int×Int×List Cpy×List Int) (mk:List Bool):Prop where
  cp:s.1=(bV b q).1.copies
  ln:s.2.1=(bV b q).1.copies.length
  dt:s.2.2.2.2.2=nh mk
  fg:dW (bV b q).1.copies (gC t p b.router down q) ((bV b q).1.lost,[],[]) s.2.2.1 (s.2.2.2.1,mk,s.2.2.2.2.1)
  gi:GI (s.2.2.2.1,mk,s.2.2.2.2.1)
  le:s.2.2.2.2.1.length≤64 * s.2.2.1.toNat
structure PkB (t:Tpl) (p:Pln) (b:Tbl) (down:List Int) (q:Pkt) (s:List Cpy×Int×Int×Int×List Cpy×List Int) (x:Cpy) (l:List Int) (u:Int×Int×List Cpy×List Int) (mk0 mk:List Bool):Prop where
  o:PkO t p b down q s mk0
  dt:u.2.2.2=nh mk
  fg:dW l (gS t p b.router q x) (s.2.2.2.1,mk0,s.2.2.2.2.1) u.1 (u.2.1,mk,u.2.2.1)
  gi:GI (u.2.1,mk,u.2.2.1)
  le:u.2.2.1.length≤64 * s.2.2.1.toNat+u.1.toNat
def ppk_a(t:Tpl)(p:Pln)(b:Tbl)(down:List Int)(q:Pkt):=okL [.agg [.sl 2 (t.rs.map Rtr.v) false,.sl 5 (t.ls.map Lnk.v) false],.agg [.int p.sub,.int p.len,.sl 2 (p.es.map Edg.v) false],.agg [.int b.router,.int b.sub,.int b.len,.sl 2 (b.rows.map Rw.v) false],.sl 1 (down.map AV.int) false,.agg [.int q.mode,.int q.sub,.int q.set,.int q.len,.int q.ttl,.int q.ent,.int q.ing,.int q.proto,.val (.int .u64 q.bits),.str q.pay]]
def Rc(t:Tpl)(p:Pln)(b:Tbl)(down:List Int)(q:Pkt)(t0:Int):NF:=⟨[(3,.k,.sl 1 (down.map AV.int) false),(5,.k,.ref 0 0),(6,.k,.ref 1 0),(7,.k,.ref 2 0),(9,.k,.ref 3 0),(10,.k,.ref 4 0),(12,.k,.ref 5 0),(13,.k,.int t0)],[.box (.agg [.sl 2 (t.rs.map Rtr.v) false,.sl 5 (t.ls.map Lnk.v) false]),.box (.agg [.int p.sub,.int p.len,.sl 2 (p.es.map Edg.v) false]),.box (.agg [.int b.router,.int b.sub,.int b.len,.sl 2 (b.rows.map Rw.v) false]),.box (.agg [.int q.mode,.int q.sub,.int q.set,.int q.len,.int q.ttl,.int q.ent,.int q.ing,.int q.proto,.val (.int .u64 q.bits),.str q.pay]),.box (.agg [.val (.int .u64 0),.val (.int .u64 0),.sl 0 [] true]),.box ((Out.v ((bV b q).1)))]⟩
def Rb(t:Tpl)(p:Pln)(b:Tbl)(down:List Int)(q:Pkt)(t1:Bool):NF:=⟨[(3,.k,.sl 1 (down.map AV.int) false),(5,.k,.ref 0 0),(6,.k,.ref 1 0),(7,.k,.ref 2 0),(9,.k,.ref 3 0),(10,.k,.ref 4 0),(12,.k,.ref 5 0),(37,.k,.bool t1)],[.box (.agg [.sl 2 (t.rs.map Rtr.v) false,.sl 5 (t.ls.map Lnk.v) false]),.box (.agg [.int p.sub,.int p.len,.sl 2 (p.es.map Edg.v) false]),.box (.agg [.int b.router,.int b.sub,.int b.len,.sl 2 (b.rows.map Rw.v) false]),.box (.agg [.int q.mode,.int q.sub,.int q.set,.int q.len,.int q.ttl,.int q.ent,.int q.ing,.int q.proto,.val (.int .u64 q.bits),.str q.pay]),.box (.agg [.val (.int .u64 0),.val (.int .u64 0),.sl 0 [] true]),.box ((Out.v ((bV b q).1)))]⟩
def Ra(t:Tpl)(p:Pln)(b:Tbl)(down:List Int)(q:Pkt)(t2:List Cpy×Int×Int×Int×List Cpy×List Int):NF:=⟨[(3,.k,.sl 1 (down.map AV.int) false),(5,.k,.ref 0 0),(6,.k,.ref 1 0),(7,.k,.ref 2 0),(9,.k,.ref 3 0),(10,.k,.ref 4 0),(14,.k,.ref 5 0),(15,.k,.vec 7),(58,(.s 12),.sl 12 (t2.1.map Cpy.v) false),(59,.k,.int t2.2.1),(60,.k,.int t2.2.2.1)],[.box (.agg [.sl 2 (t.rs.map Rtr.v) false,.sl 5 (t.ls.map Lnk.v) false]),.box (.agg [.int p.sub,.int p.len,.sl 2 (p.es.map Edg.v) false]),.box (.agg [.int b.router,.int b.sub,.int b.len,.sl 2 (b.rows.map Rw.v) false]),.box (.agg [.int q.mode,.int q.sub,.int q.set,.int q.len,.int q.ttl,.int q.ent,.int q.ing,.int q.proto,.val (.int .u64 q.bits),.str q.pay]),.box (.agg [.val (.int .u64 0),.val (.int .u64 0),.sl 0 [] true]),.box (.agg [.val (.int .u64 (((bV b q).1).local_)),.val (.int .u64 t2.2.2.2.1),.vec 6]),.vec 12 (t2.2.2.2.2.1.map Cpy.v) (ab (λ_=>rfl) t2.2.2.2.2.1),.vec 1 (t2.2.2.2.2.2.map AV.int) (ab (λ_=>rfl) t2.2.2.2.2.2)]⟩
def QZ(t:Tpl)(p:Pln)(b:Tbl)(down:List Int)(q:Pkt)(t2:List Cpy×Int×Int×Int×List Cpy×List Int)(x1:Cpy)(t3:Bool):NF:=⟨[(3,.k,.sl 1 (down.map AV.int) false),(5,.k,.ref 0 0),(6,.k,.ref 1 0),(7,.k,.ref 2 0),(9,.k,.ref 3 0),(10,.k,.ref 4 0),(14,.k,.ref 5 0),(15,.k,.vec 7),(17,.k,.ref 8 0),(58,.k,.sl 12 (t2.1.map Cpy.v) false),(59,.k,.int t2.2.1),(60,.k,.int t2.2.2.1),(68,.k,.bool t3)],[.box (.agg [.sl 2 (t.rs.map Rtr.v) false,.sl 5 (t.ls.map Lnk.v) false]),.box (.agg [.int p.sub,.int p.len,.sl 2 (p.es.map Edg.v) false]),.box (.agg [.int b.router,.int b.sub,.int b.len,.sl 2 (b.rows.map Rw.v) false]),.box (.agg [.int q.mode,.int q.sub,.int q.set,.int q.len,.int q.ttl,.int q.ent,.int q.ing,.int q.proto,.val (.int .u64 q.bits),.str q.pay]),.box (.agg [.val (.int .u64 0),.val (.int .u64 0),.sl 0 [] true]),.box (.agg [.val (.int .u64 (((bV b q).1).local_)),.val (.int .u64 t2.2.2.2.1),.vec 6]),.vec 12 (t2.2.2.2.2.1.map Cpy.v) (ab (λ_=>rfl) t2.2.2.2.2.1),.vec 1 (t2.2.2.2.2.2.map AV.int) (ab (λ_=>rfl) t2.2.2.2.2.2),.box (.agg [.int x1.to,.sl 1 (x1.route.map AV.int) false,.int x1.mode,.int x1.sub,.int x1.set,.int x1.len,.int x1.ttl,.int x1.ent,.int x1.ing,.int x1.proto,.val (.int .u64 x1.bits),.str x1.pay])]⟩
def QY(t:Tpl)(p:Pln)(b:Tbl)(down:List Int)(q:Pkt)(t2:List Cpy×Int×Int×Int×List Cpy×List Int)(x1:Cpy)(t4:List Int×Int):NF:=⟨[(3,.k,.sl 1 (down.map AV.int) false),(5,.k,.ref 0 0),(6,.k,.ref 1 0),(7,.k,.ref 2 0),(9,.k,.ref 3 0),(10,.k,.ref 4 0),(14,.k,.ref 5 0),(15,.k,.vec 7),(17,.k,.ref 8 0),(58,.k,.sl 12 (t2.1.map Cpy.v) false),(59,.k,.int t2.2.1),(60,.k,.int t2.2.2.1),(79,(.s 1),.sl 1 (t4.1.map AV.int) false),(80,.k,.int t4.2),(81,.k,.int 0)],[.box (.agg [.sl 2 (t.rs.map Rtr.v) false,.sl 5 (t.ls.map Lnk.v) false]),.box (.agg [.int p.sub,.int p.len,.sl 2 (p.es.map Edg.v) false]),.box (.agg [.int b.router,.int b.sub,.int b.len,.sl 2 (b.rows.map Rw.v) false]),.box (.agg [.int q.mode,.int q.sub,.int q.set,.int q.len,.int q.ttl,.int q.ent,.int q.ing,.int q.proto,.val (.int .u64 q.bits),.str q.pay]),.box (.agg [.val (.int .u64 0),.val (.int .u64 0),.sl 0 [] true]),.box (.agg [.val (.int .u64 (((bV b q).1).local_)),.val (.int .u64 t2.2.2.2.1),.vec 6]),.vec 12 (t2.2.2.2.2.1.map Cpy.v) (ab (λ_=>rfl) t2.2.2.2.2.1),.vec 1 (t2.2.2.2.2.2.map AV.int) (ab (λ_=>rfl) t2.2.2.2.2.2),.box (.agg [.int x1.to,.sl 1 (x1.route.map AV.int) false,.int x1.mode,.int x1.sub,.int x1.set,.int x1.len,.int x1.ttl,.int x1.ent,.int x1.ing,.int x1.proto,.val (.int .u64 x1.bits),.str x1.pay])]⟩
def QX(t:Tpl)(p:Pln)(b:Tbl)(down:List Int)(q:Pkt)(t2:List Cpy×Int×Int×Int×List Cpy×List Int)(x1:Cpy)(t4:List Int×Int)(t5:Int×Int×List Cpy×List Int):NF:=⟨[(3,.k,.sl 1 (down.map AV.int) false),(5,.k,.ref 0 0),(6,.k,.ref 1 0),(7,.k,.ref 2 0),(9,.k,.ref 3 0),(10,.k,.ref 4 0),(14,.k,.ref 5 0),(15,.k,.vec 7),(17,.k,.ref 8 0),(58,.k,.sl 12 (t2.1.map Cpy.v) false),(59,.k,.int t2.2.1),(60,.k,.int t2.2.2.1),(79,.k,.sl 1 (t4.1.map AV.int) false),(80,.k,.int t4.2),(81,.k,.int t5.1)],[.box (.agg [.sl 2 (t.rs.map Rtr.v) false,.sl 5 (t.ls.map Lnk.v) false]),.box (.agg [.int p.sub,.int p.len,.sl 2 (p.es.map Edg.v) false]),.box (.agg [.int b.router,.int b.sub,.int b.len,.sl 2 (b.rows.map Rw.v) false]),.box (.agg [.int q.mode,.int q.sub,.int q.set,.int q.len,.int q.ttl,.int q.ent,.int q.ing,.int q.proto,.val (.int .u64 q.bits),.str q.pay]),.box (.agg [.val (.int .u64 0),.val (.int .u64 0),.sl 0 [] true]),.box (.agg [.val (.int .u64 (((bV b q).1).local_)),.val (.int .u64 t5.2.1),.vec 6]),.vec 12 (t5.2.2.1.map Cpy.v) (ab (λ_=>rfl) t5.2.2.1),.vec 1 (t5.2.2.2.map AV.int) (ab (λ_=>rfl) t5.2.2.2),.box (.agg [.int x1.to,.sl 1 (x1.route.map AV.int) false,.int x1.mode,.int x1.sub,.int x1.set,.int x1.len,.int x1.ttl,.int x1.ent,.int x1.ing,.int x1.proto,.val (.int .u64 x1.bits),.str x1.pay])]⟩
def QW(t:Tpl)(p:Pln)(b:Tbl)(down:List Int)(q:Pkt)(t2:List Cpy×Int×Int×Int×List Cpy×List Int)(x1:Cpy)(t4:List Int×Int)(t5:Int×Int×List Cpy×List Int)(x2:Int)(t6:Int):NF:=⟨[(3,.k,.sl 1 (down.map AV.int) false),(5,.k,.ref 0 0),(6,.k,.ref 1 0),(7,.k,.ref 2 0),(9,.k,.ref 3 0),(10,.k,.ref 4 0),(14,.k,.ref 5 0),(15,.k,.vec 7),(17,.k,.ref 8 0),(19,.k,.int x2),(20,.k,.int t6),(58,.k,.sl 12 (t2.1.map Cpy.v) false),(59,.k,.int t2.2.1),(60,.k,.int t2.2.2.1),(79,.k,.sl 1 (t4.1.map AV.int) false),(80,.k,.int t4.2),(81,.k,.int t5.1)],[.box (.agg [.sl 2 (t.rs.map Rtr.v) false,.sl 5 (t.ls.map Lnk.v) false]),.box (.agg [.int p.sub,.int p.len,.sl 2 (p.es.map Edg.v) false]),.box (.agg [.int b.router,.int b.sub,.int b.len,.sl 2 (b.rows.map Rw.v) false]),.box (.agg [.int q.mode,.int q.sub,.int q.set,.int q.len,.int q.ttl,.int q.ent,.int q.ing,.int q.proto,.val (.int .u64 q.bits),.str q.pay]),.box (.agg [.val (.int .u64 0),.val (.int .u64 0),.sl 0 [] true]),.box (.agg [.val (.int .u64 (((bV b q).1).local_)),.val (.int .u64 t5.2.1),.vec 6]),.vec 12 (t5.2.2.1.map Cpy.v) (ab (λ_=>rfl) t5.2.2.1),.vec 1 (t5.2.2.2.map AV.int) (ab (λ_=>rfl) t5.2.2.2),.box (.agg [.int x1.to,.sl 1 (x1.route.map AV.int) false,.int x1.mode,.int x1.sub,.int x1.set,.int x1.len,.int x1.ttl,.int x1.ent,.int x1.ing,.int x1.proto,.val (.int .u64 x1.bits),.str x1.pay])]⟩
def QV(t:Tpl)(p:Pln)(b:Tbl)(down:List Int)(q:Pkt)(t2:List Cpy×Int×Int×Int×List Cpy×List Int)(x1:Cpy)(t4:List Int×Int)(t5:Int×Int×List Cpy×List Int)(x2:Int)(t7:List Int×Bool):NF:=⟨[(3,.k,.sl 1 (down.map AV.int) false),(5,.k,.ref 0 0),(6,.k,.ref 1 0),(7,.k,.ref 2 0),(9,.k,.ref 3 0),(10,.k,.ref 4 0),(14,.k,.ref 5 0),(15,.k,.vec 7),(17,.k,.ref 8 0),(19,.k,.int x2),(22,(.s 1),.sl 1 (t7.1.map AV.int) false),(23,.k,.bool t7.2),(58,.k,.sl 12 (t2.1.map Cpy.v) false),(59,.k,.int t2.2.1),(60,.k,.int t2.2.2.1),(79,.k,.sl 1 (t4.1.map AV.int) false),(80,.k,.int t4.2),(81,.k,.int t5.1)],[.box (.agg [.sl 2 (t.rs.map Rtr.v) false,.sl 5 (t.ls.map Lnk.v) false]),.box (.agg [.int p.sub,.int p.len,.sl 2 (p.es.map Edg.v) false]),.box (.agg [.int b.router,.int b.sub,.int b.len,.sl 2 (b.rows.map Rw.v) false]),.box (.agg [.int q.mode,.int q.sub,.int q.set,.int q.len,.int q.ttl,.int q.ent,.int q.ing,.int q.proto,.val (.int .u64 q.bits),.str q.pay]),.box (.agg [.val (.int .u64 0),.val (.int .u64 0),.sl 0 [] true]),.box (.agg [.val (.int .u64 (((bV b q).1).local_)),.val (.int .u64 t5.2.1),.vec 6]),.vec 12 (t5.2.2.1.map Cpy.v) (ab (λ_=>rfl) t5.2.2.1),.vec 1 (t5.2.2.2.map AV.int) (ab (λ_=>rfl) t5.2.2.2),.box (.agg [.int x1.to,.sl 1 (x1.route.map AV.int) false,.int x1.mode,.int x1.sub,.int x1.set,.int x1.len,.int x1.ttl,.int x1.ent,.int x1.ing,.int x1.proto,.val (.int .u64 x1.bits),.str x1.pay])]⟩
def QU(t:Tpl)(p:Pln)(b:Tbl)(down:List Int)(q:Pkt)(t2:List Cpy×Int×Int×Int×List Cpy×List Int)(x1:Cpy)(t4:List Int×Int)(t5:Int×Int×List Cpy×List Int)(x2:Int)(t7:List Int×Bool)(t8:Int×Int):NF:=⟨[(3,.k,.sl 1 (down.map AV.int) false),(5,.k,.ref 0 0),(6,.k,.ref 1 0),(7,.k,.ref 2 0),(9,.k,.ref 3 0),(10,.k,.ref 4 0),(14,.k,.ref 5 0),(15,.k,.vec 7),(17,.k,.ref 8 0),(19,.k,.int x2),(22,.k,.sl 1 (t7.1.map AV.int) false),(58,.k,.sl 12 (t2.1.map Cpy.v) false),(59,.k,.int t2.2.1),(60,.k,.int t2.2.2.1),(79,.k,.sl 1 (t4.1.map AV.int) false),(80,.k,.int t4.2),(81,.k,.int t5.1),(113,.k,.vec 7),(114,.k,.int t8.1),(115,.k,.int t8.2)],[.box (.agg [.sl 2 (t.rs.map Rtr.v) false,.sl 5 (t.ls.map Lnk.v) false]),.box (.agg [.int p.sub,.int p.len,.sl 2 (p.es.map Edg.v) false]),.box (.agg [.int b.router,.int b.sub,.int b.len,.sl 2 (b.rows.map Rw.v) false]),.box (.agg [.int q.mode,.int q.sub,.int q.set,.int q.len,.int q.ttl,.int q.ent,.int q.ing,.int q.proto,.val (.int .u64 q.bits),.str q.pay]),.box (.agg [.val (.int .u64 0),.val (.int .u64 0),.sl 0 [] true]),.box (.agg [.val (.int .u64 (((bV b q).1).local_)),.val (.int .u64 t5.2.1),.vec 6]),.vec 12 (t5.2.2.1.map Cpy.v) (ab (λ_=>rfl) t5.2.2.1),.vec 1 (t5.2.2.2.map AV.int) (ab (λ_=>rfl) t5.2.2.2),.box (.agg [.int x1.to,.sl 1 (x1.route.map AV.int) false,.int x1.mode,.int x1.sub,.int x1.set,.int x1.len,.int x1.ttl,.int x1.ent,.int x1.ing,.int x1.proto,.val (.int .u64 x1.bits),.str x1.pay])]⟩
def QT(t:Tpl)(p:Pln)(b:Tbl)(down:List Int)(q:Pkt)(t2:List Cpy×Int×Int×Int×List Cpy×List Int)(x1:Cpy)(t4:List Int×Int)(t5:Int×Int×List Cpy×List Int)(x2:Int)(t7:List Int×Bool)(t8:Int×Int)(x3:Int)(t9:Bool):NF:=⟨[(3,.k,.sl 1 (down.map AV.int) false),(5,.k,.ref 0 0),(6,.k,.ref 1 0),(7,.k,.ref 2 0),(9,.k,.ref 3 0),(10,.k,.ref 4 0),(14,.k,.ref 5 0),(15,.k,.vec 7),(17,.k,.ref 8 0),(19,.k,.int x2),(22,.k,.sl 1 (t7.1.map AV.int) false),(25,.k,.int x3),(58,.k,.sl 12 (t2.1.map Cpy.v) false),(59,.k,.int t2.2.1),(60,.k,.int t2.2.2.1),(79,.k,.sl 1 (t4.1.map AV.int) false),(80,.k,.int t4.2),(81,.k,.int t5.1),(113,.k,.vec 7),(114,.k,.int t8.1),(115,.k,.int t8.2),(126,.k,.bool t9)],[.box (.agg [.sl 2 (t.rs.map Rtr.v) false,.sl 5 (t.ls.map Lnk.v) false]),.box (.agg [.int p.sub,.int p.len,.sl 2 (p.es.map Edg.v) false]),.box (.agg [.int b.router,.int b.sub,.int b.len,.sl 2 (b.rows.map Rw.v) false]),.box (.agg [.int q.mode,.int q.sub,.int q.set,.int q.len,.int q.ttl,.int q.ent,.int q.ing,.int q.proto,.val (.int .u64 q.bits),.str q.pay]),.box (.agg [.val (.int .u64 0),.val (.int .u64 0),.sl 0 [] true]),.box (.agg [.val (.int .u64 (((bV b q).1).local_)),.val (.int .u64 t5.2.1),.vec 6]),.vec 12 (t5.2.2.1.map Cpy.v) (ab (λ_=>rfl) t5.2.2.1),.vec 1 (t5.2.2.2.map AV.int) (ab (λ_=>rfl) t5.2.2.2),.box (.agg [.int x1.to,.sl 1 (x1.route.map AV.int) false,.int x1.mode,.int x1.sub,.int x1.set,.int x1.len,.int x1.ttl,.int x1.ent,.int x1.ing,.int x1.proto,.val (.int .u64 x1.bits),.str x1.pay])]⟩
@[reducible] def Py:Nat→Type
 | 0=>Int
 | 1=>Bool
 | 2=>(List Cpy)×Int×Int×Int×List Cpy×List Int
 | 3=>Bool
 | 4=>(List Int)×Int
 | 5=>Int×Int×List Cpy×List Int
 | 6=>Int
 | 7=>(List Int)×Bool
 | 8=>Int×Int
 | 9=>Bool
 | _=>Unit
def FN(r:Out×Int):AV:=.tup [Out.v r.1,.int r.2]
def FK(t:Tpl)(p:Pln)(b:Tbl)(down:List Int)(q:Pkt)(I1:Int→Bool→Prop)(I2:Int→Bool→(List Cpy×Int×Int×Int×List Cpy×List Int)→Prop)(m2:Int→Bool→(List Cpy×Int×Int×Int×List Cpy×List Int)→Nat)(I5:Int→Bool→(List Cpy)×Int×Int×Int×List Cpy×List Int→Cpy→Bool→(List Int)×Int→(Int×Int×List Cpy×List Int)→Prop)(m5:Int→Bool→(List Cpy)×Int×Int×Int×List Cpy×List Int→Cpy→Bool→(List Int)×Int→(Int×Int×List Cpy×List Int)→Nat)(I8:Int→Bool→(List Cpy)×Int×Int×Int×List Cpy×List Int→Cpy→Bool→(List Int)×Int→Int×Int×List Cpy×List Int→Int→Int→(List Int)×Bool→(Int×Int)→Prop)(m8:Int→Bool→(List Cpy)×Int×Int×Int×List Cpy×List Int→Cpy→Bool→(List Int)×Int→Int×Int×List Cpy×List Int→Int→Int→(List Int)×Bool→(Int×Int)→Nat):Ax Tryz.prog Py (Out×Int):=
 (.pass (.join 0 (Rc t p b down q) (λ(t0:Int)=>t0=(((bV b q).2):Int)) (λb0=>(.callP (Tn b q)
(.bk 0 b0 (((bV b q).2):Int) [0,16,32,48,64,192]))) λ(t0:Int) =>
(.br 54 (t0 != 0) (.ret ((⟨0,0,[]⟩:Out),t0))
(.join 1 (Rb t p b down q) (λ(t1:Bool)=>I1 t0 t1) (λb1=>(.callP (rh t)
(.br 118 ((aB t) != 0) (.bk 1 b1 ((true):Bool) [0,1,2,3,4,5])
(.callP (Ad p)
(.bk 1 b1 ((!(bd p)):Bool) [0,1,2,3,4,5]))))) λ(t1:Bool) =>
(.br 6 t1 (.ret ((⟨0,0,[]⟩:Out),1))
(.callP (Ju t)
(.br 70 (!(kM t)) (.ret ((⟨0,0,[]⟩:Out),26))
(.cmdL (.nilB 150 2 12) (.cmdL (.nilT 15 1) (.loop 2 (Ra t p b down q) (I2 t0 t1) (m2 t0 t1) (((bV b q).1).copies,(((((bV b q).1).copies).map Cpy.v).length:Int),0,((bV b q).1).lost,[],[]) [0,1,2,3,4,150,262,263] λ(t2:List Cpy×Int×Int×Int×List Cpy×List Int) b2 =>
(.br 24 (decide (t2.2.2.1<t2.2.1)) (.el 24 Cpy.v t2.1 (λR=>Rf (t2.1.map Cpy.v) (ck (decide (0≤t2.2.2.1)) (ck (decide (t2.2.2.1<(t2.1.length:Int)))
(∀x1,t2.1[t2.2.2.1.toNat]?=some x1 →
(R x1))))) λx1 =>
(.pass (.join 3 (QZ t p b down q t2 x1) (λ(t3:Bool)=>t3=((!(decide (x1.to∈down))):Bool)) (λb3=>(.callP (jA down x1.to)
(.bk 3 b3 ((!(decide (x1.to∈down))):Bool) [0,1,2,3,4,5,6,7,56]))) λ(t3:Bool) =>
(.br 9 t3 (.say (λR=>Rf (α:=List AV) (t2.2.2.2.2.1.map Cpy.v) (Rf (α:=List AV) [.agg [.int x1.to,.sl 1 (x1.route.map AV.int) false,.int x1.mode,.int x1.sub,.int x1.set,.int x1.len,.int x1.ttl,.int x1.ent,.int x1.ing,.int x1.proto,.val (.int .u64 x1.bits),.str x1.pay]]
(ck (decide (t2.2.2.2.2.1.length+1≤1048576))
R))) (.app 73 Cpy.v t2.2.2.2.2.1 [x1]
(.bk 2 b2 (t2.1,t2.2.1,W (t2.2.2.1+1),t2.2.2.2.1,t2.2.2.2.2.1++[x1],t2.2.2.2.2.2) [0,1,2,3,4,5,73,7])))
(.pass (.join 4 (QY t p b down q t2 x1) (λ(t4:List Int×Int)=>t4=((bG x1.bits,(((bG x1.bits).map AV.int).length:Int)):List Int×Int)) (λb4=>(.callP (S0 x1.bits)
(.bk 4 b4 (bG x1.bits,(((bG x1.bits).map AV.int).length:Int)) [0,1,2,3,4,5,6,7,8]))) λ(t4:List Int×Int) =>
(.loop 5 (QX t p b down q t2 x1 t4) (I5 t0 t1 t2 x1 t3 t4) (m5 t0 t1 t2 x1 t3 t4) (0,t2.2.2.2.1,t2.2.2.2.2.1,t2.2.2.2.2.2) [0,1,2,3,4,5,6,7,8] λ(t5:Int×Int×List Cpy×List Int) b5 =>
(.br 25 (decide (t5.1<t4.2)) (.el 25 AV.int t4.1 (λR=>Rf (t4.1.map AV.int) (ck (decide (0≤t5.1)) (ck (decide (t5.1<(t4.1.length:Int)))
(∀x2,t4.1[t5.1.toNat]?=some x2 →
(R x2))))) λx2 =>
(.join 6 (QW t p b down q t2 x1 t4 t5 x2) (λ(t6:Int)=>t6=(((atT q.set x2 q.len).1):Int)) (λb6=>(.callP (PK q.set x2 q.len)
(.bk 6 b6 (((atT q.set x2 q.len).1):Int) [0,1,2,3,4,5,6,7,8]))) λ(t6:Int) =>
(.join 7 (QV t p b down q t2 x1 t4 t5 x2) (λ(t7:List Int×Bool)=>t7=(((cQ t p b.router x1.to t6).1,(cQ t p b.router x1.to t6).2):List Int×Bool)) (λb7=>(.callP (yz t p b.router x1.to t6)
(.bk 7 b7 ((cQ t p b.router x1.to t6).1,(cQ t p b.router x1.to t6).2) [0,1,2,3,4,5,6,7,8]))) λ(t7:List Int×Bool) =>
(.br 41 (!t7.2) (.say (ck (decide (0≤x2))) (.bk 5 b5 (W (t5.1+1),bOr .u64 t5.2.1 (gX .u64 1 x2),t5.2.2.1,t5.2.2.2) [0,1,2,3,4,5,6,7,8]))
(.loop 8 (QU t p b down q t2 x1 t4 t5 x2 t7) (I8 t0 t1 t2 x1 t3 t4 t5 x2 t6 t7) (m8 t0 t1 t2 x1 t3 t4 t5 x2 t6 t7) (((t5.2.2.2.map AV.int).length:Int),0) [0,1,2,3,4,5,6,7,8] λ(t8:Int×Int) b8 =>
(.br 25 (decide (t8.2<t8.1)) (.say (ck (cond (decide (0≤t8.2)) (decide (t8.2<((t5.2.2.2.map AV.int).length:Int))) false)) (.el 41 AV.int t5.2.2.2 (λR=>Rf (t5.2.2.2.map AV.int) (ck (decide (t8.2.toNat<t5.2.2.2.length))
(∀x3,t5.2.2.2[t8.2.toNat]?=some x3 →
(R x3)))) λx3 =>
(.join 9 (QT t p b down q t2 x1 t4 t5 x2 t7 t8 x3) (λ(t9:Bool)=>(∃x4':Cpy,t5.2.2.1[x3.toNat]?=some x4'∧t9=((EqI (whl x4') t7.1):Bool))) (λb9=>(.say (ck (cond (decide (0≤x3)) (decide (x3<((t5.2.2.1.map Cpy.v).length:Int))) false)) (.el 137 Cpy.v t5.2.2.1 (λR=>Rf (t5.2.2.1.map Cpy.v) (ck (decide (x3.toNat<t5.2.2.1.length))
(∀x4,t5.2.2.1[x3.toNat]?=some x4 →
(R x4)))) λx4 =>
(.req 153 (x4.route.length≤1000) λh5 =>
(.callP (whl_c x4 h5)
(.callP (EqI_c (whl x4) t7.1)
(.bk 9 b9 ((EqI (whl x4) t7.1):Bool) [0,1,2,3,4,5,6,7,8]))))))) λ(t9:Bool) =>
(.br 9 t9 (.say (ck (cond (decide (0≤x3)) (decide (x3<((t5.2.2.1.map Cpy.v).length:Int))) false)) (.el 121 Cpy.v t5.2.2.1 (λR=>Rf (t5.2.2.1.map Cpy.v) (ck (decide (x3.toNat<t5.2.2.1.length))
(∀x6,t5.2.2.1[x3.toNat]?=some x6 →
(R x6)))) λx6 =>
(.say (λR=>ck (decide (0≤x2))
((ck (cond (decide (0≤x3)) (decide (x3<((t5.2.2.1.map Cpy.v).length:Int))) false)
R))) (.st 249 Cpy.v t5.2.2.1 (λy7=>(⟨y7.to,y7.route,y7.mode,y7.sub,y7.set,y7.len,y7.ttl,y7.ent,y7.ing,y7.proto,bOr .u64 x6.bits (gX .u64 1 x2),y7.pay⟩:Cpy)) (λR=>Rf (t5.2.2.1.map Cpy.v) (ck (decide (x3.toNat<t5.2.2.1.length))
(∀y7,t5.2.2.1[x3.toNat]?=some y7→Rf (Cpy.v (⟨y7.to,y7.route,y7.mode,y7.sub,y7.set,y7.len,y7.ttl,y7.ent,y7.ing,y7.proto,bOr .u64 x6.bits (gX .u64 1 x2),y7.pay⟩:Cpy))
((R y7))))) λy7 =>
(.bk 5 b5 (W (t5.1+1),t5.2.1,t5.2.2.1.set x3.toNat (⟨y7.to,y7.route,y7.mode,y7.sub,y7.set,y7.len,y7.ttl,y7.ent,y7.ing,y7.proto,bOr .u64 x6.bits (gX .u64 1 x2),y7.pay⟩:Cpy),t5.2.2.2) [0,1,2,3,4,5,6,7,8])))))
(.bk 8 b8 (t8.1,W (t8.2+1)) [0,1,2,3,4,5,6,7,8])))))
(.say (λR=>Rf (α:=List AV) (t5.2.2.2.map AV.int) (Rf (α:=List AV) [.int ((t5.2.2.1.map Cpy.v).length:Int)]
(ck (decide (t5.2.2.2.length+1≤1048576))
R))) (.app 105 AV.int t5.2.2.2 [((t5.2.2.1.map Cpy.v).length:Int)]
(.el 185 AV.int t7.1 (λR=>Rf (t7.1.map AV.int) (ck (decide (0<(t7.1.length:Int)))
(∀x8,t7.1[0]?=some x8 →
(R x8)))) λx8 =>
(.say (λR=>Rf (α:=List AV) (t7.1.map AV.int) (ck (dD t7.1.length 1 (t7.1.length:Int) (t7.1.length:Int))
R)) (.sub 233 AV.int t7.1 false
(.callP (RH (⟨x1.mode,x1.sub,x1.set,x1.len,x1.ttl,x1.ent,x1.ing,x1.proto,x1.bits,x1.pay⟩:Pkt) x2)
(.say (λR=>Rf (α:=List AV) (t5.2.2.1.map Cpy.v) (Rf (α:=List AV) [.agg [.int x8,.sl 1 (((t7.1.take ((t7.1.length:Int).toNat)).drop 1).map AV.int) false,.int ((cW (⟨x1.mode,x1.sub,x1.set,x1.len,x1.ttl,x1.ent,x1.ing,x1.proto,x1.bits,x1.pay⟩:Pkt) x2).mode),.int ((cW (⟨x1.mode,x1.sub,x1.set,x1.len,x1.ttl,x1.ent,x1.ing,x1.proto,x1.bits,x1.pay⟩:Pkt) x2).sub),.int ((cW (⟨x1.mode,x1.sub,x1.set,x1.len,x1.ttl,x1.ent,x1.ing,x1.proto,x1.bits,x1.pay⟩:Pkt) x2).set),.int ((cW (⟨x1.mode,x1.sub,x1.set,x1.len,x1.ttl,x1.ent,x1.ing,x1.proto,x1.bits,x1.pay⟩:Pkt) x2).len),.int ((cW (⟨x1.mode,x1.sub,x1.set,x1.len,x1.ttl,x1.ent,x1.ing,x1.proto,x1.bits,x1.pay⟩:Pkt) x2).ttl),.int ((cW (⟨x1.mode,x1.sub,x1.set,x1.len,x1.ttl,x1.ent,x1.ing,x1.proto,x1.bits,x1.pay⟩:Pkt) x2).ent),.int ((cW (⟨x1.mode,x1.sub,x1.set,x1.len,x1.ttl,x1.ent,x1.ing,x1.proto,x1.bits,x1.pay⟩:Pkt) x2).ing),.int ((cW (⟨x1.mode,x1.sub,x1.set,x1.len,x1.ttl,x1.ent,x1.ing,x1.proto,x1.bits,x1.pay⟩:Pkt) x2).proto),.val (.int .u64 ((cW (⟨x1.mode,x1.sub,x1.set,x1.len,x1.ttl,x1.ent,x1.ing,x1.proto,x1.bits,x1.pay⟩:Pkt) x2).bits)),.str ((cW (⟨x1.mode,x1.sub,x1.set,x1.len,x1.ttl,x1.ent,x1.ing,x1.proto,x1.bits,x1.pay⟩:Pkt) x2).pay)]]
(ck (decide (t5.2.2.1.length+1≤1048576))
R))) (.app 377 Cpy.v t5.2.2.1 [(⟨x8,(t7.1.take ((t7.1.length:Int).toNat)).drop 1,(cW (⟨x1.mode,x1.sub,x1.set,x1.len,x1.ttl,x1.ent,x1.ing,x1.proto,x1.bits,x1.pay⟩:Pkt) x2).mode,(cW (⟨x1.mode,x1.sub,x1.set,x1.len,x1.ttl,x1.ent,x1.ing,x1.proto,x1.bits,x1.pay⟩:Pkt) x2).sub,(cW (⟨x1.mode,x1.sub,x1.set,x1.len,x1.ttl,x1.ent,x1.ing,x1.proto,x1.bits,x1.pay⟩:Pkt) x2).set,(cW (⟨x1.mode,x1.sub,x1.set,x1.len,x1.ttl,x1.ent,x1.ing,x1.proto,x1.bits,x1.pay⟩:Pkt) x2).len,(cW (⟨x1.mode,x1.sub,x1.set,x1.len,x1.ttl,x1.ent,x1.ing,x1.proto,x1.bits,x1.pay⟩:Pkt) x2).ttl,(cW (⟨x1.mode,x1.sub,x1.set,x1.len,x1.ttl,x1.ent,x1.ing,x1.proto,x1.bits,x1.pay⟩:Pkt) x2).ent,(cW (⟨x1.mode,x1.sub,x1.set,x1.len,x1.ttl,x1.ent,x1.ing,x1.proto,x1.bits,x1.pay⟩:Pkt) x2).ing,(cW (⟨x1.mode,x1.sub,x1.set,x1.len,x1.ttl,x1.ent,x1.ing,x1.proto,x1.bits,x1.pay⟩:Pkt) x2).proto,(cW (⟨x1.mode,x1.sub,x1.set,x1.len,x1.ttl,x1.ent,x1.ing,x1.proto,x1.bits,x1.pay⟩:Pkt) x2).bits,(cW (⟨x1.mode,x1.sub,x1.set,x1.len,x1.ttl,x1.ent,x1.ing,x1.proto,x1.bits,x1.pay⟩:Pkt) x2).pay⟩:Cpy)]
(.bk 5 b5 (W (t5.1+1),t5.2.1,t5.2.2.1++[(⟨x8,(t7.1.take ((t7.1.length:Int).toNat)).drop 1,(cW (⟨x1.mode,x1.sub,x1.set,x1.len,x1.ttl,x1.ent,x1.ing,x1.proto,x1.bits,x1.pay⟩:Pkt) x2).mode,(cW (⟨x1.mode,x1.sub,x1.set,x1.len,x1.ttl,x1.ent,x1.ing,x1.proto,x1.bits,x1.pay⟩:Pkt) x2).sub,(cW (⟨x1.mode,x1.sub,x1.set,x1.len,x1.ttl,x1.ent,x1.ing,x1.proto,x1.bits,x1.pay⟩:Pkt) x2).set,(cW (⟨x1.mode,x1.sub,x1.set,x1.len,x1.ttl,x1.ent,x1.ing,x1.proto,x1.bits,x1.pay⟩:Pkt) x2).len,(cW (⟨x1.mode,x1.sub,x1.set,x1.len,x1.ttl,x1.ent,x1.ing,x1.proto,x1.bits,x1.pay⟩:Pkt) x2).ttl,(cW (⟨x1.mode,x1.sub,x1.set,x1.len,x1.ttl,x1.ent,x1.ing,x1.proto,x1.bits,x1.pay⟩:Pkt) x2).ent,(cW (⟨x1.mode,x1.sub,x1.set,x1.len,x1.ttl,x1.ent,x1.ing,x1.proto,x1.bits,x1.pay⟩:Pkt) x2).ing,(cW (⟨x1.mode,x1.sub,x1.set,x1.len,x1.ttl,x1.ent,x1.ing,x1.proto,x1.bits,x1.pay⟩:Pkt) x2).proto,(cW (⟨x1.mode,x1.sub,x1.set,x1.len,x1.ttl,x1.ent,x1.ing,x1.proto,x1.bits,x1.pay⟩:Pkt) x2).bits,(cW (⟨x1.mode,x1.sub,x1.set,x1.len,x1.ttl,x1.ent,x1.ing,x1.proto,x1.bits,x1.pay⟩:Pkt) x2).pay⟩:Cpy)],t5.2.2.2++[((t5.2.2.1.map Cpy.v).length:Int)]) [0,1,2,3,4,5,377,105,8])))))))))))))))
(.bk 2 b2 (t2.1,t2.2.1,W (t2.2.2.1+1),t5.2.1,t5.2.2.1,t5.2.2.2) [0,1,2,3,4,5,6,7])))))))))
(.say (Rf (t2.2.2.2.2.1.map Cpy.v)) (.cmdL (.frzE 6 (t2.2.2.2.2.1.map Cpy.v) (ab (λ_=>rfl) t2.2.2.2.2.1)) (.ret ((⟨((bV b q).1).local_,t2.2.2.2.1,t2.2.2.2.2.1⟩:Out),0)))))))))))))))
def FL(t:Tpl)(p:Pln)(b:Tbl)(down:List Int)(q:Pkt)(I1:Int→Bool→Prop)(I2:Int→Bool→(List Cpy×Int×Int×Int×List Cpy×List Int)→Prop)(m2:Int→Bool→(List Cpy×Int×Int×Int×List Cpy×List Int)→Nat)(I5:Int→Bool→(List Cpy)×Int×Int×Int×List Cpy×List Int→Cpy→Bool→(List Int)×Int→(Int×Int×List Cpy×List Int)→Prop)(m5:Int→Bool→(List Cpy)×Int×Int×Int×List Cpy×List Int→Cpy→Bool→(List Int)×Int→(Int×Int×List Cpy×List Int)→Nat)(I8:Int→Bool→(List Cpy)×Int×Int×Int×List Cpy×List Int→Cpy→Bool→(List Int)×Int→Int×Int×List Cpy×List Int→Int→Int→(List Int)×Bool→(Int×Int)→Prop)(m8:Int→Bool→(List Cpy)×Int×Int×Int×List Cpy×List Int→Cpy→Bool→(List Int)×Int→Int×Int×List Cpy×List Int→Int→Int→(List Int)×Bool→(Int×Int)→Nat)(r0:Out×Int):=(FK t p b down q I1 I2 m2 I5 m5 I8 m8).vp FN r0
theorem ppk_p(t:Tpl)(p:Pln)(b:Tbl)(down:List Int)(q:Pkt)(ok:ppk_a t p b down q):∃I1 I2 m2 I5 m5 I8 m8,FL t p b down q I1 I2 m2 I5 m5 I8 m8 (jp t p b down q):=by
 refine⟨λ_ u=>u=decide (aB t≠0∨bd p=false),λ_ _ s=>∃mk,PkO t p b down q s mk,
  λ_ _ s=>(bV b q).1.copies.length-s.2.2.1.toNat,
  λ_ _ s x _ l u=>∃mk0 mk,PkB t p b down q s x l.1 u mk0 mk,
  λ_ _ s x _ l u=>l.1.length-u.1.toNat,
  λ_ _ s x _ l u k _ d v=>v.1=(u.2.2.2.length:Int)∧aG u.2.2.2 (λj=>∀c,u.2.2.1[j.toNat]?=some c→whl c≠d.1) v.2,λ_ _ s x _ l u k _ d v=>u.2.2.2.length-v.2.toNat,?_⟩
 have hb:0≤q.bits∧q.bits<18446744073709551616:=ib ok.2.2.2.2.1
 have hcl:=Cc (b:=b) (p:=q)
 have hco:=Tl (b:=b) hb
 dsimp only[FL,FK,Py,Ax.vp,Ax.vc];simp only[vcU,rfU,List.length_map]
 unfold jp
 refine⟨trivial,?_⟩
 rintro _ rfl
 refine⟨λc=>by rw[if_pos (by simpa using c)],λc=>?_⟩
 rw[if_neg (by simpa using c)]
 refine⟨⟨λd=>?_,λd=>?_⟩,?_⟩
 ·have d:aB t≠0:=by simpa using d
  simp[d]
 ·have d:aB t=0:=by simpa using d
  cases bd p<;>simp[d]
 rintro _ rfl
 refine⟨λd=>by rw[if_pos (of_decide_eq_true d)],λd=>?_⟩
 rw[if_neg (of_decide_eq_false d)]
 refine⟨λe=>by rw[if_pos (by simpa using e)],λe=>?_⟩
 rw[if_neg (by simpa using e)]
 unfold DL
 refine⟨⟨[],rfl,rfl,rfl,dW.zero,GI.nil,by simp⟩,?_⟩
 rintro⟨cps,n,i,lost,cs,det⟩ ⟨mk,h1,h2,h3,hG,hI,hL⟩
 simp only at h1 h2 h3 hG hI hL ⊢
 subst h1;subst h2;subst h3
 refine⟨λc1=>⟨hG.idx,c1,λx hx=>⟨trivial,?_⟩⟩,λc1=>?_⟩
 ·have hlt:=ap hx
  have hxo:=hco x (bq hx)
  rintro _ rfl
  refine⟨λe1=>?_,λe1=>⟨trivial,?_⟩⟩
  ·have e1:x.to ∉ down:=by simpa using e1
   have hs:(lost,mk++[false],cs++[x])=gC t p b.router down q (lost,mk,cs) x:=by unfold gC;rw[if_neg e1]
   obtain⟨a1,a2,a3⟩:=hG.next (by omega) hx hs
   have hc:=hI.copy (t:=t) (p:=p) (rt:=b.router) (q:=q) (x:=x) (down:=down)
   rw[←hs]at hc
   simp only at hc
   exact⟨by omega,⟨mk++[false],rfl,rfl,by simp only;rw[nT];rfl,a1,hc.1,by simp only;rw[a3];omega⟩,a2⟩
  ·have e1:x.to∈down:=by simpa using e1
   rintro _ rfl
   have hbl:=jF x.bits
   refine⟨⟨mk,mk,⟨rfl,rfl,rfl,hG,hI,hL⟩,rfl,dW.zero,hI,by simp;omega⟩,?_⟩
   rintro⟨i2,lost2,cs2,det2⟩ ⟨mk0,mk2,⟨o1,o2,o3,oG,oI,oL⟩,hd2,hG2,hI2,hL2⟩
   simp only at o3 oG oI oL hd2 hG2 hI2 hL2 ⊢
   subst hd2
   refine⟨λc2=>⟨hG2.idx,c2,λk hk=>⟨trivial,?_⟩⟩,λc2=>?_⟩
   ·have hkb:=mO (bq hk)
    have hlt2:=ap hk
    have hsh:gX .u64 1 k=bB k:=by rw[bB,if_neg (by omega)]
    rw[hsh]
    rintro _ rfl
    refine⟨trivial,?_⟩
    rintro _ rfl
    simp only
    refine⟨λe2=>⟨hkb.1,?_⟩,λe2=>⟨⟨trivial,aG.zero⟩,?_⟩⟩
    ·have hs:(bOr .u64 lost2 (bB k),mk2,cs2)=gS t p b.router q x (lost2,mk2,cs2) k:=by rw[HU ((Bool.not_eq_true' _).mp e2)]
     obtain⟨a1,a2,a3⟩:=hG2.next (by omega) hk hs
     have hc:=hI2.step (t:=t) (p:=p) (rt:=b.router) (q:=q) (x:=x) (k:=k)
     rw[←hs]at hc
     simp only at hc
     exact⟨⟨mk0,mk2,⟨o1,o2,o3,oG,oI,oL⟩,rfl,a1,hc.1,by simp only;rw[a3];omega⟩,a2⟩
    have e2:(bK t p b.router q x k).2=true:=(Bool.not_eq_false' _).mp e2
    have hpos:=qG e2
    have hle2:=hI2.le
    simp only at hle2
    have hdl:(nh mk2).length≤70000:=by
     unfold nh
     rw[List.length_map]
     refine Nat.le_trans (List.length_filter_le _ _) ?_
     rw[List.length_range];omega
    rintro⟨n3,j3⟩ ⟨hn3,h3⟩
    simp only at hn3 h3 ⊢
    subst hn3
    refine⟨λc3=>⟨bA h3.idx c3,by have:=h3.idx;omega,λy hy=>?_⟩,λc3=>⟨by omega,?_⟩⟩
    ·obtain⟨j,rfl,hj⟩:=uf.mp (bq hy)
     have hjl:j<cs2.length:=by have:=ap hj;omega
     have hcj:=List.getElem?_eq_getElem hjl
     simp only[Int.toNat_natCast]
     refine⟨⟨bA (by omega) (by omega),hjl,λc hc=>⟨?_,c,hc,rfl⟩⟩,λu hu=>⟨λeu=>⟨bA (by omega) (by omega),hjl,λc hc=>⟨hkb.1,bA (by omega) (by omega),hjl,λc' hc'=>?_⟩⟩,λeu=>?_⟩⟩
     ·have:=hI2.ro j c hj hc;omega
     ·rw[hc]at hc';cases hc'
      obtain⟨c4,h4,h5⟩:=hu
      rw[hc]at h4;cases h4
      rw[eu]at h5
      have h5:whl c=(bK t p b.router q x k).1:=of_decide_eq_true (show decide (whl c=(bK t p b.router q x k).1)=true from h5.symm)
      have ht:dV (bK t p b.router q x k).1 mk2 cs2 j=true:=il.mpr ⟨hj,c,hc,h5⟩
      have hs:(lost2,mk2,cs2.set j (HV c (bB k)))=gS t p b.router q x (lost2,mk2,cs2) k:=by
       rw[xT hI2 e2 ht];unfold mo;simp only;rw[hc]
      obtain⟨a1,a2,a3⟩:=hG2.next (by omega) hk hs
      have hq:=hI2.step (t:=t) (p:=p) (rt:=b.router) (q:=q) (x:=x) (k:=k)
      rw[←hs]at hq
      exact⟨⟨mk0,mk2,⟨o1,o2,o3,oG,oI,oL⟩,rfl,a1,hq.1,by simp only;rw[a3,List.length_set];omega⟩,a2⟩
     ·obtain⟨c4,h4,h5⟩:=hu
      have hn:whl c4≠(cQ t p b.router x.to (atT q.set k q.len).1).1:=λz=>by
       have hz:EqI (whl c4) (cQ t p b.router x.to (atT q.set k q.len).1).1=true:=decide_eq_true z
       rw[eu,hz]at h5;cases h5
      have:=h3.step (by omega) hy λc hc=>by
       rw[Int.toNat_natCast,h4]at hc;cases hc;exact hn
      exact⟨⟨trivial,this.1⟩,this.2⟩
    ·have hp0:0<(bK t p b.router q x k).1.length:=hpos
     refine⟨by omega,λr0 hr0=>⟨by simp[dD];omega,by omega,?_⟩⟩
     have hn:∀j,j<cs2.length→dV (bK t p b.router q x k).1 mk2 cs2 j=false:=λj hj=>by
      cases z:dV (bK t p b.router q x k).1 mk2 cs2 j
      ·rfl
      ·obtain⟨z1,c,z2,z3⟩:=il.mp z
       exact absurd z3 (h3.done c3 (j:Int) (uf.mpr ⟨j,rfl,z1⟩) c (by rw[Int.toNat_natCast];exact z2))
     have honl:=RF hxo (bq hk)
     unfold Cpy.pk at honl
     have hdt:List.drop 1 (List.take (((cQ t p b.router x.to (atT q.set k q.len).1).1.length:Int)).toNat (cQ t p b.router x.to (atT q.set k q.len).1).1)=(bK t p b.router q x k).1.drop 1:=by rw[Int.toNat_natCast,List.take_length];rfl
     have hr1:(bK t p b.router q x k).1.headD 0=r0:=by
      have h0:(bK t p b.router q x k).1[0]?=some r0:=hr0
      cases hr:(bK t p b.router q x k).1 with
      | nil=>rw[hr]at h0;cases h0
      | cons a l=>rw[hr]at h0;cases h0;rfl
     rw[honl,hdt]
     have hs:(lost2,mk2++[true],cs2++[qn x (bK t p b.router q x k).1 (bB k)])=gS t p b.router q x (lost2,mk2,cs2) k:=by rw[xS e2 hn]
     obtain⟨a1,a2,a3⟩:=hG2.next (by omega) hk hs
     have hq:=hI2.step (t:=t) (p:=p) (rt:=b.router) (q:=q) (x:=x) (k:=k)
     rw[←hs]at hq
     have hg:qn x (bK t p b.router q x k).1 (bB k)=⟨r0,(bK t p b.router q x k).1.drop 1,x.mode,x.sub,x.set,x.len,x.ttl,x.ent,x.ing,x.proto,bB k,x.pay⟩:=by unfold qn;rw[hr1]
     rw[hg]at a1 hq
     exact⟨⟨mk0,mk2++[true],⟨o1,o2,o3,oG,oI,oL⟩,by simp only;rw[nT,if_pos rfl,hle2],a1,hq.1,by have:=hq.2;simp only at this ⊢;rw[a3];omega⟩,a2⟩
   ·have hfin:=hG2.done c2
    have hs:(lost2,mk2,cs2)=gC t p b.router down q (lost,mk0,cs) x:=by unfold gC;rw[if_pos e1,hfin]
    obtain⟨a1,a2,a3⟩:=oG.next (by omega) hx hs
    have hc:=oI.copy (t:=t) (p:=p) (rt:=b.router) (q:=q) (x:=x) (down:=down)
    rw[←hs]at hc
    simp only at hc
    exact⟨⟨mk2,rfl,rfl,rfl,a1,hc.1,by simp only;rw[a3];omega⟩,a2⟩
 ·have:=hG.done c1
  rw[←this]
def ppk_c(t:Tpl)(p:Pln)(b:Tbl)(down:List Int)(q:Pkt):PC Tryz.prog:=⟨14,[(.a [(.s 2),(.s 5)]),(.a [.k,.k,(.s 2)]),(.a [.k,.k,.k,(.s 2)]),(.s 1),.k],[.agg [.sl 2 (t.rs.map Rtr.v) false,.sl 5 (t.ls.map Lnk.v) false],.agg [.int p.sub,.int p.len,.sl 2 (p.es.map Edg.v) false],.agg [.int b.router,.int b.sub,.int b.len,.sl 2 (b.rows.map Rw.v) false],.sl 1 (down.map AV.int) false,.agg [.int q.mode,.int q.sub,.int q.set,.int q.len,.int q.ttl,.int q.ent,.int q.ing,.int q.proto,.val (.int .u64 q.bits),.str q.pay]],FN (jp t p b down q),ao.of_ok λok=>(ppk_p t p b down q ok).elim λI1 h=>h.elim λI2 h=>h.elim λm2 h=>h.elim λI5 h=>h.elim λm5 h=>h.elim λI8 h=>h.elim λm8 h=>aj (sh:=(.a [(.a [.k,.k,(.s 12)]),.k])) (enc:=FN) (a:=(FK t p b down q I1 I2 m2 I5 m5 I8 m8).an) h (by kernel_rfl) (AV.pureB_ok rfl),ah (by kernel_rfl)⟩
def bts0(L:List Int)(p:Nat):Int:=bXor .u64 (IntKind.u64.wrap (IntKind.u64.wrap (ak L p) * 11400714819323198485)) (IntKind.u64.wrap (ak L (ae L p)))
def bts1(L:List Int)(p:Nat)(b len:Int):Int×Nat:=
 if Mod (ak L p) 6=0 then(0,ae L p)else if Mod (ak L p) 6=1 then(bB (Mod (ak L (ae L p)) len),ae L (ae L p))
 else if Mod (ak L p) 6=2 then(18446744073709551615,ae L p)else(b,ae L p)
def OQ(L:List Int)(p:Nat)(len:Int):Int×Nat:=bts1 L (ae L (ae L p)) (bts0 L p) len
def iV(L:List Int)(p:Nat)(len:Int):Int×Nat:=(dF .u64 (OQ L p len).1 (eN len),(OQ L p len).2)
def J4(L:List Int)(p:Nat)(length:Int):=okL [.ref 0 0,.int length]∧(.box (.agg [.sl 1 (L.map AV.int) false,.int p]):Blk).ok
def OR(L:List Int)(length:Int)(t0:Int×Nat):NF:=⟨[(1,.k,.int length),(5,.k,.val (.int .u64 t0.1))],[.box (.agg [.sl 1 (L.map AV.int) false,.int t0.2])]⟩
@[reducible] def J2:Nat→Type
 | 0=>Int×Nat
 | _=>Unit
def rq(r:Tap×Int):AV:=.val (.int .u64 r.2)
def rr(r:Tap×Int):List (Option Blk):=[some (.box (.agg [.sl 1 (r.1.L.map AV.int) false,.int r.1.p]))]
def zD(L:List Int)(p:Nat)(length:Int)(I0:(Int×Nat)→Prop):Ax Tryz.prog J2 (Tap×Int):=
 (.callH [0] (vN L p) 33
(.callH [0] (vN L (ae L p)) 97
(.join 0 (OR L length) (λ(t0:Int×Nat)=>I0 t0) (λb0=>(.callH [0] (bv L (ae L (ae L p)) 6) 177
(.br 225 ((Mod (ak L (ae L (ae L p))) 6)==0) (.bk 0 b0 (0,ae L (ae L (ae L p))) [0])
(.br 257 ((Mod (ak L (ae L (ae L p))) 6)==1) (.callH [0] (bv L (ae L (ae L (ae L p))) length) 289
(.callP (iW (Mod (ak L (ae L (ae L (ae L p)))) length))
(.bk 0 b0 (bB (Mod (ak L (ae L (ae L (ae L p)))) length),ae L (ae L (ae L (ae L p)))) [0])))
(.br 289 ((Mod (ak L (ae L (ae L p))) 6)==2) (.bk 0 b0 (18446744073709551615,ae L (ae L (ae L p))) [0])
(.bk 0 b0 (bXor .u64 (IntKind.u64.wrap ((IntKind.u64.wrap (ak L p)) * 11400714819323198485)) (IntKind.u64.wrap (ak L (ae L p))),ae L (ae L (ae L p))) [0])))))) λ(t0:Int×Nat) =>
(.callP (Cj length)
(.retH ((⟨L,t0.2⟩:Tap),dF .u64 t0.1 (eN length)) ⟨[(4,.k,.val (.int .u64 (dF .u64 t0.1 (eN length))))],[.box (.agg [.sl 1 (L.map AV.int) false,.int t0.2])]⟩ [0])))))
def Db(L:List Int)(p:Nat)(length:Int)(I0:(Int×Nat)→Prop)(r0:Tap×Int):=(zD L p length I0).vc rq rr r0
theorem UC(L:List Int)(p:Nat)(len:Int)(ok:J4 L p len):∃I0,Db L p len I0 ((⟨L,(iV L p len).2⟩:Tap),(iV L p len).1):=by
 refine⟨λs=>s=OQ L p len,?_⟩
 dsimp only[Db,zD,J2,Ax.vp,Ax.vc];simp only[vcU,rfU,List.length_map]
 unfold iV OQ bts1
 refine⟨⟨λa=>by rw[if_pos (eq_of_beq a)],λa=>?_⟩,?_⟩
 ·rw[if_neg (by simpa using a)]
  refine⟨λc=>by rw[if_pos (eq_of_beq c)],λc=>?_⟩
  rw[if_neg (by simpa using c)]
  exact⟨λd=>by rw[if_pos (eq_of_beq d)],λd=>by rw[if_neg (by simpa using d)];rfl⟩
 ·rintro _ rfl;rfl
def J3(L:List Int)(p:Nat)(length:Int):HC Tryz.prog:=⟨37,[.k,.k],[.ref 0 0,.int length],[.box (.agg [.sl 1 (L.map AV.int) false,.int p])],rq ((⟨L,(iV L p length).2⟩:Tap),(iV L p length).1),rr ((⟨L,(iV L p length).2⟩:Tap),(iV L p length).1),bc.of_okh λok ok2=>have ok:J4 L p length:=⟨ok,ok2 _ (by simp)⟩;(UC L p length ok).elim λI0 h=>cq (sh:=.k) (enc:=rq) (hB:=rr) (a:=(zD L p length I0).an) h (by kernel_rfl),ah (by kernel_rfl),eT.of (by simp[hcB,cC,AV.belB,allB,ew,dH,rq,rr,ab (v:=AV.int) (λ_=>rfl)])⟩
def EN(L:List Int):Nat→Nat→List Int→List Int×Nat
 | 0,q,o=>(o,q)
 | n+1,q,o=>EN L n (ae L q) (o++[IntKind.u8.wrap (Mod (ak L q) 256)])
def Qs(L:List Int)(p:Nat)(m:Int):List Int×Nat:=EN L (rng L p 0 m).toNat (ae L p) []
def jJ(L:List Int)(p:Nat)(m:Int):ByteArray×Nat:=(B8 (Qs L p m).1,(Qs L p m).2)
def EM(L:List Int)(p:Nat)(most:Int):=okL [.ref 0 0,.int most]∧(.box (.agg [.sl 1 (L.map AV.int) false,.int p]):Blk).ok
def K7(L:List Int)(t0:Int×Nat×List Int):NF:=⟨[(0,.k,.ref 0 0),(5,.k,.vec 1),(6,.k,.int t0.1)],[.box (.agg [.sl 1 (L.map AV.int) false,.int t0.2.1]),.vec 1 (t0.2.2.map (λx=>AV.val (.int .u8 x))) (ab (λ_=>rfl) t0.2.2)]⟩
@[reducible] def EL:Nat→Type
 | 0=>Int×Nat×List Int
 | _=>Unit
def o8(r:Tap×ByteArray):AV:=.str r.2
def o9(r:Tap×ByteArray):List (Option Blk):=[some (.box (.agg [.sl 1 (r.1.L.map AV.int) false,.int r.1.p]))]
def vk(L:List Int)(p:Nat)(most:Int)(I0:(Int×Nat×List Int)→Prop)(m0:(Int×Nat×List Int)→Nat):Ax Tryz.prog EL (Tap×ByteArray):=
 (.callH [0] (iL L p 0 most) 65
(.cmdL (.nilT 5 1) (.loop 0 (K7 L) I0 m0 (rng L p 0 most,ae L p,[]) [0,97] λ(t0:Int×Nat×List Int) b0 =>
(.br 34 (decide (0<t0.1)) (.callH [0] (bv L t0.2.1 256) 66
(.say (λR=>Rf (α:=List AV) (t0.2.2.map (λx=>AV.val (.int .u8 x))) (Rf (α:=List AV) [.val (.int .u8 (IntKind.u8.wrap (Mod (ak L t0.2.1) 256)))]
(ck (decide (t0.2.2.length+1≤1048576))
R))) (.app 114 (λx=>AV.val (.int .u8 x)) t0.2.2 [IntKind.u8.wrap (Mod (ak L t0.2.1) 256)]
(.bk 0 b0 (W (t0.1-1),ae L t0.2.1,t0.2.2++[IntKind.u8.wrap (Mod (ak L t0.2.1) 256)]) [0,114]))))
(.say (λR=>SbB (t0.2.2.map (λx=>AV.val (.int .u8 x))) (AV.str (B8 t0.2.2)) ∧
R) (.rep 50 AV.str (B8 t0.2.2)
(.retH ((⟨L,t0.2.1⟩:Tap),B8 t0.2.2) ⟨[(4,.k,.str (B8 t0.2.2))],[.box (.agg [.sl 1 (L.map AV.int) false,.int t0.2.1])]⟩ [0])))))))
def As(L:List Int)(p:Nat)(most:Int)(I0:(Int×Nat×List Int)→Prop)(m0:(Int×Nat×List Int)→Nat)(r0:Tap×ByteArray):=(vk L p most I0 m0).vc o8 o9 r0
theorem Qq(L:List Int)(p:Nat)(m:Int)(h:0≤m∧m≤1000)(ok:EM L p m):∃I0 m0,As L p m I0 m0 ((⟨L,(jJ L p m).2⟩:Tap),(jJ L p m).1):=by
 have hr:=QH (L:=L) (p:=p) (lo:=0) (hi:=m) (by omega)
 refine⟨λs=>∃k:Nat,s.1=k∧s.2.2.length+k≤1000∧EN L k s.2.1 s.2.2=Qs L p m,λs=>s.1.toNat,?_⟩
 dsimp only[As,vk,EL,Ax.vp,Ax.vc];simp only[vcU,rfU,List.length_map]
 refine⟨⟨(rng L p 0 m).toNat,by omega,by simp;omega,rfl⟩,?_⟩
 rintro⟨i,q,o⟩ ⟨k,h1,h2,h3⟩
 simp only at h1 h2 h3 ⊢
 subst h1
 refine⟨λc=>?_,λc=>?_⟩
 ·obtain⟨k,rfl⟩:∃j,k=j+1:=⟨k-1,by omega⟩
  rw[EN]at h3
  have hw:W (((k+1:Nat):Int)-1)=(k:Nat):=by rw[cn (by omega)];omega
  rw[hw]
  exact⟨by omega,⟨k,rfl,by simp;omega,h3⟩,by omega⟩
 ·obtain rfl:k=0:=by omega
  rw[EN]at h3
  unfold jJ
  rw[←h3]
  exact⟨trivial,rfl⟩
def Qr(L:List Int)(p:Nat)(most:Int)(h:0≤most∧most≤1000):HC Tryz.prog:=⟨86,[.k,.k],[.ref 0 0,.int most],[.box (.agg [.sl 1 (L.map AV.int) false,.int p])],o8 ((⟨L,(jJ L p most).2⟩:Tap),(jJ L p most).1),o9 ((⟨L,(jJ L p most).2⟩:Tap),(jJ L p most).1),bc.of_okh λok ok2=>have ok:EM L p most:=⟨ok,ok2 _ (by simp)⟩;(Qq L p most h ok).elim λI0 h=>h.elim λm0 h=>cq (sh:=.k) (enc:=o8) (hB:=o9) (a:=(vk L p most I0 m0).an) h (by kernel_rfl),ah (by kernel_rfl),eT.of (by simp[hcB,cC,AV.belB,allB,ew,dH,o8,o9,ab (v:=AV.int) (λ_=>rfl)])⟩
def d9(L:List Int)(p:Nat):Pkt×Nat:=
 let b:=iV L (ae L (ae L (ae L (ae L (ae L (ae L (ae L (ae L p)))))))) (db L p)
 (⟨rng L (ae L p) 1 3,rng L (ae L (ae L p)) 0 7,aI [0,0,1,2,31] (ak L (ae L (ae L (ae L p)))),db L p,
  aI [0,1,2,5,63] (ak L (ae L (ae L (ae L (ae L p))))),Mod (ak L (ae L (ae L (ae L (ae L (ae L p)))))) 1024,
  aI [0,1,8,255,256] (ak L (ae L (ae L (ae L (ae L (ae L (ae L p))))))),Mod (ak L (ae L (ae L (ae L (ae L (ae L (ae L (ae L p)))))))) 8,
  b.1,(jJ L b.2 6).1⟩,(jJ L b.2 6).2)
def Gb(L:List Int)(p:Nat):=okL [.ref 0 0,.int 0]∧(.box (.agg [.sl 1 (L.map AV.int) false,.int p]):Blk).ok
abbrev eP(L:List Int)(p:Nat):=(ae L (ae L (ae L (ae L (ae L (ae L p))))))
abbrev fz(L:List Int)(p:Nat):=(iV L (ae L (ae L (eP L p))) (db L p))
def oZ(r:Tap×Pkt):AV:=.agg [.int r.2.mode,.int r.2.sub,.int r.2.set,.int r.2.len,.int r.2.ttl,.int r.2.ent,.int r.2.ing,.int r.2.proto,.val (.int .u64 r.2.bits),.str r.2.pay]
def pc(r:Tap×Pkt):List (Option Blk):=[some (.box (.agg [.sl 1 (r.1.L.map AV.int) false,.int r.1.p]))]
def wj(L:List Int)(p:Nat):Ax Tryz.prog noS (Tap×Pkt):=
 (.callH [0] (Hg L p) 33
(.callH [0] (iL L (ae L p) 1 3) 81
(.callH [0] (iL L (ae L (ae L p)) 0 7) 113
(.req 161 ([0,0,1,2,31]≠[]) λh1 =>
(.callH [0] (fb L (ae L (ae L (ae L p))) [0,0,1,2,31] h1) 161
(.req 225 ([0,1,2,5,63]≠[]) λh2 =>
(.callH [0] (fb L (ae L (ae L (ae L (ae L p)))) [0,1,2,5,63] h2) 225
(.callH [0] (bv L (ae L (ae L (ae L (ae L (ae L p))))) 1024) 257
(.req 305 ([0,1,8,255,256]≠[]) λh3 =>
(.callH [0] (fb L (eP L p) [0,1,8,255,256] h3) 305
(.callH [0] (bv L (ae L (eP L p)) 8) 337
(.callH [0] (J3 L (ae L (ae L (eP L p))) (db L p)) 385
(.req 417 (0≤6∧6≤1000) λh4 =>
(.callH [0] (Qr L ((fz L p).2) 6 h4) 417
(.retH ((⟨L,(jJ L ((fz L p).2) 6).2⟩:Tap),(⟨rng L (ae L p) 1 3,rng L (ae L (ae L p)) 0 7,aI [0,0,1,2,31] (ak L (ae L (ae L (ae L p)))),db L p,aI [0,1,2,5,63] (ak L (ae L (ae L (ae L (ae L p))))),Mod (ak L (ae L (ae L (ae L (ae L (ae L p)))))) 1024,aI [0,1,8,255,256] (ak L (eP L p)),Mod (ak L (ae L (eP L p))) 8,(fz L p).1,(jJ L ((fz L p).2) 6).1⟩:Pkt)) ⟨[(4,.k,.ref 1 0)],[.box (.agg [.sl 1 (L.map AV.int) false,.int ((((jJ L ((fz L p).2) 6).2):Nat):Int)]),.box (.agg [.int (rng L (ae L p) 1 3),.int (rng L (ae L (ae L p)) 0 7),.int (aI [0,0,1,2,31] (ak L (ae L (ae L (ae L p))))),.int (db L p),.int (aI [0,1,2,5,63] (ak L (ae L (ae L (ae L (ae L p)))))),.int (Mod (ak L (ae L (ae L (ae L (ae L (ae L p)))))) 1024),.int (aI [0,1,8,255,256] (ak L (eP L p))),.int (Mod (ak L (ae L (eP L p))) 8),.val (.int .u64 ((fz L p).1)),.str ((jJ L ((fz L p).2) 6).1)])]⟩ [0,1])))))))))))))))
def AY(L:List Int)(p:Nat)(r0:Tap×Pkt):=(wj L p).vc oZ pc r0
theorem Ru(L:List Int)(p:Nat)(ok:Gb L p):AY L p ((⟨L,(d9 L p).2⟩:Tap),(d9 L p).1):=by
 dsimp only[AY,wj,noS,eP,fz,Ax.vp,Ax.vc];simp only[vcU,rfU,List.length_map]
 exact⟨by simp,by simp,by simp,by omega,rfl⟩
def Rv(L:List Int)(p:Nat):HC Tryz.prog:=⟨34,[.k,.k],[.ref 0 0,.int 0],[.box (.agg [.sl 1 (L.map AV.int) false,.int p])],oZ ((⟨L,(d9 L p).2⟩:Tap),(d9 L p).1),pc ((⟨L,(d9 L p).2⟩:Tap),(d9 L p).1),bc.of_okh λok ok2=>have ok:Gb L p:=⟨ok,ok2 _ (by simp)⟩;cq (sh:=.k) (enc:=oZ) (hB:=pc) (a:=(wj L p).an) (Ru L p ok) (by kernel_rfl),ah (by kernel_rfl),eT.of (by simp[hcB,cC,AV.belB,allB,ew,dH,oZ,pc,ab (v:=AV.int) (λ_=>rfl)])⟩
def Ii(L:List Int)(p:Nat)(a:Pln):Pkt:=⟨1,a.sub,0,if a.len=0 then 8 else a.len,(d9 L p).1.ttl,(d9 L p).1.ent,(d9 L p).1.ing,(d9 L p).1.proto,0,(d9 L p).1.pay⟩
def forW(k:Pkt)(s:Int):Pkt:=⟨k.mode,k.sub,s,k.len,k.ttl,k.ent,k.ing,k.proto,k.bits,k.pay⟩
def T1(k:Pkt)(b:Int):Pkt:=⟨k.mode,k.sub,k.set,k.len,k.ttl,k.ent,k.ing,k.proto,bOr .u64 k.bits b,k.pay⟩
def Ih(L:List Int)(p:Nat)(a:Pln):Pkt×Nat:=match a.es[(Mod (ak L (d9 L p).2) a.es.length).toNat]? with
 | some x=>(forW (Ii L p a) (cw x.id a.len).1,ae L (d9 L p).2)
 | none=>(Ii L p a,(d9 L p).2)
def Nl(L:List Int)(a:Pln)(s:Pkt×Nat)(x:Edg):Pkt×Nat:=
 if(cw x.id a.len).1=s.1.set then(if 0<Mod (ak L s.2) 4 then(T1 s.1 (bB (cw x.id a.len).2.1),ae L s.2)else(s.1,ae L s.2))else s
def forZ(L:List Int)(s:Pkt×Nat):Pkt×Nat:=if cA L s.2 6=true then(T1 s.1 (iV L (ae L s.2) s.1.len).1,(iV L (ae L s.2) s.1.len).2)else(s.1,ae L s.2)
def fT(L:List Int)(p:Nat)(a:Pln):Pkt×Nat:=forZ L (a.es.foldl (Nl L a) (Ih L p a))
def yg(L:List Int)(p:Nat)(a1:Pln):=okL [.ref 0 0,.agg [.int a1.sub,.int a1.len,.sl 2 (a1.es.map Edg.v) false]]∧(.box (.agg [.sl 1 (L.map AV.int) false,.int p]):Blk).ok
def Nq(L:List Int)(p:Nat)(a1:Pln)(t0:Pkt):NF:=⟨[(0,.k,.ref 0 0),(3,.k,.ref 1 0),(4,.k,.ref 2 0),(5,.k,.ref 3 0)],[.box (.agg [.sl 1 (L.map AV.int) false,.int ((((d9 L p).2):Nat):Int)]),.box (.agg [.int a1.sub,.int a1.len,.sl 2 (a1.es.map Edg.v) false]),.box (.agg [.int 0,.int 0,.int 0,.int 0,.int 0,.int 0,.int 0,.int 0,.val (.int .u64 0),.str (B [])]),.box (.agg [.int t0.mode,.int t0.sub,.int t0.set,.int t0.len,.int t0.ttl,.int t0.ent,.int t0.ing,.int t0.proto,.val (.int .u64 t0.bits),.str t0.pay])]⟩
def Np(L:List Int)(a1:Pln)(t1:Pkt×Nat):NF:=⟨[(0,.k,.ref 0 0),(3,.k,.ref 1 0),(4,.k,.ref 2 0),(5,.k,.ref 3 0)],[.box (.agg [.sl 1 (L.map AV.int) false,.int t1.2]),.box (.agg [.int a1.sub,.int a1.len,.sl 2 (a1.es.map Edg.v) false]),.box (.agg [.int 0,.int 0,.int 0,.int 0,.int 0,.int 0,.int 0,.int 0,.val (.int .u64 0),.str (B [])]),.box (.agg [.int t1.1.mode,.int t1.1.sub,.int t1.1.set,.int t1.1.len,.int t1.1.ttl,.int t1.1.ent,.int t1.1.ing,.int t1.1.proto,.val (.int .u64 t1.1.bits),.str t1.1.pay])]⟩
def Nn(L:List Int)(a1:Pln)(t2:Int×Pkt×Nat):NF:=⟨[(0,.k,.ref 0 0),(3,.k,.ref 1 0),(4,.k,.ref 2 0),(5,.k,.ref 3 0),(6,.k,.int t2.1)],[.box (.agg [.sl 1 (L.map AV.int) false,.int t2.2.2]),.box (.agg [.int a1.sub,.int a1.len,.sl 2 (a1.es.map Edg.v) false]),.box (.agg [.int 0,.int 0,.int 0,.int 0,.int 0,.int 0,.int 0,.int 0,.val (.int .u64 0),.str (B [])]),.box (.agg [.int t2.2.1.mode,.int t2.2.1.sub,.int t2.2.1.set,.int t2.2.1.len,.int t2.2.1.ttl,.int t2.2.1.ent,.int t2.2.1.ing,.int t2.2.1.proto,.val (.int .u64 t2.2.1.bits),.str t2.2.1.pay])]⟩
def Nm(L:List Int)(a1:Pln)(t2:Int×Pkt×Nat)(x2:Edg)(t3:Bool×Nat):NF:=⟨[(0,.k,.ref 0 0),(3,.k,.ref 1 0),(4,.k,.ref 2 0),(5,.k,.ref 3 0),(6,.k,.int t2.1),(8,.k,.int ((cw x2.id a1.len).2.1)),(75,.k,.bool t3.1)],[.box (.agg [.sl 1 (L.map AV.int) false,.int t3.2]),.box (.agg [.int a1.sub,.int a1.len,.sl 2 (a1.es.map Edg.v) false]),.box (.agg [.int 0,.int 0,.int 0,.int 0,.int 0,.int 0,.int 0,.int 0,.val (.int .u64 0),.str (B [])]),.box (.agg [.int t2.2.1.mode,.int t2.2.1.sub,.int t2.2.1.set,.int t2.2.1.len,.int t2.2.1.ttl,.int t2.2.1.ent,.int t2.2.1.ing,.int t2.2.1.proto,.val (.int .u64 t2.2.1.bits),.str t2.2.1.pay])]⟩
@[reducible] def Ig:Nat→Type
 | 0=>Pkt
 | 1=>Pkt×Nat
 | 2=>Int×Pkt×Nat
 | 3=>Bool×Nat
 | _=>Unit
def qt(r:Tap×Pkt):AV:=.agg [.int r.2.mode,.int r.2.sub,.int r.2.set,.int r.2.len,.int r.2.ttl,.int r.2.ent,.int r.2.ing,.int r.2.proto,.val (.int .u64 r.2.bits),.str r.2.pay]
def qu(r:Tap×Pkt):List (Option Blk):=[some (.box (.agg [.sl 1 (r.1.L.map AV.int) false,.int r.1.p]))]
def yf(L:List Int)(p:Nat)(a1:Pln)(I0:Pkt→Prop)(I1:Pkt→(Pkt×Nat)→Prop)(I2:Pkt→Pkt×Nat→(Int×Pkt×Nat)→Prop)(m2:Pkt→Pkt×Nat→(Int×Pkt×Nat)→Nat)(I3:Pkt→Pkt×Nat→Int×Pkt×Nat→Edg→(Bool×Nat)→Prop):Ax Tryz.prog Ig (Tap×Pkt):=
 (.callH [0] (Rv L p) 49
(.pass (.join 0 (Nq L p a1) (λ(t0:Pkt)=>I0 t0) (λb0=>(.br 369 (a1.len==0) (.bk 0 b0 (((⟨1,a1.sub,0,8,((d9 L p).1).ttl,((d9 L p).1).ent,((d9 L p).1).ing,((d9 L p).1).proto,0,((d9 L p).1).pay⟩:Pkt)):Pkt) [0,1,17,65])
(.bk 0 b0 (((⟨1,a1.sub,0,a1.len,((d9 L p).1).ttl,((d9 L p).1).ent,((d9 L p).1).ing,((d9 L p).1).proto,0,((d9 L p).1).pay⟩:Pkt)):Pkt) [0,1,17,65]))) λ(t0:Pkt) =>
(.join 1 (Np L a1) (λ(t1:Pkt×Nat)=>I1 t0 t1) (λb1=>(.br 68 (decide (0<((a1.es.map Edg.v).length:Int))) (.callH [0] (bv L ((d9 L p).2) ((a1.es.map Edg.v).length:Int)) 164
(.el 180 Edg.v a1.es (λR=>Rf (a1.es.map Edg.v) (ck (decide (0≤(Mod (ak L ((d9 L p).2)) ((a1.es.map Edg.v).length:Int)))) (ck (decide ((Mod (ak L ((d9 L p).2)) ((a1.es.map Edg.v).length:Int))<(a1.es.length:Int)))
(∀x1,a1.es[(Mod (ak L ((d9 L p).2)) ((a1.es.map Edg.v).length:Int)).toNat]?=some x1 →
(R x1))))) λx1 =>
(.callP (FT x1.id a1.len)
(.bk 1 b1 ((⟨t0.mode,t0.sub,(cw x1.id a1.len).1,t0.len,t0.ttl,t0.ent,t0.ing,t0.proto,t0.bits,t0.pay⟩:Pkt),ae L ((d9 L p).2)) [0,1,2,3]))))
(.bk 1 b1 (t0,(d9 L p).2) [0,1,2,3]))) λ(t1:Pkt×Nat) =>
(.loop 2 (Nn L a1) (I2 t0 t1) (m2 t0 t1) (0,t1.1,t1.2) [0,1,2,3] λ(t2:Int×Pkt×Nat) b2 =>
(.br 84 (decide (t2.1<((a1.es.map Edg.v).length:Int))) (.el 132 Edg.v a1.es (λR=>Rf (a1.es.map Edg.v) (ck (decide (0≤t2.1)) (ck (decide (t2.1<(a1.es.length:Int)))
(∀x2,a1.es[t2.1.toNat]?=some x2 →
(R x2))))) λx2 =>
(.callP (FT x2.id a1.len)
(.join 3 (Nm L a1 t2 x2) (λ(t3:Bool×Nat)=>I3 t0 t1 t2 x2 t3) (λb3=>(.br 420 (((cw x2.id a1.len).1)==t2.2.1.set) (.callH [0] (bv L t2.2.2 4) 436
(.bk 3 b3 (decide (0<(Mod (ak L t2.2.2) 4)),ae L t2.2.2) [0,1,2,3]))
(.bk 3 b3 (false,t2.2.2) [0,1,2,3]))) λ(t3:Bool×Nat) =>
(.br 4 t3.1 (.callP (iW ((cw x2.id a1.len).2.1))
(.bk 2 b2 (W (t2.1+1),(⟨t2.2.1.mode,t2.2.1.sub,t2.2.1.set,t2.2.1.len,t2.2.1.ttl,t2.2.1.ent,t2.2.1.ing,t2.2.1.proto,bOr .u64 t2.2.1.bits (bB ((cw x2.id a1.len).2.1)),t2.2.1.pay⟩:Pkt),t3.2) [0,1,2,3]))
(.bk 2 b2 (W (t2.1+1),t2.2.1,t3.2) [0,1,2,3])))))
(.callH [0] (dY L t2.2.2 6) 100
(.br 116 (cA L t2.2.2 6) (.callH [0] (J3 L (ae L t2.2.2) t2.2.1.len) 196
(.retH ((⟨L,(iV L (ae L t2.2.2) t2.2.1.len).2⟩:Tap),(⟨t2.2.1.mode,t2.2.1.sub,t2.2.1.set,t2.2.1.len,t2.2.1.ttl,t2.2.1.ent,t2.2.1.ing,t2.2.1.proto,bOr .u64 t2.2.1.bits ((iV L (ae L t2.2.2) t2.2.1.len).1),t2.2.1.pay⟩:Pkt)) ⟨[(4,.k,.ref 1 0)],[.box (.agg [.sl 1 (L.map AV.int) false,.int ((((iV L (ae L t2.2.2) t2.2.1.len).2):Nat):Int)]),.box (.agg [.int t2.2.1.mode,.int t2.2.1.sub,.int t2.2.1.set,.int t2.2.1.len,.int t2.2.1.ttl,.int t2.2.1.ent,.int t2.2.1.ing,.int t2.2.1.proto,.val (.int .u64 (bOr .u64 t2.2.1.bits ((iV L (ae L t2.2.2) t2.2.1.len).1))),.str t2.2.1.pay])]⟩ [0,2]))
(.retH ((⟨L,ae L t2.2.2⟩:Tap),t2.2.1) ⟨[(4,.k,.ref 1 0)],[.box (.agg [.sl 1 (L.map AV.int) false,.int (ae L t2.2.2)]),.box (.agg [.int t2.2.1.mode,.int t2.2.1.sub,.int t2.2.1.set,.int t2.2.1.len,.int t2.2.1.ttl,.int t2.2.1.ent,.int t2.2.1.ing,.int t2.2.1.proto,.val (.int .u64 t2.2.1.bits),.str t2.2.1.pay])]⟩ [0,2])))))))))
def Co(L:List Int)(p:Nat)(a1:Pln)(I0:Pkt→Prop)(I1:Pkt→(Pkt×Nat)→Prop)(I2:Pkt→Pkt×Nat→(Int×Pkt×Nat)→Prop)(m2:Pkt→Pkt×Nat→(Int×Pkt×Nat)→Nat)(I3:Pkt→Pkt×Nat→Int×Pkt×Nat→Edg→(Bool×Nat)→Prop)(r0:Tap×Pkt):=(yf L p a1 I0 I1 I2 m2 I3).vc qt qu r0
theorem Tz(L:List Int)(p:Nat)(a:Pln)(ok:yg L p a):∃I0 I1 I2 m2 I3,Co L p a I0 I1 I2 m2 I3 ((⟨L,(fT L p a).2⟩:Tap),(fT L p a).1):=by
 refine⟨λk=>k=Ii L p a,λ_ s=>s=Ih L p a,λ_ _ s=>dW a.es (Nl L a) (Ih L p a) s.1 s.2,λ_ _ s=>a.es.length-s.1.toNat,
  λ_ _ s x u=>u=if(cw x.id a.len).1=s.2.1.set then(decide (0<Mod (ak L s.2.2) 4),ae L s.2.2)else(false,s.2.2),?_⟩
 have hl:a.es.length≤9223372036854775807:=by
  simp only[yg,okU,Blk.ok,az,List.length_map]at ok
  omega
 dsimp only[Co,yf,Ig,Ax.vp,Ax.vc];simp only[vcU,rfU,List.length_map]
 refine⟨⟨λc=>by rw[Ii,if_pos (eq_of_beq c)],λc=>by rw[Ii,if_neg (by simpa using c)]⟩,?_⟩
 rintro _ rfl
 refine⟨⟨λc=>?_,λc=>?_⟩,?_⟩
 ·have hm:=dr (x:=ak L (d9 L p).2) (show 1≤(a.es.length:Int) by omega)
  exact⟨hm.1,hm.2,λx hx=>by rw[Ih,hx];rfl⟩
 ·rw[Ih,List.getElem?_eq_none (by omega)]
 rintro _ rfl
 refine⟨dW.zero,?_⟩
 rintro⟨i,k,q⟩ h
 simp only at h ⊢
 refine⟨λc=>⟨h.idx,c,λx hx=>⟨⟨λe=>?_,λe=>?_⟩,?_⟩⟩,λc=>?_⟩
 ·rw[if_pos (eq_of_beq e)]
 ·rw[if_neg (by simpa using e)]
 ·rintro⟨b,q2⟩ e
  simp only at e ⊢
  have hs:Nl L a (k,q) x=if b=true then(T1 k (bB (cw x.id a.len).2.1),q2)else(k,q2):=by
   unfold Nl
   by_cases c1:(cw x.id a.len).1=k.set
   ·rw[if_pos c1]at e ⊢
    cases e
    by_cases c2:0<Mod (ak L q) 4
    ·rw[if_pos c2,if_pos (decide_eq_true c2)]
    ·rw[if_neg c2,if_neg (by rw[decide_eq_false c2];simp)]
   ·rw[if_neg c1]at e ⊢
    cases e
    rw[if_neg (by simp)]
  refine⟨λe1=>h.step hl hx ?_,λe1=>h.step hl hx ?_⟩
  ·rw[hs,if_pos e1];rfl
  ·rw[hs,if_neg (by rw[e1];simp)]
 ·have:=h.done c
  unfold fT
  rw[←this]
  unfold forZ
  exact⟨λe=>by rw[if_pos e];rfl,λe=>by rw[if_neg (by rw[e];simp)]⟩
def T0(L:List Int)(p:Nat)(a1:Pln):HC Tryz.prog:=⟨12,[.k,(.a [.k,.k,(.s 2)])],[.ref 0 0,.agg [.int a1.sub,.int a1.len,.sl 2 (a1.es.map Edg.v) false]],[.box (.agg [.sl 1 (L.map AV.int) false,.int p])],qt ((⟨L,(fT L p a1).2⟩:Tap),(fT L p a1).1),qu ((⟨L,(fT L p a1).2⟩:Tap),(fT L p a1).1),bc.of_okh λok ok2=>have ok:yg L p a1:=⟨ok,ok2 _ (by simp)⟩;(Tz L p a1 ok).elim λI0 h=>h.elim λI1 h=>h.elim λI2 h=>h.elim λm2 h=>h.elim λI3 h=>cq (sh:=.k) (enc:=qt) (hB:=qu) (a:=(yf L p a1 I0 I1 I2 m2 I3).an) h (by kernel_rfl),ah (by kernel_rfl),eT.of (by simp[hcB,cC,AV.belB,allB,ew,dH,qt,qu,ab (v:=AV.int) (λ_=>rfl),ab (v:=Edg.v) (λ_=>rfl)])⟩
def okT(b:Tbl):Prop:=b.rows.length≤1000∧∀r∈b.rows,r.nx.length≤100000
def Ug(b:Tbl):=okL [.agg [.int b.router,.int b.sub,.int b.len,.sl 2 (b.rows.map Rw.v) false]]
def NQ(b:Tbl)(t0:Int×List Rw):NF:=⟨[(1,.k,.ref 0 0),(2,.k,.ref 1 0),(3,.k,.vec 2),(4,.k,.int t0.1)],[.box (.agg [.int b.router,.int b.sub,.int b.len,.sl 2 (b.rows.map Rw.v) false]),.box (.agg [.int 0,.int 0,.int 0,.sl 0 [] true]),.vec 2 (t0.2.map Rw.v) (ab (λ_=>rfl) t0.2)]⟩
@[reducible] def IV:Nat→Type
 | 0=>Int×List Rw
 | _=>Unit
def qQ(r:Tbl):AV:=.agg [.int r.router,.int r.sub,.int r.len,.vec 0]
def qR(r:Tbl):List (Option Blk):=[some (.vec 2 (r.rows.map Rw.v))]
def yR(b:Tbl)(I0:(Int×List Rw)→Prop)(m0:(Int×List Rw)→Nat):Ax Tryz.prog IV (Tbl):=
 (.cmdL (.nilT 3 2) (.loop 0 (NQ b) I0 m0 (0,[]) [0,16,64] λ(t0:Int×List Rw) b0 =>
(.br 83 (decide (t0.1<((b.rows.map Rw.v).length:Int))) (.el 147 Rw.v b.rows (λR=>Rf (b.rows.map Rw.v) (ck (decide (0≤t0.1)) (ck (decide (t0.1<(b.rows.length:Int)))
(∀x1,b.rows[t0.1.toNat]?=some x1 →
(R x1))))) λx1 =>
(.el 259 Rw.v b.rows (λR=>Rf (b.rows.map Rw.v) (ck (decide (0≤t0.1)) (ck (decide (t0.1<(b.rows.length:Int)))
(∀x2,b.rows[t0.1.toNat]?=some x2 →
(R x2))))) λx2 =>
(.say (λR=>Rf (α:=List AV) [] (Rf (α:=List AV) (x2.nx.map AV.int)
(ck (decide (0+x2.nx.length≤1048576))
R))) (.app 307 AV.int [] x2.nx
(.own 339 (.say (λR=>Idt (t0.2.map Rw.v) (Rf (α:=List AV) [.agg [.int x1.id,.vec 307]]
(ck (decide ((t0.2.map Rw.v).length+1≤1048576))
R))) (.app 355 (λy:AV=>y) (t0.2.map Rw.v) [.agg [.int x1.id,.vec 307]]
(.say (λR=>Rf (α:=List AV) (x2.nx.map AV.int) (Et Rw.v t0.2 (⟨x1.id,x2.nx⟩:Rw) (t0.2.map Rw.v) (.agg [.int x1.id,.vec 307])∧Rf (Rw.v (⟨x1.id,x2.nx⟩:Rw))
R)) (.cmd (.frzV 307 355 t0.2.length Rw.v (t0.2++[(⟨x1.id,x2.nx⟩:Rw)]) (.agg [.int x1.id,.vec 307]) (⟨x1.id,x2.nx⟩:Rw) (x2.nx.map AV.int) (ab (λ_=>rfl) x2.nx)) (.bk 0 b0 (W (t0.1+1),A4 t0.2 (⟨x1.id,x2.nx⟩:Rw)) [0,1,355]))))))))))
(.retH (⟨b.router,b.sub,b.len,t0.2⟩:Tbl) ⟨[(2,.k,.ref 1 0)],[.vec 2 (t0.2.map Rw.v) (ab (λ_=>rfl) t0.2),.box (.agg [.int b.router,.int b.sub,.int b.len,.vec 0])]⟩ [2,1]))))
def CE(b:Tbl)(I0:(Int×List Rw)→Prop)(m0:(Int×List Rw)→Nat)(r0:Tbl):=(yR b I0 m0).vc qQ qR r0
theorem Ue(b:Tbl)(h:okT b)(ok:Ug b):∃I m,CE b I m b:=by
 refine⟨λs=>∃k:Nat,s.1=k∧k≤b.rows.length∧s.2=b.rows.take k,λs=>b.rows.length-s.1.toNat,?_⟩
 dsimp only[CE,yR,IV,Ax.vp,Ax.vc];simp only[vcU,rfU,List.length_map]
 refine⟨⟨0,rfl,by omega,by simp⟩,?_⟩
 rintro⟨i,out⟩ ⟨k,hi,hk,ho⟩
 simp only at hi ho ⊢
 subst hi;subst ho
 have h1:=h.1
 refine⟨λc=>⟨by omega,c,λx hx=>⟨by omega,c,λy hy=>?_⟩⟩,λc=>?_⟩
 ·rw[hx]at hy;cases hy
  rw[Int.toNat_natCast]at hx
  have:=h.2 x (aP hx)
  rw[aU (n:=b.rows.length) (by omega) (by omega)]
  exact⟨by omega,by rw[List.length_take];omega,trivial,⟨k+1,rfl,by omega,(aO hx).symm⟩,by omega⟩
 ·rw[List.take_of_length_le (by omega)]
def Uf(b:Tbl)(h:okT b):HC Tryz.prog:=⟨31,[(.a [.k,.k,.k,(.s 2)])],[.agg [.int b.router,.int b.sub,.int b.len,.sl 2 (b.rows.map Rw.v) false]],[],qQ b,qR b,bc.of_okh λok _=>(Ue b h ok).elim λI0 h=>h.elim λm0 h=>cq (sh:=.k) (enc:=qQ) (hB:=qR) (a:=(yR b I0 m0).an) h (by kernel_rfl),ah (by kernel_rfl),eT.of (by simp[hcB,cC,AV.belB,allB,ew,dH,qQ,qR,ab (v:=Rw.v) (λ_=>rfl)])⟩
def iC(L:List Int)(n r:Int)(x:Rw)(p:Nat):Rw×Nat:=
 if cA L p 3=false then(x,ae L p)
 else if Mod (ak L (ae L p)) 4=0 then(⟨x.id,[]⟩,ae L (ae L p))
 else if Mod (ak L (ae L p)) 4=1 then(⟨x.id,[r]⟩,ae L (ae L p))
 else(⟨x.id,(if W (1+Mod (ak L (ae L (ae L p))) (W (n+1)))<W (1+Mod (ak L (ae L (ae L (ae L p)))) n)∧W (1+Mod (ak L (ae L (ae L p))) (W (n+1)))≠r∧W (1+Mod (ak L (ae L (ae L (ae L p)))) n)≠r
   then [W (1+Mod (ak L (ae L (ae L p))) (W (n+1))),W (1+Mod (ak L (ae L (ae L (ae L p)))) n)]
   else if W (1+Mod (ak L (ae L (ae L p))) (W (n+1)))≠r then [W (1+Mod (ak L (ae L (ae L p))) (W (n+1)))]else x.nx)⟩,ae L (ae L (ae L (ae L p))))
def oc(L:List Int)(n r:Int):List Rw→Nat→List Rw×Nat
 | [],p=>([],p)
 | x::l,p=>((iC L n r x p).1::(oc L n r l (iC L n r x p).2).1,(oc L n r l (iC L n r x p).2).2)
def Kf(L:List Int)(n:Int)(b:Tbl)(p:Nat):Tbl×Nat:=(⟨b.router,b.sub,b.len,(oc L n b.router b.rows p).1⟩,(oc L n b.router b.rows p).2)
def gU(L:List Int)(n:Int):List Tbl→Nat→List Tbl×Nat
 | [],p=>([],p)
 | b::l,p=>((Kf L n b p).1::(gU L n l (Kf L n b p).2).1,(gU L n l (Kf L n b p).2).2)
def Ey(L:List Int)(p:Nat)(l:List Tbl)(routers:Int):=okL [.ref 0 0,.sl 4 (l.map Tbl.v) false,.int routers]∧(.box (.agg [.sl 1 (L.map AV.int) false,.int p]):Blk).ok
def Kj(L:List Int)(l:List Tbl)(routers:Int)(t0:Int×Nat×List Tbl):NF:=⟨[(0,.k,.ref 0 0),(1,.k,.sl 4 (l.map Tbl.v) false),(2,.k,.int routers),(7,.k,.vec 1),(8,.k,.int t0.1)],[.box (.agg [.sl 1 (L.map AV.int) false,.int t0.2.1]),.vec 4 (t0.2.2.map Tbl.v) (ab (λ_=>rfl) t0.2.2)]⟩
def Ki(L:List Int)(l:List Tbl)(routers:Int)(t0:Int×Nat×List Tbl)(x1:Tbl)(t1:Int×Nat×List Rw):NF:=⟨[(0,.k,.ref 0 0),(1,.k,.sl 4 (l.map Tbl.v) false),(2,.k,.int routers),(7,.k,.vec 1),(8,.k,.int t0.1),(9,.k,.ref 2 0),(10,.k,.int t1.1)],[.box (.agg [.sl 1 (L.map AV.int) false,.int t1.2.1]),.vec 4 (t0.2.2.map Tbl.v) (ab (λ_=>rfl) t0.2.2),.box (.agg [.int x1.router,.int x1.sub,.int x1.len,.vec 3]),.vec 2 (t1.2.2.map Rw.v) (ab (λ_=>rfl) t1.2.2)]⟩
def Kh(L:List Int)(l:List Tbl)(routers:Int)(t0:Int×Nat×List Tbl)(x1:Tbl)(t1:Int×Nat×List Rw)(t2:List Rw):NF:=⟨[(0,.k,.ref 0 0),(1,.k,.sl 4 (l.map Tbl.v) false),(2,.k,.int routers),(7,.k,.vec 1),(8,.k,.int t0.1),(9,.k,.ref 2 0),(10,.k,.int t1.1),(11,.k,.int (W (1+(Mod (ak L (ae L (ae L t1.2.1))) (W (routers+1))))))],[.box (.agg [.sl 1 (L.map AV.int) false,.int (((ae L (ae L (ae L t1.2.1))):Nat):Int)]),.vec 4 (t0.2.2.map Tbl.v) (ab (λ_=>rfl) t0.2.2),.box (.agg [.int x1.router,.int x1.sub,.int x1.len,.vec 3]),.vec 2 (t2.map Rw.v) (ab (λ_=>rfl) t2)]⟩
def Kg(L:List Int)(l:List Tbl)(routers:Int)(t0:Int×Nat×List Tbl)(x1:Tbl)(t1:Int×Nat×List Rw)(t2:List Rw)(t3:Bool):NF:=⟨[(0,.k,.ref 0 0),(1,.k,.sl 4 (l.map Tbl.v) false),(2,.k,.int routers),(7,.k,.vec 1),(8,.k,.int t0.1),(9,.k,.ref 2 0),(10,.k,.int t1.1),(11,.k,.int (W (1+(Mod (ak L (ae L (ae L t1.2.1))) (W (routers+1)))))),(12,.k,.int (W (1+(Mod (ak L (ae L (ae L (ae L t1.2.1)))) routers)))),(70,.k,.bool t3)],[.box (.agg [.sl 1 (L.map AV.int) false,.int (((ae L (ae L (ae L (ae L t1.2.1)))):Nat):Int)]),.vec 4 (t0.2.2.map Tbl.v) (ab (λ_=>rfl) t0.2.2),.box (.agg [.int x1.router,.int x1.sub,.int x1.len,.vec 3]),.vec 2 (t2.map Rw.v) (ab (λ_=>rfl) t2)]⟩
@[reducible] def Ex:Nat→Type
 | 0=>Int×Nat×List Tbl
 | 1=>Int×Nat×List Rw
 | 2=>(List Rw)
 | 3=>Bool
 | _=>Unit
def oa(r:Tap×List Tbl):AV:=.sl 4 (r.2.map Tbl.v) false
def ob(r:Tap×List Tbl):List (Option Blk):=[some (.box (.agg [.sl 1 (r.1.L.map AV.int) false,.int r.1.p]))]
def uI(L:List Int)(p:Nat)(l:List Tbl)(routers:Int)(I0:(Int×Nat×List Tbl)→Prop)(m0:(Int×Nat×List Tbl)→Nat)(I1:Int×Nat×List Tbl→Tbl→(Int×Nat×List Rw)→Prop)(m1:Int×Nat×List Tbl→Tbl→(Int×Nat×List Rw)→Nat)(I2:Int×Nat×List Tbl→Tbl→Int×Nat×List Rw→(List Rw)→Prop)(I3:Int×Nat×List Tbl→Tbl→Int×Nat×List Rw→(List Rw)→Bool→Prop):Ax Tryz.prog Ex (Tap×List Tbl):=
 (.cmdL (.nilT 7 4) (.loop 0 (Kj L l routers) I0 m0 (0,p,[]) [0,49] λ(t0:Int×Nat×List Tbl) b0 =>
(.br 66 (decide (t0.1<((l.map Tbl.v).length:Int))) (.el 98 Tbl.v l (λR=>Rf (l.map Tbl.v) (ck (decide (0≤t0.1)) (ck (decide (t0.1<(l.length:Int)))
(∀x1,l[t0.1.toNat]?=some x1 →
(R x1))))) λx1 =>
(.req 130 (okT x1) λh2 =>
(.callH [] (Uf x1 h2) 130
(.loop 1 (Ki L l routers t0 x1) (I1 t0 x1) (m1 t0 x1) (0,t0.2.1,x1.rows) [0,1,146,130] λ(t1:Int×Nat×List Rw) b1 =>
(.br 84 (decide (t1.1<((t1.2.2.map Rw.v).length:Int))) (.callH [0] (dY L t1.2.1 3) 100
(.br 132 (!(cA L t1.2.1 3)) (.bk 1 b1 (W (t1.1+1),ae L t1.2.1,t1.2.2) [0,1,2,3])
(.callH [0] (bv L (ae L t1.2.1) 4) 148
(.br 196 ((Mod (ak L (ae L t1.2.1)) 4)==0) (.say (ck (cond (decide (0≤t1.1)) (decide (t1.1<((t1.2.2.map Rw.v).length:Int))) false)) (.stI 276 Rw.v t1.2.2 (λR=>Rf (t1.2.2.map Rw.v) (ck (decide (t1.1.toNat<t1.2.2.length))
(∀y3,t1.2.2[t1.1.toNat]?=some y3 →
((R y3))))) λy3 =>
(.say (λR=>Rf (α:=List AV) ((t1.2.2.map Rw.v).set t1.1.toNat (.agg [.int y3.id,.sl 0 [] true])) (Rf (Rw.v (⟨y3.id,[]⟩:Rw))
R)) (.cmd (.wkS 3 t1.1.toNat (.a [.k,(.s 1)]) Rw.v t1.2.2 (.agg [.int y3.id,.sl 0 [] true]) (⟨y3.id,[]⟩:Rw)) (.bk 1 b1 (W (t1.1+1),ae L (ae L t1.2.1),t1.2.2.set t1.1.toNat (⟨y3.id,[]⟩:Rw)) [0,1,2,3])))))
(.br 228 ((Mod (ak L (ae L t1.2.1)) 4)==1) (.say (ck (cond (decide (0≤t1.1)) (decide (t1.1<((t1.2.2.map Rw.v).length:Int))) false)) (.stI 356 Rw.v t1.2.2 (λR=>Rf (t1.2.2.map Rw.v) (ck (decide (t1.1.toNat<t1.2.2.length))
(∀y4,t1.2.2[t1.1.toNat]?=some y4 →
((R y4))))) λy4 =>
(.say (λR=>Rf (α:=List AV) ((t1.2.2.map Rw.v).set t1.1.toNat (.agg [.int y4.id,.sl 1 [.int x1.router] true])) (Rf (Rw.v (⟨y4.id,[x1.router]⟩:Rw))
R)) (.cmd (.wkS 3 t1.1.toNat (.a [.k,(.s 1)]) Rw.v t1.2.2 (.agg [.int y4.id,.sl 1 [.int x1.router] true]) (⟨y4.id,[x1.router]⟩:Rw)) (.bk 1 b1 (W (t1.1+1),ae L (ae L t1.2.1),t1.2.2.set t1.1.toNat (⟨y4.id,[x1.router]⟩:Rw)) [0,1,2,3])))))
(.callH [0] (bv L (ae L (ae L t1.2.1)) (W (routers+1))) 276
(.join 2 (Kh L l routers t0 x1 t1) (λ(t2:List Rw)=>I2 t0 x1 t1 t2) (λb2=>(.br 388 ((W (1+(Mod (ak L (ae L (ae L t1.2.1))) (W (routers+1))))) != x1.router) (.say (ck (cond (decide (0≤t1.1)) (decide (t1.1<((t1.2.2.map Rw.v).length:Int))) false)) (.stI 500 Rw.v t1.2.2 (λR=>Rf (t1.2.2.map Rw.v) (ck (decide (t1.1.toNat<t1.2.2.length))
(∀y5,t1.2.2[t1.1.toNat]?=some y5 →
((R y5))))) λy5 =>
(.say (λR=>Rf (α:=List AV) ((t1.2.2.map Rw.v).set t1.1.toNat (.agg [.int y5.id,.sl 1 [.int (W (1+(Mod (ak L (ae L (ae L t1.2.1))) (W (routers+1)))))] true])) (Rf (Rw.v (⟨y5.id,[W (1+(Mod (ak L (ae L (ae L t1.2.1))) (W (routers+1))))]⟩:Rw))
R)) (.cmd (.wkS 3 t1.1.toNat (.a [.k,(.s 1)]) Rw.v t1.2.2 (.agg [.int y5.id,.sl 1 [.int (W (1+(Mod (ak L (ae L (ae L t1.2.1))) (W (routers+1)))))] true]) (⟨y5.id,[W (1+(Mod (ak L (ae L (ae L t1.2.1))) (W (routers+1))))]⟩:Rw)) (.bk 2 b2 ((t1.2.2.set t1.1.toNat (⟨y5.id,[W (1+(Mod (ak L (ae L (ae L t1.2.1))) (W (routers+1))))]⟩:Rw)):(List Rw)) [0,1,2,3])))))
(.bk 2 b2 ((t1.2.2):(List Rw)) [0,1,2,3]))) λ(t2:List Rw) =>
(.callH [0] (bv L (ae L (ae L (ae L t1.2.1))) routers) 36
(.join 3 (Kg L l routers t0 x1 t1 t2) (λ(t3:Bool)=>I3 t0 x1 t1 t2 t3) (λb3=>(.br 148 (decide ((W (1+(Mod (ak L (ae L (ae L t1.2.1))) (W (routers+1)))))<(W (1+(Mod (ak L (ae L (ae L (ae L t1.2.1)))) routers))))) (.br 244 ((W (1+(Mod (ak L (ae L (ae L t1.2.1))) (W (routers+1))))) != x1.router) (.bk 3 b3 (((W (1+(Mod (ak L (ae L (ae L (ae L t1.2.1)))) routers))) != x1.router):Bool) [0,1,2,3])
(.bk 3 b3 ((false):Bool) [0,1,2,3]))
(.bk 3 b3 ((false):Bool) [0,1,2,3]))) λ(t3:Bool) =>
(.br 4 t3 (.say (ck (cond (decide (0≤t1.1)) (decide (t1.1<((t2.map Rw.v).length:Int))) false)) (.stI 132 Rw.v t2 (λR=>Rf (t2.map Rw.v) (ck (decide (t1.1.toNat<t2.length))
(∀y6,t2[t1.1.toNat]?=some y6 →
((R y6))))) λy6 =>
(.say (λR=>Rf (α:=List AV) ((t2.map Rw.v).set t1.1.toNat (.agg [.int y6.id,.sl 1 [.int (W (1+(Mod (ak L (ae L (ae L t1.2.1))) (W (routers+1))))),.int (W (1+(Mod (ak L (ae L (ae L (ae L t1.2.1)))) routers)))] true])) (Rf (Rw.v (⟨y6.id,[W (1+(Mod (ak L (ae L (ae L t1.2.1))) (W (routers+1)))),W (1+(Mod (ak L (ae L (ae L (ae L t1.2.1)))) routers))]⟩:Rw))
R)) (.cmd (.wkS 3 t1.1.toNat (.a [.k,(.s 1)]) Rw.v t2 (.agg [.int y6.id,.sl 1 [.int (W (1+(Mod (ak L (ae L (ae L t1.2.1))) (W (routers+1))))),.int (W (1+(Mod (ak L (ae L (ae L (ae L t1.2.1)))) routers)))] true]) (⟨y6.id,[W (1+(Mod (ak L (ae L (ae L t1.2.1))) (W (routers+1)))),W (1+(Mod (ak L (ae L (ae L (ae L t1.2.1)))) routers))]⟩:Rw)) (.bk 1 b1 (W (t1.1+1),ae L (ae L (ae L (ae L t1.2.1))),t2.set t1.1.toNat (⟨y6.id,[W (1+(Mod (ak L (ae L (ae L t1.2.1))) (W (routers+1)))),W (1+(Mod (ak L (ae L (ae L (ae L t1.2.1)))) routers))]⟩:Rw)) [0,1,2,3])))))
(.bk 1 b1 (W (t1.1+1),ae L (ae L (ae L (ae L t1.2.1))),t2) [0,1,2,3])))))))))))
(.own 116 (.say (λR=>Idt (t0.2.2.map Tbl.v) (Rf (α:=List AV) [.agg [.int x1.router,.int x1.sub,.int x1.len,.vec 3]]
(ck (decide ((t0.2.2.map Tbl.v).length+1≤1048576))
R))) (.app 132 (λy:AV=>y) (t0.2.2.map Tbl.v) [.agg [.int x1.router,.int x1.sub,.int x1.len,.vec 3]]
(.say (λR=>Rf (α:=List AV) (t1.2.2.map Rw.v) (Et Tbl.v t0.2.2 (⟨x1.router,x1.sub,x1.len,t1.2.2⟩:Tbl) (t0.2.2.map Tbl.v) (.agg [.int x1.router,.int x1.sub,.int x1.len,.vec 3])∧Rf (Tbl.v (⟨x1.router,x1.sub,x1.len,t1.2.2⟩:Tbl))
R)) (.cmd (.frzV 3 132 t0.2.2.length Tbl.v (t0.2.2++[(⟨x1.router,x1.sub,x1.len,t1.2.2⟩:Tbl)]) (.agg [.int x1.router,.int x1.sub,.int x1.len,.vec 3]) (⟨x1.router,x1.sub,x1.len,t1.2.2⟩:Tbl) (t1.2.2.map Rw.v) (ab (λ_=>rfl) t1.2.2)) (.bk 0 b0 (W (t0.1+1),t1.2.1,A4 t0.2.2 (⟨x1.router,x1.sub,x1.len,t1.2.2⟩:Tbl)) [0,132])))))))))))
(.say (Rf (t0.2.2.map Tbl.v)) (.cmdL (.frzE 1 (t0.2.2.map Tbl.v) (ab (λ_=>rfl) t0.2.2)) (.retH ((⟨L,t0.2.1⟩:Tap),t0.2.2) ⟨[(6,.k,.sl 4 (t0.2.2.map Tbl.v) false)],[.box (.agg [.sl 1 (L.map AV.int) false,.int t0.2.1])]⟩ [0]))))))
def zW(L:List Int)(p:Nat)(l:List Tbl)(routers:Int)(I0:(Int×Nat×List Tbl)→Prop)(m0:(Int×Nat×List Tbl)→Nat)(I1:Int×Nat×List Tbl→Tbl→(Int×Nat×List Rw)→Prop)(m1:Int×Nat×List Tbl→Tbl→(Int×Nat×List Rw)→Nat)(I2:Int×Nat×List Tbl→Tbl→Int×Nat×List Rw→(List Rw)→Prop)(I3:Int×Nat×List Tbl→Tbl→Int×Nat×List Rw→(List Rw)→Bool→Prop)(r0:Tap×List Tbl):=(uI L p l routers I0 m0 I1 m1 I2 I3).vc oa ob r0
def LW(l:List Tbl):Prop:=l.length≤1000∧∀b∈l,okT b
structure rF (L:List Int) (n r:Int) (rows:List Rw) (p:Nat) (j:Nat) (q:Nat) (rs:List Rw):Prop where
  le:j≤rows.length
  ex:∃D:List Rw,D.length=j∧rs=D++rows.drop j∧(D++(oc L n r (rows.drop j) q).1,(oc L n r (rows.drop j) q).2)=oc L n r rows p
theorem rF.len{L:List Int}{n r:Int}{rows:List Rw}{p j q:Nat}{rs:List Rw}(h:rF L n r rows p j q rs):rs.length=rows.length:=by
 obtain⟨D,h1,rfl,_⟩:=h.ex
 have:=h.le
 rw[List.length_append,List.length_drop];omega
theorem rF.at{L:List Int}{n r:Int}{rows:List Rw}{p j q:Nat}{rs:List Rw}(h:rF L n r rows p j q rs)(hj:j<rows.length):rs[j]?=some (rows[j]'hj):=by
 obtain⟨D,h1,rfl,_⟩:=h.ex
 rw[List.getElem?_append_right (by omega),h1,Nat.sub_self,List.getElem?_drop,Nat.add_zero,List.getElem?_eq_getElem hj]
theorem rF.step{L:List Int}{n r:Int}{rows:List Rw}{p j q:Nat}{rs:List Rw}(h:rF L n r rows p j q rs){x:Rw}(hx:rs[j]?=some x)(hj:j<rows.length){rs':List Rw}{q':Nat}(e1:rs'=rs.set j (iC L n r x q).1)(e2:q'=(iC L n r x q).2):rF L n r rows p (j+1) q' rs':=by
 have hx2:=h.at hj
 rw[hx]at hx2
 have hx2:=Option.some.inj hx2
 obtain⟨D,h1,rfl,h3⟩:=h.ex
 have hd:rows.drop j=x::rows.drop (j+1):=by rw[List.drop_eq_getElem_cons hj,hx2]
 rw[hd]at h3 e1
 refine⟨hj,D++[(iC L n r x q).1],by simp[h1],?_,?_⟩
 ·rw[e1,List.set_append_right _ _ (by omega),h1,Nat.sub_self,List.set_cons_zero];simp
 ·rw[←h3,oc,e2];simp
theorem sc{α:Type}{l:List α}{j:Nat}{x:α}(h:l[j]?=some x):l.set j x=l:=by
 obtain⟨h1,h2⟩:=List.getElem?_eq_some_iff.mp h
 rw[←h2];exact List.set_getElem_self h1
theorem PP(L:List Int)(p:Nat)(l:List Tbl)(n:Int)(h:LW l)(ok:Ey L p l n):∃I0 m0 I1 m1 I2 I3,zW L p l n I0 m0 I1 m1 I2 I3 ((⟨L,(gU L n l p).2⟩:Tap),(gU L n l p).1):=by
 refine⟨λs=>∃k:Nat,s.1=k∧k≤l.length∧s.2.2.length=k∧(s.2.2++(gU L n (l.drop k) s.2.1).1,(gU L n (l.drop k) s.2.1).2)=gU L n l p,λs=>l.length-s.1.toNat,
  λs b u=>∃j:Nat,u.1=j∧rF L n b.router b.rows s.2.1 j u.2.1 u.2.2,λs b u=>b.rows.length-u.1.toNat,
  λs b u v=>∀x,u.2.2[u.1.toNat]?=some x→v=if W (1+Mod (ak L (ae L (ae L u.2.1))) (W (n+1)))≠b.router then u.2.2.set u.1.toNat ⟨x.id,[W (1+Mod (ak L (ae L (ae L u.2.1))) (W (n+1)))]⟩else u.2.2,
  λs b u v t=>t=decide (W (1+Mod (ak L (ae L (ae L u.2.1))) (W (n+1)))<W (1+Mod (ak L (ae L (ae L (ae L u.2.1)))) n)∧W (1+Mod (ak L (ae L (ae L u.2.1))) (W (n+1)))≠b.router∧W (1+Mod (ak L (ae L (ae L (ae L u.2.1)))) n)≠b.router),?_⟩
 dsimp only[zW,uI,Ex,Ax.vp,Ax.vc];simp only[vcU,rfU,List.length_map]
 obtain⟨hl,hb⟩:=h
 refine⟨⟨0,rfl,by omega,rfl,rfl⟩,?_⟩
 rintro⟨i,q,out⟩ ⟨k,hi,hk,ho,hw⟩
 simp only at hi ho hw ⊢
 subst hi
 refine⟨λc=>⟨by omega,c,λb hx=>⟨hb b (bq hx),⟨0,rfl,by omega,[],rfl,rfl,rfl⟩,?_⟩⟩,λc=>?_⟩
 ·rw[Int.toNat_natCast]at hx
  have hbr:=(hb b (aP hx)).1
  rintro⟨j0,q1,rs⟩ ⟨j,hj,hI⟩
  simp only at hj hI ⊢
  subst hj
  have hlen:=hI.len
  have hjl:=hI.le
  simp only[Int.toNat_natCast,hlen]
  refine⟨λc1=>?_,λc1=>?_⟩
  ·have hj:j<b.rows.length:=by omega
   have hat:=hI.at hj
   have hw1:W ((j:Int)+1)=((j+1:Nat):Int):=aU (n:=b.rows.length) hj (by omega)
   rw[hw1]
   have fin:∀{rs':List Rw} {q':Nat},rs'=rs.set j (iC L n b.router (b.rows[j]'hj) q1).1→q'=(iC L n b.router (b.rows[j]'hj) q1).2→(∃j':Nat,((j+1:Nat):Int)=j'∧rF L n b.router b.rows q j' q' rs')∧b.rows.length-((j+1:Nat):Int).toNat<b.rows.length-j:=λe1 e2 =>
    ⟨⟨j+1,rfl,hI.step hat hj e1 e2⟩,by omega⟩
   generalize b.rows[j]'hj=x at hat fin
   refine⟨λe=>?_,λe=>?_⟩
   ·have e:cA L q1 3=false:=by simpa using e
    have ex:iC L n b.router x q1=(x,ae L q1):=by rw[iC,if_pos e]
    exact fin (by rw[ex,sc hat]) (by rw[ex])
   have e:¬cA L q1 3=false:=by simpa using e
   refine⟨λe0=>⟨bA (by omega) c1,hj,λy hy=>?_⟩,λe0=>⟨λe1=>⟨bA (by omega) c1,hj,λy hy=>?_⟩,λe1=>⟨⟨λe2=>⟨bA (by omega) c1,hj,λy hy x2 hx2=>?_⟩,λe2 x2 hx2=>?_⟩,?_⟩⟩⟩
   ·rw[hat]at hy;cases hy
    have ex:iC L n b.router x q1=(⟨x.id,[]⟩,ae L (ae L q1)):=by rw[iC,if_neg e,if_pos (eq_of_beq e0)]
    exact fin (by rw[ex]) (by rw[ex])
   ·rw[hat]at hy;cases hy
    have ex:iC L n b.router x q1=(⟨x.id,[b.router]⟩,ae L (ae L q1)):=by rw[iC,if_neg e,if_neg (by simpa using e0),if_pos (eq_of_beq e1)]
    exact fin (by rw[ex]) (by rw[ex])
   ·rw[hat]at hy hx2;cases hy;cases hx2
    rw[if_pos (by simpa using e2)]
   ·rw[if_neg (by simpa using e2)]
   rintro(v:List Rw) hv
   have hv:=hv x hat
   generalize hA:W (1+Mod (ak L (ae L (ae L q1))) (W (n+1)))=A at hv ⊢
   generalize hM:W (1+Mod (ak L (ae L (ae L (ae L q1)))) n)=M
   have ex:iC L n b.router x q1=(⟨x.id,if A<M∧A≠b.router∧M≠b.router then [A,M]else if A≠b.router then [A]else x.nx⟩,ae L (ae L (ae L (ae L q1)))):=by
    rw[iC,if_neg e,if_neg (by simpa using e0),if_neg (by simpa using e1),hA,hM]
   refine⟨⟨λf1=>⟨λf2=>?_,λf2=>?_⟩,λf1=>?_⟩,?_⟩
   ·have f2:A≠b.router:=by simpa using f2
    rw[Bool.eq_iff_iff,decide_eq_true_iff,bne_iff_ne];simp[f1,f2]
   ·have f2:A=b.router:=by simpa using f2
    simp[f2]
   ·simp[f1]
   rintro _ rfl
   refine⟨λg=>?_,λg=>?_⟩
   ·have g:=of_decide_eq_true g
    rw[if_pos g.2.1]at hv
    subst hv
    rw[List.length_set]
    refine⟨bA (by omega) (by omega),by omega,λy hy=>?_⟩
    rw[List.getElem?_set_self (by omega)]at hy;cases hy
    rw[List.set_set]
    exact fin (by rw[ex,if_pos g]) (by rw[ex])
   ·have g:=of_decide_eq_false g
    by_cases f:A≠b.router
    ·rw[if_pos f]at hv
     exact fin (by rw[hv,ex,if_neg g,if_pos f]) (by rw[ex])
    ·rw[if_neg f]at hv
     exact fin (by rw[hv,ex,if_neg g,if_neg f,sc hat]) (by rw[ex])
  ·have hj:j=b.rows.length:=by omega
   obtain⟨D,d1,d2,d3⟩:=hI.ex
   rw[hj,List.drop_length,oc,List.append_nil]at d3
   rw[hj,List.drop_length,List.append_nil]at d2
   subst d2
   have hd:l.drop k=b::l.drop (k+1):=by
    obtain⟨h1,h2⟩:=List.getElem?_eq_some_iff.mp hx
    rw[List.drop_eq_getElem_cons h1,h2]
   rw[hd,gU,Kf,←d3]at hw
   have hkl:k<l.length:=by omega
   have hw1:W ((k:Int)+1)=((k+1:Nat):Int):=aU (n:=l.length) hkl (by omega)
   rw[hw1]
   exact⟨by omega,trivial,⟨k+1,rfl,hkl,by simp[ho],by rw[←hw];simp⟩,by omega⟩
 ·have:k=l.length:=by omega
  rw[this,List.drop_length,gU,List.append_nil]at hw
  rw[←hw]
def PQ(L:List Int)(p:Nat)(l:List Tbl)(routers:Int)(h:LW l):HC Tryz.prog:=⟨10,[.k,(.s 4),.k],[.ref 0 0,.sl 4 (l.map Tbl.v) false,.int routers],[.box (.agg [.sl 1 (L.map AV.int) false,.int p])],oa ((⟨L,(gU L routers l p).2⟩:Tap),(gU L routers l p).1),ob ((⟨L,(gU L routers l p).2⟩:Tap),(gU L routers l p).1),bc.of_okh λok ok2=>have ok:Ey L p l routers:=⟨ok,ok2 _ (by simp)⟩;(PP L p l routers h ok).elim λI0 h=>h.elim λm0 h=>h.elim λI1 h=>h.elim λm1 h=>h.elim λI2 h=>h.elim λI3 h=>cq (sh:=(.s 4)) (enc:=oa) (hB:=ob) (a:=(uI L p l routers I0 m0 I1 m1 I2 I3).an) h (by kernel_rfl),ah (by kernel_rfl),eT.of (by simp[hcB,cC,AV.belB,allB,ew,dH,oa,ob,ab (v:=AV.int) (λ_=>rfl),ab (v:=Tbl.v) (λ_=>rfl)])⟩
def kb(L:List Int)(p:Nat):Tpl×Nat:=if cA L (bP L p 6 0).2 10=true then jO L (ae L (bP L p 6 0).2) 5 else((bP L p 6 0).1,ae L (bP L p 6 0).2)
def j6(L:List Int)(p:Nat):Tpl×Nat:=if cA L (kb L p).2 12=true then bP L (ae L (kb L p).2) 5 2 else((kb L p).1,ae L (kb L p).2)
def eD(L:List Int)(p:Nat):(Tpl×Pln)×Nat:=(((j6 L p).1,(iP L (j6 L p).2 (j6 L p).1 8).1),(iP L (j6 L p).2 (j6 L p).1 8).2)
def IG(L:List Int)(p:Nat):=okL [.ref 0 0]∧(.box (.agg [.sl 1 (L.map AV.int) false,.int p]):Blk).ok
def NE(L:List Int)(t0:List Lnk×List Rtr×Nat):NF:=⟨[(0,.k,.ref 0 0),(2,.k,.ref 1 0),(3,.k,.ref 2 0),(4,.k,.ref 3 0)],[.box (.agg [.sl 1 (L.map AV.int) false,.int t0.2.2]),.box (.agg [.sl 0 [] true,.sl 0 [] true]),.box (.agg [.int 0,.int 0,.sl 0 [] true]),.box (.agg [.vec 4,.vec 5]),.vec 2 (t0.2.1.map Rtr.v) (ab (λ_=>rfl) t0.2.1),.vec 5 (t0.1.map Lnk.v) (ab (λ_=>rfl) t0.1)]⟩
def ND(L:List Int)(t1:List Lnk×List Rtr×Nat):NF:=⟨[(0,.k,.ref 0 0),(2,.k,.ref 1 0),(3,.k,.ref 2 0),(4,.k,.ref 3 0)],[.box (.agg [.sl 1 (L.map AV.int) false,.int t1.2.2]),.box (.agg [.sl 0 [] true,.sl 0 [] true]),.box (.agg [.int 0,.int 0,.sl 0 [] true]),.box (.agg [.vec 4,.vec 5]),.vec 2 (t1.2.1.map Rtr.v) (ab (λ_=>rfl) t1.2.1),.vec 5 (t1.1.map Lnk.v) (ab (λ_=>rfl) t1.1)]⟩
@[reducible] def IF:Nat→Type
 | 0=>(List Lnk)×List Rtr×Nat
 | 1=>(List Lnk)×List Rtr×Nat
 | _=>Unit
def qH(r:Tap×Tpl×Pln):AV:=.tup [.agg [.sl 2 (r.2.1.rs.map Rtr.v) false,.sl 5 (r.2.1.ls.map Lnk.v) false],.agg [.int r.2.2.sub,.int r.2.2.len,.sl 2 (r.2.2.es.map Edg.v) false]]
def qI(r:Tap×Tpl×Pln):List (Option Blk):=[some (.box (.agg [.sl 1 (r.1.L.map AV.int) false,.int r.1.p]))]
def yA(L:List Int)(p:Nat)(I0:(List Lnk×List Rtr×Nat)→Prop)(I1:List Lnk×List Rtr×Nat→(List Lnk×List Rtr×Nat)→Prop):Ax Tryz.prog IF (Tap×Tpl×Pln):=
 (.req 49 (1≤6∧6≤20) λh1 =>
(.callH [0] (vm L p 6 0 h1) 49
(.join 0 (NE L) (λ(t0:List Lnk×List Rtr×Nat)=>I0 t0) (λb0=>(.callH [0] (dY L ((bP L p 6 0).2) 10) 113
(.br 129 (cA L ((bP L p 6 0).2) 10) (.req 145 (1≤5∧5≤20) λh2 =>
(.callH [0] (Sw L (ae L ((bP L p 6 0).2)) 5 h2) 145
(.bk 0 b0 (((jO L (ae L ((bP L p 6 0).2)) 5).1).ls,((jO L (ae L ((bP L p 6 0).2)) 5).1).rs,(jO L (ae L ((bP L p 6 0).2)) 5).2) [0,1,17,65,145,146])))
(.bk 0 b0 (((bP L p 6 0).1).ls,((bP L p 6 0).1).rs,ae L ((bP L p 6 0).2)) [0,1,17,65,49,50])))) λ(t0:List Lnk×List Rtr×Nat) =>
(.join 1 (ND L) (λ(t1:List Lnk×List Rtr×Nat)=>I1 t0 t1) (λb1=>(.callH [0] (dY L t0.2.2 12) 22
(.br 38 (cA L t0.2.2 12) (.req 54 (1≤5∧5≤20) λh3 =>
(.callH [0] (vm L (ae L t0.2.2) 5 2 h3) 54
(.bk 1 b1 (((bP L (ae L t0.2.2) 5 2).1).ls,((bP L (ae L t0.2.2) 5 2).1).rs,(bP L (ae L t0.2.2) 5 2).2) [0,1,2,3,54,55])))
(.bk 1 b1 (t0.1,t0.2.1,ae L t0.2.2) [0,1,2,3,4,5])))) λ(t1:List Lnk×List Rtr×Nat) =>
(.say (Rf (t1.2.1.map Rtr.v)) (.cmd (.frzE 4 (t1.2.1.map Rtr.v) (ab (λ_=>rfl) t1.2.1)) (.say (Rf (t1.1.map Lnk.v)) (.cmd (.frzE 5 (t1.1.map Lnk.v) (ab (λ_=>rfl) t1.1)) (.req 54 ((⟨t1.2.1,t1.1⟩:Tpl).rs.length≤100) λh4 =>
(.callH [0] (Rt L t1.2.2 (⟨t1.2.1,t1.1⟩:Tpl) 8 h4) 54
(.retH ((⟨L,(iP L t1.2.2 (⟨t1.2.1,t1.1⟩:Tpl) 8).2⟩:Tap),(⟨t1.2.1,t1.1⟩:Tpl),(iP L t1.2.2 (⟨t1.2.1,t1.1⟩:Tpl) 8).1) ⟨[(2,.k,.ref 1 0),(3,.k,.ref 2 0)],[.box (.agg [.sl 1 (L.map AV.int) false,.int ((((iP L t1.2.2 (⟨t1.2.1,t1.1⟩:Tpl) 8).2):Nat):Int)]),.box (.agg [.sl 2 (t1.2.1.map Rtr.v) false,.sl 5 (t1.1.map Lnk.v) false]),.box (.agg [.int (((iP L t1.2.2 (⟨t1.2.1,t1.1⟩:Tpl) 8).1).sub),.int (((iP L t1.2.2 (⟨t1.2.1,t1.1⟩:Tpl) 8).1).len),.sl 2 ((((iP L t1.2.2 (⟨t1.2.1,t1.1⟩:Tpl) 8).1).es).map Edg.v) false])]⟩ [0,1,2])))))))))))
def C5(L:List Int)(p:Nat)(I0:(List Lnk×List Rtr×Nat)→Prop)(I1:List Lnk×List Rtr×Nat→(List Lnk×List Rtr×Nat)→Prop)(r0:Tap×Tpl×Pln):=(yA L p I0 I1).vc qH qI r0
theorem TS(L:List Int)(p:Nat)(ok:IG L p):∃I0 I1,C5 L p I0 I1 ((⟨L,(eD L p).2⟩:Tap),(eD L p).1.1,(eD L p).1.2):=by
 refine⟨λs=>s=((kb L p).1.ls,(kb L p).1.rs,(kb L p).2),λ_ s=>s=((j6 L p).1.ls,(j6 L p).1.rs,(j6 L p).2),?_⟩
 dsimp only[C5,yA,IF,Ax.vp,Ax.vc];simp only[vcU,rfU,List.length_map]
 have key:∀(L:List Int) (p:Nat) (m n:Int),1≤m→m≤20→(bP L p m n).1.rs.length≤50:=λL p m n h1 h2=>by
  have hk:=AD (L:=L) (p:=p) (m:=m) (by omega)
  have hb:(lu L p m).rs.length≤20:=by unfold lu;simp only[gZ];omega
  unfold bP
  split
  ·generalize lu L p m=g at hb
   unfold Fd
   split
   ·simp;omega
   ·(repeat' split)<;>simp[nc]<;>omega
  ·exact Nat.le_trans hb (by omega)
 have hmix:∀(f i:Nat) (rs:List Rtr) (p:Nat),(pQ L f i rs p).1.length=rs.length:=λf=>by
  induction f with
  | zero=>intro i rs p;rfl
  | succ f ih =>
   intro i rs p
   rw[pQ]
   split
   ·rw[ih,List.length_set]
   ·rfl
 have hA:(kb L p).1.rs.length≤50:=by
  unfold kb
  split
  ·have:=key L (ae L (bP L p 6 0).2) 5 0 (by omega) (by omega)
   unfold jO GM;rw[hmix];exact this
  ·exact key L p 6 0 (by omega) (by omega)
 have hG:(j6 L p).1.rs.length≤50:=by
  unfold j6
  split
  ·exact key _ _ _ _ (by omega) (by omega)
  ·exact hA
 refine⟨by omega,⟨λc=>⟨by omega,by rw[kb,if_pos c]⟩,λc=>by rw[kb,if_neg (by rw[c];simp)]⟩,?_⟩
 rintro _ rfl
 refine⟨⟨λc=>⟨by omega,by rw[j6,if_pos c]⟩,λc=>by rw[j6,if_neg (by rw[c];simp)]⟩,?_⟩
 rintro _ rfl
 exact⟨by simp only;omega,rfl⟩
def TT(L:List Int)(p:Nat):HC Tryz.prog:=⟨6,[.k],[.ref 0 0],[.box (.agg [.sl 1 (L.map AV.int) false,.int p])],qH ((⟨L,(eD L p).2⟩:Tap),(eD L p).1.1,(eD L p).1.2),qI ((⟨L,(eD L p).2⟩:Tap),(eD L p).1.1,(eD L p).1.2),bc.of_okh λok ok2=>have ok:IG L p:=⟨ok,ok2 _ (by simp)⟩;(TS L p ok).elim λI0 h=>h.elim λI1 h=>cq (sh:=(.a [(.a [(.s 2),(.s 5)]),(.a [.k,.k,(.s 2)])])) (enc:=qH) (hB:=qI) (a:=(yA L p I0 I1).an) h (by kernel_rfl),ah (by kernel_rfl),eT.of (by simp[hcB,cC,AV.belB,allB,ew,dH,qH,qI,ab (v:=AV.int) (λ_=>rfl)])⟩
def eI:Tpl:=⟨[⟨1,true⟩,⟨2,true⟩,⟨3,true⟩,⟨4,true⟩],[⟨1,2,1,1,0⟩,⟨1,4,1,1,0⟩,⟨2,3,1,1,0⟩,⟨3,4,1,1,0⟩]⟩
def Fy:Prop:=okL []
def l9(r:Tpl):AV:=Tpl.v r
def l8:Ax Tryz.prog noS (Tpl):=
 (.ret ((⟨[(⟨1,true⟩:Rtr),(⟨2,true⟩:Rtr),(⟨3,true⟩:Rtr),(⟨4,true⟩:Rtr)],[(⟨1,2,1,1,0⟩:Lnk),(⟨1,4,1,1,0⟩:Lnk),(⟨2,3,1,1,0⟩:Lnk),(⟨3,4,1,1,0⟩:Lnk)]⟩:Tpl)))
def nt(r0:Tpl):=(l8).vp l9 r0
theorem Fx(ok:Fy):nt eI:=by
 dsimp only[nt,l8,noS,Ax.vp,Ax.vc];simp only[vcU,rfU,List.length_map]
 rfl
def sj:PC Tryz.prog:=⟨29,[],[],l9 eI,ao.of_ok λok=>aj (sh:=(.a [(.s 2),(.s 5)])) (enc:=l9) (a:=(l8).an) (Fx ok) (by kernel_rfl) (AV.pureB_ok rfl),ah (by kernel_rfl)⟩
def Pa:Prop:=okL []
def rA(r:Bool):AV:=.bool r
def rz:Ax Tryz.prog noS (Bool):=
 (.callP (sj )
(.callP (yz eI (⟨0,8,[(⟨2,1⟩:Edg),(⟨3,2⟩:Edg)]⟩:Pln) 1 2 1)
(.callP (sj )
(.callP (yz eI (⟨0,8,[(⟨2,1⟩:Edg),(⟨3,2⟩:Edg)]⟩:Pln) 1 2 2)
(.br 400 ((cQ eI (⟨0,8,[(⟨2,1⟩:Edg),(⟨3,2⟩:Edg)]⟩:Pln) 1 2 1).2) (.br 448 ((cQ eI (⟨0,8,[(⟨2,1⟩:Edg),(⟨3,2⟩:Edg)]⟩:Pln) 1 2 2).2) (.callP (qi ((cQ eI (⟨0,8,[(⟨2,1⟩:Edg),(⟨3,2⟩:Edg)]⟩:Pln) 1 2 1).1) [4,3,2])
(.br 528 (decide (((cQ eI (⟨0,8,[(⟨2,1⟩:Edg),(⟨3,2⟩:Edg)]⟩:Pln) 1 2 1).1)=[4,3,2])) (.callP (qi ((cQ eI (⟨0,8,[(⟨2,1⟩:Edg),(⟨3,2⟩:Edg)]⟩:Pln) 1 2 2).1) [4])
(.ret (decide (((cQ eI (⟨0,8,[(⟨2,1⟩:Edg),(⟨3,2⟩:Edg)]⟩:Pln) 1 2 2).1)=[4]))))
(.ret (false))))
(.ret (false)))
(.ret (false)))))))
def uA(r0:Bool):=(rz).vp rA r0
theorem OZ(ok:Pa):uA true:=by
 dsimp only[uA,rz,noS,Ax.vp,Ax.vc];simp only[vcU,rfU,List.length_map]
 have h1:cQ eI ⟨0,8,[⟨2,1⟩,⟨3,2⟩]⟩ 1 2 1=([4,3,2],true):=by kernel_rfl
 have h2:cQ eI ⟨0,8,[⟨2,1⟩,⟨3,2⟩]⟩ 1 2 2=([4],true):=by kernel_rfl
 rw[h1,h2]
 simp
def Df:PC Tryz.prog:=⟨8,[],[],rA true,ao.of_ok λok=>aj (sh:=.k) (enc:=rA) (a:=(rz).an) (OZ ok) (by kernel_rfl) (AV.pureB_ok rfl),ah (by kernel_rfl)⟩
theorem iK{L:List Int}{p:Nat}{m n:Int}(h1:1≤m)(h2:m≤20):(bP L p m n).1.rs.length≤50:=by
 have hk:=AD (L:=L) (p:=p) (m:=m) (by omega)
 have hb:(lu L p m).rs.length≤20:=by unfold lu;simp only[gZ];omega
 unfold bP
 split
 ·generalize lu L p m=g at hb
  unfold Fd
  split
  ·simp;omega
  ·(repeat' split)<;>simp[nc]<;>omega
 ·exact Nat.le_trans hb (by omega)
theorem tA{t:Tpl}:∀{n:List Int} {s:List Int×List Int},(n.foldl (fS t) s).2.length≤s.2.length+n.length
 | [],s=>by simp
 | q::n,s=>by
  have h1:=tA (t:=t) (n:=n) (s:=fS t s q)
  have h2:(fS t s q).2.length≤s.2.length+1:=by
   unfold fS
   split
   ·exact tb _ _
   ·split<;>simp
  rw[List.foldl_cons,List.length_cons];omega
theorem tv{t:Tpl}{d:List Int}:∀{f i:Nat} {seen out:List Int},(tw t d f i seen out).length≤out.length+f * t.rs.length
 | 0,i,seen,out=>by simp[tw]
 | f+1,i,seen,out=>by
  rw[tw]
  split
  ·rename_i x _
   have h1:=tv (t:=t) (d:=d) (f:=f) (i:=i+1) (seen:=((bD t d x).foldl (fS t) (seen,out)).1) (out:=((bD t d x).foldl (fS t) (seen,out)).2)
   have h2:=tA (t:=t) (n:=bD t d x) (s:=(seen,out))
   have h3:=rW t d x
   simp only at h2
   rw[Nat.succ_mul];omega
  ·exact Nat.le_add_right _ _
theorem HE{t:Tpl}{f g:Int}:(ik t f g).length≤25 * t.rs.length:=by
 unfold ik
 split
 ·simp
 ·have:=tv (t:=t) (d:=to6 t g) (f:=25) (i:=0) (seen:=[f]) (out:=[])
  simpa using this
theorem GP{L:List Int}:∀(f i:Nat) (rs:List Rtr) (p:Nat),(pQ L f i rs p).1.length=rs.length:=λf=>by
 induction f with
 | zero=>intro i rs p;rfl
 | succ f ih =>
  intro i rs p
  rw[pQ]
  split
  ·rw[ih,List.length_set]
  ·rfl
theorem DX{L:List Int}{p:Nat}:(eD L p).1.1.rs.length≤50:=by
 have hA:(kb L p).1.rs.length≤50:=by
  unfold kb
  split
  ·have:=iK (L:=L) (p:=ae L (bP L p 6 0).2) (m:=5) (n:=0) (by omega) (by omega)
   unfold jO GM;rw[GP];exact this
  ·exact iK (by omega) (by omega)
 show(j6 L p).1.rs.length≤50
 unfold j6
 split
 ·exact iK (by omega) (by omega)
 ·exact hA
theorem rJ{L:List Int}{n:Int}:∀{l:List Tbl} {p:Nat},(gU L n l p).1.length=l.length
 | [],p=>rfl
 | b::l,p=>by rw[gU,List.length_cons,List.length_cons,rJ]
theorem Pg{t:Tpl}{p:Pln}:(uC t p).1.length≤24∧∀b∈(uC t p).1,okT b:=by
 unfold uC
 split
 ·simp
 ·rename_i h
  have hc:aB t=0:=Classical.byContradiction λq=>h (.inl q)
  have hp:bd p=true:=by
   cases q:bd p
   ·exact absurd (.inr q) h
   ·rfl
  have hn:=(aw hc).nr
  have hpl:p.es.length≤24:=by
   unfold bd at hp
   rw[Bool.and_eq_true,decide_eq_true_iff]at hp
   exact hp.1.2.2
  constructor
  ·have:∀l:List Rtr,(l.flatMap λx=>if x.cap=true then [mN t p x.id]else []).length≤l.length:=λl=>by
    induction l with
    | nil=>simp
    | cons y l ih =>
     rw[List.flatMap_cons,List.length_append,List.length_cons]
     have:(if y.cap=true then [mN t p y.id]else []).length≤1:=by split<;>simp
     omega
   exact Nat.le_trans (this t.rs) hn
  ·intro b hb
   obtain⟨x,hx,hb⟩:=List.mem_flatMap.mp hb
   split at hb
   ·rw[List.mem_singleton.mp hb]
    refine⟨by unfold mN;simp;omega,λr hr=>?_⟩
    unfold mN at hr
    obtain⟨e,he,rfl⟩:=List.mem_map.mp hr
    unfold uy
    simp only
    split
    ·simp
    ·split
     ·have:=HE (t:=t) (f:=x.id) (g:=e.router)
      have:25 * t.rs.length≤25 * 24:=Nat.mul_le_mul_left _ hn
      omega
     ·simp
   ·cases hb
def R0(t:List Int)(raw:List Int)(q:Pkt):=okL [.sl 1 (t.map AV.int) false,.sl 1 (raw.map AV.int) false,.agg [.int q.mode,.int q.sub,.int q.set,.int q.len,.int q.ttl,.int q.ent,.int q.ing,.int q.proto,.val (.int .u64 q.bits),.str q.pay]]
def LB(raw:List Int)(q:Pkt)(t0:Tap):NF:=⟨[(1,.k,.sl 1 (raw.map AV.int) false),(5,.k,.ref 0 0),(7,.k,.ref 1 0)],[.box (.agg [.int q.mode,.int q.sub,.int q.set,.int q.len,.int q.ttl,.int q.ent,.int q.ing,.int q.proto,.val (.int .u64 q.bits),.str q.pay]),.box (.agg [.sl 1 (t0.L.map AV.int) false,.int t0.p])]⟩
def LA(raw:List Int)(q:Pkt)(t0:Tap)(t1:Tpl×Pln):NF:=⟨[(1,.k,.sl 1 (raw.map AV.int) false),(5,.k,.ref 0 0),(7,.k,.ref 1 0),(8,.k,.ref 2 0),(9,.k,.ref 3 0)],[.box (.agg [.int q.mode,.int q.sub,.int q.set,.int q.len,.int q.ttl,.int q.ent,.int q.ing,.int q.proto,.val (.int .u64 q.bits),.str q.pay]),.box (.agg [.sl 1 (t0.L.map AV.int) false,.int ((((eD t0.L t0.p).2):Nat):Int)]),.box (.agg [.sl 2 (t1.1.rs.map Rtr.v) false,.sl 5 (t1.1.ls.map Lnk.v) false]),.box (.agg [.int t1.2.sub,.int t1.2.len,.sl 2 (t1.2.es.map Edg.v) false])]⟩
def L9(raw:List Int)(q:Pkt)(t0:Tap)(t1:Tpl×Pln)(t2:List Tbl):NF:=⟨[(1,.k,.sl 1 (raw.map AV.int) false),(5,.k,.ref 0 0),(7,.k,.ref 1 0),(8,.k,.ref 2 0),(9,.k,.ref 3 0),(10,(.s 4),.sl 4 (t2.map Tbl.v) false)],[.box (.agg [.int q.mode,.int q.sub,.int q.set,.int q.len,.int q.ttl,.int q.ent,.int q.ing,.int q.proto,.val (.int .u64 q.bits),.str q.pay]),.box (.agg [.sl 1 (t0.L.map AV.int) false,.int ((((eD t0.L t0.p).2):Nat):Int)]),.box (.agg [.sl 2 (t1.1.rs.map Rtr.v) false,.sl 5 (t1.1.ls.map Lnk.v) false]),.box (.agg [.int t1.2.sub,.int t1.2.len,.sl 2 (t1.2.es.map Edg.v) false])]⟩
def L8(raw:List Int)(q:Pkt)(t0:Tap)(t1:Tpl×Pln)(t3:List Tbl×Nat):NF:=⟨[(1,.k,.sl 1 (raw.map AV.int) false),(5,.k,.ref 0 0),(7,.k,.ref 1 0),(8,.k,.ref 2 0),(9,.k,.ref 3 0),(10,(.s 4),.sl 4 (t3.1.map Tbl.v) false)],[.box (.agg [.int q.mode,.int q.sub,.int q.set,.int q.len,.int q.ttl,.int q.ent,.int q.ing,.int q.proto,.val (.int .u64 q.bits),.str q.pay]),.box (.agg [.sl 1 (t0.L.map AV.int) false,.int t3.2]),.box (.agg [.sl 2 (t1.1.rs.map Rtr.v) false,.sl 5 (t1.1.ls.map Lnk.v) false]),.box (.agg [.int t1.2.sub,.int t1.2.len,.sl 2 (t1.2.es.map Edg.v) false])]⟩
def L7(raw:List Int)(q:Pkt)(t0:Tap)(t1:Tpl×Pln)(t2:List Tbl)(t4:Bool):NF:=⟨[(1,.k,.sl 1 (raw.map AV.int) false),(5,.k,.ref 0 0),(7,.k,.ref 1 0),(8,.k,.ref 2 0),(9,.k,.ref 3 0),(10,.k,.sl 4 (t2.map Tbl.v) false),(37,.k,.bool t4)],[.box (.agg [.int q.mode,.int q.sub,.int q.set,.int q.len,.int q.ttl,.int q.ent,.int q.ing,.int q.proto,.val (.int .u64 q.bits),.str q.pay]),.box (.agg [.sl 1 (t0.L.map AV.int) false,.int (((ae t0.L ((eD t0.L t0.p).2)):Nat):Int)]),.box (.agg [.sl 2 (t1.1.rs.map Rtr.v) false,.sl 5 (t1.1.ls.map Lnk.v) false]),.box (.agg [.int t1.2.sub,.int t1.2.len,.sl 2 (t1.2.es.map Edg.v) false])]⟩
def L6(raw:List Int)(q:Pkt)(t0:Tap)(t1:Tpl×Pln)(t3:List Tbl×Nat)(x2:Tbl)(t5:Pkt):NF:=⟨[(1,.k,.sl 1 (raw.map AV.int) false),(5,.k,.ref 0 0),(7,.k,.ref 1 0),(8,.k,.ref 2 0),(9,.k,.ref 3 0),(12,.k,.ref 4 0),(13,.k,.ref 5 0)],[.box (.agg [.int q.mode,.int q.sub,.int q.set,.int q.len,.int q.ttl,.int q.ent,.int q.ing,.int q.proto,.val (.int .u64 q.bits),.str q.pay]),.box (.agg [.sl 1 (t0.L.map AV.int) false,.int ((((fT t0.L (ae t0.L t3.2) t1.2).2):Nat):Int)]),.box (.agg [.sl 2 (t1.1.rs.map Rtr.v) false,.sl 5 (t1.1.ls.map Lnk.v) false]),.box (.agg [.int t1.2.sub,.int t1.2.len,.sl 2 (t1.2.es.map Edg.v) false]),.box (.agg [.int x2.router,.int x2.sub,.int x2.len,.sl 2 (x2.rows.map Rw.v) false]),.box (.agg [.int t5.mode,.int t5.sub,.int t5.set,.int t5.len,.int t5.ttl,.int t5.ent,.int t5.ing,.int t5.proto,.val (.int .u64 t5.bits),.str t5.pay])]⟩
def L5(raw:List Int)(t0:Tap)(t1:Tpl×Pln)(t3:List Tbl×Nat)(x2:Tbl)(t6:Pkt):NF:=⟨[(1,.k,.sl 1 (raw.map AV.int) false),(7,.k,.ref 0 0),(8,.k,.ref 1 0),(9,.k,.ref 2 0),(12,.k,.ref 3 0),(13,.k,.ref 4 0)],[.box (.agg [.sl 1 (t0.L.map AV.int) false,.int (((ae t0.L ((fT t0.L (ae t0.L t3.2) t1.2).2)):Nat):Int)]),.box (.agg [.sl 2 (t1.1.rs.map Rtr.v) false,.sl 5 (t1.1.ls.map Lnk.v) false]),.box (.agg [.int t1.2.sub,.int t1.2.len,.sl 2 (t1.2.es.map Edg.v) false]),.box (.agg [.int x2.router,.int x2.sub,.int x2.len,.sl 2 (x2.rows.map Rw.v) false]),.box (.agg [.int t6.mode,.int t6.sub,.int t6.set,.int t6.len,.int t6.ttl,.int t6.ent,.int t6.ing,.int t6.proto,.val (.int .u64 t6.bits),.str t6.pay])]⟩
def L4(raw:List Int)(q:Pkt)(t0:Tap)(t1:Tpl×Pln)(t3:List Tbl×Nat)(x2:Tbl)(t5:Pkt)(t7:Bool):NF:=⟨[(1,.k,.sl 1 (raw.map AV.int) false),(5,.k,.ref 0 0),(7,.k,.ref 1 0),(8,.k,.ref 2 0),(9,.k,.ref 3 0),(12,.k,.ref 4 0),(13,.k,.ref 5 0),(55,.k,.bool t7)],[.box (.agg [.int q.mode,.int q.sub,.int q.set,.int q.len,.int q.ttl,.int q.ent,.int q.ing,.int q.proto,.val (.int .u64 q.bits),.str q.pay]),.box (.agg [.sl 1 (t0.L.map AV.int) false,.int (((ae t0.L ((fT t0.L (ae t0.L t3.2) t1.2).2)):Nat):Int)]),.box (.agg [.sl 2 (t1.1.rs.map Rtr.v) false,.sl 5 (t1.1.ls.map Lnk.v) false]),.box (.agg [.int t1.2.sub,.int t1.2.len,.sl 2 (t1.2.es.map Edg.v) false]),.box (.agg [.int x2.router,.int x2.sub,.int x2.len,.sl 2 (x2.rows.map Rw.v) false]),.box (.agg [.int t5.mode,.int t5.sub,.int t5.set,.int t5.len,.int t5.ttl,.int t5.ent,.int t5.ing,.int t5.proto,.val (.int .u64 t5.bits),.str t5.pay])]⟩
def L3(raw:List Int)(t0:Tap)(t1:Tpl×Pln)(t3:List Tbl×Nat)(x2:Tbl)(t6:Pkt)(t8:List Int):NF:=⟨[(1,.k,.sl 1 (raw.map AV.int) false),(7,.k,.ref 0 0),(8,.k,.ref 1 0),(9,.k,.ref 2 0),(12,.k,.ref 3 0),(13,.k,.ref 4 0),(14,(.s 1),.sl 1 (t8.map AV.int) false)],[.box (.agg [.sl 1 (t0.L.map AV.int) false,.int (((ae t0.L ((fT t0.L (ae t0.L t3.2) t1.2).2)):Nat):Int)]),.box (.agg [.sl 2 (t1.1.rs.map Rtr.v) false,.sl 5 (t1.1.ls.map Lnk.v) false]),.box (.agg [.int t1.2.sub,.int t1.2.len,.sl 2 (t1.2.es.map Edg.v) false]),.box (.agg [.int x2.router,.int x2.sub,.int x2.len,.sl 2 (x2.rows.map Rw.v) false]),.box (.agg [.int t6.mode,.int t6.sub,.int t6.set,.int t6.len,.int t6.ttl,.int t6.ent,.int t6.ing,.int t6.proto,.val (.int .u64 t6.bits),.str t6.pay])]⟩
def L2(raw:List Int)(t0:Tap)(t1:Tpl×Pln)(x2:Tbl)(t6:Pkt)(t9:List Int×Nat):NF:=⟨[(1,.k,.sl 1 (raw.map AV.int) false),(7,.k,.ref 0 0),(8,.k,.ref 1 0),(9,.k,.ref 2 0),(12,.k,.ref 3 0),(13,.k,.ref 4 0),(14,(.s 1),.sl 1 (t9.1.map AV.int) false)],[.box (.agg [.sl 1 (t0.L.map AV.int) false,.int t9.2]),.box (.agg [.sl 2 (t1.1.rs.map Rtr.v) false,.sl 5 (t1.1.ls.map Lnk.v) false]),.box (.agg [.int t1.2.sub,.int t1.2.len,.sl 2 (t1.2.es.map Edg.v) false]),.box (.agg [.int x2.router,.int x2.sub,.int x2.len,.sl 2 (x2.rows.map Rw.v) false]),.box (.agg [.int t6.mode,.int t6.sub,.int t6.set,.int t6.len,.int t6.ttl,.int t6.ent,.int t6.ing,.int t6.proto,.val (.int .u64 t6.bits),.str t6.pay])]⟩
def Gi(raw:List Int)(t0:Tap)(t1:Tpl×Pln)(x2:Tbl)(t6:Pkt)(t8:List Int)(t10:Bool×Nat):NF:=⟨[(1,.k,.sl 1 (raw.map AV.int) false),(7,.k,.ref 0 0),(8,.k,.ref 1 0),(9,.k,.ref 2 0),(12,.k,.ref 3 0),(13,.k,.ref 4 0),(14,.k,.sl 1 (t8.map AV.int) false),(68,.k,.bool t10.1)],[.box (.agg [.sl 1 (t0.L.map AV.int) false,.int t10.2]),.box (.agg [.sl 2 (t1.1.rs.map Rtr.v) false,.sl 5 (t1.1.ls.map Lnk.v) false]),.box (.agg [.int t1.2.sub,.int t1.2.len,.sl 2 (t1.2.es.map Edg.v) false]),.box (.agg [.int x2.router,.int x2.sub,.int x2.len,.sl 2 (x2.rows.map Rw.v) false]),.box (.agg [.int t6.mode,.int t6.sub,.int t6.set,.int t6.len,.int t6.ttl,.int t6.ent,.int t6.ing,.int t6.proto,.val (.int .u64 t6.bits),.str t6.pay])]⟩
def Gh(t1:Tpl×Pln)(x2:Tbl)(t6:Pkt)(t11:List Int):NF:=⟨[(8,.k,.ref 0 0),(9,.k,.ref 1 0),(12,.k,.ref 2 0),(13,.k,.ref 3 0),(14,(.s 1),.sl 1 (t11.map AV.int) false)],[.box (.agg [.sl 2 (t1.1.rs.map Rtr.v) false,.sl 5 (t1.1.ls.map Lnk.v) false]),.box (.agg [.int t1.2.sub,.int t1.2.len,.sl 2 (t1.2.es.map Edg.v) false]),.box (.agg [.int x2.router,.int x2.sub,.int x2.len,.sl 2 (x2.rows.map Rw.v) false]),.box (.agg [.int t6.mode,.int t6.sub,.int t6.set,.int t6.len,.int t6.ttl,.int t6.ent,.int t6.ing,.int t6.proto,.val (.int .u64 t6.bits),.str t6.pay])]⟩
def Gg(raw:List Int)(t1:Tpl×Pln)(x2:Tbl)(t6:Pkt)(t9:List Int×Nat)(t12:Bool):NF:=⟨[(1,.k,.sl 1 (raw.map AV.int) false),(8,.k,.ref 0 0),(9,.k,.ref 1 0),(12,.k,.ref 2 0),(13,.k,.ref 3 0),(14,.k,.sl 1 (t9.1.map AV.int) false),(83,.k,.bool t12)],[.box (.agg [.sl 2 (t1.1.rs.map Rtr.v) false,.sl 5 (t1.1.ls.map Lnk.v) false]),.box (.agg [.int t1.2.sub,.int t1.2.len,.sl 2 (t1.2.es.map Edg.v) false]),.box (.agg [.int x2.router,.int x2.sub,.int x2.len,.sl 2 (x2.rows.map Rw.v) false]),.box (.agg [.int t6.mode,.int t6.sub,.int t6.set,.int t6.len,.int t6.ttl,.int t6.ent,.int t6.ing,.int t6.proto,.val (.int .u64 t6.bits),.str t6.pay])]⟩
def Gf(t1:Tpl×Pln)(x2:Tbl)(t6:Pkt)(t11:List Int)(t13:Int×Out):NF:=⟨[(8,.k,.ref 0 0),(9,.k,.ref 1 0),(12,.k,.ref 2 0),(13,.k,.ref 3 0),(14,.k,.sl 1 (t11.map AV.int) false),(15,.k,.ref 4 0),(16,.k,.int t13.1)],[.box (.agg [.sl 2 (t1.1.rs.map Rtr.v) false,.sl 5 (t1.1.ls.map Lnk.v) false]),.box (.agg [.int t1.2.sub,.int t1.2.len,.sl 2 (t1.2.es.map Edg.v) false]),.box (.agg [.int x2.router,.int x2.sub,.int x2.len,.sl 2 (x2.rows.map Rw.v) false]),.box (.agg [.int t6.mode,.int t6.sub,.int t6.set,.int t6.len,.int t6.ttl,.int t6.ent,.int t6.ing,.int t6.proto,.val (.int .u64 t6.bits),.str t6.pay]),.box (.agg [.val (.int .u64 t13.2.local_),.val (.int .u64 t13.2.lost),.sl 12 (t13.2.copies.map Cpy.v) false])]⟩
def Ge(t13:Int×Out)(t14:Int×Out):NF:=⟨[(15,.k,.ref 0 0),(16,.k,.int t13.1),(17,.k,.ref 1 0),(18,.k,.int t14.1)],[.box (.agg [.val (.int .u64 t13.2.local_),.val (.int .u64 t13.2.lost),.sl 12 (t13.2.copies.map Cpy.v) false]),.box (.agg [.val (.int .u64 t14.2.local_),.val (.int .u64 t14.2.lost),.sl 12 (t14.2.copies.map Cpy.v) false])]⟩
@[reducible] def Gd:Nat→Type
 | 0=>Tap
 | 1=>Tpl×Pln
 | 2=>(List Tbl)
 | 3=>(List Tbl)×Nat
 | 4=>Bool
 | 5=>Pkt
 | 6=>Pkt
 | 7=>Bool
 | 8=>(List Int)
 | 9=>(List Int)×Nat
 | 10=>Bool×Nat
 | 11=>(List Int)
 | 12=>Bool
 | 13=>Int×Out
 | 14=>Int×Out
 | _=>Unit
def wn(r:Bool):AV:=.bool r
def wm(t:List Int)(raw:List Int)(q:Pkt)(I3:Tap→Tpl×Pln→(List Tbl)→(List Tbl×Nat)→Prop)(I6:Tap→Tpl×Pln→(List Tbl)→(List Tbl)×Nat→Tbl→Pkt→Pkt→Prop)(I9:Tap→Tpl×Pln→(List Tbl)→(List Tbl)×Nat→Tbl→Pkt→Pkt→(List Int)→(List Int×Nat)→Prop)(I10:Tap→Tpl×Pln→(List Tbl)→(List Tbl)×Nat→Tbl→Pkt→Pkt→(List Int)→(Bool×Nat)→Prop)(I11:Tap→Tpl×Pln→(List Tbl)→(List Tbl)×Nat→Tbl→Pkt→Pkt→(List Int)→(List Int)×Nat→(List Int)→Prop)(I12:Tap→Tpl×Pln→(List Tbl)→(List Tbl)×Nat→Tbl→Pkt→Pkt→(List Int)→(List Int)×Nat→Bool→Prop):Ax Tryz.prog Gd (Bool):=
 (.pass (.join 0 (LB raw q) (λ(t0:Tap)=>t0=(((⟨t.take 600,0⟩:Tap)):Tap)) (λb0=>(.callH [] (Se t) 48
(.bk 0 b0 (((⟨t.take 600,0⟩:Tap)):Tap) [0,48]))) λ(t0:Tap) =>
(.join 1 (LA raw q t0) (λ(t1:Tpl×Pln)=>t1=(((eD t0.L t0.p).1.1,(eD t0.L t0.p).1.2):Tpl×Pln)) (λb1=>(.callH [1] (TT t0.L t0.p) 18
(.bk 1 b1 ((eD t0.L t0.p).1.1,(eD t0.L t0.p).1.2) [0,1,82,98]))) λ(t1:Tpl×Pln) =>
(.join 2 (L9 raw q t0 t1) (λ(t2:List Tbl)=>t2=(((uC t1.1 t1.2).1):(List Tbl))) (λb2=>(.callP (Vb t1.1 t1.2)
(.bk 2 b2 (((uC t1.1 t1.2).1):(List Tbl)) [0,1,2,3]))) λ(t2:List Tbl) =>
(.br 52 (((t2.map Tbl.v).length:Int)==0) (.callP (Df )
(.ret (true)))
(.join 3 (L8 raw q t0 t1) (λ(t3:List Tbl×Nat)=>I3 t0 t1 t2 t3) (λb3=>(.join 4 (L7 raw q t0 t1 t2) (λ(t4:Bool)=>t4=((cA t0.L ((eD t0.L t0.p).2) 4):Bool)) (λb4=>(.callH [1] (dY t0.L ((eD t0.L t0.p).2) 4) 68
(.bk 4 b4 ((cA t0.L ((eD t0.L t0.p).2) 4):Bool) [0,1,2,3]))) λ(t4:Bool) =>
(.br 4 t4 (.req 84 (LW t2) λh1 =>
(.callH [1] (PQ t0.L (ae t0.L ((eD t0.L t0.p).2)) t2 ((t1.1.rs.map Rtr.v).length:Int) h1) 84
(.bk 3 b3 ((gU t0.L ((t1.1.rs.map Rtr.v).length:Int) t2 (ae t0.L ((eD t0.L t0.p).2))).1,(gU t0.L ((t1.1.rs.map Rtr.v).length:Int) t2 (ae t0.L ((eD t0.L t0.p).2))).2) [0,1,2,3])))
(.bk 3 b3 (t2,ae t0.L ((eD t0.L t0.p).2)) [0,1,2,3])))) λ(t3:List Tbl×Nat) =>
(.callH [1] (bv t0.L t3.2 ((t3.1.map Tbl.v).length:Int)) 68
(.el 84 Tbl.v t3.1 (λR=>Rf (t3.1.map Tbl.v) (ck (decide (0≤(Mod (ak t0.L t3.2) ((t3.1.map Tbl.v).length:Int)))) (ck (decide ((Mod (ak t0.L t3.2) ((t3.1.map Tbl.v).length:Int))<(t3.1.length:Int)))
(∀x2,t3.1[(Mod (ak t0.L t3.2) ((t3.1.map Tbl.v).length:Int)).toNat]?=some x2 →
(R x2))))) λx2 =>
(.join 5 (L6 raw q t0 t1 t3 x2) (λ(t5:Pkt)=>t5=(((fT t0.L (ae t0.L t3.2) t1.2).1):Pkt)) (λb5=>(.callH [1] (T0 t0.L (ae t0.L t3.2) t1.2) 180
(.bk 5 b5 (((fT t0.L (ae t0.L t3.2) t1.2).1):Pkt) [0,1,2,3,116,196]))) λ(t5:Pkt) =>
(.join 6 (L5 raw t0 t1 t3 x2) (λ(t6:Pkt)=>I6 t0 t1 t2 t3 x2 t5 t6) (λb6=>(.join 7 (L4 raw q t0 t1 t3 x2 t5) (λ(t7:Bool)=>t7=((cA t0.L ((fT t0.L (ae t0.L t3.2) t1.2).2) 8):Bool)) (λb7=>(.callH [1] (dY t0.L ((fT t0.L (ae t0.L t3.2) t1.2).2) 8) 22
(.bk 7 b7 ((cA t0.L ((fT t0.L (ae t0.L t3.2) t1.2).2) 8):Bool) [0,1,2,3,4,5]))) λ(t7:Bool) =>
(.br 6 t7 (.bk 6 b6 ((q):Pkt) [1,2,3,4,5])
(.bk 6 b6 ((t5):Pkt) [1,2,3,4,5])))) λ(t6:Pkt) =>
(.join 8 (L3 raw t0 t1 t3 x2 t6) (λ(t8:List Int)=>t8=((dl t1.1 x2.router):(List Int))) (λb8=>(.req 53 (t1.1.rs.length≤1000) λh3 =>
(.callP (GA t1.1 x2.router h3)
(.bk 8 b8 ((dl t1.1 x2.router):(List Int)) [0,1,2,3,4])))) λ(t8:List Int) =>
(.join 9 (L2 raw t0 t1 x2 t6) (λ(t9:List Int×Nat)=>I9 t0 t1 t2 t3 x2 t5 t6 t8 t9) (λb9=>(.join 10 (Gi raw t0 t1 x2 t6 t8) (λ(t10:Bool×Nat)=>I10 t0 t1 t2 t3 x2 t5 t6 t8 t10) (λb10=>(.br 69 (decide (0<((t8.map AV.int).length:Int))) (.callH [0] (bv t0.L (ae t0.L ((fT t0.L (ae t0.L t3.2) t1.2).2)) 3) 85
(.bk 10 b10 (decide (0<(Mod (ak t0.L (ae t0.L ((fT t0.L (ae t0.L t3.2) t1.2).2))) 3)),ae t0.L (ae t0.L ((fT t0.L (ae t0.L t3.2) t1.2).2))) [0,1,2,3,4]))
(.bk 10 b10 (false,ae t0.L ((fT t0.L (ae t0.L t3.2) t1.2).2)) [0,1,2,3,4]))) λ(t10:Bool×Nat) =>
(.br 5 t10.1 (.callH [0] (bv t0.L t10.2 ((t8.map AV.int).length:Int)) 69
(.el 85 AV.int t8 (λR=>Rf (t8.map AV.int) (ck (decide (0≤(Mod (ak t0.L t10.2) ((t8.map AV.int).length:Int)))) (ck (decide ((Mod (ak t0.L t10.2) ((t8.map AV.int).length:Int))<(t8.length:Int)))
(∀x4,t8[(Mod (ak t0.L t10.2) ((t8.map AV.int).length:Int)).toNat]?=some x4 →
(R x4))))) λx4 =>
(.bk 9 b9 ([x4],ae t0.L t10.2) [0,1,2,3,4])))
(.bk 9 b9 (t8,t10.2) [0,1,2,3,4])))) λ(t9:List Int×Nat) =>
(.join 11 (Gh t1 x2 t6) (λ(t11:List Int)=>I11 t0 t1 t2 t3 x2 t5 t6 t8 t9 t11) (λb11=>(.join 12 (Gg raw t1 x2 t6 t9) (λ(t12:Bool)=>I12 t0 t1 t2 t3 x2 t5 t6 t8 t9 t12) (λb12=>(.callH [0] (dY t0.L t9.2 6) 21
(.br 53 (cA t0.L t9.2 6) (.bk 12 b12 ((decide (((raw.map AV.int).length:Int)≤50)):Bool) [1,2,3,4])
(.bk 12 b12 ((false):Bool) [1,2,3,4])))) λ(t12:Bool) =>
(.br 4 t12 (.bk 11 b11 ((raw):(List Int)) [0,1,2,3])
(.bk 11 b11 ((t9.1):(List Int)) [0,1,2,3])))) λ(t11:List Int) =>
(.join 13 (Gf t1 x2 t6 t11) (λ(t13:Int×Out)=>t13=(((jp t1.1 t1.2 x2 t11 t6).2,(jp t1.1 t1.2 x2 t11 t6).1):Int×Out)) (λb13=>(.callP (ppk_c t1.1 t1.2 x2 t11 t6)
(.bk 13 b13 ((jp t1.1 t1.2 x2 t11 t6).2,(jp t1.1 t1.2 x2 t11 t6).1) [0,1,2,3,148]))) λ(t13:Int×Out) =>
(.join 14 (Ge t13) (λ(t14:Int×Out)=>t14=(((jp t1.1 t1.2 x2 t11 t6).2,(jp t1.1 t1.2 x2 t11 t6).1):Int×Out)) (λb14=>(.callP (ppr_c t1.1 t1.2 x2 t11 t6)
(.bk 14 b14 ((jp t1.1 t1.2 x2 t11 t6).2,(jp t1.1 t1.2 x2 t11 t6).1) [4,149]))) λ(t14:Int×Out) =>
(.callP (smO_c t13.2 t14.2)
(.br 66 (decide (t13.2=t14.2)) (.br 146 (t13.1==t14.1) (.callP (Df )
(.ret (true)))
(.ret (false)))
(.ret (false)))))))))))))))))))
def Ba(t:List Int)(raw:List Int)(q:Pkt)(I3:Tap→Tpl×Pln→(List Tbl)→(List Tbl×Nat)→Prop)(I6:Tap→Tpl×Pln→(List Tbl)→(List Tbl)×Nat→Tbl→Pkt→Pkt→Prop)(I9:Tap→Tpl×Pln→(List Tbl)→(List Tbl)×Nat→Tbl→Pkt→Pkt→(List Int)→(List Int×Nat)→Prop)(I10:Tap→Tpl×Pln→(List Tbl)→(List Tbl)×Nat→Tbl→Pkt→Pkt→(List Int)→(Bool×Nat)→Prop)(I11:Tap→Tpl×Pln→(List Tbl)→(List Tbl)×Nat→Tbl→Pkt→Pkt→(List Int)→(List Int)×Nat→(List Int)→Prop)(I12:Tap→Tpl×Pln→(List Tbl)→(List Tbl)×Nat→Tbl→Pkt→Pkt→(List Int)→(List Int)×Nat→Bool→Prop)(r0:Bool):=(wm t raw q I3 I6 I9 I10 I11 I12).vp wn r0
theorem Ry(t raw:List Int)(q:Pkt)(ok:R0 t raw q):∃I3 I6 I9 I10 I11 I12,Ba t raw q I3 I6 I9 I10 I11 I12 true:=by
 refine⟨λ_ _ l s=>0<s.1.length,λ_ _ _ _ _ _ _=>True,λ_ _ _ _ _ _ _ _ _=>True,λ_ _ _ _ _ _ _ l s=>s.1=true→0<l.length,λ_ _ _ _ _ _ _ _ _ _=>True,λ_ _ _ _ _ _ _ _ _ _=>True,?_⟩
 dsimp only[Ba,wm,Gd,Ax.vp,Ax.vc];simp only[vcU,rfU,List.length_map]
 refine⟨trivial,?_⟩
 intro (tp:Tap) _
 refine⟨trivial,?_⟩
 rintro _ rfl
 refine⟨trivial,?_⟩
 intro (l:List Tbl) hl
 have hok:LW l:=by
  have:=Pg (t:=(eD tp.L tp.p).1.1) (p:=(eD tp.L tp.p).1.2)
  rw[hl];exact⟨by have:=this.1;simp only;omega,this.2⟩
 refine⟨λ_=>trivial,λe=>⟨⟨trivial,λb hb=>⟨λ_=>⟨hok,?_⟩,λ_=>?_⟩⟩,?_⟩⟩
 ·rw[rJ]
  have:¬(l.length:Int)=0:=by simpa using e
  omega
 ·have:¬(l.length:Int)=0:=by simpa using e
  show 0<l.length
  omega
 intro (s3:List Tbl×Nat) h3
 have hm:=dr (x:=ak tp.L s3.2) (show 1≤(s3.1.length:Int) by omega)
 refine⟨hm.1,hm.2,λx hx=>⟨trivial,λpk hpk=>⟨⟨trivial,λb hb=>⟨λ_=>trivial,λ_=>trivial⟩⟩,λq5 _=>⟨⟨by have:=DX (L:=tp.L) (p:=tp.p);simp only;omega,trivial⟩,?_⟩⟩⟩⟩
 intro (nl:List Int) hnl
 refine⟨⟨⟨λc _=>by omega,λc e=>by cases e⟩,?_⟩,λs9 _=>⟨⟨⟨λ_=>trivial,λ_=>trivial⟩,λb _=>⟨λ_=>trivial,λ_=>trivial⟩⟩,λdn _=>⟨trivial,λa ha=>⟨trivial,λc hc=>?_⟩⟩⟩⟩
 ·intro (s7:Bool×Nat) h7
  refine⟨λe=>?_,λ_=>trivial⟩
  have hp:=h7 e
  have hm:=dr (x:=ak tp.L s7.2) (show 1≤(nl.length:Int) by omega)
  exact⟨hm.1,hm.2,λ_ _=>trivial⟩
 ·subst ha;subst hc
  exact⟨λ_=>⟨λ_=>trivial,λe=>by simp at e⟩,λe=>absurd rfl e⟩
def Rz(t:List Int)(raw:List Int)(q:Pkt):PC Tryz.prog:=⟨3,[(.s 1),(.s 1),.k],[.sl 1 (t.map AV.int) false,.sl 1 (raw.map AV.int) false,.agg [.int q.mode,.int q.sub,.int q.set,.int q.len,.int q.ttl,.int q.ent,.int q.ing,.int q.proto,.val (.int .u64 q.bits),.str q.pay]],wn true,ao.of_ok λok=>(Ry t raw q ok).elim λI3 h=>h.elim λI6 h=>h.elim λI9 h=>h.elim λI10 h=>h.elim λI11 h=>h.elim λI12 h=>aj (sh:=.k) (enc:=wn) (a:=(wm t raw q I3 I6 I9 I10 I11 I12).an) h (by kernel_rfl) (AV.pureB_ok rfl),ah (by kernel_rfl)⟩
end Go.Proofs.YtdbdndmdbbihbaaGreatDoor
