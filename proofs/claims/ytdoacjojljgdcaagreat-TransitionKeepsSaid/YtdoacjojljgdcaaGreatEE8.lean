/- Texts joined: TK2 TK3 TK4 TA0 TA1 TA2 TA3 TE FA TU BH1 BH2. -/
import Derived.Test.YtdoacjojljgdcaaGreatEE7
set_option linter.unusedVariables false
set_option linter.unusedSimpArgs false
set_option linter.unusedSectionVars false
namespace Go.Proofs.YtdoacjojljgdcaaGreat
open Go Go.Am
set_option pp.deepTerms true
set_option pp.maxSteps 100000
def PH(p:Pkt)(bit:Int):=okL [Pkt.v p,.int bit]
def Ks(p:Pkt)(bit:Int)(t0:Bool):NF:=⟨[rI 1 bit,rR 2 0,rR 4 1,rB 14 t0],[.box (Pkt.v p),.box (Pkt.v (⟨0,0,0,0,0,0,0,0,0,B []⟩:Pkt))]⟩
@[reducible] def DO:Nat→Type
 | 0=>Bool
 | _=>Unit
def DP(r:Pkt):AV:=Pkt.v r
def DN(p:Pkt)(bit:Int)(I0:Bool→Prop):Ax Tryz.prog DO (Pkt):=
 (.pass (.pass (.join 0 (Ks p bit) (λ(t0:Bool)=>I0 t0) (λb0=>(.callP (qB p)
(.br 96 (!(dQ p)) (.bk 0 b0 ((true):Bool) [0,16])
(.callP (F5 p.bits bit)
(.bk 0 b0 ((!(nm p.bits bit)):Bool) [0,16]))))) λ(t0:Bool) =>
(.br 2 t0 (.ret ((⟨0,0,0,0,0,0,0,0,0,B []⟩:Pkt)))
(.callP (kG bit)
(.ret ((⟨p.mode,p.sub,p.set,p.len,p.ttl,p.ent,p.ing,p.proto,dd bit,p.pay⟩:Pkt))))))))
theorem rh{p:Pkt}{k:Int}(hb:0≤p.bits∧p.bits<18446744073709551616):Kt p k=(!dQ p || !nm p.bits k):=by
 unfold Kt nm
 congr 1
 by_cases c1:k<0
 ·rw[decide_eq_true c1,decide_eq_false (show ¬0≤k by omega)];simp
 by_cases c2:63<k
 ·rw[decide_eq_true c2,decide_eq_false (show ¬k<64 by omega)];simp
 rw[decide_eq_false c1,decide_eq_false c2,decide_eq_true (show 0≤k by omega),decide_eq_true (show k<64 by omega)];obtain⟨a,ha,hl⟩:=nb hb;obtain⟨n,rfl⟩:∃n:Nat,k=n:=⟨k.toNat,by omega⟩
 rw[ha,fo (show n<18446744073709551616 by omega),nU (by omega)];have hd:a / 2 ^ n<18446744073709551616:=bU' (Nat.div_le_self _ _) hl;have e:fc .u64 ((a / 2 ^ n:Nat):Int) 1=((a / 2 ^ n % 2:Nat):Int):=by
  rw[show(1:Int)=((1:Nat):Int)from rfl,gq hd (by omega),Nat.and_one_is_mod]
 rw[e];have:=Nat.mod_lt (a / 2 ^ n) (show 2 > 0 by decide);rcases(show a / 2 ^ n % 2=0∨a / 2 ^ n % 2=1 by omega)with q|q<;>rw[q]<;>rfl
theorem PF(p:Pkt)(k:Int)(ok:PH p k):∃I,(DN p k I).vp DP (eR p k):=by
 have hb:0≤p.bits∧p.bits<18446744073709551616:=jk ok.1;refine⟨λt=>t=Kt p k,?_⟩;dsimp only[DN,DO,Ax.vp,Ax.vc];simp only[vcU,rfU,B'];rw[rh hb];refine⟨⟨λc=>by rw[c];rfl,λc=>by rw[c];rfl⟩,?_⟩;rintro _ rfl;unfold eR;rw[rh hb];refine⟨λe=>by rw[G' e];rfl,λe=>?_⟩;rw[F' (by rw[e];simp)];have hk:0≤k∧k<64:=by
  have h2:nm p.bits k=true:=by cases q:nm p.bits k<;>simp[q]at e ⊢
  unfold nm at h2;simp only[R',S']at h2;exact h2.1
 unfold dd;rw[F' (by omega)]
def PG(p:Pkt)(bit:Int):PC Tryz.prog:=pcO 136 [.k,.k] [Pkt.v p,.int bit] .k DP (eR p bit) (λok=>let ⟨I0,h⟩:=PF p bit ok;⟨_,h,by kernel_rfl⟩) rfl (by kernel_rfl)
def Hb(r:Int):AV:=.int r
def xG(b:Int):Ax Tryz.prog noS (Int):=
 (.callP (rA b)
(.ret ((((bN b).map AV.int).length:Int))))
theorem R3(b:Int):(xG b).vp Hb ((bN b).length:Int):=by
 dsimp only[xG,noS,Ax.vp,Ax.vc];simp only[vcU,rfU,B']
def R4(b:Int):PC Tryz.prog:=pcO 70 [.k] [.val (.int .u64 b)] .k Hb ((bN b).length:Int) (λ_=>⟨(xG b),R3 b,by kernel_rfl⟩) rfl (by kernel_rfl)
def dlr1(r:Int)(q:Pkt):Dlr:=⟨r,q.mode,q.sub,q.set,q.len,q.ttl,q.ent,q.ing,q.proto,q.bits,q.pay⟩
def gN(r:Int)(o:Out)(p:Pkt):List Dlr:=(bN o.local_).map λk=>dlr1 r (eR p k)
theorem E9(r:Int)(o:Out)(p:Pkt):(gN r o p).length≤64:=by unfold gN;rw[B'];exact j9 _
def KM(router:Int)(o:Out)(p:Pkt)(t0:Int×List Dlr):NF:=⟨[rI 0 router,rR 5 0,(7,.k,.sl 1 ((bN o.local_).map AV.int) false),rV 8 1,rI 9 t0.1],[.box (Pkt.v p),vB 11 Dlr.v t0.2 (λ_=>rfl)]⟩
@[reducible] def EB:Nat→Type
 | 0=>Int×List Dlr
 | _=>Unit
def EC(r:List Dlr):AV:=.sl 11 (r.map Dlr.v) false
def EA(router:Int)(o:Out)(p:Pkt)(I0:(Int×List Dlr)→Prop)(m0:(Int×List Dlr)→Nat):Ax Tryz.prog EB ((List Dlr)):=
 (.callP (rA o.local_)
(.cmdL (.nilT 8 11) (.loop 0 (KM router o p) I0 m0 (0,[]) [16,144] λ(t0:Int×List Dlr) b0 =>
(.br 66 (decide (t0.1<(((bN o.local_).map AV.int).length:Int))) (.elI 146 AV.int (bN o.local_) t0.1 λx1 =>
(.callP (PG p x1)
(.apX 226 Dlr.v t0.2 [(⟨router,(eR p x1).mode,(eR p x1).sub,(eR p x1).set,(eR p x1).len,(eR p x1).ttl,(eR p x1).ent,(eR p x1).ing,(eR p x1).proto,(eR p x1).bits,(eR p x1).pay⟩:Dlr)] (t0.2.length+1)
(.bk 0 b0 (W (t0.1+1),t0.2++[(⟨router,(eR p x1).mode,(eR p x1).sub,(eR p x1).set,(eR p x1).len,(eR p x1).ttl,(eR p x1).ent,(eR p x1).ing,(eR p x1).proto,(eR p x1).bits,(eR p x1).pay⟩:Dlr)]) [0,226]))))
(.fz 1 Dlr.v t0.2 (λ_=>rfl) (.ret (t0.2)))))))
theorem Qm(r:Int)(o:Out)(p:Pkt):∃I0 m0,(EA r o p I0 m0).vp EC (gN r o p):=by
 refine⟨λs=>eO (bN o.local_) (λk=>[dlr1 r (eR p k)]) s.1 s.2,λs=>(bN o.local_).length-s.1.toNat,?_⟩;dsimp only[EA,EB,Ax.vp,Ax.vc];simp only[vcU,rfU,B'];have hb:=j9 o.local_
 refine⟨eO.zero,λs hs=>⟨λc=>⟨hs.idx,c,λx hx=>?_⟩,λc=>?_⟩⟩
 ·have:=hs.len (b:=1) λx _=>by simp
  exact⟨by omega,hs.step (by omega) hx rfl⟩
 ·rw[hs.done c];exact List.map_eq_flatMap.symm
def Qn(router:Int)(o:Out)(p:Pkt):PC Tryz.prog:=pcO 107 [.k,(.a [.k,.k,(.s 12)]),.k] [.int router,Out.v o,Pkt.v p] (.s 11) EC (gN router o p) (λ_=>let ⟨I0,m0,h⟩:=Qm router o p;⟨_,h,by kernel_rfl⟩) rfl (by kernel_rfl)
def crs1(r:Int)(c:Cpy):Crs:=⟨r,c.to,c.bits⟩
def ni(t:Trc)(r:Int)(p:Pkt)(o:Out):Trc:=⟨t.dl++gN r o p,t.cr++o.copies.map (crs1 r),if o.lost=0 then t.lo else t.lo++[⟨r,o.lost⟩]⟩
def PS(t:Trc)(o:Out):Prop:=t.dl.length≤100000∧t.cr.length≤100000∧t.lo.length≤100000∧o.copies.length≤100000
def K0(t:Trc)(router:Int)(p:Pkt)(o:Out)(t0:List Los):NF:=⟨[rI 1 router,rR 4 3,rR 7 7,rR 8 8],[.gone,.gone,.gone,.box (.agg [.vec 4,.vec 5,.vec 6]),vB 11 Dlr.v (t.dl++(gN router o p)) (λ_=>rfl),vB 3 Crs.v t.cr (λ_=>rfl),vB 2 Los.v t0 (λ_=>rfl),.box (Out.v o),.box (.agg [.sl 0 [] true,.sl 0 [] true,.sl 0 [] true])]⟩
def Kz(t:Trc)(router:Int)(p:Pkt)(o:Out)(t0:List Los)(t1:Int×List Crs):NF:=⟨[rI 1 router,rR 4 3,rR 7 7,rR 8 8,rI 9 t1.1],[.gone,.gone,.gone,.box (.agg [.vec 4,.vec 5,.vec 6]),vB 11 Dlr.v (t.dl++(gN router o p)) (λ_=>rfl),vB 3 Crs.v t1.2 (λ_=>rfl),vB 2 Los.v t0 (λ_=>rfl),.box (Out.v o),.box (.agg [.sl 0 [] true,.sl 0 [] true,.sl 0 [] true])]⟩
@[reducible] def DZ:Nat→Type
 | 0=>(List Los)
 | 1=>Int×List Crs
 | _=>Unit
def wD(r:Trc):AV:=.agg [.vec 3,.vec 4,.vec 5]
def wE(r:Trc):List (Option Blk):=[none,none,none,some (.vec 11 (r.dl.map Dlr.v)),some (.vec 3 (r.cr.map Crs.v)),some (.vec 2 (r.lo.map Los.v))]
def DY(t:Trc)(router:Int)(p:Pkt)(o:Out)(I0:(List Los)→Prop)(I1:(List Los)→(Int×List Crs)→Prop)(m1:(List Los)→(Int×List Crs)→Nat):Ax Tryz.prog DZ (Trc):=
 (.callP (Qn router o p)
(.apX 163 Dlr.v t.dl (gN router o p) (t.dl.length+(gN router o p).length)
(.join 0 (K0 t router p o) (λ(t0:List Los)=>I0 t0) (λb0=>(.br 259 (o.lost != 0) (.apX 371 Los.v t.lo [(⟨router,o.lost⟩:Los)] (t.lo.length+1)
(.bk 0 b0 ((t.lo++[(⟨router,o.lost⟩:Los)]):(List Los)) [0,1,2,3,163,1,371,35,51]))
(.bk 0 b0 ((t.lo):(List Los)) [0,1,2,3,163,1,2,35,51]))) λ(t0:List Los) =>
(.loop 1 (Kz t router p o t0) (I1 t0) (m1 t0) (0,t.cr) [0,1,2,3,4,5,6,7,8] λ(t1:Int×List Crs) b1 =>
(.br 89 (decide (t1.1<((o.copies.map Cpy.v).length:Int))) (.elI 185 Cpy.v o.copies t1.1 λx1 =>
(.elI 281 Cpy.v o.copies t1.1 λx2 =>
(.apX 393 Crs.v t1.2 [(⟨router,x1.to,x2.bits⟩:Crs)] (t1.2.length+1)
(.bk 1 b1 (W (t1.1+1),t1.2++[(⟨router,x1.to,x2.bits⟩:Crs)]) [0,1,2,3,4,393,6,7,8]))))
(.retH (⟨t.dl++(gN router o p),t1.2,t0⟩:Trc) ⟨[rR 8 6],[.gone,.gone,.gone,vB 11 Dlr.v (t.dl++(gN router o p)) (λ_=>rfl),vB 3 Crs.v t1.2 (λ_=>rfl),vB 2 Los.v t0 (λ_=>rfl),.box (.agg [.vec 3,.vec 4,.vec 5])]⟩ [0,1,2,4,5,6,8]))))))
theorem PQ(t:Trc)(r:Int)(p:Pkt)(o:Out)(h:PS t o):∃I0 I1 m1,(DY t r p o I0 I1 m1).vc wD wE (ni t r p o):=by
 refine⟨λl=>l=(ni t r p o).lo,λ_ s=>∃k:Nat,s.1=k∧k≤o.copies.length∧s.2=t.cr++(o.copies.take k).map (crs1 r),λ_ s=>o.copies.length-s.1.toNat,?_⟩;obtain⟨h1,h2,h3,h4⟩:=h;have hll:=E9 r o p;dsimp only[DY,DZ,Ax.vp,Ax.vc];simp only[vcU,rfU,B']
 refine⟨by omega,⟨λe=>⟨by omega,?_⟩,λe=>?_⟩,?_⟩
 ·unfold ni;rw[F' (by simpa using e)]
 ·unfold ni;rw[G' (by simpa using e)]
 rintro _ rfl;refine⟨⟨0,rfl,by omega,by simp⟩,?_⟩;rintro⟨_,cr⟩ ⟨k,rfl,hk,hc⟩;simp only[Int.toNat_natCast]at hc ⊢
 refine⟨λd=>⟨by omega,d,λx hx=>⟨by omega,d,λy hy=>?_⟩⟩,λd=>?_⟩
 ·rw[hx]at hy;cases hy;have hcl:cr.length≤t.cr.length+k:=by rw[hc,List.length_append,B',ar'];omega
  have w:W ((k:Int)+1)=((k+1:Nat):Int):=bf (n:=o.copies.length) (by omega) (by omega);rw[w];refine⟨by omega,⟨k+1,rfl,by omega,?_⟩,by omega⟩;rw[aP hx,hc,ay',aT'];rfl
 ·rw[hc,ai' (by omega)];rfl
def PR(t:Trc)(router:Int)(p:Pkt)(o:Out)(h:PS t o):HC Tryz.prog:=hcO 67 [(.a [(.s 11),(.s 3),(.s 2)]),.k,.k,(.a [.k,.k,(.s 12)])] [.agg [.vec 0,.vec 1,.vec 2],.int router,Pkt.v p,Out.v o] [.vec 11 (t.dl.map Dlr.v),.vec 3 (t.cr.map Crs.v),.vec 2 (t.lo.map Los.v)] (.a [.k,.k,.k]) wD wE (ni t router p o) (λ_ _=>let ⟨I0,I1,m1,h⟩:=PQ t router p o h;⟨_,h,by kernel_rfl⟩) (by kernel_rfl) (by simp[hcB,cS,AV.belB,allB,eH,dG,wD,wE,Out.v,Pkt.v,ah (v:=Cpy.v) (λ_=>rfl),ah (v:=Crs.v) (λ_=>rfl),ah (v:=Dlr.v) (λ_=>rfl),ah (v:=Los.v) (λ_=>rfl)])
def L9(l:List Tbl)(p:Pkt)(router:Int)(t0:Bool):NF:=⟨[(0,.k,.sl 4 (l.map Tbl.v) false),rI 2 router,rR 4 0,rB 16 t0],[.box (Pkt.v p)]⟩
def L8(t1:Bool):NF:=⟨[rB 39 t1],[]⟩
@[reducible] def Ge:Nat→Type
 | 0=>Bool
 | 1=>Bool
 | _=>Unit
def Gf(r:Int):AV:=.int r
def Gd(l:List Tbl)(p:Pkt)(router:Int)(I0:Bool→Prop)(I1:Bool→Bool→Prop):Ax Tryz.prog Ge (Int):=
 (.pass (.pass (.join 0 (L9 l p router) (λ(t0:Bool)=>I0 t0) (λb0=>(.callP (Mx l)
(.br 96 ((j4 l) != 0) (.bk 0 b0 ((true):Bool) [0])
(.callP (qB p)
(.bk 0 b0 ((!(dQ p)):Bool) [0]))))) λ(t0:Bool) =>
(.br 1 t0 (.ret (1))
(.callP (FZ l router)
(.br 177 (!((bu l router).2)) (.ret (4))
(.br 225 (p.mode==2) (.ret (7))
(.pass (.join 1 (L8) (λ(t1:Bool)=>I1 t0 t1) (λb1=>(.br 321 (p.sub != ((bu l router).1).sub) (.bk 1 b1 ((true):Bool) [])
(.bk 1 b1 ((p.len != ((bu l router).1).len):Bool) []))) λ(t1:Bool) =>
(.br 0 t1 (.ret (8))
(.ret (0))))))))))))
def mD(l:List Tbl)(p:Pkt)(r:Int):Int:=
 if j4 l≠0∨dQ p=false then 1 else if(bu l r).2=false then 4 else if p.mode=2 then 7 else if p.sub≠(bu l r).1.sub∨p.len≠(bu l r).1.len then 8 else 0
theorem QR(l:List Tbl)(p:Pkt)(r:Int):∃I0 I1,(Gd l p r I0 I1).vp Gf (mD l p r):=by
 refine⟨λb=>b=decide (j4 l≠0∨dQ p=false),λ_ b=>b=decide (p.sub≠(bu l r).1.sub∨p.len≠(bu l r).1.len),?_⟩;dsimp only[Gd,Ge,Ax.vp,Ax.vc];simp only[vcU,rfU,B'];refine⟨⟨λc=>by simp at c;simp[c],λc=>by simp at c;simp[c]⟩,?_⟩;rintro _ rfl;unfold mD;refine⟨λc=>by rw[G' (H' c)],λc=>?_⟩;rw[F' (T' c)];refine⟨λc=>by rw[G' (by simpa using c)],λc=>?_⟩;rw[F' (by simpa using c)];refine⟨λc=>by rw[G' (eq_of_beq c)],λc=>?_⟩;rw[F' (by simpa using c)];refine⟨⟨λc=>by simp at c;simp[c],λc=>by simp at c;rw[ae'];simp[c]⟩,?_⟩;rintro _ rfl;exact⟨λc=>by rw[G' (H' c)],λc=>by rw[F' (T' c)]⟩
def QS(l:List Tbl)(p:Pkt)(router:Int):PC Tryz.prog:=pcO 64 [(.s 4),.k,.k] [.sl 4 (l.map Tbl.v) false,Pkt.v p,.int router] .k Gf (mD l p router) (λ_=>let ⟨I0,I1,h⟩:=QR l p router;⟨_,h,by kernel_rfl⟩) rfl (by kernel_rfl)
def sr:List Dlr→Int→Option Int
 | [],s=>some s
 | d::l,s=>if(bN d.bits).length≠1∨fc .u64 s d.bits≠0 then none else sr l (bOr .u64 s d.bits)
def xo:List Los→Int→Option Int
 | [],s=>some s
 | d::l,s=>if d.bits=0∨fc .u64 s d.bits≠0 then none else xo l (bOr .u64 s d.bits)
def uu(t:Trc)(b:Int):Bool:=match sr t.dl 0 with
 | none=>false
 | some s=>match xo t.lo s with
  | none=>false
  | some s'=>s'==b
theorem ss{α:Type}{l:List α}{k:Nat}{x:α}(h:l[k]?=some x):l.drop k=x::l.drop (k+1):=by
 have hl:=ao h;rw[bx' hl];rw[u' hl]at h;rw[af' h]
def Gt(tr:Trc)(bits:Int):=okL [Trc.v tr,.val (.int .u64 bits)]
def LI(tr:Trc)(bits:Int)(t0:Int×Int):NF:=⟨[(1,.k,.val (.int .u64 bits)),rR 2 0,(5,.k,.val (.int .u64 t0.1)),rI 6 t0.2],[.box (Trc.v tr)]⟩
def LH(tr:Trc)(bits:Int)(t0:Int×Int)(x1:Dlr)(t1:Bool):NF:=⟨[(1,.k,.val (.int .u64 bits)),rR 2 0,(5,.k,.val (.int .u64 t0.1)),rI 6 t0.2,(7,.k,.val (.int .u64 x1.bits)),rB 31 t1],[.box (Trc.v tr)]⟩
def LG(tr:Trc)(bits:Int)(t2:Int×Int):NF:=⟨[(1,.k,.val (.int .u64 bits)),rR 2 0,(5,.k,.val (.int .u64 t2.1)),rI 8 t2.2],[.box (Trc.v tr)]⟩
def LF(tr:Trc)(bits:Int)(t2:Int×Int)(t3:Bool):NF:=⟨[(1,.k,.val (.int .u64 bits)),rR 2 0,(5,.k,.val (.int .u64 t2.1)),rI 8 t2.2,rB 59 t3],[.box (Trc.v tr)]⟩
@[reducible] def Gr:Nat→Type
 | 0=>Int×Int
 | 1=>Bool
 | 2=>Int×Int
 | 3=>Bool
 | _=>Unit
def Gs(r:Bool):AV:=.bool r
def Gq(tr:Trc)(bits:Int)(I0:(Int×Int)→Prop)(m0:(Int×Int)→Nat)(I1:Int×Int→Dlr→Bool→Prop)(I2:Int×Int→(Int×Int)→Prop)(m2:Int×Int→(Int×Int)→Nat)(I3:Int×Int→Int×Int→Bool→Prop):Ax Tryz.prog Gr (Bool):=
 (.loop 0 (LI tr bits) I0 m0 (0,0) [0] λ(t0:Int×Int) b0 =>
(.br 81 (decide (t0.2<((tr.dl.map Dlr.v).length:Int))) (.elI 129 Dlr.v tr.dl t0.2 λx1 =>
(.pass (.join 1 (LH tr bits t0 x1) (λ(t1:Bool)=>I1 t0 x1 t1) (λb1=>(.callP (R4 x1.bits)
(.br 273 (((bN x1.bits).length:Int) != 1) (.bk 1 b1 ((true):Bool) [0])
(.bk 1 b1 (((fc .u64 t0.1 x1.bits) != 0):Bool) [0])))) λ(t1:Bool) =>
(.br 1 t1 (.ret (false))
(.bk 0 b0 (bOr .u64 t0.1 x1.bits,W (t0.2+1)) [0])))))
(.loop 2 (LG tr bits) (I2 t0) (m2 t0) (t0.1,0) [0] λ(t2:Int×Int) b2 =>
(.br 81 (decide (t2.2<((tr.lo.map Los.v).length:Int))) (.pass (.pass (.join 3 (LF tr bits t2) (λ(t3:Bool)=>I3 t0 t2 t3) (λb3=>(.elI 129 Los.v tr.lo t2.2 λx2 =>
(.br 209 (x2.bits==0) (.bk 3 b3 ((true):Bool) [0])
(.elI 273 Los.v tr.lo t2.2 λx3 =>
(.bk 3 b3 (((fc .u64 t2.1 x3.bits) != 0):Bool) [0]))))) λ(t3:Bool) =>
(.br 1 t3 (.ret (false))
(.elI 65 Los.v tr.lo t2.2 λx4 =>
(.bk 2 b2 (bOr .u64 t2.1 x4.bits,W (t2.2+1)) [0]))))))
(.ret (t2.1==bits))))))
theorem Rc(t:Trc)(b:Int)(ok:Gt t b):∃I0 m0 I1 I2 m2 I3,(Gq t b I0 m0 I1 I2 m2 I3).vp Gs (uu t b):=by
 refine⟨λs=>∃k:Nat,s.2=k∧k≤t.dl.length∧sr (t.dl.drop k) s.1=sr t.dl 0,λs=>t.dl.length-s.2.toNat,
  λs d u=>u=decide ((bN d.bits).length≠1∨fc .u64 s.1 d.bits≠0),
  λ_ s=>∃k:Nat,s.2=k∧k≤t.lo.length∧(match xo (t.lo.drop k) s.1 with|none=>false|some s'=>s'==b)=uu t b,λ_ s=>t.lo.length-s.2.toNat,
  λ_ s u=>∀d,t.lo[s.2.toNat]?=some d→u=decide (d.bits=0∨fc .u64 s.1 d.bits≠0),?_⟩
 simp only[Gt,Trc.v,okU,Blk.ok,aJ,B']at ok;dsimp only[Gq,Gr,Ax.vp,Ax.vc];simp only[vcU,rfU,B'];refine⟨⟨0,rfl,by omega,rfl⟩,?_⟩;rintro⟨s,_⟩ ⟨k,rfl,hk,hE⟩;simp only[Int.toNat_natCast]at hE ⊢
 refine⟨λc=>⟨by omega,c,λd hd=>⟨⟨λe=>?_,λe=>?_⟩,?_⟩⟩,λc=>?_⟩
 ·have e:(bN d.bits).length≠1:=λq=>by rw[q]at e;simp at e
  simp[e]
 ·have e:(bN d.bits).length=1:=by simp at e;omega
  rw[ae',bne_iff_ne,S'];simp[e]
 ·rintro _ rfl;have w:W ((k:Int)+1)=((k+1:Nat):Int):=bf (n:=t.dl.length) (by omega) (by omega);rw[w];rw[ss hd,sr]at hE
  refine⟨λe=>?_,λe=>⟨⟨k+1,rfl,by omega,?_⟩,by omega⟩⟩
  ·rw[G' (H' e)]at hE;unfold uu;rw[←hE]
  ·rw[F' (T' e)]at hE;exact hE
 ·rw[bB' (by omega),sr]at hE;refine⟨⟨0,rfl,by omega,by unfold uu;rw[←hE];rfl⟩,?_⟩;rintro⟨s2,_⟩ ⟨j,rfl,hj,hE2⟩;simp only[Int.toNat_natCast]at hE2 ⊢
  refine⟨λc=>?_,λc=>?_⟩
  ·obtain⟨d,hd⟩:∃d,t.lo[j]?=some d:=⟨_,u' (by omega)⟩
   have hx:∀{p:Los→Prop},p d→∀g,t.lo[j]?=some g→p g:=λq g hg=>by rw[hd]at hg;cases hg;exact q
   refine⟨⟨by omega,c,hx ⟨λe=>hx ?_,λe=>⟨by omega,c,hx (hx ?_)⟩⟩⟩,?_⟩
   ·have e:=eq_of_beq e;simp[e]
   ·have e:¬d.bits=0:=by simpa using e
    rw[ae',bne_iff_ne,S'];simp[e]
   ·intro u hu;have hu:=hu d hd;subst hu;have w:W ((j:Int)+1)=((j+1:Nat):Int):=bf (n:=t.lo.length) (by omega) (by omega);rw[w];rw[ss hd,xo]at hE2
    refine⟨λe=>?_,λe=>⟨by omega,c,hx ⟨⟨j+1,rfl,by omega,?_⟩,by omega⟩⟩⟩
    ·rw[G' (H' e)]at hE2;exact hE2
    ·rw[F' (T' e)]at hE2;exact hE2
  ·rw[bB' (by omega),xo]at hE2;exact hE2
def Re(tr:Trc)(bits:Int):PC Tryz.prog:=pcO 24 [(.a [(.s 11),(.s 3),(.s 2)]),.k] [Trc.v tr,.val (.int .u64 bits)] .k Gs (uu tr bits) (λok=>let ⟨I0,m0,I1,I2,m2,I3,h⟩:=Rc tr bits ok;⟨_,h,by kernel_rfl⟩) rfl (by kernel_rfl)
set_option pp.deepTerms true
set_option pp.maxSteps 100000
def bZ(l:List Tbl)(c:Cpy):Out:=if(bu l c.to).2=true then uf (bu l c.to).1 (pkC c)else⟨0,c.bits,[]⟩
def AQ(l:List Tbl):Nat→List Cpy→Trc→Trc
 | 0,_,t=>t
 | _+1,[],t=>t
 | f+1,c::qs,t=>AQ l f (qs++(bZ l c).copies) (ni t c.to (pkC c) (bZ l c))
def runT(l:List Tbl)(p:Pkt)(r:Int):Trc×Int:=if mD l p r≠0 then(⟨[],[],[]⟩,mD l p r)else(AQ l 10000 [jZ r p] ⟨[],[],[]⟩,0)
structure BU (l:List Tbl) (p:Pkt):Prop where
  ck:j4 l=0
  len:∀b∈l,j3 b=0∧b.len=p.len∧b.sub=p.sub
theorem nE{l:List Tbl}{r:Int}(h:(bu l r).2=true):(bu l r).1∈l∧(bu l r).1.router=r:=by
 unfold bu at h ⊢;cases e:l.find? λb=>b.router==r with
 | none=>rw[e]at h;cases h
 | some b=>exact⟨bl' e,by simpa using cv' e⟩
theorem Gc{l:List Tbl}{p:Pkt}{r:Int}(h:mD l p r=0):BU l p∧dQ p=true∧(bu l r).2=true:=by
 unfold mD at h
 split at h
 ·cases h
 rename_i c1
 split at h
 ·cases h
 rename_i c2
 split at h
 ·cases h
 split at h
 ·cases h
 rename_i c3;have ha:j4 l=0:=P' λq=>c1 (.inl q);have hp:dQ p=true:=by cases q:dQ p;exact absurd (.inr q) c1;rfl
 have hf:(bu l r).2=true:=by simpa using c2
 obtain⟨hm,_⟩:=nE hf;refine⟨⟨ha,λb hb=>⟨(jQ ha).2.1 b hb,?_⟩⟩,hp,hf⟩;have key:∀b∈l,b.sub=(hd0 l).sub∧b.len=(hd0 l).len:=λb hb=>by
  have h2:=ha;unfold j4 at h2
  split at h2
  ·cases h2
  split at h2
  ·cases h2
  split at h2
  ·cases h2
  split at h2
  ·cases h2
  rename_i q;have:=aP'.mp (by simpa using q:(l.any λb=>s9 b l)=false) b hb;unfold s9 at this;simpa using this
 have k1:=key b hb;have k2:=key _ hm;omega
def QOk(p:Pkt)(c:Cpy):Prop:=dQ (pkC c)=true∧c.len=p.len∧0≤c.bits∧c.bits<18446744073709551616
def pot:List Cpy→Nat
 | []=>0
 | c::l=>crd c.bits.toNat * (c.ttl.toNat+1)+pot l
theorem iy:∀(a b:List Cpy),pot (a++b)=pot a+pot b
 | [],b=>by simp[pot]
 | c::a,b=>by rw[bJ',pot,pot,iy a b];omega
theorem NZ{x:Int}(h:0≤x):(bN x).length=crd x.toNat:=by
 obtain⟨n,rfl⟩:∃n:Nat,x=n:=⟨x.toNat,by omega⟩
 rw[eN,B',Int.toNat_natCast];rfl
structure PrOk (p:Pkt) (c:Cpy) (o:Out):Prop where
  po:pot o.copies+crd c.bits.toNat≤crd c.bits.toNat * (c.ttl.toNat+1)
  nc:o.copies.length≤crd c.bits.toNat
  lc:(bN o.local_).length≤crd c.bits.toNat
  ok:∀x∈o.copies,QOk p x
theorem jK{l:List Tbl}{p:Pkt}(hf:BU l p){c:Cpy}(hc:QOk p c)(h:(bu l c.to).2=true):okF (bu l c.to).1 (pkC c)∧bZ l c=uf (bu l c.to).1 (pkC c)∧NE (bu l c.to).1 (pkC c) (bZ l c):=by
 obtain⟨hm,_⟩:=nE h;have hb:=hf.len _ hm;have h1:okF (bu l c.to).1 (pkC c):=⟨hb.1,hc.1,hb.2.1.trans hc.2.1.symm⟩
 have h2:bZ l c=uf (bu l c.to).1 (pkC c):=by unfold bZ;rw[G' h]
 exact⟨h1,h2,by rw[h2];exact do_ok h1 hc.2.2⟩
theorem Dv{l:List Tbl}{p:Pkt}(hf:BU l p){c:Cpy}(hc:QOk p c):PrOk p c (bZ l c):=by
 by_cases h:(bu l c.to).2=true
 ·obtain⟨_,_,hD⟩:=jK hf hc h;generalize bZ l c=o at hD ⊢;have hs:=hD.cov.sum;rw[am',cI',am',cI',aV']at hs;have hcp:∀x∈o.copies,1≤crd x.bits.toNat∧x.ttl=c.ttl-1∧0<c.ttl:=λx hx=>by
   have hk:=(hD.cps x hx).1;refine⟨Ai (by have:=hk.rng;omega) (by have:=hk.rng;omega),hk.ttl,hk.pos⟩
  have hsum:∀L:List Cpy,(∀x∈L,1≤crd x.bits.toNat∧x.ttl=c.ttl-1∧0<c.ttl)→L.length≤(L.map (crd ∘ λx=>x.bits.toNat)).sum∧pot L=(L.map (crd ∘ λx=>x.bits.toNat)).sum * c.ttl.toNat:=λL=>by
   induction L with
   | nil=>intro _;simp[pot]
   | cons x L ih =>
    intro hL;obtain⟨h1,h2⟩:=ih λy hy=>hL y (by simp[hy]);obtain⟨a1,a2,a3⟩:=hL x (by simp);rw[am',cI',pot,h2,ab',be'];have e:x.ttl.toNat+1=c.ttl.toNat:=by omega
    rw[e];exact⟨by show _≤crd x.bits.toNat+_;omega,rfl⟩
  obtain⟨s1,s2⟩:=hsum _ hcp;have hcb:crd (pkC c).bits.toNat=crd c.bits.toNat:=rfl;rw[hcb]at hs
  refine⟨?_,by omega,by rw[NZ hD.r3.1];omega,λx hx=>?_⟩
  ·rw[s2,Nat.mul_add,Nat.mul_one];have:(o.copies.map (crd ∘ λx=>x.bits.toNat)).sum * c.ttl.toNat≤crd c.bits.toNat * c.ttl.toNat:=aq' _ (by omega);omega
  ·have hk:=(hD.cps x hx).1;exact⟨hk.ok,hk.eq.2.2.2.1.trans hc.2.1,by have:=hk.rng;omega,hk.rng.2⟩
 ·have e:bZ l c=⟨0,c.bits,[]⟩:=by unfold bZ;rw[F' h]
  rw[e];refine⟨by simp only[pot];rw[Nat.mul_add,Nat.mul_one];omega,by simp,?_,λx hx=>by simp at hx⟩;rw[NZ (bg' 0)];have:crd (0:Int).toNat=0:=by decide
  rw[this];omega
theorem sY{l:List Tbl}{p:Pkt}(hf:BU l p)(J:List Cpy→Trc→Prop)(hJ:∀c qs t,QOk p c→J (c::qs) t→J (qs++(bZ l c).copies) (ni t c.to (pkC c) (bZ l c))) :
  ∀(f:Nat) (qs:List Cpy) (t:Trc),(∀c∈qs,QOk p c)→2 * pot qs+qs.length<f→J qs t→J [] (AQ l f qs t)
 | 0,qs,t,_,h,_=>absurd h (by omega)
 | f+1,[],t,_,_,h=>h
 | f+1,c::qs,t,hq,h,hj=>by
  have hP:=Dv hf (hq c (by simp));have p1:=hP.po;have p2:=hP.nc;rw[pot,ab']at h
  refine sY hf J hJ f _ _ (λx hx=>?_) ?_ (hJ c qs t (hq c (by simp)) hj)
  ·rcases X'.mp hx with hx|hx
   ·exact hq x (by simp[hx])
   ·exact hP.ok x hx
  ·rw[iy,List.length_append];omega
theorem yX{p:Pkt}(hp:dQ p=true)(r:Int):pot [jZ r p]≤4096:=by
 have ht:=yZ hp;have h1:(jZ r p).ttl.toNat+1≤64:=by show p.ttl.toNat+1≤64;omega
 have h2:=xC (jZ r p).bits.toNat
 rw[pot,pot,by'];exact Nat.mul_le_mul h2 h1
structure RunI (l:List Tbl) (p:Pkt) (r:Int) (s:Int×List Cpy×List Los×List Crs×List Dlr):Prop where
  ex:∃k f:Nat,s.1=k∧k≤s.2.1.length∧(∀c∈s.2.1.drop k,QOk p c)∧s.2.1.length+pot (s.2.1.drop k)≤4097∧s.2.2.1.length≤k∧s.2.2.2.1.length+pot (s.2.1.drop k)≤4096∧s.2.2.2.2.length+pot (s.2.1.drop k)≤4096 ∧
    2 * pot (s.2.1.drop k)+(s.2.1.drop k).length<f∧AQ l f (s.2.1.drop k) ⟨s.2.2.2.2,s.2.2.2.1,s.2.2.1⟩=(runT l p r).1
def CK(l:List Tbl)(p:Pkt)(router:Int):=okL [.sl 4 (l.map Tbl.v) false,Pkt.v p,.int router]
def J7(l:List Tbl)(t0:Int×List Cpy×List Los×List Crs×List Dlr):NF:=⟨[(0,.k,.sl 4 (l.map Tbl.v) false),rR 6 0,rV 9 1,rR 10 2,rI 11 t0.1],[.box (.agg [.sl 0 [] true,.sl 0 [] true,.sl 0 [] true]),vB 12 Cpy.v t0.2.1 (λ_=>rfl),.box (.agg [.vec 3,.vec 4,.vec 5]),vB 11 Dlr.v t0.2.2.2.2 (λ_=>rfl),vB 3 Crs.v t0.2.2.2.1 (λ_=>rfl),vB 2 Los.v t0.2.2.1 (λ_=>rfl)]⟩
def J6(l:List Tbl)(t0:Int×List Cpy×List Los×List Crs×List Dlr)(x1:Cpy)(x2:Cpy)(t1:Out):NF:=⟨[(0,.k,.sl 4 (l.map Tbl.v) false),rR 6 0,rV 9 1,rR 10 2,rI 11 t0.1,rI 12 x1.to,rR 13 6,rR 16 7],[.box (.agg [.sl 0 [] true,.sl 0 [] true,.sl 0 [] true]),vB 12 Cpy.v t0.2.1 (λ_=>rfl),.box (.agg [.vec 3,.vec 4,.vec 5]),vB 11 Dlr.v t0.2.2.2.2 (λ_=>rfl),vB 3 Crs.v t0.2.2.2.1 (λ_=>rfl),vB 2 Los.v t0.2.2.1 (λ_=>rfl),.box (.agg [.int x2.mode,.int x2.sub,.int x2.set,.int x2.len,.int x2.ttl,.int x2.ent,.int x2.ing,.int x2.proto,.val (.int .u64 x2.bits),.str x2.pay]),.box (Out.v t1)]⟩
@[reducible] def CI:Nat→Type
 | 0=>Int×List Cpy×List Los×List Crs×List Dlr
 | 1=>Out
 | _=>Unit
def CJ(r:Trc×Int):AV:=.tup [Trc.v r.1,.int r.2]
def CH(l:List Tbl)(p:Pkt)(router:Int)(I0:(Int×List Cpy×List Los×List Crs×List Dlr)→Prop)(m0:(Int×List Cpy×List Los×List Crs×List Dlr)→Nat)(I1:Int×List Cpy×List Los×List Crs×List Dlr→Cpy→Cpy→Out→Prop):Ax Tryz.prog CI (Trc×Int):=
 (.callP (QS l p router)
(.br 160 ((mD l p router) != 0) (.ret ((⟨[],[],[]⟩:Trc),mD l p router))
(.own 224 (.cmdL (.nilB 256 0 11) (.cmdL (.nilB 256 1 3) (.cmdL (.nilB 256 2 2) (.cmdL (.wkB 224 (.a [.k,(.s 1),.k,.k,.k,.k,.k,.k,.k,.k,.k,.k])) (.loop 0 (J7 l) I0 m0 (0,[(⟨router,[],p.mode,p.sub,p.set,p.len,p.ttl,p.ent,p.ing,p.proto,p.bits,p.pay⟩:Cpy)],[],[],[]) [16,224,256,288,289,290] λ(t0:Int×List Cpy×List Los×List Crs×List Dlr) b0 =>
(.br 70 (decide (t0.1<((t0.2.1.map Cpy.v).length:Int))) (.elJ 134 Cpy.v t0.2.1 t0.1 λx1 =>
(.elJ 230 Cpy.v t0.2.1 t0.1 λx2 =>
(.callP (FZ l x1.to)
(.pass (.join 1 (J6 l t0 x1 x2) (λ(t1:Out)=>I1 t0 x1 x2 t1) (λb1=>(.br 534 ((bu l x1.to).2) (.req 566 (okF ((bu l x1.to).1) (⟨x2.mode,x2.sub,x2.set,x2.len,x2.ttl,x2.ent,x2.ing,x2.proto,x2.bits,x2.pay⟩:Pkt)) λh3 =>
(.callP (QH ((bu l x1.to).1) (⟨x2.mode,x2.sub,x2.set,x2.len,x2.ttl,x2.ent,x2.ing,x2.proto,x2.bits,x2.pay⟩:Pkt) h3)
(.bk 1 b1 ((uf ((bu l x1.to).1) (⟨x2.mode,x2.sub,x2.set,x2.len,x2.ttl,x2.ent,x2.ing,x2.proto,x2.bits,x2.pay⟩:Pkt)):Out) [0,1,2,3,4,5,246,486])))
(.cmdL (.wkB 486 (.a [.k,.k,.s 12])) (.bk 1 b1 (((⟨0,x2.bits,[]⟩:Out)):Out) [0,1,2,3,4,5,246,486])))) λ(t1:Out) =>
(.req 72 (PS (⟨t0.2.2.2.2,t0.2.2.2.1,t0.2.2.1⟩:Trc) t1) λh4 =>
(.callH [3,4,5] (PR (⟨t0.2.2.2.2,t0.2.2.2.1,t0.2.2.1⟩:Trc) x1.to (⟨x2.mode,x2.sub,x2.set,x2.len,x2.ttl,x2.ent,x2.ing,x2.proto,x2.bits,x2.pay⟩:Pkt) t1 h4) 72
(.apX 152 Cpy.v t0.2.1 t1.copies (t0.2.1.length+t1.copies.length)
(.bk 0 b0 (W (t0.1+1),t0.2.1++t1.copies,(ni (⟨t0.2.2.2.2,t0.2.2.2.1,t0.2.2.1⟩:Trc) x1.to (⟨x2.mode,x2.sub,x2.set,x2.len,x2.ttl,x2.ent,x2.ing,x2.proto,x2.bits,x2.pay⟩:Pkt) t1).lo,(ni (⟨t0.2.2.2.2,t0.2.2.2.1,t0.2.2.1⟩:Trc) x1.to (⟨x2.mode,x2.sub,x2.set,x2.len,x2.ttl,x2.ent,x2.ing,x2.proto,x2.bits,x2.pay⟩:Pkt) t1).cr,(ni (⟨t0.2.2.2.2,t0.2.2.2.1,t0.2.2.1⟩:Trc) x1.to (⟨x2.mode,x2.sub,x2.set,x2.len,x2.ttl,x2.ent,x2.ing,x2.proto,x2.bits,x2.pay⟩:Pkt) t1).dl) [0,152,2,72,73,74])))))))))
(.fz 5 Los.v t0.2.2.1 (λ_=>rfl) (.fz 4 Crs.v t0.2.2.2.1 (λ_=>rfl) (.fz 3 Dlr.v t0.2.2.2.2 (λ_=>rfl) (.ret ((⟨t0.2.2.2.2,t0.2.2.2.1,t0.2.2.1⟩:Trc),0))))))))))))))
theorem OX(l:List Tbl)(p:Pkt)(r:Int)(ok:CK l p r):∃I0 m0 I1,(CH l p r I0 m0 I1).vp CJ (runT l p r):=by
 have hb:0≤p.bits∧p.bits<18446744073709551616:=jk ok.2.1;refine⟨RunI l p r,λs=>2 * pot (s.2.1.drop s.1.toNat)+(s.2.1.drop s.1.toNat).length,λ_ x _ o=>o=bZ l x,?_⟩;simp only[CK,Pkt.v,Tbl.v,okU,Blk.ok,aJ,B']at ok;dsimp only[CH,CI,Ax.vp,Ax.vc];simp only[vcU,rfU,B']
 refine⟨λe=>?_,λe=>?_⟩
 ·unfold runT;rw[G' (by simpa using e)]
 have e:mD l p r=0:=by simpa using e
 obtain⟨hf,hp,hr⟩:=Gc e;have hp0:=yX hp r;have hq0:QOk p (jZ r p):=⟨hp,rfl,hb⟩
 have hR:runT l p r=(AQ l 10000 [jZ r p] ⟨[],[],[]⟩,0):=by unfold runT;rw[F' (not_not_intro e)]
 refine⟨⟨0,10000,rfl,by omega,λc hc=>?_,?_,by simp,?_,?_,?_,by rw[hR];rfl⟩,?_⟩
 ·rw[cd']at hc;rw[L'.mp hc];exact hq0
 ·show 1+pot [jZ r p]≤4097;omega
 ·show 0+pot [jZ r p]≤4096;omega
 ·show 0+pot [jZ r p]≤4096;omega
 ·show 2 * pot [jZ r p]+1<10000;omega
 rintro⟨_,qs,lo,cr,dl⟩ ⟨k,f,rfl,hk,hQ,b1,b2,b3,b4,b5,hL⟩;simp only[Int.toNat_natCast]at hk hQ b1 b2 b3 b4 b5 hL ⊢
 refine⟨λd=>⟨rngL (by omega),by omega,λx hx=>⟨rngL (by omega),by omega,λy hy=>?_⟩⟩,λd=>?_⟩
 ·rw[hx]at hy;cases hy;have hd:=ss hx;rw[hd]at hQ b1 b3 b4 b5 hL ⊢;have hQx:=hQ x (by simp);have hP:=Dv hf hQx;have p1:=hP.po;have p2:=hP.nc;have p3:=hP.lc;have hcr:=xC x.bits.toNat
  refine⟨⟨λq=>⟨(jK hf hQx q).1,?_⟩,λq=>?_⟩,?_⟩
  ·unfold bZ;rw[G' q];rfl
  ·unfold bZ;rw[F' (by simp[q])]
  rintro _ rfl;have w:W ((k:Int)+1)=((k+1:Nat):Int):=bf (n:=qs.length) (by omega) (by omega);rw[pot]at b1 b3 b4 b5;rw[ab']at b5;obtain⟨f',rfl⟩:∃f',f=f'+1:=⟨f-1,by omega⟩
  have hdr:(qs++(bZ l x).copies).drop (k+1)=qs.drop (k+1)++(bZ l x).copies:=List.drop_append_of_le_length (by omega);have hll:(gN x.to (bZ l x) (pkC x)).length≤crd x.bits.toNat:=by unfold gN;rw[B'];exact p3
  rw[w]
  refine⟨⟨by show dl.length≤100000;omega,by show cr.length≤100000;omega,by show lo.length≤100000;omega,by omega⟩,by omega,⟨k+1,f',rfl,?_,?_,?_,?_,?_,?_,?_,?_⟩,?_⟩
  ·show k+1≤(qs++(bZ l x).copies).length;rw[List.length_append];omega
  ·rw[hdr];intro c hc
   rcases X'.mp hc with hc|hc
   ·exact hQ c (by simp[hc])
   ·exact hP.ok c hc
  ·rw[hdr,iy];show(qs++(bZ l x).copies).length+_≤4097;rw[List.length_append];omega
  ·show(if(bZ l x).lost=0 then lo else lo++[_]).length≤k+1
   split
   ·omega
   ·rw[List.length_append,List.length_singleton];omega
  ·rw[hdr,iy];show(cr++(bZ l x).copies.map _).length+_≤4096;rw[List.length_append,B'];omega
  ·rw[hdr,iy];show(dl++gN _ _ _).length+_≤4096;rw[List.length_append];have:(gN x.to (bZ l x) ⟨x.mode,x.sub,x.set,x.len,x.ttl,x.ent,x.ing,x.proto,x.bits,x.pay⟩).length≤crd x.bits.toNat:=hll;omega
  ·rw[hdr,iy,List.length_append];omega
  ·rw[hdr,←hL];rfl
  ·rw[Int.toNat_natCast,hdr,iy,List.length_append,pot,ab'];omega
 ·have hkl:k=qs.length:=by omega
  rw[hkl,List.drop_length]at hL;have:AQ l f [] ⟨dl,cr,lo⟩=⟨dl,cr,lo⟩:=by cases f<;>rfl
  rw[this]at hL;rw[hR]at hL ⊢;exact Prod.ext hL rfl
def OY(l:List Tbl)(p:Pkt)(router:Int):PC Tryz.prog:=pcO 22 [(.s 4),.k,.k] [.sl 4 (l.map Tbl.v) false,Pkt.v p,.int router] (.a [(.a [(.s 11),(.s 3),(.s 2)]),.k]) CJ (runT l p router) (λok=>let ⟨I0,m0,I1,h⟩:=OX l p router ok;⟨_,h,by kernel_rfl⟩) rfl (by kernel_rfl)
theorem md{l l':List Nat}(h:∀a,l.count a=l'.count a):l.Perm l':=List.perm_iff_count.mpr h
theorem JX{l:List Tbl}{p:Pkt}(hf:BU l p){c:Cpy}(hc:QOk p c):Cov ((bZ l c).lost.toNat::(bZ l c).local_.toNat::(bZ l c).copies.map λx=>x.bits.toNat) c.bits.toNat ∧
  (0≤(bZ l c).lost∧(bZ l c).lost<18446744073709551616)∧0≤(bZ l c).local_∧(bZ l c).local_<18446744073709551616:=by
 by_cases h:(bu l c.to).2=true
 ·obtain⟨_,_,hD⟩:=jK hf hc h;exact⟨hD.cov,hD.r2,hD.r3⟩
 ·have e:bZ l c=⟨0,c.bits,[]⟩:=by unfold bZ;rw[F' h]
  rw[e];refine⟨?_,hc.2.2,by simp,by simp⟩;exact(Cov.one c.bits.toNat).zero.perm (md λa=>by simp[cP'];omega)
theorem Mc{x:Nat}(hx:x<18446744073709551616):Cov (((List.range 64).filter x.testBit).map λk=>2 ^ k) x:=by
 refine⟨?_,λk=>?_⟩
 ·rw[bE'];refine(List.Pairwise.filter _ (List.pairwise_lt_range (n:=64))).imp λ{a b} hab k q=>?_;rw[bf',bf']at q;have:=H' q.1;have:=H' q.2;omega
 ·rw[ae',ac']
  constructor
  ·intro h;exact⟨2 ^ k,Y'.mpr ⟨k,aY'.mpr ⟨al'.mpr (tb_lt hx h),h⟩,rfl⟩,by rw[bf'];simp⟩
  ·rintro⟨a,ha,hk⟩;obtain⟨j,hj,rfl⟩:=Y'.mp ha;rw[bf']at hk;rw[←H' hk];exact(aY'.mp hj).2
theorem E8{p:Pkt}(hp:dQ p=true)(hb:0≤p.bits∧p.bits<18446744073709551616){o:Out}(hl:0≤o.local_∧o.local_<18446744073709551616)(hs:∀k,o.local_.toNat.testBit k=true→p.bits.toNat.testBit k=true)(r:Int) :
  (gN r o p).map (λd=>d.bits.toNat)=((List.range 64).filter o.local_.toNat.testBit).map (λk=>2 ^ k)∧∀d∈gN r o p,d.router=r∧∃k:Nat,k<64∧d.bits=((2 ^ k:Nat):Int)∧o.local_.toNat.testBit k=true:=by
 have key:∀k:Nat,k<64→o.local_.toNat.testBit k=true→(eR p k).bits=((2 ^ k:Nat):Int):=λk hk h=>by
  unfold eR;rw[rh hb,hp];obtain⟨n,hn,hlt⟩:=nb hb;have h2:=hs k h;rw[hn,Int.toNat_natCast]at h2;rw[hn,uc hlt hk,h2];simp only[Bool.not_true,Bool.or_self,aQ',if_false];exact nV hk
 obtain⟨x,hx,hxl⟩:=nb hl;rw[hx,Int.toNat_natCast]at key ⊢;have hbl:bN o.local_=((List.range 64).filter x.testBit).map λ(k:Nat)=>(k:Int):=by rw[hx,eN]
 constructor
 ·unfold gN;rw[hbl,aV',aV'];refine as' λk hk=>?_;obtain⟨h1,h2⟩:=aY'.mp hk;show(eR p (k:Int)).bits.toNat=2 ^ k;rw[key k (al'.mp h1) h2,Int.toNat_natCast]
 ·intro d hd;unfold gN at hd;rw[hbl,aV']at hd;obtain⟨k,hk,rfl⟩:=Y'.mp hd;obtain⟨h1,h2⟩:=aY'.mp hk;exact⟨rfl,k,al'.mp h1,key k (al'.mp h1) h2,h2⟩
inductive Rch (l:List Tbl) (p:Pkt) (r:Int) (k:Nat):Nat→Int→Prop where
  | zero:Rch l p r k 0 r
  | succ {j:Nat} {y z:Int}:Rch l p r k j y→(bu l y).2=true→hkB (bu l y).1 p k=z→z≠y→1≤z→Rch l p r k (j+1) z
structure lR (l:List Tbl) (p:Pkt) (r:Int) (qs:List Cpy) (t:Trc):Prop where
  cov:Cov (t.dl.map (λd=>d.bits.toNat)++(t.lo.map (λz=>z.bits.toNat)++qs.map λc=>c.bits.toNat)) p.bits.toNat
  cop:∀c∈qs,(c.set=p.set∧c.len=p.len∧c.ent=p.ent)∧∀k,c.bits.toNat.testBit k=true→∃j:Nat,c.ttl+j=p.ttl∧Rch l p r k j c.to
  dls:∀d∈t.dl,∃k:Nat,k<64∧d.bits=((2 ^ k:Nat):Int)∧∃j,Rch l p r k j d.router∧(bu l d.router).2=true∧hkB (bu l d.router).1 p k=d.router
  los:∀z∈t.lo,(0<z.bits∧z.bits<18446744073709551616)∧∀k,z.bits.toNat.testBit k=true→∃j:Nat,Rch l p r k j z.router∧((bu l z.router).2=false∨hkB (bu l z.router).1 p k=0∨(j:Int)=p.ttl)
theorem hk_eq{p q:Pkt}(hp:dQ p=true)(hq:dQ q=true)(h:q.set=p.set∧q.len=p.len∧q.ent=p.ent)(b:Tbl)(k:Nat):hkB b q k=hkB b p k:=by
 unfold hkB eP;rw[hp,hq,h.1,h.2.1,h.2.2]
theorem lR.step{l:List Tbl}{p:Pkt}(hf:BU l p)(hp:dQ p=true){r:Int}{c:Cpy}{qs:List Cpy}{t:Trc}(hc:QOk p c)(h:lR l p r (c::qs) t):lR l p r (qs++(bZ l c).copies) (ni t c.to (pkC c) (bZ l c)):=by
 obtain⟨hcov,hr2,hr3⟩:=JX hf hc;obtain⟨hs,hcop⟩:=h.cop c (by simp);have hsub:∀k,(bZ l c).local_.toNat.testBit k=true→c.bits.toNat.testBit k=true:=λk q=>hcov.sub (by simp) q;obtain⟨hl1,hl2⟩:=E8 (p:=pkC c) hc.1 hc.2.2 hr3 hsub c.to;have hD:=λq=>(jK hf hc q).2.2;have hke:=hk_eq hp hc.1 hs;have hnf:¬(bu l c.to).2=true→bZ l c=⟨0,c.bits,[]⟩:=λq=>by unfold bZ;rw[F' q]
 refine⟨?_,λx hx=>?_,λd hd=>?_,λz hz=>?_⟩
 ·have e1:(ni t c.to (pkC c) (bZ l c)).dl.map (λd=>d.bits.toNat)=t.dl.map (λd=>d.bits.toNat)++((List.range 64).filter (bZ l c).local_.toNat.testBit).map (λk=>2 ^ k):=by
   show(t.dl++gN _ _ _).map _=_;rw[ay',hl1]
  rw[e1];generalize hA:((List.range 64).filter (bZ l c).local_.toNat.testBit).map (λk=>2 ^ k)=A;have hAc:Cov A (bZ l c).local_.toNat:=by rw[←hA];exact Mc (by omega)
  have h0:=h.cov;rw[am']at h0;rw[ay'];generalize t.dl.map (λd=>d.bits.toNat)=D at *
  generalize qs.map (λc=>c.bits.toNat)=Q at *
  have h1:Cov (c.bits.toNat::(D++(t.lo.map (λz=>z.bits.toNat)++Q))) p.bits.toNat:=h0.perm (md λa=>by simp only[cx',cP'];omega);have h2:=h1.repl hcov;generalize (bZ l c).copies.map (λx=>x.bits.toNat)=C at *
  have h3:Cov ((bZ l c).local_.toNat::((bZ l c).lost.toNat::C++(D++(t.lo.map (λz=>z.bits.toNat)++Q)))) p.bits.toNat:=h2.perm (md λa=>by simp only[bJ',cx',cP'];omega);have h4:=h3.repl hAc;show Cov ((D++A)++((if(bZ l c).lost=0 then t.lo else t.lo++[⟨c.to,(bZ l c).lost⟩]).map (λz=>z.bits.toNat)++(Q++C))) p.bits.toNat
  by_cases e:(bZ l c).lost=0
  ·rw[G' e];rw[e]at h4;have h5:Cov (0::(A++(C++(D++(t.lo.map (λz=>z.bits.toNat)++Q))))) p.bits.toNat:=h4.perm (md λa=>by simp only[bJ',cx',cP',Int.toNat_zero];omega);exact h5.unzero.perm (md λa=>by simp only[cx'];omega)
  ·rw[F' e];exact h4.perm (md λa=>by simp only[bJ',ay',am',bI',cx',cP',List.count_nil];omega)
 ·rcases X'.mp hx with hx|hx
  ·exact h.cop x (by simp[hx])
  ·by_cases q:(bu l c.to).2=true
   ·obtain⟨k1,k2,k3,k4⟩:=(hD q).cps x hx;have e:=k1.eq;refine⟨⟨e.2.2.1.trans hs.1,e.2.2.2.1.trans hs.2.1,e.2.2.2.2.1.trans hs.2.2⟩,λk hk=>?_⟩;obtain⟨j,j1,j2⟩:=hcop k (hcov.sub (bh' _ (bh' _ (Y'.mpr ⟨x,hx,rfl⟩))) hk);have ht:=k1.ttl
    refine⟨j+1,by rw[ht];show c.ttl-1+((j+1:Nat):Int)=p.ttl;omega,.succ j2 q ?_ ?_ k3⟩
    ·rw[←hke];exact k4 k hk
    ·have:=(nE q).2;rw[←this];exact k2
   ·rw[hnf q]at hx;simp at hx
 ·rcases X'.mp (show d∈t.dl++gN c.to (bZ l c) (pkC c)from hd)with hd|hd
  ·exact h.dls d hd
  ·obtain⟨e,k,k1,k2,k3⟩:=hl2 d hd;have q:(bu l c.to).2=true:=by
    refine P' λq=>?_;rw[hnf q]at k3;simp at k3
   obtain⟨l1,l2⟩:=(hD q).loc k k3;obtain⟨j,j1,j2⟩:=hcop k (hsub k k3);rw[e];refine⟨k,k1,k2,j,j2,q,?_⟩;rw[←hke,l1,(nE q).2]
 ·have hz:z∈(if(bZ l c).lost=0 then t.lo else t.lo++[⟨c.to,(bZ l c).lost⟩]):=hz
  by_cases e:(bZ l c).lost=0
  ·rw[G' e]at hz;exact h.los z hz
  ·rw[F' e]at hz
   rcases X'.mp hz with hz|hz
   ·exact h.los z hz
   ·rw[L'.mp hz];refine⟨by simp only;omega,λk hk=>?_⟩;obtain⟨j,j1,j2⟩:=hcop k (hcov.sub (by simp) hk);refine⟨j,j2,?_⟩
    by_cases q:(bu l c.to).2=true
    ·rcases(hD q).los k hk with g|g
     ·exact .inr (.inl (by rw[←hke];exact g))
     ·refine .inr (.inr ?_);have g:c.ttl=0:=g;omega
    ·exact .inl (by simpa using q)
theorem lR.zero{l:List Tbl}{p:Pkt}(r:Int):lR l p r [jZ r p] ⟨[],[],[]⟩:=
 ⟨Cov.one _,λc hc=>by rw[L'.mp hc];exact⟨⟨rfl,rfl,rfl⟩,λk _=>⟨0,by show p.ttl+_=_;simp,.zero⟩⟩,λd hd=>by simp at hd,λz hz=>by simp at hz⟩
theorem OW{l:List Tbl}{p:Pkt}{r:Int}(h:mD l p r=0)(hb:0≤p.bits∧p.bits<18446744073709551616):(runT l p r).2=0∧lR l p r [] (runT l p r).1:=by
 obtain⟨hf,hp,hr⟩:=Gc h;unfold runT;rw[F' (not_not_intro h)]
 refine⟨rfl,sY hf (lR l p r) (λc qs t hc hj=>hj.step hf hp hc) _ _ _ (λc hc=>?_) ?_ (lR.zero r)⟩
 ·rw[L'.mp hc];exact⟨hp,rfl,hb⟩
 ·have:=yX hp r;rw[List.length_singleton];omega
theorem A4{a b:Nat}(ha:a<18446744073709551616)(hb:b<18446744073709551616)(h:djB a b):fc .u64 (a:Int) (b:Int)=0:=by
 rw[gq ha hb];have:a &&& b=0:=lp λi=>by
  rw[cj',Nat.zero_testBit];cases p:a.testBit i<;>cases q:b.testBit i<;>first|rfl|exact absurd ⟨p,q⟩ (h i)
 rw[this];rfl
theorem GX{a b v:Nat}(hv:∀k,v.testBit k=(a.testBit k || b.testBit k)){r:List Nat}{x:Nat}(h:Cov (a::b::r) x):Cov (v::r) x:=by
 have d:=an'.mp h.dis;have d2:=an'.mp d.2
 refine⟨an'.mpr ⟨λc hc i q=>?_,d2.2⟩,λi=>?_⟩
 ·rw[hv]at q
  rcases(aK' _ _).mp q.1 with g|g
  ·exact d.1 c (by simp[hc]) i ⟨g,q.2⟩
  ·exact d2.1 c hc i ⟨g,q.2⟩
 ·rw[h.all i,bA',bA',bA',hv,Bool.or_assoc]
theorem Ku:∀k<64,(List.range 64).filter (2 ^ k).testBit=[k]:=by decide +kernel
theorem zV{x:Nat}:∀(l:List Dlr) (s:Nat) (R:List Nat),s<18446744073709551616→(∀d∈l,∃k:Nat,k<64∧d.bits=((2 ^ k:Nat):Int))→Cov (s::(l.map (λd=>d.bits.toNat)++R)) x→∃v:Nat,sr l s=some (v:Int)∧v<18446744073709551616∧Cov (v::R) x
 | [],s,R,hs,_,h=>⟨s,rfl,hs,h⟩
 | d::l,s,R,hs,hd,h=>by
  obtain⟨k,hk,e⟩:=hd d (by simp);rw[am',bJ',e,Int.toNat_natCast]at h;obtain⟨v,v1,v2,v3⟩:=uT hs (ji hk);have hdj:=(an'.mp h.dis).1 (2 ^ k) (by simp)
  rw[sr,e,A4 hs (ji hk) hdj,F',v1]
  ·exact zV l v R v2 (λd hd'=>hd d (by simp[hd'])) (GX v3 h)
  ·have:(bN ((2 ^ k:Nat):Int)).length=1:=by
    rw[eN,B'];have:(List.range 64).filter (2 ^ k).testBit=[k]:=Ku k hk;rw[this];rfl
   exact λq=>q.elim (λg=>g this) (λg=>g rfl)
theorem zU{x:Nat}:∀(l:List Los) (s:Nat),s<18446744073709551616→(∀z∈l,0<z.bits∧z.bits<18446744073709551616)→Cov (s::l.map λd=>d.bits.toNat) x→∃v:Nat,xo l s=some (v:Int)∧v<18446744073709551616∧Cov [v] x
 | [],s,hs,_,h=>⟨s,rfl,hs,h⟩
 | d::l,s,hs,hd,h=>by
  obtain⟨e1,e2⟩:=hd d (by simp);obtain⟨b,hb,hbl⟩:=nb (x:=d.bits) (by omega);rw[am',hb,Int.toNat_natCast]at h;obtain⟨v,v1,v2,v3⟩:=uT hs hbl;have hdj:=(an'.mp h.dis).1 b (by simp);rw[xo,hb,A4 hs hbl hdj,F' (by omega),v1];exact zU l v v2 (λd hd'=>hd d (by simp[hd'])) (GX v3 h)
theorem lR.ends{l:List Tbl}{p:Pkt}{r:Int}{t:Trc}(hb:0≤p.bits∧p.bits<18446744073709551616)(h:lR l p r [] t):uu t p.bits=true:=by
 have hc:=h.cov.zero;rw[bI',bo']at hc;obtain⟨v,v1,v2,v3⟩:=zV t.dl 0 _ (by decide) (λd hd=>by obtain⟨k,h1,h2,_⟩:=h.dls d hd;exact⟨k,h1,h2⟩) hc;obtain⟨w,w1,w2,w3⟩:=zU t.lo v v2 (λz hz=>(h.los z hz).1) v3;unfold uu;have v1':sr t.dl 0=some (v:Int):=v1;rw[v1'];simp only;rw[w1];simp only;have:w=p.bits.toNat:=lp λi=>by rw[w3.all i];simp
 rw[this,aL'];omega
theorem ig{k n:Nat}{res:List AR}{r:AV}{h':List (Option Blk)}{s s1:S3}(hw:au k n s s1)(h:fin k n res r h' .ret s1):fin k n res r h' .ret s:=by
 obtain⟨s',g1,g2⟩:=h;exact⟨s',hw.trans g1,g2⟩
theorem ix{xs ys:List AV}(h:aV xs)(h':aV ys):aV (xs++ys):=by
 rw[jJ]at *
 intro x hx
 rcases X'.mp hx with hx|hx
 ·exact h x hx
 ·exact h' x hx
theorem ob{xs:List AV}(h:aV xs)(n:Nat):aV (xs.take n):=by
 rw[jJ]at *;exact λx hx=>h x (ah' hx)
theorem oc{xs:List AV}(h:aV xs)(n:Nat):aV (xs.drop n):=by
 rw[jJ]at *;exact λx hx=>h x (aJ' hx)
theorem eA{es:List AV}{x:AV}(h:aV es)(hx:x.pure)(i:Nat):aV (bF es i x):=ix (ix (ob h i) ⟨hx,trivial⟩) (oc h i)
theorem fg{k m:Nat}{es:List AV}{π:Nat→Nat}(h:aV es):(Blk.vec k es).ren π=.vec k es∧(Blk.vec k es).bel m:=⟨by rw[Blk.ren,aX _ h],aT h⟩
theorem Bl{α β:Type}(f:α→β)(l:List α)(i:Nat)(x:α):bF (l.map f) i (f x)=(bF l i x).map f:=by
 simp[bF]
def uN:AF:=
 ⟨95,3,[.tmp 6],
 .seq (.reg [⟨(some 6),.move (.c (.sl 0 [] true)),none⟩])
 (.seq (.reg [⟨(some 10),.move (.t 0),none⟩,⟨(some 11),.move (.t 1),none⟩,⟨(some 12),.slice 5 (.t 10) (some (.t 11)) none none,none⟩])
 (.seq (.reg [⟨(some 13),.move (.t 2),none⟩,⟨(some 14),.len (.t 13),none⟩,⟨(some 7),.move (.t 14),none⟩])
 (.seq (.seq (.reg [⟨(some 15),.move (.t 7),none⟩,⟨(some 16),.bin .eql (.t 15) (.c (.val (.int .i64 0))),none⟩])
 (.cond (.t 16) (.seq (.reg [⟨(some 17),.move (.t 0),none⟩,⟨(some 6),.move (.t 17),none⟩])
 (.ret)) (.skip)))
 (.seq (.reg [⟨(some 18),.move (.t 0),none⟩,⟨(some 19),.len (.t 18),none⟩,⟨(some 8),.move (.t 19),none⟩])
 (.seq (.seq (.reg [⟨(some 20),.move (.t 1),none⟩,⟨(some 21),.move (.t 8),none⟩,⟨(some 22),.bin .eql (.t 20) (.t 21),none⟩])
 (.cond (.t 22) (.seq (.reg [⟨(some 23),.move (.t 0),none⟩,⟨(some 24),.move (.t 2),none⟩,⟨(some 25),.append 5 40 (.t 23) (.t 24),none⟩,⟨(some 6),.move (.t 25),none⟩])
 (.ret)) (.skip)))
 (.seq (.seq (.reg [⟨(some 26),.move (.t 8),none⟩,⟨(some 27),.move (.t 7),none⟩,⟨(some 28),.bin .add (.t 26) (.t 27),none⟩,⟨(some 29),.move (.t 0),none⟩,⟨(some 30),.cap (.t 29),none⟩,⟨(some 31),.bin .gtr (.t 28) (.t 30),none⟩])
 (.cond (.t 31) (.seq (.reg [⟨(some 32),.move (.t 0),none⟩,⟨(some 33),.move (.t 1),none⟩,⟨(some 34),.slice 5 (.t 32) none (some (.t 33)) none,none⟩,⟨(some 35),.move (.t 8),none⟩,⟨(some 36),.move (.t 7),none⟩,⟨(some 37),.bin .add (.t 35) (.t 36),none⟩,⟨(some 38),.move (.t 1),none⟩,⟨(some 39),.bin .sub (.t 37) (.t 38),none⟩,⟨(some 40),.appendZ 5 40 ((.agg [(.val (.int .i64 0)),(.val (.int .i64 0)),(.val (.int .i64 0)),(.val (.int .i64 0)),(.val (.int .i64 0))])) (.t 34) (.t 39),none⟩,⟨(some 9),.move (.t 40),none⟩])
 (.seq (.reg [⟨(some 41),.move (.t 9),none⟩,⟨(some 42),.move (.t 1),none⟩,⟨(some 43),.slice 5 (.t 41) (some (.t 42)) none none,none⟩,⟨(some 44),.move (.t 2),none⟩,⟨(some 45),.copy 5 (.t 43) (.t 44),none⟩])
 (.seq (.dreg [⟨(some 46),.move (.t 9),none⟩,⟨(some 47),.move (.t 1),none⟩,⟨(some 48),.move (.t 7),none⟩,⟨(some 49),.bin .add (.t 47) (.t 48),none⟩,⟨(some 50),.slice 5 (.t 46) (some (.t 49)) none none,none⟩,⟨(some 51),.move (.t 0),none⟩,⟨(some 52),.move (.t 1),none⟩,⟨(some 53),.slice 5 (.t 51) (some (.t 52)) none none,none⟩,⟨(some 54),.copy 5 (.t 50) (.t 53),none⟩] [(4,7)])
 (.seq (.reg [⟨(some 55),.move (.t 9),none⟩,⟨(some 6),.move (.t 55),none⟩])
 (.ret))))) (.skip)))
 (.seq (.reg [⟨(some 56),.move (.t 0),none⟩,⟨(some 57),.move (.t 8),none⟩,⟨(some 58),.move (.t 7),none⟩,⟨(some 59),.bin .add (.t 57) (.t 58),none⟩,⟨(some 60),.slice 5 (.t 56) none (some (.t 59)) none,none⟩,⟨(some 0),.move (.t 60),none⟩])
 (.seq (.seq (.reg [⟨(some 61),.move (.t 2),none⟩,⟨(some 62),.move (.t 0),none⟩,⟨(some 63),.move (.t 1),none⟩,⟨(some 64),.move (.t 7),none⟩,⟨(some 65),.bin .add (.t 63) (.t 64),none⟩,⟨(some 66),.slice 5 (.t 62) (some (.t 65)) none none,none⟩,⟨(some 67),.call (.c (.func 153 [])) [(.t 61),(.t 66)],none⟩,⟨(some 68),.un .not (.t 67),none⟩])
 (.cond (.t 68) (.seq (.dreg [⟨(some 69),.move (.t 0),none⟩,⟨(some 70),.move (.t 1),none⟩,⟨(some 71),.move (.t 7),none⟩,⟨(some 72),.bin .add (.t 70) (.t 71),none⟩,⟨(some 73),.slice 5 (.t 69) (some (.t 72)) none none,none⟩,⟨(some 74),.move (.t 0),none⟩,⟨(some 75),.move (.t 1),none⟩,⟨(some 76),.slice 5 (.t 74) (some (.t 75)) none none,none⟩,⟨(some 77),.copy 5 (.t 73) (.t 76),none⟩] [(4,7)])
 (.seq (.reg [⟨(some 78),.move (.t 0),none⟩,⟨(some 79),.move (.t 1),none⟩,⟨(some 80),.slice 5 (.t 78) (some (.t 79)) none none,none⟩,⟨(some 81),.move (.t 2),none⟩,⟨(some 82),.copy 5 (.t 80) (.t 81),none⟩])
 (.seq (.reg [⟨(some 83),.move (.t 0),none⟩,⟨(some 6),.move (.t 83),none⟩])
 (.ret)))) (.skip)))
 (.seq (.reg [⟨(some 84),.move (.t 0),none⟩,⟨(some 85),.move (.t 8),none⟩,⟨(some 86),.slice 5 (.t 84) (some (.t 85)) none none,none⟩,⟨(some 87),.move (.t 2),none⟩,⟨(some 88),.copy 5 (.t 86) (.t 87),none⟩])
 (.seq (.reg [⟨(some 89),.move (.t 0),none⟩,⟨(some 90),.move (.t 1),none⟩,⟨(some 91),.slice 5 (.t 89) (some (.t 90)) none none,none⟩,⟨(some 92),.move (.t 7),none⟩,⟨(some 93),.call (.c (.func 154 [])) [(.t 91),(.t 92)],none⟩])
 (.seq (.reg [⟨(some 94),.move (.t 0),none⟩,⟨(some 6),.move (.t 94),none⟩])
 (.ret))))))))))))⟩
theorem uM:gm Tryz.prog Tryz.f127=some uN:=by kernel_rfl
theorem jm : (Tryz.f153.name == "runtime.NumGoroutine") = false ∧ Tryz.f153.body.isNone = true := ⟨by kernel_rfl, by kernel_rfl⟩
theorem oj:Extern.findNext Tryz.f153=none:=by kernel_rfl
theorem om:Extern.find Tryz.f153=some (Extern.SlicesOverlaps.overlaps #[28,28] #[4]):=by kernel_rfl
theorem oi:sizeOf? Tryz.prog 104=some 5:=by kernel_rfl
theorem rc:Program.underlying Tryz.prog 28=some (.slice 104):=by kernel_rfl
theorem va(es:List AV)(x:AV)(i cap:Nat)(hi:i≤es.length)(hx:x.solid=true)(h1:es.length≤cap)(h2:cap≤maxLen)(hs:es.length≤1000000)(hp:aV es∧x.pure) :
  aZ Tryz.prog 127 [.vec 0,.int i,.vec 1] [.row 5 es es.length cap,.vec 5 [x]] (.vec 2) [none,none,some (.vec 5 (bF es i x))]:=by
 have hml:=bv;refine aZ.walk Tryz.func127 uM (by simp[uN]) ?_;unfold uN;simp only[fO,gk,ab',ap'];refine AWP.seq' ?_;refine AWP.reg' λK hK=>?_
 try simp only[ak,seval]
 refine hK _ _ _ ?_;clear hK K;refine AWP.seq' ?_;refine AWP.reg' λK hK=>?_
 try simp only[ak,seval]
 repeat (refine E' (by omega) ?_)
 refine hK _ _ _ ?_;clear hK K;refine AWP.seq' ?_;refine AWP.reg' λK hK=>?_
 try simp only[ak,seval]
 refine hK _ _ _ ?_;clear hK K;refine AWP.seq' (AWP.seq' ?_);refine AWP.reg' λK hK=>?_
 try simp only[ak,seval]
 refine hK _ _ _ ?_;clear hK K;refine AWP.cond (b:=false) rfl (λh=>by cases h) (λ_=>?_);refine AWP.skip ?_;refine AWP.seq' ?_;refine AWP.reg' λK hK=>?_
 try simp only[ak,seval]
 refine hK _ _ _ ?_;clear hK K;refine AWP.seq' (AWP.seq' ?_);refine AWP.reg' λK hK=>?_
 try simp only[ak,seval]
 refine hK _ _ _ ?_;clear hK K
 refine AWP.cond (b:=((i:Int)==(es.length:Int))) rfl (λh=>?_) (λh=>?_)
 ·have h:i=es.length:=by have:=eq_of_beq h;omega
  refine AWP.seq' ?_;refine AWP.reg' λK hK=>?_
  try simp only[ak,seval,bp,eC]
  repeat (refine E' (by omega) ?_)
  refine hK _ _ _ ?_;clear hK K
  refine AWP.ret (iD [0,1,274] [(6,.vec 2)] rfl rfl ?_ ?_ rfl (by simp) ?_ (by simp))
  ·simp only[L',forall_eq];exact⟨rfl,show(2:Nat)<3 by omega⟩
  ·refine⟨⟨?_,?_⟩,trivial⟩
   ·rw[(fg (m:=0) (eA hp.1 hp.2 i)).1];show some (Blk.vec 5 (es++[x]))=_;rw[bF,h,List.take_length,List.drop_length,bo']
   ·exact(fg (π:=id) (eA hp.1 hp.2 i)).2
  ·intro b hb
   match b,hb with
   | 0,_=>rfl
   | 1,_=>rfl
 have h:¬i=es.length:=by intro e;subst e;simp at h
 refine AWP.skip ?_;refine AWP.seq' (AWP.seq' ?_);have w1:IntKind.i64.wrap ((es.length:Int)+1)=es.length+1:=nO (by omega);refine AWP.reg' λK hK=>?_
 try simp only[ak,seval,w1]
 refine hK _ _ _ ?_;clear hK K
 refine AWP.cond (b:=decide ((cap:Int)<(es.length:Int)+1)) rfl (λh3=>?_) (λh3=>?_)
 ·have h3:cap=es.length:=by have:=H' h3;omega
  refine AWP.seq' ?_;have w2:IntKind.i64.wrap ((es.length:Int)+1-i)=es.length+1-i:=nO (by omega);have hlt:¬((es.length:Int)<(i:Int)):=by omega
  refine AWP.reg' λK hK=>?_
  try simp only[ak,seval,w1,w2,fC,Int.toNat_natCast,hlt]
  repeat (refine E' (by omega) ?_)
  refine hK _ _ _ ?_;clear hK K;have hn:((es.length:Int)+1-i).toNat=es.length+1-i:=by omega
  rw[hn];generalize hL:es.take i++List.replicate (es.length+1-i) (AV.agg [AV.val (Value.int IntKind.i64 0),AV.val (Value.int IntKind.i64 0),AV.val (Value.int IntKind.i64 0),AV.val (Value.int IntKind.i64 0),AV.val (Value.int IntKind.i64 0)])=L;have hLl:L.length=es.length+1:=by rw[←hL];simp;omega
  refine AWP.seq' ?_;have hpos:0<es.length+1:=by omega
  have hsub:(((es.length+1:Nat):Int)-(i:Int)).toNat=es.length+1-i:=by omega
  have hmin:Nat.min 1 (es.length+1-i)=1:=bv' (by omega);refine AWP.reg' λK hK=>?_
  try simp only[ak,seval,hLl,jx,lX,eC,Int.toNat_natCast,hpos,hsub,hmin]
  repeat (refine E' (by omega) ?_)
  refine hK _ _ _ ?_;clear hK K;have ht1:List.take 1 [x]=[x]:=rfl;have w3:IntKind.i64.wrap ((i:Int)+1)=i+1:=nO (by omega);generalize hM:over L i [x]=M;have hMl:M.length=es.length+1:=by rw[←hM,jn (by omega),cJ'];split<;>simp at *<;>omega
  refine AWP.seq' ?_;have ha:((es.length:Int)-(i:Int)).toNat=es.length-i:=by omega
  have hb:(((es.length+1:Nat):Int)-((i:Int)+1)).toNat=es.length-i:=by omega
  have hc:((i:Int)+1).toNat=i+1:=by omega
  have hd:Nat.min (es.length-i) (es.length-i)=es.length-i:=Nat.min_self _;have he:(es.drop i).take (es.length-i)=es.drop i:=ai' (by simp);have hf:(es.drop i).length=es.length-i:=bp' ..;refine AWP.dreg' λK hK=>?_
  try simp only[ak,seval,hMl,jx,lX,eC,Int.toNat_natCast,hpos,w3,ha,hb,hc,hd,he,hf]
  repeat (refine E' (by omega) ?_)
  refine⟨by rfl,hK _ _ _ ?_⟩;clear hK K;refine AWP.seq' ?_;refine AWP.reg' λK hK=>?_
  try simp only[ak,seval]
  refine hK _ _ _ ?_;clear hK K;have hfin:over M (i+1) (es.drop i)=bF es i x:=by
   have hLi:L.take i=es.take i:=by
    rw[←hL,ca' (by simp;omega),List.take_take,Nat.min_self]
   have hMi:M.take (i+1)=es.take i++[x]:=by
    have e1:(es.take i++[x]).length=i+1:=by simp;omega
    rw[←hM,over,hLi,←e1];exact List.take_left
   have hMd:M.drop (i+1+(es.drop i).length)=[]:=bB' (by rw[hMl,hf];omega);unfold over bF;rw[hMi,hMd,bo']
  refine AWP.ret (iD [0,1,466] [(6,.vec 2)] rfl rfl ?_ ?_ rfl (by simp) ?_ (by simp))
  ·simp only[L',forall_eq];exact⟨rfl,show(2:Nat)<3 by omega⟩
  ·refine⟨⟨?_,?_⟩,trivial⟩
   ·rw[(fg (m:=0) (eA hp.1 hp.2 i)).1,←hfin];rfl
   ·exact(fg (π:=id) (eA hp.1 hp.2 i)).2
  ·intro b hb
   match b,hb with
   | 0,_=>rfl
   | 1,_=>rfl
 have h3:es.length+1≤cap:=by have:=T' h3;omega
 refine AWP.skip ?_;refine AWP.seq' ?_;have hgt:((es.length:Int)<(es.length:Int)+1):=by omega
 refine AWP.reg' λK hK=>?_
 try simp only[ak,seval,w1,hgt]
 repeat (refine E' (by omega) ?_)
 refine hK _ _ _ ?_;clear hK K;have w3:IntKind.i64.wrap ((i:Int)+1)=i+1:=nO (by omega);refine AWP.seq' (AWP.seq' ?_);have hn1:((es.length:Int)+1).toNat=es.length+1:=by omega
 refine AWP.reg' λK hK=>?_
 try simp only[ak,seval,w3,Int.toNat_natCast,hn1]
 repeat (refine E' (by omega) ?_)
 refine LB rfl rfl (rZ Tryz.func153 jm.1 jm.2 oj om rc oi (by omega) rfl rfl (by omega) (by simp) (by omega)) ?_
 try simp only[ak,seval,w3]
 refine hK _ _ _ ?_;clear hK K;refine AWP.cond (b:=true) rfl (λ_=>?_) (λh=>by cases h);refine AWP.seq' ?_;have hb:(((es.length+1:Nat):Int)-((i:Int)+1)).toNat=es.length-i:=by omega
 have hc:((i:Int)+1).toNat=i+1:=by omega
 have hsub:(((es.length+1:Nat):Int)-(i:Int)).toNat=es.length+1-i:=by omega
 have hd:Nat.min (es.length+1-i) (es.length-i)=es.length-i:=Nat.min_eq_right (by omega);have he:(es.drop i).take (es.length+1-i)=es.drop i:=ai' (by simp;omega);have he2:(es.drop i).take (es.length-i)=es.drop i:=ai' (by simp);have hf:(es.drop i).length=es.length-i:=bp' ..;refine AWP.dreg' λK hK=>?_
 try simp only[ak,seval,w3,jx,lX,eC,Int.toNat_natCast,hb,hc,hsub,hd,he,he2,hf]
 repeat (refine E' (by omega) ?_)
 refine⟨by rfl,hK _ _ _ ?_⟩;clear hK K;have hMl:(over es (i+1) (es.drop i)).length=es.length+1:=by simp[over];omega
 have hMt:(over es (i+1) (es.drop i)).take i=es.take i:=by
  unfold over;rw[aT',ca' (by simp;omega),List.take_take,bv' (by omega)]
 have hMd:(over es (i+1) (es.drop i)).drop (i+1)=es.drop i:=by
  unfold over;have e1:(es.take (i+1)).length=i+1:=by simp;omega
  have e2:es.drop (i+1+(es.drop i).length)=[]:=bB' (by simp;omega);rw[e2,bo'];have e3:=List.drop_left (l₁:=es.take (i+1)) (l₂:=es.drop i);rw[e1]at e3;exact e3
 generalize hM:over es (i+1) (es.drop i)=M at *
 refine AWP.seq' ?_;have hsub:(((es.length+1:Nat):Int)-(i:Int)).toNat=es.length+1-i:=by omega
 have hmin:Nat.min 1 (es.length+1-i)=1:=bv' (by omega);have ht1:List.take 1 [x]=[x]:=rfl;refine AWP.reg' λK hK=>?_
 try simp only[ak,seval,hMl,jx,lX,eC,Int.toNat_natCast,hsub,hmin]
 repeat (refine E' (by omega) ?_)
 refine hK _ _ _ ?_;clear hK K;refine AWP.seq' ?_;refine AWP.reg' λK hK=>?_
 try simp only[ak,seval]
 refine hK _ _ _ ?_;clear hK K;have hfin:over M i [x]=bF es i x:=by
  unfold over bF;rw[hMt,show i+[x].length=i+1 from rfl,hMd]
 have hfl:(bF es i x).length=es.length+1:=by unfold bF;simp;omega
 rw[hfin]
 refine AWP.ret (ig (au.row (b:=402) (cap:=cap) (k:=5) (es:=bF es i x) (by rw[hfl];rfl)) (iD [0,1,402] [(6,.vec 2)] rfl rfl ?_ ?_ rfl (by simp) ?_ (by simp)))
 ·simp only[L',forall_eq];exact⟨rfl,show(2:Nat)<3 by omega⟩
 ·refine⟨⟨?_,?_⟩,trivial⟩
  ·rw[(fg (m:=0) (eA hp.1 hp.2 i)).1];rfl
  ·exact(fg (π:=id) (eA hp.1 hp.2 i)).2
 ·intro b hb
  match b,hb with
  | 0,_=>rfl
  | 1,_=>rfl
theorem vb(x:AV)(hx:x.solid=true)(hp:x.pure) :
  aZ Tryz.prog 127 [.vec 0,.int 0,.vec 1] [.vec 5 [],.vec 5 [x]] (.vec 2) [none,none,some (.vec 5 [x])]:=by
 have hml:=bv;refine aZ.walk Tryz.func127 uM (by simp[uN]) ?_;unfold uN;simp only[fO,gk,ab',ap'];refine AWP.seq' ?_;refine AWP.reg' λK hK=>?_
 try simp only[ak,seval]
 refine hK _ _ _ ?_;clear hK K;refine AWP.seq' ?_;refine AWP.reg' λK hK=>?_
 try simp only[ak,seval]
 refine hK _ _ _ ?_;clear hK K;refine AWP.seq' ?_;refine AWP.reg' λK hK=>?_
 try simp only[ak,seval]
 refine hK _ _ _ ?_;clear hK K;refine AWP.seq' (AWP.seq' ?_);refine AWP.reg' λK hK=>?_
 try simp only[ak,seval]
 refine hK _ _ _ ?_;clear hK K;refine AWP.cond (b:=false) rfl (λh=>by cases h) (λ_=>?_);refine AWP.skip ?_;refine AWP.seq' ?_;refine AWP.reg' λK hK=>?_
 try simp only[ak,seval]
 refine hK _ _ _ ?_;clear hK K;refine AWP.seq' (AWP.seq' ?_);refine AWP.reg' λK hK=>?_
 try simp only[ak,seval]
 refine hK _ _ _ ?_;clear hK K;refine AWP.cond (b:=true) rfl (λh=>?_) (λh=>by cases h);refine AWP.seq' ?_;refine AWP.reg' λK hK=>?_
 try simp only[ak,seval,bp,eC]
 repeat (refine E' (by omega) ?_)
 refine hK _ _ _ ?_;clear hK K
 refine AWP.ret (iD [0,1,274] [(6,.vec 2)] rfl rfl ?_ ?_ rfl (by simp) ?_ (by simp))
 ·simp only[L',forall_eq];exact⟨rfl,show(2:Nat)<3 by omega⟩
 ·have hp':aV [x]:=⟨hp,trivial⟩
  refine⟨⟨?_,?_⟩,trivial⟩
  ·rw[(fg (m:=0) hp').1];rfl
  ·exact(fg (π:=id) hp').2
 ·intro b hb
  match b,hb with
  | 0,_=>rfl
  | 1,_=>rfl
theorem sM(es:List AV)(x:AV)(i:Nat)(hi:i≤es.length)(hx:x.solid=true)(hs:es.length≤1000000)(hp:aV es∧x.pure) :
  aZ Tryz.prog 127 [.vec 0,.int i,.vec 1] [.vec 5 es,.vec 5 [x]] (.vec 2) [none,none,some (.vec 5 (bF es i x))]:=by
 refine aZ.of_row (λcap h1 h2=>va es x i cap hi hx h1 h2 hs hp) (λh=>?_);subst h;have:i=0:=by simpa using hi
 subst this;exact vb x hx hp.2
theorem ye:kK Tryz.prog 127:=mB (by kernel_rfl)
def HD:AF:=
 ⟨33,3,[.tmp 6],
 .seq (.reg [⟨(some 6),.move (.c (.sl 0 [] true)),none⟩])
 (.seq (.reg [⟨(some 8),.move (.t 0),none⟩,⟨(some 9),.move (.t 1),none⟩,⟨(some 10),.move (.t 2),none⟩,⟨(some 11),.move (.t 0),none⟩,⟨(some 12),.len (.t 11),none⟩,⟨(some 13),.slice 5 (.t 8) (some (.t 9)) (some (.t 10)) (some (.t 12)),none⟩])
 (.seq (.seq (.reg [⟨(some 14),.move (.t 1),none⟩,⟨(some 15),.move (.t 2),none⟩,⟨(some 16),.bin .eql (.t 14) (.t 15),none⟩])
 (.cond (.t 16) (.seq (.reg [⟨(some 17),.move (.t 0),none⟩,⟨(some 6),.move (.t 17),none⟩])
 (.ret)) (.skip)))
 (.seq (.reg [⟨(some 18),.move (.t 0),none⟩,⟨(some 19),.len (.t 18),none⟩,⟨(some 7),.move (.t 19),none⟩])
 (.seq (.dreg [⟨(some 20),.move (.t 0),none⟩,⟨(some 21),.move (.t 1),none⟩,⟨(some 22),.slice 5 (.t 20) none (some (.t 21)) none,none⟩,⟨(some 23),.move (.t 0),none⟩,⟨(some 24),.move (.t 2),none⟩,⟨(some 25),.slice 5 (.t 23) (some (.t 24)) none none,none⟩,⟨(some 26),.append 5 40 (.t 22) (.t 25),none⟩,⟨(some 0),.move (.t 26),none⟩] [(2,5)])
 (.seq (.reg [⟨(some 27),.move (.t 0),none⟩,⟨(some 28),.move (.t 0),none⟩,⟨(some 29),.len (.t 28),none⟩,⟨(some 30),.move (.t 7),none⟩,⟨(some 31),.slice 5 (.t 27) (some (.t 29)) (some (.t 30)) none,none⟩,⟨none,.clear 5 ((.agg [(.val (.int .i64 0)),(.val (.int .i64 0)),(.val (.int .i64 0)),(.val (.int .i64 0)),(.val (.int .i64 0))])) (.t 31),none⟩])
 (.seq (.reg [⟨(some 32),.move (.t 0),none⟩,⟨(some 6),.move (.t 32),none⟩])
 (.ret)))))))⟩
theorem HA:gm Tryz.prog Tryz.f126=some HD:=by kernel_rfl
theorem yg:kK Tryz.prog 126:=mB (by kernel_rfl)
def eT{α:Type}(es:List α)(i:Nat):List α:=es.take i++es.drop (i+1)
theorem mP{es:List AV}(h:aV es)(i:Nat):aV (eT es i):=ix (ob h i) (oc h (i+1))
theorem sP(es:List AV)(i:Nat)(hi:i<es.length)(hs:es.length≤1000000)(hp:aV es) :
  aZ Tryz.prog 126 [.vec 0,.int i,.int ((i+1:Nat):Int)] [.vec 5 es] (.vec 1) [none,some (.vec 5 (eT es i))]:=by
 refine aZ.of_row (λcap h1 h2=>?_) (λh=>by subst h;simp at hi);have hml:=bv;refine aZ.walk Tryz.func126 HA (by simp[HD]) ?_;unfold HD;simp only[fO,gk,ab',ap'];have e1:((i:Int)==((i+1:Nat):Int))=false:=by simp;omega
 repeat (first
  | refine AWP.seq' ?_
  | refine AWP.skip ?_
  | (refine AWP.reg' λK hK=>?_;simp only[ak,seval,e1];(repeat (refine E' (by omega) ?_));refine hK _ _ _ ?_;clear hK K))
 refine AWP.cond (b:=false) rfl (λh=>by cases h) (λh=>?_)
 repeat (first
  | refine AWP.seq' ?_
  | refine AWP.skip ?_
  | (refine AWP.reg' λK hK=>?_;simp only[ak,seval];(repeat (refine E' (by omega) ?_));refine hK _ _ _ ?_;clear hK K))
 have g1:((es.length:Int)-((i+1:Nat):Int)).toNat=es.length-(i+1):=by omega
 have g2:((i:Int)-0).toNat=i:=by omega
 have g3:(es.drop (i+1)).take (es.length-(i+1))=es.drop (i+1):=ai' (by simp);have g4:(es.drop (i+1)).length=es.length-(i+1):=bp' ..;have g5:i+(es.length-(i+1))=es.length-1:=by omega
 have g6:¬((es.length:Int)<(i:Int)):=by omega
 have g7:i+1+(es.length-(i+1))≤es.length:=by omega
 refine AWP.dreg' λK hK=>?_
 try simp only[ak,seval,bp,eC,g1,g2,g3,g4,g5,g6,g7]
 repeat (refine E' (by omega) ?_)
 refine⟨by rfl,hK _ _ _ ?_⟩;clear hK K;have hd:es.take i++es.drop (i+1)=eT es i:=rfl;have hdl:(eT es i).length=es.length-1:=by unfold eT;simp;omega
 refine AWP.seq' ?_;have g8:((es.length:Int)-((es.length-1:Nat):Int)).toNat=1:=by omega
 refine AWP.reg' λK hK=>?_
 try simp only[ak,seval,hd,hdl,g8,jy]
 repeat (refine E' (by omega) ?_)
 refine hK _ _ _ ?_;clear hK K
 repeat (first
  | refine AWP.seq' ?_
  | refine AWP.skip ?_
  | (refine AWP.reg' λK hK=>?_;simp only[ak,seval];(repeat (refine E' (by omega) ?_));refine hK _ _ _ ?_;clear hK K))
 refine AWP.ret (ig (au.row (b:=305) (cap:=cap) (k:=5) (es:=eT es i) (by rw[hdl];rfl)) (iD [0,305] [(6,.vec 1)] rfl rfl ?_ ?_ rfl (by simp) ?_ (by simp)))
 ·simp only[L',forall_eq];exact⟨rfl,show(1:Nat)<2 by omega⟩
 ·refine⟨⟨?_,?_⟩,trivial⟩
  ·rw[(fg (m:=0) (mP hp i)).1];rfl
  ·exact(fg (π:=id) (mP hp i)).2
 ·intro b hb
  match b,hb with
  | 0,_=>rfl
theorem BH{α β:Type}(f:α→β)(l:List α)(i:Nat):eT (l.map f) i=(eT l i).map f:=by simp[eT]
def Rt(l:List Lnk)(i j:Int)(hi:(0≤i∧i<l.length)∧j=i+1)(hl:l.length≤1000000):HC Tryz.prog:=
 ⟨126,[.k,.k,.k],[.vec 0,.int i,.int j],[.vec 5 (l.map Lnk.v)],.vec 1,[none,some (.vec 5 ((eT l i.toNat).map Lnk.v))],by
  have h:=sP (l.map Lnk.v) i.toNat (by rw[B'];omega) (by simpa using hl) (aB (ah (λ_=>rfl) l))
  rw[BH]at h;have e1:((i.toNat:Nat):Int)=i:=by omega
  have e2:((i.toNat+1:Nat):Int)=j:=by omega
  rw[e1,e2]at h;exact h,yg,vd.of (by simp[hcB,cS,AV.belB,allB,eH,dG,ah (v:=Lnk.v) (λ_=>rfl),bS,AV.pureB])⟩
def Qz(l:List Lnk)(x:Lnk)(i:Int)(hi:0≤i∧i≤l.length)(hl:l.length≤1000000):HC Tryz.prog:=
 ⟨127,[.k,.k,.k],[.vec 0,.int i,.vec 1],[.vec 5 (l.map Lnk.v),.vec 5 [x.v]],.vec 2,[none,none,some (.vec 5 ((bF l i.toNat x).map Lnk.v))],by
  have h:=sM (l.map Lnk.v) (Lnk.v x) i.toNat (by rw[B'];omega) rfl (by simpa using hl) ⟨aB (ah (λ_=>rfl) l),AV.pureB_ok rfl⟩;rw[Bl]at h;have e1:((i.toNat:Nat):Int)=i:=by omega
  rw[e1]at h;exact h,ye,vd.of (by have e:x.v.pureB=true:=rfl;simp[e,hcB,cS,AV.belB,allB,eH,dG,ah (v:=Lnk.v) (λ_=>rfl),bS,AV.pureB])⟩
def xO(r:List Lnk):AV:=.vec 0
def xP(r:List Lnk):List (Option Blk):=[some (.vec 5 (r.map Lnk.v))]
def xN(s:List Lnk):Ax Tryz.prog noS ((List Lnk)):=
 (.allB (λb1=>((s.map Lnk.v)≠[]→b1=false)) λb1 =>
(.br 48 (b1 != false) (.cmdL (.nilT 2 5) (.retH [] ⟨[rV 2 0],[.vec 5 [] rfl]⟩ [64]))
(.apX 80 Lnk.v [] s (0+s.length)
(.retH s ⟨[rV 2 0],[vB 5 Lnk.v s (λ_=>rfl)]⟩ [80]))))
theorem R9(s:List Lnk)(h:s.length≤1000000):(xN s).vc xO xP s:=by
 dsimp only[xN,noS,Ax.vp,Ax.vc];simp only[vcU,rfU,B'];intro b hb;refine⟨λh1=>?_,λ_=>by first|omega|exact⟨by omega,trivial⟩|(trace_state;simpa using h)⟩;cases s with
 | nil=>rfl
 | cons x s=>simp at hb;simp[hb]at h1
def RA(s:List Lnk)(h:s.length≤1000000):HC Tryz.prog:=hcO 125 [(.s 5)] [.sl 5 (s.map Lnk.v) false] [] .k xO xP s (λ_ _=>⟨(xN s),R9 s h,by kernel_rfl⟩) (by kernel_rfl) (by simp[hcB,cS,AV.belB,allB,eH,dG,xO,xP,ah (v:=Lnk.v) (λ_=>rfl)])
def Hi(r:List Rtr):AV:=.sl 2 (r.map Rtr.v) false
def xM(s:List Rtr):Ax Tryz.prog noS ((List Rtr)):=
 (.allB (λb1=>((s.map Rtr.v)≠[]→b1=false)) λb1 =>
(.br 48 (b1 != false) (.ret ([]))
(.apX 80 Rtr.v [] s (0+s.length)
(.fz 80 Rtr.v s (λ_=>rfl) (.ret (s))))))
theorem R7(s:List Rtr)(h:s.length≤1000000):(xM s).vp Hi s:=by
 dsimp only[xM,noS,Ax.vp,Ax.vc];simp only[vcU,rfU,B'];intro b hb;refine⟨λh1=>?_,λ_=>by first|omega|exact⟨by omega,trivial⟩|(trace_state;simpa using h)⟩;cases s with
 | nil=>rfl
 | cons x s=>simp at hb;simp[hb]at h1
def R8(s:List Rtr)(h:s.length≤1000000):PC Tryz.prog:=pcO 124 [(.s 2)] [.sl 2 (s.map Rtr.v) false] (.s 2) Hi s (λ_=>⟨(xM s),R7 s h,by kernel_rfl⟩) rfl (by kernel_rfl)
def Bt(t:Tpl)(r:Int):Rtr×Bool:=if nk t.rs r=true then(t.rs.getD (qW t.rs r) ⟨0,false⟩,true)else(⟨0,false⟩,false)
def FV(r:Rtr×Bool):AV:=.tup [Rtr.v r.1,.bool r.2]
def xl(t:Tpl)(router:Int):Ax Tryz.prog noS (Rtr×Bool):=
 (.req 96 (t.rs.length≤1000000) λh1 =>
(.callP (Oh t.rs router h1)
(.br 224 (!(nk t.rs router)) (.ret ((⟨0,false⟩:Rtr),false))
(.elI 272 Rtr.v t.rs (qW t.rs router:Int) λx2 =>
(.ret (x2,true))))))
theorem QO(t:Tpl)(r:Int)(h:t.rs.length≤1000000):(xl t r).vp FV (Bt t r):=by
 dsimp only[xl,noS,Ax.vp,Ax.vc];simp only[vcU,rfU,B'];unfold Bt;refine⟨h,λc=>by rw[F' (by simpa using c)],λc=>?_⟩;have c:nk t.rs r=true:=by simpa using c
 have hp:qW t.rs r<t.rs.length:=by
  refine P' λq=>?_;unfold nk bsH at c;rw[aj' (by unfold qW at q;omega)]at c;cases c
 refine⟨by omega,by omega,λx hx=>?_⟩;rw[Int.toNat_natCast]at hx;rw[G' c,I',hx];rfl
def QP(t:Tpl)(router:Int)(h:t.rs.length≤1000000):PC Tryz.prog:=pcO 152 [(.a [(.s 2),(.s 5)]),.k] [Tpl.v t,.int router] .k FV (Bt t router) (λ_=>⟨(xl t router),QO t router h,by kernel_rfl⟩) rfl (by kernel_rfl)
def Fy(r:Bool):AV:=.bool r
def wZ(t:Tpl)(router:Int):Ax Tryz.prog noS (Bool):=
 (.req 64 (t.rs.length≤1000000) λh1 =>
(.callP (QP t router h1)
(.callP (vq t)
(.br 224 (iY t) (.ret ((Bt t router).2))
(.ret (false))))))
theorem Q8(t:Tpl)(r:Int)(h:t.rs.length≤1000000):(wZ t r).vp Fy (hs5 t r):=by
 dsimp only[wZ,noS,Ax.vp,Ax.vc];simp only[vcU,rfU,B']
 refine⟨h,λc=>?_,λc=>?_⟩
 ·have hc:ay t=0:=by unfold iY at c;exact eq_of_beq c
  have e:(Bt t r).2=nk t.rs r:=by
   unfold Bt;split
   ·rename_i q;rw[q]
   ·rename_i q;simpa using q
  rw[e,(oM (ax hc).asc r).1];unfold hs5 az;rw[hc];rfl
 ·unfold iY at c;unfold hs5;rw[c];rfl
def Fz(t:Tpl)(router:Int)(h:t.rs.length≤1000000):PC Tryz.prog:=pcO 122 [(.a [(.s 2),(.s 5)]),.k] [Tpl.v t,.int router] .k Fy (hs5 t router) (λ_=>⟨(wZ t router),Q8 t router h,by kernel_rfl⟩) rfl (by kernel_rfl)
structure Chg where
  a:Int
  b:Int
  ca:Int
  cb:Int
  deriving DecidableEq
def Chg.v(c:Chg):AV:=.agg [.int c.a,.int c.b,.int c.ca,.int c.cb]
structure Rnk where
  r:Int
  n:Int
  deriving DecidableEq
def Rnk.v(c:Rnk):AV:=.agg [.int c.r,.int c.n]
def cq(c:Chg):Bool:=c.ca==0 && c.cb==0
def aL(c:Chg):Lnk:=if c.b<c.a then⟨c.b,c.a,c.cb,c.ca,0⟩else⟨c.a,c.b,c.ca,c.cb,0⟩
def bo(t:Tpl)(c:Chg):Tpl×Int:=
 if ¬ay t=0 then(⟨[],[]⟩,1)
 else if hs5 t c.a=false∨hs5 t c.b=false then(⟨[],[]⟩,4)
 else if c.a=c.b then(⟨[],[]⟩,8)
 else if cq c=false∧(ei c.ca=false∨ei c.cb=false)then(⟨[],[]⟩,2)
 else if cq c=true∧c9 t.ls (aL c)=false then(⟨[],[]⟩,9)
 else if c9 t.ls (aL c)=false∧t.ls.length=60 then(⟨[],[]⟩,3)
 else if cq c=true then(⟨t.rs,eT t.ls (aI t.ls (aL c))⟩,0)
 else if c9 t.ls (aL c)=true then(⟨t.rs,t.ls.set (aI t.ls (aL c)) { aL c with w:=(t.ls.getD (aI t.ls (aL c)) ⟨0,0,0,0,0⟩).w }⟩,0)
 else(⟨t.rs,bF t.ls (aI t.ls (aL c)) (aL c)⟩,0)
theorem xV{α:Type}{lt:α→Bool}{l:List α}:∀{f i j:Nat},i≤j→bsI lt l f i j≤j
 | 0,i,j,h=>h
 | f+1,i,j,h=>by
  unfold bsI
  split
  ·split
   ·split
    ·exact xV (by omega)
    ·have:=@xV α lt l f i ((i+j) / 2) (by omega);omega
   ·exact h
  ·exact h
theorem Kb(l:List Lnk)(y:Lnk):aI l y≤l.length:=xV (aG' _)
def It(t:Tpl)(c:Chg):=okL [Tpl.v t,Chg.v c]
def Np(t:Tpl)(c:Chg)(t0:Lnk):NF:=⟨[rR 2 0,rR 3 1,rR 4 2,rR 6 3],[.box (Tpl.v t),.box (Chg.v c),.box (.agg [.sl 0 [] true,.sl 0 [] true]),.box (Lnk.v t0)]⟩
def Nn(t:Tpl)(c:Chg)(t0:Lnk)(t1:Bool):NF:=⟨[rR 2 0,rR 3 1,rR 4 2,rR 6 3,rB 7 t1],[.box (Tpl.v t),.box (Chg.v c),.box (.agg [.sl 0 [] true,.sl 0 [] true]),.box (Lnk.v t0)]⟩
def Nm(t:Tpl)(c:Chg)(t0:Lnk)(t1:Bool)(t2:Bool):NF:=⟨[rR 2 0,rR 3 1,rR 4 2,rR 6 3,rB 7 t1,rI 8 (aI t.ls t0:Int),rB 9 (c9 t.ls t0),rB 53 t2],[.box (Tpl.v t),.box (Chg.v c),.box (.agg [.sl 0 [] true,.sl 0 [] true]),.box (Lnk.v t0)]⟩
def Nl(t:Tpl)(t0:Lnk)(t1:Bool)(t3:Bool):NF:=⟨[rR 2 0,rR 4 1,rR 6 2,rB 7 t1,rI 8 (aI t.ls t0:Int),rB 9 (c9 t.ls t0),rB 74 t3],[.box (Tpl.v t),.box (.agg [.sl 0 [] true,.sl 0 [] true]),.box (Lnk.v t0)]⟩
def Nk(t:Tpl)(t0:Lnk)(t1:Bool)(t4:Bool):NF:=⟨[rR 2 0,rR 4 1,rR 6 2,rB 7 t1,rI 8 (aI t.ls t0:Int),rB 9 (c9 t.ls t0),rB 90 t4],[.box (Tpl.v t),.box (.agg [.sl 0 [] true,.sl 0 [] true]),.box (Lnk.v t0)]⟩
def Nj(t:Tpl)(t0:Lnk)(t1:Bool)(t5:Bool):NF:=⟨[rR 2 0,rR 4 1,rR 6 2,rB 7 t1,rI 8 (aI t.ls t0:Int),rB 9 (c9 t.ls t0),rB 97 t5],[.box (Tpl.v t),.box (.agg [.sl 0 [] true,.sl 0 [] true]),.box (Lnk.v t0)]⟩
@[reducible] def Ir:Nat→Type
 | 0=>Lnk
 | 1=>Bool
 | 2=>Bool
 | 3=>Bool
 | 4=>Bool
 | 5=>Bool
 | _=>Unit
def Is(r:Tpl×Int):AV:=.tup [Tpl.v r.1,.int r.2]
def Iq(t:Tpl)(c:Chg)(I0:Lnk→Prop)(I1:Lnk→Bool→Prop)(I2:Lnk→Bool→Bool→Prop)(I3:Lnk→Bool→Bool→Bool→Prop)(I4:Lnk→Bool→Bool→Bool→Bool→Prop)(I5:Lnk→Bool→Bool→Bool→Bool→Bool→Prop):Ax Tryz.prog Ir (Tpl×Int):=
 (.callP (vq t)
(.br 112 (!(iY t)) (.ret ((⟨[],[]⟩:Tpl),1))
(.pass (.join 0 (Np t c) (λ(t0:Lnk)=>I0 t0) (λb0=>(.br 368 (decide (c.b<c.a)) (.bk 0 b0 (((⟨c.b,c.a,c.cb,c.ca,0⟩:Lnk)):Lnk) [0,16,32,256])
(.bk 0 b0 (((⟨c.a,c.b,c.ca,c.cb,0⟩:Lnk)):Lnk) [0,16,32,256]))) λ(t0:Lnk) =>
(.join 1 (Nn t c t0) (λ(t1:Bool)=>I1 t0 t1) (λb1=>(.br 68 (c.ca==0) (.bk 1 b1 ((c.cb==0):Bool) [0,1,2,3])
(.bk 1 b1 ((false):Bool) [0,1,2,3]))) λ(t1:Bool) =>
(.req 52 (t.ls.length≤1000000) λh1 =>
(.callP (Om t.ls t0 h1)
(.pass (.join 2 (Nm t c t0 t1) (λ(t2:Bool)=>I2 t0 t1 t2) (λb2=>(.req 196 (t.rs.length≤1000000) λh2 =>
(.callP (Fz t c.a h2)
(.br 244 (!(hs5 t c.a)) (.bk 2 b2 ((true):Bool) [0,1,2,3])
(.req 292 (t.rs.length≤1000000) λh3 =>
(.callP (Fz t c.b h3)
(.bk 2 b2 ((!(hs5 t c.b)):Bool) [0,1,2,3]))))))) λ(t2:Bool) =>
(.br 4 t2 (.ret ((⟨[],[]⟩:Tpl),4))
(.br 100 (c.a==c.b) (.ret ((⟨[],[]⟩:Tpl),8))
(.join 3 (Nl t t0 t1) (λ(t3:Bool)=>I3 t0 t1 t2 t3) (λb3=>(.br 148 (!t1) (.callP (qh c.ca 1 1000)
(.br 228 (!(inT c.ca 1 1000)) (.bk 3 b3 ((true):Bool) [0,2,3])
(.callP (qh c.cb 1 1000)
(.bk 3 b3 ((!(inT c.cb 1 1000)):Bool) [0,2,3]))))
(.bk 3 b3 ((false):Bool) [0,2,3]))) λ(t3:Bool) =>
(.br 3 t3 (.ret ((⟨[],[]⟩:Tpl),2))
(.join 4 (Nk t t0 t1) (λ(t4:Bool)=>I4 t0 t1 t2 t3 t4) (λb4=>(.br 35 t1 (.bk 4 b4 ((!(c9 t.ls t0)):Bool) [0,1,2])
(.bk 4 b4 ((false):Bool) [0,1,2]))) λ(t4:Bool) =>
(.br 3 t4 (.ret ((⟨[],[]⟩:Tpl),9))
(.join 5 (Nj t t0 t1) (λ(t5:Bool)=>I5 t0 t1 t2 t3 t4 t5) (λb5=>(.br 51 (!(c9 t.ls t0)) (.bk 5 b5 ((((t.ls.map Lnk.v).length:Int)==60):Bool) [0,1,2])
(.bk 5 b5 ((false):Bool) [0,1,2]))) λ(t5:Bool) =>
(.br 3 t5 (.ret ((⟨[],[]⟩:Tpl),3))
(.req 35 (t.rs.length≤1000000) λh4 =>
(.callP (R8 t.rs h4)
(.req 83 (t.ls.length≤1000000) λh5 =>
(.callH [] (RA t.ls h5) 83
(.br 179 t1 (.req 259 ((0≤(aI t.ls t0:Int)∧(aI t.ls t0:Int)<t.ls.length)∧(W ((aI t.ls t0:Int)+1))=(aI t.ls t0:Int)+1) λh6 =>
(.req 259 (t.ls.length≤1000000) λh7 =>
(.callH [83] (Rt t.ls (aI t.ls t0:Int) (W ((aI t.ls t0:Int)+1)) h6 h7) 259
(.fz 259 Lnk.v (eT t.ls (Int.toNat (aI t.ls t0:Int))) (λ_=>rfl) (.ret ((⟨t.rs,eT t.ls (Int.toNat (aI t.ls t0:Int))⟩:Tpl),0))))))
(.br 211 (c9 t.ls t0) (.elJ 291 Lnk.v t.ls (aI t.ls t0:Int) λx8 =>
(.stJ 419 Lnk.v t.ls (aI t.ls t0:Int) (λy9=>(⟨t0.a,t0.b,t0.ca,t0.cb,x8.w⟩:Lnk)) λy9 =>
(.fz 83 Lnk.v (t.ls.set ((aI t.ls t0:Int).toNat) (⟨t0.a,t0.b,t0.ca,t0.cb,x8.w⟩:Lnk)) (λ_=>rfl) (.ret ((⟨t.rs,t.ls.set ((aI t.ls t0:Int).toNat) (⟨t0.a,t0.b,t0.ca,t0.cb,x8.w⟩:Lnk)⟩:Tpl),0)))))
(.own 275 (.req 291 (0≤(aI t.ls t0:Int)∧(aI t.ls t0:Int)≤t.ls.length) λh10 =>
(.req 291 (t.ls.length≤1000000) λh11 =>
(.callH [83,275] (Qz t.ls t0 (aI t.ls t0:Int) h10 h11) 291
(.fz 291 Lnk.v (bF t.ls (Int.toNat (aI t.ls t0:Int)) t0) (λ_=>rfl) (.ret ((⟨t.rs,bF t.ls (Int.toNat (aI t.ls t0:Int)) t0⟩:Tpl),0))))))))))))))))))))))))))))))
theorem St(t:Tpl)(c:Chg)(ok:It t c):∃I0 I1 I2 I3 I4 I5,(Iq t c I0 I1 I2 I3 I4 I5).vp Is (bo t c):=by
 refine⟨λl=>l=aL c,λl b=>l=aL c∧b=cq c,λl b u=>(l=aL c∧b=cq c)∧u=decide (hs5 t c.a=false∨hs5 t c.b=false),
  λl b _ u=>(l=aL c∧b=cq c)∧u=decide (cq c=false∧(ei c.ca=false∨ei c.cb=false)),
  λl b _ _ u=>(l=aL c∧b=cq c)∧u=decide (cq c=true∧c9 t.ls (aL c)=false),
  λl b _ _ _ u=>(l=aL c∧b=cq c)∧u=decide (c9 t.ls (aL c)=false∧t.ls.length=60),?_⟩
 simp only[It,Chg.v,Tpl.v,okU,Blk.ok,aJ,B']at ok;dsimp only[Iq,Ir,Ax.vp,Ax.vc];simp only[vcU,rfU,B'];have e1:iY t=decide (ay t=0):=by unfold iY;rw[ae'];simp
 have e2:∀x,inT x 1 1000=ei x:=λx=>by unfold inT ei;rfl
 rw[e1,e2,e2];unfold bo;refine⟨λq=>by rw[G' (by simpa using q)],λq=>?_⟩;have q:ay t=0:=by simpa using q
 have hl:=(cg q).1;have hl2:=(cg q).2;rw[F' (by simpa using q)];refine⟨⟨λd=>by unfold aL;rw[G' d],λd=>by unfold aL;rw[F' d]⟩,?_⟩;rintro _ rfl;refine⟨⟨λd=>⟨rfl,by unfold cq;rw[d];rfl⟩,λd=>⟨rfl,by unfold cq;rw[d];rfl⟩⟩,?_⟩;rintro _ ⟨_,rfl⟩;refine⟨by omega,⟨by omega,λd=>⟨⟨rfl,rfl⟩,by rw[eq_comm,S'];exact .inl (by simpa using d)⟩,λd=>⟨by omega,⟨rfl,rfl⟩,by rw[ae',S'];simp at d ⊢;simp[d]⟩⟩,?_⟩;rintro _ ⟨_,rfl⟩;refine⟨λd=>by rw[G' (H' d)],λd=>?_⟩;rw[F' (T' d)];refine⟨λd=>by rw[G' (eq_of_beq d)],λd=>?_⟩;rw[F' (by simpa using d)]
 refine⟨⟨λd=>⟨λg=>⟨⟨rfl,rfl⟩,?_⟩,λg=>⟨⟨rfl,rfl⟩,?_⟩⟩,λd=>⟨⟨rfl,rfl⟩,?_⟩⟩,?_⟩
 ·rw[eq_comm,S'];exact⟨by simpa using d,.inl (by simpa using g)⟩
 ·rw[ae',S'];simp at d g ⊢;simp[d,g]
 ·rw[eq_comm,decide_eq_false_iff_not];simp at d;simp[d]
 rintro _ ⟨_,rfl⟩;refine⟨λd=>by rw[G' (H' d)],λd=>?_⟩;rw[F' (T' d)];refine⟨⟨λd=>⟨⟨rfl,rfl⟩,by rw[ae',S'];simp[d]⟩,λd=>⟨⟨rfl,rfl⟩,by rw[eq_comm,decide_eq_false_iff_not];simp[d]⟩⟩,?_⟩;rintro _ ⟨_,rfl⟩;refine⟨λd=>by rw[G' (H' d)],λd9=>?_⟩;rw[F' (T' d9)];have d9:=T' d9
 refine⟨⟨λd=>⟨⟨rfl,rfl⟩,?_⟩,λd=>⟨⟨rfl,rfl⟩,?_⟩⟩,?_⟩
 ·rw[ae',S',aL'];simp at d;simp[d];omega
 ·rw[eq_comm,decide_eq_false_iff_not];simp at d;simp[d]
 rintro _ ⟨_,rfl⟩;refine⟨λd=>by rw[G' (H' d)],λd=>?_⟩;rw[F' (T' d)];have hp:c9 t.ls (aL c)=true→aI t.ls (aL c)<t.ls.length:=λg=>by
  refine P' λr=>?_;unfold c9 bsH at g;rw[aj' (by unfold aI at r;omega)]at g;cases g
 have hq:=Kb t.ls (aL c)
 refine⟨by omega,by omega,λd=>?_,λd=>⟨λg=>?_,λg=>⟨⟨by omega,by omega⟩,by omega,?_⟩⟩⟩
 ·have g:c9 t.ls (aL c)=true:=by simpa[d]using d9
  have:=hp g
  refine⟨⟨⟨by omega,by omega⟩,?_⟩,by omega,?_⟩
  ·exact ce (by omega)
  ·rw[G' d,Int.toNat_natCast]
 ·have:=hp g;have r:(bif decide (0≤(aI t.ls (aL c):Int))then decide ((aI t.ls (aL c):Int)<t.ls.length)else false)=true:=by
   rw[decide_eq_true (by omega),decide_eq_true (by omega)];rfl
  refine⟨r,by omega,λx hx=>⟨r,by omega,λy hy=>?_⟩⟩;rw[Int.toNat_natCast]at hx;rw[F' (by simp[d]),G' g,Int.toNat_natCast,I',hx];rfl
 ·rw[F' (by simp[d]),F' (by simp[g]),Int.toNat_natCast]
def Su(t:Tpl)(c:Chg):PC Tryz.prog:=pcO 91 [(.a [(.s 2),(.s 5)]),.k] [Tpl.v t,Chg.v c] (.a [(.a [(.s 2),(.s 5)]),.k]) Is (bo t c) (λok=>let ⟨I0,I1,I2,I3,I4,I5,h⟩:=St t c ok;⟨_,h,by kernel_rfl⟩) rfl (by kernel_rfl)
def upH(t t':Tpl)(h:Hop):Bool:=(bC t h.a h.b).2 && (!(bC t' h.a h.b).2 || decide ((bC t h.a h.b).1<(bC t' h.a h.b).1))
def dnH(t t':Tpl)(h:Hop):Bool:=(bC t' h.a h.b).2 && (!(bC t h.a h.b).2 || decide ((bC t' h.a h.b).1<(bC t h.a h.b).1))
def chH(t t':Tpl)(h:Hop):Bool:=((bC t h.a h.b).2 != (bC t' h.a h.b).2) || ((bC t' h.a h.b).1 != (bC t h.a h.b).1)
def eK(c:Chg):List Hop:=[⟨c.a,c.b⟩,⟨c.b,c.a⟩]
def aD(t:Tpl)(c:Chg):Int×Tpl×List Hop×Int:=
 if ¬(bo t c).2=0 then(0,⟨[],[]⟩,[],(bo t c).2)
 else if(eK c).any (upH t (bo t c).1)=true∧(eK c).any (dnH t (bo t c).1)=true then(0,⟨[],[]⟩,[],8)
 else if(eK c).any (dnH t (bo t c).1)=true then(2,(bo t c).1,(eK c).filter (chH t (bo t c).1),0)
 else(1,t,(eK c).filter (chH t (bo t c).1),0)
def Di(t:Tpl)(c:Chg):=okL [Tpl.v t,Chg.v c]
def JS(t:Tpl)(c:Chg)(t0:Bool×Bool×Int×List Hop):NF:=⟨[rR 2 0,rR 5 1,rV 6 2,rR 8 3,rB 9 t0.1,rB 10 t0.2.1,(37,.k,.sl 2 [.agg [.int c.a,.int c.b],.agg [.int c.b,.int c.a]] true),rI 38 2,rI 39 t0.2.2.1],[.box (Tpl.v t),.box (.agg [.sl 0 [] true,.sl 0 [] true]),vB 2 Hop.v t0.2.2.2 (λ_=>rfl),.box (Tpl.v ((bo t c).1))]⟩
def JR(t:Tpl)(c:Chg)(t0:Bool×Bool×Int×List Hop)(x1:Hop)(t1:Bool):NF:=⟨[rR 2 0,rR 5 1,rV 6 2,rR 8 3,rB 9 t1,rB 10 t0.2.1,rR 12 4,rI 13 ((bC t x1.a x1.b).1),rB 14 ((bC t x1.a x1.b).2),rI 15 ((bC ((bo t c).1) x1.a x1.b).1),rB 16 ((bC ((bo t c).1) x1.a x1.b).2),(37,.k,.sl 2 [.agg [.int c.a,.int c.b],.agg [.int c.b,.int c.a]] true),rI 38 2,rI 39 t0.2.2.1],[.box (Tpl.v t),.box (.agg [.sl 0 [] true,.sl 0 [] true]),vB 2 Hop.v t0.2.2.2 (λ_=>rfl),.box (Tpl.v ((bo t c).1)),.box (Hop.v x1)]⟩
def JQ(t:Tpl)(c:Chg)(t0:Bool×Bool×Int×List Hop)(x1:Hop)(t1:Bool)(t2:Bool):NF:=⟨[rR 2 0,rR 5 1,rV 6 2,rR 8 3,rB 9 t1,rB 10 t2,rR 12 4,rI 13 ((bC t x1.a x1.b).1),rB 14 ((bC t x1.a x1.b).2),rI 15 ((bC ((bo t c).1) x1.a x1.b).1),rB 16 ((bC ((bo t c).1) x1.a x1.b).2),(37,.k,.sl 2 [.agg [.int c.a,.int c.b],.agg [.int c.b,.int c.a]] true),rI 38 2,rI 39 t0.2.2.1],[.box (Tpl.v t),.box (.agg [.sl 0 [] true,.sl 0 [] true]),vB 2 Hop.v t0.2.2.2 (λ_=>rfl),.box (Tpl.v ((bo t c).1)),.box (Hop.v x1)]⟩
def JP(t:Tpl)(c:Chg)(t0:Bool×Bool×Int×List Hop)(x1:Hop)(t1:Bool)(t2:Bool)(t3:Bool):NF:=⟨[rR 2 0,rR 5 1,rV 6 2,rR 8 3,rB 9 t1,rB 10 t2,rR 12 4,(37,.k,.sl 2 [.agg [.int c.a,.int c.b],.agg [.int c.b,.int c.a]] true),rI 38 2,rI 39 t0.2.2.1,rB 94 t3],[.box (Tpl.v t),.box (.agg [.sl 0 [] true,.sl 0 [] true]),vB 2 Hop.v t0.2.2.2 (λ_=>rfl),.box (Tpl.v ((bo t c).1)),.box (Hop.v x1)]⟩
def JO(t:Tpl)(c:Chg)(t0:Bool×Bool×Int×List Hop)(t4:Bool):NF:=⟨[rR 2 0,rR 5 1,rV 6 2,rR 8 3,rB 10 t0.2.1,rB 100 t4],[.box (Tpl.v t),.box (.agg [.sl 0 [] true,.sl 0 [] true]),vB 2 Hop.v t0.2.2.2 (λ_=>rfl),.box (Tpl.v ((bo t c).1))]⟩
@[reducible] def Dg:Nat→Type
 | 0=>Bool×Bool×Int×List Hop
 | 1=>Bool
 | 2=>Bool
 | 3=>Bool
 | 4=>Bool
 | _=>Unit
def Dh(r:Int×Tpl×List Hop×Int):AV:=.tup [.int r.1,Tpl.v r.2.1,.sl 2 (r.2.2.1.map Hop.v) false,.int r.2.2.2]
def Df(t:Tpl)(c:Chg)(I0:(Bool×Bool×Int×List Hop)→Prop)(m0:(Bool×Bool×Int×List Hop)→Nat)(I1:Bool×Bool×Int×List Hop→Hop→Bool→Prop)(I2:Bool×Bool×Int×List Hop→Hop→Bool→Bool→Prop)(I3:Bool×Bool×Int×List Hop→Hop→Bool→Bool→Bool→Prop)(I4:Bool×Bool×Int×List Hop→Bool→Prop):Ax Tryz.prog Dg (Int×Tpl×List Hop×Int):=
 (.callP (Su t c)
(.br 272 (((bo t c).2) != 0) (.ret (0,(⟨[],[]⟩:Tpl),[],(bo t c).2))
(.cmdL (.nilT 6 2) (.loop 0 (JS t c) I0 m0 (false,false,0,[]) [0,48,512,192] λ(t0:Bool×Bool×Int×List Hop) b0 =>
(.br 20 (decide (t0.2.2.1<2)) (.el 20 Hop.v [(⟨c.a,c.b⟩:Hop),(⟨c.b,c.a⟩:Hop)] (λR=>Rf (α:=List AV) [.agg [.int c.a,.int c.b],.agg [.int c.b,.int c.a]] (ck (decide (0≤t0.2.2.1)) (ck (decide (t0.2.2.1<([(⟨c.a,c.b⟩:Hop),(⟨c.b,c.a⟩:Hop)].length:Int)))
(∀x1,[(⟨c.a,c.b⟩:Hop),(⟨c.b,c.a⟩:Hop)][t0.2.2.1.toNat]?=some x1 →
(R x1))))) λx1 =>
(.callP (pq t x1.a x1.b)
(.callP (pq ((bo t c).1) x1.a x1.b)
(.join 1 (JR t c t0 x1) (λ(t1:Bool)=>I1 t0 x1 t1) (λb1=>(.br 468 t0.1 (.bk 1 b1 ((true):Bool) [0,1,2,3,52])
(.br 500 ((bC t x1.a x1.b).2) (.br 548 (!((bC ((bo t c).1) x1.a x1.b).2)) (.bk 1 b1 ((true):Bool) [0,1,2,3,52])
(.bk 1 b1 ((decide (((bC t x1.a x1.b).1)<((bC ((bo t c).1) x1.a x1.b).1))):Bool) [0,1,2,3,52]))
(.bk 1 b1 ((false):Bool) [0,1,2,3,52])))) λ(t1:Bool) =>
(.join 2 (JQ t c t0 x1 t1) (λ(t2:Bool)=>I2 t0 x1 t1 t2) (λb2=>(.br 37 t0.2.1 (.bk 2 b2 ((true):Bool) [0,1,2,3,4])
(.br 69 ((bC ((bo t c).1) x1.a x1.b).2) (.br 117 (!((bC t x1.a x1.b).2)) (.bk 2 b2 ((true):Bool) [0,1,2,3,4])
(.bk 2 b2 ((decide (((bC ((bo t c).1) x1.a x1.b).1)<((bC t x1.a x1.b).1))):Bool) [0,1,2,3,4]))
(.bk 2 b2 ((false):Bool) [0,1,2,3,4])))) λ(t2:Bool) =>
(.join 3 (JP t c t0 x1 t1 t2) (λ(t3:Bool)=>I3 t0 x1 t1 t2 t3) (λb3=>(.br 69 (!(((bC t x1.a x1.b).2)==((bC ((bo t c).1) x1.a x1.b).2))) (.bk 3 b3 ((true):Bool) [0,1,2,3,4])
(.bk 3 b3 ((((bC ((bo t c).1) x1.a x1.b).1) != ((bC t x1.a x1.b).1)):Bool) [0,1,2,3,4]))) λ(t3:Bool) =>
(.br 5 t3 (.apX 53 Hop.v t0.2.2.2 [x1] (t0.2.2.2.length+1)
(.bk 0 b0 (t1,t2,W (t0.2.2.1+1),t0.2.2.2++[x1]) [0,1,53,3]))
(.bk 0 b0 (t1,t2,W (t0.2.2.1+1),t0.2.2.2) [0,1,2,3]))))))))
(.pass (.join 4 (JO t c t0) (λ(t4:Bool)=>I4 t0 t4) (λb4=>(.br 52 t0.1 (.bk 4 b4 ((t0.2.1):Bool) [0,1,2,3])
(.bk 4 b4 ((false):Bool) [0,1,2,3]))) λ(t4:Bool) =>
(.br 4 t4 (.ret (0,(⟨[],[]⟩:Tpl),[],8))
(.br 36 t0.2.1 (.fz 2 Hop.v t0.2.2.2 (λ_=>rfl) (.ret (2,(bo t c).1,t0.2.2.2,0)))
(.fz 2 Hop.v t0.2.2.2 (λ_=>rfl) (.ret (1,t,t0.2.2.2,0))))))))))))
def RedI(t t':Tpl)(l:List Hop)(s:Bool×Bool×Int×List Hop):Prop:=∃k:Nat,s.2.2.1=k∧k≤l.length∧s.1=(l.take k).any (upH t t')∧s.2.1=(l.take k).any (dnH t t')∧s.2.2.2=(l.take k).filter (chH t t')
theorem Pl(t:Tpl)(c:Chg)(ok:Di t c):∃I0 m0 I1 I2 I3 I4,(Df t c I0 m0 I1 I2 I3 I4).vp Dh (aD t c):=by
 refine⟨RedI t (bo t c).1 (eK c),λs=>2-s.2.2.1.toNat,λs h u=>u=(s.1 || upH t (bo t c).1 h),λs h u d=>u=(s.1 || upH t (bo t c).1 h)∧d=(s.2.1 || dnH t (bo t c).1 h),
  λs h u d x=>(u=(s.1 || upH t (bo t c).1 h)∧d=(s.2.1 || dnH t (bo t c).1 h))∧x=chH t (bo t c).1 h,λs b=>b=(s.1 && s.2.1),?_⟩
 simp only[Di,Chg.v,Tpl.v,okU,Blk.ok,aJ,B']at ok;dsimp only[Df,Dg,Ax.vp,Ax.vc];simp only[vcU,rfU,B'];have hl:(eK c).length=2:=rfl;refine⟨λd=>by unfold aD;rw[G' (by simpa using d)],λd=>⟨⟨0,rfl,by omega,rfl,rfl,rfl⟩,?_⟩⟩;have d:(bo t c).2=0:=by simpa using d
 rintro⟨u0,d0,_,ds⟩ ⟨k,rfl,hk,e1,e2,e3⟩;simp only at e1 e2 e3 ⊢;rw[Int.toNat_natCast]
 refine⟨λq=>⟨by omega,by simp only[ab',ap'];omega,λx hx=>⟨⟨λg=>?_,λg=>⟨λg1=>⟨λg2=>?_,λg2=>?_⟩,λg1=>?_⟩⟩,?_⟩⟩,λq=>?_⟩
 ·rw[g];rfl
 ·unfold upH;rw[g1,g2];simp
 ·unfold upH;rw[g,g1,g2];rfl
 ·unfold upH;rw[g,g1];rfl
 ·rintro _ rfl
  refine⟨⟨λg=>⟨rfl,by rw[g];rfl⟩,λg=>⟨λg1=>⟨λg2=>⟨rfl,?_⟩,λg2=>⟨rfl,?_⟩⟩,λg1=>⟨rfl,?_⟩⟩⟩,?_⟩
  ·unfold dnH;rw[g1,g2];simp
  ·unfold dnH;rw[g,g1,g2];rfl
  ·unfold dnH;rw[g,g1];rfl
  rintro _ ⟨_,rfl⟩
  refine⟨⟨λg=>⟨⟨rfl,rfl⟩,?_⟩,λg=>⟨⟨rfl,rfl⟩,?_⟩⟩,?_⟩
  ·unfold chH bne;rw[g];rfl
  ·unfold chH;have g':((bC t x.a x.b).2 != (bC (bo t c).1 x.a x.b).2)=false:=g
   rw[g'];rfl
  rintro _ ⟨_,rfl⟩;have w:W ((k:Int)+1)=((k+1:Nat):Int):=bf (n:=2) (by omega) (by omega);have hx':(eK c)[k]?=some x:=hx;have f1:∀p:Hop→Bool,((eK c).take (k+1)).any p=(((eK c).take k).any p || p x):=λp=>by rw[aP hx'];simp
  have hdl:ds.length≤2:=by rw[e3];exact aI' (bq' _ _) (by rw[ar'];omega)
  rw[w]
  refine⟨λg=>⟨by omega,⟨k+1,rfl,by omega,by simp only;rw[f1,e1],by simp only;rw[f1,e2],?_⟩,by omega⟩,λg=>⟨⟨k+1,rfl,by omega,by simp only;rw[f1,e1],by simp only;rw[f1,e2],?_⟩,by omega⟩⟩
  ·simp only;rw[aP hx',bw',e3];simp[g]
  ·simp only;rw[aP hx',bw',e3];simp[g]
 ·have hk2:(eK c).take k=eK c:=ai' (by omega);rw[hk2]at e1 e2 e3;refine⟨⟨λg=>by rw[g];rfl,λg=>by rw[g];rfl⟩,?_⟩;rintro _ rfl;unfold aD;rw[F' (by simp[d])]
  refine⟨λg=>?_,λg=>⟨λg1=>?_,λg1=>?_⟩⟩
  ·rw[e1,e2]at g;rw[G' (by simpa using g)]
  ·rw[g1,e1]at g;rw[e2]at g1;rw[F' (λh=>by rw[h.1]at g;cases g),G' g1,e3]
  ·rw[e2]at g1;rw[F' (by simp[g1]),F' (by simp[g1]),e3]
def qS(t:Tpl)(c:Chg):PC Tryz.prog:=pcO 47 [(.a [(.s 2),(.s 5)]),.k] [Tpl.v t,Chg.v c] (.a [.k,(.a [(.s 2),(.s 5)]),(.s 2),.k]) Dh (aD t c) (λok=>let ⟨I0,m0,I1,I2,I3,I4,h⟩:=Pl t c ok;⟨_,h,by kernel_rfl⟩) rfl (by kernel_rfl)
def EL(r:Int×Int):AV:=.tup [.int r.1,.int r.2]
def wQ(t:Tpl)(c:Chg):Ax Tryz.prog noS (Int×Int):=
 (.callP (qS t c)
(.ret ((aD t c).1,(aD t c).2.2.2)))
theorem Qq(t:Tpl)(c:Chg):(wQ t c).vp EL ((aD t c).1,(aD t c).2.2.2):=by
 dsimp only[wQ,noS,Ax.vp,Ax.vc];simp only[vcU,rfU,B']
def Qs(t:Tpl)(c:Chg):PC Tryz.prog:=pcO 10 [(.a [(.s 2),(.s 5)]),.k] [Tpl.v t,Chg.v c] .k EL ((aD t c).1,(aD t c).2.2.2) (λ_=>⟨(wQ t c),Qq t c,by kernel_rfl⟩) rfl (by kernel_rfl)
structure Dst where
  r:Int
  c:Int
  deriving DecidableEq
def Dst.v(x:Dst):AV:=.agg [.int x.r,.int x.c]
def pO(h:Hop):MK:=.c [h.a,h.b]
theorem tM(x y:Hop)(h:pO x=pO y):x=y:=by
 cases x;cases y;unfold pO at h;simp at h;simp[h]
def o6{β:Type}(vf:β→AV)(l:List (Hop×β))(x:Hop)(z:β):MN:=.get inferInstance pO tM vf l x z
def Eu{β:Type}(vf:β→AV)(l:List (Hop×β))(x:Hop)(v:β):MN:=.put inferInstance pO tM vf l x v
def nt(t:Tpl)(f:Int)(r:Rtr):List Dst:=if(aC t f r.id).2=true then [⟨r.id,(aC t f r.id).1⟩]else []
def gu(t:Tpl)(f:Int):List Dst:=if ay t=0 then t.rs.flatMap (nt t f)else []
def G7(t:Tpl)(from_:Int):=okL [Tpl.v t,.int from_]
def LN(t:Tpl)(from_:Int)(t0:Int×List Dst):NF:=⟨[(5,.k,.mp none ((cM ((nq t).out) from_).map λp:Int×Int=>MK.n p.1) ((cM ((nq t).out) from_).map λp:Int×Int=>AV.int p.2)),rV 6 0,(20,.k,.sl 2 (t.rs.map Rtr.v) false),rI 21 ((t.rs.map Rtr.v).length:Int),rI 22 t0.1],[vB 2 Dst.v t0.2 (λ_=>rfl)]⟩
@[reducible] def G5:Nat→Type
 | 0=>Int×List Dst
 | _=>Unit
def G6(r:List Dst):AV:=.sl 2 (r.map Dst.v) false
def G4(t:Tpl)(from_:Int)(I0:(Int×List Dst)→Prop)(m0:(Int×List Dst)→Nat):Ax Tryz.prog G5 ((List Dst)):=
 (.callP (Jd t)
(.br 80 (!(iY t)) (.ret ([]))
(.req 96 (ay t=0) λh1 =>
(.callP (QD t h1)
(.req 144 (ze ((nq t).out)) λh2 =>
(.callP (Rs ((nq t).out) from_ h2)
(.cmdL (.nilT 6 2) (.loop 0 (LN t from_) I0 m0 (0,[]) [256] λ(t0:Int×List Dst) b0 =>
(.br 17 (decide (t0.1<((t.rs.map Rtr.v).length:Int))) (.elI 17 Rtr.v t.rs t0.1 λx3 =>
(.mn 129 (rr AV.int (cM ((nq t).out) from_) x3.id 0) (.br 241 (aY (cM ((nq t).out) from_) x3.id) (.apX 337 Dst.v t0.2 [(⟨x3.id,av (cM ((nq t).out) from_) x3.id 0⟩:Dst)] (t0.2.length+1)
(.bk 0 b0 (W (t0.1+1),t0.2++[(⟨x3.id,av (cM ((nq t).out) from_) x3.id 0⟩:Dst)]) [337]))
(.bk 0 b0 (W (t0.1+1),t0.2) [0]))))
(.fz 0 Dst.v t0.2 (λ_=>rfl) (.ret (t0.2))))))))))))
theorem Rm(t:Tpl)(f:Int)(ok:G7 t f):∃I0 m0,(G4 t f I0 m0).vp G6 (gu t f):=by
 refine⟨λs=>eO t.rs (nt t f) s.1 s.2,λs=>t.rs.length-s.1.toNat,?_⟩;simp only[G7,Tpl.v,okU,Blk.ok,aJ,B']at ok;dsimp only[G4,G5,Ax.vp,Ax.vc];simp only[vcU,rfU,B'];by_cases hc:ay t=0
 case neg =>
  have hv:iY t=false:=by unfold iY;simpa using hc
  rw[hv];exact⟨λ_=>by unfold gu;rw[F' hc],λe=>by simp at e⟩
 have hv:iY t=true:=by unfold iY;rw[hc];rfl
 have hn:=(cg hc).1;rw[hv,show(nq t).out=cW t from rfl]
 refine⟨λe=>by simp at e,λ_=>⟨hc,Kk hc,eO.zero,λs h=>⟨λc=>⟨h.idx,c,λx hx=>⟨λe=>?_,λe=>?_⟩⟩,λc=>?_⟩⟩⟩
 ·have hl:=h.len (b:=1) (λr _=>by unfold nt;split<;>simp);have q:nt t f x=[⟨x.id,av (cM (cW t) f) x.id 0⟩]:=by unfold nt;rw[Aj hc,G' e];rfl
  exact⟨by omega,h.step (by omega) hx (by rw[q])⟩
 ·have q:nt t f x=[]:=by unfold nt;rw[Aj hc,F' (by rw[e];simp)]
  exact h.step (by omega) hx (by rw[q,bo'])
 ·rw[h.done c];unfold gu;rw[G' hc]
def Rn(t:Tpl)(from_:Int):PC Tryz.prog:=pcO 128 [(.a [(.s 2),(.s 5)]),.k] [Tpl.v t,.int from_] (.s 2) G6 (gu t from_) (λok=>let ⟨I0,m0,h⟩:=Rm t from_ ok;⟨_,h,by kernel_rfl⟩) rfl (by kernel_rfl)
theorem G3(t:Tpl)(f:Int):(gu t f).length≤24:=by
  unfold gu
  split
  · rename_i hc
    have hn:=(cg hc).1;have:∀l:List Rtr,(l.flatMap (nt t f)).length≤l.length:=λl=>by
      induction l with
      | nil=>simp
      | cons r l ih => rw [au', List.length_append, ab']; have : (nt t f r).length ≤ 1 := by unfold nt; split <;> simp
                       omega
    have:=this t.rs;omega
  · simp
def xy(t:Tpl)(M:List (Hop×Int))(r:Rtr):List (Hop×Int):=(gu t r.id).foldl (λm d=>bB m ⟨r.id,d.r⟩ d.c) M
def dc(t:Tpl):List (Hop×Int):=t.rs.foldl (xy t) []
def IL(t:Tpl):=okL [Tpl.v t]
def N6(t:Tpl)(t0:Int×(List (Hop×Int))):NF:=⟨[rR 1 0,(3,.k,.mref 1),(10,.k,.sl 2 (t.rs.map Rtr.v) false),rI 11 ((t.rs.map Rtr.v).length:Int),rI 12 t0.1],[.box (Tpl.v t),.map (some 2) (t0.2.map λp=>pO p.1) (t0.2.map λp=>AV.int p.2) (ah (λ_=>rfl) _)]⟩
def N5(t:Tpl)(t0:Int×(List (Hop×Int)))(x1:Rtr)(t1:Int×(List (Hop×Int))):NF:=⟨[rR 1 0,(3,.k,.mref 1),rR 5 2,(10,.k,.sl 2 (t.rs.map Rtr.v) false),rI 11 ((t.rs.map Rtr.v).length:Int),rI 12 t0.1,(19,.k,.sl 2 ((gu t x1.id).map Dst.v) false),rI 20 (((gu t x1.id).map Dst.v).length:Int),rI 21 t1.1],[.box (Tpl.v t),.map (some 2) (t1.2.map λp=>pO p.1) (t1.2.map λp=>AV.int p.2) (ah (λ_=>rfl) _),.box (Rtr.v x1)]⟩
@[reducible] def IJ:Nat→Type
 | 0=>Int×(List (Hop×Int))
 | 1=>Int×(List (Hop×Int))
 | _=>Unit
def IK(r:(List (Hop×Int))):AV:=.mp (some 2) (r.map λp:Hop×Int=>pO p.1) (r.map λp:Hop×Int=>AV.int p.2)
def II(t:Tpl)(I0:(Int×(List (Hop×Int)))→Prop)(m0:(Int×(List (Hop×Int)))→Nat)(I1:Int×(List (Hop×Int))→Rtr→(Int×(List (Hop×Int)))→Prop)(m1:Int×(List (Hop×Int))→Rtr→(Int×(List (Hop×Int)))→Nat):Ax Tryz.prog IJ ((List (Hop×Int))):=
 (.loop 0 (N6 t) I0 m0 (0,([]:List (Hop×Int))) [0,32] λ(t0:Int×(List (Hop×Int))) b0 =>
(.br 18 (decide (t0.1<((t.rs.map Rtr.v).length:Int))) (.elI 18 Rtr.v t.rs t0.1 λx1 =>
(.callP (Rn t x1.id)
(.loop 1 (N5 t t0 x1) (I1 t0 x1) (m1 t0 x1) (0,t0.2) [0,1,50] λ(t1:Int×(List (Hop×Int))) b1 =>
(.br 19 (decide (t1.1<(((gu t x1.id).map Dst.v).length:Int))) (.elI 19 Dst.v (gu t x1.id) t1.1 λx2 =>
(.mn 211 (Eu AV.int t1.2 (⟨x1.id,x2.r⟩:Hop) x2.c) (.bk 1 b1 (W (t1.1+1),bB t1.2 (⟨x1.id,x2.r⟩:Hop) x2.c) [0,1,2])))
(.bk 0 b0 (W (t0.1+1),t1.2) [0,1])))))
(.say (Rf (t0.2.map λp=>AV.int p.2)) (.cmdL (.frzM 1 (t0.2.map λp=>AV.int p.2) (ah (λ_=>rfl) _)) (.ret (t0.2))))))
theorem S0(t:Tpl)(ok:IL t):∃I0 m0 I1 m1,(II t I0 m0 I1 m1).vp IK (dc t):=by
 refine⟨λs=>∃k:Nat,s.1=k∧k≤t.rs.length∧s.2=(t.rs.take k).foldl (xy t) [],λs=>t.rs.length-s.1.toNat,
  λs r q=>∃k:Nat,q.1=k∧k≤(gu t r.id).length∧q.2=((gu t r.id).take k).foldl (λm d=>bB m ⟨r.id,d.r⟩ d.c) s.2,λs r q=>(gu t r.id).length-q.1.toNat,?_⟩
 simp only[IL,Tpl.v,okU,Blk.ok,aJ,B']at ok;dsimp only[II,IJ,Ax.vp,Ax.vc];simp only[vcU,rfU,B'];refine⟨⟨0,rfl,by omega,rfl⟩,?_⟩;rintro⟨_,M⟩ ⟨k,rfl,hk,hM⟩;simp only at hM ⊢;refine⟨λc=>⟨by omega,c,λr hr=>⟨⟨0,rfl,by omega,rfl⟩,?_⟩⟩,λc=>by rw[hM,ai' (by omega)];rfl⟩;rintro⟨_,N⟩ ⟨j,rfl,hj,hN⟩;simp only at hN ⊢;have hdl:=G3 t r.id
 refine⟨λd=>⟨by omega,d,λy hy=>⟨⟨j+1,bf (n:=(gu t r.id).length) (by omega) (by omega),by omega,?_⟩,?_⟩⟩,λd=>⟨⟨k+1,bf (n:=t.rs.length) (by omega) (by omega),by omega,?_⟩,?_⟩⟩
 ·rw[Int.toNat_natCast]at hy;rw[aP hy,aZ',←hN];rfl
 ·rw[bf (n:=(gu t r.id).length) (by omega) (by omega)];omega
 ·rw[Int.toNat_natCast]at hr;rw[aP hr,aZ',←hM];show N=xy t M r;rw[hN,ai' (by omega)];rfl
 ·rw[bf (n:=t.rs.length) (by omega) (by omega)];omega
def yc(t:Tpl):PC Tryz.prog:=pcO 93 [(.a [(.s 2),(.s 5)])] [Tpl.v t] .k IK (dc t) (λok=>let ⟨I0,m0,I1,m1,h⟩:=S0 t ok;⟨_,h,by kernel_rfl⟩) rfl (by kernel_rfl)
structure yf (t:Tpl) (M:List (Hop×Int)):Prop where
  nd:(ap M).Nodup
  ok:∀p∈M,aC t p.1.a p.1.b=(p.2,true)
theorem LM{t:Tpl}{f:Int}{d:Dst}(h:d∈gu t f):aC t f d.r=(d.c,true):=by
 unfold gu at h
 split at h
 ·obtain⟨r,_,h⟩:=bH'.mp h;unfold nt at h
  split at h
  ·rename_i e;rw[L']at h;subst h;exact Prod.ext rfl e
  ·cases h
 ·cases h
theorem Rk{t:Tpl}(hc:ay t=0){f g:Int}(h:(aC t f g).2=true)(hg:az t g=true):⟨g,(aC t f g).1⟩∈gu t f:=by
 unfold gu;rw[G' hc];obtain⟨r,hr,e⟩:=ac'.mp hg;have e:r.id=g:=eq_of_beq e;refine bH'.mpr ⟨r,hr,?_⟩;unfold nt;rw[e,G' h];exact L'.mpr rfl
theorem yf.put{t:Tpl}{M:List (Hop×Int)}(h:yf t M){x y c:Int}(e:aC t x y=(c,true)):yf t (bB M ⟨x,y⟩ c)∧(⟨x,y⟩,c)∈bB M ⟨x,y⟩ c∧∀p∈M,p∈bB M ⟨x,y⟩ c:=by
 refine⟨⟨gj h.nd,λp hp=>?_⟩,(cw h.nd).mpr (.inl rfl),λp hp=>?_⟩
 ·rcases(cw h.nd).mp hp with rfl|⟨hp,_⟩
  ·exact e
  ·exact h.ok p hp
 ·rw[cw h.nd]
  by_cases q:p.1=⟨x,y⟩
  ·left;have:=h.ok p hp;rw[q,e]at this;exact Prod.ext q (Prod.mk.inj this).1.symm
  ·exact .inr ⟨hp,q⟩
theorem zY{t:Tpl}(x:Int):∀(l:List Dst) (M:List (Hop×Int)),(∀d∈l,aC t x d.r=(d.c,true))→yf t M →
  yf t (l.foldl (λm d=>bB m ⟨x,d.r⟩ d.c) M)∧(∀p∈M,p∈l.foldl (λm d=>bB m ⟨x,d.r⟩ d.c) M)∧∀d∈l,(⟨x,d.r⟩,d.c)∈l.foldl (λm d=>bB m ⟨x,d.r⟩ d.c) M
 | [],M,_,h=>⟨h,λp hp=>hp,λd hd=>by simp at hd⟩
 | d::l,M,hl,h=>by
  obtain⟨g1,g2,g3⟩:=h.put (hl d (by simp));obtain⟨k1,k2,k3⟩:=zY x l _ (λd hd=>hl d (by simp[hd])) g1;refine⟨k1,λp hp=>k2 p (g3 p hp),λd' hd'=>?_⟩
  rcases ad'.mp hd' with rfl|hd'
  ·exact k2 _ g2
  ·exact k3 d' hd'
theorem s6{t:Tpl}:∀(l:List Rtr) (M:List (Hop×Int)),yf t M→yf t (l.foldl (xy t) M)∧(∀p∈M,p∈l.foldl (xy t) M)∧∀r∈l,∀d∈gu t r.id,(⟨r.id,d.r⟩,d.c)∈l.foldl (xy t) M
 | [],M,h=>⟨h,λp hp=>hp,λr hr=>by simp at hr⟩
 | r::l,M,h=>by
  obtain⟨g1,g2,g3⟩:=zY r.id (gu t r.id) M (λd hd=>LM hd) h;obtain⟨k1,k2,k3⟩:=s6 l (xy t M r) g1;refine⟨k1,λp hp=>k2 p (g2 p hp),λr' hr' d hd=>?_⟩
  rcases ad'.mp hr' with rfl|hr'
  ·exact k2 _ (g3 d hd)
  ·exact k3 r' hr' d hd
theorem cA{t:Tpl}{x y:Int}(h:(aC t x y).2=true):ay t=0∧az t x=true∧az t y=true:=by
 unfold aC at h
 split at h
 ·cases h
 ·rename_i e;have h1:hs5 t x=true:=by simp at e;exact e.1
  have h2:hs5 t y=true:=by simp at e;exact e.2
  exact⟨(bR.mp h1).1,(bR.mp h1).2,(bR.mp h2).2⟩
theorem Ak{t:Tpl}{x y:Int}(h:(aC t x y).2=false):(aC t x y).1=0:=by
 unfold aC at *
 split
 ·rfl
 ·rename_i e;rw[F' e]at h
  split
  ·rfl
  ·rename_i g;rw[F' g]at h;cases h
theorem sy(t:Tpl)(x y:Int):aY (dc t) ⟨x,y⟩=(aC t x y).2:=by
 obtain⟨g1,_,g3⟩:=s6 (t:=t) t.rs [] ⟨bn',λp hp=>by simp at hp⟩;rw[ae',bV]
 constructor
 ·rintro⟨v,hv⟩;have:=g1.ok _ hv;rw[show aC t x y=_ from this]
 ·intro h;obtain⟨hc,hx,hy⟩:=cA h;obtain⟨r,hr,e⟩:=ac'.mp hx;have e:r.id=x:=eq_of_beq e;have:=g3 r hr _ (Rk hc (by rw[e];exact h) hy);rw[e]at this;exact⟨_,this⟩
theorem LQ(t:Tpl)(x y:Int):av (dc t) ⟨x,y⟩ 0=(aC t x y).1:=by
 obtain⟨g1,_,g3⟩:=s6 (t:=t) t.rs [] ⟨bn',λp hp=>by simp at hp⟩;cases e:(aC t x y).2 with
 | false=>rw[dj (by rw[sy,e]),Ak e]
 | true =>
  have h:=bU (z:=0) (show aY (dc t) ⟨x,y⟩=true by rw[sy,e]);have:=g1.ok _ h;rw[show aC t x y=_ from this]
def jU(m:List (Hop×Int))(x d:Int)(h:Hop)(c:Int):Bool:=aY m ⟨x,h.a⟩ && (aY m ⟨h.b,d⟩ && (W (W (av m ⟨x,h.a⟩ 0+c)+av m ⟨h.b,d⟩ 0)==av m ⟨x,d⟩ 0))
def Cz(r:Bool):AV:=.bool r
def v8(m:(List (Hop×Int)))(x:Int)(d:Int)(h_:Hop)(cost:Int):Ax Tryz.prog noS (Bool):=
 (.mn 112 (o6 AV.int m (⟨x,h_.a⟩:Hop) 0) (.mn 288 (o6 AV.int m (⟨h_.b,d⟩:Hop) 0) (.br 416 (aY m (⟨x,h_.a⟩:Hop)) (.br 464 (aY m (⟨h_.b,d⟩:Hop)) (.mn 608 (o6 AV.int m (⟨x,d⟩:Hop) 0) (.ret ((W ((W ((av m (⟨x,h_.a⟩:Hop) 0)+cost))+(av m (⟨h_.b,d⟩:Hop) 0)))==(av m (⟨x,d⟩:Hop) 0))))
(.ret (false)))
(.ret (false)))))
theorem ON(m:List (Hop×Int))(x d:Int)(h:Hop)(c:Int):(v8 m x d h c).vp Cz (jU m x d h c):=by
 dsimp only[v8,noS,Ax.vp,Ax.vc];simp only[vcU,rfU,B'];unfold jU;refine⟨λa=>⟨λb=>by rw[a,b];rfl,λb=>by rw[a,b];rfl⟩,λa=>by rw[a];rfl⟩
def cP(m:(List (Hop×Int)))(x:Int)(d:Int)(h_:Hop)(cost:Int):PC Tryz.prog:=pcO 94 [.k,.k,.k,.k,.k] [.mp (some 2) (m.map λp:Hop×Int=>pO p.1) (m.map λp:Hop×Int=>AV.int p.2),.int x,.int d,Hop.v h_,.int cost] .k Cz (jU m x d h_ cost) (λ_=>⟨(v8 m x d h_ cost),ON m x d h_ cost,by kernel_rfl⟩) rfl (by kernel_rfl)
theorem AJ{P:Program}{n:Nat}{o:Oper}{f:Nat}{tm:Nat→AV}{hp:Hp}{g:AO}{xs:List AO}(ho:cOp P o.op o.type=.call g xs)(hd:∀d,o.dst=some d→d<n)
  {fid:FuncId} {caps:List AV} (hg:evO tm g=.func fid caps) {foot:List Nat} {Qv:AV→Eff→Prop} (h:jD P n fid (xs.map (evO tm)++caps) f hp foot Qv)
  {c:Ctx} {A:Nat→Prop} {μ:Mu} {fr:Nat→Prop} {a:Act} {w:World} {K:Act→World→Prop} {Q:Exit→Act→World→Prop} (H:aA P c A μ fr tm hp n a w) (h3:∀j,j<16→fr (f+j))
  (hK:∀v e,Qv v e→∀a' w' A' μ',aA P c A' μ' (λb=>fr b∧¬(f≤b∧b<f+16)) (aH o.dst v tm) (bX e hp) n a' w'→K a' w'):o.wp P a w K Q:=by
 obtain⟨⟨fn,f1,f2,f3⟩,hcall⟩:=h;have hop:=py ho;obtain⟨g',args,ts,ho',rfl,rfl⟩:=hop;have hgr:=H.ev g';rw[hg]at hgr;obtain⟨cvs,e1,e2⟩:=hgr;have hxs:(args.toList.map (cO P)).map (evO tm)=args.toList.map λx=>evO tm (cO P x):=by rw[aV'];rfl
 rw[hxs]at hcall;have hargs:=(H.evs args.toList).append e2;have:=hcall c A μ fr tm hp a w _ H (λ_ _=>rfl) h3 hargs;unfold Oper.wp;rw[pe ho' e1 f1 f2 f3,Oper.upon_enter];have ea:args.map a.eval++cvs.toArray=(args.toList.map a.eval++cvs).toArray:=by apply aX';simp
 rw[ea];refine this.mono ?_;rintro e' w' ⟨v,e,hq,cv,A',μ',rfl,r1,r2⟩;exact hK v e hq _ _ _ _ (r1.put o.dst hd r2)
theorem AWP.regE{P:Program}{k n:Nat}{Q:X→S3→Prop}{s:S3}{os1 os2:List aG}{d:Option Nat}{g:AO}{xs:List AO}
  (h:evT P n os1 s.nx ⟨s.tm,s.hp⟩ (λs1 f1=>∃fid caps foot Qv,evO s1.tm g=.func fid caps∧jD P n fid (xs.map (evO s1.tm)++caps) f1 s1.hp foot Qv ∧
   ∀v e,Qv v e→evT P n os2 (f1+16) ⟨aH d v s1.tm,bX e s1.hp⟩ (λs' f=>Q .normal ⟨s'.tm,s'.hp,f⟩))):AWP P k n (.reg (os1++⟨d,.call g xs,none⟩::os2)) Q s:=by
 intro code hc c a w H;cases code<;>simp only[ek]at hc<;>try cases hc
 rename_i id ops' draw
 rcases dt hc with h'|⟨hd,h'⟩|⟨_,_,_,h'⟩
 ·cases h'
 ·subst hd;have h':os1++⟨d,.call g xs,none⟩::os2=ops'.toList.map (f9 P n ops'):=AC.reg.inj h';obtain⟨h0,A,μ,hr⟩:=H;obtain⟨l1,l2,e1,rfl,e3⟩:=List.map_eq_append_iff.mp h'.symm;cases l2 with
  | nil=>cases e3
  | cons o l2 =>
   rw[am']at e3;obtain⟨e4,rfl⟩:=List.cons.inj e3;refine wp_region_list ?_;rw[e1];refine kC (c:=c) _ (o::l2) (λs1 f1 a1 w1 A1 μ1 hK hr1=>?_) l1 s.nx ⟨s.tm,s.hp⟩ a w A μ h hr;obtain⟨fid,caps,foot,Qv,k1,k2,k3⟩:=hK
   rcases j7 P n ops' o with hb|⟨gd,hg,hd,hb⟩
   ·rw[hb]at e4;cases e4
   rw[hb]at e4;obtain⟨rfl,e5,rfl⟩:o.dst=d∧cOp P o.op o.type=.call g xs∧gd=none:=by
    have e6:=aG.mk.inj e4;exact⟨e6.1,e6.2.1,e6.2.2⟩
   have hgd:o.guard=none:=by
    cases q:o.guard with
    | none=>rfl
    | some jw=>rw[q]at hg;obtain⟨j,wt⟩:=jw;simp only[fM]at hg;split at hg<;>cases hg
   unfold wpList;rw[G' (by simp[Region.wanted,hgd])];refine .inl (AJ e5 hd k1 k2 hr1 (λj _=>by omega) λv e hq a' w' A' μ' hr'=>?_);exact qp (c:=c) _ (λs' f a w A μ hK hr=>⟨⟨s'.tm,s'.hp,f⟩,hK,h0,A,μ,hr⟩) l2 (f1+16) _ a' w' A' μ' (k3 v e hq) (hr'.free λb hb=>⟨by omega,λh=>by omega⟩)
 ·cases h'
abbrev Rws:=List (Int×List Int)
def kyL(L:Rws):List MK:=L.map λp=>MK.n p.1
structure Fam (hp:Hp) (nx bm:Nat) (ns:List Nat) (L:Rws):Prop where
  hm:hp bm=some (.map none (kyL L) (ns.map AV.vec))
  ln:ns.length=L.length
  nd:ns.Nodup
  kd:(ap L).Nodup
  lt:∀b∈ns,b<nx
  bl:bm<nx
  row:∀(i:Nat) b p,ns[i]?=some b→L[i]?=some p→hp b=some (.vec 1 (p.2.map AV.int))
theorem Fam.vec{hp:Hp}{nx bm:Nat}{ns:List Nat}{L:Rws}(h:Fam hp nx bm ns L){b:Nat}(hb:b∈ns):∃es,hp b=some (.vec 1 es):=by
 obtain⟨i,hi⟩:=ag'.mp hb;have hl:=ao hi;have hl':i<L.length:=by rw[←h.ln];exact hl
 exact⟨_,h.row i b _ hi (u' hl')⟩
theorem Fam.ne{hp:Hp}{nx bm:Nat}{ns:List Nat}{L:Rws}(h:Fam hp nx bm ns L){b:Nat}(hb:∀es,hp b≠some (.vec 1 es)):b ∉ ns:=λc=>by
 obtain⟨es,e⟩:=h.vec c;exact hb es e
theorem Fam.bm_no{hp:Hp}{nx bm:Nat}{ns:List Nat}{L:Rws}(h:Fam hp nx bm ns L):bm ∉ ns:=h.ne λes e=>by rw[h.hm]at e;cases e
theorem Fam.keep{hp hp':Hp}{nx nx' bm:Nat}{ns:List Nat}{L:Rws}(h:Fam hp nx bm ns L)(e:∀b,b<nx→(b=bm∨b∈ns)→hp' b=hp b)(hn:nx≤nx'):Fam hp' nx' bm ns L:=
 ⟨(e bm h.bl (.inl rfl)).trans h.hm,h.ln,h.nd,h.kd,λb hb=>aU' (h.lt b hb) hn,aU' h.bl hn,λi b p hi hp=>(e b (h.lt b (O' hi)) (.inr (O' hi))).trans (h.row i b p hi hp)⟩
theorem rH{L:Rws}{k:Int}:MK.n k∈kyL L↔k∈ap L:=by
 unfold kyL ap
 constructor
 ·intro h;obtain⟨p,hp,e⟩:=Y'.mp h;exact Y'.mpr ⟨p,hp,MK.n.inj e⟩
 ·intro h;obtain⟨p,hp,rfl⟩:=Y'.mp h;exact Y'.mpr ⟨p,hp,rfl⟩
theorem KR{L:Rws}(hn:(ap L).Nodup){k:Int}{i:Nat}{p:Int×List Int}(hp:L[i]?=some p)(e:p.1=k):(kyL L).idxOf (MK.n k)=i∧eJ L k=i:=by
 have h1:(ap L)[i]?=some k:=by unfold ap;rw[J',hp,←e];rfl
 have h2:(kyL L)[i]?=some (MK.n k):=by unfold kyL;rw[J',hp,←e];rfl
 refine⟨oK ?_ h2,?_⟩
 ·have:kyL L=(ap L).map MK.n:=by unfold kyL ap;rw[aV'];rfl
  rw[this];exact List.Pairwise.map MK.n (λa b h e=>h (MK.n.inj e)) hn
 ·obtain⟨hl,rfl⟩:=Z'.mp h1;exact hn.idxOf_getElem i hl
theorem Fam.no{hp:Hp}{nx bm:Nat}{ns:List Nat}{L:Rws}(h:Fam hp nx bm ns L){k:Int}(hk:aY L k=false)(z v:AV)(kk:Option Nat) :
  dp (kyL L) (ns.map AV.vec) (MK.n k) z false=z∧dY kk (kyL L) (ns.map AV.vec) (MK.n k) v=.map kk (kyL L++[MK.n k]) (ns.map AV.vec++[v]):=by
 have hn:MK.n k ∉ kyL L:=λc=>by rw[rH]at c;unfold aY at hk;simp[c]at hk
 unfold dp dY;rw[F' hn,F' hn];exact⟨rfl,rfl⟩
theorem Fam.yes{hp:Hp}{nx bm:Nat}{ns:List Nat}{L:Rws}(h:Fam hp nx bm ns L){k:Int}(hk:aY L k=true):∃(i b:Nat),ns[i]?=some b∧L[i]?=some (k,av L k [])∧eJ L k=i∧hp b=some (.vec 1 ((av L k []).map AV.int)) ∧
  (∀z,dp (kyL L) (ns.map AV.vec) (MK.n k) z false=.vec b)∧∀kk v,dY kk (kyL L) (ns.map AV.vec) (MK.n k) v=.map kk (kyL L) ((ns.map AV.vec).set i v):=by
 have hm:k∈ap L:=by unfold aY at hk;simpa using hk
 obtain⟨v,hv⟩:=lq hm;have hval:av L k []=v:=by unfold av;rw[hv]
 have hi:=ao hv;have hb:ns[eJ L k]?=some (ns[eJ L k]'(by rw[h.ln];exact hi)):=u' _;generalize ns[eJ L k]'(by rw[h.ln];exact hi)=b at hb;obtain⟨e1,_⟩:=KR h.kd hv rfl
 refine⟨eJ L k,b,hb,by rw[hval];exact hv,rfl,by rw[hval];exact h.row _ b _ hb hv,λz=>?_,λkk v=>?_⟩
 ·unfold dp;rw[G' (rH.mpr hm),e1,I',J',hb];rfl
 ·unfold dY;rw[G' (rH.mpr hm),e1]
theorem rq{L:Rws}{k:Int}(hk:aY L k=false)(v:List Int):bB L k v=L++[(k,v)]:=by
 have hn:k ∉ ap L:=λc=>by unfold aY at hk;simp[c]at hk
 unfold bB;rw[F' hn]
theorem o5{L:Rws}{k:Int}(hk:aY L k=true)(v:List Int):bB L k v=L.set (eJ L k) (k,v):=by
 have hm:k∈ap L:=by unfold aY at hk;simpa using hk
 unfold bB;rw[G' hm]
theorem Fam.put_no{hp hp':Hp}{nx nx' bm f:Nat}{ns:List Nat}{L:Rws}(h:Fam hp nx bm ns L){k y:Int}(hk:aY L k=false)(hf:nx≤f)(hf':f<nx')
  (e1:hp' bm=some (.map none (kyL L++[MK.n k]) (ns.map AV.vec++[.vec f]))) (e2:hp' f=some (.vec 1 [.int y])) (e3:∀b,b<nx→b≠bm→hp' b=hp b):Fam hp' nx' bm (ns++[f]) (bB L k (av L k []++[y])):=by
 have hv:av L k []=[]:=dj hk;rw[hv,rq hk]
 refine⟨by rw[e1];simp[kyL],by simp[h.ln],?_,?_,λb hb=>?_,by have:=h.bl;omega,λi b p hi hp=>?_⟩
 ·refine ba'.mpr ⟨h.nd,by simp,λa ha b hb=>?_⟩;rw[L'.mp hb];have:=h.lt a ha;omega
 ·rw[show ap (L++[(k,[]++[y])])=ap L++[k] by simp[ap]];refine ba'.mpr ⟨h.kd,by simp,λa ha b hb=>?_⟩;rw[L'.mp hb];rintro rfl;unfold aY at hk;simp[ha]at hk
 ·rcases X'.mp hb with hb|hb
  ·have:=h.lt b hb;omega
  ·rw[L'.mp hb];exact hf'
 ·by_cases c:i<ns.length
  ·rw[bV' c]at hi;rw[bV' (by rw[←h.ln];exact c)]at hp;have hbm:=O' hi;rw[e3 b (h.lt b hbm) (λq=>h.bm_no (q ▸ hbm))];exact h.row i b p hi hp
  ·have hl:=ao hi;rw[List.length_append,List.length_singleton]at hl;obtain rfl:i=ns.length:=by omega
   rw[bi' (V' _),bz']at hi;rw[bi' (by rw[h.ln];exact V' _),h.ln,bz']at hp;cases hi;cases hp;exact e2
theorem Fam.put_yes{hp hp':Hp}{nx nx' bm f i b0:Nat}{ns:List Nat}{L:Rws}(h:Fam hp nx bm ns L){k y:Int}(hk:aY L k=true)(hi:ns[i]?=some b0)(hL:L[i]?=some (k,av L k []))(hx:eJ L k=i)(hf:nx≤f)(hf':f<nx')
  (e1:hp' bm=some (.map none (kyL L) ((ns.map AV.vec).set i (.vec f)))) (e2:hp' f=some (.vec 1 ((av L k []).map AV.int++[.int y]))) (e3:∀b,b<nx→b≠bm→b≠b0→hp' b=hp b):Fam hp' nx' bm (ns.set i f) (bB L k (av L k []++[y])):=by
 rw[o5 hk,hx];have hil:=ao hi;have hky:kyL (L.set i (k,av L k []++[y]))=kyL L:=by
  unfold kyL;rw[bO'];refine aS' λj=>?_;rw[ao']
  split
  ·rename_i e;subst e;rw[B',G' (ao hL),J',hL];rfl
  ·rfl
 have hmk:ap (L.set i (k,av L k []++[y]))=ap L:=by
  unfold ap;rw[bO'];refine aS' λj=>?_;rw[ao']
  split
  ·rename_i e;subst e;rw[B',G' (ao hL),J',hL];rfl
  ·rfl
 refine⟨by rw[e1,hky,bO'],by simp[h.ln],?_,by rw[hmk];exact h.kd,λb hb=>?_,by have:=h.bl;omega,λj b p hj hp=>?_⟩
 ·have hset:ns.set i f=ns.take i++f::ns.drop (i+1):=by rw[bN',G' hil]
  rw[hset];have hnd:=h.nd;rw[←bT' i ns,bx' hil]at hnd;obtain⟨q1,q2,q3⟩:=ba'.mp hnd
  refine ba'.mpr ⟨q1,cp'.mpr ⟨λc=>?_,(cp'.mp q2).2⟩,λa ha b hb=>?_⟩
  ·have:=h.lt f (aJ' c);omega
  ·rcases ad'.mp hb with rfl|hb
   ·have:=h.lt a (ah' ha);omega
   ·exact q3 a ha b (bh' _ hb)
 ·rcases aC' hb with hb|rfl
  ·have:=h.lt b hb;omega
  ·exact hf'
 ·rw[ao']at hj hp
  by_cases c:i=j
  ·subst c;rw[G' rfl,G' hil]at hj;rw[G' rfl,G' (ao hL)]at hp;cases hj;cases hp;rw[e2];simp
  ·rw[F' c]at hj hp;have hbm:=O' hj;have hne:b≠b0:=λq=>by subst q;exact c ((List.getElem?_inj hil h.nd).mp (hi.trans hj.symm))
   rw[e3 b (h.lt b hbm) (λq=>h.bm_no (q ▸ hbm)) hne];exact h.row j b p hj hp
theorem Fam.give{k n:Nat}{tm:Nat→AV}{hp:Hp}{nx bm:Nat}{ns:List Nat}{L:Rws}(h:Fam hp nx bm ns L) :
  ∃hp',au k n ⟨tm,hp,nx⟩ ⟨tm,hp',nx⟩∧hp' bm=some (.map none (kyL L) (L.map λp=>AV.sl 1 (p.2.map AV.int) false))∧∀b,b≠bm→b ∉ ns→hp' b=hp b:=by
 let f:Nat→Nat:=λi=>(ns[i]?).getD (nx+i)
 have hf1:∀i,i<ns.length→ns[i]?=some (f i):=λi hi=>by simp only[f];rw[u' hi];rfl
 have hf2:∀i,¬i<ns.length→f i=nx+i:=λi hi=>by simp only[f];rw[aj' (by omega)];rfl
 obtain⟨hp',vs',w,a1,a2,a3,a4,a5⟩:=au.giveRows (k:=k) (n:=n) (tm:=tm) (nx:=nx) (kk:=1) bm f (λi=>((L[i]?).elim [] (·.2)).map AV.int) (λi=>aB (ah (λ_=>rfl) _)) (λi j e=>by
   by_cases ci:i<ns.length<;>by_cases cj:j<ns.length
   ·have h1:=hf1 i ci;have h2:=hf1 j cj
    rw[←e]at h2;exact(List.getElem?_inj ci h.nd).mp (h1.trans h2.symm)
   ·have h1:=h.lt _ (O' (hf1 i ci));have h2:=hf2 j cj;omega
   ·have h1:=h.lt _ (O' (hf1 j cj));have h2:=hf2 i ci;omega
   ·have h1:=hf2 i ci;have h2:=hf2 j cj;omega)
  (λi e=>by
   by_cases ci:i<ns.length
   ·exact h.bm_no (e ▸ O' (hf1 i ci))
   ·have h1:=hf2 i ci;have:=h.bl;omega) h.hm ns.length (λi hi=>⟨by rw[J',hf1 i hi];rfl,by
    have hl':i<L.length:=by rw[←h.ln];exact hi
    have hL:=u' hl';rw[h.row i _ _ (hf1 i hi) hL,hL];rfl⟩)
 refine⟨hp',w,?_,λb hb hn=>a5 b hb λi hi e=>hn (e ▸ O' (hf1 i hi))⟩;rw[a1]
 congr 2
 refine aS' λi=>?_
 by_cases hi:i<ns.length
 ·have hl':i<L.length:=by rw[←h.ln];exact hi
  have hL:=u' hl';rw[a3 i hi,J',hL];rfl
 ·rw[aj' (by rw[a2];simpa using hi),aj' (by rw[B',←h.ln];omega)]
def RL:AF:=
 ⟨32,1,[.tmp 2],
 .seq (.reg [⟨(some 2),.move (.c (.val (.map none))),none⟩])
 (.seq (.reg [⟨(some 8),.mkm none,none⟩,⟨(some 3),.move (.t 8),none⟩])
 (.seq (.seq (.reg [⟨(some 9),.move (.t 0),none⟩,⟨(some 10),.rng (.t 9),none⟩])
 (.block 0 (.loop (.seq (.reg [⟨(some 11),.nxt (.t 10),none⟩,⟨(some 12),.ext 0 (.t 11),none⟩])
 (.seq (.cond (.t 12) (.skip) (.exit 0))
 (.block 1 (.seq (.reg [⟨(some 13),.ent (.t 10),none⟩,⟨(some 14),.ext 0 (.t 13),none⟩,⟨(some 15),.ext 1 (.t 13),none⟩,⟨(some 4),.move (.t 14),none⟩,⟨(some 5),.move (.t 15),none⟩])
 (.seq (.reg [⟨(some 16),.move (.t 5),none⟩,⟨(some 17),.len (.t 16),none⟩,⟨(some 18),.move (.c (.val (.int .i64 0))),none⟩])
 (.block 2 (.loop (.seq (.reg [⟨(some 19),.bin .lss (.t 18) (.t 17),none⟩])
 (.seq (.cond (.t 19) (.skip) (.exit 2))
 (.seq (.block 3 (.seq (.reg [⟨(some 20),.iaddr 1 (.t 16) (.t 18),none⟩,⟨(some 21),.load false 1 (.t 20),none⟩,⟨(some 7),.move (.t 21),none⟩])
 (.reg [⟨(some 22),.move (.t 3),none⟩,⟨(some 23),.move (.t 7),none⟩,⟨(some 24),.move (.t 3),none⟩,⟨(some 25),.move (.t 7),none⟩,⟨(some 26),.mget none ((.sl 0 [] true)) false (.t 24) (.t 25),none⟩,⟨(some 27),.move (.t 4),none⟩,⟨(some 28),.lit 1 1 (.val (.int .i64 0)) [(0,(.t 27))],none⟩,⟨(some 29),.append 1 8 (.t 26) (.t 28),none⟩,⟨none,.mset none (.t 22) (.t 23) (.t 29),none⟩])))
 (.reg [⟨(some 30),.bin .add (.t 18) (.c (.val (.int .i64 1))),none⟩,⟨(some 18),.move (.t 30),none⟩]))))))))))))))
 (.seq (.reg [⟨(some 31),.move (.t 3),none⟩,⟨(some 2),.move (.t 31),none⟩])
 (.ret))))⟩
theorem MD:gm Tryz.prog Tryz.f50=some RL:=by kernel_rfl
def pu(M:Rws)(k y:Int):Rws:=bB M k (av M k []++[y])
def jT(x:Int)(M:Rws)(l:List Int):Rws:=l.foldl (λM y=>pu M y x) M
def gR(L:Rws)(is:List Nat):Rws:=is.foldl (λM i=>jT (L.getD i (0,[])).1 M (L.getD i (0,[])).2) []
def iU(L:Rws):Blk:=.map none (kyL L) (L.map λp=>AV.sl 1 (p.2.map AV.int) false)
theorem ec(L:Rws):aV (L.map λp=>AV.sl 1 (p.2.map AV.int) false):=aB (ah (λp=>by show AV.pureB (AV.sl 1 (p.2.map AV.int) false)=true;rw[AV.pureB];first|done|exact ah (λ_=>rfl) _) _)
structure uZ (L:Rws):Prop where
  len:L.length≤100
  ky:∀p∈L,Am.inK .i64 p.1
  row:∀p∈L,p.2.length≤100
  el:∀p∈L,∀y∈p.2,Am.inK .i64 y
theorem nxF{b nx:Nat}(h:b<nx):(∀k,(b=nx+k)=False)∧(∀k,(nx+k=b)=False)∧(b=nx)=False∧(nx=b)=False:=
 ⟨λk=>by simp;omega,λk=>by simp;omega,by simp;omega,by simp;omega⟩
theorem vX{M:Rws}{m:Nat}(h:∀p∈M,p.2.length≤m)(k y:Int):∀p∈pu M k y,p.2.length≤m+1:=λp hp=>by
 unfold pu at hp;have hv:(av M k []).length≤m:=by
  cases e:aY M k with
  | false=>rw[dj e];simp
  | true=>exact h _ (bU e)
 cases e:aY M k with
 | false =>
  rw[rq e]at hp
  rcases X'.mp hp with hp|hp
  ·have:=h p hp;omega
  ·rw[L'.mp hp];simp;omega
 | true =>
  rw[o5 e]at hp
  rcases aC' hp with hp|rfl
  ·have:=h p hp;omega
  ·simp;omega
theorem sq{kk:Option Nat}{f:Nat}{ρ:AO→AV}{hp:Hp}:evA (.mkm kk) f ρ hp={ c:=True,v:=.mref f,ad:=some (f,.map kk [] []) }:=rfl
structure TuI (L:Rws) (st:List Nat) (ck:Nat) (s:S3) (M:Rws) (is:List Nat):Prop where
  nx:81≤s.nx
  t3:s.tm 3=.mref 17
  t10:s.tm 10=.ref 65 0
  h0:s.hp 0=some (.mst none (kyL L) (L.map λp=>AV.sl 1 (p.2.map AV.int) false) st ck)
  hi:s.hp 65=some (.itr 0 st ck (is.map λi=>st.getD i 0))
  fam:∃ns,Fam s.hp s.nx 17 ns M
theorem Ct(L:Rws)(hL:uZ L):fe Tryz.prog 50 [.mref 0] [iU L] (λr h'=>∃is:List Nat,is.Nodup∧(∀i∈is,i<L.length)∧(∀i,i<L.length→i∈is)∧r=.mref 1∧h'=[none,some (iU (gR L is))]):=by
 refine fe.walk Tryz.func50 MD (by simp[RL]) ?_;unfold RL;simp only[fO,gk,ab',ap'];refine AWP.open 0 (ai _ _ _) λst ck hs1 hs2 hn hv=>?_;have hs2:st.length=L.length:=by rw[hs2];simp[kyL]
 have hkO:∀q∈kyL L,kOk q:=λq hq=>by
  obtain⟨p,hp,rfl⟩:=Y'.mp hq;exact hL.ky p hp
 refine AWP.seq' ?_;refine AWP.reg' λK hK=>?_
 try simp only[ak,seval]
 refine hK _ _ _ ?_;clear hK K;refine AWP.seq' ?_;refine AWP.reg' λK hK=>?_
 try simp only[ak,seval,sq]
 refine hK _ _ _ ?_;clear hK K;refine AWP.seq' (AWP.seq' ?_);refine AWP.reg' λK hK=>?_
 try simp only[ak,seval]
 refine se rfl (by simp only[ag];rfl) ?_
 try simp only[ak,seval]
 refine hK _ _ _ ?_;clear hK K;refine AWP.block ?_
 refine AWP.loopS (λt:S3×List Nat=>t.1) (λt=>(t.2.Nodup∧(∀i∈t.2,i<L.length)∧∀p∈gR L t.2,p.2.length≤100 * t.2.length)∧TuI L st ck t.1 (gR L t.2) t.2) (λt=>L.length-t.2.length) (i0:=(_,[])) ?_ au.refl ?_
 ·refine⟨⟨bn',λi hi=>by simp at hi,λp hp=>by simp[gR]at hp⟩,?_⟩;exact⟨V' _,rfl,rfl,rfl,rfl,[],⟨rfl,rfl,bn',bn',by simp,by show 17<81;omega,by simp⟩⟩
 ·rintro⟨⟨tm,hp,nx⟩,is⟩ ⟨⟨i1,i2,i3⟩,hI⟩;obtain⟨n1,g3,g10,g0,gi,ns,hF⟩:=hI;simp only at n1 g3 g10 g0 gi hF i1 i2 i3 ⊢;refine AWP.seq' ?_;refine AWP.reg' λK hK=>?_
  try simp only[ak,seval]
  refine sf g10 gi g0 hkO (λhs=>?_) (λi q v s0 e1 e2 e3 e4=>?_)
  ·try simp only[ak,seval]
   refine hK _ _ _ ?_;clear hK K;refine AWP.seq' (AWP.cond (b:=false) rfl (λh=>by cases h) (λ_=>AWP.exit ?_));refine(show AWP _ _ _ _ _ _ from ?_);refine AWP.seq' ?_;refine AWP.reg' λK hK=>?_
   try simp only[ak,seval,g3]
   refine hK _ _ _ ?_;clear hK K;refine(show AWP _ _ _ _ _ _ from ?_);obtain⟨hp',w,h1,h2⟩:=(hF.keep (nx':=nx+16+16+16+16) (λ_ _ _=>rfl) (by omega)).give (k:=1) (n:=32) (tm:=upd (upd (upd (upd tm 11 (AV.tup [AV.bool false])) 12 (AV.bool false)) 31 (AV.mref 17)) 2 (AV.mref 17))
   refine AWP.ret ⟨_,_,⟨is,i1,i2,λi hi=>?_,rfl,rfl⟩,ig w (iD [0,17] [(2,.mref 1)] rfl rfl ?_ ?_ rfl (by decide) ?_ (by simp))⟩
   ·have hi':i<st.length:=by omega
    have h3:=hs _ (O' (u' hi'));obtain⟨j,hj,e⟩:=Y'.mp h3;have hj':j<st.length:=by have:=i2 j hj;omega
    rw[I',u' hj']at e;have e':st[j]?=st[i]?:=by rw[u' hj',u' hi'];exact congrArg some e
    rw[←(List.getElem?_inj hj' hs1).mp e'];exact hj
   ·simp only[L',forall_eq];exact⟨rfl,show(1:Nat)<2 by omega⟩
   ·refine⟨⟨?_,?_⟩,trivial⟩
    ·show hp' 17=_;rw[h1,iU,Blk.ren,aX _ (ec _)]
    ·exact aT (ec _)
   ·intro b hb
    match b,hb with
    | 0,_=>rfl
  ·have hil:i<L.length:=by have:=ao e3;omega
   have hp':L[i]?=some L[i]:=u' hil;generalize L[i]=p at hp';obtain⟨x,l⟩:=p;have e1':(kyL L)[i]?=some (MK.n x):=by rw[kyL,J',hp'];rfl
   have e2':(L.map λp=>AV.sl 1 (p.2.map AV.int) false)[i]?=some (.sl 1 (l.map AV.int) false):=by rw[J',hp'];rfl
   rw[e1']at e1;cases e1;rw[e2']at e2;cases e2;have hpm:=O' hp';have hll:=hL.row _ hpm;have hxk:=hL.ky _ hpm;have hel:=hL.el _ hpm;simp only at hll hxk hel;have hml:=bv
   try simp only[ak,seval]
   refine hK _ _ _ ?_;clear hK K;refine AWP.seq' (AWP.cond (b:=true) rfl (λ_=>?_) (λh=>by cases h));refine AWP.skip ?_;refine AWP.block (AWP.seq' ?_);refine AWP.reg' λK hK=>?_
   try simp only[ak,seval]
   refine si (m:=0) g10 (ai _ _ _) ((aj _ _ (by decide)).trans ((aj _ _ (by decide)).trans g0)) e3 e1' e2' hxk ?_
   try simp only[ak,seval,kAV]
   refine hK _ _ _ ?_;clear hK K;refine AWP.seq' ?_;refine AWP.reg' λK hK=>?_
   try simp only[ak,seval,B']
   repeat (refine E' (by omega) ?_)
   refine hK _ _ _ ?_;clear hK K;refine AWP.block ?_;have hst:st.getD i 0=s0:=by rw[I',e3];rfl
   have hni:i ∉ is:=λc=>e4 (Y'.mpr ⟨i,c,hst⟩);have hF1:∀b,b<nx→(b=17∨b∈ns)→b≠65:=λb _ hb e=>by
    subst e
    rcases hb with h|h
    ·omega
    ·obtain⟨es,q⟩:=hF.vec h;rw[gi]at q;cases q
   refine AWP.loopS (λt:S3×Nat=>t.1) (λt=>(t.2≤l.length∧∀p∈jT x (gR L is) (l.take t.2),p.2.length≤100 * is.length+t.2)∧TuI L st ck t.1 (jT x (gR L is) (l.take t.2)) (is++[i]) ∧
    t.1.tm 4=.int x∧t.1.tm 16=.sl 1 (l.map AV.int) false∧t.1.tm 17=.int l.length∧t.1.tm 18=.int (t.2:Nat)) (λt=>l.length-t.2) (i0:=(_,0)) ?_ au.refl ?_
   ·refine⟨⟨aG' _,λp hp=>i3 p hp⟩,⟨by dsimp only;omega,?_,?_,?_,?_,ns,hF.keep (λb hb hn=>?_) (by dsimp only;omega)⟩,rfl,rfl,rfl,rfl⟩
    ·simp only[ag];exact g3
    ·simp only[ag];exact g10
    ·simp only[ag];exact g0
    ·simp only[ag,ay',am',bI',hst];rfl
    ·have:=hF1 b hb hn;simp only[ag,F' this]
   ·rintro⟨⟨tm1,hp1,nx1⟩,j⟩ ⟨⟨j1,j2⟩,⟨n1',g3',g10',g0',gi',ns',hF'⟩,t4,t16,t17,t18⟩;simp only at n1' g3' g10' g0' gi' hF' t4 t16 t17 t18 j1 j2 ⊢;refine AWP.seq' ?_;refine AWP.reg' λK hK=>?_
    try simp only[ak,seval,t17,t18]
    refine hK _ _ _ ?_;clear hK K;refine AWP.seq' ?_
    refine AWP.cond (b:=decide ((j:Int)<(l.length:Int))) rfl (λh=>?_) (λh=>?_)
    ·have h:j<l.length:=by have:=H' h;omega
     refine AWP.skip ?_;refine AWP.seq' (AWP.block (AWP.seq' ?_));have hy:l[j]?=some l[j]:=u' h;generalize l[j]=y at hy;have hge:(l.map AV.int).getD j .unk=.int y:=by rw[I',J',hy];rfl
     refine AWP.reg' λK hK=>?_
     try simp only[ak,seval,t16,t18,hge,Int.toNat_natCast,B']
     refine⟨⟨by omega,by omega⟩,?_⟩;refine hK _ _ _ ?_;clear hK K;refine(show AWP _ _ _ _ _ _ from ?_);obtain⟨f17a,f17b,f17c,f17d⟩:=nxF (show 17<nx1 by omega);generalize hM:jT x (gR L is) (l.take j)=M at hF' j2;have hM1:jT x (gR L is) (l.take (j+1))=pu M y x:=by rw[aP hy,←hM];unfold jT;rw[aZ'];rfl
     have hw:IntKind.i64.wrap ((j:Int)+1)=((j+1:Nat):Int):=kN (by omega) (by omega);obtain⟨f0,_⟩:=nxF (show 0<nx1 by omega);obtain⟨f65,_⟩:=nxF (show 65<nx1 by omega);have h0':∀k,(0=nx1+k)=False:=f0;have h65':∀k,(65=nx1+k)=False:=f65;have f17d':∀k,(nx1+k=17)=False:=f17b;cases e:aY M y with
     | false =>
      have q1:=λz v kk=>(hF'.no e z v kk).1;have q2:=λz v kk=>(hF'.no e z v kk).2;refine AWP.reg' λK hK=>?_
      try simp only[ak,seval,g3',t4,hF'.hm,bA,bL,dR,AV.key,MK.fits,q1 _ .unk none,and_self,true_and]
      refine sg ?_
      try simp only[ak,seval,g3',t4,hF'.hm,bA,bL,dR,AV.key,MK.fits,and_self,true_and,bp,eC,f17a,f17b,f17c,f17d,bb']
      refine⟨by decide,?_⟩;refine hK _ _ _ ?_;clear hK K;refine(show AWP _ _ _ _ _ _ from ?_);refine AWP.reg' λK hK=>?_
      try simp only[ak,seval,t18,hw]
      refine hK _ _ _ ?_;clear hK K
      refine⟨(_,j+1),⟨⟨by dsimp only;omega,?_⟩,⟨by dsimp only;omega,?_,?_,?_,?_,ns'++[nx1+176],?_⟩,?_,?_,?_,rfl⟩,by dsimp only;omega,au.refl⟩
      ·rw[hM1];exact λp hp=>by have:=vX j2 y x p hp;dsimp only;omega
      ·simp only[ag];exact g3'
      ·simp only[ag];exact g10'
      ·simp only[ag,h0'];exact g0'
      ·simp only[ag,h65'];exact gi'
      ·rw[hM1];exact hF'.put_no e (f:=nx1+176) (by omega) (by dsimp only;omega) (by simp only[ag,↓reduceIte];exact congrArg some (q2 (.sl 0 [] true) _ none)) (by simp only[ag,f17d',↓reduceIte]) (λb hb hne=>by simp only[ag,F' hne];rw[F' (by omega)])
      ·simp only[ag];exact t4
      ·simp only[ag];exact t16
      ·simp only[ag];exact t17
     | true =>
      obtain⟨i0,b0,y1,y2,y3,y4,y5,y6⟩:=hF'.yes e;have hb0:=hF'.lt b0 (O' y1);obtain⟨b0a,b0b,_,_⟩:=nxF hb0;have hb17:(17=b0)=False:=by simp;rintro rfl;exact hF'.bm_no (O' y1)
      have hb0':(0=b0)=False:=by simp;rintro rfl;rw[g0']at y4;cases y4
      have hb65:(65=b0)=False:=by simp;rintro rfl;rw[gi']at y4;cases y4
      have hrl:=j2 _ (O' y2);simp only at hrl;have hisl:is.length≤100:=by
       have:=List.Nodup.length_le_of_subset i1 (show is ⊆ List.range L.length from λa ha=>al'.mpr (i2 a ha));rw[bY']at this;have:=hL.len;omega
      refine AWP.reg' λK hK=>?_
      try simp only[ak,seval,g3',t4,hF'.hm,bA,bL,dR,AV.key,MK.fits,y5,and_self,true_and]
      refine sg ?_
      try simp only[ak,seval,g3',t4,hF'.hm,bA,bL,dR,AV.key,MK.fits,and_self,true_and,bp,eC,y4,f17a,f17b,f17c,f17d,hb17,bb',B']
      refine⟨⟨by omega,by omega⟩,?_⟩;refine hK _ _ _ ?_;clear hK K;refine(show AWP _ _ _ _ _ _ from ?_);refine AWP.reg' λK hK=>?_
      try simp only[ak,seval,t18,hw]
      refine hK _ _ _ ?_;clear hK K
      refine⟨(_,j+1),⟨⟨by dsimp only;omega,?_⟩,⟨by dsimp only;omega,?_,?_,?_,?_,ns'.set i0 (nx1+176),?_⟩,?_,?_,?_,rfl⟩,by dsimp only;omega,au.refl⟩
      ·rw[hM1];exact λp hp=>by have:=vX j2 y x p hp;dsimp only;omega
      ·simp only[ag];exact g3'
      ·simp only[ag];exact g10'
      ·simp only[ag,h0',hb0'];exact g0'
      ·simp only[ag,h65',hb65];exact gi'
      ·rw[hM1];exact hF'.put_yes e y1 y2 y3 (f:=nx1+176) (by omega) (by dsimp only;omega) (by simp only[ag,↓reduceIte];exact congrArg some (y6 none _)) (by simp only[ag,f17d',↓reduceIte]) (λb hb hne hnb=>by simp only[ag,F' hne,F' hnb];rw[F' (by omega)])
      ·simp only[ag];exact t4
      ·simp only[ag];exact t16
      ·simp only[ag];exact t17
    ·have h:j=l.length:=by have:=T' h;omega
     refine AWP.exit ?_;refine(show ∃jj:S3×List Nat,_ from ?_);have hT:gR L (is++[i])=jT x (gR L is) (l.take j):=by
      rw[ai' (by omega)];unfold gR;rw[aZ',at',List.foldl_nil,I',hp'];rfl
     have hN:(is++[i]).Nodup:=ba'.mpr ⟨i1,by simp,λa ha b hb=>by rw[L'.mp hb];rintro rfl;exact hni ha⟩;have hS:∀a∈is++[i],a<L.length:=λa ha=>by
      rcases X'.mp ha with ha|ha
      ·exact i2 a ha
      ·rw[L'.mp ha];exact hil
     have hLn:=List.Nodup.length_le_of_subset hN (show is++[i] ⊆ List.range L.length from λa ha=>al'.mpr (hS a ha));rw[bY',List.length_append,List.length_singleton]at hLn
     refine⟨(_,is++[i]),⟨⟨hN,hS,?_⟩,⟨?_,?_,?_,?_,?_,ns',?_⟩⟩,?_,au.refl⟩
     ·dsimp only;rw[hT,List.length_append,List.length_singleton];exact λp hp=>by have:=j2 p hp;omega
     ·dsimp only;omega
     ·simp only[ag];exact g3'
     ·simp only[ag];exact g10'
     ·exact g0'
     ·exact gi'
     ·dsimp only;rw[hT];exact hF'.keep (λ_ _ _=>rfl) (by omega)
     ·dsimp only;rw[List.length_append,List.length_singleton];omega
def Oo:AC:=.reg [⟨(some 72),.faddr 0 (.t 16),none⟩,⟨(some 73),.load false 1 (.t 72),none⟩,⟨(some 74),.faddr 0 (.t 8),none⟩,⟨(some 75),.load false 1 (.t 74),none⟩,⟨(some 76),.bin .neq (.t 73) (.t 75),none⟩,⟨(some 77),.move (.t 76),none⟩,⟨(some 78),.move (.t 6),(some (77,true))⟩,⟨(some 79),.faddr 0 (.t 16),(some (77,true))⟩,⟨(some 80),.load false 1 (.t 79),(some (77,true))⟩,⟨(some 81),.faddr 0 (.t 12),(some (77,true))⟩,⟨(some 82),.load false 1 (.t 81),(some (77,true))⟩,⟨(some 83),.faddr 0 (.t 16),(some (77,true))⟩,⟨(some 84),.load false 1 (.t 83),(some (77,true))⟩,⟨(some 85),.faddr 1 (.t 16),(some (77,true))⟩,⟨(some 86),.load false 1 (.t 85),(some (77,true))⟩,⟨(some 87),.build [(.val (.int .i64 0)),(.val (.int .i64 0))] [(0,1,(.t 84)),(1,1,(.t 86))],(some (77,true))⟩,⟨(some 88),.faddr 2 (.t 16),(some (77,true))⟩,⟨(some 89),.load false 1 (.t 88),(some (77,true))⟩,⟨(some 90),.call (.c (.func 94 [])) [(.t 78),(.t 80),(.t 82),(.t 87),(.t 89)],(some (77,true))⟩,⟨(some 91),.pick (.t 77) (.t 90) (.c (.val (.bool false))),none⟩,⟨(some 17),.move (.t 91),none⟩]
def HZ:AC:=.reg [⟨(some 92),.move (.t 17),none⟩,⟨(some 93),.move (.t 92),none⟩,⟨(some 94),.move (.t 6),(some (93,true))⟩,⟨(some 95),.faddr 0 (.t 16),(some (93,true))⟩,⟨(some 96),.load false 1 (.t 95),(some (93,true))⟩,⟨(some 97),.faddr 0 (.t 12),(some (93,true))⟩,⟨(some 98),.load false 1 (.t 97),(some (93,true))⟩,⟨(some 99),.load true 2 (.t 8),(some (93,true))⟩,⟨(some 100),.move (.t 9),(some (93,true))⟩,⟨(some 101),.call (.c (.func 94 [])) [(.t 94),(.t 96),(.t 98),(.t 99),(.t 100)],(some (93,true))⟩,⟨(some 102),.pick (.t 93) (.t 101) (.c (.val (.bool false))),none⟩,⟨(some 103),.move (.t 102),none⟩,⟨(some 104),.move (.t 6),(some (103,true))⟩,⟨(some 105),.faddr 1 (.t 16),(some (103,true))⟩,⟨(some 106),.load false 1 (.t 105),(some (103,true))⟩,⟨(some 107),.faddr 0 (.t 12),(some (103,true))⟩,⟨(some 108),.load false 1 (.t 107),(some (103,true))⟩,⟨(some 109),.load true 2 (.t 8),(some (103,true))⟩,⟨(some 110),.move (.t 9),(some (103,true))⟩,⟨(some 111),.call (.c (.func 94 [])) [(.t 104),(.t 106),(.t 108),(.t 109),(.t 110)],(some (103,true))⟩,⟨(some 112),.pick (.t 103) (.t 111) (.c (.val (.bool false))),none⟩,⟨(some 113),.move (.t 112),none⟩,⟨(some 114),.move (.t 5),(some (113,true))⟩,⟨(some 115),.faddr 0 (.t 16),(some (113,true))⟩,⟨(some 116),.load false 1 (.t 115),(some (113,true))⟩,⟨(some 117),.mget none ((.sl 0 [] true)) false (.t 114) (.t 116),(some (113,true))⟩,⟨(some 118),.faddr 1 (.t 16),(some (113,true))⟩,⟨(some 119),.load false 1 (.t 118),(some (113,true))⟩,⟨(some 120),.call (.c (.func 69 [])) [(.t 117),(.t 119)],(some (113,true))⟩,⟨(some 121),.un .not (.t 120),(some (113,true))⟩,⟨(some 122),.pick (.t 113) (.t 121) (.c (.val (.bool false))),none⟩]
def Av:AC:=.dreg [⟨(some 123),.move (.t 5),none⟩,⟨(some 124),.faddr 0 (.t 16),none⟩,⟨(some 125),.load false 1 (.t 124),none⟩,⟨(some 126),.move (.t 5),none⟩,⟨(some 127),.faddr 0 (.t 16),none⟩,⟨(some 128),.load false 1 (.t 127),none⟩,⟨(some 129),.mget none ((.sl 0 [] true)) false (.t 126) (.t 128),none⟩,⟨(some 130),.faddr 1 (.t 16),none⟩,⟨(some 131),.load false 1 (.t 130),none⟩,⟨(some 132),.lit 1 1 (.val (.int .i64 0)) [(0,(.t 131))],none⟩,⟨(some 133),.append 1 8 (.t 129) (.t 132),none⟩,⟨none,.mset none (.t 123) (.t 125) (.t 133),none⟩] [(2,5),(2,6),(2,8),(5,8),(6,8),(2,9),(5,9),(6,9),(2,10)]
def HY:AC:=.seq Oo (.seq HZ (.cond (.t 122) Av .skip))
abbrev Rq(t:Tpl):AV:=.mp (some 2) ((dc t).map λp=>pO p.1) ((dc t).map λp=>AV.int p.2)
structure BeB (t:Tpl) (ds:List Hop) (s:S3) (M:Rws):Prop where
  nx:112≤s.nx
  t1:s.tm 1=.sl 2 (ds.map Hop.v) false
  t2:s.tm 2=.ref 0 0
  h0:s.hp 0=some (.box (Tpl.v t))
  t5:s.tm 5=.mref 32
  t6:s.tm 6=Rq t
  fam:∃ns,Fam s.hp s.nx 32 ns M
structure Kp (R:Nat→Prop) (s s':S3):Prop where
  nx:s.nx≤s'.nx
  tm:∀r,R r→s'.tm r=s.tm r
  hp:∀b x,b<s.nx→s.hp b=some (.box x)→s'.hp b=some (.box x)
def beQ(t:Tpl)(h:Hop)(c d x y w:Int)(M:Rws):Bool:=(x != h.a) && (jU (dc t) x d ⟨x,y⟩ w && (jU (dc t) x d h c && (jU (dc t) y d h c && !(decide (y∈av M x [])))))
def beI(t:Tpl)(h:Hop)(c d:Int)(M:Rws)(s:Int×Int×Int):Rws:=if beQ t h c d s.1 s.2.1 s.2.2 M=true then pu M s.1 s.2.1 else M
def beR(r:Nat):Prop:=r<17∨17<r∧r<72
theorem HX(t:Tpl)(ds:List Hop)(h:Hop)(c d x y w:Int)(fl:AV)(s:S3)(M:Rws)(bh bd bs:Nat)(hB:BeB t ds s M)(g8:s.tm 8=.ref bh 0)(g9:s.tm 9=.int c)(g12:s.tm 12=.ref bd 0)(g16:s.tm 16=.ref bs 0)
  (hh:s.hp bh=some (.box (.agg [.int h.a,.int h.b]))) (hd:s.hp bd=some (.box (.agg [.int d,fl]))) (hs:s.hp bs=some (.box (.agg [.int x,.int y,.int w]))) (hbs:bs<s.nx) (hl:(av M x []).length≤1000000) (k:Nat) (Q:X→S3→Prop)
  (hQ:∀s',Kp beR s s'→BeB t ds s' (beI t h c d M (x,y,w))→Q .normal s'):AWP Tryz.prog 0 k HY Q s:=by
 obtain⟨tm,hp,nx⟩:=s;obtain⟨n1,t1,t2,h0,t5,t6,ns,hF⟩:=hB;simp only at n1 t1 t2 h0 t5 t6 hF g8 g9 g12 g16 hh hd hs hbs;unfold HY Oo HZ Av;have hR:∀{r:Nat} {tm':Nat→AV},(∀r,beR r→tm' r=tm r)→beR r→tm' r=tm r:=λh1 h2=>h1 _ h2;refine AWP.seq' ?_
 suffices HB:∀tm' nx',nx≤nx'→(∀r,beR r→tm' r=tm r)→tm' 17=.bool ((x != h.a) && jU (dc t) x d ⟨x,y⟩ w)→AWP Tryz.prog 0 k (.seq HZ (.cond (.t 122) Av .skip)) Q ⟨tm',hp,nx'⟩ by
  cases e1:(x != h.a)with
  | false =>
   rw[e1]at HB;refine AWP.reg' λK hK=>?_
   try simp only[ak,seval,g16,g8,hs,hh,e1]
   refine hK _ _ _ ?_;clear hK K;exact HB _ _ (by omega) (λr hr=>by unfold beR at hr;simp only[ag];repeat rw[F' (by omega)]) rfl
  | true =>
   rw[e1]at HB;refine AWP.reg' λK hK=>?_
   try simp only[ak,seval,g16,g8,hs,hh,e1,g12,hd,t6]
   refine dq ((cP (dc t) x d ⟨x,y⟩ w).ok) (cP (dc t) x d ⟨x,y⟩ w).fn rfl (by rfl) (by repeat' (first|exact trivial|assumption|refine E' ?_ ?_)) ?_
   try simp only[ak,seval]
   refine hK _ _ _ ?_;clear hK K;exact HB _ _ (by omega) (λr hr=>by unfold beR at hr;simp only[ag];repeat rw[F' (by omega)]) rfl
 clear hR;intro tm1 nx1 hnx1 hR1 h17;have g6':tm1 6=Rq t:=(hR1 6 (.inl (by omega))).trans t6;have g8':tm1 8=.ref bh 0:=(hR1 8 (.inl (by omega))).trans g8;have g9':tm1 9=.int c:=(hR1 9 (.inl (by omega))).trans g9;have g12':tm1 12=.ref bd 0:=(hR1 12 (.inl (by omega))).trans g12;have g16':tm1 16=.ref bs 0:=(hR1 16 (.inl (by omega))).trans g16;have g5':tm1 5=.mref 32:=(hR1 5 (.inl (by omega))).trans t5;refine AWP.seq' ?_
 suffices HC:∀tm' nx',nx≤nx'→(∀r,beR r→tm' r=tm r)→tm' 122=.bool (beQ t h c d x y w M)→AWP Tryz.prog 0 k (.cond (.t 122) Av .skip) Q ⟨tm',hp,nx'⟩ by
  have fin:∀{tm':Nat→AV},(∀r,beR r→tm' r=tm1 r)→∀r,beR r→tm' r=tm r:=λh r hr=>(h r hr).trans (hR1 r hr);unfold beQ at HC;cases e1:((x != h.a) && jU (dc t) x d ⟨x,y⟩ w)with
  | false =>
   rw[e1]at h17;rw[←Bool.and_assoc,e1,cy']at HC;refine AWP.reg' λK hK=>?_
   try simp only[ak,seval,h17]
   refine hK _ _ _ ?_;clear hK K;exact HC _ _ (by omega) (fin λr hr=>by unfold beR at hr;simp only[ag];repeat rw[F' (by omega)]) rfl
  | true =>
   rw[e1]at h17;rw[←Bool.and_assoc,e1,bQ']at HC;cases e2:jU (dc t) x d h c with
   | false =>
    have p2:cm Tryz.prog (cP (dc t) x d h c).f (cP (dc t) x d h c).args (.bool false):=by rw[←e2];exact(cP (dc t) x d h c).ok
    rw[e2,cy']at HC;refine AWP.reg' λK hK=>?_
    try simp only[ak,seval,h17,g6',g16',hs,g12',hd,g8',hh,g9']
    refine dq (p2) (cP (dc t) x d h c).fn rfl (by rfl) (by repeat' (first|exact trivial|assumption|refine E' ?_ ?_)) ?_
    try simp only[ak,seval]
    refine hK _ _ _ ?_;clear hK K;exact HC _ _ (by omega) (fin λr hr=>by unfold beR at hr;simp only[ag];repeat rw[F' (by omega)]) rfl
   | true =>
    have p2:cm Tryz.prog (cP (dc t) x d h c).f (cP (dc t) x d h c).args (.bool true):=by rw[←e2];exact(cP (dc t) x d h c).ok
    rw[e2,bQ']at HC;cases e3:jU (dc t) y d h c with
    | false =>
     have p3:cm Tryz.prog (cP (dc t) y d h c).f (cP (dc t) y d h c).args (.bool false):=by rw[←e3];exact(cP (dc t) y d h c).ok
     rw[e3,cy']at HC;refine AWP.reg' λK hK=>?_
     try simp only[ak,seval,h17,g6',g16',hs,g12',hd,g8',hh,g9']
     refine dq (p2) (cP (dc t) x d h c).fn rfl (by rfl) (by repeat' (first|exact trivial|assumption|refine E' ?_ ?_)) ?_
     try simp only[ak,seval,g6',g16',hs,g12',hd,g8',hh,g9']
     refine dq (p3) (cP (dc t) y d h c).fn rfl (by rfl) (by repeat' (first|exact trivial|assumption|refine E' ?_ ?_)) ?_
     try simp only[ak,seval]
     refine hK _ _ _ ?_;clear hK K;exact HC _ _ (by omega) (fin λr hr=>by unfold beR at hr;simp only[ag];repeat rw[F' (by omega)]) rfl
    | true =>
     have p3:cm Tryz.prog (cP (dc t) y d h c).f (cP (dc t) y d h c).args (.bool true):=by rw[←e3];exact(cP (dc t) y d h c).ok
     rw[e3,bQ']at HC;cases e4:aY M x with
     | false =>
      have q1:=λz v kk=>(hF.no e4 z v kk).1;rw[dj e4]at HC;refine AWP.reg' λK hK=>?_
      try simp only[ak,seval,h17,g6',g16',hs,g12',hd,g8',hh,g9']
      refine dq (p2) (cP (dc t) x d h c).fn rfl (by rfl) (by repeat' (first|exact trivial|assumption|refine E' ?_ ?_)) ?_
      try simp only[ak,seval,g6',g16',hs,g12',hd,g8',hh,g9']
      refine dq (p3) (cP (dc t) y d h c).fn rfl (by rfl) (by repeat' (first|exact trivial|assumption|refine E' ?_ ?_)) ?_
      try simp only[ak,seval,g5',g16',hs,hF.hm,bA,dR,AV.key,MK.fits,q1 _ .unk none,and_self,true_and]
      have p4:cm Tryz.prog (fV [] y).f [.sl 0 [] true,.int y] (.bool false):=cm.sub (show cm _ _ [.sl 1 [] false,.int y] (.bool false)from(fV [] y).ok) ⟨Sub.nil,Sub.refl,trivial⟩ Sub.refl;refine dq (p4) (fV [] y).fn rfl (by rfl) (by repeat' (first|exact trivial|assumption|refine E' ?_ ?_)) ?_
      try simp only[ak,seval]
      refine hK _ _ _ ?_;clear hK K;exact HC _ _ (by omega) (fin λr hr=>by unfold beR at hr;simp only[ag];repeat rw[F' (by omega)]) rfl
     | true =>
      obtain⟨i0,b0,y1,y2,y3,y4,y5,y6⟩:=hF.yes e4;refine AWP.reg' λK hK=>?_
      try simp only[ak,seval,h17,g6',g16',hs,g12',hd,g8',hh,g9']
      refine dq (p2) (cP (dc t) x d h c).fn rfl (by rfl) (by repeat' (first|exact trivial|assumption|refine E' ?_ ?_)) ?_
      try simp only[ak,seval,g6',g16',hs,g12',hd,g8',hh,g9']
      refine dq (p3) (cP (dc t) y d h c).fn rfl (by rfl) (by repeat' (first|exact trivial|assumption|refine E' ?_ ?_)) ?_
      try simp only[ak,seval,g5',g16',hs,hF.hm,bA,dR,AV.key,MK.fits,y5,and_self,true_and]
      refine uq [b0] (show cm Tryz.prog (fV (av M x []) y).f [.sl 1 ((av M x []).map AV.int) false,.int y] (.bool (decide (y∈av M x [])))from(fV (av M x []) y).ok) (fV (av M x []) y).fn rfl rfl ⟨dO.vec (by simp) y4 (aB (ah (λ_=>rfl) _)),dO.pure trivial,trivial⟩ trivial ?_
      try simp only[ak,seval]
      refine hK _ _ _ ?_;clear hK K;exact HC _ _ (by omega) (fin λr hr=>by unfold beR at hr;simp only[ag];repeat rw[F' (by omega)]) rfl
 clear hR1 h17 g6' g8' g9' g12' g16' g5' hnx1 tm1 nx1;intro tm1 nx1 hnx1 hR1 h122;have g16':tm1 16=.ref bs 0:=(hR1 16 (.inl (by omega))).trans g16;have g5':tm1 5=.mref 32:=(hR1 5 (.inl (by omega))).trans t5
 have hB0:∀(tm':Nat→AV) (hp':Hp) (nx':Nat) (M':Rws),112≤nx'→(∀r,beR r→tm' r=tm r)→hp' 0=hp 0→(∃ns,Fam hp' nx' 32 ns M')→BeB t ds ⟨tm',hp',nx'⟩ M':=λtm' hp' nx' M' hn hr h0' hf =>
  ⟨hn,(hr 1 (.inl (by omega))).trans t1,(hr 2 (.inl (by omega))).trans t2,h0'.trans h0,(hr 5 (.inl (by omega))).trans t5,(hr 6 (.inl (by omega))).trans t6,hf⟩
 refine AWP.cond (b:=beQ t h c d x y w M) h122 (λhq=>?_) (λhq=>?_)
 case refine_2 =>
  refine AWP.skip (hQ _ ⟨hnx1,λr hr=>hR1 r hr,λb z hb hz=>hz⟩ ?_);unfold beI;rw[F' (by simp[hq])];exact hB0 _ _ _ _ (by omega) hR1 rfl ⟨ns,hF.keep (λ_ _ _=>rfl) hnx1⟩
 have hI:beI t h c d M (x,y,w)=pu M x y:=by unfold beI;rw[G' hq]
 rw[hI]at hQ;obtain⟨f32a,f32b,f32c,f32d⟩:=nxF (show 32<nx1 by omega);obtain⟨fsa,fsb,fsc,fsd⟩:=nxF (show bs<nx1 by omega);have hml:=bv;have hbs32:(bs=32)=False:=by simp;rintro rfl;rw[hF.hm]at hs;cases hs
 have hbs32':(32=bs)=False:=by simp;rintro rfl;rw[hF.hm]at hs;cases hs
 cases e4:aY M x with
 | false =>
  have q1:=λz v kk=>(hF.no e4 z v kk).1;have q2:=λz v kk=>(hF.no e4 z v kk).2;refine AWP.dreg' λK hK=>?_
  try simp only[ak,seval,g5',g16',hs,hF.hm,bA,bL,dR,AV.key,MK.fits,q1 _ .unk none,and_self,true_and]
  refine iE ?_
  try simp only[ak,seval,g5',g16',hs,hF.hm,bA,bL,dR,AV.key,MK.fits,and_self,true_and,bp,eC,f32a,f32b,f32c,f32d,bb']
  refine⟨by decide,?_⟩
  refine⟨?_,hK _ _ _ (hQ _ ⟨by dsimp only;omega,λr hr=>?_,λb z hb hz=>?_⟩ (hB0 _ _ _ _ (by omega) (λr hr=>?_) ?_ ⟨ns++[nx1+160],hF.put_no e4 (f:=nx1+160) (by omega) (by omega) ?_ ?_ λb hb hne=>?_⟩))⟩
  ·simp[iO,pj,bK,AOp.opers,aR,evO,ag,fsa,fsb,f32a,f32b,hbs32,hbs32']
  ·have hr':=hr;unfold beR at hr';simp only[ag];repeat rw[F' (by omega)]
   exact hR1 r hr
  ·have hb1:b<nx:=hb;have hz1:hp b=some (.box z):=hz;have e32:b≠32:=λc=>by subst c;rw[hF.hm]at hz1;cases hz1
   simp only[ag,F' e32];rw[F' (by omega)];exact hz1
  ·have hr':=hr;unfold beR at hr';simp only[ag];repeat rw[F' (by omega)]
   exact hR1 r hr
  ·simp only[ag];rw[F' (by omega),F' (by omega),F' (by omega)]
  ·simp only[ag,↓reduceIte];exact congrArg some (q2 (.sl 0 [] true) _ none)
  ·simp only[ag,f32b,↓reduceIte]
  ·simp only[ag,F' hne];rw[F' (by omega)]
 | true =>
  obtain⟨i0,b0,y1,y2,y3,y4,y5,y6⟩:=hF.yes e4;have hb0:=hF.lt b0 (O' y1);obtain⟨b0a,b0b,_,_⟩:=nxF (show b0<nx1 by omega);have hb32:(32=b0)=False:=by simp;rintro rfl;exact hF.bm_no (O' y1)
  have hb32':(b0=32)=False:=by simp;rintro rfl;exact hF.bm_no (O' y1)
  have hbs0:(bs=b0)=False:=by simp;rintro rfl;rw[hs]at y4;cases y4
  have hbs0':(b0=bs)=False:=by simp;rintro rfl;rw[hs]at y4;cases y4
  refine AWP.dreg' λK hK=>?_
  try simp only[ak,seval,g5',g16',hs,hF.hm,bA,bL,dR,AV.key,MK.fits,y5,and_self,true_and]
  refine iE ?_
  try simp only[ak,seval,g5',g16',hs,hF.hm,bA,bL,dR,AV.key,MK.fits,and_self,true_and,bp,eC,y4,f32a,f32b,f32c,f32d,hb32,hb32',bb',B']
  refine⟨⟨by omega,by omega⟩,?_⟩
  refine⟨?_,hK _ _ _ (hQ _ ⟨by dsimp only;omega,λr hr=>?_,λb z hb hz=>?_⟩ (hB0 _ _ _ _ (by omega) (λr hr=>?_) ?_ ⟨ns.set i0 (nx1+160),hF.put_yes e4 y1 y2 y3 (f:=nx1+160) (by omega) (by omega) ?_ ?_ λb hb hne hnb=>?_⟩))⟩
  ·simp[iO,pj,bK,AOp.opers,aR,evO,ag,fsa,fsb,f32a,f32b,hbs32,hbs32',hbs0,hbs0',hb32,hb32']
  ·have hr':=hr;unfold beR at hr';simp only[ag];repeat rw[F' (by omega)]
   exact hR1 r hr
  ·have hb1:b<nx:=hb;have hz1:hp b=some (.box z):=hz;have e32:b≠32:=λc=>by subst c;rw[hF.hm]at hz1;cases hz1
   have eb0:b≠b0:=λc=>by subst c;rw[y4]at hz1;cases hz1
   simp only[ag,F' e32,F' eb0];rw[F' (by omega)];exact hz1
  ·have hr':=hr;unfold beR at hr';simp only[ag];repeat rw[F' (by omega)]
   exact hR1 r hr
  ·have hb00:(0=b0)=False:=by simp;rintro rfl;rw[h0]at y4;cases y4
   simp only[ag,hb00];rw[F' (by omega),F' (by omega),F' (by omega)];rfl
  ·simp only[ag,↓reduceIte];exact congrArg some (y6 none _)
  ·simp only[ag,f32b,↓reduceIte]
  ·simp only[ag,F' hne,F' hnb];rw[F' (by omega)]
def Ib:AC:=.seq (.reg [⟨(some 52),.faddr 0 (.t 14),none⟩,⟨(some 53),.load false 1 (.t 52),none⟩,⟨(some 54),.faddr 1 (.t 14),none⟩,⟨(some 55),.load false 1 (.t 54),none⟩,⟨(some 56),.faddr 2 (.t 14),none⟩,⟨(some 57),.load false 1 (.t 56),none⟩,⟨(some 58),.build [(.val (.int .i64 0)),(.val (.int .i64 0)),(.val (.int .i64 0))] [(0,1,(.t 53)),(1,1,(.t 55)),(2,1,(.t 57))],none⟩,⟨(some 59),.faddr 1 (.t 14),none⟩,⟨(some 60),.load false 1 (.t 59),none⟩,⟨(some 61),.faddr 0 (.t 14),none⟩,⟨(some 62),.load false 1 (.t 61),none⟩,⟨(some 63),.faddr 3 (.t 14),none⟩,⟨(some 64),.load false 1 (.t 63),none⟩,⟨(some 65),.build [(.val (.int .i64 0)),(.val (.int .i64 0)),(.val (.int .i64 0))] [(0,1,(.t 60)),(1,1,(.t 62)),(2,1,(.t 64))],none⟩,⟨(some 66),.lit 3 2 (.agg [(.val (.int .i64 0)),(.val (.int .i64 0)),(.val (.int .i64 0))]) [(0,(.t 58)),(1,(.t 65))],none⟩,⟨(some 67),.len (.t 66),none⟩,⟨(some 68),.move (.c (.val (.int .i64 0))),none⟩])
 (.block 6 (.loop (.seq (.reg [⟨(some 69),.bin .lss (.t 68) (.t 67),none⟩])
 (.seq (.cond (.t 69) (.skip) (.exit 6))
 (.seq (.block 7 (.seq (.reg [⟨(some 70),.iaddr 3 (.t 66) (.t 68),none⟩,⟨(some 71),.load true 3 (.t 70),none⟩,⟨(some 16),.box (.c (.agg [(.val (.int .i64 0)),(.val (.int .i64 0)),(.val (.int .i64 0))])),none⟩,⟨none,.store 3 (.t 16) (.t 71),none⟩])
 HY))
 (.reg [⟨(some 134),.bin .add (.t 68) (.c (.val (.int .i64 1))),none⟩,⟨(some 68),.move (.t 134),none⟩]))))))
def Id:AC:=.seq (.reg [⟨(some 45),.faddr 1 (.t 2),none⟩,⟨(some 46),.load false 1 (.t 45),none⟩,⟨(some 47),.len (.t 46),none⟩,⟨(some 48),.move (.c (.val (.int .i64 0))),none⟩])
 (.block 4 (.loop (.seq (.reg [⟨(some 49),.bin .lss (.t 48) (.t 47),none⟩])
 (.seq (.cond (.t 49) (.skip) (.exit 4))
 (.seq (.block 5 (.seq (.reg [⟨(some 50),.iaddr 5 (.t 46) (.t 48),none⟩,⟨(some 51),.load true 5 (.t 50),none⟩,⟨(some 14),.box (.c (.agg [(.val (.int .i64 0)),(.val (.int .i64 0)),(.val (.int .i64 0)),(.val (.int .i64 0)),(.val (.int .i64 0))])),none⟩,⟨none,.store 5 (.t 14) (.t 51),none⟩])
 Ib))
 (.reg [⟨(some 135),.bin .add (.t 48) (.c (.val (.int .i64 1))),none⟩,⟨(some 48),.move (.t 135),none⟩]))))))
def If:AC:=.seq (.reg [⟨(some 38),.faddr 0 (.t 2),none⟩,⟨(some 39),.load false 1 (.t 38),none⟩,⟨(some 40),.len (.t 39),none⟩,⟨(some 41),.move (.c (.val (.int .i64 0))),none⟩])
 (.block 2 (.loop (.seq (.reg [⟨(some 42),.bin .lss (.t 41) (.t 40),none⟩])
 (.seq (.cond (.t 42) (.skip) (.exit 2))
 (.seq (.block 3 (.seq (.reg [⟨(some 43),.iaddr 2 (.t 39) (.t 41),none⟩,⟨(some 44),.load true 2 (.t 43),none⟩,⟨(some 12),.box (.c (.agg [(.val (.int .i64 0)),(.val (.bool false))])),none⟩,⟨none,.store 2 (.t 12) (.t 44),none⟩])
 Id))
 (.reg [⟨(some 136),.bin .add (.t 41) (.c (.val (.int .i64 1))),none⟩,⟨(some 41),.move (.t 136),none⟩]))))))
def lst(l:Lnk):List (Int×Int×Int):=[(l.a,l.b,l.ca),(l.b,l.a,l.cb)]
def be2(t:Tpl)(h:Hop)(c d:Int)(M:Rws)(l:Lnk):Rws:=(lst l).foldl (beI t h c d) M
def be3(t:Tpl)(h:Hop)(c:Int)(M:Rws)(d:Rtr):Rws:=t.ls.foldl (be2 t h c d.id) M
structure gP (t:Tpl) (M:Rws):Prop where
  nd:∀p∈M,p.2.Nodup
  el:∀p∈M,∀y∈p.2,az t y=true
  ky:∀p∈M,az t p.1=true
theorem ud{t:Tpl}{y:Int}:az t y=true↔y∈t.rs.map (·.id):=by
 unfold az;rw[ac',Y']
 constructor
 ·rintro⟨r,hr,e⟩;exact⟨r,hr,eq_of_beq e⟩
 ·rintro⟨r,hr,rfl⟩;exact⟨r,hr,beq_self_eq_true _⟩
theorem gP.pu{t:Tpl}{M:Rws}(h:gP t M){x y:Int}(hx:az t x=true)(hy:az t y=true)(hn:y ∉ av M x []):gP t (pu M x y):=by
 have hv:(av M x []).Nodup∧∀z∈av M x [],az t z=true:=by
  cases e:aY M x with
  | false=>rw[dj e];exact⟨bn',λz hz=>by simp at hz⟩
  | true=>exact⟨h.nd _ (bU e),h.el _ (bU e)⟩
 have key:∀p∈Go.Proofs.YtdoacjojljgdcaaGreat.pu M x y,p∈M∨p=(x,av M x []++[y]):=λp hp=>by
  unfold Go.Proofs.YtdoacjojljgdcaaGreat.pu at hp;cases e:aY M x with
  | false =>
   rw[rq e]at hp
   rcases X'.mp hp with hp|hp
   ·exact .inl hp
   ·exact .inr (L'.mp hp)
  | true=>rw[o5 e]at hp;exact aC' hp
 refine⟨λp hp=>?_,λp hp z hz=>?_,λp hp=>?_⟩
 ·rcases key p hp with hp|rfl
  ·exact h.nd p hp
  ·exact ba'.mpr ⟨hv.1,by simp,λa ha b hb=>by rw[L'.mp hb];rintro rfl;exact hn ha⟩
 ·rcases key p hp with hp|rfl
  ·exact h.el p hp z hz
  ·rcases X'.mp hz with hz|hz
   ·exact hv.2 z hz
   ·rw[L'.mp hz];exact hy
 ·rcases key p hp with hp|rfl
  ·exact h.ky p hp
  ·exact hx
theorem gP.len{t:Tpl}{M:Rws}(h:gP t M)(hc:ay t=0):∀p∈M,p.2.length≤24:=λp hp=>by
 have:=List.Nodup.length_le_of_subset (h.nd p hp) (show p.2 ⊆ t.rs.map (·.id)from λy hy=>ud.mp (h.el p hp y hy));rw[B']at this;have:=(cg hc).1;omega
theorem gP.val{t:Tpl}{M:Rws}(h:gP t M)(hc:ay t=0)(x:Int):(av M x []).length≤24:=by
 cases e:aY M x with
 | false=>rw[dj e];simp
 | true=>exact h.len hc _ (bU e)
theorem gP.beI{t:Tpl}{M:Rws}(h:gP t M){hp:Hop}{c d:Int}{s:Int×Int×Int}(hx:az t s.1=true)(hy:az t s.2.1=true):gP t (beI t hp c d M s):=by
 unfold Go.Proofs.YtdoacjojljgdcaaGreat.beI
 split
 ·rename_i e;refine h.pu hx hy ?_;unfold beQ at e;simp only[R',bk',decide_eq_false_iff_not]at e;exact e.2.2.2.2
 ·exact h
theorem BeB.keep{t:Tpl}{ds:List Hop}{s s':S3}{M:Rws}(h:BeB t ds s M)(hn:s.nx≤s'.nx)(ht:∀r,r<7→s'.tm r=s.tm r)(hh:∀b,b<s.nx→s'.hp b=s.hp b):BeB t ds s' M:=by
 obtain⟨n1,t1,t2,h0,t5,t6,ns,hF⟩:=h;exact⟨by omega,(ht 1 (by omega)).trans t1,(ht 2 (by omega)).trans t2,(hh 0 (by omega)).trans h0,(ht 5 (by omega)).trans t5,(ht 6 (by omega)).trans t6,ns,hF.keep (λb hb _=>hh b hb) hn⟩
theorem eY{α β:Type}(f:β→α→β)(b:β){l:List α}{k:Nat}{x:α}(h:l[k]?=some x):(l.take (k+1)).foldl f b=f ((l.take k).foldl f b) x:=by rw[aP h,aZ'];rfl
def r4(r:Nat):Prop:=r<16∨18≤r∧r<52
def r3(r:Nat):Prop:=r<14∨18≤r∧r<45
def r2(r:Nat):Prop:=r<12∨18≤r∧r<38
theorem Ia(t:Tpl)(hc:ay t=0)(ds:List Hop)(h:Hop)(c d:Int)(fl:AV)(l:Lnk)(hlm:l∈t.ls)(s:S3)(M:Rws)(hI:gP t M)(bh bd bl:Nat)(hB:BeB t ds s M)(g8:s.tm 8=.ref bh 0)(g9:s.tm 9=.int c)(g12:s.tm 12=.ref bd 0)(g14:s.tm 14=.ref bl 0)
  (hh:s.hp bh=some (.box (.agg [.int h.a,.int h.b]))) (hd:s.hp bd=some (.box (.agg [.int d,fl]))) (hl:s.hp bl=some (.box (Lnk.v l))) (b1:bh<s.nx) (b2:bd<s.nx) (b3:bl<s.nx) (k:Nat) (Q:X→S3→Prop)
  (hQ:∀s',Kp r4 s s'→BeB t ds s' (be2 t h c d M l)→gP t (be2 t h c d M l)→Q .normal s'):AWP Tryz.prog 0 k Ib Q s:=by
 obtain⟨hla,hlb⟩:=(ax hc).has l hlm;have hmem:∀z∈lst l,az t z.1=true∧az t z.2.1=true:=λz hz=>by
  unfold lst at hz;simp only[ad',aw',or_false]at hz
  rcases hz with rfl|rfl
  ·exact⟨hla,hlb⟩
  ·exact⟨hlb,hla⟩
 obtain⟨tm,hp,nx⟩:=s;simp only at g8 g9 g12 g14 hh hd hl b1 b2 b3;unfold Ib;refine AWP.seq' ?_;refine AWP.reg' λK hK=>?_
 try simp only[ak,seval,g14,hl,Lnk.v]
 refine sg ?_
 try simp only[ak,seval,g14,hl,Lnk.v]
 refine hK _ _ _ ?_;clear hK K;refine AWP.block ?_
 refine AWP.loopS (λu:S3×Nat=>u.1) (λu=>(u.2≤2∧gP t (((lst l).take u.2).foldl (beI t h c d) M))∧Kp r4 ⟨tm,hp,nx⟩ u.1∧BeB t ds u.1 (((lst l).take u.2).foldl (beI t h c d) M) ∧
  u.1.tm 66=.sl 3 ((lst l).map λz=>AV.agg [.int z.1,.int z.2.1,.int z.2.2]) true∧u.1.tm 67=.int 2∧u.1.tm 68=.int (u.2:Nat)) (λu=>2-u.2) (i0:=(_,0)) ?_ au.refl ?_
 ·refine⟨⟨aG' _,hI⟩,⟨by dsimp only;omega,λr hr=>?_,λb x _ hx=>hx⟩,hB.keep (by dsimp only;omega) (λr hr=>?_) (λ_ _=>rfl),rfl,rfl,rfl⟩
  ·unfold r4 at hr;simp only[ag];repeat rw[F' (by omega)]
  ·simp only[ag];repeat rw[F' (by omega)]
 ·rintro⟨⟨tm1,hp1,nx1⟩,z⟩ ⟨⟨hz,hI1⟩,hK1,hB1,t66,t67,t68⟩;simp only at hz hI1 t66 t67 t68 ⊢;refine AWP.seq' ?_;refine AWP.reg' λK hK=>?_
  try simp only[ak,seval,t67,t68]
  refine hK _ _ _ ?_;clear hK K;refine AWP.seq' ?_
  refine AWP.cond (b:=decide ((z:Int)<2)) rfl (λe=>?_) (λe=>?_)
  ·have e:z<2:=by have:=H' e;omega
   refine AWP.skip ?_;refine AWP.seq' (AWP.block (AWP.seq' ?_));have hzl:z<(lst l).length:=e;have hy:(lst l)[z]?=some (lst l)[z]:=u' hzl;generalize (lst l)[z]=sz at hy;obtain⟨x,y,w⟩:=sz;obtain⟨hx5,hy5⟩:=hmem _ (O' hy);have hge:((lst l).map λz=>AV.agg [.int z.1,.int z.2.1,.int z.2.2]).getD z .unk=.agg [.int x,.int y,.int w]:=by rw[I',J',hy];rfl
   have hll:(lst l).length=2:=rfl;have k8:=(hK1.tm 8 (.inl (by omega))).trans g8;have k9:=(hK1.tm 9 (.inl (by omega))).trans g9;have k12:=(hK1.tm 12 (.inl (by omega))).trans g12;have kh:=hK1.hp _ _ b1 hh;have kd:=hK1.hp _ _ b2 hd;have kn:nx≤nx1:=hK1.nx;simp only at k8 k9 k12 kh kd;refine AWP.reg' λK hK=>?_
   try simp only[ak,seval,t66,t68,hge,hll,Int.toNat_natCast,B']
   refine⟨⟨by omega,by omega⟩,?_⟩;refine hK _ _ _ ?_;clear hK K;have hpl:∀(v1 v2 v3:Option Blk) b,b<nx1→upd (upd (upd hp1 (nx1+16+16+16) v1) (nx1+16+16+16) v2) (nx1+16+16+16) v3 b=hp1 b:=λv1 v2 v3 b hb=>by
    simp only[ag];repeat rw[F' (by omega)]
   refine HX t ds h c d x y w fl _ (((lst l).take z).foldl (beI t h c d) M) bh bd (nx1+16+16+16) (hB1.keep (by dsimp only;omega) (λr hr=>?_) (λb hb=>hpl _ _ _ b hb)) ?_ ?_ ?_ rfl ?_ ?_ (ai _ _ _) (by dsimp only;omega) (by have:=hI1.val hc x;omega) k _ (λs' hk hb=>?_)
   ·simp only[ag];repeat rw[F' (by omega)]
   ·simp only[ag];exact k8
   ·simp only[ag];exact k9
   ·simp only[ag];exact k12
   ·dsimp only;rw[hpl _ _ _ _ (by omega)];exact kh
   ·dsimp only;rw[hpl _ _ _ _ (by omega)];exact kd
   ·obtain⟨tm2,hp2,nx2⟩:=s';refine(show AWP _ _ _ _ _ _ from ?_);have q66:tm2 66=_:=(hk.tm 66 (.inr ⟨by omega,by omega⟩)).trans t66;have q67:tm2 67=_:=(hk.tm 67 (.inr ⟨by omega,by omega⟩)).trans t67;have q68:tm2 68=_:=(hk.tm 68 (.inr ⟨by omega,by omega⟩)).trans t68;have hw:IntKind.i64.wrap ((z:Int)+1)=((z+1:Nat):Int):=kN (by omega) (by omega);refine AWP.reg' λK hK=>?_
    try simp only[ak,seval,q68,hw]
    refine hK _ _ _ ?_;clear hK K;have hkn:nx1+16+16+16+16+16≤nx2:=hk.nx;have hF1:((lst l).take (z+1)).foldl (beI t h c d) M=beI t h c d (((lst l).take z).foldl (beI t h c d) M) (x,y,w):=eY _ _ hy
    refine⟨(_,z+1),⟨⟨by dsimp only;omega,?_⟩,⟨by dsimp only;omega,λr hr=>?_,λb v hb hv=>?_⟩,?_,?_,?_,?_⟩,by dsimp only;omega,au.refl⟩
    ·dsimp only;rw[hF1];exact hI1.beI hx5 hy5
    ·have hr':=hr;unfold r4 at hr';have e1:=hk.tm r (by unfold beR;omega);have e2:=hK1.tm r hr;dsimp only at e1 e2 ⊢;simp only[ag]at e1 ⊢;rw[F' (by omega),F' (by omega),e1]
     repeat rw[F' (by omega)]
     exact e2
    ·have e2:=hK1.hp b v hb hv;have hb':b<nx:=hb;refine hk.hp b v (by dsimp only;omega) ?_;dsimp only;rw[hpl _ _ _ _ (by omega)];exact e2
    ·dsimp only;rw[hF1];exact hb.keep (by dsimp only;omega) (λr hr=>by simp only[ag];repeat rw[F' (by omega)]) (λ_ _=>rfl)
    ·simp only[ag];exact q66
    ·simp only[ag];exact q67
    ·simp only[ag];rfl
  ·have e:z=2:=by have:=T' e;omega
   subst e;refine AWP.exit ?_;refine(show Q .normal _ from ?_);have hT:(lst l).take 2=lst l:=rfl;rw[hT]at hI1 hB1
   refine hQ _ ⟨?_,λr hr=>?_,λb x hb hx=>hK1.hp b x hb hx⟩ (hB1.keep (by dsimp only;omega) (λr hr=>?_) (λ_ _=>rfl)) hI1
   ·have:=hK1.nx;dsimp only at this ⊢;omega
   ·have e2:=hK1.tm r hr;unfold r4 at hr;dsimp only at e2 ⊢;simp only[ag];rw[F' (by omega)];exact e2
   ·simp only[ag];rw[F' (by omega)]
end Go.Proofs.YtdoacjojljgdcaaGreat
