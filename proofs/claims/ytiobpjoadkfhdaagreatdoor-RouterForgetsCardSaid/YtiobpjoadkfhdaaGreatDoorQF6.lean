/- Texts joined: H1 V4 V5 U3 U4 G11 U2 Mx7. -/
import Derived.Shelf.SlSortCmp.NoneTotal
import Derived.Shelf.SlSortCmp.WholeK
import Derived.Test.YtiobpjoadkfhdaaGreatDoorQF5
set_option linter.unusedVariables false
set_option linter.unusedSimpArgs false
set_option linter.unusedSectionVars false
namespace Go.Proofs.YtiobpjoadkfhdaaGreatDoor
open Go Go.Am
def dS(f:Flt)(s:Int):Bool:=decide (am f.mode f.srcs=0) && (decide (1≤s) && (decide (s∈f.srcs)==decide (f.mode=1)))
def Ge(r:Bool):AV:=.bool r
def yM(f:Flt)(source:Int):Ax Tryz.prog noS (Bool):=
 (.callP (lC f)
(.br 96 ((am f.mode f.srcs)==0) (.br 160 (decide (1≤source)) (.callP (yK f.srcs source)
(.ret ((InI f.srcs source)==(f.mode==1))))
(.ret (false)))
(.ret (false))))
theorem Re(f:Flt)(source:Int):(yM f source).vp Ge (dS f source):=by
 dsimp only[yM,noS,Ax.vp,Ax.vc];simp only[vcU,rfU,f']
 refine⟨λc=>?_,λc=>?_⟩
 ·have c:am f.mode f.srcs=0:=eq_of_beq c
  refine⟨λd=>?_,λd=>?_⟩
  ·rw[dS,decide_eq_true c,decide_eq_true d];rfl
  ·rw[dS,decide_eq_false d];simp
 ·have c:¬am f.mode f.srcs=0:=by simpa using c
  rw[dS,decide_eq_false c];rfl
def Gf(f:Flt)(source:Int):PC Tryz.prog:=pcO 277 [(.a [.k,(.s 1)]),.k] [Flt.v f,.int source] .k Ge (dS f source) (λ_=>⟨(yM f source),Re f source,by kernel_rfl⟩) rfl (by kernel_rfl)
def frs(k:Nat):List Int:=(List.range k).map λ(i:Nat)=>(i:Int)+1
theorem Ke(k:Nat):frs (k+1)=frs k++[(k:Int)+1]:=by unfold frs;rw[List.range_succ,List.map_append];rfl
theorem mg{k:Nat}{s:Int}:s∈frs k↔1≤s∧s≤k:=by
 unfold frs;rw[R']
 constructor
 ·rintro⟨i,hi,rfl⟩;rw[aZ']at hi;omega
 ·intro h;exact⟨(s-1).toNat,aZ'.mpr (by omega),by omega⟩
theorem Dw(k:Nat):(frs k).Pairwise (·<·):=by
 unfold frs;rw[at'];exact List.pairwise_lt_range.imp λh=>by omega
theorem Dv(k:Nat):(frs k).length=k:=by unfold frs;simp
def ofF(w:List Bool)(g:Bool):Flt:=⟨if g=true then 2 else 1,(frs 99).filter λs=>!(w.getD s.toNat false==g)⟩
def RU(want:List Bool)(greater:Bool)(t0:Int):NF:=⟨[rB 1 greater,rR 2 0,rR 4 1,rR 5 2],[.arr (want.map AV.bool) (ae (λ_=>rfl) want),.box (.agg [.int 0,.sl 0 [] true]),.box (.agg [.int t0,.sl 0 [] true])]⟩
def RT(want:List Bool)(greater:Bool)(t0:Int)(t1:Int×List Int):NF:=⟨[rB 1 greater,rR 2 0,rR 4 1,rR 5 2,rI 6 t1.1],[.arr (want.map AV.bool) (ae (λ_=>rfl) want),.box (.agg [.int 0,.sl 0 [] true]),.box (.agg [.int t0,.vec 3]),vB 1 AV.int t1.2 (λ_=>rfl)]⟩
@[reducible] def Q8:Nat→Type
 | 0=>Int
 | 1=>Int×List Int
 | _=>Unit
def Q9(r:Flt):AV:=Flt.v r
def Q7(want:List Bool)(greater:Bool)(I0:Int→Prop)(I1:Int→(Int×List Int)→Prop)(m1:Int→(Int×List Int)→Nat):Ax Tryz.prog Q8 (Flt):=
 (.pass (.pass (.join 0 (RU want greater) (λ(t0:Int)=>I0 t0) (λb0=>(.br 96 greater (.bk 0 b0 ((2):Int) [0,16,48])
(.bk 0 b0 ((1):Int) [0,16,48]))) λ(t0:Int) =>
(.cmdL (.nilB 2 1 1) (.loop 1 (RT want greater t0) (I1 t0) (m1 t0) (1,[]) [0,1,2,19] λ(t1:Int×List Int) b1 =>
(.br 36 (decide (t1.1≤99)) (.say (ck (cond (decide (0≤t1.1)) (decide (t1.1<100)) false)) (.elX 68 AV.bool want (0+(t1.1.toNat * 1)) λx1 =>
(.br 116 (!(x1==greater)) (.apX 180 AV.int t1.2 [t1.1] (t1.2.length+1)
(.bk 1 b1 (W (t1.1+1),t1.2++[t1.1]) [0,1,2,180]))
(.bk 1 b1 (W (t1.1+1),t1.2) [0,1,2,3]))))
(.fz 3 AV.int t1.2 (λ_=>rfl) (.ret ((⟨t0,t1.2⟩:Flt))))))))))
theorem ofF_p(w:List Bool)(g:Bool)(hw:w.length=100):∃I0 I1 m1,(Q7 w g I0 I1 m1).vp Q9 (ofF w g):=by
 refine⟨λt=>t=if g=true then 2 else 1,λ_ t=>∃k:Nat,t.1=((k+1:Nat):Int)∧k≤99∧t.2=(frs k).filter λs=>!(w.getD s.toNat false==g),λ_ t=>100-t.1.toNat,?_⟩;dsimp only[Q7,Q8,Ax.vp,Ax.vc];simp only[vcU,rfU,f'];refine⟨⟨λc=>by rw[if_pos c],λc=>by rw[c];rfl⟩,?_⟩;rintro t rfl;refine⟨⟨0,rfl,by omega,rfl⟩,?_⟩;rintro⟨i,out⟩ ⟨k,hi,hk,ho⟩;simp only at hi ho ⊢;subst hi
 refine⟨λc=>?_,λc=>?_⟩
 ·have h1:(bif decide ((0:Int)≤((k+1:Nat):Int))then decide ((((k+1:Nat):Int))<100)else false)=true:=by
   rw[decide_eq_true (show(0:Int)≤((k+1:Nat):Int) by omega),decide_eq_true (show((k+1:Nat):Int)<100 by omega)];rfl
  refine⟨h1,by omega,λx hx=>?_⟩;have hx:w.getD (((k+1:Nat):Int)).toNat false=x:=by
   rw[J',show(((k+1:Nat):Int)).toNat=0+(((k+1:Nat):Int)).toNat * 1 by omega,hx];rfl
  have hf:((frs (k+1)).filter λs=>!(w.getD s.toNat false==g))=out++(if(!(x==g))=true then [((k+1:Nat):Int)]else []):=by
   rw[Ke,aP',←ho];have e:((k:Int)+1)=((k+1:Nat):Int):=by omega
   rw[e,bI',List.filter_nil,hx]
  have hlen:out.length≤99:=by rw[ho];exact aF' (bh' _ _) (by rw[Dv];omega)
  rw[ao (k:=k+1) (n:=101) (by omega) (by omega)]
  refine⟨λd=>⟨by omega,⟨k+1,rfl,by omega,?_⟩,by omega⟩,λd=>⟨⟨k+1,rfl,by omega,?_⟩,by omega⟩⟩
  ·rw[hf,if_pos d]
  ·rw[hf,d];simp
 ·have:k=99:=by omega
  subst this;rw[ofF,ho]
def ofF_c(want:List Bool)(greater:Bool)(hw:want.length=100):PC Tryz.prog:=pcO 278 [.k,.k] [.agg (want.map AV.bool),.bool greater] (.a [.k,(.s 1)]) Q9 (ofF want greater) (λ_=>let ⟨I0,I1,m1,h⟩:=ofF_p want greater hw;⟨_,h,by kernel_rfl⟩) rfl (by kernel_rfl)
def Pp(both x y:Bool):Bool:=(x && y) || (!both && (x || y))
def wnB(Z:Int→Bool)(k:Nat):List Bool:=(List.range 100).map λ(j:Nat)=>decide (1≤j∧j≤k) && Z j
theorem iE{Z:Int→Bool}{k:Nat}:(wnB Z k).length=100:=by unfold wnB;simp
theorem jQ{Z:Int→Bool}{k j:Nat}(h:j<100):(wnB Z k)[j]?=some (decide (1≤j∧j≤k) && Z j):=by
 unfold wnB;rw[S',List.getElem?_range h];rfl
theorem Gg{Z:Int→Bool}:wnB Z 0=List.replicate 100 false:=by
 refine by' λj=>?_
 by_cases h:j<100
 ·rw[jQ h,decide_eq_false (by omega),aN',if_pos h];rfl
 ·rw[av' (by rw[iE];omega),av' (by simp;omega)]
theorem Mv{Z:Int→Bool}{k:Nat}(h:k<99):(wnB Z k).set (k+1) (Z ((k+1:Nat):Int))=wnB Z (k+1):=by
 refine by' λj=>?_;rw[bN',iE]
 by_cases e:k+1=j
 ·subst e;rw[if_pos rfl,if_pos (by omega),jQ (by omega),decide_eq_true (by omega)];rfl
 ·rw[u' e]
  by_cases hj:j<100
  ·rw[jQ hj,jQ hj]
   congr 2
   rw[decide_eq_decide];omega
  ·rw[av' (by rw[iE];omega),av' (by rw[iE];omega)]
def nH(a b:Flt)(both:Bool)(s:Int):Bool:=Pp both (dS a s) (dS b s)
def nI(a b:Flt)(both:Bool):Flt×Int:=
 if am a.mode a.srcs≠0 then(⟨0,[]⟩,am a.mode a.srcs)else if am b.mode b.srcs≠0 then(⟨0,[]⟩,am b.mode b.srcs)
 else(ofF (wnB (nH a b both) 99) (nH a b both 100),0)
def Po(a:Flt)(b:Flt)(both:Bool)(t0:Int×List Bool×Bool):NF:=⟨[rB 2 both,rR 3 0,rR 4 1,rR 6 2,rR 10 3,rB 11 t0.2.2,rI 12 t0.1],[.box (Flt.v a),.box (Flt.v b),.box (.agg [.int 0,.sl 0 [] true]),.arr (t0.2.1.map AV.bool) (ae (λ_=>rfl) t0.2.1)]⟩
def Pn(a:Flt)(b:Flt)(both:Bool)(t0:Int×List Bool×Bool)(t1:Bool):NF:=⟨[rB 2 both,rR 3 0,rR 4 1,rR 6 2,rR 10 3,rB 11 t0.2.2,rI 12 t0.1,rB 15 t1],[.box (Flt.v a),.box (Flt.v b),.box (.agg [.int 0,.sl 0 [] true]),.arr (t0.2.1.map AV.bool) (ae (λ_=>rfl) t0.2.1)]⟩
@[reducible] def KQ:Nat→Type
 | 0=>Int×List Bool×Bool
 | 1=>Bool
 | _=>Unit
def KR(r:Flt×Int):AV:=.tup [Flt.v r.1,.int r.2]
def KP(a:Flt)(b:Flt)(both:Bool)(I0:(Int×List Bool×Bool)→Prop)(m0:(Int×List Bool×Bool)→Nat)(I1:Int×List Bool×Bool→Bool→Prop):Ax Tryz.prog KQ (Flt×Int):=
 (.callP (lC a)
(.br 144 ((am a.mode a.srcs) != 0) (.ret ((⟨0,[]⟩:Flt),am a.mode a.srcs))
(.callP (lC b)
(.br 224 ((am b.mode b.srcs) != 0) (.ret ((⟨0,[]⟩:Flt),am b.mode b.srcs))
(.loop 0 (Po a b both) I0 m0 (1,List.replicate 100 false,false) [0,16,32,224] λ(t0:Int×List Bool×Bool) b0 =>
(.br 36 (decide (t0.1≤100)) (.callP (Gf a t0.1)
(.callP (Gf b t0.1)
(.join 1 (Pn a b both t0) (λ(t1:Bool)=>I1 t0 t1) (λb1=>(.br 196 (dS a t0.1) (.br 244 (dS b t0.1) (.bk 1 b1 ((true):Bool) [0,1,2,3])
(.br 292 (!both) (.br 324 (dS a t0.1) (.bk 1 b1 ((true):Bool) [0,1,2,3])
(.bk 1 b1 ((dS b t0.1):Bool) [0,1,2,3]))
(.bk 1 b1 ((false):Bool) [0,1,2,3])))
(.br 292 (!both) (.br 324 (dS a t0.1) (.bk 1 b1 ((true):Bool) [0,1,2,3])
(.bk 1 b1 ((dS b t0.1):Bool) [0,1,2,3]))
(.bk 1 b1 ((false):Bool) [0,1,2,3])))) λ(t1:Bool) =>
(.br 36 (decide (t0.1≤99)) (.say (ck (cond (decide (0≤t0.1)) (decide (t0.1<100)) false)) (.stX 84 AV.bool t0.2.1 (0+(t0.1.toNat * 1)) (λ_=>t1) λy1 =>
(.bk 0 b0 (W (t0.1+1),t0.2.1.set (0+(t0.1.toNat * 1)) t1,t0.2.2) [0,1,2,3])))
(.bk 0 b0 (W (t0.1+1),t0.2.1,t1) [0,1,2,3])))))
(.say (λR=>Rf (t0.2.1.map AV.bool) (ck (decide (t0.2.1.length=100))
R)) (.sub 36 AV.bool t0.2.1 false
(.req 68 (t0.2.1.length=100) λh2 =>
(.callA (ofF_c t0.2.1 t0.2.2 h2) (id (α:=bU [.agg (t0.2.1.map AV.bool),.bool t0.2.2]) (aV (by simp[bM,AV.pureB,ae (v:=AV.bool) (λ_=>rfl)])))
(.ret (ofF t0.2.1 t0.2.2,0))))))))))))
theorem Td(a b:Flt)(both:Bool):∃I0 m0 I1,(KP a b both I0 m0 I1).vp KR (nI a b both):=by
 refine⟨λt=>∃k:Nat,t.1=((k+1:Nat):Int)∧k≤100∧t.2.1=wnB (nH a b both) (min k 99)∧(k=100→t.2.2=nH a b both 100),λt=>101-t.1.toNat,λs t=>t=nH a b both s.1,?_⟩;dsimp only[KP,KQ,Ax.vp,Ax.vc];simp only[vcU,rfU,f']
 refine⟨λc=>?_,λc=>⟨λd=>?_,λd=>⟨⟨0,rfl,by omega,Gg.symm,by omega⟩,?_⟩⟩⟩
 ·rw[nI,if_pos (by simpa using c)]
 ·rw[nI,u' (by simpa using c),if_pos (by simpa using d)]
 rintro⟨i,w,g⟩ ⟨k,hi,hk,hw,hg⟩;simp only at hi hw hg ⊢;subst hi
 refine⟨λh=>⟨?_,?_⟩,λh=>?_⟩
 ·unfold nH Pp;cases dS a ((k+1:Nat):Int)<;>cases dS b ((k+1:Nat):Int)<;>cases both<;>simp
 ·rintro z rfl;have hb:w.length=100:=by rw[hw,iE]
  refine⟨λh2=>⟨?_,by omega,λy hy=>?_⟩,λh2=>?_⟩
  ·rw[decide_eq_true (show(0:Int)≤((k+1:Nat):Int) by omega),decide_eq_true (show((k+1:Nat):Int)<100 by omega)];rfl
  ·have e:0+(((k+1:Nat):Int)).toNat * 1=k+1:=by omega
   rw[e,ao (k:=k+1) (n:=102) (by omega) (by omega),hw,show min k 99=k by omega,Mv (by omega)];exact⟨⟨k+1,rfl,by omega,by rw[show min (k+1) 99=k+1 by omega],by omega⟩,by omega⟩
  ·have e:k=99:=by omega
   subst e;rw[ao (k:=99+1) (n:=102) (by omega) (by omega)];exact⟨⟨100,rfl,by omega,hw,λ_=>rfl⟩,by omega⟩
 ·have e:k=100:=by omega
  subst e;rw[nI,u' (by simpa using c),u' (by simpa using d),hg rfl,hw];exact⟨iE,iE,rfl⟩
def Te(a:Flt)(b:Flt)(both:Bool):PC Tryz.prog:=pcO 162 [(.a [.k,(.s 1)]),(.a [.k,(.s 1)]),.k] [Flt.v a,Flt.v b,.bool both] (.a [(.a [.k,(.s 1)]),.k]) KR (nI a b both) (λ_=>let ⟨I0,m0,I1,h⟩:=Td a b both;⟨_,h,by kernel_rfl⟩) rfl (by kernel_rfl)
abbrev unF(a b:Flt):Flt×Int:=nI a b false
def Qg(r:Flt×Int):AV:=.tup [Flt.v r.1,.int r.2]
def GM(a:Flt)(b:Flt):Ax Tryz.prog noS (Flt×Int):=
 (.callP (Te a b false)
(.ret ((nI a b false).1,(nI a b false).2)))
theorem unF_p(a b:Flt):(GM a b).vp Qg (unF a b):=by
 dsimp only[GM,noS,Ax.vp,Ax.vc];simp only[vcU,rfU,f']
def unF_c(a:Flt)(b:Flt):PC Tryz.prog:=pcO 67 [(.a [.k,(.s 1)]),(.a [.k,(.s 1)])] [Flt.v a,Flt.v b] (.a [(.a [.k,(.s 1)]),.k]) Qg (unF a b) (λ_=>⟨(GM a b),unF_p a b,by kernel_rfl⟩) rfl (by kernel_rfl)
def lv(x:Mem)(g h:Int):Bool:=decide (x.grp<g) || (x.grp==g && decide (x.host<h))
def Lv(r:Bool):AV:=.bool r
def AY(x:Mem)(group:Int)(host:Int):Ax Tryz.prog noS (Bool):=
 (.br 112 (decide (x.grp<group)) (.ret (true))
(.br 192 (x.grp==group) (.ret (decide (x.host<host)))
(.ret (false))))
theorem Tp(x:Mem)(g h:Int):(AY x g h).vp Lv (lv x g h):=by
 dsimp only[AY,noS,Ax.vp,Ax.vc];simp only[vcU,rfU,f'];refine⟨λc=>by simp[lv,c],λc=>⟨λd=>by simp[lv,c,d],λd=>by simp[lv,c,d]⟩⟩
def Tq(x:Mem)(group:Int)(host:Int):PC Tryz.prog:=pcO 161 [(.a [.k,.k,.k,(.s 1),.k]),.k,.k] [Mem.v x,.int group,.int host] .k Lv (lv x group host) (λ_=>⟨(AY x group host),Tp x group host,by kernel_rfl⟩) rfl (by kernel_rfl)
def dT(now:Int)(x:Mem):Prop:=(1≤x.host∧x.host≤99)∧(1≤x.grp∧x.grp≤99)∧now≤x.til∧x.til≤now+1000
instance (now:Int) (x:Mem):Decidable (dT now x):=by unfold dT;infer_instance
def ct(x y:Mem):Prop:=lv x y.grp y.host=true
instance (x y:Mem):Decidable (ct x y):=by unfold ct;infer_instance
theorem pG(x y z:Mem)(h:ct x y)(k:ct y z):ct x z:=by
 simp only[ct,lv,bU',aJ',decide_eq_true_eq,bY']at *
 omega
def ba(m:aJ):Int:=
 if ¬(0≤m.now∧m.now≤1000000)then 2 else if 64<m.list.length then 3 else if ¬∀x∈m.list,dT m.now x then 2
 else if orI (m.list.map λx=>am x.mode x.srcs)≠0 then orI (m.list.map λx=>am x.mode x.srcs)
 else if ∃x∈m.list,x.mode=1∧x.srcs=[]then 1 else if ¬m.list.Pairwise ct then 25 else 0
def Ox(m:aJ)(t0:Bool):NF:=⟨[rR 1 0,rB 18 t0],[.box (aJ.v m)]⟩
def Ow(m:aJ)(t1:Int):NF:=⟨[rR 1 0,(24,.k,.sl 5 (m.list.map Mem.v) false),rI 25 ((m.list.map Mem.v).length:Int),rI 26 t1],[.box (aJ.v m)]⟩
def Ov(m:aJ)(t1:Int)(t2:Bool):NF:=⟨[rR 1 0,(24,.k,.sl 5 (m.list.map Mem.v) false),rI 25 ((m.list.map Mem.v).length:Int),rI 26 t1,rB 62 t2],[.box (aJ.v m)]⟩
def Ou(m:aJ)(t3:Int):NF:=⟨[rR 1 0,(65,.k,.sl 5 (m.list.map Mem.v) false),rI 66 ((m.list.map Mem.v).length:Int),rI 67 t3],[.box (aJ.v m)]⟩
def Ot(m:aJ)(t4:Int):NF:=⟨[rR 1 0,(79,.k,.sl 5 (m.list.map Mem.v) false),rI 80 ((m.list.map Mem.v).length:Int),rI 81 t4],[.box (aJ.v m)]⟩
def Oq(m:aJ)(t5:Int):NF:=⟨[rR 1 0,rI 10 t5],[.box (aJ.v m)]⟩
@[reducible] def IU:Nat→Type
 | 0=>Bool
 | 1=>Int
 | 2=>Bool
 | 3=>Int
 | 4=>Int
 | 5=>Int
 | _=>Unit
def IV(r:Int):AV:=.int r
def IT(m:aJ)(I0:Bool→Prop)(I1:Bool→Int→Prop)(m1:Bool→Int→Nat)(I2:Bool→Int→Mem→Bool→Prop)(I3:Bool→Int→Int→Prop)(m3:Bool→Int→Int→Nat)(I4:Bool→Int→Int→Int→Prop)(m4:Bool→Int→Int→Int→Nat)(I5:Bool→Int→Int→Int→Int→Prop)(m5:Bool→Int→Int→Int→Int→Nat):Ax Tryz.prog IU (Int):=
 (.pass (.pass (.join 0 (Ox m) (λ(t0:Bool)=>I0 t0) (λb0=>(.br 96 (decide (m.now<0)) (.bk 0 b0 ((true):Bool) [0])
(.bk 0 b0 ((decide (1000000<m.now)):Bool) [0]))) λ(t0:Bool) =>
(.br 1 t0 (.ret (2))
(.br 65 (decide (64<((m.list.map Mem.v).length:Int))) (.ret (3))
(.loop 1 (Ow m) (I1 t0) (m1 t0) ((0):Int) [0] λ(t1:Int) b1 =>
(.br 17 (decide (t1<((m.list.map Mem.v).length:Int))) (.elI 17 Mem.v m.list t1 λx1 =>
(.join 2 (Ov m t1) (λ(t2:Bool)=>I2 t0 t1 x1 t2) (λb2=>(.br 145 (decide (x1.host<1)) (.bk 2 b2 ((true):Bool) [0])
(.br 225 (decide (99<x1.host)) (.bk 2 b2 ((true):Bool) [0])
(.br 305 (decide (x1.grp<1)) (.bk 2 b2 ((true):Bool) [0])
(.br 385 (decide (99<x1.grp)) (.bk 2 b2 ((true):Bool) [0])
(.br 497 (decide (x1.til<m.now)) (.bk 2 b2 ((true):Bool) [0])
(.bk 2 b2 ((decide ((W (m.now+1000))<x1.til)):Bool) [0]))))))) λ(t2:Bool) =>
(.br 1 t2 (.ret (2))
(.bk 1 b1 ((W (t1+1)):Int) [0]))))
(.loop 3 (Ou m) (I3 t0 t1) (m3 t0 t1) ((0):Int) [0] λ(t3:Int) b3 =>
(.br 17 (decide (t3<((m.list.map Mem.v).length:Int))) (.elI 17 Mem.v m.list t3 λx2 =>
(.callP (lC (⟨x2.mode,x2.srcs⟩:Flt))
(.br 177 ((am (⟨x2.mode,x2.srcs⟩:Flt).mode (⟨x2.mode,x2.srcs⟩:Flt).srcs) != 0) (.ret (am (⟨x2.mode,x2.srcs⟩:Flt).mode (⟨x2.mode,x2.srcs⟩:Flt).srcs))
(.bk 3 b3 ((W (t3+1)):Int) [0]))))
(.loop 4 (Ot m) (I4 t0 t1 t3) (m4 t0 t1 t3) ((0):Int) [0] λ(t4:Int) b4 =>
(.br 17 (decide (t4<((m.list.map Mem.v).length:Int))) (.elI 17 Mem.v m.list t4 λx3 =>
(.callP (fe )
(.callP (iY (⟨x3.mode,x3.srcs⟩:Flt) (⟨1,[]⟩:Flt))
(.br 145 (cE (⟨x3.mode,x3.srcs⟩:Flt) (⟨1,[]⟩:Flt)) (.ret (1))
(.bk 4 b4 ((W (t4+1)):Int) [0])))))
(.loop 5 (Oq m) (I5 t0 t1 t3 t4) (m5 t0 t1 t3 t4) ((1):Int) [0] λ(t5:Int) b5 =>
(.br 81 (decide (t5<((m.list.map Mem.v).length:Int))) (.elI 145 Mem.v m.list (W (t5-1)) λx4 =>
(.elI 225 Mem.v m.list t5 λx5 =>
(.elI 321 Mem.v m.list t5 λx6 =>
(.callP (Tq x4 x5.grp x6.host)
(.br 401 (!(lv x4 x5.grp x6.host)) (.ret (25))
(.bk 5 b5 ((W (t5+1)):Int) [0]))))))
(.ret (0)))))))))))))))
theorem Sj(m:aJ):∃I0 I1 m1 I2 I3 m3 I4 m4 I5 m5,(IT m I0 I1 m1 I2 I3 m3 I4 m4 I5 m5).vp IV (ba m):=by
 refine⟨λb=>b=decide (¬(0≤m.now∧m.now≤1000000)),λ_=>gG m.list (dT m.now),λ_ t=>m.list.length-t.toNat,λ_ _ x b=>b=decide (¬dT m.now x),
  λ_ _=>gG m.list (λx=>am x.mode x.srcs=0),λ_ _ t=>m.list.length-t.toNat,λ_ _ _=>gG m.list (λx=>¬(x.mode=1∧x.srcs=[])),λ_ _ _ t=>m.list.length-t.toNat,
  λ_ _ _ _=>lB m.list ct,λ_ _ _ _ t=>m.list.length+1-t.toNat,?_⟩
 dsimp only[IT,IU,Ax.vp,Ax.vc];simp only[vcU,rfU,f'];refine⟨⟨λc=>(decide_eq_true (by omega)).symm,λc=>by rw[decide_eq_decide];omega⟩,?_⟩;rintro _ rfl
 refine⟨λc=>?_,λc=>⟨λd=>?_,λd=>⟨gG.zero,?_⟩⟩⟩
 ·rw[ba,if_pos (H' c)]
 ·rw[ba,u' (ab' c),if_pos (by omega)]
 have c:=X'.mp (ab' c);have hl:m.list.length≤9223372036854775806:=by omega
 have d:¬64<m.list.length:=by omega
 intro t1 h1
 refine⟨λe=>⟨h1.idx,e,λx hx=>⟨?_,?_⟩⟩,λe=>⟨gG.zero,?_⟩⟩
 ·have w:W (m.now+1000)=m.now+1000:=cf (by omega);rw[w]
  refine⟨λq=>(decide_eq_true (show ¬dT m.now x from λr=>by obtain⟨⟨r,_⟩,_⟩:=r;omega)).symm,λq1=>⟨λq=>(decide_eq_true (show ¬dT m.now x from λr=>by obtain⟨⟨_,r⟩,_⟩:=r;omega)).symm,λq2=>⟨λq=>(decide_eq_true (show ¬dT m.now x from λr=>by obtain⟨_,⟨r,_⟩,_⟩:=r;omega)).symm,
   λq3=>⟨λq=>(decide_eq_true (show ¬dT m.now x from λr=>by obtain⟨_,⟨_,r⟩,_⟩:=r;omega)).symm,λq4=>⟨λq=>(decide_eq_true (show ¬dT m.now x from λr=>by obtain⟨_,_,r,_⟩:=r;omega)).symm,λq5=>by rw[decide_eq_decide];unfold dT;omega⟩⟩⟩⟩⟩
 ·rintro _ rfl;refine⟨λq=>?_,λq=>h1.step (by omega) hx (X'.mp (ab' q))⟩;rw[ba,u' (not_not_intro c),u' d,if_pos λr=>H' q (r x (uO hx))]
 have g1:=h1.done e;intro t2 h2
 refine⟨λe=>⟨h2.idx,e,λx hx=>⟨λq=>?_,λq=>h2.step (by omega) hx (by simpa using q)⟩⟩,λe=>⟨gG.zero,?_⟩⟩
 ·have f:=rZ h2 hx (by simpa using q);rw[ba,u' (not_not_intro c),u' d,u' (not_not_intro g1),f,if_pos (by simpa using q)]
 have g2:=pA (h2.done e);intro t3 h3
 refine⟨λe=>⟨h3.idx,e,λx hx=>⟨λq=>?_,λq=>h3.step (by omega) hx (by simpa[cE]using q)⟩⟩,λe=>⟨lB.one,?_⟩⟩
 ·rw[ba,u' (not_not_intro c),u' d,u' (not_not_intro g1),u' (not_not_intro g2),if_pos ⟨x,uO hx,by simpa[cE]using q⟩]
 have g3:¬∃x∈m.list,x.mode=1∧x.srcs=[]:=λ⟨x,hx,q⟩=>h3.done e x hx q;intro t4 h4
 refine⟨λe=>⟨(h4.idx (by omega) e).1.1,(h4.idx (by omega) e).1.2,λx hx=>⟨(h4.idx (by omega) e).2,e,λy hy=>⟨(h4.idx (by omega) e).2,e,λy2 hy2=>?_⟩⟩⟩,λe=>?_⟩
 ·rw[hy]at hy2;cases hy2;refine⟨λq=>?_,λq=>h4.step (by omega) hx hy (by simpa[ct]using q)⟩;rw[ba,u' (not_not_intro c),u' d,u' (not_not_intro g1),u' (not_not_intro g2),u' g3,if_pos (h4.bad (S:=ct) (by omega) hx hy (by simpa[ct]using q))]
 ·rw[ba,u' (not_not_intro c),u' d,u' (not_not_intro g1),u' (not_not_intro g2),u' g3,u' (not_not_intro (h4.done e pG))]
def IW(m:aJ):PC Tryz.prog:=pcO 64 [(.a [.k,(.s 5)])] [aJ.v m] .k IV (ba m) (λ_=>let ⟨I0,I1,m1,I2,I3,m3,I4,m4,I5,m5,h⟩:=Sj m;⟨_,h,by kernel_rfl⟩) rfl (by kernel_rfl)
theorem cR{m:aJ}(h:ba m=0):(0≤m.now∧m.now≤1000000)∧m.list.length≤64∧(∀x∈m.list,dT m.now x)∧(∀x∈m.list,am x.mode x.srcs=0)∧(∀x∈m.list,¬(x.mode=1∧x.srcs=[]))∧m.list.Pairwise ct:=by
 unfold ba at h
 split at h
 ·cases h
 rename_i h1
 split at h
 ·cases h
 rename_i h2
 split at h
 ·cases h
 rename_i h3
 split at h
 ·rename_i h4;exact absurd h h4
 rename_i h4
 split at h
 ·cases h
 rename_i h5
 split at h
 ·cases h
 rename_i h6;refine⟨X'.mp h1,by omega,X'.mp h3,λx hx=>?_,λx hx q=>h5 ⟨x,hx,q⟩,X'.mp h6⟩;refine af' λq=>h4 ?_;have hf:(m.list.map λx=>am x.mode x.srcs).find? (· != 0)≠none:=by
  rw[Ne,aL'];exact λhn=>hn _ (aT' hx) (by simpa using q)
 rw[orI];cases e:(m.list.map λx=>am x.mode x.srcs).find? (· != 0)with
 | none=>exact absurd e hf
 | some z =>
  have:=ci' e;simpa using this
theorem si{m:aJ}(h1:0≤m.now∧m.now≤1000000)(h2:m.list.length≤64)(h3:∀x∈m.list,dT m.now x)(h4:∀x∈m.list,am x.mode x.srcs=0)(h5:∀x∈m.list,¬(x.mode=1∧x.srcs=[]))(h6:m.list.Pairwise ct):ba m=0:=by
 rw[ba,u' (not_not_intro h1),u' (by omega),u' (not_not_intro h3),u' (not_not_intro (pA h4)),u' (λ⟨x,hx,q⟩=>h5 x hx q),u' (not_not_intro h6)]
def bw(m:aJ):List Int:=if ba m=0 then m.list.foldl (λout x=>put out x.grp) []else []
def OR(m:aJ)(t0:List Int×Int):NF:=⟨[(3,(.s 1),.sl 1 (t0.1.map AV.int) false),(10,.k,.sl 5 (m.list.map Mem.v) false),rI 11 ((m.list.map Mem.v).length:Int),rI 12 t0.2],[]⟩
@[reducible] def JV:Nat→Type
 | 0=>(List Int)×Int
 | _=>Unit
def JX(r:List Int):AV:=.sl 1 (r.map AV.int) false
def JU(m:aJ)(I0:(List Int×Int)→Prop)(m0:(List Int×Int)→Nat):Ax Tryz.prog JV ((List Int)):=
 (.callP (IW m)
(.br 96 ((ba m)==0) (.loop 0 (OR m) I0 m0 ([],0) [] λ(t0:List Int×Int) b0 =>
(.br 16 (decide (t0.2<((m.list.map Mem.v).length:Int))) (.elI 16 Mem.v m.list t0.2 λx1 =>
(.req 128 (t0.1.length≤900000) λh2 =>
(.callP (HP t0.1 x1.grp h2)
(.bk 0 b0 (put t0.1 x1.grp,W (t0.2+1)) []))))
(.ret (t0.1))))
(.ret ([]))))
theorem S5(m:aJ):∃I0 m0,(JU m I0 m0).vp JX (bw m):=by
 refine⟨λt=>jP m.list (λout x=>put out x.grp) [] t.2 t.1,λt=>m.list.length-t.2.toNat,?_⟩;dsimp only[JU,JV,Ax.vp,Ax.vc];simp only[vcU,rfU,f']
 refine⟨λc=>⟨jP.zero,?_⟩,λc=>?_⟩
 ·have c:ba m=0:=eq_of_beq c;have hl:=(cR c).2.1;rintro⟨out,i⟩ h;simp only at h ⊢;have hlen:=h.len (f:=List.length) (a:=0) (b:=1) (by simp) λs x _=>gb s x.grp;refine⟨λd=>⟨h.idx,d,λx hx=>⟨by omega,h.step (by omega) hx rfl⟩⟩,λd=>?_⟩;rw[bw,if_pos c,←h.done d]
 ·rw[bw,u' (by simpa using c)]
def S6(m:aJ):PC Tryz.prog:=pcO 65 [(.a [.k,(.s 5)])] [aJ.v m] (.s 1) JX (bw m) (λ_=>let ⟨I0,m0,h⟩:=S5 m;⟨_,h,by kernel_rfl⟩) rfl (by kernel_rfl)
def nY(m:aJ)(g:Int):Flt:=m.list.foldl (λf x=>if x.grp=g then(unF f ⟨x.mode,x.srcs⟩).1 else f) ⟨1,[]⟩
def yQ(m:aJ)(g:Int):Wnt:=⟨g,(nY m g).mode,(nY m g).srcs⟩
def ofW(m:aJ):List Wnt×Int:=if ba m≠0 then([],ba m)else if 32<(bw m).length then([],3)else((bw m).map (yQ m),0)
theorem JW(m:aJ):(bw m).length≤64:=by
 unfold bw
 split
 ·rename_i c;have hl:=(cR c).2.1;have key:∀(l:List Mem) (s:List Int),(l.foldl (λout x=>put out x.grp) s).length≤s.length+l.length:=by
   intro l
   induction l with
   | nil=>intro s;simp
   | cons x l ih=>intro s;have:=ih (put s x.grp);have:=gb s x.grp;simp only[ax',Z'];omega
  have:=key m.list [];simp at this;omega
 ·simp
def RP(m:aJ)(t0:Int×List Wnt):NF:=⟨[rR 1 0,rV 5 1,(17,.k,.sl 1 ((bw m).map AV.int) false),rI 18 (((bw m).map AV.int).length:Int),rI 19 t0.1],[.box (aJ.v m),vB 3 Wnt.v t0.2 (λ_=>rfl)]⟩
def RO(m:aJ)(t0:Int×List Wnt)(x1:Int)(t1:Int×Flt):NF:=⟨[rR 1 0,rV 5 1,rI 7 x1,rR 8 2,(17,.k,.sl 1 ((bw m).map AV.int) false),rI 18 (((bw m).map AV.int).length:Int),rI 19 t0.1,(25,.k,.sl 5 (m.list.map Mem.v) false),rI 26 ((m.list.map Mem.v).length:Int),rI 27 t1.1],[.box (aJ.v m),vB 3 Wnt.v t0.2 (λ_=>rfl),.box (Flt.v t1.2)]⟩
@[reducible] def Q1:Nat→Type
 | 0=>Int×List Wnt
 | 1=>Int×Flt
 | _=>Unit
def Q2(r:List Wnt×Int):AV:=.tup [.sl 3 (r.1.map Wnt.v) false,.int r.2]
def Q0(m:aJ)(I0:(Int×List Wnt)→Prop)(m0:(Int×List Wnt)→Nat)(I1:Int×List Wnt→Int→(Int×Flt)→Prop)(m1:Int×List Wnt→Int→(Int×Flt)→Nat):Ax Tryz.prog Q1 (List Wnt×Int):=
 (.callP (IW m)
(.br 128 ((ba m) != 0) (.ret ([],ba m))
(.callP (S6 m)
(.cmdL (.nilT 5 3) (.loop 0 (RP m) I0 m0 (0,[]) [0,208] λ(t0:Int×List Wnt) b0 =>
(.br 18 (decide (t0.1<(((bw m).map AV.int).length:Int))) (.elI 18 AV.int (bw m) t0.1 λx1 =>
(.callP (fe )
(.loop 1 (RO m t0 x1) (I1 t0 x1) (m1 t0 x1) (0,(⟨1,[]⟩:Flt)) [0,1,82] λ(t1:Int×Flt) b1 =>
(.br 19 (decide (t1.1<((m.list.map Mem.v).length:Int))) (.elI 19 Mem.v m.list t1.1 λx2 =>
(.br 147 (x2.grp==x1) (.callP (unF_c t1.2 (⟨x2.mode,x2.srcs⟩:Flt))
(.bk 1 b1 (W (t1.1+1),(unF t1.2 (⟨x2.mode,x2.srcs⟩:Flt)).1) [0,1,2]))
(.bk 1 b1 (W (t1.1+1),t1.2) [0,1,2])))
(.apX 99 Wnt.v t0.2 [(⟨x1,t1.2.mode,t1.2.srcs⟩:Wnt)] (t0.2.length+1)
(.bk 0 b0 (W (t0.1+1),t0.2++[(⟨x1,t1.2.mode,t1.2.srcs⟩:Wnt)]) [0,99]))))))
(.br 66 (decide (32<((t0.2.map Wnt.v).length:Int))) (.ret ([],3))
(.fz 1 Wnt.v t0.2 (λ_=>rfl) (.ret (t0.2,0))))))))))
theorem ofW_p(m:aJ):∃I0 m0 I1 m1,(Q0 m I0 m0 I1 m1).vp Q2 (ofW m):=by
 refine⟨λt=>jO (bw m) (λg=>[yQ m g]) t.1 t.2,λt=>(bw m).length-t.1.toNat,λ_ g t=>jP m.list (λf x=>if x.grp=g then(unF f ⟨x.mode,x.srcs⟩).1 else f) ⟨1,[]⟩ t.1 t.2,λ_ _ t=>m.list.length-t.1.toNat,?_⟩;dsimp only[Q0,Q1,Ax.vp,Ax.vc];simp only[vcU,rfU,f']
 refine⟨λc=>?_,λc=>⟨jO.zero,?_⟩⟩
 ·rw[ofW,if_pos (by simpa using c)]
 have c:ba m=0:=by simpa using c
 have hl:=(cR c).2.1;have hg:=JW m;rintro⟨i,out⟩ h;simp only at h ⊢;have hlen:=h.len (b:=1) (by simp)
 refine⟨λd=>⟨h.idx,d,λg hgx=>⟨jP.zero,?_⟩⟩,λd=>?_⟩
 ·rintro⟨j,f⟩ k;simp only at k ⊢
  refine⟨λe=>⟨k.idx,e,λx hx=>⟨λq=>k.step (by omega) hx ?_,λq=>k.step (by omega) hx ?_⟩⟩,λe=>⟨by omega,h.step (by omega) hgx ?_⟩⟩
  ·rw[if_pos (eq_of_beq q)]
  ·rw[u' (by simpa using q)]
  ·rw[yQ,nY,←k.done e]
 ·have e:=h.done d;rw[nZ]at e;subst e;rw[f',ofW,u' (not_not_intro c)];refine⟨λq=>by rw[if_pos (by omega)],λq=>by rw[u' (by omega)]⟩
def Ik(m:aJ):PC Tryz.prog:=pcO 14 [(.a [.k,(.s 5)])] [aJ.v m] (.a [(.s 3),.k]) Q2 (ofW m) (λ_=>let ⟨I0,m0,I1,m1,h⟩:=ofW_p m;⟨_,h,by kernel_rfl⟩) rfl (by kernel_rfl)
def j5(f:Int→Int×List Int)(g:Int):List Wnt:=if f g=(1,[])then []else [⟨g,(f g).1,(f g).2⟩]
def du(f:Int→Int×List Int):Nat→List Wnt
 | 0=>[]
 | n+1=>du f n++j5 f (n+1)
def av(l:List Itm):List Wnt:=if aK 1000000 l then du (bO l) 99 else []
theorem sg{f:Int→Int×List Int}{g:Int}{w:Wnt}:w∈j5 f g↔w.grp=g∧f w.grp=(w.mode,w.srcs)∧f w.grp≠(1,[]):=by
 unfold j5
 split
 ·rename_i e;simp only[aq',false_iff];rintro⟨rfl,_,h⟩;exact h e
 ·rename_i e;rw[O']
  constructor
  ·rintro rfl;exact⟨rfl,rfl,e⟩
  ·rintro⟨rfl,h1,_⟩;rw[h1]
theorem fa{f:Int→Int×List Int}{w:Wnt}:∀{n:Nat},w∈du f n↔(1≤w.grp∧w.grp≤n)∧f w.grp=(w.mode,w.srcs)∧f w.grp≠(1,[])
 | 0=>by simp only[du,aq',false_iff];rintro⟨h,_⟩;omega
 | n+1=>by
  rw[du,L',fa (n:=n),sg]
  constructor
  ·rintro(⟨h1,h2⟩|⟨h1,h2⟩)
   ·exact⟨by omega,h2⟩
   ·exact⟨by omega,h2⟩
  ·rintro⟨h1,h2⟩
   by_cases e:w.grp=((n+1:Nat):Int)
   ·exact .inr ⟨by omega,h2⟩
   ·exact .inl ⟨by omega,h2⟩
theorem iu{f:Int→Int×List Int}:∀n:Nat,(du f n).Pairwise λx y=>x.grp<y.grp
 | 0=>List.Pairwise.nil
 | n+1=>by
  refine ag'.mpr ⟨iu n,?_,λa ha b hb=>?_⟩
  ·unfold j5;split
   ·exact List.Pairwise.nil
   ·exact aH' _ _
  ·have:=(fa.mp ha).1;have:=(sg.mp hb).1;omega
theorem mG:∀{a b:List Wnt},a.Pairwise (λx y=>x.grp<y.grp)→b.Pairwise (λx y=>x.grp<y.grp)→(∀x,x∈a↔x∈b)→a=b:=by
 intro a
 induction a with
 | nil =>
  intro b _ _ h;cases b with
  | nil=>rfl
  | cons y b=>exact absurd ((h y).mpr (by simp)) (by simp)
 | cons x a ih =>
  intro b ha hb h;cases b with
  | nil=>exact absurd ((h x).mp (by simp)) (by simp)
  | cons y b =>
   rw[an']at ha hb;have hxy:x=y:=by
    refine af' λhne=>?_;have h1:x∈b:=(P'.mp ((h x).mp (by simp))).resolve_left hne;have h2:y∈a:=(P'.mp ((h y).mpr (by simp))).resolve_left (Ne.symm hne);have:=ha.1 y h2;have:=hb.1 x h1;omega
   subst hxy;rw[ih ha.2 hb.2 λz=>?_]
   constructor
   ·intro hz;refine(P'.mp ((h z).mp (by simp[hz]))).resolve_left λe=>?_;subst e;have:=ha.1 z hz;omega
   ·intro hz;refine(P'.mp ((h z).mpr (by simp[hz]))).resolve_left λe=>?_;subst e;have:=hb.1 z hz;omega
theorem BI{l:List Itm}(h:(l.map Itm.grp).Nodup){x:Itm}(hx:x∈l):bO l x.grp=(x.mode,x.srcs):=by
 unfold bO;cases e:l.find? λy=>decide (y.grp=x.grp)with
 | none=>rw[aL']at e;exact absurd (e x hx) (by simp)
 | some y =>
  have h1:=br' e;have h2:=ci' e;rw[Nodup.grp h h1 hx (by simpa using h2)]
theorem BH{l:List Itm}{g:Int}(h:∀x∈l,x.grp≠g):bO l g=(1,[]):=by
 unfold bO;rw[aL'.mpr (λx hx=>by simpa using h x hx)]
theorem ru{l:List Itm}{g:Int}(h:bO l g≠(1,[])):∃x∈l,x.grp=g∧bO l g=(x.mode,x.srcs):=by
 unfold bO at h ⊢;cases e:l.find? λy=>decide (y.grp=g)with
 | none=>rw[e]at h;exact absurd rfl h
 | some y=>exact⟨y,br' e,by simpa using ci' e,rfl⟩
def da(l:List Wnt)(g:Int):Int×List Int:=((aQ l g).mode,(aQ l g).srcs)
theorem iz{l:List Wnt}(h:l.Pairwise λx y=>x.grp<y.grp){w:Wnt}(hw:w∈l):aQ l w.grp=⟨w.mode,w.srcs⟩:=by
 unfold aQ;cases e:l.find? λy=>decide (y.grp=w.grp)with
 | none=>rw[aL']at e;exact absurd (e w hw) (by simp)
 | some y =>
  have h1:=br' e;have h2:y.grp=w.grp:=by simpa using ci' e
  have:y=w:=by
   obtain⟨i,hi,rfl⟩:=bl'.mp h1;obtain⟨j,hj,rfl⟩:=bl'.mp hw;rw[ac']at h
   rcases cm' i j with g|g|g
   ·have:=h i j hi hj g;omega
   ·subst g;rfl
   ·have:=h j i hj hi g;omega
  rw[this]
theorem iP{l:List Wnt}{g:Int}(h:aQ l g≠⟨1,[]⟩):∃w∈l,w.grp=g∧aQ l g=⟨w.mode,w.srcs⟩:=by
 unfold aQ at h ⊢;cases e:l.find? λy=>decide (y.grp=g)with
 | none=>rw[e]at h;exact absurd rfl h
 | some y=>exact⟨y,br' e,by simpa using ci' e,rfl⟩
theorem qh{l:List Wnt}{g:Int}:da l g≠(1,[])↔aQ l g≠⟨1,[]⟩:=by
 unfold da;cases aQ l g;simp
theorem oP{w:List Wnt}(h:aI false w=0):w=du (da w) 99:=by
 obtain⟨_,h1,h2,h3,h4⟩:=bx.mp h;refine mG h4 (iu 99) λx=>?_;rw[fa]
 constructor
 ·intro hx;have e:=iz h4 hx;refine⟨h1 x hx,by unfold da;rw[e],?_⟩;rw[qh,e];intro e';simp only[Flt.mk.injEq]at e';exact h3 rfl x hx e'
 ·rintro⟨g1,g2,g3⟩;obtain⟨y,hy,e1,e2⟩:=iP (qh.mp g3);unfold da at g2;rw[e2]at g2;simp only[Prod.mk.injEq]at g2;have:y=x:=by cases x;cases y;simp_all
  rw[←this];exact hy
theorem j4{f g:Int→Int×List Int}:∀{n:Nat},(∀i:Int,1≤i→i≤n→f i=g i)→du f n=du g n
 | 0,_=>rfl
 | n+1,h=>by
  rw[du,du,j4 (n:=n) λi h1 h2=>h i h1 (by omega),j5,j5,h ((n:Int)+1) (by omega) (by omega)]
theorem uv{l:List Itm}(h:aK 1000000 l){g:Int}:da (av l) g=bO l g:=by
 have hw:av l=du (bO l) 99:=if_pos h;rw[hw]
 by_cases e:bO l g=(1,[])
 ·rw[e];unfold da;rw[gq λw hw' e'=>?_];obtain⟨_,g2,g3⟩:=fa.mp hw';rw[e']at g3;exact g3 e
 ·obtain⟨x,hx,e1,e2⟩:=ru e;have hm:(⟨g,x.mode,x.srcs⟩:Wnt)∈du (bO l) 99:=fa.mpr ⟨by have:=(h.1 x hx).2.1;simp only;omega,e2,e⟩;have:=iz (iu 99) hm;unfold da;simp only at this;rw[this,e2]
theorem mO{l:List Itm}{x:Itm}{g:Int}:bO (gC l x) g=if g=x.grp then(x.mode,x.srcs)else bO l g:=by
 unfold bO gC;rw[List.find?_append]
 by_cases e:g=x.grp
 ·subst e;rw[if_pos rfl,aL'.mpr λy hy=>by have:=(gM.mp hy).2;simpa using this];simp
 ·rw[u' e];have:(without x.grp l).find? (λy=>decide (y.grp=g))=l.find? λy=>decide (y.grp=g):=by
   unfold without;rw[List.find?_filter]
   congr 1
   funext y
   by_cases e2:y.grp=g
   ·simp[e2,e]
   ·simp[e2]
  rw[this];cases l.find? λy=>decide (y.grp=g)with
  | some y=>rfl
  | none=>simp[Ne.symm e]
theorem rz{n:Int}{l:List Itm}{w:Wnt}{g:Int}:bO (bv (n,l) w).2 g=if g=w.grp then(w.mode,w.srcs)else bO l g:=by
 unfold bv
 split
 ·rename_i e;simp only at e
  by_cases h:g=w.grp
  ·subst h;rw[if_pos rfl,e]
  ·rw[u' h]
 ·exact mO
theorem rv:∀{c:List Wnt} {n:Int} {l:List Itm} {g:Int},c.Pairwise (λx y=>x.grp<y.grp)→bO (c.foldl bv (n,l)).2 g=if(∃w∈c,w.grp=g)then da c g else bO l g
 | [],n,l,g,_=>by simp
 | w::c,n,l,g,h=>by
  have h':=an'.mp h;rw[ax'];have ih:=rv (c:=c) (n:=(bv (n,l) w).1) (l:=(bv (n,l) w).2) (g:=g) h'.2;rw[show((bv (n,l) w).1,(bv (n,l) w).2)=bv (n,l) w from rfl]at ih;rw[ih]
  by_cases e:w.grp=g
  ·have no:¬∃v∈c,v.grp=g:=λ⟨v,hv,e'⟩=>by have:=h'.1 v hv;omega
   rw[u' no,rz,if_pos e.symm,if_pos ⟨w,by simp,e⟩];have:=iz h (w:=w) (by simp);unfold da;rw[←e,this]
  ·by_cases e2:∃v∈c,v.grp=g
   ·rw[if_pos e2,if_pos (by obtain⟨v,hv,q⟩:=e2;exact⟨v,by simp[hv],q⟩)];unfold da aQ;rw[List.find?_cons];simp[e]
   ·rw[u' e2,rz,u' (Ne.symm e),u'];rintro⟨v,hv,q⟩
    rcases P'.mp hv with rfl|hv
    ·exact e q
    ·exact e2 ⟨v,hv,q⟩
theorem xm:∀{c:List Wnt} {n:Int} {l:List Itm},c.Pairwise (λx y=>x.grp<y.grp)→(∀w∈c,bO l w.grp≠(w.mode,w.srcs))→(c.foldl bv (n,l)).1=n+c.length
 | [],n,l,_,_=>by simp
 | w::c,n,l,h,hn=>by
  have h':=an'.mp h;have e:bv (n,l) w=(n+1,gC l ⟨n+1,w.grp,w.mode,w.srcs⟩):=u' (hn w (by simp))
  rw[ax',e,xm h'.2 λv hv=>?_]
  ·simp;omega
  ·rw[mO,u' (by have:=h'.1 v hv;simp only;omega)];exact hn v (by simp[hv])
theorem sD:∀{c:List Wnt} {n:Int} {l:List Itm},(∀w∈c,bO l w.grp=(w.mode,w.srcs))→c.foldl bv (n,l)=(n,l)
 | [],n,l,_=>rfl
 | w::c,n,l,h=>by
  have e:bv (n,l) w=(n,l):=if_pos (h w (by simp));rw[ax',e];exact sD λv hv=>h v (by simp[hv])
theorem sC:∀{c:List Wnt} {n:Int} {l:List Itm} {x:Itm},c.Pairwise (λx y=>x.grp<y.grp)→(∀w∈c,bO l w.grp≠(w.mode,w.srcs))→x∈l→x.ver≤n →
  (x∈(c.foldl bv (n,l)).2↔¬∃w∈c,w.grp=x.grp)
 | [],n,l,x,_,_,hx,_=>by simp[hx]
 | w::c,n,l,x,h,hn,hx,hv=>by
  have h':=an'.mp h;have e:bv (n,l) w=(n+1,gC l ⟨n+1,w.grp,w.mode,w.srcs⟩):=u' (hn w (by simp));rw[ax',e];have hn':∀v∈c,bO (gC l ⟨n+1,w.grp,w.mode,w.srcs⟩) v.grp≠(v.mode,v.srcs):=λv hv=>by
   rw[mO,u' (by have:=h'.1 v hv;simp only;omega)];exact hn v (by simp[hv])
  by_cases g:w.grp=x.grp
  ·refine iff_of_false (λhm=>?_) (λq=>q ⟨w,by simp,g⟩);have:∀{c:List Wnt} {n:Int} {l:List Itm},(∀y∈l,y.grp=x.grp→x.ver<y.ver)→x.ver≤n→x∈(c.foldl bv (n,l)).2→False:=by
    intro c
    induction c with
    | nil=>intro n l q1 q2 q3;have:=q1 x q3 rfl;omega
    | cons v c ih =>
     intro n l q1 q2 q3;rw[ax']at q3
     by_cases e2:bO l v.grp=(v.mode,v.srcs)
     ·rw[show bv (n,l) v=(n,l)from if_pos e2]at q3;exact ih q1 q2 q3
     ·rw[show bv (n,l) v=(n+1,gC l ⟨n+1,v.grp,v.mode,v.srcs⟩)from u' e2]at q3;refine ih (λy hy e3=>?_) (by omega) q3
      rcases eL.mp hy with q|rfl
      ·exact q1 y q.1 e3
      ·simp only;omega
   refine this (λy hy e2=>?_) (by omega) hm
   rcases eL.mp hy with q|rfl
   ·exact absurd (e2.trans g.symm) q.2
   ·simp only;omega
  ·rw[sC h'.2 hn' (eL.mpr (.inl ⟨hx,Ne.symm g⟩)) (by omega)]
   constructor
   ·rintro q ⟨v,hv,e2⟩
    rcases P'.mp hv with rfl|hv
    ·exact g e2
    ·exact q ⟨v,hv,e2⟩
   ·rintro q ⟨v,hv,e2⟩;exact q ⟨v,by simp[hv],e2⟩
theorem kR{old new:List Wnt}{w:Wnt}:∀{n:Nat},w∈bZ old new n↔(1≤w.grp∧w.grp≤n)∧aQ new w.grp=⟨w.mode,w.srcs⟩∧aQ new w.grp≠aQ old w.grp
 | 0=>by simp only[bZ,aq',false_iff];rintro⟨h,_⟩;omega
 | n+1=>by
  rw[bZ,L',kR (n:=n)];have:w∈oj old new (n+1)↔w.grp=n+1∧aQ new w.grp=⟨w.mode,w.srcs⟩∧aQ new w.grp≠aQ old w.grp:=by
   unfold oj
   split
   ·rename_i e;simp only[aq',false_iff];rintro⟨q,_,h⟩;rw[q]at h;exact h e
   ·rename_i e;rw[O']
    constructor
    ·rintro rfl;exact⟨rfl,rfl,e⟩
    ·rintro⟨q,h1,_⟩;rw[q]at h1;cases w;simp only at q h1 ⊢;rw[h1,q]
  rw[this]
  constructor
  ·rintro(⟨h1,h2⟩|⟨h1,h2⟩)
   ·exact⟨by omega,h2⟩
   ·exact⟨by omega,h2⟩
  ·rintro⟨h1,h2⟩
   by_cases e:w.grp=n+1
   ·exact .inr ⟨e,h2⟩
   ·exact .inl ⟨by omega,h2⟩
theorem iR{s:Spk}{c:List Wnt}(h:(change s c).2=0):aW s∧aI true c=0∧¬1000000<(c.foldl bv (s.last,s.items)).1 ∧
  change s c=(⟨s.router,s.epoch,(c.foldl bv (s.last,s.items)).1,(c.foldl bv (s.last,s.items)).2,s.peers⟩,0):=by
 unfold change at h ⊢;by_cases h1:aW s
 case neg=>rw[if_pos h1]at h;simp at h
 by_cases h2:aI true c=0
 case neg=>rw[u' (not_not_intro h1),if_pos h2]at h;exact absurd h h2
 by_cases h3:1000000<(c.foldl bv (s.last,s.items)).1
 case pos=>rw[u' (not_not_intro h1),u' (not_not_intro h2),if_pos h3]at h;simp at h
 rw[u' (not_not_intro h1),u' (not_not_intro h2),u' h3];exact⟨h1,h2,h3,rfl⟩
theorem iS{s:Spk}{c:List Wnt}(h:(change s c).2=0):aW (change s c).1:=by
 obtain⟨h1,h2,h3,e⟩:=iR h;rw[e];obtain⟨p1,p2,p3,p4,p5,p6,p7⟩:=h1;obtain⟨q1,q2,q3,q4⟩:=lm p4 p3.1 (fw h2);refine⟨p1,p2,⟨q4,by simp only;omega⟩,q1,p5,λp hp=>?_,p7⟩;obtain⟨r1,r2,r3,r4⟩:=p6 p hp;exact⟨r1,r2,r3,r4.1,by have:=q2.le;simp only;omega⟩
theorem jr{s:Spk}{w:List Wnt}(h:(restart s w).2=0):aW s∧aI false w=0∧s.epoch≠1000000 ∧
  restart s w=(⟨s.router,s.epoch+1,w.length,w.mapIdx eH,s.peers.map λp=>⟨p.router,0,0⟩⟩,0):=by
 unfold restart at h ⊢;by_cases h1:aW s
 case neg=>rw[if_pos h1]at h;simp at h
 by_cases h2:aI false w=0
 case neg=>rw[u' (not_not_intro h1),if_pos h2]at h;exact absurd h h2
 by_cases h3:s.epoch=1000000
 case pos=>rw[u' (not_not_intro h1),u' (not_not_intro h2),if_pos h3]at h;simp at h
 rw[u' (not_not_intro h1),u' (not_not_intro h2),u' h3];exact⟨h1,h2,h3,rfl⟩
theorem kC{s:Spk}{w:List Wnt}(h:(restart s w).2=0):aW (restart s w).1:=by
 obtain⟨h1,h2,h3,e⟩:=jr h;rw[e];obtain⟨p1,p2,p3,p4,p5,p6,p7⟩:=h1;obtain⟨w1,_,_,_,w5⟩:=bx.mp h2
 refine⟨p1,⟨by simp only;omega,by simp only;omega⟩,⟨by simp only;omega,by simp only;omega⟩,gU (fw h2) w5,by simpa using p5,λq hq=>?_,?_⟩
 ·obtain⟨q',hq',rfl⟩:=R'.mp hq;obtain⟨r1,r2,_,_⟩:=p6 q' hq';exact⟨r1,r2,⟨by simp,by simp⟩,by simp,by simp⟩
 ·rw[at'];exact p7
theorem yi{a b:List Wnt}(h:(ah a b).2=0):aI false a=0∧aI false b=0∧aI true (ah a b).1=0∧(ah a b).1=bZ a b 99:=by
 unfold ah at h ⊢;by_cases h1:aI false a=0
 case neg=>rw[if_pos h1]at h;exact absurd h h1
 by_cases h2:aI false b=0
 case neg=>rw[u' (not_not_intro h1),if_pos h2]at h;exact absurd h h2
 by_cases h3:32<(bZ a b 99).length
 case pos=>rw[u' (not_not_intro h1),u' (not_not_intro h2),if_pos h3]at h;simp at h
 rw[u' (not_not_intro h1),u' (not_not_intro h2),u' h3];refine⟨h1,h2,?_,rfl⟩;have o:=ke (old:=a) (bx.mp h2).2.2.1 99;exact bx.mpr ⟨by simp only;omega,o.rng,o.flt,λe=>Bool.noConfusion e,o.asc⟩
structure Mp (a b:Spk) (w c:List Wnt):Prop where
  wants:av b.items=w
  last:b.last=a.last+c.length
  ok:aW b
  again:change b c=(b,0)
  stay:∀x∈a.items,(x∈b.items↔¬∃y∈c,y.grp=x.grp)
theorem FI{a:Spk}{w:List Wnt}(ha:aW a)(hc:(ah (av a.items) w).2=0)(hf:(change a (ah (av a.items) w).1).2=0) :
  Mp a (change a (ah (av a.items) w).1).1 w (ah (av a.items) w).1:=by
 obtain⟨c1,c2,c3,c4⟩:=yi hc;generalize hcc:(ah (av a.items) w).1=c at *
 obtain⟨_,f2,f3,f4⟩:=iR hf;have hok:=iS hf;have hai:aK 1000000 a.items:=ha.2.2.2.1.mono ha.2.2.1.2;have asc:c.Pairwise λx y=>x.grp<y.grp:=(bx.mp c3).2.2.2.2;have mem:∀{x:Wnt},x∈c↔(1≤x.grp∧x.grp≤99)∧aQ w x.grp=⟨x.mode,x.srcs⟩∧aQ w x.grp≠aQ (av a.items) x.grp:=λ{x}=>by rw[c4];exact kR
 have old:∀g,aQ (av a.items) g=⟨(bO a.items g).1,(bO a.items g).2⟩:=λg=>by
  have:=uv hai (g:=g);unfold da at this;rw[←this]
 have ne:∀x∈c,bO a.items x.grp≠(x.mode,x.srcs):=λx hx e=>by
  obtain⟨_,h2,h3⟩:=mem.mp hx;rw[h2,old,e]at h3;exact h3 rfl
 have hlen:=xm (n:=a.last) asc ne;have told':∀g:Int,1≤g→g≤99→bO (change a c).1.items g=da w g:=λg h1 h2=>by
  rw[f4];simp only;rw[rv asc]
  split
  ·rename_i h;obtain⟨x,hx,rfl⟩:=h;obtain⟨_,q2,_⟩:=mem.mp hx;unfold da;rw[iz asc hx,q2]
  ·rename_i h;have e:aQ w g=aQ (av a.items) g:=af' λhn=>h ⟨⟨g,(aQ w g).mode,(aQ w g).srcs⟩,mem.mpr ⟨⟨h1,h2⟩,rfl,hn⟩,rfl⟩;unfold da;rw[e,old]
 refine⟨?_,by rw[f4];exact hlen,hok,?_,λx hx=>?_⟩
 ·rw[av,if_pos (hok.2.2.2.1.mono hok.2.2.1.2)];have e:=oP c2;rw[j4 λi h1 h2=>told' i h1 (by omega)];exact e.symm
 ·have same:c.foldl bv ((change a c).1.last,(change a c).1.items)=((change a c).1.last,(change a c).1.items):=by
   refine sD λx hx=>?_;obtain⟨q1,q2,_⟩:=mem.mp hx;rw[told' _ q1.1 q1.2];unfold da;rw[q2]
  generalize (change a c).1=b at *
  unfold change;rw[u' (not_not_intro hok),u' (not_not_intro c3),same,u' (by have:=hok.2.2.1.2;simp only;omega)]
 ·rw[f4];exact sC asc ne hx (ha.2.2.2.1.1 x hx).1.2
section
variable {α : Type} (key : α → Int)
def c7(l:List α)(r:Int):Nat:=l.findIdx λp=>!decide (key p<r)
variable {key}
theorem lW{l:List α}{r:Int}{i:Nat}(h:i<c7 key l r)(hi:i<l.length):key l[i]<r:=by
 have:=bR' h;simpa using this
theorem tR{l:List α}{r:Int}(ho:l.Pairwise λx y=>key x<key y){i:Nat}(hi:i<l.length)(h:c7 key l r≤i):r≤key l[i]:=by
 have hp:c7 key l r<l.length:=by omega
 have h1:r≤key l[c7 key l r]:=by
  have:(!decide (key l[c7 key l r]<r))=true:=bZ' (w:=hp);simpa using this
 rcases Nat.eq_or_lt_of_le h with e|e
 ·simp only[e]at h1;exact h1
 ·have:=ac'.mp ho _ _ hp hi e;omega
theorem jW{l:List α}{r:Int}(ho:l.Pairwise λx y=>key x<key y){i:Nat}(hi:i<l.length)(h:key l[i]=r):c7 key l r=i:=by
 rcases cm' (c7 key l r) i with e|e|e
 ·have h1:=tR ho (r:=r) (i:=c7 key l r) (by omega) (V' _);have:=ac'.mp ho _ _ (by omega) hi e;omega
 ·exact e
 ·have:=lW e hi;omega
theorem my{l:List α}{r:Int}{d:α}(ho:l.Pairwise λx y=>key x<key y):(c7 key l r<l.length∧key (l.getD (c7 key l r) d)=r)↔∃z∈l,key z=r:=by
 constructor
 ·rintro⟨h1,h2⟩;rw[J',E' h1]at h2;exact⟨_,ay' h1,h2⟩
 ·rintro⟨z,hz,rfl⟩;obtain⟨i,hi,rfl⟩:=ad' hz;rw[jW ho hi rfl];exact⟨hi,by rw[J',E' hi];rfl⟩
theorem lz{l:List α}{d z:α}(ho:l.Pairwise λx y=>key x<key y)(hz:z∈l):l.getD (c7 key l (key z)) d=z:=by
 obtain⟨i,hi,rfl⟩:=ad' hz;rw[jW ho hi rfl,J',E' hi];rfl
theorem gj{l:List α}{r:Int}{z':α}(ho:l.Pairwise λx y=>key x<key y)(hh:∃z∈l,key z=r)(z:α):z∈l.set (c7 key l r) z'↔z=z'∨z∈l∧key z≠r:=by
 obtain⟨y,hy,rfl⟩:=hh;obtain⟨i,hi,rfl⟩:=ad' hy;rw[jW ho hi rfl,bl']
 constructor
 ·rintro⟨j,hj,rfl⟩;rw[bc']
  split
  ·exact .inl rfl
  ·rename_i hne;have hj':j<l.length:=by simpa using hj
   refine .inr ⟨ay' _,λe=>?_⟩
   rcases Nat.lt_or_gt_of_ne hne with e'|e'
   ·have:=ac'.mp ho _ _ hi hj' e';omega
   ·have:=ac'.mp ho _ _ hj' hi e';omega
 ·rintro(rfl|⟨hz,hne⟩)
  ·exact⟨i,by simpa using hi,by simp⟩
  ·obtain⟨j,hj,rfl⟩:=ad' hz;refine⟨j,by simpa using hj,?_⟩;rw[bc',u'];rintro rfl;exact hne rfl
theorem hZ{l:List α}{r:Int}{z':α}(ho:l.Pairwise λx y=>key x<key y)(hh:∃z∈l,key z=r)(hk:key z'=r):(l.set (c7 key l r) z').Pairwise λx y=>key x<key y:=by
 obtain⟨y,hy,rfl⟩:=hh;obtain⟨i,hi,rfl⟩:=ad' hy;rw[jW ho hi rfl];have:(l.set i z').map key=l.map key:=by
  rw[bm',hk];refine bd' (by simp) λj h1 h2=>?_;rw[bc']
  split
  ·rename_i e;subst e;simp
  ·rfl
 have h:=ho;rw[←at' (f:=key) (R:=λx y:Int=>x<y)]at h ⊢;rw[this];exact h
theorem wQ{l:List α}{r:Int}{z0 z':α}(ho:l.Pairwise λx y=>key x<key y)(hh:¬∃z∈l,key z=r)(hk:key z'=r) :
  ((l.take (c7 key l r)++z0::l.drop (c7 key l r)).set (c7 key l r) z'=l.take (c7 key l r)++z'::l.drop (c7 key l r)) ∧
  (∀z,z∈l.take (c7 key l r)++z'::l.drop (c7 key l r)↔z=z'∨z∈l∧key z≠r)∧(l.take (c7 key l r)++z'::l.drop (c7 key l r)).Pairwise λx y=>key x<key y:=by
 have hp:c7 key l r≤l.length:=bF'
 refine⟨?_,λz=>?_,?_⟩
 ·rw[bJ' _ _ (by rw[aa'];omega)];simp[aa',aO' hp]
 ·rw[L',P']
  constructor
  ·rintro(h|rfl|h)
   ·have:=T' h;exact .inr ⟨this,λe=>hh ⟨z,this,e⟩⟩
   ·exact .inl rfl
   ·have:=ak' h;exact .inr ⟨this,λe=>hh ⟨z,this,e⟩⟩
  ·rintro(rfl|⟨h,_⟩)
   ·exact .inr (.inl rfl)
   ·rw[←bg' (c7 key l r) l]at h
    rcases L'.mp h with h|h
    ·exact .inl h
    ·exact .inr (.inr h)
 ·have h1:∀x∈l.take (c7 key l r),key x<r:=λx hx=>by
   obtain⟨i,hi,rfl⟩:=ad' hx;rw[bz'];simp only[aa']at hi;exact lW (by omega) _
  have h2:∀x∈l.drop (c7 key l r),r<key x:=λx hx=>by
   have hm:=ak' hx;obtain⟨i,hi,rfl⟩:=ad' hx;rw[List.getElem_drop];simp only[bv']at hi;have h3:=tR ho (r:=r) (i:=c7 key l r+i) (by omega) (by omega);have h4:key l[c7 key l r+i]≠r:=λe=>hh ⟨_,ay' _,e⟩;omega
  refine ag'.mpr ⟨ho.sublist (cl' _ _),an'.mpr ⟨λy hy=>by rw[hk];exact h2 y hy,ho.sublist (ck' _ _)⟩,λx hx y hy=>?_⟩;have:=h1 x hx
  rcases P'.mp hy with rfl|hy
  ·omega
  ·have:=h2 y hy;omega
end
def gOf(l:List Hrd)(r:Int):Hrd:=(base l r).getD (bK l r) OJ
def pOf(l:List Per)(r:Int):Per:=l.getD (iJ l r) ⟨0,0,0⟩
theorem dE{l:List Hrd}{r:Int}(ho:l.Pairwise λx y=>x.router<y.router):gD l r↔∃z∈l,z.router=r:=my (key:=Hrd.router) ho
theorem pU{l:List Per}{r:Int}(ho:l.Pairwise λx y=>x.router<y.router):uk l r↔∃z∈l,z.router=r:=my (key:=Per.router) ho
theorem fi{l:List Hrd}{z:Hrd}(ho:l.Pairwise λx y=>x.router<y.router)(hz:z∈l):gOf l z.router=z:=by
 unfold gOf base;rw[if_pos ((dE ho).mpr ⟨z,hz,rfl⟩)];exact lz (key:=Hrd.router) ho hz
theorem kV{α:Type}(l:List α)(i:Nat)(x:α):dR l i x=l.take i++x::l.drop i:=by
 simp[dR]
theorem gp{l:List Hrd}{r:Int}(ho:l.Pairwise λx y=>x.router<y.router)(h:¬∃z∈l,z.router=r):gOf l r=⟨r,0,0,[]⟩:=by
 unfold gOf base;rw[u' (λq=>h ((dE ho).mp q)),kV];have hp:bK l r≤l.length:=bF';rw[J',aU' (by rw[aa'];omega)];simp[aa',aO' hp]
theorem gL{l:List Per}{z:Per}(ho:l.Pairwise λx y=>x.router<y.router)(hz:z∈l):pOf l z.router=z:=lz (key:=Per.router) ho hz
theorem gn{l:List Hrd}{r:Int}(ho:l.Pairwise λx y=>x.router<y.router):(gOf l r).router=r:=by
 by_cases h:∃z∈l,z.router=r
 ·obtain⟨z,hz,rfl⟩:=h;rw[fi ho hz]
 ·rw[gp ho h]
def aX(g:Hrd)(x:Sig):Hrd:=dF (eD g x) x
theorem eN{g:Hrd}{x:Sig}(h:g.router=x.src):(aX g x).router=x.src:=by
 unfold aX dF eD;split<;>split<;>simp[h]
structure qS (l l':Lsn) (x y:Sig):Prop where
  router:l'.router=l.router
  epoch:l'.epoch=l.epoch
  mem:∀z,z∈l'.heard↔z=aX (gOf l.heard x.src) x∨z∈l.heard∧z.router≠x.src
  ans:y=⟨3,l.router,x.src,(aX (gOf l.heard x.src) x).epoch,(aX (gOf l.heard x.src) x).ver,0,l.epoch,0,0,[]⟩
  ok:bY l'
theorem JK{g:Hrd}{x:Sig}(hg:aK g.ver g.items)(hv:0≤g.ver∧g.ver≤1000000)(he:0≤g.epoch∧g.epoch≤1000000)(hx:aG x=0)(hk:x.kind≠3) :
  (1≤(aX g x).epoch∧(aX g x).epoch≤1000000)∧(0≤(aX g x).ver∧(aX g x).ver≤1000000)∧aK (aX g x).ver (aX g x).items:=by
 obtain⟨s1,s2,s3⟩:=lN hx hk;have key:∀h:Hrd,(1≤h.epoch∧h.epoch≤1000000)→(0≤h.ver∧h.ver≤1000000)→aK h.ver h.items→(1≤(dF h x).epoch∧(dF h x).epoch≤1000000)∧(0≤(dF h x).ver∧(dF h x).ver≤1000000)∧aK (dF h x).ver (dF h x).items:=by
  intro h h1 h2 h3;unfold dF
  split
  ·rename_i c;obtain⟨t1,t2,t3⟩:=s3 c.1;exact⟨h1,s2,h3.put (x:=kL x) c.2.2.2 t1 t2 t3⟩
  ·exact⟨h1,h2,h3⟩
 unfold aX eD
 split
 ·exact key _ s1 ⟨by simp,by simp⟩ ⟨λy hy=>by simp at hy,by simp,List.Pairwise.nil⟩
 ·exact key _ ⟨by omega,he.2⟩ hv hg
theorem Ah{l:Lsn}(hl:bY l)(r:Int):aK (gOf l.heard r).ver (gOf l.heard r).items∧(0≤(gOf l.heard r).ver∧(gOf l.heard r).ver≤1000000)∧(0≤(gOf l.heard r).epoch∧(gOf l.heard r).epoch≤1000000):=by
 by_cases h:∃z∈l.heard,z.router=r
 ·obtain⟨z,hz,rfl⟩:=h;rw[fi hl.2.2.2.2 hz];obtain⟨k1,k2,k3,k4,k5⟩:=hl.2.2.2.1 z hz;exact⟨k5,k4,by omega,k3.2⟩
 ·rw[gp hl.2.2.2.2 h];exact⟨⟨λy hy=>by simp at hy,by simp,List.Pairwise.nil⟩,⟨by simp,by simp⟩,by simp,by simp⟩
theorem pc{x:Sig}(hx:aG x=0):fg x:=by
 unfold aG at hx
 split at hx
 ·omega
 split at hx
 ·omega
 rename_i h;exact(X'.mp h).1
theorem J9{l:Lsn}{x:Sig}(hl:bY l)(hx:aG x=0)(hk:x.kind≠3)(hd:x.dst=l.router)(hn:(∃z∈l.heard,z.router=x.src)∨l.heard.length<12) :
  (hear l x).2=0∧qS l (hear l x).1.1 x (hear l x).1.2:=by
 obtain⟨g1,g2,g3⟩:=Ah hl x.src;obtain⟨l1,l2,l3,l4,l5⟩:=hl;obtain⟨k1,k2,k3⟩:=JK g1 g2 g3 hx hk;have hr:=eN (x:=x) (gn l5);obtain⟨e1,e2,e3⟩:=pc hx;have hH:xj l.heard x=aX (gOf l.heard x.src) x:=rfl;have hc:¬(¬gD l.heard x.src∧l.heard.length=12):=by
  rintro⟨q1,q2⟩
  rcases hn with q|q
  ·exact q1 ((dE l5).mpr q)
  ·omega
 have e:hear l x=((⟨l.router,l.epoch,(base l.heard x.src).set (bK l.heard x.src) (aX (gOf l.heard x.src) x)⟩,
  ⟨3,l.router,x.src,(aX (gOf l.heard x.src) x).epoch,(aX (gOf l.heard x.src) x).ver,0,l.epoch,0,0,[]⟩),0):=by
  unfold hear;rw[u' (not_not_intro ⟨l1,l2,l3,l4,l5⟩),u' (not_not_intro hx),u' (by rintro(q|q);exact hk q;exact q hd),u' hc,hH]
 rw[e]
 have key:(∀z,z∈(base l.heard x.src).set (bK l.heard x.src) (aX (gOf l.heard x.src) x)↔z=aX (gOf l.heard x.src) x∨z∈l.heard∧z.router≠x.src) ∧
   ((base l.heard x.src).set (bK l.heard x.src) (aX (gOf l.heard x.src) x)).Pairwise (λx y=>x.router<y.router)∧((base l.heard x.src).set (bK l.heard x.src) (aX (gOf l.heard x.src) x)).length≤12:=by
  by_cases h:∃z∈l.heard,z.router=x.src
  ·have hb:base l.heard x.src=l.heard:=if_pos ((dE l5).mpr h);rw[hb];exact⟨gj (key:=Hrd.router) l5 h,hZ (key:=Hrd.router) l5 h hr,by simpa using l3⟩
  ·have hb:base l.heard x.src=l.heard.take (bK l.heard x.src)++⟨x.src,0,0,[]⟩::l.heard.drop (bK l.heard x.src):=by
    unfold base;rw[u' λq=>h ((dE l5).mp q),kV]
   rw[hb];obtain⟨q1,q2,q3⟩:=wQ (key:=Hrd.router) (z0:=⟨x.src,0,0,[]⟩) l5 h hr;have q1:(l.heard.take (bK l.heard x.src)++⟨x.src,0,0,[]⟩::l.heard.drop (bK l.heard x.src)).set (bK l.heard x.src) (aX (gOf l.heard x.src) x)=l.heard.take (bK l.heard x.src)++aX (gOf l.heard x.src) x::l.heard.drop (bK l.heard x.src):=q1;rw[q1];refine⟨q2,q3,?_⟩;have:=hn.resolve_left h;simp only[Y',Z',aa',bv'];omega
 obtain⟨m1,m2,m3⟩:=key;refine⟨rfl,rfl,rfl,m1,rfl,l1,l2,m3,λz hz=>?_,m2⟩
 rcases(m1 z).mp hz with rfl|⟨hz,_⟩
 ·exact⟨by rw[hr];exact e1,by rw[hr,←hd];exact e3,k1,k2,k3⟩
 ·exact l4 z hz
theorem qS.self{l l':Lsn}{x y:Sig}(hl:bY l)(h:qS l l' x y):gOf l'.heard x.src=aX (gOf l.heard x.src) x:=by
 have:=fi h.ok.2.2.2.2 ((h.mem _).mpr (.inl rfl));rw[eN (gn hl.2.2.2.2)]at this;exact this
theorem qS.other{l l':Lsn}{x y:Sig}(hl:bY l)(h:qS l l' x y){r:Int}(hr:r≠x.src):gOf l'.heard r=gOf l.heard r:=by
 by_cases e:∃z∈l.heard,z.router=r
 ·obtain⟨z,hz,rfl⟩:=e;rw[fi hl.2.2.2.2 hz,fi h.ok.2.2.2.2 ((h.mem z).mpr (.inr ⟨hz,hr⟩))]
 ·rw[gp hl.2.2.2.2 e,gp h.ok.2.2.2.2];rintro⟨z,hz,rfl⟩
  rcases(h.mem z).mp hz with rfl|⟨hz,_⟩
  ·exact hr (eN (gn hl.2.2.2.2))
  ·exact e ⟨z,hz,rfl⟩
structure Mr (a a':Spk) (x:Sig):Prop where
  router:a'.router=a.router
  epoch:a'.epoch=a.epoch
  last:a'.last=a.last
  items:a'.items=a.items
  mem:∀z,z∈a'.peers↔z=dQ a x (pOf a.peers x.src)∨z∈a.peers∧z.router≠x.src
  ok:aW a'
  routers:a'.peers.map Per.router=a.peers.map Per.router
theorem PO{a:Spk}{x:Sig}(ha:aW a)(hx:aG x=0)(hk:x.kind=3)(hd:x.dst=a.router)(hh:∃z∈a.peers,z.router=x.src):(ack a x).2=0∧Mr a (ack a x).1 x:=by
 obtain⟨p1,p2,p3,p4,p5,p6,p7⟩:=ha;have hhit:=(pU p7).mpr hh;have e:ack a x=(⟨a.router,a.epoch,a.last,a.items,a.peers.set (iJ a.peers x.src) (dQ a x (pOf a.peers x.src))⟩,0):=by
  unfold ack;rw[u' (not_not_intro ⟨p1,p2,p3,p4,p5,p6,p7⟩),u' (not_not_intro hx),u' (by rintro(q|q);exact q hk;exact q hd),u' (not_not_intro hhit)];rfl
 rw[e];obtain⟨z,hz,hzr⟩:=hh;have hp:pOf a.peers x.src=z:=by rw[←hzr];exact gL p7 hz
 obtain⟨k1,k2⟩:=PS (p6 z hz) p3.1 hx hk;rw[hp];have hr:(dQ a x z).router=x.src:=k2.trans hzr;have m1:=gj (key:=Per.router) (z':=dQ a x z) p7 ⟨z,hz,hzr⟩;have m2:=hZ (key:=Per.router) (z':=dQ a x z) p7 ⟨z,hz,hzr⟩ hr
 refine⟨rfl,rfl,rfl,rfl,rfl,by rw[hp];exact m1,⟨p1,p2,p3,p4,by simpa using p5,λy hy=>?_,m2⟩,?_⟩
 ·rcases(m1 y).mp hy with rfl|⟨hy,_⟩
  ·exact k1
  ·exact p6 y hy
 ·obtain⟨i,hi,rfl⟩:=ad' hz;have hpos:iJ a.peers x.src=i:=jW (key:=Per.router) p7 hi hzr;simp only[hpos];rw[bm',k2];refine bd' (by simp) λj h1 h2=>?_;rw[bc']
  split
  ·rename_i e;subst e;simp
  ·rfl
theorem Mr.self{a a':Spk}{x:Sig}(ha:aW a)(hh:∃z∈a.peers,z.router=x.src)(h:Mr a a' x):pOf a'.peers x.src=dQ a x (pOf a.peers x.src):=by
 obtain⟨z,hz,hzr⟩:=hh;have hp:pOf a.peers x.src=z:=by rw[←hzr];exact gL ha.2.2.2.2.2.2 hz
 have:=gL h.ok.2.2.2.2.2.2 ((h.mem _).mpr (.inl rfl));rw[←this,hp]
 congr 1
 unfold dQ
 split
 ·exact hzr.symm
 split<;>exact hzr.symm
theorem Mr.other{a a':Spk}{x:Sig}(ha:aW a)(h:Mr a a' x){r:Int}(hr:r≠x.src)(hh:∃z∈a.peers,z.router=r):pOf a'.peers r=pOf a.peers r:=by
 obtain⟨z,hz,rfl⟩:=hh;rw[gL ha.2.2.2.2.2.2 hz,gL h.ok.2.2.2.2.2.2 ((h.mem z).mpr (.inr ⟨hz,hr⟩))]
def cH(n:Int)(l:List Itm):Prop:=(l=[]→n=0)∧∀x,l.getLast?=some x→x.ver=n
theorem cH.nil:cH 0 []:=⟨λ_=>rfl,λx h=>by simp at h⟩
theorem cH.put{n:Int}{l:List Itm}{x:Itm}(h:x.ver=n):cH n (gC l x):=by
 unfold gC;exact⟨λe=>by simp at e,λy hy=>by simp at hy;rw[←hy];exact h⟩
theorem cH.chg:∀{c:List Wnt} {n:Int} {l:List Itm},cH n l→cH (c.foldl bv (n,l)).1 (c.foldl bv (n,l)).2
 | [],n,l,h=>h
 | w::c,n,l,h=>by
  rw[ax'];unfold bv
  split
  ·exact cH.chg h
  ·exact cH.chg (cH.put rfl)
theorem cH.restart(w:List Wnt):cH w.length (w.mapIdx eH):=by
 refine⟨λe=>by have:=congrArg List.length e;simp at this;simp[this],λx hx=>?_⟩;rw[List.getLast?_eq_getElem?]at hx;rw[List.length_mapIdx,List.getElem?_mapIdx]at hx;cases e:w[w.length-1]? with
 | none=>rw[e]at hx;simp at hx
 | some y =>
  rw[e]at hx;simp at hx;have:=(I'.mp e).1;rw[←hx];simp only[eH];omega
theorem cH.all{n v:Int}{l:List Itm}(h:cH n l)(h0:0≤v)(hv:∀x∈l,x.ver≤v):n≤v:=by
 cases e:l.getLast? with
 | none=>rw[List.getLast?_eq_none_iff]at e;rw[h.1 e];exact h0
 | some x =>
  have:=h.2 x e;have:=hv x (List.mem_of_getLast? e);omega
structure gA (e n:Int) (it:List Itm) (x:Sig):Prop where
  ep:x.epoch≤e
  upd:x.kind=2→x.epoch=e→tb n it x
structure iD (e le:Int) (g:Hrd) (x:Sig):Prop where
  ep:x.epoch≤e
  pe:x.pep≤le
  now:x.pep=le→x.epoch=e→g.epoch=e∧x.ver≤g.ver
structure PI (e n:Int) (it:List Itm) (p:Per) (le:Int) (g:Hrd):Prop where
  e1:1≤e
  n0:0≤n
  io:aK n it
  last:cH n it
  p1:p.epoch≤le
  p2:0≤p.acked
  p3:p.epoch=le→p.acked=0∨(g.epoch=e∧p.acked≤g.ver)
  g1:0≤g.epoch∧g.epoch≤e
  g2:0≤g.ver
  g3:aK g.ver g.items
  g4:g.epoch=e→iC n it g
section
variable {e n : Int} {it : List Itm} {p : Per} {le : Int} {g : Hrd} {x : Sig}
theorem PI.change(h:PI e n it p le g){m:Int}{k:List Itm}(ha:Adv n it m k)(h0:0≤m)(hk:aK m k)(hl:cH m k):PI e m k p le g:=
  { h with n0:=h0,io:=hk,last:=hl,g4:=λq=>(h.g4 q).adv ha }
theorem gA.change(h:gA e n it x){m:Int}{k:List Itm}(ha:Adv n it m k):gA e m k x:=⟨h.ep,λq1 q2=>(h.upd q1 q2).adv ha⟩
theorem PI.restart(h:PI e n it p le g){m:Int}{k:List Itm}(h0:0≤m)(hk:aK m k)(hl:cH m k)(q:Int)(hle:0≤le):PI (e+1) m k ⟨q,0,0⟩ le g:=
  { e1:=by have:=h.e1;omega,n0:=h0,io:=hk,last:=hl,p1:=hle,p2:=by simp,p3:=λ_=>.inl rfl,g1:=by have:=h.g1;omega,g2:=h.g2,g3:=h.g3,g4:=λq=>by have:=h.g1;omega }
theorem gA.restart(h:gA e n it x){m:Int}{k:List Itm}:gA (e+1) m k x:=⟨by have:=h.ep;omega,λ_ q=>by have:=h.ep;omega⟩
theorem iD.restart(h:iD e le g x):iD (e+1) le g x:=⟨by have:=h.ep;omega,h.pe,λ_ q=>by have:=h.ep;omega⟩
theorem PI.lapse(h:PI e n it p le g)(r:Int):PI e n it p (le+1) ⟨r,0,0,[]⟩:=
  { h with p1:=by have:=h.p1;omega,p3:=λq=>by have:=h.p1;omega,g1:=⟨by simp,by have:=h.e1;simp only;omega⟩,g2:=by simp,g3:=⟨λy hy=>by simp at hy,by simp,List.Pairwise.nil⟩,g4:=λq=>by have:=h.e1;simp only at q;omega }
theorem iD.lapse(h:iD e le g x){g':Hrd}:iD e (le+1) g' x:=⟨h.ep,by have:=h.pe;omega,λq=>by have:=h.pe;omega⟩
structure yL (e:Int) (g g':Hrd):Prop where
  now:g.epoch=e→g'.epoch=e∧g.ver≤g'.ver
theorem iD.grow(h:iD e le g x){g':Hrd}(hg:yL e g g'):iD e le g' x:=⟨h.ep,h.pe,λq1 q2=>by
 obtain⟨a,b⟩:=h.now q1 q2;obtain⟨c,d⟩:=hg.now a;exact⟨c,by omega⟩⟩
theorem gO(hx:x.epoch≤e):yL e g (aX g x):=by
 refine⟨λq=>?_⟩;have h0:eD g x=g:=u' (by omega);unfold aX;rw[h0];unfold dF
 split
 ·rename_i c;exact⟨q,by simp only;omega⟩
 ·exact⟨q,ai' _⟩
theorem PI.hear(h:PI e n it p le g)(hx:aG x=0)(hk:x.kind≠3)(ht:gA e n it x):PI e n it p le (aX g x):=by
  obtain⟨s1,s2,s3⟩:=lN hx hk;have hgr:=gO (g:=g) ht.ep;have h0:PI e n it p le (eD g x):=by
    unfold eD
    split
    · rename_i c
      have:=h.g1;have:=ht.ep
      exact { h with p3:=λq=>(h.p3 q).imp_right λq=>by omega,g1:=⟨by simp only;omega,ht.ep⟩,g2:=by simp,g3:=⟨λy hy=>by simp at hy,by simp,List.Pairwise.nil⟩,g4:=λ_=>iC.nil h.io h.n0 _ _ }
    · exact h
  unfold aX;generalize eD g x=g0 at h0 ⊢;unfold dF
  split
  · rename_i c
    obtain⟨c1,c2,c3,c4⟩:=c;obtain⟨t1,t2,t3⟩:=s3 c1;exact { h0 with p3:=λq=>(h0.p3 q).imp_right λq=>⟨q.1,by simp only;omega⟩,g1:=h0.g1,g2:=s2.1,g3:=h0.g3.put (x:=kL x) c4 t1 t2 t3,g4:=λq=>(h0.g4 q).hear (ht.upd c1 (c2.trans q)) c3 c4 }
  · exact h0
theorem PI.answer(h:PI e n it p le g){r q:Int}:iD e le g ⟨3,r,q,g.epoch,g.ver,0,le,0,0,[]⟩:=⟨h.g1.2,ai' _,λ_ q=>⟨q,ai' _⟩⟩
theorem PI.ack(h:PI e n it p le g){a:Spk}(hae:a.epoch=e)(hal:a.last=n)(ha:iD e le g x)(hv:0≤x.ver):PI e n it (dQ a x p) le g:=by
  subst hae;subst hal;have hV:0≤lA a x∧(x.pep=le→lA a x=0∨(g.epoch=a.epoch∧lA a x≤g.ver)):=by
    unfold lA
    split
    · rename_i c;exact⟨hv,λq=>.inr (ha.now q c.1)⟩
    · exact⟨ai' _,λ_=>.inl rfl⟩
  unfold dQ
  split
  · exact { h with p1:=ha.pe,p2:=hV.1,p3:=hV.2 }
  split
  · rename_i _ c
    refine { h with p1:=h.p1,p2:=?_,p3:=λq=>?_ }
    · simp only[il];split
      · exact hV.1
      · exact h.p2
    · simp only[il]at q ⊢
      split
      · exact hV.2 (c.trans q)
      · exact h.p3 q
  · exact h
def ek(g:Hrd)(l:List Sig):Hrd:=l.foldl aX g
theorem ft:∀{l:List Sig} {g:Hrd},(∀x∈l,x.epoch≤e)→yL e g (ek g l)
 | [],g,_=>⟨λq=>⟨q,ai' _⟩⟩
 | x::l,g,h=>⟨λq=>by
  obtain⟨a,b⟩:=(gO (g:=g) (h x (by simp))).now q;obtain⟨c,d⟩:=(ft (l:=l) (g:=aX g x) λy hy=>h y (by simp[hy])).now a;exact⟨c,by simp only[ek,ax']at d ⊢;omega⟩⟩
theorem nX(h:g.epoch≤e)(hx:x.epoch=e):(aX g x).epoch=e:=by
 unfold aX dF eD
 by_cases c:g.epoch<x.epoch
 ·rw[if_pos c];split<;>exact hx
 ·rw[u' c]
  split
  ·simp only;omega
  ·omega
theorem nr{s:Spk}{to acked:Int}(hs:s.epoch=e):∀(r d:List Itm) (prev:Int) (g:Hrd),g.epoch=e→acked≤g.ver→prev≤g.ver→(∀y∈d,y.ver≤g.ver) →
  (ek g (aM s to acked prev r)).epoch=e∧g.ver≤(ek g (aM s to acked prev r)).ver∧∀y∈d++r,y.ver≤(ek g (aM s to acked prev r)).ver
 | [],d,prev,g,h1,h2,h3,h4=>⟨h1,ai' _,by simpa[aM,ek]using h4⟩
 | y::r,d,prev,g,h1,h2,h3,h4=>by
  by_cases c:acked<y.ver
  ·have e1:aM s to acked prev (y::r)=lI s to prev y::aM s to acked y.ver r:=by simp[aM,c]
   rw[e1];have hg:=gO (g:=g) (x:=lI s to prev y) (e:=e) (by simp only[lI];omega);obtain⟨q1,q2⟩:=hg.now h1;have hy:y.ver≤(aX g (lI s to prev y)).ver:=by
    unfold aX;rw[show eD g (lI s to prev y)=g from u' (by simp only[lI];omega)];unfold dF
    split
    ·exact ai' _
    ·rename_i c2;refine af' λc3=>c2 ⟨rfl,by simp only[lI];omega,h3,by simp only[lI];omega⟩
   obtain⟨r1,r2,r3⟩:=nr (to:=to) (acked:=acked) hs r (d++[y]) y.ver (aX g (lI s to prev y)) q1 (by omega) hy λz hz=>by
    rcases L'.mp hz with hz|hz
    ·have:=h4 z hz;omega
    ·rw[O']at hz;subst hz;exact hy
   refine⟨r1,?_,λz hz=>r3 z (by simpa using hz)⟩;show g.ver≤(ek (aX g (lI s to prev y)) _).ver;omega
  ·have e1:aM s to acked prev (y::r)=aM s to acked y.ver r:=by simp[aM,c]
   rw[e1];obtain⟨r1,r2,r3⟩:=nr (to:=to) (acked:=acked) hs r (d++[y]) y.ver g h1 h2 (by omega) λz hz=>by
    rcases L'.mp hz with hz|hz
    ·exact h4 z hz
    ·rw[O']at hz;subst hz;omega
   exact⟨r1,r2,λz hz=>r3 z (by simpa using hz)⟩
theorem PI.full(h:PI e n it p le g){s:Spk}{to acked:Int}(he:s.epoch=e)(hn:s.last=n)(hi:s.items=it)(hg:g.epoch≤e)(h3:acked=0∨(g.epoch=e∧acked≤g.ver))
  {g':Hrd} (hg':g'=ek g (cw s to::aM s to acked 0 s.items)) (hg2:0≤g'.ver) (hg4:g'.epoch=e→iC n it g'):g'.epoch=e∧g'.ver=n:=by
 have e0:ek g (cw s to::aM s to acked 0 s.items)=ek (aX g (cw s to)) (aM s to acked 0 s.items):=rfl;have h1:(aX g (cw s to)).epoch=e:=nX hg (by simp only[cw];exact he);have h2:acked≤(aX g (cw s to)).ver∧0≤(aX g (cw s to)).ver:=by
  have hv:0≤(aX g (cw s to)).ver:=by
   unfold aX dF eD;have:=h.g2;split<;>split<;>first|simp[cw];done|simp[cw]at *<;>omega
  refine⟨?_,hv⟩
  rcases h3 with rfl|⟨q1,q2⟩
  ·exact hv
  ·have:=(gO (g:=g) (x:=cw s to) (e:=e) (by simp only[cw];omega)).now q1;omega
 obtain⟨r1,r2,r3⟩:=nr (to:=to) (acked:=acked) he s.items [] 0 (aX g (cw s to)) h1 h2.1 h2.2 (by simp);rw[←e0,←hg']at r1 r2 r3;rw[bA',hi]at r3;have:=h.last.all hg2 r3;have:=(hg4 r1).le;exact⟨r1,by omega⟩
structure qU (e n:Int) (p:Per) (le:Int) (g:Hrd):Prop where
  ge:g.epoch=e
  gv:g.ver=n
  pe:p.epoch=le
  pa:p.acked=n
theorem qU.hear(h:PI e n it p le g)(hd:qU e n p le g)(hk:x.kind≠3)(ht:gA e n it x):aX g x=g:=by
 have h0:eD g x=g:=u' (by have:=ht.ep;have:=hd.ge;omega);unfold aX;rw[h0];unfold dF;rw[u'];rintro⟨c1,c2,c3,c4⟩;have:=(ht.upd c1 (c2.trans hd.ge)).le;have:=hd.gv;omega
theorem PI.done_ack(h:PI e n it p le g){a:Spk}(hae:a.epoch=e)(hal:a.last=n)(hg:g.epoch=e∧g.ver=n)(h1:x.epoch=e)(h2:x.ver=n)(h3:x.pep=le):qU e n (dQ a x p) le g:=by
 have hV:lA a x=n:=by unfold lA;rw[if_pos ⟨by omega,by omega⟩];exact h2
 have hp:=h.p1
 refine⟨hg.1,hg.2,?_,?_⟩
 ·unfold dQ
  split
  ·exact h3
  ·rw[if_pos (by omega)];simp only;omega
 ·unfold dQ
  split
  ·exact hV
  ·rename_i c;rw[if_pos (by omega)];simp only[il,hV];have h3':=h.p3 (by omega);have:=h.n0
   split
   ·rfl
   ·rename_i q;omega
end
def Bp(x:Wnt)(l:List Wnt):List Wnt:=l++[x]
def mH(y:Wnt)(l:List Wnt):List Wnt:=if noF ⟨y.mode,y.srcs⟩=true then l else l++[y]
def FU(x y:Wnt)(l:List Wnt):List Wnt:=mH y l
def Bn(r:List Wnt):AV:=.tup []
def Bo(r:List Wnt):List (Option Blk):=[some (.box (.vec 2)),none,some (.vec 3 (r.map Wnt.v))]
def Bm(x:Wnt)(out:List Wnt):Ax Tryz.prog noS ((List Wnt)):=
 (.req 114 (x.srcs.length≤1000000) λh1 =>
(.callP (i7 x h1)
(.apX 146 Wnt.v out [x] (out.length+1)
(.retH (out++[x]) ⟨[],[.box (.vec 2),.gone,vB 3 Wnt.v (out++[x]) (λ_=>rfl)]⟩ [0,1,146]))))
theorem T4(x:Wnt)(l:List Wnt)(h:x.srcs.length≤1000000)(hl:l.length≤900000):(Bm x l).vc Bn Bo (Bp x l):=by
 dsimp only[Bm,noS,Ax.vp,Ax.vc];simp only[vcU,rfU,f'];exact⟨h,by omega,rfl⟩
def T5(x:Wnt)(out:List Wnt)(h:x.srcs.length≤1000000)(hl:out.length≤900000):HC Tryz.prog:=hcO 333 [.k,.k,.k] [.rptr (Wnt.v x) 0,.val (.pointer none),.ref 0 0] [.box (.vec 1),.vec 3 (out.map Wnt.v)] .k Bn Bo (Bp x out) (λ_ _=>⟨(Bm x out),T4 x out h hl,by kernel_rfl⟩) (by kernel_rfl) (by simp[hcB,bJ,AV.belB,allB,cF,bW,Bn,Bo,ae (v:=AV.int) (λ_=>rfl),ae (v:=Wnt.v) (λ_=>rfl)])
def Bi(r:List Wnt):AV:=.tup []
def Bl(r:List Wnt):List (Option Blk):=[some (.box (.vec 2)),none,some (.vec 3 (r.map Wnt.v))]
def Bh(y:Wnt)(out:List Wnt):Ax Tryz.prog noS ((List Wnt)):=
 (.callP (Iq (⟨y.mode,y.srcs⟩:Flt))
(.br 162 (!(noF (⟨y.mode,y.srcs⟩:Flt))) (.req 226 (y.srcs.length≤1000000) λh1 =>
(.callP (i7 y h1)
(.apX 258 Wnt.v out [y] (out.length+1)
(.retH (out++[y]) ⟨[],[.box (.vec 2),.gone,vB 3 Wnt.v (out++[y]) (λ_=>rfl)]⟩ [0,1,258]))))
(.retH out ⟨[],[.box (.vec 2),.gone,vB 3 Wnt.v out (λ_=>rfl)]⟩ [0,1,1])))
theorem T2(y:Wnt)(l:List Wnt)(h:y.srcs.length≤1000000)(hl:l.length≤900000):(Bh y l).vc Bi Bl (mH y l):=by
 dsimp only[Bh,noS,Ax.vp,Ax.vc];simp only[vcU,rfU,f']
 refine⟨λe=>⟨h,by omega,?_⟩,λe=>?_⟩
 ·rw[mH,u' (by simpa using e)]
 ·rw[mH,if_pos (by simpa using e)]
def T3(y:Wnt)(out:List Wnt)(h:y.srcs.length≤1000000)(hl:out.length≤900000):HC Tryz.prog:=hcO 333 [.k,.k,.k] [.val (.pointer none),.rptr (Wnt.v y) 0,.ref 0 0] [.box (.vec 1),.vec 3 (out.map Wnt.v)] .k Bi Bl (mH y out) (λ_ _=>⟨(Bh y out),T2 y out h hl,by kernel_rfl⟩) (by kernel_rfl) (by simp[hcB,bJ,AV.belB,allB,cF,bW,Bi,Bl,ae (v:=AV.int) (λ_=>rfl),ae (v:=Wnt.v) (λ_=>rfl)])
def Bf(r:List Wnt):AV:=.tup []
def Bg(r:List Wnt):List (Option Blk):=[some (.box (.vec 2)),none,some (.vec 3 (r.map Wnt.v))]
def Bd(x:Wnt)(y:Wnt)(out:List Wnt):Ax Tryz.prog noS ((List Wnt)):=
 (.callP (Iq (⟨y.mode,y.srcs⟩:Flt))
(.br 162 (!(noF (⟨y.mode,y.srcs⟩:Flt))) (.req 226 (y.srcs.length≤1000000) λh1 =>
(.callP (i7 y h1)
(.apX 258 Wnt.v out [y] (out.length+1)
(.retH (out++[y]) ⟨[],[.box (.vec 2),.gone,vB 3 Wnt.v (out++[y]) (λ_=>rfl)]⟩ [0,1,258]))))
(.retH out ⟨[],[.box (.vec 2),.gone,vB 3 Wnt.v out (λ_=>rfl)]⟩ [0,1,1])))
theorem T0(x y:Wnt)(l:List Wnt)(h:y.srcs.length≤1000000)(hl:l.length≤900000):(Bd x y l).vc Bf Bg (FU x y l):=by
 dsimp only[Bd,noS,Ax.vp,Ax.vc];simp only[vcU,rfU,f']
 refine⟨λe=>⟨h,by omega,?_⟩,λe=>?_⟩
 ·rw[FU,mH,u' (by simpa using e)]
 ·rw[FU,mH,if_pos (by simpa using e)]
def T1(x:Wnt)(y:Wnt)(out:List Wnt)(h:y.srcs.length≤1000000)(hl:out.length≤900000):HC Tryz.prog:=hcO 333 [.k,.k,.k] [.rptr (Wnt.v x) 0,.rptr (Wnt.v y) 0,.ref 0 0] [.box (.vec 1),.vec 3 (out.map Wnt.v)] .k Bf Bg (FU x y out) (λ_ _=>⟨(Bd x y out),T0 x y out h hl,by kernel_rfl⟩) (by kernel_rfl) (by simp[hcB,bJ,AV.belB,allB,cF,bW,Bf,Bg,ae (v:=AV.int) (λ_=>rfl),ae (v:=Wnt.v) (λ_=>rfl)])
def dD:List Wnt→List Wnt→List Wnt→List Wnt
 | [],[],l=>l
 | x::a,[],l=>dD a [] (Bp x l)
 | [],y::b,l=>dD [] b (mH y l)
 | x::a,y::b,l=>if x.grp<y.grp then dD a (y::b) (Bp x l)else if y.grp<x.grp then dD (x::a) b (mH y l)else dD a b (FU x y l)
termination_by a b=>a.length+b.length
def sa(a b l:List Wnt):Prop:=a.length≤1000∧b.length≤1000∧l.length≤100000∧(∀x∈a,x.srcs.length≤1000000)∧∀x∈b,x.srcs.length≤1000000
def Oj(a:List Wnt)(b:List Wnt)(out:List Wnt):=okL [.sl 3 (a.map Wnt.v) false,.sl 3 (b.map Wnt.v) false,.func 333 [.ref 0 0]]∧(.box (.vec 1):Blk).ok∧(.vec 3 (out.map Wnt.v):Blk).ok
def IL(t0:List Wnt×List Wnt×List Wnt):NF:=⟨[(0,(.s 3),.sl 3 (t0.1.map Wnt.v) false),(1,(.s 3),.sl 3 (t0.2.1.map Wnt.v) false),(2,.k,.func 333 [.ref 0 0])],[.box (.vec 2),.gone,vB 3 Wnt.v t0.2.2 (λ_=>rfl)]⟩
def IK(t0:List Wnt×List Wnt×List Wnt)(t1:Unit):NF:=⟨[(0,.k,.sl 3 (t0.1.map Wnt.v) false),(1,.k,.sl 3 (t0.2.1.map Wnt.v) false),(2,.k,.func 333 [.ref 0 0])],[.box (.vec 2),.gone,vB 3 Wnt.v t0.2.2 (λ_=>rfl)]⟩
def IJ(t0:List Wnt×List Wnt×List Wnt)(t2:Int):NF:=⟨[(0,.k,.sl 3 (t0.1.map Wnt.v) false),(1,.k,.sl 3 (t0.2.1.map Wnt.v) false),(2,.k,.func 333 [.ref 0 0]),rI 6 t2],[.box (.vec 2),.gone,vB 3 Wnt.v t0.2.2 (λ_=>rfl)]⟩
@[reducible] def CQ:Nat→Type
 | 0=>(List Wnt)×List Wnt×List Wnt
 | 1=>Unit
 | 2=>Int
 | _=>Unit
def tZ(r:List Wnt):AV:=.tup []
def ua(r:List Wnt):List (Option Blk):=[some (.box (.vec 2)),none,some (.vec 3 (r.map Wnt.v))]
def CP(a:List Wnt)(b:List Wnt)(out:List Wnt)(I0:(List Wnt×List Wnt×List Wnt)→Prop)(m0:(List Wnt×List Wnt×List Wnt)→Nat):Ax Tryz.prog CQ ((List Wnt)):=
 (.loop 0 (IL) I0 m0 (a,b,out) [0,1,1] λ(t0:List Wnt×List Wnt×List Wnt) b0 =>
(.join 1 (IK t0) (λ(t1:Unit)=>(bif (decide (0<((t0.1.map Wnt.v).length:Int)))then true else(bif (decide (0<((t0.2.1.map Wnt.v).length:Int)))then true else false))=true) (λb1=>(.br 67 (decide (0<((t0.1.map Wnt.v).length:Int))) (.bk 1 b1 ((()):Unit) [0,1,2])
(.br 131 (decide (0<((t0.2.1.map Wnt.v).length:Int))) (.bk 1 b1 ((()):Unit) [0,1,2])
(.retH t0.2.2 ⟨[],[.box (.vec 2),.gone,vB 3 Wnt.v t0.2.2 (λ_=>rfl)]⟩ [0,1,2])))) λ(t1:Unit) =>
(.pass (.join 2 (IJ t0) (λ(t2:Int)=>((((t0.1.map Wnt.v).length:Int)==0)=true∧t2=((1):Int))∨((((t0.1.map Wnt.v).length:Int)==0)=false∧(((t0.2.1.map Wnt.v).length:Int)==0)=true∧t2=((-1):Int))∨((((t0.1.map Wnt.v).length:Int)==0)=false∧(((t0.2.1.map Wnt.v).length:Int)==0)=false∧∃x1':Wnt,t0.1[0]?=some x1'∧∃x2':Wnt,t0.2.1[0]?=some x2'∧t2=((cmpI x1'.grp x2'.grp):Int))) (λb2=>(.br 83 (((t0.1.map Wnt.v).length:Int)==0) (.bk 2 b2 ((1):Int) [0,1,2])
(.br 147 (((t0.2.1.map Wnt.v).length:Int)==0) (.bk 2 b2 ((-1):Int) [0,1,2])
(.el 163 Wnt.v t0.1 (λR=>Rf (t0.1.map Wnt.v) (ck (decide (0<(t0.1.length:Int)))
(∀x1,t0.1[0]?=some x1 →
(R x1)))) λx1 =>
(.el 227 Wnt.v t0.2.1 (λR=>Rf (t0.2.1.map Wnt.v) (ck (decide (0<(t0.2.1.length:Int)))
(∀x2,t0.2.1[0]?=some x2 →
(R x2)))) λx2 =>
(.callP (nG x1.grp x2.grp)
(.bk 2 b2 ((cmpI x1.grp x2.grp):Int) [0,1,2]))))))) λ(t2:Int) =>
(.br 67 (decide (t2≤0)) (.el 83 Wnt.v t0.1 (λR=>Rf (t0.1.map Wnt.v) (ck (decide (0<(t0.1.length:Int)))
(∀x3,t0.1[0]?=some x3 →
(R x3)))) λx3 =>
(.say (λR=>Rf (α:=List AV) (t0.1.map Wnt.v) (ck (cj t0.1.length 1 (t0.1.length:Int) (t0.1.length:Int))
R)) (.sub 115 Wnt.v t0.1 false
(.br 195 (decide (0≤t2)) (.el 211 Wnt.v t0.2.1 (λR=>Rf (t0.2.1.map Wnt.v) (ck (decide (0<(t0.2.1.length:Int)))
(∀x4,t0.2.1[0]?=some x4 →
(R x4)))) λx4 =>
(.say (λR=>Rf (α:=List AV) (t0.2.1.map Wnt.v) (ck (cj t0.2.1.length 1 (t0.2.1.length:Int) (t0.2.1.length:Int))
R)) (.sub 243 Wnt.v t0.2.1 false
(.req 339 (x4.srcs.length≤1000000) λh5 =>
(.req 339 (t0.2.2.length≤900000) λh6 =>
(.callH [0,2] (T1 x3 x4 t0.2.2 h5 h6) 339
(.bk 0 b0 ((t0.1.take ((t0.1.length:Int).toNat)).drop 1,(t0.2.1.take ((t0.2.1.length:Int).toNat)).drop 1,FU x3 x4 t0.2.2) [0,1,339])))))))
(.req 243 (x3.srcs.length≤1000000) λh7 =>
(.req 243 (t0.2.2.length≤900000) λh8 =>
(.callH [0,2] (T5 x3 t0.2.2 h7 h8) 243
(.bk 0 b0 ((t0.1.take ((t0.1.length:Int).toNat)).drop 1,t0.2.1,Bp x3 t0.2.2) [0,1,243]))))))))
(.br 99 (decide (0≤t2)) (.el 115 Wnt.v t0.2.1 (λR=>Rf (t0.2.1.map Wnt.v) (ck (decide (0<(t0.2.1.length:Int)))
(∀x9,t0.2.1[0]?=some x9 →
(R x9)))) λx9 =>
(.say (λR=>Rf (α:=List AV) (t0.2.1.map Wnt.v) (ck (cj t0.2.1.length 1 (t0.2.1.length:Int) (t0.2.1.length:Int))
R)) (.sub 147 Wnt.v t0.2.1 false
(.req 243 (x9.srcs.length≤1000000) λh10 =>
(.req 243 (t0.2.2.length≤900000) λh11 =>
(.callH [0,2] (T3 x9 t0.2.2 h10 h11) 243
(.bk 0 b0 (t0.1,(t0.2.1.take ((t0.2.1.length:Int).toNat)).drop 1,mH x9 t0.2.2) [0,1,243])))))))
(.say (λ_=>False) .nil)))))))
theorem qQ(y:Wnt)(o:List Wnt):(mH y o).length≤o.length+1:=by unfold mH;split<;>simp
theorem FP(n:Nat):cj (n+1) 1 ((n:Int)+1) ((n:Int)+1)=true:=by simp[cj];omega
theorem Oh(a b l:List Wnt)(h:sa a b l)(ok:Oj a b l):∃I m,(CP a b l I m).vc tZ ua (dD a b l):=by
 obtain⟨h1,h2,h3,h4,h5⟩:=h;refine⟨λt=>dD t.1 t.2.1 t.2.2=dD a b l∧t.1.length+t.2.1.length+t.2.2.length≤102000∧(∀x∈t.1,x.srcs.length≤1000000)∧∀x∈t.2.1,x.srcs.length≤1000000,λt=>t.1.length+t.2.1.length,?_⟩;dsimp only[CP,CQ,Ax.vp,Ax.vc];simp only[vcU,rfU,f'];refine⟨⟨trivial,by omega,h4,h5⟩,?_⟩;rintro⟨A,B,o⟩ ⟨hm,hl,hA,hB⟩;clear ok;simp only at hm hl hA hB;cases A with
 | nil=>cases B with
  | nil =>
   simp;rw[←hm,dD]
  | cons y B =>
   simp[FP];have hb:=qQ y o;rw[dD]at hm;simp only[Z',aC']at hl;exact⟨hm,by omega,by omega,hB y (by simp),λz hz=>hB z (by simp[hz])⟩
 | cons x A =>
  have ea:¬((A.length:Int)+1=0):=by omega
  cases B with
  | nil =>
   simp[FP,ea];rw[dD]at hm;simp only[Z',aC']at hl;exact⟨hm,by simp[Bp];omega,by omega,hA x (by simp),λz hz=>hA z (by simp[hz])⟩
  | cons y B =>
   have eb:¬((B.length:Int)+1=0):=by omega
   simp[FP,ea,eb];have hb:=qQ y o;rw[dD]at hm;simp only[Z']at hl;have hx:=hA x (by simp);have hy:=hB y (by simp);have hA':∀z∈A,z.srcs.length≤1000000:=λz hz=>hA z (by simp[hz]);have hB':∀z∈B,z.srcs.length≤1000000:=λz hz=>hB z (by simp[hz]);have hgt:0<cmpI x.grp y.grp↔y.grp<x.grp:=by
    have:=jA x.grp y.grp;have:=nF x.grp y.grp;omega
   have hlt:=jA x.grp y.grp;have heq:=nF x.grp y.grp
   refine⟨λc=>⟨λd=>⟨⟨?_,?_,hA',hB'⟩,by omega,hy,by omega⟩,λd=>⟨?_,by simp[Bp];omega,hA',hy,by omega,hx,hB'⟩⟩,λc=>⟨λd=>⟨?_,by omega,⟨hx,hA'⟩,by omega,hy,hB'⟩,by omega⟩⟩
   ·rw[u' (by omega),u' (by omega)]at hm;exact hm
   ·show A.length+B.length+(mH y o).length≤_;omega
   ·rw[if_pos (by omega)]at hm;exact hm
   ·rw[u' (by omega),if_pos (by omega)]at hm;exact hm
def Oi(a:List Wnt)(b:List Wnt)(out:List Wnt)(h:sa a b out):HC Tryz.prog:=hcO 248 [(.s 3),(.s 3),.k] [.sl 3 (a.map Wnt.v) false,.sl 3 (b.map Wnt.v) false,.func 333 [.ref 0 0]] [.box (.vec 1),.vec 3 (out.map Wnt.v)] .k tZ ua (dD a b out) (λok ok2=>let ⟨I0,m0,h⟩:=Oh a b out h ⟨ok,ok2 _ (by simp),ok2 _ (by simp)⟩;⟨_,h,by kernel_rfl⟩) (by kernel_rfl) (by simp[hcB,bJ,AV.belB,allB,cF,bW,tZ,ua,ae (v:=Wnt.v) (λ_=>rfl)])
def eM(l:List Wnt):List Wnt×Int:=if 32<l.length then([],3)else(l,0)
def sk(r:List Wnt×Int):AV:=.tup [.sl 3 (r.1.map Wnt.v) false,.int r.2]
def nk(l:List Wnt):Ax Tryz.prog noS (List Wnt×Int):=
 (.br 80 (decide (32<((l.map Wnt.v).length:Int))) (.ret ([],3))
(.ret (l,0)))
theorem EN(l:List Wnt):(nk l).vp sk (eM l):=by
 dsimp only[nk,noS,Ax.vp,Ax.vc];simp only[vcU,rfU,f'];refine⟨λe=>by rw[eM,if_pos (by omega)],λe=>by rw[eM,u' (by omega)]⟩
def sq(l:List Wnt):PC Tryz.prog:=pcO 251 [(.s 3)] [.sl 3 (l.map Wnt.v) false] (.a [(.s 3),.k]) sk (eM l) (λ_=>⟨(nk l),EN l,by kernel_rfl⟩) rfl (by kernel_rfl)
def iV(old c:List Wnt):List Wnt×Int:=
 if aI false old≠0 then([],aI false old)else if aI true c≠0 then([],aI true c)else eM (dD old c [])
theorem gY{chg:Bool}{l:List Wnt}(h:aI chg l=0):l.length≤32∧∀x∈l,x.srcs.length≤1000000:=by
 have h:=bx.mp h;exact⟨h.1,λx hx=>by have:=fY (h.2.2.1 x hx);omega⟩
def yu(r:List Wnt×Int):AV:=.tup [.sl 3 (r.1.map Wnt.v) false,.int r.2]
def qO(old:List Wnt)(ah:List Wnt):Ax Tryz.prog noS (List Wnt×Int):=
 (.callP (oT old)
(.callP (yd ah true)
(.callP (vZ [aI false old,aI true ah])
(.br 176 ((orI [aI false old,aI true ah]) != 0) (.ret ([],orI [aI false old,aI true ah]))
(.wait (.cmd (.nilC 176 3) (.req 241 (sa old ah []) λh1 =>
(.callH [176,192] (Oi old ah [] h1) 241
(.say (Rf ((dD old ah []).map Wnt.v)) (.cmd (.frzE 241 ((dD old ah []).map Wnt.v) (ae (λ_=>rfl) (dD old ah []))) (.callP (sq (dD old ah []))
(.ret ((eM (dD old ah [])).1,(eM (dD old ah [])).2)))))))))))))
theorem LF(a c:List Wnt):(qO a c).vp yu (iV a c):=by
 dsimp only[qO,noS,Ax.vp,Ax.vc];simp only[vcU,rfU,f'];rw[ma];by_cases h1:aI false a=0
 case neg=>simp[iV,h1]
 by_cases h2:aI true c=0
 case neg=>simp[iV,h1,h2]
 have b1:=gY h1;have b2:=gY h2;refine⟨λe=>by simp[h1,h2]at e,λ_=>?_⟩;refine⟨⟨by omega,by omega,by simp,b1.2,b2.2⟩,?_⟩;rw[iV,u' (not_not_intro h1),u' (not_not_intro h2)]
def LG(old:List Wnt)(ah:List Wnt):PC Tryz.prog:=pcO 259 [(.s 3),(.s 3)] [.sl 3 (old.map Wnt.v) false,.sl 3 (ah.map Wnt.v) false] (.a [(.s 3),.k]) yu (iV old ah) (λ_=>⟨(qO old ah),LF old ah,by kernel_rfl⟩) rfl (by kernel_rfl)
theorem se:∀(c l:List Wnt),(dD [] c l).length≤c.length+l.length
 | [],l=>by rw[dD];simp
 | y::c,l=>by
  rw[dD];have:=se c (mH y l);have:=qQ y l;simp only[Z'];omega
theorem Bb(c:List Wnt):(iV [] c).2=aI true c:=by
 have h1:aI false []=0:=bx.mpr ⟨by simp,by simp,by simp,by simp,List.Pairwise.nil⟩;rw[iV,u' (not_not_intro h1)]
 by_cases h2:aI true c=0
 ·have:=gY h2;have:=se c [];rw[u' (not_not_intro h2),eM,u' (by simp only[aC']at this;omega)];exact h2.symm
 ·rw[if_pos h2]
def sV(s:Spk)(ah:List Wnt):=okL [Spk.v s,.sl 3 (ah.map Wnt.v) false]
def AU(s:Spk)(ah:List Wnt)(t0:Int×Int×List Itm):NF:=⟨[rR 2 0,rR 4 1,(34,.k,.sl 3 (ah.map Wnt.v) false),rI 35 ((ah.map Wnt.v).length:Int),rI 36 t0.1],[.box (Spk.v (⟨s.router,s.epoch,t0.2.1,t0.2.2,s.peers⟩:Spk)),.box (.agg [.int 0,.int 0,.int 0,.sl 0 [] true,.sl 0 [] true])]⟩
@[reducible] def sT:Nat→Type
 | 0=>Int×Int×List Itm
 | _=>Unit
def sU(r:Spk×Int):AV:=.tup [Spk.v r.1,.int r.2]
def sS(s:Spk)(ah:List Wnt)(I0:(Int×Int×List Itm)→Prop)(m0:(Int×Int×List Itm)→Nat):Ax Tryz.prog sT (Spk×Int):=
 (.callP (yT s)
(.br 128 ((cI s) != 0) (.ret ((⟨0,0,0,[],[]⟩:Spk),cI s))
(.callP (LG [] ah)
(.br 272 (((iV [] ah).2) != 0) (.ret ((⟨0,0,0,[],[]⟩:Spk),(iV [] ah).2))
(.req 304 (fF s.items) λh1 =>
(.callH [] (xQ s.items 0 h1) 304
(.req 352 (s.peers.length≤1000000) λh2 =>
(.callH [] (xU s.peers h2) 352
(.say (Rf ((without 0 s.items).map Itm.v)) (.cmd (.frzE 304 ((without 0 s.items).map Itm.v) (ae (λ_=>rfl) (without 0 s.items))) (.say (Rf (s.peers.map Per.v)) (.cmd (.frzE 352 (s.peers.map Per.v) (ae (λ_=>rfl) s.peers)) (.loop 0 (AU s ah) I0 m0 (0,s.last,without 0 s.items) [0,16] λ(t0:Int×Int×List Itm) b0 =>
(.br 18 (decide (t0.1<((ah.map Wnt.v).length:Int))) (.elI 18 Wnt.v ah t0.1 λx3 =>
(.callP (M7 t0.2.2 x3.grp)
(.callP (uZ (nQ t0.2.2 x3.grp) (⟨x3.mode,x3.srcs⟩:Flt))
(.br 210 (ou (nQ t0.2.2 x3.grp) (⟨x3.mode,x3.srcs⟩:Flt)) (.bk 0 b0 (W (t0.1+1),t0.2.1,t0.2.2) [0,1])
(.br 258 (t0.2.1==1000000) (.ret ((⟨0,0,0,[],[]⟩:Spk),3))
(.req 402 (fF t0.2.2) λh4 =>
(.callH [] (xQ t0.2.2 x3.grp h4) 402
(.req 514 ((⟨x3.mode,x3.srcs⟩:Flt).srcs.length≤1000000) λh5 =>
(.callP (iQ (⟨x3.mode,x3.srcs⟩:Flt) h5)
(.apX 562 Itm.v (without x3.grp t0.2.2) [(⟨W (t0.2.1+1),x3.grp,x3.mode,x3.srcs⟩:Itm)] ((without x3.grp t0.2.2).length+1)
(.say (Rf (((without x3.grp t0.2.2)++[(⟨W (t0.2.1+1),x3.grp,x3.mode,x3.srcs⟩:Itm)]).map Itm.v)) (.cmd (.frzE 562 (((without x3.grp t0.2.2)++[(⟨W (t0.2.1+1),x3.grp,x3.mode,x3.srcs⟩:Itm)]).map Itm.v) (ae (λ_=>rfl) ((without x3.grp t0.2.2)++[(⟨W (t0.2.1+1),x3.grp,x3.mode,x3.srcs⟩:Itm)]))) (.bk 0 b0 (W (t0.1+1),W (t0.2.1+1),(without x3.grp t0.2.2)++[(⟨W (t0.2.1+1),x3.grp,x3.mode,x3.srcs⟩:Itm)]) [0,1])))))))))))))
(.ret ((⟨s.router,s.epoch,t0.2.1,t0.2.2,s.peers⟩:Spk),0))))))))))))))))
theorem FL(s:Spk)(c:List Wnt)(ok:sV s c):∃I m,(sS s c I m).vp sU (change s c):=by
 simp only[sV,Spk.v,Wnt.v,okU,Blk.ok,aU,f']at ok;refine⟨λt=>t.2.1≤1000000∧∃k:Nat,t.1=k∧k≤c.length∧t.2=(c.take k).foldl bv (s.last,s.items),λt=>c.length-t.1.toNat,?_⟩;dsimp only[sS,sT,Ax.vp,Ax.vc];simp only[vcU,rfU,f'];by_cases hs:aW s
 case neg=>simp[change,cI,ja,hs,eG]
 rw[Bb];by_cases hc:aI true c=0
 case neg=>simp[change,cI,ja,hs,hc,eG]
 have fin:change s c=if 1000000<(c.foldl bv (s.last,s.items)).1 then(eG,3)
   else(⟨s.router,s.epoch,(c.foldl bv (s.last,s.items)).1,(c.foldl bv (s.last,s.items)).2,s.peers⟩,0):=by
  rw[change,u' (not_not_intro hs),u' (not_not_intro hc)]
 have hco:=fw hc;have hl0:=hs.2.2.1;have hpl:=hs.2.2.2.2.1;refine⟨λe=>by simp[cI,ja,hs]at e,λ_=>⟨λe=>by simp[hc]at e,λ_=>⟨sb hs.2.2.2.1,by omega,?_⟩⟩⟩;rw[td hs.2.2.2.1];refine⟨⟨hl0.2,0,rfl,by omega,rfl⟩,?_⟩;rintro⟨_,n,l⟩ ⟨hn,k,rfl,hk,hf⟩;simp only[Int.toNat_natCast]at *
 have st:=lm (c:=c.take k) hs.2.2.2.1 hl0.1 (λw hw=>hco w (T' hw));rw[←hf]at st;simp only at st
 refine⟨λh1=>⟨by omega,by omega,λw hw=>?_⟩,λh1=>?_⟩
 ·have hwo:=hco w (aq hw);have hsl:=fY hwo.2;have hto:ou (nQ l w.grp) ⟨w.mode,w.srcs⟩=true↔bO l w.grp=(w.mode,w.srcs):=by
   simp only[cE,nQ,decide_eq_true_eq,eO,Prod.ext_iff]
  have nx:(c.take (k+1)).foldl bv (s.last,s.items)=bv (n,l) w:=by
   rw[al hw,aW',←hf];rfl
  have tl:c.foldl bv (s.last,s.items)=(c.drop (k+1)).foldl bv (bv (n,l) w):=by
   rw[←nx,←aW',bg']
  rw[ao (n:=c.length) (by omega) (by omega)]
  refine⟨λe=>⟨⟨hn,k+1,rfl,by omega,?_⟩,by omega⟩,λe=>⟨λe2=>?_,λe2=>?_⟩⟩
  ·rw[nx,bv,if_pos (hto.mp e)]
  ·have e2:n=1000000:=by simpa using e2
   have h3:bv (n,l) w=(n+1,gC l ⟨n+1,w.grp,w.mode,w.srcs⟩):=by
    rw[bv,u' (λh=>by rw[hto.mpr h]at e;cases e)]
   have g:=DQ (n:=n) (l:=l) (w:=w) st.1 st.2.2.2 hwo;have:=(lm (c:=c.drop (k+1)) g.1 g.2.2.2 (λw hw=>hco w (ak' hw))).2.1.1
   rw[fin,if_pos]
   ·rfl
   ·rw[tl];rw[h3]at this ⊢;simp only at this;omega
  ·have e2:¬n=1000000:=by simpa using e2
   have h3:bv (n,l) w=(n+1,gC l ⟨n+1,w.grp,w.mode,w.srcs⟩):=by
    rw[bv,u' (λh=>by rw[hto.mpr h]at e;cases e)]
   have hok:=sb st.1;have hwl:(Go.Proofs.YtiobpjoadkfhdaaGreatDoor.without w.grp l).length≤900000:=aF' (bh' _ _) hok.1;rw[cf (by omega)];refine⟨hok,by show w.srcs.length≤_;omega,by omega,⟨by omega,k+1,rfl,by omega,?_⟩,by omega⟩;rw[nx,h3];rfl
 ·have hk:k=c.length:=by omega
  subst hk;rw[aj']at hf;rw[fin,←hf,u' (by simp only;omega)]
def Lj(s:Spk)(ah:List Wnt):PC Tryz.prog:=pcO 144 [(.a [.k,.k,.k,(.s 4),(.s 3)]),(.s 3)] [Spk.v s,.sl 3 (ah.map Wnt.v) false] (.a [(.a [.k,.k,.k,(.s 4),(.s 3)]),.k]) sU (change s ah) (λok=>let ⟨I0,m0,h⟩:=FL s ah ok;⟨_,h,by kernel_rfl⟩) rfl (by kernel_rfl)
structure ES where
  e:Int
  a:Spk
  l:Lsn
  air:List Sig
  p:Nat
def es0(p:Nat):ES:=⟨0,⟨1,1,0,[],[⟨2,0,0⟩]⟩,⟨2,1,[]⟩,[],p⟩
end Go.Proofs.YtiobpjoadkfhdaaGreatDoor
namespace Go.Am
open Go.Proofs Go.Shelf Go.RowKit Go.Lib Go.Sort
theorem xp{α:Type}[Inhabited α](enc:α→List Value)(k:Nat)(k0:0<k)(hk:∀x,(enc x).length=k):∀l:List α,
  (List.range (l.length * k)).map (λt=>(enc l[t / k]!)[t % k]!)=l.flatMap enc
 | []=>by simp
 | x::l=>by
  have ih:=xp enc k k0 hk l;rw[ap',←ih,Z',Nat.succ_mul,Nat.add_comm,List.range_add,List.map_append,aV']
  congr 1
  ·refine bd' (by simp[hk]) λi h1 h2=>?_;have hi:i<k:=by simpa using h1
   simp[Nat.div_eq_of_lt hi,Nat.mod_eq_of_lt hi,h2]
  ·refine aE' λt _=>?_;simp[Function.comp,Nat.add_div_left t k0]
theorem qd{α:Type}[Inhabited α](enc:α→List Value)(k:Nat)(k0:0<k)(hk:∀x,(enc x).length=k)(d:Array α):(flatK enc k d).toList=d.toList.flatMap enc:=by
 rw[←xp enc k k0 hk d.toList];unfold flatK;simp[List.getElem!_eq_getElem?_getD,Array.getElem!_eq_getD,bB']
section
variable {T : Type} (key : T → Int) (k : Nat)
structure SE where
  x:T
  cs:List Value
  ok:cs.length=k∧(∀u∈cs,u.oneCell'=true)∧∃r,cs=.int .i64 (key x)::r
variable {key k}
theorem SE.list{w:World}{A:Nat→Prop}{μ:Mu}{v:T→AV}(hv:∀x,∃cs,v x=.agg (.int (key x)::cs)) :
  ∀{l:List T} {vs:List Value},RVL w A (l.map v) μ vs→(∀u∈vs,u.cells.size=k)→∃ds:List (SE key k),ds.map SE.x=l∧vs=ds.map (λp=>.agg p.cs.toArray)∧∀p∈ds,RV w A (v p.x) μ (.agg p.cs.toArray)
 | [],vs,h,_=>⟨[],rfl,h,by simp⟩
 | x::l,_,⟨u,vs,rfl,h1,h2⟩,hs=>by
  obtain⟨ds,e1,e2,e3⟩:=SE.list hv h2 λu hu=>hs u (bM' _ hu);obtain⟨cs,hc⟩:=hv x;have h1':=h1;rw[hc]at h1;obtain⟨us,rfl,g1,g2⟩:=h1;obtain⟨u0,us',rfl,g3,g4⟩:=g1;obtain⟨rfl,g5⟩:=g3;have hl:(Value.int .i64 (key x)::us').length=k:=by
   have:=hs _ (List.mem_cons_self ..);simpa[Value.cells]using this
  exact⟨⟨x,.int .i64 (key x)::us',hl,g2,us',rfl⟩::ds,by rw[au',e1],by rw[au',e2],λp hp=>by
   rcases P'.mp hp with rfl|hp
   ·exact h1'
   ·exact e3 p hp⟩
theorem SE.rvl{w:World}{A:Nat→Prop}{μ:Mu}{v:T→AV}:∀{ds:List (SE key k)},(∀p∈ds,RV w A (v p.x) μ (.agg p.cs.toArray))→RVL w A ((ds.map SE.x).map v) μ (ds.map λp=>.agg p.cs.toArray)
 | [],_=>rfl
 | p::ds,h=>⟨_,_,rfl,h p (List.mem_cons_self ..),SE.rvl λq hq=>h q (bM' _ hq)⟩
end
theorem M8{T:Type}(key:T→Int):SWO (ltOf λx y:T=>Lib.compareInt (key x) (key y)):=by
 have e:∀x y:T,ltOf (λx y:T=>Lib.compareInt (key x) (key y)) x y=decide (key x<key y):=λx y=>by
  unfold ltOf Lib.compareInt
  by_cases h1:key x<key y
  ·simp[h1]
  ·by_cases h2:key y<key x<;>simp[h1,h2]
 refine⟨λx=>?_,λx y z h1 h2=>?_,λx y z h1 h2=>?_⟩
 ·rw[e];simp
 ·rw[e]at *;simp at *;omega
 ·rw[e]at *;simp at *;omega
theorem Sl{T:Type}(key:T→Int)(x y:T):ltOf (λx y:T=>Lib.compareInt (key x) (key y)) x y=decide (key x<key y):=by
 unfold ltOf Lib.compareInt
 by_cases h1:key x<key y
 ·simp[h1]
 ·by_cases h2:key y<key x<;>simp[h1,h2]
theorem k9{T:Type}{key:T→Int}:∀{a b:List T},a.Perm b→a.Pairwise (λx y=>key x≤key y)→b.Pairwise (λx y=>key x<key y)→a=b
 | [],b,h,_,_=>(List.nil_perm.mp h).symm
 | x::a,[],h,_,_=>absurd h.length_eq (by simp)
 | x::a,y::b,h,h1,h2=>by
  have hxy:x=y:=by
   have m1:=h.mem_iff.mp (List.mem_cons_self (a:=x) (l:=a));have m2:=h.mem_iff.mpr (List.mem_cons_self (a:=y) (l:=b))
   rcases P'.mp m1 with e|m1
   ·exact e
   rcases P'.mp m2 with e|m2
   ·exact e.symm
   have g1:=(an'.mp h1).1 y m2;have g2:=(an'.mp h2).1 x m1;omega
  subst hxy;rw[k9 ((List.perm_cons _).mp h) (an'.mp h1).2 (an'.mp h2).2]
theorem Fb{α:Type}[Inhabited α]{enc:α→List Value}{k:Nat}{w:World}{blk n:Nat}{d:Array α}{os:Array Obj}{C:Array Value}{ty:TypeId}(h:w.heap[blk]?=some (.cells C ty (0,0))) :
  (sortWorldK enc k w blk 0 n d os).heap[blk]?=some (.cells (putCells id 0 (flatK enc k d) C) ty (0,0))∧(∀b,b<w.heap.size→b≠blk→(sortWorldK enc k w blk 0 n d os).heap[b]?=w.heap[b]?) ∧
  w.heap.size≤(sortWorldK enc k w blk 0 n d os).heap.size:=by
 have hb:blk<w.heap.size:=(bb'.mp h).1;have e:(sortWorldK enc k w blk 0 n d os).heap=w.heap.modify blk (onCells (putCells id 0 (flatK enc k d)))++os:=rfl;rw[e]
 refine⟨?_,λb h1 h2=>?_,by simp⟩
 ·rw[bV' (by simpa using hb),Array.getElem?_modify,if_pos rfl,h];rfl
 ·rw[bV' (by simpa using h1),Array.getElem?_modify,u' (Ne.symm h2)]
theorem HO{F C:Array Value}(h:F.size≤C.size):(putCells id 0 F C).toList.take F.size=F.toList∧(putCells id 0 F C).size=C.size:=by
 have hs:(putCells id 0 F C).size=C.size:=by simp[putCells]
 refine⟨bd' (by simp[hs];omega) λi h1 h2=>?_,hs⟩;have hi:i<F.size:=by simpa using h2
 simp[putCells,hi]
theorem zc{P:Program}{ρ:Ren}(L:SlLaysF0.n6 P ρ){T:Type}(v:T→AV)(key:T→Int)(k:Nat)(k0:0<k)
  (aE:∀w,(isAgg (ρ.t 24)).run P w=.ok true w) (zE:∀w,(Go.sizeOf (ρ.t 24)).run P w=.ok k w) (hv:∀x,∃cs,v x=.agg (.int (key x)::cs))
  (g:Nat) (eg:∀args w,(callFunc g args).run P w=.ok (.enter g args) w)
  (hcmp:∀(a b:Int) (xs ys:List Value) (w:World),xs.length+1=k→ys.length+1=k→(∀u∈xs,u.oneCell'=true)→(∀u∈ys,u.oneCell'=true) →
   Calls P g #[.agg (Value.int .i64 a::xs).toArray,.agg (Value.int .i64 b::ys).toArray] w λe w'=>e=.returned (.int .i64 (Lib.compareInt a b))∧∃q os',w'=grow (w.drewN q) os')
  (l l':List T) (hp:l'.Perm l) (hs:l'.Pairwise λx y=>key x<key y) (hl:l.length≤1000000) :
  bc P (ρ.f 6) [.vec 0,.func g []] [.vec k (l.map v)] (.tup []) [some (.vec k (l'.map v))]:=by
 intro w A μ cargs hH hmu hargs;obtain⟨c0,_,rfl,h0,c1,_,rfl,h1,rfl⟩:=hargs;obtain⟨hd,hm,rfl⟩:=h0;obtain⟨_,rfl,rfl⟩:=h1;obtain⟨hd',hm',hb,hA⟩:=hH.blk 0 _ rfl;rw[hm]at hm';cases hm';obtain⟨hk,hb⟩:=hb
 have none_:∀p cap,hd.val=.slice p 0 cap→l=[]→Calls P (ρ.f 6) [hd.val,Value.func (.func g) #[] ([]:List Value).toArray].toArray w λe w'=>∃v_1 A' μ',e=.returned v_1∧RV w' A' (.tup []) μ' v_1∧jM P w' A' μ' (bo [some (.vec k (l'.map v))])∧bp μ μ'∧Ext (cg μ (bo ([Blk.vec k (l.map v)].map some))) w w' ∧
   (∀b,A b→A' b)∧(∀b,A' b→A b∨cg μ (bo ([Blk.vec k (l.map v)].map some)) b∨w.heap.size≤b) ∧
   (∀b,cg μ' (bo [some (.vec k (l'.map v))]) b→cg μ (bo ([Blk.vec k (l.map v)].map some)) b∨w.heap.size≤b):=by
  intro p cap e0 e1;subst e1;obtain rfl:=List.perm_nil.mp hp;rw[e0];refine(AnyF.slices_SortFunc_none L p cap (.func (.func g) #[] #[]) w).mono ?_;rintro e w' ⟨rfl,rfl⟩;exact⟨_,A,μ,rfl,⟨[],rfl,rfl⟩,hH,bp.refl _,⟨rfl,rfl,rfl,V' _,λ_ _ _=>rfl⟩,λb h=>h,λb h=>.inl h,λb h=>.inl h⟩
 rcases hb with⟨he,ha⟩|⟨he,hlen,hle,hcap,C,ty,vs,hheap,hrvl,hsol,hsz,hC,htake⟩
 ·obtain⟨a,ha⟩:=bt'.mp ha;exact none_ a 0 (by unfold Hd.val;rw[ha]) (by simpa using he)
 obtain⟨ds,e1,rfl,e3⟩:=SE.list hv hrvl hsz;have hval:hd.val=.slice (some ⟨hd.blk,0,none⟩) hd.len hd.cap:=by unfold Hd.val;rw[he]
 have hlen':hd.len=ds.length:=by rw[hlen,←e1];simp
 match hds:ds with
 | []=>exact none_ _ _ (by rw[hval,hlen'];rfl) (by rw[←e1];rfl)
 | p0::ds' =>
  rw[←hds]at e1 e3 htake hlen' hrvl hsz;haveI:Inhabited (SE key k):=⟨p0⟩
  obtain⟨nA,hblk⟩:=hA he;have hk1:∀x:SE key k,x.cs.length=k:=λx=>x.ok.1;have hC':C.toList.take (ds.length * k)=(flatK SE.cs k ds.toArray).toList:=by
   rw[qd _ _ k0 hk1,←hlen',htake,List.flatMap_map];rfl
  have hsz':ds.length * k≤C.size:=by rw[←hlen'];exact aF' (ae' _ hle) hC
  have hHK:HoldsK SE.cs k w hd.blk 0 ds.toArray:=by
   intro j hj;have hj':j<ds.length * k:=by simpa using hj
   refine⟨?_,by simp[World.frozen?,hheap]⟩;have:(C.toList.take (ds.length * k))[j]?=(flatK SE.cs k ds.toArray).toList[j]?:=by rw[hC']
   rw[am',if_pos hj']at this;simp only[World.cell?,hheap,aB',Option.isSome_none,bk',if_false,id];rw[getElem!_pos _ j hj,←aX' hj];simpa using this
  have key_:=AnyQ.slices_SortFunc L k aE zE SE.cs hk1 (λx=>x.ok.2.1) (λx y=>Lib.compareInt (key x.x) (key y.x)) (M8 λp:SE key k=>key p.x) g #[] hd.blk 0 hd.cap ds.toArray w eg
   (λm os dk _ x y=>by
    obtain⟨rx,hx⟩:=x.ok.2.2;obtain⟨ry,hy⟩:=y.ok.2.2;have lx:=x.ok.1;have ly:=y.ok.1
    have ox:=x.ok.2.1;have oy:=y.ok.2.1
    have ex:x.cs=.int .i64 (key x.x)::rx:=hx;have ey:y.cs=.int .i64 (key y.x)::ry:=hy;rw[hx]at lx ox;rw[hy]at ly oy;rw[ex,ey,Array.append_empty];exact hcmp _ _ rx ry _ lx ly (λu hu=>ox u (bM' _ hu)) (λu hu=>oy u (bM' _ hu))) hHK hblk (by
    have:ds.length=l.length:=by rw[←e1];simp
    show ds.length<_;omega)
  rw[hval,hlen'];refine key_.mono ?_;rintro e w' ⟨rfl,d',n,os,⟨ps,-,pp⟩,hsrt,rfl⟩;have pp:d'.toList.Perm ds:=by
   have q1:d'.extract 0 ds.toArray.size=d':=by rw[←ps];simp
   have q2:ds.toArray.extract 0 ds.toArray.size=ds.toArray:=by simp
   rw[q1,q2]at pp;simpa using pp
  have el:d'.toList.map SE.x=l':=by
   refine k9 ((pp.map _).trans ?_) ?_ hs
   ·rw[e1];exact hp.symm
   ·rw[at',ac'];intro i j hi hj hij;have hi':i<d'.size:=by simpa using hi
    have hj':j<d'.size:=by simpa using hj
    have:=hsrt i j (aS' _) hij (by rw[←ps];exact hj');rw[Sl (λp:SE key k=>key p.x),getElem!_pos _ j hj',getElem!_pos _ i hi']at this;simpa using this
  have len':d'.size=ds.length:=by rw[ps];rfl
  obtain⟨hp1,hp2,hp3⟩:=Fb (enc:=SE.cs) (k:=k) (n:=n) (d:=d') (os:=os) hheap;have hF:(flatK SE.cs k d').size≤C.size:=by rw[size_flatK,len'];exact hsz'
  obtain⟨q1,q2⟩:=HO hF;have same:cJ A w (sortWorldK SE.cs k w hd.blk 0 n d' os):=λb hb=>hp2 b (hH.lt b hb) (λe=>nA (e ▸ hb));have own:cg μ (bo ([Blk.vec k (l.map v)].map some)) hd.blk:=⟨0,_,hd,rfl,hm,he,rfl⟩
  refine⟨_,A,μ,rfl,⟨[],rfl,rfl⟩,⟨λb x hx=>?_,λb b' x x' hd1 hd2 hx hx' _ _ _ _ _=>?_,hH.lt.mono same (λ_ h=>h) λb hb=>bj' (hH.lt b hb) hp3⟩,bp.refl _,
   ⟨rfl,rfl,rfl,hp3,λb h1 h2=>hp2 b h1 λe=>h2 (e ▸ own)⟩,λ_ h=>h,λ_ h=>.inl h,?_⟩
  ·have hx0:b=0:=by
    cases b with
    | zero=>rfl
    | succ b=>simp[bo]at hx
   subst hx0;have hx:some (Blk.vec k (l'.map v))=some x:=hx;cases hx
   refine⟨hd,hm,⟨hk,.inr ⟨he,?_,hle,hcap,_,ty,d'.toList.map (λp=>.agg p.cs.toArray),hp1,?_,?_,?_,?_,?_⟩⟩,λ_=>⟨nA,bj' hblk hp3⟩⟩
   ·rw[hlen',←el];simp[len']
   ·rw[←el];exact RVL.mono same (λ_ h=>h) _ (bp.refl _) (SE.rvl λp hp=>e3 p (pp.mem_iff.mp hp))
   ·intro x hx;obtain⟨y,_,rfl⟩:=R'.mp hx;obtain⟨cs,hc⟩:=hv y;rw[hc];rfl
   ·intro u hu;obtain⟨p,_,rfl⟩:=R'.mp hu;simpa[Value.cells]using hk1 p
   ·rw[q2];exact hC
   ·have:=qd SE.cs k k0 hk1 d';rw[size_flatK,len',←hlen']at q1;rw[q1,this,List.flatMap_map];rfl
  ·have z:∀{b x},bo [some (Blk.vec k (l'.map v))] b=some x→b=0:=λ{b x} h=>by
    cases b with
    | zero=>rfl
    | succ b=>simp[bo]at h
   rw[z hx,z hx']
  ·rintro b ⟨b',x,hd1,hx,hm1,he1,rfl⟩;have hx0:b'=0:=by
    cases b' with
    | zero=>rfl
    | succ b=>simp[bo]at hx
   subst hx0;rw[hm]at hm1;cases hm1;exact .inl own
end Go.Am
