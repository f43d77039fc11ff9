/- Texts joined: KM4 KM5 KM6. -/
import Derived.Test.YteooglpnechplaaGreatQD7
set_option linter.unusedVariables false
set_option linter.unusedSimpArgs false
set_option linter.unusedSectionVars false
namespace Go.Proofs.YteooglpnechplaaGreat
open Go Go.Am
def mixK(L:List Int):Nat→Nat→List Rtr→Nat→List Rtr×Nat
 | 0,_,rs,p=>(rs,p)
 | f+1,i,rs,p=>match rs[i]? with
  | some y=>mixK L f (i+1) (rs.set i ⟨y.id,!oneT L p 3⟩) (rawP L p)
  | none=>(rs,p)
def mixR(L:List Int)(g:Tpl×Nat):List Rtr×Nat:=mixK L g.1.rs.length 0 g.1.rs g.2
def mixM(L:List Int)(p:Nat)(most:Int):Tpl×Nat:=(⟨(mixR L (topM L p most 0)).1,(topM L p most 0).1.ls⟩,(mixR L (topM L p most 0)).2)
def mixM_a(L:(List Int))(p:Nat)(most:Int):Prop:=okL [.ref 0 0,.int most]∧(.box (.agg [.sl 1 (L.map AV.int) false,.int ((p:Nat):Int)]):Blk).ok
def mixM_n0(L:(List Int))(p:Nat)(most:Int)(t0:Int×(List Rtr)×Nat):NF:=⟨[(0,.k,.ref 0 0),(4,.k,.ref 1 0),(5,.k,.ref 2 0),(6,.k,.int t0.1)],[.box (.agg [.sl 1 (L.map AV.int) false,.int ((t0.2.2:Nat):Int)]),.box (.agg [.sl 0 [] true,.sl 0 [] true]),.box (.agg [.vec 3,.vec 4]),.vec 2 (t0.2.1.map Rtr.v) (pureBL_map (λ_=>rfl) t0.2.1),.vec 5 ((((topM L p most 0).1).ls).map Lnk.v) (pureBL_map (λ_=>rfl) (((topM L p most 0).1).ls))]⟩
@[reducible] def mixM_s:Nat→Type
 | 0=>Int×(List Rtr)×Nat
 | _=>Unit
def mixM_e(r:Tap×Tpl):AV:=.agg [.vec 1,.vec 2]
def mixM_b(r:Tap×Tpl):List (Option Blk):=[some (.box (.agg [.sl 1 (r.1.L.map AV.int) false,.int ((r.1.p:Nat):Int)])),some (.vec 2 (r.2.rs.map Rtr.v)),some (.vec 5 (r.2.ls.map Lnk.v))]
def mixM_x(L:(List Int))(p:Nat)(most:Int)(I0:(Int×(List Rtr)×Nat)→Prop)(m0:(Int×(List Rtr)×Nat)→Nat):Ax Tryz.prog mixM_s (Tap×Tpl):=
 (.req 49 (1≤most∧most≤20) λh1 =>
(.callH [0] (topM_h L p most 0 h1) 49
(.loop 0 (mixM_n0 L p most) I0 m0 (0,((topM L p most 0).1).rs,(topM L p most 0).2) [0,1,65,49,50] λ(t0:Int×(List Rtr)×Nat) b0 =>
(.br 85 (decide (t0.1<((t0.2.1.map Rtr.v).length:Int))) (.callH [0] (oneM_h L t0.2.2 3) 149
(.say (ck (cond (decide (0≤t0.1)) (decide (t0.1<((t0.2.1.map Rtr.v).length:Int))) false)) (.st 213 Rtr.v t0.2.1 (λy2=>(⟨y2.id,!(oneT L t0.2.2 3)⟩:Rtr)) (λR=>Rf (t0.2.1.map Rtr.v) (ck (decide (t0.1.toNat<t0.2.1.length))
(∀y2,t0.2.1[t0.1.toNat]?=some y2→Rf (Rtr.v (⟨y2.id,!(oneT L t0.2.2 3)⟩:Rtr))
((R y2))))) λy2 =>
(.bk 0 b0 (W (t0.1+1),t0.2.1.set t0.1.toNat (⟨y2.id,!(oneT L t0.2.2 3)⟩:Rtr),rawP L t0.2.2) [0,1,2,3,4]))))
(.retH ((⟨L,t0.2.2⟩:Tap),(⟨t0.2.1,((topM L p most 0).1).ls⟩:Tpl)) ⟨[(4,.k,.ref 3 0)],[.box (.agg [.sl 1 (L.map AV.int) false,.int ((t0.2.2:Nat):Int)]),.vec 2 (t0.2.1.map Rtr.v) (pureBL_map (λ_=>rfl) t0.2.1),.vec 5 ((((topM L p most 0).1).ls).map Lnk.v) (pureBL_map (λ_=>rfl) (((topM L p most 0).1).ls)),.box (.agg [.vec 1,.vec 2])]⟩ [0,3,4,1])))))
def mixM_vc(L:(List Int))(p:Nat)(most:Int)(I0:(Int×(List Rtr)×Nat)→Prop)(m0:(Int×(List Rtr)×Nat)→Nat)(r0:Tap×Tpl):Prop:=(mixM_x L p most I0 m0).vc mixM_e mixM_b r0
theorem mixM_p(L:List Int)(p:Nat)(most:Int)(h:1≤most∧most≤20)(ok:mixM_a L p most):∃I0 m0,mixM_vc L p most I0 m0 ((⟨L,(mixM L p most).2⟩:Tap),(mixM L p most).1):=by
 refine⟨λs=>∃j:Nat,s.1=j∧j≤(topM L p most 0).1.rs.length∧s.2.1.length=(topM L p most 0).1.rs.length∧mixK L ((topM L p most 0).1.rs.length-j) j s.2.1 s.2.2=mixR L (topM L p most 0),λs=>(topM L p most 0).1.rs.length-s.1.toNat,?_⟩
 dsimp only[mixM_vc,mixM_x,mixM_s,Ax.vp,Ax.vc];simp only[vcU,rfU,List.length_map]
 have hl:(topM L p most 0).1.rs.length≤20:=by
  have hk:=rng_1 (L:=L) (p:=p) (m:=most) (by omega)
  unfold topM
  rw[if_neg (λq=>by have:=q.1;omega)]
  unfold topB
  simp only[rtsM_len];omega
 unfold mixM
 generalize topM L p most 0=G at hl ⊢
 refine⟨by omega,⟨0,rfl,Nat.zero_le _,trivial,rfl⟩,?_⟩
 rintro⟨i,rs,q⟩ ⟨j,hi,hj,hr,hm⟩
 simp only at hi hr hm ⊢
 subst hi
 refine⟨λc=>⟨range2 (by omega) c,by rw[Int.toNat_natCast];omega,λy hy=>?_⟩,λc=>?_⟩
 ·rw[Int.toNat_natCast]at hy ⊢
  have e:G.1.rs.length-j=(G.1.rs.length-(j+1))+1:=by omega
  rw[e,mixK,hy]at hm
  rw[W_succ (n:=rs.length) (by omega) (by omega)]
  exact⟨⟨j+1,rfl,by omega,by rw[List.length_set];exact hr,hm⟩,by omega⟩
 ·have e:G.1.rs.length-j=0:=by omega
  rw[e,mixK]at hm
  rw[←hm]
def mixM_h(L:(List Int))(p:Nat)(most:Int)(h:1≤most∧most≤20):HC Tryz.prog:=⟨31,[.k,.k],[.ref 0 0,.int most],[.box (.agg [.sl 1 (L.map AV.int) false,.int ((p:Nat):Int)])],mixM_e ((⟨L,(mixM L p most).2⟩:Tap),(mixM L p most).1),mixM_b ((⟨L,(mixM L p most).2⟩:Tap),(mixM L p most).1),HSpec.of_okh λok ok2=>have ok:mixM_a L p most:=⟨ok,ok2 _ (by simp)⟩;(mixM_p L p most h ok).elim λI0 h=>h.elim λm0 h=>mxH_of (sh:=.k) (enc:=mixM_e) (hB:=mixM_b) (a:=(mixM_x L p most I0 m0).an) h (by kernel_rfl),fnB_ok (by kernel_rfl),HcOk.of (by simp[hcB,belBL,AV.belB,allB,okBk,okBkO,mixM_e,mixM_b,pureBL_map (v:=AV.int) (λ_=>rfl),pureBL_map (v:=Lnk.v) (λ_=>rfl),pureBL_map (v:=Rtr.v) (λ_=>rfl)])⟩
theorem ordL_len{L:List Int}:∀{n:Nat} {i:Int} {out:List Int} {p:Nat},(ordL L n i out p).1.length=out.length+n
 | 0,i,out,p=>rfl
 | n+1,i,out,p=>by
  have hm:=Mod_range (x:=rawV L p) (show 1≤(out.length:Int)+1 by omega)
  rw[ordL,ordL_len,insAt_len _ _ _ (by omega)];omega
def plaL(L:List Int)(c:Int)(rs:List Rtr):List Int→Int→List Edg→Nat→(Int×List Edg)×Nat
 | [],id,es,p=>((id,es),p)
 | o::l,id,es,p =>
  if Mod (rawV L p) 4=0 then plaL L c rs l id es (rawP L p)
  else if W (id+pickI [1,1,1,2,c] (rawV L (rawP L p)))≤256 then(match rs[o.toNat]? with
   | some r=>plaL L c rs l (W (id+pickI [1,1,1,2,c] (rawV L (rawP L p)))) (es++[⟨r.id,W (id+pickI [1,1,1,2,c] (rawV L (rawP L p)))⟩]) (rawP L (rawP L p))
   | none=>((id,es),p))
  else plaL L c rs l (W (id+pickI [1,1,1,2,c] (rawV L (rawP L p)))) es (rawP L (rawP L p))
def plaR(L:List Int)(p:Nat)(g:Tpl):(Int×List Edg)×Nat:=plaL L (W (lenT L (rawP L p)-1)) g.rs (ordT L g.rs.length (rawP L (rawP L p))).1 0 [] (ordT L g.rs.length (rawP L (rawP L p))).2
def plaS(L:List Int)(p:Nat)(sub len:Int)(q:Int×List Edg):Pln×Nat:=
 if Mod (rawV L p) 5=0 then(⟨wldT L (rawP L p),len,q.2⟩,rawP L (rawP L p))
 else if Mod (rawV L p) 5=1 then(⟨sub,pickI [0,8,24,64,128] (rawV L (rawP L p)),q.2⟩,rawP L (rawP L p))
 else if Mod (rawV L p) 5=2 then(⟨sub,len,q.2++[⟨pickI [0,1,99,100] (rawV L (rawP L p)),pickI [0,1,256,257] (rawV L (rawP L (rawP L p)))⟩]⟩,rawP L (rawP L (rawP L p)))
 else if Mod (rawV L p) 5=3 then(match q.2[0]? with
  | some y=>(⟨sub,len,q.2.set 0 ⟨y.router,wldT L (rawP L p)⟩⟩,rawP L (rawP L p))
  | none=>(⟨sub,len,q.2⟩,rawP L p))
 else(⟨sub,len,q.2++[⟨50,W (q.1+1)⟩]⟩,rawP L p)
def plaM(L:List Int)(p:Nat)(g:Tpl)(n:Int):Pln×Nat:=
 if 0<n∧oneT L (plaR L p g).2 n=true then plaS L (rawP L (plaR L p g).2) (Mod (rawV L p) 3) (lenT L (rawP L p)) (plaR L p g).1
 else(⟨Mod (rawV L p) 3,lenT L (rawP L p),(plaR L p g).1.2⟩,if 0<n then rawP L (plaR L p g).2 else(plaR L p g).2)
def plaM_a(L:(List Int))(p:Nat)(g:Tpl)(n:Int):Prop:=okL [.ref 0 0,.agg [.sl 2 (g.rs.map Rtr.v) false,.sl 5 (g.ls.map Lnk.v) false],.int n]∧(.box (.agg [.sl 1 (L.map AV.int) false,.int ((p:Nat):Int)]):Blk).ok
abbrev plaM_v0(L:(List Int))(p:Nat)(g:Tpl):=(ordT L ((g.rs.map Rtr.v).length:Int) (rawP L (rawP L p)))
def plaM_n0(L:(List Int))(p:Nat)(g:Tpl)(n:Int)(t0:Int×Nat×Int×(List Edg)):NF:=⟨[(0,.k,.ref 0 0),(2,.k,.int n),(4,.k,.ref 1 0),(6,.k,.ref 2 0),(7,.k,.ref 3 0),(8,.k,.int t0.2.2.1),(9,.k,.sl 1 (((plaM_v0 L p g).1).map AV.int) false),(10,.k,.int t0.1)],[.box (.agg [.sl 1 (L.map AV.int) false,.int ((t0.2.1:Nat):Int)]),.box (.agg [.sl 2 (g.rs.map Rtr.v) false,.sl 5 (g.ls.map Lnk.v) false]),.box (.agg [.int 0,.int 0,.sl 0 [] true]),.box (.agg [.int (Mod (rawV L p) 3),.int (lenT L (rawP L p)),.vec 4]),.vec 2 (t0.2.2.2.map Edg.v) (pureBL_map (λ_=>rfl) t0.2.2.2)]⟩
def plaM_n1(L:(List Int))(p:Nat)(t0:Int×Nat×Int×(List Edg))(t1:Bool×Nat):NF:=⟨[(0,.k,.ref 0 0),(6,.k,.ref 1 0),(7,.k,.ref 2 0),(8,.k,.int t0.2.2.1),(62,.k,.bool t1.1)],[.box (.agg [.sl 1 (L.map AV.int) false,.int ((t1.2:Nat):Int)]),.box (.agg [.int 0,.int 0,.sl 0 [] true]),.box (.agg [.int (Mod (rawV L p) 3),.int (lenT L (rawP L p)),.vec 3]),.vec 2 (t0.2.2.2.map Edg.v) (pureBL_map (λ_=>rfl) t0.2.2.2)]⟩
@[reducible] def plaM_s:Nat→Type
 | 0=>Int×Nat×Int×(List Edg)
 | 1=>Bool×Nat
 | _=>Unit
def plaM_e(r:Tap×Pln):AV:=.agg [.int r.2.sub,.int r.2.len,.sl 2 (r.2.es.map Edg.v) false]
def plaM_b(r:Tap×Pln):List (Option Blk):=[some (.box (.agg [.sl 1 (r.1.L.map AV.int) false,.int ((r.1.p:Nat):Int)]))]
def plaM_x(L:(List Int))(p:Nat)(g:Tpl)(n:Int)(I0:(Int×Nat×Int×(List Edg))→Prop)(m0:(Int×Nat×Int×(List Edg))→Nat)(I1:Int×Nat×Int×(List Edg)→(Bool×Nat)→Prop):Ax Tryz.prog plaM_s (Tap×Pln):=
 (.callH [0] (nxtM_h L p 3) 49
(.callH [0] (lenM_h L (rawP L p)) 81
(.req 225 (((g.rs.map Rtr.v).length:Int)≤1000) λh1 =>
(.callH [0] (ordM_h L (rawP L (rawP L p)) ((g.rs.map Rtr.v).length:Int) h1) 225
(.cmdL (.nilB 113 2 2) (.loop 0 (plaM_n0 L p g n) I0 m0 (0,(plaM_v0 L p g).2,0,[]) [0,1,17,113,273] λ(t0:Int×Nat×Int×(List Edg)) b0 =>
(.br 69 (decide (t0.1<((((plaM_v0 L p g).1).map AV.int).length:Int))) (.callH [0] (nxtM_h L t0.2.1 4) 85
(.br 117 ((Mod (rawV L t0.2.1) 4)==0) (.bk 0 b0 (W (t0.1+1),rawP L t0.2.1,t0.2.2.1,t0.2.2.2) [0,1,2,3,4])
(.req 213 ([1,1,1,2,W ((lenT L (rawP L p))-1)]≠[]) λh2 =>
(.callH [0] (pckM_h L (rawP L t0.2.1) [1,1,1,2,W ((lenT L (rawP L p))-1)] h2) 213
(.br 293 (decide ((W (t0.2.2.1+(pickI [1,1,1,2,W ((lenT L (rawP L p))-1)] (rawV L (rawP L t0.2.1)))))≤256)) (.el 389 AV.int ((plaM_v0 L p g).1) (λR=>Rf (((plaM_v0 L p g).1).map AV.int) (ck (decide (0≤t0.1)) (ck (decide (t0.1<(((plaM_v0 L p g).1).length:Int)))
(∀x3,((plaM_v0 L p g).1)[t0.1.toNat]?=some x3 →
(R x3))))) λx3 =>
(.el 421 Rtr.v g.rs (λR=>Rf (g.rs.map Rtr.v) (ck (decide (0≤x3)) (ck (decide (x3<(g.rs.length:Int)))
(∀x4,g.rs[x3.toNat]?=some x4 →
(R x4))))) λx4 =>
(.say (λR=>Rf (α:=List AV) (t0.2.2.2.map Edg.v) (Rf (α:=List AV) [.agg [.int x4.id,.int (W (t0.2.2.1+(pickI [1,1,1,2,W ((lenT L (rawP L p))-1)] (rawV L (rawP L t0.2.1)))))]]
(ck (decide (t0.2.2.2.length+1≤1048576))
R))) (.app 517 Edg.v t0.2.2.2 [(⟨x4.id,W (t0.2.2.1+(pickI [1,1,1,2,W ((lenT L (rawP L p))-1)] (rawV L (rawP L t0.2.1))))⟩:Edg)]
(.bk 0 b0 (W (t0.1+1),rawP L (rawP L t0.2.1),W (t0.2.2.1+(pickI [1,1,1,2,W ((lenT L (rawP L p))-1)] (rawV L (rawP L t0.2.1)))),t0.2.2.2++[(⟨x4.id,W (t0.2.2.1+(pickI [1,1,1,2,W ((lenT L (rawP L p))-1)] (rawV L (rawP L t0.2.1))))⟩:Edg)]) [0,1,2,3,517])))))
(.bk 0 b0 (W (t0.1+1),rawP L (rawP L t0.2.1),W (t0.2.2.1+(pickI [1,1,1,2,W ((lenT L (rawP L p))-1)] (rawV L (rawP L t0.2.1)))),t0.2.2.2) [0,1,2,3,4]))))))
(.pass (.join 1 (plaM_n1 L p t0) (λ(t1:Bool×Nat)=>I1 t0 t1) (λb1=>(.br 117 (decide (0<n)) (.callH [0] (oneM_h L t0.2.1 n) 149
(.bk 1 b1 (oneT L t0.2.1 n,rawP L t0.2.1) [0,2,3,4]))
(.bk 1 b1 (false,t0.2.1) [0,2,3,4]))) λ(t1:Bool×Nat) =>
(.br 4 t1.1 (.callH [0] (nxtM_h L t1.2 5) 20
(.br 68 ((Mod (rawV L t1.2) 5)==0) (.callH [0] (wldM_h L (rawP L t1.2)) 84
(.say (Rf (t0.2.2.2.map Edg.v)) (.cmdL (.frzE 3 (t0.2.2.2.map Edg.v) (pureBL_map (λ_=>rfl) t0.2.2.2)) (.retH ((⟨L,rawP L (rawP L t1.2)⟩:Tap),(⟨wldT L (rawP L t1.2),lenT L (rawP L p),t0.2.2.2⟩:Pln)) ⟨[(6,.k,.ref 1 0)],[.box (.agg [.sl 1 (L.map AV.int) false,.int (((rawP L (rawP L t1.2)):Nat):Int)]),.box (.agg [.int (wldT L (rawP L t1.2)),.int (lenT L (rawP L p)),.sl 2 (t0.2.2.2.map Edg.v) false])]⟩ [0,1]))))
(.br 100 ((Mod (rawV L t1.2) 5)==1) (.req 132 ([0,8,24,64,128]≠[]) λh5 =>
(.callH [0] (pckM_h L (rawP L t1.2) [0,8,24,64,128] h5) 132
(.say (Rf (t0.2.2.2.map Edg.v)) (.cmdL (.frzE 3 (t0.2.2.2.map Edg.v) (pureBL_map (λ_=>rfl) t0.2.2.2)) (.retH ((⟨L,rawP L (rawP L t1.2)⟩:Tap),(⟨Mod (rawV L p) 3,pickI [0,8,24,64,128] (rawV L (rawP L t1.2)),t0.2.2.2⟩:Pln)) ⟨[(6,.k,.ref 1 0)],[.box (.agg [.sl 1 (L.map AV.int) false,.int (((rawP L (rawP L t1.2)):Nat):Int)]),.box (.agg [.int (Mod (rawV L p) 3),.int (pickI [0,8,24,64,128] (rawV L (rawP L t1.2))),.sl 2 (t0.2.2.2.map Edg.v) false])]⟩ [0,1])))))
(.br 132 ((Mod (rawV L t1.2) 5)==2) (.req 196 ([0,1,99,100]≠[]) λh6 =>
(.callH [0] (pckM_h L (rawP L t1.2) [0,1,99,100] h6) 196
(.req 244 ([0,1,256,257]≠[]) λh7 =>
(.callH [0] (pckM_h L (rawP L (rawP L t1.2)) [0,1,256,257] h7) 244
(.say (λR=>Rf (α:=List AV) (t0.2.2.2.map Edg.v) (Rf (α:=List AV) [.agg [.int (pickI [0,1,99,100] (rawV L (rawP L t1.2))),.int (pickI [0,1,256,257] (rawV L (rawP L (rawP L t1.2))))]]
(ck (decide (t0.2.2.2.length+1≤1048576))
R))) (.app 292 Edg.v t0.2.2.2 [(⟨pickI [0,1,99,100] (rawV L (rawP L t1.2)),pickI [0,1,256,257] (rawV L (rawP L (rawP L t1.2)))⟩:Edg)]
(.say (Rf ((t0.2.2.2++[(⟨pickI [0,1,99,100] (rawV L (rawP L t1.2)),pickI [0,1,256,257] (rawV L (rawP L (rawP L t1.2)))⟩:Edg)]).map Edg.v)) (.cmdL (.frzE 292 ((t0.2.2.2++[(⟨pickI [0,1,99,100] (rawV L (rawP L t1.2)),pickI [0,1,256,257] (rawV L (rawP L (rawP L t1.2)))⟩:Edg)]).map Edg.v) (pureBL_map (λ_=>rfl) (t0.2.2.2++[(⟨pickI [0,1,99,100] (rawV L (rawP L t1.2)),pickI [0,1,256,257] (rawV L (rawP L (rawP L t1.2)))⟩:Edg)]))) (.retH ((⟨L,rawP L (rawP L (rawP L t1.2))⟩:Tap),(⟨Mod (rawV L p) 3,lenT L (rawP L p),t0.2.2.2++[(⟨pickI [0,1,99,100] (rawV L (rawP L t1.2)),pickI [0,1,256,257] (rawV L (rawP L (rawP L t1.2)))⟩:Edg)]⟩:Pln)) ⟨[(6,.k,.ref 1 0)],[.box (.agg [.sl 1 (L.map AV.int) false,.int (((rawP L (rawP L (rawP L t1.2))):Nat):Int)]),.box (.agg [.int (Mod (rawV L p) 3),.int (lenT L (rawP L p)),.sl 2 ((t0.2.2.2++[(⟨pickI [0,1,99,100] (rawV L (rawP L t1.2)),pickI [0,1,256,257] (rawV L (rawP L (rawP L t1.2)))⟩:Edg)]).map Edg.v) false])]⟩ [0,1])))))))))
(.br 164 ((Mod (rawV L t1.2) 5)==3) (.br 228 (decide (0<((t0.2.2.2.map Edg.v).length:Int))) (.callH [0] (wldM_h L (rawP L t1.2)) 276
(.say (ck (decide (0<((t0.2.2.2.map Edg.v).length:Int)))) (.st 324 Edg.v t0.2.2.2 (λy8=>(⟨y8.router,wldT L (rawP L t1.2)⟩:Edg)) (λR=>Rf (t0.2.2.2.map Edg.v) (ck (decide (0<t0.2.2.2.length))
(∀y8,t0.2.2.2[0]?=some y8→Rf (Edg.v (⟨y8.router,wldT L (rawP L t1.2)⟩:Edg))
((R y8))))) λy8 =>
(.say (Rf ((t0.2.2.2.set 0 (⟨y8.router,wldT L (rawP L t1.2)⟩:Edg)).map Edg.v)) (.cmdL (.frzE 3 ((t0.2.2.2.set 0 (⟨y8.router,wldT L (rawP L t1.2)⟩:Edg)).map Edg.v) (pureBL_map (λ_=>rfl) (t0.2.2.2.set 0 (⟨y8.router,wldT L (rawP L t1.2)⟩:Edg)))) (.retH ((⟨L,rawP L (rawP L t1.2)⟩:Tap),(⟨Mod (rawV L p) 3,lenT L (rawP L p),t0.2.2.2.set 0 (⟨y8.router,wldT L (rawP L t1.2)⟩:Edg)⟩:Pln)) ⟨[(6,.k,.ref 1 0)],[.box (.agg [.sl 1 (L.map AV.int) false,.int (((rawP L (rawP L t1.2)):Nat):Int)]),.box (.agg [.int (Mod (rawV L p) 3),.int (lenT L (rawP L p)),.sl 2 ((t0.2.2.2.set 0 (⟨y8.router,wldT L (rawP L t1.2)⟩:Edg)).map Edg.v) false])]⟩ [0,1]))))))
(.say (Rf (t0.2.2.2.map Edg.v)) (.cmdL (.frzE 3 (t0.2.2.2.map Edg.v) (pureBL_map (λ_=>rfl) t0.2.2.2)) (.retH ((⟨L,rawP L t1.2⟩:Tap),(⟨Mod (rawV L p) 3,lenT L (rawP L p),t0.2.2.2⟩:Pln)) ⟨[(6,.k,.ref 1 0)],[.box (.agg [.sl 1 (L.map AV.int) false,.int (((rawP L t1.2):Nat):Int)]),.box (.agg [.int (Mod (rawV L p) 3),.int (lenT L (rawP L p)),.sl 2 (t0.2.2.2.map Edg.v) false])]⟩ [0,1]))))
(.say (λR=>Rf (α:=List AV) (t0.2.2.2.map Edg.v) (Rf (α:=List AV) [.agg [.int 50,.int (W (t0.2.2.1+1))]]
(ck (decide (t0.2.2.2.length+1≤1048576))
R))) (.app 260 Edg.v t0.2.2.2 [(⟨50,W (t0.2.2.1+1)⟩:Edg)]
(.say (Rf ((t0.2.2.2++[(⟨50,W (t0.2.2.1+1)⟩:Edg)]).map Edg.v)) (.cmdL (.frzE 260 ((t0.2.2.2++[(⟨50,W (t0.2.2.1+1)⟩:Edg)]).map Edg.v) (pureBL_map (λ_=>rfl) (t0.2.2.2++[(⟨50,W (t0.2.2.1+1)⟩:Edg)]))) (.retH ((⟨L,rawP L t1.2⟩:Tap),(⟨Mod (rawV L p) 3,lenT L (rawP L p),t0.2.2.2++[(⟨50,W (t0.2.2.1+1)⟩:Edg)]⟩:Pln)) ⟨[(6,.k,.ref 1 0)],[.box (.agg [.sl 1 (L.map AV.int) false,.int (((rawP L t1.2):Nat):Int)]),.box (.agg [.int (Mod (rawV L p) 3),.int (lenT L (rawP L p)),.sl 2 ((t0.2.2.2++[(⟨50,W (t0.2.2.1+1)⟩:Edg)]).map Edg.v) false])]⟩ [0,1]))))))))))
(.say (Rf (t0.2.2.2.map Edg.v)) (.cmdL (.frzE 3 (t0.2.2.2.map Edg.v) (pureBL_map (λ_=>rfl) t0.2.2.2)) (.retH ((⟨L,t1.2⟩:Tap),(⟨Mod (rawV L p) 3,lenT L (rawP L p),t0.2.2.2⟩:Pln)) ⟨[(6,.k,.ref 1 0)],[.box (.agg [.sl 1 (L.map AV.int) false,.int ((t1.2:Nat):Int)]),.box (.agg [.int (Mod (rawV L p) 3),.int (lenT L (rawP L p)),.sl 2 (t0.2.2.2.map Edg.v) false])]⟩ [0,1])))))))))))))
def plaM_vc(L:(List Int))(p:Nat)(g:Tpl)(n:Int)(I0:(Int×Nat×Int×(List Edg))→Prop)(m0:(Int×Nat×Int×(List Edg))→Nat)(I1:Int×Nat×Int×(List Edg)→(Bool×Nat)→Prop)(r0:Tap×Pln):Prop:=(plaM_x L p g n I0 m0 I1).vc plaM_e plaM_b r0
theorem plaM_p(L:List Int)(p:Nat)(g:Tpl)(n:Int)(h:g.rs.length≤100)(ok:plaM_a L p g n):∃I0 m0 I1,plaM_vc L p g n I0 m0 I1 ((⟨L,(plaM L p g n).2⟩:Tap),(plaM L p g n).1):=by
 refine⟨λs=>∃j:Nat,s.1=j∧j≤(ordT L g.rs.length (rawP L (rawP L p))).1.length∧s.2.2.2.length≤j∧plaL L (W (lenT L (rawP L p)-1)) g.rs ((ordT L g.rs.length (rawP L (rawP L p))).1.drop j) s.2.2.1 s.2.2.2 s.2.1=plaR L p g,
  λs=>(ordT L g.rs.length (rawP L (rawP L p))).1.length-s.1.toNat,λs b=>b=(decide (0<n∧oneT L s.2.1 n=true),if 0<n then rawP L s.2.1 else s.2.1),?_⟩
 dsimp only[plaM_vc,plaM_x,plaM_s,plaM_v0,Ax.vp,Ax.vc];simp only[vcU,rfU,List.length_map]
 obtain⟨f1,f2⟩:=ordT_facts (L:=L) (n:=(g.rs.length:Int)) (p:=rawP L (rawP L p)) (by omega)
 have f3:(ordT L (g.rs.length:Int) (rawP L (rawP L p))).1.length=g.rs.length:=by
  unfold ordT
  rw[ordL_len];simp
 refine⟨by omega,⟨0,rfl,Nat.zero_le _,by simp,rfl⟩,?_⟩
 unfold plaM
 generalize plaR L p g=R
 generalize (ordT L (g.rs.length:Int) (rawP L (rawP L p))).1=o at f1 f2 f3 ⊢
 rintro⟨i,q,id,es⟩ ⟨j,hi,hj,hle,hr⟩
 simp only at hi hle hr ⊢
 subst hi
 refine⟨λc=>?_,λc=>?_⟩
 ·have hx:=List.getElem?_eq_getElem (show j<o.length by omega)
  have hd:o.drop j=o[j]'(by omega)::o.drop (j+1):=List.drop_eq_getElem_cons (by omega)
  have hm:=f2 (o[j]'(by omega)) (List.getElem_mem _)
  generalize o[j]'(by omega)=x at hx hd hm
  rw[hd,plaL]at hr
  rw[W_succ (n:=o.length) (by omega) (by omega)]
  refine⟨λe=>?_,λe=>⟨by simp,λe2=>?_,λe2=>?_⟩⟩
  ·rw[if_pos (eq_of_beq e)]at hr
   exact⟨⟨j+1,rfl,by omega,by omega,hr⟩,by omega⟩
  ·rw[if_neg (by simpa using e),if_pos e2]at hr
   refine⟨by omega,c,λx3 h3=>?_⟩
   rw[Int.toNat_natCast,hx]at h3;cases h3
   refine⟨hm.1,hm.2,λr h4=>?_⟩
   rw[h4]at hr
   exact⟨by omega,⟨j+1,rfl,by omega,by simp;omega,hr⟩,by omega⟩
  ·rw[if_neg (by simpa using e),if_neg e2]at hr
   exact⟨⟨j+1,rfl,by omega,by omega,hr⟩,by omega⟩
 ·have e1:o.drop j=[]:=List.drop_eq_nil_of_le (by omega)
  rw[e1,plaL]at hr
  rw[←hr]
  have hle2:es.length≤1000:=by omega
  refine⟨⟨λc2=>?_,λc2=>?_⟩,?_⟩
  ·rw[if_pos c2]
   refine Prod.ext ?_ rfl
   rw[Bool.eq_iff_iff];simp[c2]
  ·rw[if_neg c2]
   refine Prod.ext ?_ rfl
   rw[Bool.eq_iff_iff];simp[c2]
  rintro _ rfl
  simp only
  refine⟨λe=>?_,λe=>by rw[if_neg (of_decide_eq_false e)]⟩
  have e:=of_decide_eq_true e
  rw[if_pos e,if_pos e.1]
  generalize rawP L q=q1
  unfold plaS
  simp only
  refine⟨λs0=>by rw[if_pos (eq_of_beq s0)],λs0=>?_⟩
  rw[if_neg (by simpa using s0)]
  refine⟨λs1=>by rw[if_pos (eq_of_beq s1)];exact⟨by simp,rfl⟩,λs1=>?_⟩
  rw[if_neg (by simpa using s1)]
  refine⟨λs2=>by rw[if_pos (eq_of_beq s2)];exact⟨by simp,by simp,by omega,rfl⟩,λs2=>?_⟩
  rw[if_neg (by simpa using s2)]
  refine⟨λs3=>?_,λs3=>?_⟩
  ·rw[if_pos (eq_of_beq s3)]
   refine⟨λh=>⟨h,by omega,λy hy=>by rw[hy]⟩,λh=>by rw[List.getElem?_eq_none (by omega)]⟩
  ·rw[if_neg (by simpa using s3)]
   exact⟨by omega,rfl⟩
def plaM_h(L:(List Int))(p:Nat)(g:Tpl)(n:Int)(h:g.rs.length≤100):HC Tryz.prog:=⟨32,[.k,(.a [(.s 2),(.s 5)]),.k],[.ref 0 0,.agg [.sl 2 (g.rs.map Rtr.v) false,.sl 5 (g.ls.map Lnk.v) false],.int n],[.box (.agg [.sl 1 (L.map AV.int) false,.int ((p:Nat):Int)])],plaM_e ((⟨L,(plaM L p g n).2⟩:Tap),(plaM L p g n).1),plaM_b ((⟨L,(plaM L p g n).2⟩:Tap),(plaM L p g n).1),HSpec.of_okh λok ok2=>have ok:plaM_a L p g n:=⟨ok,ok2 _ (by simp)⟩;(plaM_p L p g n h ok).elim λI0 h=>h.elim λm0 h=>h.elim λI1 h=>mxH_of (sh:=(.a [.k,.k,(.s 2)])) (enc:=plaM_e) (hB:=plaM_b) (a:=(plaM_x L p g n I0 m0 I1).an) h (by kernel_rfl),fnB_ok (by kernel_rfl),HcOk.of (by simp[hcB,belBL,AV.belB,allB,okBk,okBkO,plaM_e,plaM_b,pureBL_map (v:=AV.int) (λ_=>rfl),pureBL_map (v:=Lnk.v) (λ_=>rfl),pureBL_map (v:=Rtr.v) (λ_=>rfl)])⟩
def domA(L:List Int)(p:Nat):Tpl×Nat:=if oneT L (topM L p 6 0).2 10=true then mixM L (rawP L (topM L p 6 0).2) 5 else((topM L p 6 0).1,rawP L (topM L p 6 0).2)
def domG(L:List Int)(p:Nat):Tpl×Nat:=if oneT L (domA L p).2 12=true then topM L (rawP L (domA L p).2) 5 2 else((domA L p).1,rawP L (domA L p).2)
def domM(L:List Int)(p:Nat):(Tpl×Pln)×Nat:=(((domG L p).1,(plaM L (domG L p).2 (domG L p).1 8).1),(plaM L (domG L p).2 (domG L p).1 8).2)
def domM_a(L:(List Int))(p:Nat):Prop:=okL [.ref 0 0]∧(.box (.agg [.sl 1 (L.map AV.int) false,.int ((p:Nat):Int)]):Blk).ok
def domM_n0(L:(List Int))(t0:(List Lnk)×(List Rtr)×Nat):NF:=⟨[(0,.k,.ref 0 0),(2,.k,.ref 1 0),(3,.k,.ref 2 0),(4,.k,.ref 3 0)],[.box (.agg [.sl 1 (L.map AV.int) false,.int ((t0.2.2:Nat):Int)]),.box (.agg [.sl 0 [] true,.sl 0 [] true]),.box (.agg [.int 0,.int 0,.sl 0 [] true]),.box (.agg [.vec 4,.vec 5]),.vec 2 (t0.2.1.map Rtr.v) (pureBL_map (λ_=>rfl) t0.2.1),.vec 5 (t0.1.map Lnk.v) (pureBL_map (λ_=>rfl) t0.1)]⟩
def domM_n1(L:(List Int))(t1:(List Lnk)×(List Rtr)×Nat):NF:=⟨[(0,.k,.ref 0 0),(2,.k,.ref 1 0),(3,.k,.ref 2 0),(4,.k,.ref 3 0)],[.box (.agg [.sl 1 (L.map AV.int) false,.int ((t1.2.2:Nat):Int)]),.box (.agg [.sl 0 [] true,.sl 0 [] true]),.box (.agg [.int 0,.int 0,.sl 0 [] true]),.box (.agg [.vec 4,.vec 5]),.vec 2 (t1.2.1.map Rtr.v) (pureBL_map (λ_=>rfl) t1.2.1),.vec 5 (t1.1.map Lnk.v) (pureBL_map (λ_=>rfl) t1.1)]⟩
@[reducible] def domM_s:Nat→Type
 | 0=>(List Lnk)×(List Rtr)×Nat
 | 1=>(List Lnk)×(List Rtr)×Nat
 | _=>Unit
def domM_e(r:Tap×Tpl×Pln):AV:=.tup [.agg [.sl 2 (r.2.1.rs.map Rtr.v) false,.sl 5 (r.2.1.ls.map Lnk.v) false],.agg [.int r.2.2.sub,.int r.2.2.len,.sl 2 (r.2.2.es.map Edg.v) false]]
def domM_b(r:Tap×Tpl×Pln):List (Option Blk):=[some (.box (.agg [.sl 1 (r.1.L.map AV.int) false,.int ((r.1.p:Nat):Int)]))]
def domM_x(L:(List Int))(p:Nat)(I0:((List Lnk)×(List Rtr)×Nat)→Prop)(I1:(List Lnk)×(List Rtr)×Nat→((List Lnk)×(List Rtr)×Nat)→Prop):Ax Tryz.prog domM_s (Tap×Tpl×Pln):=
 (.req 49 (1≤6∧6≤20) λh1 =>
(.callH [0] (topM_h L p 6 0 h1) 49
(.join 0 (domM_n0 L) (λ(t0:(List Lnk)×(List Rtr)×Nat)=>I0 t0) (λb0=>(.callH [0] (oneM_h L ((topM L p 6 0).2) 10) 113
(.br 129 (oneT L ((topM L p 6 0).2) 10) (.req 145 (1≤5∧5≤20) λh2 =>
(.callH [0] (mixM_h L (rawP L ((topM L p 6 0).2)) 5 h2) 145
(.bk 0 b0 (((mixM L (rawP L ((topM L p 6 0).2)) 5).1).ls,((mixM L (rawP L ((topM L p 6 0).2)) 5).1).rs,(mixM L (rawP L ((topM L p 6 0).2)) 5).2) [0,1,17,65,145,146])))
(.bk 0 b0 (((topM L p 6 0).1).ls,((topM L p 6 0).1).rs,rawP L ((topM L p 6 0).2)) [0,1,17,65,49,50])))) λ(t0:(List Lnk)×(List Rtr)×Nat) =>
(.join 1 (domM_n1 L) (λ(t1:(List Lnk)×(List Rtr)×Nat)=>I1 t0 t1) (λb1=>(.callH [0] (oneM_h L t0.2.2 12) 22
(.br 38 (oneT L t0.2.2 12) (.req 54 (1≤5∧5≤20) λh3 =>
(.callH [0] (topM_h L (rawP L t0.2.2) 5 2 h3) 54
(.bk 1 b1 (((topM L (rawP L t0.2.2) 5 2).1).ls,((topM L (rawP L t0.2.2) 5 2).1).rs,(topM L (rawP L t0.2.2) 5 2).2) [0,1,2,3,54,55])))
(.bk 1 b1 (t0.1,t0.2.1,rawP L t0.2.2) [0,1,2,3,4,5])))) λ(t1:(List Lnk)×(List Rtr)×Nat) =>
(.say (Rf (t1.2.1.map Rtr.v)) (.cmd (.frzE 4 (t1.2.1.map Rtr.v) (pureBL_map (λ_=>rfl) t1.2.1)) (.say (Rf (t1.1.map Lnk.v)) (.cmd (.frzE 5 (t1.1.map Lnk.v) (pureBL_map (λ_=>rfl) t1.1)) (.req 54 ((⟨t1.2.1,t1.1⟩:Tpl).rs.length≤100) λh4 =>
(.callH [0] (plaM_h L t1.2.2 (⟨t1.2.1,t1.1⟩:Tpl) 8 h4) 54
(.retH ((⟨L,(plaM L t1.2.2 (⟨t1.2.1,t1.1⟩:Tpl) 8).2⟩:Tap),(⟨t1.2.1,t1.1⟩:Tpl),(plaM L t1.2.2 (⟨t1.2.1,t1.1⟩:Tpl) 8).1) ⟨[(2,.k,.ref 1 0),(3,.k,.ref 2 0)],[.box (.agg [.sl 1 (L.map AV.int) false,.int ((((plaM L t1.2.2 (⟨t1.2.1,t1.1⟩:Tpl) 8).2):Nat):Int)]),.box (.agg [.sl 2 (t1.2.1.map Rtr.v) false,.sl 5 (t1.1.map Lnk.v) false]),.box (.agg [.int (((plaM L t1.2.2 (⟨t1.2.1,t1.1⟩:Tpl) 8).1).sub),.int (((plaM L t1.2.2 (⟨t1.2.1,t1.1⟩:Tpl) 8).1).len),.sl 2 ((((plaM L t1.2.2 (⟨t1.2.1,t1.1⟩:Tpl) 8).1).es).map Edg.v) false])]⟩ [0,1,2])))))))))))
def domM_vc(L:(List Int))(p:Nat)(I0:((List Lnk)×(List Rtr)×Nat)→Prop)(I1:(List Lnk)×(List Rtr)×Nat→((List Lnk)×(List Rtr)×Nat)→Prop)(r0:Tap×Tpl×Pln):Prop:=(domM_x L p I0 I1).vc domM_e domM_b r0
theorem domM_p(L:List Int)(p:Nat)(ok:domM_a L p):∃I0 I1,domM_vc L p I0 I1 ((⟨L,(domM L p).2⟩:Tap),(domM L p).1.1,(domM L p).1.2):=by
 refine⟨λs=>s=((domA L p).1.ls,(domA L p).1.rs,(domA L p).2),λ_ s=>s=((domG L p).1.ls,(domG L p).1.rs,(domG L p).2),?_⟩
 dsimp only[domM_vc,domM_x,domM_s,Ax.vp,Ax.vc];simp only[vcU,rfU,List.length_map]
 have key:∀(L:List Int) (p:Nat) (m n:Int),1≤m→m≤20→(topM L p m n).1.rs.length≤50:=λL p m n h1 h2=>by
  have hk:=rng_1 (L:=L) (p:=p) (m:=m) (by omega)
  have hb:(topB L p m).rs.length≤20:=by unfold topB;simp only[rtsM_len];omega
  unfold topM
  split
  ·generalize topB L p m=g at hb
   unfold spoM
   split
   ·simp;omega
   ·(repeat' split)<;>simp[farM]<;>omega
  ·exact Nat.le_trans hb (by omega)
 have hmix:∀(f i:Nat) (rs:List Rtr) (p:Nat),(mixK L f i rs p).1.length=rs.length:=λf=>by
  induction f with
  | zero=>intro i rs p;rfl
  | succ f ih =>
   intro i rs p
   rw[mixK]
   split
   ·rw[ih,List.length_set]
   ·rfl
 have hA:(domA L p).1.rs.length≤50:=by
  unfold domA
  split
  ·have:=key L (rawP L (topM L p 6 0).2) 5 0 (by omega) (by omega)
   unfold mixM mixR;rw[hmix];exact this
  ·exact key L p 6 0 (by omega) (by omega)
 have hG:(domG L p).1.rs.length≤50:=by
  unfold domG
  split
  ·exact key _ _ _ _ (by omega) (by omega)
  ·exact hA
 refine⟨by omega,⟨λc=>⟨by omega,by rw[domA,if_pos c]⟩,λc=>by rw[domA,if_neg (by rw[c];simp)]⟩,?_⟩
 rintro _ rfl
 refine⟨⟨λc=>⟨by omega,by rw[domG,if_pos c]⟩,λc=>by rw[domG,if_neg (by rw[c];simp)]⟩,?_⟩
 rintro _ rfl
 exact⟨by simp only;omega,rfl⟩
def domM_h(L:(List Int))(p:Nat):HC Tryz.prog:=⟨7,[.k],[.ref 0 0],[.box (.agg [.sl 1 (L.map AV.int) false,.int ((p:Nat):Int)])],domM_e ((⟨L,(domM L p).2⟩:Tap),(domM L p).1.1,(domM L p).1.2),domM_b ((⟨L,(domM L p).2⟩:Tap),(domM L p).1.1,(domM L p).1.2),HSpec.of_okh λok ok2=>have ok:domM_a L p:=⟨ok,ok2 _ (by simp)⟩;(domM_p L p ok).elim λI0 h=>h.elim λI1 h=>mxH_of (sh:=(.a [(.a [(.s 2),(.s 5)]),(.a [.k,.k,(.s 2)])])) (enc:=domM_e) (hB:=domM_b) (a:=(domM_x L p I0 I1).an) h (by kernel_rfl),fnB_ok (by kernel_rfl),HcOk.of (by simp[hcB,belBL,AV.belB,allB,okBk,okBkO,domM_e,domM_b,pureBL_map (v:=AV.int) (λ_=>rfl)])⟩
def ring20:Tpl:=⟨[⟨1,true⟩,⟨2,true⟩,⟨3,true⟩,⟨4,true⟩],[⟨1,2,1,1,0⟩,⟨1,4,1,1,0⟩,⟨2,3,1,1,0⟩,⟨3,4,1,1,0⟩]⟩
def ring20_a:Prop:=okL []
def ring20_e(r:Tpl):AV:=Tpl.v r
def ring20_x:Ax Tryz.prog noS (Tpl):=
 (.ret ((⟨[(⟨1,true⟩:Rtr),(⟨2,true⟩:Rtr),(⟨3,true⟩:Rtr),(⟨4,true⟩:Rtr)],[(⟨1,2,1,1,0⟩:Lnk),(⟨1,4,1,1,0⟩:Lnk),(⟨2,3,1,1,0⟩:Lnk),(⟨3,4,1,1,0⟩:Lnk)]⟩:Tpl)))
def ring20_vc(r0:Tpl):Prop:=(ring20_x).vp ring20_e r0
theorem ring20_p(ok:ring20_a):ring20_vc ring20:=by
 dsimp only[ring20_vc,ring20_x,noS,Ax.vp,Ax.vc];simp only[vcU,rfU,List.length_map]
 rfl
def ring20_c:PC Tryz.prog:=⟨48,[],[],ring20_e ring20,PSpec.of_ok λok=>mxP_of (sh:=(.a [(.s 2),(.s 5)])) (enc:=ring20_e) (a:=(ring20_x).an) (ring20_p ok) (by kernel_rfl) (AV.pureB_ok rfl),fnB_ok (by kernel_rfl)⟩
def awk20_a:Prop:=okL []
def awk20_e(r:Bool):AV:=.bool r
def awk20_x:Ax Tryz.prog noS (Bool):=
 (.callP (ring20_c )
(.callP (dtoP_c ring20 (⟨0,8,[(⟨2,1⟩:Edg),(⟨3,2⟩:Edg)]⟩:Pln) 1 2 1)
(.callP (ring20_c )
(.callP (dtoP_c ring20 (⟨0,8,[(⟨2,1⟩:Edg),(⟨3,2⟩:Edg)]⟩:Pln) 1 2 2)
(.br 400 ((dtoT ring20 (⟨0,8,[(⟨2,1⟩:Edg),(⟨3,2⟩:Edg)]⟩:Pln) 1 2 1).2) (.br 448 ((dtoT ring20 (⟨0,8,[(⟨2,1⟩:Edg),(⟨3,2⟩:Edg)]⟩:Pln) 1 2 2).2) (.callP (intE_c ((dtoT ring20 (⟨0,8,[(⟨2,1⟩:Edg),(⟨3,2⟩:Edg)]⟩:Pln) 1 2 1).1) [4,3,2])
(.br 528 (decide (((dtoT ring20 (⟨0,8,[(⟨2,1⟩:Edg),(⟨3,2⟩:Edg)]⟩:Pln) 1 2 1).1)=[4,3,2])) (.callP (intE_c ((dtoT ring20 (⟨0,8,[(⟨2,1⟩:Edg),(⟨3,2⟩:Edg)]⟩:Pln) 1 2 2).1) [4])
(.ret (decide (((dtoT ring20 (⟨0,8,[(⟨2,1⟩:Edg),(⟨3,2⟩:Edg)]⟩:Pln) 1 2 2).1)=[4]))))
(.ret (false))))
(.ret (false)))
(.ret (false)))))))
def awk20_vc(r0:Bool):Prop:=(awk20_x).vp awk20_e r0
theorem awk20_p(ok:awk20_a):awk20_vc true:=by
 dsimp only[awk20_vc,awk20_x,noS,Ax.vp,Ax.vc];simp only[vcU,rfU,List.length_map]
 have h1:dtoT ring20 ⟨0,8,[⟨2,1⟩,⟨3,2⟩]⟩ 1 2 1=([4,3,2],true):=by kernel_rfl
 have h2:dtoT ring20 ⟨0,8,[⟨2,1⟩,⟨3,2⟩]⟩ 1 2 2=([4],true):=by kernel_rfl
 rw[h1,h2]
 simp
def awk20_c:PC Tryz.prog:=⟨15,[],[],awk20_e true,PSpec.of_ok λok=>mxP_of (sh:=.k) (enc:=awk20_e) (a:=(awk20_x).an) (awk20_p ok) (by kernel_rfl) (AV.pureB_ok rfl),fnB_ok (by kernel_rfl)⟩
structure A3 where
  x0:Int
  x1:Int
  x2:Int
structure A33 where
  x00:Int
  x01:Int
  x02:Int
  x10:Int
  x11:Int
  x12:Int
  x20:Int
  x21:Int
  x22:Int
def detL_a(t:(List Int))(r:Int)(n:Int)(id:Int):Prop:=okL [.sl 1 (t.map AV.int) false,.int r,.int n,.int id]
def detL_n0(r:Int)(n:Int)(id:Int)(t0:Tap):NF:=⟨[(1,.k,.int r),(2,.k,.int n),(3,.k,.int id),(9,.k,.ref 0 0)],[.box (.agg [.sl 1 (t0.L.map AV.int) false,.int ((t0.p:Nat):Int)])]⟩
def detL_n1(r:Int)(n:Int)(id:Int)(t0:Tap)(t1:Tpl×Pln):NF:=⟨[(1,.k,.int r),(2,.k,.int n),(3,.k,.int id),(9,.k,.ref 0 0),(10,.k,.ref 1 0),(11,.k,.ref 2 0)],[.box (.agg [.sl 1 (t0.L.map AV.int) false,.int ((((domM t0.L t0.p).2):Nat):Int)]),.box (.agg [.sl 2 (t1.1.rs.map Rtr.v) false,.sl 5 (t1.1.ls.map Lnk.v) false]),.box (.agg [.int t1.2.sub,.int t1.2.len,.sl 2 (t1.2.es.map Edg.v) false])]⟩
def detL_n2(t1:Tpl×Pln)(t2:A33):NF:=⟨[(10,.k,.ref 0 0),(11,.k,.ref 1 0),(12,.k,.ref 2 0)],[.box (.agg [.sl 2 (t1.1.rs.map Rtr.v) false,.sl 5 (t1.1.ls.map Lnk.v) false]),.box (.agg [.int t1.2.sub,.int t1.2.len,.sl 2 (t1.2.es.map Edg.v) false]),.box (.agg [.int t2.x00,.int t2.x01,.int t2.x02,.int t2.x10,.int t2.x11,.int t2.x12,.int t2.x20,.int t2.x21,.int t2.x22])]⟩
def detL_n3(t1:Tpl×Pln)(t2:A33)(t3:Int):NF:=⟨[(10,.k,.ref 0 0),(11,.k,.ref 1 0),(12,.k,.ref 2 0),(13,.k,.int t3)],[.box (.agg [.sl 2 (t1.1.rs.map Rtr.v) false,.sl 5 (t1.1.ls.map Lnk.v) false]),.box (.agg [.int t1.2.sub,.int t1.2.len,.sl 2 (t1.2.es.map Edg.v) false]),.box (.agg [.int t2.x00,.int t2.x01,.int t2.x02,.int t2.x10,.int t2.x11,.int t2.x12,.int t2.x20,.int t2.x21,.int t2.x22])]⟩
def detL_n4(t1:Tpl×Pln)(t2:A33)(t3:Int)(x1:A3)(t4:(List Int)×Bool):NF:=⟨[(10,.k,.ref 0 0),(11,.k,.ref 1 0),(12,.k,.ref 2 0),(13,.k,.int t3),(14,.k,.ref 3 0),(15,(.s 1),.sl 1 (t4.1.map AV.int) false),(16,.k,.bool t4.2)],[.box (.agg [.sl 2 (t1.1.rs.map Rtr.v) false,.sl 5 (t1.1.ls.map Lnk.v) false]),.box (.agg [.int t1.2.sub,.int t1.2.len,.sl 2 (t1.2.es.map Edg.v) false]),.box (.agg [.int t2.x00,.int t2.x01,.int t2.x02,.int t2.x10,.int t2.x11,.int t2.x12,.int t2.x20,.int t2.x21,.int t2.x22]),.box (.agg [.int x1.x0,.int x1.x1,.int x1.x2])]⟩
def detL_n5(t1:Tpl×Pln)(t2:A33)(t3:Int)(x1:A3)(t4:(List Int)×Bool)(t5:(List Int)×Bool):NF:=⟨[(10,.k,.ref 0 0),(11,.k,.ref 1 0),(12,.k,.ref 2 0),(13,.k,.int t3),(14,.k,.ref 3 0),(15,.k,.sl 1 (t4.1.map AV.int) false),(16,.k,.bool t4.2),(17,(.s 1),.sl 1 (t5.1.map AV.int) false),(18,.k,.bool t5.2)],[.box (.agg [.sl 2 (t1.1.rs.map Rtr.v) false,.sl 5 (t1.1.ls.map Lnk.v) false]),.box (.agg [.int t1.2.sub,.int t1.2.len,.sl 2 (t1.2.es.map Edg.v) false]),.box (.agg [.int t2.x00,.int t2.x01,.int t2.x02,.int t2.x10,.int t2.x11,.int t2.x12,.int t2.x20,.int t2.x21,.int t2.x22]),.box (.agg [.int x1.x0,.int x1.x1,.int x1.x2])]⟩
def detL_n6(t1:Tpl×Pln)(t2:A33)(t3:Int)(x1:A3)(t6:Bool):NF:=⟨[(10,.k,.ref 0 0),(11,.k,.ref 1 0),(12,.k,.ref 2 0),(13,.k,.int t3),(14,.k,.ref 3 0),(93,.k,.bool t6)],[.box (.agg [.sl 2 (t1.1.rs.map Rtr.v) false,.sl 5 (t1.1.ls.map Lnk.v) false]),.box (.agg [.int t1.2.sub,.int t1.2.len,.sl 2 (t1.2.es.map Edg.v) false]),.box (.agg [.int t2.x00,.int t2.x01,.int t2.x02,.int t2.x10,.int t2.x11,.int t2.x12,.int t2.x20,.int t2.x21,.int t2.x22]),.box (.agg [.int x1.x0,.int x1.x1,.int x1.x2])]⟩
def detL_n7(t1:Tpl×Pln)(t2:A33)(t3:Int)(x1:A3)(t7:(List Dto)×Int):NF:=⟨[(10,.k,.ref 0 0),(11,.k,.ref 1 0),(12,.k,.ref 2 0),(13,.k,.int t3),(14,.k,.ref 3 0),(19,(.s 2),.sl 2 (t7.1.map Dto.v) false),(20,.k,.int t7.2)],[.box (.agg [.sl 2 (t1.1.rs.map Rtr.v) false,.sl 5 (t1.1.ls.map Lnk.v) false]),.box (.agg [.int t1.2.sub,.int t1.2.len,.sl 2 (t1.2.es.map Edg.v) false]),.box (.agg [.int t2.x00,.int t2.x01,.int t2.x02,.int t2.x10,.int t2.x11,.int t2.x12,.int t2.x20,.int t2.x21,.int t2.x22]),.box (.agg [.int x1.x0,.int x1.x1,.int x1.x2])]⟩
def detL_n8(t1:Tpl×Pln)(t2:A33)(t3:Int)(t7:(List Dto)×Int)(t8:(List Dto)×Int):NF:=⟨[(10,.k,.ref 0 0),(11,.k,.ref 1 0),(12,.k,.ref 2 0),(13,.k,.int t3),(19,.k,.sl 2 (t7.1.map Dto.v) false),(20,.k,.int t7.2),(21,(.s 2),.sl 2 (t8.1.map Dto.v) false),(22,.k,.int t8.2)],[.box (.agg [.sl 2 (t1.1.rs.map Rtr.v) false,.sl 5 (t1.1.ls.map Lnk.v) false]),.box (.agg [.int t1.2.sub,.int t1.2.len,.sl 2 (t1.2.es.map Edg.v) false]),.box (.agg [.int t2.x00,.int t2.x01,.int t2.x02,.int t2.x10,.int t2.x11,.int t2.x12,.int t2.x20,.int t2.x21,.int t2.x22])]⟩
def detL_n9(t1:Tpl×Pln)(t2:A33)(t3:Int)(t7:(List Dto)×Int)(t8:(List Dto)×Int)(t9:Bool):NF:=⟨[(10,.k,.ref 0 0),(11,.k,.ref 1 0),(12,.k,.ref 2 0),(13,.k,.int t3),(19,.k,.sl 2 (t7.1.map Dto.v) false),(21,.k,.sl 2 (t8.1.map Dto.v) false),(123,.k,.bool t9)],[.box (.agg [.sl 2 (t1.1.rs.map Rtr.v) false,.sl 5 (t1.1.ls.map Lnk.v) false]),.box (.agg [.int t1.2.sub,.int t1.2.len,.sl 2 (t1.2.es.map Edg.v) false]),.box (.agg [.int t2.x00,.int t2.x01,.int t2.x02,.int t2.x10,.int t2.x11,.int t2.x12,.int t2.x20,.int t2.x21,.int t2.x22])]⟩
def detL_n10(t1:Tpl×Pln)(t2:A33)(t3:Int)(t7:(List Dto)×Int)(t8:(List Dto)×Int)(t10:Int):NF:=⟨[(10,.k,.ref 0 0),(11,.k,.ref 1 0),(12,.k,.ref 2 0),(13,.k,.int t3),(19,.k,.sl 2 (t7.1.map Dto.v) false),(21,.k,.sl 2 (t8.1.map Dto.v) false),(23,.k,.int t10)],[.box (.agg [.sl 2 (t1.1.rs.map Rtr.v) false,.sl 5 (t1.1.ls.map Lnk.v) false]),.box (.agg [.int t1.2.sub,.int t1.2.len,.sl 2 (t1.2.es.map Edg.v) false]),.box (.agg [.int t2.x00,.int t2.x01,.int t2.x02,.int t2.x10,.int t2.x11,.int t2.x12,.int t2.x20,.int t2.x21,.int t2.x22])]⟩
def detL_n11(t1:Tpl×Pln)(t2:A33)(t3:Int)(t7:(List Dto)×Int)(t8:(List Dto)×Int)(t10:Int)(t11:Bool):NF:=⟨[(10,.k,.ref 0 0),(11,.k,.ref 1 0),(12,.k,.ref 2 0),(13,.k,.int t3),(19,.k,.sl 2 (t7.1.map Dto.v) false),(21,.k,.sl 2 (t8.1.map Dto.v) false),(23,.k,.int t10),(154,.k,.bool t11)],[.box (.agg [.sl 2 (t1.1.rs.map Rtr.v) false,.sl 5 (t1.1.ls.map Lnk.v) false]),.box (.agg [.int t1.2.sub,.int t1.2.len,.sl 2 (t1.2.es.map Edg.v) false]),.box (.agg [.int t2.x00,.int t2.x01,.int t2.x02,.int t2.x10,.int t2.x11,.int t2.x12,.int t2.x20,.int t2.x21,.int t2.x22])]⟩
@[reducible] def detL_s:Nat→Type
 | 0=>Tap
 | 1=>Tpl×Pln
 | 2=>A33
 | 3=>Int
 | 4=>(List Int)×Bool
 | 5=>(List Int)×Bool
 | 6=>Bool
 | 7=>(List Dto)×Int
 | 8=>(List Dto)×Int
 | 9=>Bool
 | 10=>Int
 | 11=>Bool
 | _=>Unit
def detL_e(r:Bool):AV:=.bool r
def detL_x(t:(List Int))(r:Int)(n:Int)(id:Int)(I3:Tap→Tpl×Pln→A33→Int→Prop)(m3:Tap→Tpl×Pln→A33→Int→Nat)(I6:Tap→Tpl×Pln→A33→Int→A3→(List Int)×Bool→(List Int)×Bool→Bool→Prop)(I9:Tap→Tpl×Pln→A33→Int→A3→(List Int)×Bool→(List Int)×Bool→Bool→(List Dto)×Int→(List Dto)×Int→Bool→Prop)(I10:Tap→Tpl×Pln→A33→Int→A3→(List Int)×Bool→(List Int)×Bool→Bool→(List Dto)×Int→(List Dto)×Int→Bool→Int→Prop)(m10:Tap→Tpl×Pln→A33→Int→A3→(List Int)×Bool→(List Int)×Bool→Bool→(List Dto)×Int→(List Dto)×Int→Bool→Int→Nat)(I11:Tap→Tpl×Pln→A33→Int→A3→(List Int)×Bool→(List Int)×Bool→Bool→(List Dto)×Int→(List Dto)×Int→Bool→Int→Bool→Prop):Ax Tryz.prog detL_s (Bool):=
 (.pass (.join 0 (detL_n0 r n id) (λ(t0:Tap)=>t0=(((⟨t.take 600,0⟩:Tap)):Tap)) (λb0=>(.callH [] (newM_h t) 32
(.bk 0 b0 (((⟨t.take 600,0⟩:Tap)):Tap) [32]))) λ(t0:Tap) =>
(.join 1 (detL_n1 r n id t0) (λ(t1:Tpl×Pln)=>t1=(((domM t0.L t0.p).1.1,(domM t0.L t0.p).1.2):Tpl×Pln)) (λb1=>(.callH [0] (domM_h t0.L t0.p) 17
(.bk 1 b1 ((domM t0.L t0.p).1.1,(domM t0.L t0.p).1.2) [0,81,97]))) λ(t1:Tpl×Pln) =>
(.join 2 (detL_n2 t1) (λ(t2:A33)=>t2=(((⟨r,n,id,(rouM t0.L ((domM t0.L t0.p).2) t1.1 6).1,(rouM t0.L ((rouM t0.L ((domM t0.L t0.p).2) t1.1 6).2) t1.1 6).1,rng t0.L ((rouM t0.L ((rouM t0.L ((domM t0.L t0.p).2) t1.1 6).2) t1.1 6).2) 0 6,(rouM t0.L (rawP t0.L ((rouM t0.L ((rouM t0.L ((domM t0.L t0.p).2) t1.1 6).2) t1.1 6).2)) t1.1 0).1,(rouM t0.L ((rouM t0.L (rawP t0.L ((rouM t0.L ((rouM t0.L ((domM t0.L t0.p).2) t1.1 6).2) t1.1 6).2)) t1.1 0).2) t1.1 0).1,rng t0.L ((rouM t0.L ((rouM t0.L (rawP t0.L ((rouM t0.L ((rouM t0.L ((domM t0.L t0.p).2) t1.1 6).2) t1.1 6).2)) t1.1 0).2) t1.1 0).2) 1 4⟩:A33)):A33)) (λb2=>(.callH [0] (rouM_h t0.L ((domM t0.L t0.p).2) t1.1 6) 99
(.callH [0] (rouM_h t0.L ((rouM t0.L ((domM t0.L t0.p).2) t1.1 6).2) t1.1 6) 147
(.callH [0] (rngM_h t0.L ((rouM t0.L ((rouM t0.L ((domM t0.L t0.p).2) t1.1 6).2) t1.1 6).2) 0 6) 179
(.callH [0] (rouM_h t0.L (rawP t0.L ((rouM t0.L ((rouM t0.L ((domM t0.L t0.p).2) t1.1 6).2) t1.1 6).2)) t1.1 0) 243
(.callH [0] (rouM_h t0.L ((rouM t0.L (rawP t0.L ((rouM t0.L ((rouM t0.L ((domM t0.L t0.p).2) t1.1 6).2) t1.1 6).2)) t1.1 0).2) t1.1 0) 291
(.callH [0] (rngM_h t0.L ((rouM t0.L ((rouM t0.L (rawP t0.L ((rouM t0.L ((rouM t0.L ((domM t0.L t0.p).2) t1.1 6).2) t1.1 6).2)) t1.1 0).2) t1.1 0).2) 1 4) 323
(.bk 2 b2 (((⟨r,n,id,(rouM t0.L ((domM t0.L t0.p).2) t1.1 6).1,(rouM t0.L ((rouM t0.L ((domM t0.L t0.p).2) t1.1 6).2) t1.1 6).1,rng t0.L ((rouM t0.L ((rouM t0.L ((domM t0.L t0.p).2) t1.1 6).2) t1.1 6).2) 0 6,(rouM t0.L (rawP t0.L ((rouM t0.L ((rouM t0.L ((domM t0.L t0.p).2) t1.1 6).2) t1.1 6).2)) t1.1 0).1,(rouM t0.L ((rouM t0.L (rawP t0.L ((rouM t0.L ((rouM t0.L ((domM t0.L t0.p).2) t1.1 6).2) t1.1 6).2)) t1.1 0).2) t1.1 0).1,rng t0.L ((rouM t0.L ((rouM t0.L (rawP t0.L ((rouM t0.L ((rouM t0.L ((domM t0.L t0.p).2) t1.1 6).2) t1.1 6).2)) t1.1 0).2) t1.1 0).2) 1 4⟩:A33)):A33) [1,2,371])))))))) λ(t2:A33) =>
(.loop 3 (detL_n3 t1 t2) (I3 t0 t1 t2) (m3 t0 t1 t2) ((0):Int) [0,1,2] λ(t3:Int) b3 =>
(.br 35 (decide (t3<3)) (.say (ck (cond (decide (0≤t3)) (decide (t3<3)) false)) (.elA 67 (λx:A3=>[.int x.x0,.int x.x1,.int x.x2]) [(⟨t2.x00,t2.x01,t2.x02⟩:A3),(⟨t2.x10,t2.x11,t2.x12⟩:A3),(⟨t2.x20,t2.x21,t2.x22⟩:A3)] (t3.toNat) 3 (λ_=>rfl) (λR=>Rf (α:=List AV) ([.int t2.x00,.int t2.x01,.int t2.x02,.int t2.x10,.int t2.x11,.int t2.x12,.int t2.x20,.int t2.x21,.int t2.x22]) (((0+(t3.toNat * 3))=t3.toNat * 3)∧(ck (decide (t3.toNat<[(⟨t2.x00,t2.x01,t2.x02⟩:A3),(⟨t2.x10,t2.x11,t2.x12⟩:A3),(⟨t2.x20,t2.x21,t2.x22⟩:A3)].length))
(∀x1,[(⟨t2.x00,t2.x01,t2.x02⟩:A3),(⟨t2.x10,t2.x11,t2.x12⟩:A3),(⟨t2.x20,t2.x21,t2.x22⟩:A3)][t3.toNat]?=some x1 →
(R x1))))) λx1 =>
(.join 4 (detL_n4 t1 t2 t3 x1) (λ(t4:(List Int)×Bool)=>t4=(((dtoT t1.1 t1.2 x1.x0 x1.x1 x1.x2).1,(dtoT t1.1 t1.2 x1.x0 x1.x1 x1.x2).2):(List Int)×Bool)) (λb4=>(.callP (dtoP_c t1.1 t1.2 x1.x0 x1.x1 x1.x2)
(.bk 4 b4 ((dtoT t1.1 t1.2 x1.x0 x1.x1 x1.x2).1,(dtoT t1.1 t1.2 x1.x0 x1.x1 x1.x2).2) [0,1,2,83]))) λ(t4:(List Int)×Bool) =>
(.join 5 (detL_n5 t1 t2 t3 x1 t4) (λ(t5:(List Int)×Bool)=>t5=(((dtoT t1.1 t1.2 x1.x0 x1.x1 x1.x2).1,(dtoT t1.1 t1.2 x1.x0 x1.x1 x1.x2).2):(List Int)×Bool)) (λb5=>(.callP (dtoR_c t1.1 t1.2 x1.x0 x1.x1 x1.x2)
(.bk 5 b5 ((dtoT t1.1 t1.2 x1.x0 x1.x1 x1.x2).1,(dtoT t1.1 t1.2 x1.x0 x1.x1 x1.x2).2) [0,1,2,3]))) λ(t5:(List Int)×Bool) =>
(.pass (.join 6 (detL_n6 t1 t2 t3 x1) (λ(t6:Bool)=>I6 t0 t1 t2 t3 x1 t4 t5 t6) (λb6=>(.callP (intE_c t4.1 t5.1)
(.br 84 (!(decide (t4.1=t5.1))) (.bk 6 b6 ((true):Bool) [0,1,2,3])
(.bk 6 b6 ((!(t4.2==t5.2)):Bool) [0,1,2,3])))) λ(t6:Bool) =>
(.br 4 t6 (.ret (false))
(.join 7 (detL_n7 t1 t2 t3 x1) (λ(t7:(List Dto)×Int)=>t7=(((dtsT t1.1 t1.2 x1.x0 x1.x1).1,(dtsT t1.1 t1.2 x1.x0 x1.x1).2):(List Dto)×Int)) (λb7=>(.callP (dtsP_c t1.1 t1.2 x1.x0 x1.x1)
(.bk 7 b7 ((dtsT t1.1 t1.2 x1.x0 x1.x1).1,(dtsT t1.1 t1.2 x1.x0 x1.x1).2) [0,1,2,3]))) λ(t7:(List Dto)×Int) =>
(.join 8 (detL_n8 t1 t2 t3 t7) (λ(t8:(List Dto)×Int)=>t8=(((dtsT t1.1 t1.2 x1.x0 x1.x1).1,(dtsT t1.1 t1.2 x1.x0 x1.x1).2):(List Dto)×Int)) (λb8=>(.callP (dtsR_c t1.1 t1.2 x1.x0 x1.x1)
(.bk 8 b8 ((dtsT t1.1 t1.2 x1.x0 x1.x1).1,(dtsT t1.1 t1.2 x1.x0 x1.x1).2) [0,1,2]))) λ(t8:(List Dto)×Int) =>
(.pass (.join 9 (detL_n9 t1 t2 t3 t7 t8) (λ(t9:Bool)=>I9 t0 t1 t2 t3 x1 t4 t5 t6 t7 t8 t9) (λb9=>(.br 99 (((t7.1.map Dto.v).length:Int) != ((t8.1.map Dto.v).length:Int)) (.bk 9 b9 ((true):Bool) [0,1,2])
(.bk 9 b9 ((t7.2 != t8.2):Bool) [0,1,2]))) λ(t9:Bool) =>
(.br 3 t9 (.ret (false))
(.loop 10 (detL_n10 t1 t2 t3 t7 t8) (I10 t0 t1 t2 t3 x1 t4 t5 t6 t7 t8 t9) (m10 t0 t1 t2 t3 x1 t4 t5 t6 t7 t8 t9) ((0):Int) [0,1,2] λ(t10:Int) b10 =>
(.br 67 (decide (t10<((t7.1.map Dto.v).length:Int))) (.pass (.join 11 (detL_n11 t1 t2 t3 t7 t8 t10) (λ(t11:Bool)=>I11 t0 t1 t2 t3 x1 t4 t5 t6 t7 t8 t9 t10 t11) (λb11=>(.el 99 Dto.v t7.1 (λR=>Rf (t7.1.map Dto.v) (ck (decide (0≤t10)) (ck (decide (t10<(t7.1.length:Int)))
(∀x2,t7.1[t10.toNat]?=some x2 →
(R x2))))) λx2 =>
(.el 179 Dto.v t8.1 (λR=>Rf (t8.1.map Dto.v) (ck (decide (0≤t10)) (ck (decide (t10<(t8.1.length:Int)))
(∀x3,t8.1[t10.toNat]?=some x3 →
(R x3))))) λx3 =>
(.br 259 (x2.id != x3.id) (.bk 11 b11 ((true):Bool) [0,1,2])
(.el 291 Dto.v t7.1 (λR=>Rf (t7.1.map Dto.v) (ck (decide (0≤t10)) (ck (decide (t10<(t7.1.length:Int)))
(∀x4,t7.1[t10.toNat]?=some x4 →
(R x4))))) λx4 =>
(.el 371 Dto.v t8.1 (λR=>Rf (t8.1.map Dto.v) (ck (decide (0≤t10)) (ck (decide (t10<(t8.1.length:Int)))
(∀x5,t8.1[t10.toNat]?=some x5 →
(R x5))))) λx5 =>
(.callP (intE_c x4.route x5.route)
(.bk 11 b11 ((!(decide (x4.route=x5.route))):Bool) [0,1,2])))))))) λ(t11:Bool) =>
(.br 3 t11 (.ret (false))
(.bk 10 b10 ((W (t10+1)):Int) [0,1,2]))))
(.bk 3 b3 ((W (t3+1)):Int) [0,1,2])))))))))))))))
(.callP (awk20_c )
(.ret (true)))))))))
def detL_vc(t:(List Int))(r:Int)(n:Int)(id:Int)(I3:Tap→Tpl×Pln→A33→Int→Prop)(m3:Tap→Tpl×Pln→A33→Int→Nat)(I6:Tap→Tpl×Pln→A33→Int→A3→(List Int)×Bool→(List Int)×Bool→Bool→Prop)(I9:Tap→Tpl×Pln→A33→Int→A3→(List Int)×Bool→(List Int)×Bool→Bool→(List Dto)×Int→(List Dto)×Int→Bool→Prop)(I10:Tap→Tpl×Pln→A33→Int→A3→(List Int)×Bool→(List Int)×Bool→Bool→(List Dto)×Int→(List Dto)×Int→Bool→Int→Prop)(m10:Tap→Tpl×Pln→A33→Int→A3→(List Int)×Bool→(List Int)×Bool→Bool→(List Dto)×Int→(List Dto)×Int→Bool→Int→Nat)(I11:Tap→Tpl×Pln→A33→Int→A3→(List Int)×Bool→(List Int)×Bool→Bool→(List Dto)×Int→(List Dto)×Int→Bool→Int→Bool→Prop)(r0:Bool):Prop:=(detL_x t r n id I3 m3 I6 I9 I10 m10 I11).vp detL_e r0
theorem dts_len(t:Tpl)(p:Pln)(r n:Int):(dtsT t p r n).1.length≤24:=by
 unfold dtsT
 split
 ·simp
 ·rename_i c
  have hp:plnOkB p=true:=by
   cases q:plnOkB p
   ·exact absurd (.inr q) c
   ·rfl
  unfold plnOkB at hp
  rw[Bool.and_eq_true,decide_eq_true_iff]at hp
  have hpl:=hp.1.2.2
  split
  ·simp
  ·split
   ·simp
   ·have:∀l:List Edg,(l.flatMap (dts1 t p r n)).length≤l.length:=λl=>by
     induction l with
     | nil=>simp
     | cons e l ih =>
      have:(dts1 t p r n e).length≤1:=by unfold dts1;split<;>simp
      rw[List.flatMap_cons,List.length_append,List.length_cons];omega
    exact Nat.le_trans (this _) hpl
theorem detL_p(t:List Int)(r n id:Int)(ok:detL_a t r n id):∃I3 m3 I6 I9 I10 m10 I11,detL_vc t r n id I3 m3 I6 I9 I10 m10 I11 true:=by
 refine⟨λ_ _ _ i=>0≤i∧i≤3,λ_ _ _ i=>3-i.toNat,λ_ _ _ _ _ _ _ b=>b=false,λ_ _ _ _ _ _ _ _ _ _ b=>b=false,λ_ _ _ _ _ _ _ _ c _ _ k=>∃j:Nat,k=j∧j≤c.1.length,λ_ _ _ _ _ _ _ _ c _ _ k=>c.1.length-k.toNat,λ_ _ _ _ _ _ _ _ _ _ _ _ b=>b=false,?_⟩
 dsimp only[detL_vc,detL_x,detL_s,Ax.vp,Ax.vc];simp only[vcU,rfU,List.length_map]
 refine⟨trivial,?_⟩
 rintro _ rfl
 refine⟨trivial,?_⟩
 rintro _ rfl
 refine⟨trivial,?_⟩
 intro a3 _
 refine⟨by omega,λi hi=>⟨λc=>⟨range2 hi.1 c,by omega,by simp;omega,λx hx=>⟨trivial,?_⟩⟩,λc=>?_⟩⟩
 ·rintro _ rfl
  refine⟨trivial,?_⟩
  rintro _ rfl
  refine⟨⟨λe=>by simp at e,λe=>by simp⟩,?_⟩
  rintro _ rfl
  refine⟨λe=>e,λ_=>⟨trivial,?_⟩⟩
  generalize hD:dtsT ((domM (⟨List.take 600 t,0⟩:Tap).L (⟨List.take 600 t,0⟩:Tap).p).1.1,(domM (⟨List.take 600 t,0⟩:Tap).L (⟨List.take 600 t,0⟩:Tap).p).1.2).1 ((domM (⟨List.take 600 t,0⟩:Tap).L (⟨List.take 600 t,0⟩:Tap).p).1.1,(domM (⟨List.take 600 t,0⟩:Tap).L (⟨List.take 600 t,0⟩:Tap).p).1.2).2 x.x0 x.x1=D
  have hl:D.1.length≤24:=by rw[←hD];exact dts_len _ _ _ _
  rintro _ rfl
  refine⟨trivial,?_⟩
  rintro _ rfl
  refine⟨⟨λe=>by simp at e,λe=>by simp⟩,?_⟩
  rintro _ rfl
  refine⟨λe=>e,λ_=>⟨⟨0,rfl,Nat.zero_le _⟩,?_⟩⟩
  rintro _ ⟨k,rfl,hk⟩
  refine⟨λc2=>⟨⟨by omega,c2,λy hy=>⟨by omega,c2,λz hz=>?_⟩⟩,?_⟩,λc2=>?_⟩
  ·rw[hy]at hz;cases hz
   refine⟨λe=>by simp at e,λ_=>⟨by omega,c2,λu hu=>⟨by omega,c2,λw hw=>?_⟩⟩⟩
   rw[hu]at hw;cases hw;simp
  ·rintro _ rfl
   refine⟨λe=>e,λ_=>?_⟩
   have c2:(k:Int)<(D.1.length:Int):=c2
   rw[W_succ (n:=D.1.length) (by omega) (by omega)]
   refine⟨⟨k+1,rfl,show k+1≤D.1.length by omega⟩,?_⟩
   show D.1.length-((k+1:Nat):Int).toNat<D.1.length-((k:Nat):Int).toNat
   omega
  ·obtain⟨h1,h2⟩:=hi
   obtain⟨m,hm⟩:∃m:Int,m=i:=⟨i,rfl⟩
   have e1:W (m+1)=m+1:=W_eq ⟨by rw[hm];omega,by rw[hm];omega⟩
   rw[←hm]at h1 h2 c ⊢
   rw[e1]
   exact⟨⟨by omega,by omega⟩,by omega⟩
 ·exact trivial
def detL_c(t:(List Int))(r:Int)(n:Int)(id:Int):PC Tryz.prog:=⟨3,[(.s 1),.k,.k,.k],[.sl 1 (t.map AV.int) false,.int r,.int n,.int id],detL_e true,PSpec.of_ok λok=>(detL_p t r n id ok).elim λI3 h=>h.elim λm3 h=>h.elim λI6 h=>h.elim λI9 h=>h.elim λI10 h=>h.elim λm10 h=>h.elim λI11 h=>mxP_of (sh:=.k) (enc:=detL_e) (a:=(detL_x t r n id I3 m3 I6 I9 I10 m10 I11).an) h (by kernel_rfl) (AV.pureB_ok rfl),fnB_ok (by kernel_rfl)⟩
end Go.Proofs.YteooglpnechplaaGreat
