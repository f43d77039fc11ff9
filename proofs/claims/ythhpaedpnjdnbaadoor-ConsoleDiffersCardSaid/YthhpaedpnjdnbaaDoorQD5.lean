/- Texts joined: D2 D3 D4 V2 U1 GW D5 D6. -/
import Derived.Test.YthhpaedpnjdnbaaDoorQD4
set_option linter.unusedVariables false
set_option linter.unusedSimpArgs false
namespace Go.Proofs.YthhpaedpnjdnbaaDoor
open Go Go.Am
theorem pureBLs_int(l:List Int):pureBLs [l.map AV.int]=true:=by rw [pureBLs,pureBL_map (fun _=>rfl) _];rfl
def treH(ins:List Int)(l:Lnk):Hop:=if InI ins l.b then ⟨l.b,l.a⟩ else ⟨l.a,l.b⟩
def treG(L:List Int)(ls:List Lnk):Nat→List Int→Tre→Nat→Tre×Nat
 | 0,_,t,p=>(t,p)
 | i+1,ins,t,p =>
  let h:=treH ins (ls.getD (Mod (rawV L p) ls.length).toNat ⟨0,0,0,0,0⟩)
  if InI ins h.a && !InI ins h.b then treG L ls i (ins++[h.b]) ⟨t.root,putH t.ls h⟩ (rawP L p) else treG L ls i ins t (rawP L p)
def treN(L:List Int)(p:Nat)(a:Tpl)(root:Int):Tre×Nat:=treG L a.ls (Mod (rawV L p) (2 * a.ls.length+1)).toNat [root] ⟨root,[]⟩ (rawP L p)
def treN_a(L:(List Int))(p:Nat)(a1:Tpl)(root:Int):Prop:=okL [.ref 0 0,.agg [.sl 2 (a1.rs.map Rtr.v) false,.sl 5 (a1.ls.map Lnk.v) false],.int root]∧(.box (.agg [.sl 1 (L.map AV.int) false,.int ((p:Nat):Int)]):Blk).ok
def treN_n0(L:(List Int))(a1:Tpl)(t0:Int×(List Int)×Tre×Nat):NF:=⟨[(0,.k,.ref 0 0),(4,.k,.ref 1 0),(6,.k,.ref 2 0),(7,.k,.ref 3 0),(8,.k,.vec 4),(9,.k,.int t0.1)],[.box (.agg [.sl 1 (L.map AV.int) false,.int ((t0.2.2.2:Nat):Int)]),.box (.agg [.sl 2 (a1.rs.map Rtr.v) false,.sl 5 (a1.ls.map Lnk.v) false]),.box (.agg [.int 0,.sl 0 [] true]),.box (.agg [.int t0.2.2.1.root,.sl 2 (t0.2.2.1.ls.map Hop.v) false]),.vec 1 (t0.2.1.map AV.int) (pureBL_map (fun _=>rfl) t0.2.1)]⟩
def treN_n1(L:(List Int))(a1:Tpl)(t0:Int×(List Int)×Tre×Nat)(t1:Hop):NF:=⟨[(0,.k,.ref 0 0),(4,.k,.ref 1 0),(6,.k,.ref 2 0),(7,.k,.ref 3 0),(8,.k,.vec 4),(9,.k,.int t0.1),(11,.k,.ref 5 0)],[.box (.agg [.sl 1 (L.map AV.int) false,.int (((rawP L t0.2.2.2):Nat):Int)]),.box (.agg [.sl 2 (a1.rs.map Rtr.v) false,.sl 5 (a1.ls.map Lnk.v) false]),.box (.agg [.int 0,.sl 0 [] true]),.box (.agg [.int t0.2.2.1.root,.sl 2 (t0.2.2.1.ls.map Hop.v) false]),.vec 1 (t0.2.1.map AV.int) (pureBL_map (fun _=>rfl) t0.2.1),.box (.agg [.int t1.a,.int t1.b])]⟩
def treN_n2(L:(List Int))(a1:Tpl)(t0:Int×(List Int)×Tre×Nat)(t1:Hop)(t2:Bool):NF:=⟨[(0,.k,.ref 0 0),(4,.k,.ref 1 0),(6,.k,.ref 2 0),(7,.k,.ref 3 0),(8,.k,.vec 4),(9,.k,.int t0.1),(11,.k,.ref 5 0),(60,.k,.bool t2)],[.box (.agg [.sl 1 (L.map AV.int) false,.int (((rawP L t0.2.2.2):Nat):Int)]),.box (.agg [.sl 2 (a1.rs.map Rtr.v) false,.sl 5 (a1.ls.map Lnk.v) false]),.box (.agg [.int 0,.sl 0 [] true]),.box (.agg [.int t0.2.2.1.root,.sl 2 (t0.2.2.1.ls.map Hop.v) false]),.vec 1 (t0.2.1.map AV.int) (pureBL_map (fun _=>rfl) t0.2.1),.box (.agg [.int t1.a,.int t1.b])]⟩
@[reducible] def treN_s:Nat→Type
 | 0=>Int×(List Int)×Tre×Nat
 | 1=>Hop
 | 2=>Bool
 | _=>Unit
def treN_e(r:Tap×Tre):AV:=.agg [.int r.2.root,.sl 2 (r.2.ls.map Hop.v) false]
def treN_b(r:Tap×Tre):List (Option Blk):=[some (.box (.agg [.sl 1 (r.1.L.map AV.int) false,.int ((r.1.p:Nat):Int)]))]
def treN_x(L:(List Int))(p:Nat)(a1:Tpl)(root:Int)(I0:(Int×(List Int)×Tre×Nat)→Prop)(m0:(Int×(List Int)×Tre×Nat)→Nat)(I1:Int×(List Int)×Tre×Nat→Lnk→Hop→Prop)(I2:Int×(List Int)×Tre×Nat→Lnk→Hop→Bool→Prop):Ax Tryd.prog treN_s (Tap×Tre):=
 (.own 113 (.callH [0] (N_h L p (W ((W (2 * ((a1.ls.map Lnk.v).length:Int)))+1))) 241
(.cmdL (.wkB 65 (.a [.k,.s 2])) (.loop 0 (treN_n0 L a1) I0 m0 (Mod (rawV L p) (W ((W (2 * ((a1.ls.map Lnk.v).length:Int)))+1)),[root],(⟨root,[]⟩:Tre),rawP L p) [0,1,17,65,113] fun (t0:Int×(List Int)×Tre×Nat) b0 =>
(.br 37 (decide (0<t0.1)) (.callH [0] (N_h L t0.2.2.2 ((a1.ls.map Lnk.v).length:Int)) 133
(.el 149 Lnk.v a1.ls (fun R=>Rf (a1.ls.map Lnk.v) (ck (decide (0≤(Mod (rawV L t0.2.2.2) ((a1.ls.map Lnk.v).length:Int)))) (ck (decide ((Mod (rawV L t0.2.2.2) ((a1.ls.map Lnk.v).length:Int))<(a1.ls.length:Int)))
(∀x1,a1.ls[(Mod (rawV L t0.2.2.2) ((a1.ls.map Lnk.v).length:Int)).toNat]?=some x1 →
(R x1))))) fun x1 =>
(.pass (.join 1 (treN_n1 L a1 t0) (fun (t1:Hop)=>I1 t0 x1 t1) (fun b1=>(.callP (InI_c t0.2.1 x1.b)
(.say (ck (pureBLs [(t0.2.1.map AV.int)])) (.br 389 (InI t0.2.1 x1.b) (.bk 1 b1 (((⟨x1.b,x1.a⟩:Hop)):Hop) [0,1,2,3,4,293])
(.bk 1 b1 (((⟨x1.a,x1.b⟩:Hop)):Hop) [0,1,2,3,4,293]))))) fun (t1:Hop) =>
(.join 2 (treN_n2 L a1 t0 t1) (fun (t2:Bool)=>I2 t0 x1 t1 t2) (fun b2=>(.callP (InI_c t0.2.1 t1.a)
(.say (ck (pureBLs [(t0.2.1.map AV.int)])) (.br 86 (InI t0.2.1 t1.a) (.callP (InI_c t0.2.1 t1.b)
(.say (ck (pureBLs [(t0.2.1.map AV.int)])) (.bk 2 b2 ((!(InI t0.2.1 t1.b)):Bool) [0,1,2,3,4,5])))
(.bk 2 b2 ((false):Bool) [0,1,2,3,4,5]))))) fun (t2:Bool) =>
(.br 6 t2 (.own 54 (.say (fun R=>Rf (α:=List AV) (t0.2.1.map AV.int) (Rf (α:=List AV) [.int t1.b]
(ck (decide (t0.2.1.length+1≤1000000))
R))) (.app 70 AV.int t0.2.1 [t1.b]
(.req 150 (t0.2.2.1.ls.length≤100000) fun h2 =>
(.callP (putH_c t0.2.2.1.ls t1 h2)
(.bk 0 b0 (W (t0.1-1),t0.2.1++[t1.b],(⟨t0.2.2.1.root,putH t0.2.2.1.ls t1⟩:Tre),rawP L t0.2.2.2) [0,1,2,3,70]))))))
(.bk 0 b0 (W (t0.1-1),t0.2.1,t0.2.2.1,rawP L t0.2.2.2) [0,1,2,3,4])))))))
(.retH ((⟨L,t0.2.2.2⟩:Tap),t0.2.2.1) ⟨[(6,.k,.ref 1 0)],[.box (.agg [.sl 1 (L.map AV.int) false,.int ((t0.2.2.2:Nat):Int)]),.box (.agg [.int t0.2.2.1.root,.sl 2 (t0.2.2.1.ls.map Hop.v) false])]⟩ [0,2]))))))
def treN_vc(L:(List Int))(p:Nat)(a1:Tpl)(root:Int)(I0:(Int×(List Int)×Tre×Nat)→Prop)(m0:(Int×(List Int)×Tre×Nat)→Nat)(I1:Int×(List Int)×Tre×Nat→Lnk→Hop→Prop)(I2:Int×(List Int)×Tre×Nat→Lnk→Hop→Bool→Prop)(r0:Tap×Tre):Prop:=(treN_x L p a1 root I0 m0 I1 I2).vc treN_e treN_b r0
theorem treN_p(L:List Int)(p:Nat)(a:Tpl)(root:Int)(hl:a.ls.length≤10000)(ok:treN_a L p a root):∃I m J K,treN_vc L p a root I m J K ((⟨L,(treN L p a root).2⟩:Tap),(treN L p a root).1):=by
 refine ⟨fun t=>∃i:Nat,t.1=i∧treG L a.ls i t.2.1 t.2.2.1 t.2.2.2=treN L p a root∧i+t.2.1.length≤30000∧t.2.2.1.ls.length+i≤20000∧i≤2 * a.ls.length,fun t=>t.1.toNat,fun t l h=>h=treH t.2.1 l,fun t l h b=>b=(InI t.2.1 h.a && !InI t.2.1 h.b),?_⟩
 dsimp only [treN_vc,treN_x,treN_s,Ax.vp,Ax.vc];simp only [vcU,rfU,List.length_map]
 have hm:=Mod_range (x:=rawV L p) (show 1≤2 * (a.ls.length:Int)+1 by omega)
 have w1:W (2 * (a.ls.length:Int))=2 * (a.ls.length:Int):=W_eq (by omega)
 rw [w1,W_eq (by omega)]
 refine ⟨⟨(Mod (rawV L p) (2 * a.ls.length+1)).toNat,by omega,rfl,by simp;omega,by simp;omega,by omega⟩,?_⟩
 rintro ⟨i,ins,t,q⟩ ⟨k,hi,he,h1,h2,h3⟩
 simp only at hi he h1 h2 h3 ⊢
 subst hi
 refine ⟨fun c=>?_,fun c=>?_⟩
 ·obtain ⟨k,rfl⟩:∃j,k=j+1:=⟨k-1,by omega⟩
  have hr:=Mod_range (x:=rawV L q) (show 1≤(a.ls.length:Int) by omega)
  have w:W (((k+1:Nat):Int)-1)=(k:Int):=by rw [W_eq (by omega)];omega
  rw [w]
  refine ⟨by omega,by omega,fun x hx=>⟨⟨pureBLs_int _,fun c=>by rw [treH,if_pos c],fun c=>by rw [treH,if_neg (by simp [c])]⟩,?_⟩⟩
  rintro _ rfl
  refine ⟨⟨pureBLs_int _,fun c=>⟨pureBLs_int _,by rw [c];simp⟩,fun c=>by rw [c];simp⟩,?_⟩
  rw [treG] at he
  have hg:a.ls.getD (Mod (rawV L q) a.ls.length).toNat ⟨0,0,0,0,0⟩=x:=by rw [List.getD_eq_getElem?_getD,hx];rfl
  rw [hg] at he
  rintro _ rfl
  refine ⟨fun c=>?_,fun c=>?_⟩
  ·rw [if_pos c] at he
   have hpl:=putH_len t.ls (treH ins x)
   refine ⟨by omega,by omega,⟨k,rfl,he,by simp;omega,by omega,by omega⟩,by omega⟩
  ·rw [if_neg (by simp [c])] at he
   exact ⟨⟨k,rfl,he,by omega,by omega,by omega⟩,by omega⟩
 ·have:k=0:=by omega
  subst this
  rw [treG] at he
  rw [←he]
def treN_h(L:(List Int))(p:Nat)(a1:Tpl)(root:Int)(hl:a1.ls.length≤10000):HC Tryd.prog:=⟨11,[.k,(.a [(.s 2),(.s 5)]),.k],[.ref 0 0,.agg [.sl 2 (a1.rs.map Rtr.v) false,.sl 5 (a1.ls.map Lnk.v) false],.int root],[.box (.agg [.sl 1 (L.map AV.int) false,.int ((p:Nat):Int)])],treN_e ((⟨L,(treN L p a1 root).2⟩:Tap),(treN L p a1 root).1),treN_b ((⟨L,(treN L p a1 root).2⟩:Tap),(treN L p a1 root).1),HSpec.of_okh fun ok ok2=>have ok:treN_a L p a1 root:=⟨ok,ok2 _ (by simp)⟩;(treN_p L p a1 root hl ok).elim fun I0 h=>h.elim fun m0 h=>h.elim fun I1 h=>h.elim fun I2 h=>mxH_of (sh:=(.a [.k,(.s 2)])) (enc:=treN_e) (hB:=treN_b) (a:=(treN_x L p a1 root I0 m0 I1 I2).an) h (by kernel_rfl),fnB_ok (by kernel_rfl),HcOk.of (by simp [hcB,belBL,AV.belB,allB,okBk,okBkO,treN_e,treN_b,pureBL_map (v:=AV.int) (fun _=>rfl),pureBL_map (v:=Lnk.v) (fun _=>rfl),pureBL_map (v:=Rtr.v) (fun _=>rfl)])⟩
theorem treG_len{L:List Int}{ls:List Lnk}:∀{i:Nat} {ins:List Int} {t:Tre} {p:Nat},(treG L ls i ins t p).1.ls.length≤t.ls.length+i
 | 0,_,_,_=>by simp [treG]
 | i+1,ins,t,p=>by
  rw [treG]
  split
  ·refine Nat.le_trans treG_len ?_
   simp only [putH_len];omega
  ·refine Nat.le_trans treG_len ?_
   omega
theorem treN_len{L:List Int}{p:Nat}{a:Tpl}{root:Int}:(treN L p a root).1.ls.length≤2 * a.ls.length:=by
 have hm:=Mod_range (x:=rawV L p) (show 1≤2 * (a.ls.length:Int)+1 by omega)
 refine Nat.le_trans treG_len ?_
 simp;omega
theorem lnk1_len{L:List Int}{rs:List Rtr}{flat:Bool}{a:Nat}:∀{r:List Bool} {b:Nat} {ls:List Lnk} {p:Nat},(lnk1 L rs flat a r b ls p).1.length≤ls.length+r.length
 | [],_,_,_=>by simp [lnk1]
 | t::r,b,ls,p=>by
  rw [lnk1]
  split
  ·refine Nat.le_trans lnk1_len ?_
   simp;omega
  ·refine Nat.le_trans lnk1_len ?_
   simp only [List.length_cons];omega
theorem lnk2_len{L:List Int}{rs:List Rtr}{flat:Bool}{n:Nat}:∀{M:List (List Bool)} {a:Nat} {ls:List Lnk} {p:Nat},(∀r∈M,r.length=n)→(lnk2 L rs flat M a ls p).1.length≤ls.length+M.length * n
 | [],_,_,_,_=>by simp [lnk2]
 | r::M,a,ls,p,h=>by
  rw [lnk2]
  refine Nat.le_trans (lnk2_len (n:=n) fun r hr=>h r (by simp [hr])) ?_
  have:=lnk1_len (L:=L) (rs:=rs) (flat:=flat) (a:=a) (r:=r) (b:=0) (ls:=ls) (p:=p)
  have:=h r (by simp)
  rw [List.length_cons,Nat.succ_mul];omega
theorem topoT_rs{L:List Int}{p:Nat}{most:Int}(hm:1≤most∧most≤100):1≤(topoT L p most).1.rs.length∧(topoT L p most).1.rs.length≤most:=by
 have e:(topoT L p most).1.rs=(topoR L p most).1:=rfl
 rw [e,topoR,rtsL_len]
 have:=rng_in (L:=L) (p:=p) (lo:=1) (hi:=most) (by omega)
 simp only [List.length_nil,Nat.zero_add];omega
theorem topoT_ls{L:List Int}{p:Nat}{most:Int}(hm:1≤most∧most≤100):((topoT L p most).1.ls.length:Int)≤most * most:=by
 have hr:=rng_in (L:=L) (p:=p) (lo:=1) (hi:=most) (by omega)
 have hM:=topoM_sq L (rng L p 1 most).toNat (topoR L p most).2
 have:=lnk2_len (L:=L) (rs:=(topoR L p most).1) (flat:=Mod (rawV L (topoM L (rng L p 1 most).toNat (topoR L p most).2).2) 3==0) (a:=0) (ls:=[]) (p:=rawP L (topoM L (rng L p 1 most).toNat (topoR L p most).2).2) (fun r hr=>hM.2 r hr)
 rw [hM.1] at this
 show (((lnk2 _ _ _ _ _ _ _).1.length:Nat):Int)≤_
 generalize (lnk2 _ _ _ _ _ _ _).1.length=x at *
 simp only [List.length_nil,Nat.zero_add] at this
 obtain ⟨n,hn⟩:∃n:Nat,rng L p 1 most=n:=⟨(rng L p 1 most).toNat,by omega⟩
 rw [hn] at hr this
 simp only [Int.toNat_natCast] at this
 have h2:(n:Int) * n≤most * most:=Int.mul_le_mul hr.2 hr.2 (by omega) (by omega)
 have h3:((n * n:Nat):Int)=(n:Int) * n:=by simp
 omega
theorem Hop.eq_iff{x y:Hop}:x=y↔x.a=y.a∧x.b=y.b:=by cases x;cases y;simp
def smeT_a(a:Tre)(b:Tre):Prop:=okL [.agg [.int a.root,.sl 2 (a.ls.map Hop.v) false],.agg [.int b.root,.sl 2 (b.ls.map Hop.v) false]]
def smeT_n0(a:Tre)(b:Tre)(t0:Bool):NF:=⟨[(2,.k,.ref 0 0),(3,.k,.ref 1 0),(19,.k,.bool t0)],[.box (.agg [.int a.root,.sl 2 (a.ls.map Hop.v) false]),.box (.agg [.int b.root,.sl 2 (b.ls.map Hop.v) false])]⟩
def smeT_n1(a:Tre)(b:Tre)(t1:Int):NF:=⟨[(2,.k,.ref 0 0),(3,.k,.ref 1 0),(22,.k,.int ((a.ls.map Hop.v).length:Int)),(23,.k,.int t1)],[.box (.agg [.int a.root,.sl 2 (a.ls.map Hop.v) false]),.box (.agg [.int b.root,.sl 2 (b.ls.map Hop.v) false])]⟩
@[reducible] def smeT_s:Nat→Type
 | 0=>Bool
 | 1=>Int
 | _=>Unit
def smeT_e(r:Bool):AV:=.bool r
def smeT_x(a:Tre)(b:Tre)(I0:Bool→Prop)(I1:Bool→Int→Prop)(m1:Bool→Int→Nat):Ax Tryd.prog smeT_s (Bool):=
 (.pass (.pass (.join 0 (smeT_n0 a b) (fun (t0:Bool)=>I0 t0) (fun b0=>(.br 144 (a.root != b.root) (.bk 0 b0 ((true):Bool) [0,16])
(.bk 0 b0 ((((a.ls.map Hop.v).length:Int) != ((b.ls.map Hop.v).length:Int)):Bool) [0,16]))) fun (t0:Bool) =>
(.br 2 t0 (.ret (false))
(.loop 1 (smeT_n1 a b) (I1 t0) (m1 t0) ((0):Int) [0,1] fun (t1:Int) b1 =>
(.br 18 (decide (t1<((a.ls.map Hop.v).length:Int))) (.el 98 Hop.v a.ls (fun R=>Rf (a.ls.map Hop.v) (ck (decide (0≤t1)) (ck (decide (t1<(a.ls.length:Int)))
(∀x1,a.ls[t1.toNat]?=some x1 →
(R x1))))) fun x1 =>
(.el 178 Hop.v b.ls (fun R=>Rf (b.ls.map Hop.v) (ck (decide (0≤t1)) (ck (decide (t1<(b.ls.length:Int)))
(∀x2,b.ls[t1.toNat]?=some x2 →
(R x2))))) fun x2 =>
(.br 226 (!((x1.a==x2.a) && ((x1.b==x2.b) && true))) (.ret (false))
(.bk 1 b1 ((W (t1+1)):Int) [0,1]))))
(.ret (true))))))))
def smeT_vc(a:Tre)(b:Tre)(I0:Bool→Prop)(I1:Bool→Int→Prop)(m1:Bool→Int→Nat)(r0:Bool):Prop:=(smeT_x a b I0 I1 m1).vp smeT_e r0
theorem smeT_p(a b:Tre)(ok:smeT_a a b):∃I0 I m,smeT_vc a b I0 I m (decide (a=b)):=by
 simp only [smeT_a,okU,Blk.ok,plainV,List.length_map] at ok
 refine ⟨fun t=>t=decide (a.root≠b.root∨a.ls.length≠b.ls.length),fun _ t=>∃k:Nat,t=k∧k≤a.ls.length∧a.ls.take k=b.ls.take k,fun _ t=>a.ls.length-t.toNat,?_⟩
 dsimp only [smeT_vc,smeT_x,smeT_s,Ax.vp,Ax.vc];simp only [vcU,rfU,List.length_map]
 refine ⟨⟨fun c=>?_,fun c=>?_⟩,?_⟩
 ·have:a.root≠b.root:=by simpa using c
  simp [this]
 ·have:a.root=b.root:=by simpa using c
  simp [this,bne,Int.natCast_inj]
  by_cases e:a.ls.length=b.ls.length
  ·simp [e]
  ·have:¬((a.ls.length:Int)=(b.ls.length:Int)):=by omega
   rw [decide_eq_false e]
   simp [this]
 rintro _ rfl
 refine ⟨fun c=>(decide_eq_false fun e=>by subst e;simp at c).symm,fun c=>⟨⟨0,rfl,by omega,rfl⟩,?_⟩⟩
 have c:=of_decide_eq_false c
 have c1:a.root=b.root:=Classical.byContradiction fun h=>c (.inl h)
 have c2:a.ls.length=b.ls.length:=Classical.byContradiction fun h=>c (.inr h)
 rintro _ ⟨k,rfl,hk,h⟩
 simp only [Int.toNat_natCast]
 refine ⟨fun h1=>⟨by omega,by omega,fun x hx=>⟨by omega,by omega,fun y hy=>⟨fun d=>?_,fun d=>?_⟩⟩⟩,fun h1=>?_⟩
 ·refine (decide_eq_false fun e=>?_).symm
  subst e
  cases hx.symm.trans hy
  simp at d
 ·have q:x=y:=by rw [Hop.eq_iff];simpa using d
  subst q
  rw [W_succ (n:=a.ls.length) (by omega) (by omega)]
  exact ⟨⟨k+1,rfl,by omega,by rw [take_succ hx,take_succ hy,h]⟩,by omega⟩
 ·rw [List.take_of_length_le (by omega),List.take_of_length_le (by omega)] at h
  refine (decide_eq_true ?_).symm
  cases a;cases b
  simp only at c1 h
  rw [c1,h]
def smeT_c(a:Tre)(b:Tre):PC Tryd.prog:=⟨17,[(.a [.k,(.s 2)]),(.a [.k,(.s 2)])],[.agg [.int a.root,.sl 2 (a.ls.map Hop.v) false],.agg [.int b.root,.sl 2 (b.ls.map Hop.v) false]],smeT_e (decide (a=b)),PSpec.of_ok fun ok=>(smeT_p a b ok).elim fun I0 h=>h.elim fun I1 h=>h.elim fun m1 h=>mxP_of (sh:=.k) (enc:=smeT_e) (a:=(smeT_x a b I0 I1 m1).an) h (by kernel_rfl) (AV.pureB_ok rfl),fnB_ok (by kernel_rfl)⟩
def clnA(l:List Aud):Bool:=l.all fun a=>!(a.rep != 0 || (a.st && (a.mis != 0 || a.frn != 0)))
def clnA_a(l:(List Aud)):Prop:=okL [.sl 5 (l.map Aud.v) false]
def clnA_n0(l:(List Aud))(t0:Int):NF:=⟨[(5,.k,.sl 5 (l.map Aud.v) false),(6,.k,.int ((l.map Aud.v).length:Int)),(7,.k,.int t0)],[]⟩
def clnA_n1(l:(List Aud))(t0:Int)(t1:Bool):NF:=⟨[(5,.k,.sl 5 (l.map Aud.v) false),(6,.k,.int ((l.map Aud.v).length:Int)),(7,.k,.int t0),(27,.k,.bool t1)],[]⟩
@[reducible] def clnA_s:Nat→Type
 | 0=>Int
 | 1=>Bool
 | _=>Unit
def clnA_e(r:Bool):AV:=.bool r
def clnA_x(l:(List Aud))(I0:Int→Prop)(m0:Int→Nat)(I1:Int→Aud→Bool→Prop):Ax Tryd.prog clnA_s (Bool):=
 (.loop 0 (clnA_n0 l) I0 m0 ((0):Int) [] fun (t0:Int) b0 =>
(.br 16 (decide (t0<((l.map Aud.v).length:Int))) (.el 16 Aud.v l (fun R=>Rf (l.map Aud.v) (ck (decide (0≤t0)) (ck (decide (t0<(l.length:Int)))
(∀x1,l[t0.toNat]?=some x1 →
(R x1))))) fun x1 =>
(.join 1 (clnA_n1 l t0) (fun (t1:Bool)=>I1 t0 x1 t1) (fun b1=>(.br 144 (x1.rep != 0) (.bk 1 b1 ((true):Bool) [])
(.br 192 x1.st (.br 256 (x1.mis != 0) (.bk 1 b1 ((true):Bool) [])
(.bk 1 b1 ((x1.frn != 0):Bool) []))
(.bk 1 b1 ((false):Bool) [])))) fun (t1:Bool) =>
(.br 0 t1 (.ret (false))
(.bk 0 b0 ((W (t0+1)):Int) []))))
(.ret (true))))
def clnA_vc(l:(List Aud))(I0:Int→Prop)(m0:Int→Nat)(I1:Int→Aud→Bool→Prop)(r0:Bool):Prop:=(clnA_x l I0 m0 I1).vp clnA_e r0
theorem clnA_p(l:List Aud)(ok:clnA_a l):∃I m J,clnA_vc l I m J (clnA l):=by
 refine ⟨fun t=>∃k:Nat,t=k∧k≤l.length∧clnA (l.take k)=true,fun t=>l.length-t.toNat,fun _ a b=>b=(a.rep != 0 || (a.st && (a.mis != 0 || a.frn != 0))),?_⟩
 simp only [clnA_a,okU,Blk.ok,plainV,List.length_map] at ok
 dsimp only [clnA_vc,clnA_x,clnA_s,Ax.vp,Ax.vc];simp only [vcU,rfU,List.length_map]
 refine ⟨⟨0,rfl,by omega,rfl⟩,?_⟩
 rintro _ ⟨k,rfl,hk,h⟩
 simp only [Int.toNat_natCast]
 refine ⟨fun h1=>⟨by omega,by omega,fun x hx=>⟨⟨fun c=>by rw [c];rfl,fun c=>⟨fun d=>⟨fun e=>by simp [c,d,e],fun e=>by simp [c,d,e]⟩,fun d=>by simp [c,d]⟩⟩,?_⟩⟩,fun h1=>?_⟩
 ·rintro _ rfl
  refine ⟨fun c=>?_,fun c=>?_⟩
  ·refine (Bool.eq_false_iff.mpr fun e=>?_).symm
   have:=List.all_eq_true.mp e x (mem_of_get hx)
   rw [c] at this;simp at this
  ·rw [W_succ (n:=l.length) (by omega) (by omega)]
   refine ⟨⟨k+1,rfl,by omega,?_⟩,by omega⟩
   rw [take_succ hx,clnA,List.all_append]
   rw [clnA] at h
   rw [h]
   show (true && (!(x.rep != 0 || (x.st && (x.mis != 0 || x.frn != 0))) && true))=true
   rw [c];rfl
 ·rw [List.take_of_length_le (by omega)] at h
  exact h.symm
def clnA_c(l:(List Aud)):PC Tryd.prog:=⟨19,[(.s 5)],[.sl 5 (l.map Aud.v) false],clnA_e (clnA l),PSpec.of_ok fun ok=>(clnA_p l ok).elim fun I0 h=>h.elim fun m0 h=>h.elim fun I1 h=>mxP_of (sh:=.k) (enc:=clnA_e) (a:=(clnA_x l I0 m0 I1).an) h (by kernel_rfl) (AV.pureB_ok rfl),fnB_ok (by kernel_rfl)⟩
theorem B_inj{a b:List UInt8}(h:B a=B b):a=b:=by
 have:=congrArg (fun s=>s.data.toList) h
 exact this
theorem split_inj{c:UInt8}:∀{x y r s:List UInt8},c ∉ x→c ∉ y→x++c::r=y++c::s→x=y∧r=s
 | [],[],r,s,_,_,h=>⟨rfl,by simpa using h⟩
 | [],b::y,r,s,_,hy,h=>by
  simp only [List.nil_append,List.cons_append,List.cons.injEq] at h
  exact absurd (by simp [h.1]) hy
 | a::x,[],r,s,hx,_,h=>by
  simp only [List.nil_append,List.cons_append,List.cons.injEq] at h
  exact absurd (by simp [h.1]) hx
 | a::x,b::y,r,s,hx,hy,h=>by
  simp only [List.cons_append,List.cons.injEq] at h
  have:=split_inj (fun m=>hx (List.mem_cons_of_mem _ m)) (fun m=>hy (List.mem_cons_of_mem _ m)) h.2
  exact ⟨by rw [h.1,this.1],this.2⟩
theorem joinTail_cons(sep x:List UInt8)(l:List (List UInt8)):Lib.joinTail sep (x::l)=sep++(x++Lib.joinTail sep l):=by simp [Lib.joinTail]
theorem tail_inj{c:UInt8}{s:List UInt8}:∀{l m:List (List UInt8)} {x y:List UInt8},(∀z∈l,c ∉ z)→(∀z∈m,c ∉ z)→c ∉ x→c ∉ y→x++Lib.joinTail (c::s) l=y++Lib.joinTail (c::s) m→x=y∧l=m
 | [],[],x,y,_,_,_,_,h=>⟨by simpa [Lib.joinTail] using h,rfl⟩
 | [],z::m,x,y,_,_,hx,_,h=>by
  rw [joinTail_cons] at h
  refine absurd ?_ hx
  have:x=y++((c::s)++(z++Lib.joinTail (c::s) m)):=by simpa [Lib.joinTail] using h
  rw [this];simp
 | z::l,[],x,y,_,_,_,hy,h=>by
  rw [joinTail_cons] at h
  refine absurd ?_ hy
  have:y=x++((c::s)++(z++Lib.joinTail (c::s) l)):=by simpa [Lib.joinTail] using h.symm
  rw [this];simp
 | z::l,z'::m,x,y,hl,hm,hx,hy,h=>by
  rw [joinTail_cons,joinTail_cons,List.cons_append,List.cons_append] at h
  have h1:=split_inj hx hy h
  have h2:=tail_inj (fun w hw=>hl w (by simp [hw])) (fun w hw=>hm w (by simp [hw])) (hl z (by simp)) (hm z' (by simp)) (List.append_cancel_left h1.2)
  exact ⟨h1.1,by rw [h2.1,h2.2]⟩
theorem join_inj{c:UInt8}{s:List UInt8}{l m:List (List UInt8)}(hl:∀z∈l,c ∉ z)(hm:∀z∈m,c ∉ z)(n1:l≠[])(n2:m≠[])(h:Lib.join l (c::s)=Lib.join m (c::s)):l=m:=by
 cases l with
 | nil=>exact absurd rfl n1
 | cons x l =>
  cases m with
  | nil=>exact absurd rfl n2
  | cons y m =>
   rw [Lib.join_cons,Lib.join_cons] at h
   have:=tail_inj (fun w hw=>hl w (by simp [hw])) (fun w hw=>hm w (by simp [hw])) (hl x (by simp)) (hm y (by simp)) h
   rw [this.1,this.2]
theorem map_inj{α β:Type}{f:α→β}{P:α→Prop}(hf:∀{x y},P x→P y→f x=f y→x=y):∀{l m:List α},(∀x∈l,P x)→(∀x∈m,P x)→l.map f=m.map f→l=m
 | [],[],_,_,_=>rfl
 | [],_::_,_,_,h=>by simp at h
 | _::_,[],_,_,h=>by simp at h
 | x::l,y::m,hl,hm,h=>by
  simp only [List.map_cons,List.cons.injEq] at h
  rw [hf (hl x (by simp)) (hm y (by simp)) h.1,map_inj hf (fun z hz=>hl z (by simp [hz])) (fun z hz=>hm z (by simp [hz])) h.2]
def decV(l:List UInt8):Nat:=l.foldl (fun v c=>v * 10+(c.toNat-48)) 0
theorem u8_48{d:Nat}(h:d<10):(UInt8.ofNat (48+d)).toNat=48+d:=by
 rw [UInt8.toNat_ofNat'];exact Nat.mod_eq_of_lt (by omega)
theorem dec_ch:∀(u:Nat),∀c∈Lib.decDigits u,48≤c.toNat∧c.toNat≤57:=by
 intro u
 induction u using Nat.strongRecOn with
 | ind u ih =>
  intro c hc
  rw [Lib.decDigits] at hc
  split at hc
  ·rename_i h
   rw [List.mem_singleton] at hc;subst hc;rw [u8_48 h];omega
  ·rcases List.mem_append.mp hc with hc|hc
   ·exact ih _ (by omega) c hc
   ·rw [List.mem_singleton] at hc;subst hc;rw [u8_48 (by omega)];omega
theorem dec_val:∀(u:Nat),decV (Lib.decDigits u)=u:=by
 intro u
 induction u using Nat.strongRecOn with
 | ind u ih =>
  rw [Lib.decDigits]
  split
  ·rename_i h
   show 0 * 10+((UInt8.ofNat (48+u)).toNat-48)=u
   rw [u8_48 h];omega
  ·rw [decV,List.foldl_append]
   have:=ih (u / 10) (by omega)
   rw [decV] at this
   rw [this]
   show u / 10 * 10+((UInt8.ofNat (48+u % 10)).toNat-48)=u
   rw [u8_48 (by omega)];omega
theorem dec_inj{u v:Nat}(h:Lib.decDigits u=Lib.decDigits v):u=v:=by rw [←dec_val u,←dec_val v,h]
theorem dec_ne(u:Nat):Lib.decDigits u≠[]:=by
 rw [Lib.decDigits];split<;>simp
theorem itoa_ch{n:Int}{c:UInt8}(h:c∈Lib.itoa n):c.toNat=45∨(48≤c.toNat∧c.toNat≤57):=by
 unfold Lib.itoa at h
 split at h
 ·rcases List.mem_cons.mp h with rfl|h
  ·exact .inl rfl
  ·exact .inr (dec_ch _ _ h)
 ·exact .inr (dec_ch _ _ h)
theorem itoa_no{n:Int}{c:UInt8}(h:¬(c.toNat=45∨(48≤c.toNat∧c.toNat≤57))):c ∉ Lib.itoa n:=fun m=>h (itoa_ch m)
theorem itoa_ne(n:Int):Lib.itoa n≠[]:=by
 unfold Lib.itoa;split
 ·simp
 ·exact dec_ne _
theorem dec_no(u:Nat):(45:UInt8) ∉ Lib.decDigits u:=fun h=>by have:=dec_ch _ _ h;simp at this
theorem dec_head{u:Nat}{r s:List UInt8}:Lib.decDigits u++r≠45::s:=by
 cases e:Lib.decDigits u with
 | nil=>exact absurd e (dec_ne u)
 | cons x l =>
  intro h
  simp only [List.cons_append,List.cons.injEq] at h
  exact dec_no u (by rw [e,h.1];simp)
theorem hop_inj{a b a2 b2:Int}(h:Lib.itoa a++45::Lib.itoa b=Lib.itoa a2++45::Lib.itoa b2):a=a2∧Lib.itoa b=Lib.itoa b2:=by
 unfold Lib.itoa at h
 have e1:∀x:Int,(if x<0 then 45::Lib.decDigits x.natAbs else Lib.decDigits x.toNat)=Lib.itoa x:=fun _=>rfl
 rw [e1 b,e1 b2] at h
 by_cases h1:a<0<;>by_cases h2:a2<0
 ·rw [if_pos h1,if_pos h2,List.cons_append,List.cons_append,List.cons.injEq] at h
  have:=split_inj (dec_no _) (dec_no _) h.2
  have:=dec_inj this.1
  exact ⟨by omega,by simp_all⟩
 ·rw [if_pos h1,if_neg h2,List.cons_append] at h
  exact absurd h.symm dec_head
 ·rw [if_neg h1,if_pos h2,List.cons_append] at h
  exact absurd h dec_head
 ·rw [if_neg h1,if_neg h2] at h
  have:=split_inj (dec_no _) (dec_no _) h
  have h3:=dec_inj this.1
  exact ⟨by omega,this.2⟩
theorem itoa_inj{a b:Int}(h:Lib.itoa a=Lib.itoa b):a=b:=(hop_inj (b:=0) (b2:=0) (by rw [h])).1
def listL(l:List Int):List UInt8:=if l=[] then [46] else Lib.join (l.map Lib.itoa) [44]
theorem joinB_eq(l:List (List UInt8))(sep:List UInt8):joinB (l.map B) (B sep)=B (Lib.join l sep):=by
 rw [joinB,List.map_map]
 show B (Lib.join (l.map fun x=>x) sep)=_
 rw [List.map_id']
theorem listT_eq(l:List Int):listT l=B (listL l):=by
 unfold listT listL
 split
 ·rfl
 ·rw [←joinB_eq,List.map_map];rfl
theorem join_ch{P:UInt8→Prop}{l:List (List UInt8)}{sep:List UInt8}(hl:∀z∈l,∀c∈z,P c)(hs:∀c∈sep,P c){c:UInt8}(h:c∈Lib.join l sep):P c:=by
 cases l with
 | nil=>simp [Lib.join_nil] at h
 | cons x l =>
  rw [Lib.join_cons] at h
  rcases List.mem_append.mp h with h|h
  ·exact hl x (by simp) c h
  ·simp only [Lib.joinTail,List.mem_flatten,List.mem_map] at h
   obtain ⟨_,⟨z,hz,rfl⟩,h⟩:=h
   rcases List.mem_append.mp h with h|h
   ·exact hs c h
   ·exact hl z (by simp [hz]) c h
theorem listL_ch{l:List Int}{c:UInt8}(h:c∈listL l):44≤c.toNat∧c.toNat≤57:=by
 unfold listL at h
 split at h
 ·rw [List.mem_singleton] at h;subst h;decide
 ·refine join_ch (P:=fun c=>44≤c.toNat∧c.toNat≤57) (fun z hz c hc=>?_) (fun c hc=>?_) h
  ·obtain ⟨x,_,rfl⟩:=List.mem_map.mp hz
   have:=itoa_ch hc;omega
  ·rw [List.mem_singleton] at hc;subst hc;decide
theorem join_head{l:List (List UInt8)}{sep:List UInt8}{c:UInt8}(hn:l≠[])(hl:∀z∈l,z≠[]∧z.head?≠some c):Lib.join l sep≠[c]:=by
 cases l with
 | nil=>exact absurd rfl hn
 | cons x l =>
  rw [Lib.join_cons]
  intro h
  have hx:=hl x (by simp)
  cases x with
  | nil=>exact hx.1 rfl
  | cons y r =>
   simp only [List.cons_append,List.cons.injEq] at h
   exact hx.2 (by simp [h.1])
theorem itoa_head{n:Int}{r:List UInt8}{c:UInt8}(h:¬(c.toNat=45∨(48≤c.toNat∧c.toNat≤57))):(Lib.itoa n++r)≠[]∧(Lib.itoa n++r).head?≠some c:=by
 cases e:Lib.itoa n with
 | nil=>exact absurd e (itoa_ne n)
 | cons x l =>
  refine ⟨by simp,fun q=>?_⟩
  simp only [List.cons_append,List.head?_cons,Option.some.injEq] at q
  exact itoa_no (n:=n) h (by rw [e,q];simp)
theorem itoa_head'{n:Int}{c:UInt8}(h:¬(c.toNat=45∨(48≤c.toNat∧c.toNat≤57))):Lib.itoa n≠[]∧(Lib.itoa n).head?≠some c:=by
 have:=itoa_head (n:=n) (r:=[]) h
 simpa using this
theorem listL_inj{a b:List Int}(h:listL a=listL b):a=b:=by
 have key:∀{l:List Int},l≠[]→Lib.join (l.map Lib.itoa) [44]≠[46]:=fun hn=>join_head (by simpa using hn) fun z hz=>by
  obtain ⟨x,_,rfl⟩:=List.mem_map.mp hz
  exact itoa_head' (by decide)
 unfold listL at h
 split at h<;>split at h
 ·simp_all
 ·rename_i n;exact absurd h.symm (key n)
 ·rename_i n _;exact absurd h (key n)
 ·rename_i n1 n2
  have no:∀{l:List Int},∀z∈l.map Lib.itoa,(44:UInt8) ∉ z:=fun z hz=>by
   obtain ⟨x,_,rfl⟩:=List.mem_map.mp hz
   exact itoa_no (by decide)
  exact map_inj (P:=fun _=>True) (fun _ _=>itoa_inj) (fun _ _=>trivial) (fun _ _=>trivial) (join_inj no no (by simpa using n1) (by simpa using n2) h)
def fltL(f:Flt):List UInt8:=
 if f.mode=1 then (if f.srcs=[] then [110,111,116,104,105,110,103] else [111,110,108,121,32]++listL f.srcs)
 else if f.mode=2 then (if f.srcs=[] then [97,108,108] else [97,108,108,32,98,117,116,32]++listL f.srcs)
 else [63]
theorem fltT_eq(f:Flt):fltT f=B (fltL f):=by
 unfold fltT fltL
 simp only [listT_eq,B_app]
 split
 ·split<;>rfl
 ·split
  ·split<;>rfl
  ·rfl
def okM(m:Int):Prop:=m=1∨m=2
theorem fltL_inj{a b:Flt}(ha:okM a.mode)(hb:okM b.mode)(h:fltL a=fltL b):a=b:=by
 obtain ⟨m,s⟩:=a;obtain ⟨m2,s2⟩:=b
 unfold fltL at h
 simp only at ha hb h
 rcases ha with rfl|rfl<;>rcases hb with rfl|rfl
 all_goals
  by_cases e1:s=[]<;>by_cases e2:s2=[]<;>simp [e1,e2] at h ⊢
 all_goals exact listL_inj h
theorem fltL_ch{f:Flt}{c:UInt8}(h:c∈fltL f):c.toNat≠59:=by
 unfold fltL at h
 have hl:∀{l:List Int},c∈listL l→c.toNat≠59:=fun hh=>by have:=listL_ch hh;omega
 split at h
 ·split at h
  ·simp only [List.mem_cons,List.not_mem_nil,or_false] at h
   rcases h with rfl|rfl|rfl|rfl|rfl|rfl|rfl<;>decide
  ·rcases List.mem_append.mp h with h|h
   ·simp only [List.mem_cons,List.not_mem_nil,or_false] at h
    rcases h with rfl|rfl|rfl|rfl|rfl<;>decide
   ·exact hl h
 ·split at h
  ·split at h
   ·simp only [List.mem_cons,List.not_mem_nil,or_false] at h
    rcases h with rfl|rfl|rfl<;>decide
   ·rcases List.mem_append.mp h with h|h
    ·simp only [List.mem_cons,List.not_mem_nil,or_false] at h
     rcases h with rfl|rfl|rfl|rfl|rfl|rfl|rfl|rfl<;>decide
    ·exact hl h
  ·rw [List.mem_singleton] at h;subst h;decide
def wntL(w:Wnt):List UInt8:=Lib.itoa w.grp++61::fltL ⟨w.mode,w.srcs⟩
def wntsL(l:List Wnt):List UInt8:=if l=[] then [46] else Lib.join (l.map wntL) [59,32]
theorem wntT_eq(w:Wnt):wntT w=B (wntL w):=by
 rw [wntT,wntL,fltT_eq,itoa,B_app,B_app,List.append_assoc];rfl
theorem wntsT_eq(l:List Wnt):wntsT l=B (wntsL l):=by
 unfold wntsT wntsL
 split
 ·rfl
 ·rw [←joinB_eq,List.map_map]
  congr 1
  exact List.map_congr_left fun w _=>wntT_eq w
theorem wntL_inj{v w:Wnt}(hv:okM v.mode)(hw:okM w.mode)(h:wntL v=wntL w):v=w:=by
 have h:=split_inj (itoa_no (by decide)) (itoa_no (by decide)) h
 have h1:=itoa_inj h.1
 have h2:=fltL_inj (a:=⟨v.mode,v.srcs⟩) (b:=⟨w.mode,w.srcs⟩) hv hw h.2
 cases v;cases w
 simp only [Flt.mk.injEq] at h1 h2 ⊢
 simp [h1,h2]
theorem wntsL_inj{a b:List Wnt}(ha:∀w∈a,okM w.mode)(hb:∀w∈b,okM w.mode)(h:wntsL a=wntsL b):a=b:=by
 have key:∀{l:List Wnt},l≠[]→Lib.join (l.map wntL) [59,32]≠[46]:=fun hn=>join_head (by simpa using hn) fun z hz=>by
  obtain ⟨x,_,rfl⟩:=List.mem_map.mp hz
  exact itoa_head (by decide)
 unfold wntsL at h
 split at h<;>split at h
 ·simp_all
 ·rename_i n;exact absurd h.symm (key n)
 ·rename_i n _;exact absurd h (key n)
 ·rename_i n1 n2
  have no:∀{l:List Wnt},∀z∈l.map wntL,(59:UInt8) ∉ z:=fun z hz hc=>by
   obtain ⟨x,_,rfl⟩:=List.mem_map.mp hz
   rcases List.mem_append.mp hc with hc|hc
   ·exact itoa_no (by decide) hc
   ·rcases List.mem_cons.mp hc with hc|hc
    ·exact absurd hc (by decide)
    ·exact fltL_ch hc rfl
  exact map_inj (P:=fun w=>okM w.mode) wntL_inj ha hb (join_inj no no (by simpa using n1) (by simpa using n2) h)
def hopL(h:Hop):List UInt8:=Lib.itoa h.a++45::Lib.itoa h.b
theorem hopT_eq(h:Hop):hopT h.a h.b=B (hopL h):=by
 rw [hopT,hopL,itoa,itoa,B_app,B_app,List.append_assoc];rfl
theorem hopL_inj{x y:Hop}(h:hopL x=hopL y):x=y:=by
 have h:=hop_inj h
 exact Hop.eq_iff.mpr ⟨h.1,itoa_inj h.2⟩
theorem treF_eq:∀{l:List Hop} {o:List UInt8},l.foldl (fun o h=>o++(B [32]++hopT h.a h.b)) (B o)=B (o++Lib.joinTail [32] (l.map hopL))
 | [],o=>by simp [Lib.joinTail]
 | h::l,o=>by
  rw [List.foldl_cons,hopT_eq,B_app,B_app,treF_eq,List.map_cons,joinTail_cons]
  simp [List.append_assoc]
theorem treT_eq(t:Tre):treT t=B (Lib.itoa t.root++Lib.joinTail [32] (t.ls.map hopL)):=treF_eq
theorem treT_inj{x y:Tre}(h:treT x=treT y):x=y:=by
 rw [treT_eq,treT_eq] at h
 have no:∀{l:List Hop},∀z∈l.map hopL,(32:UInt8) ∉ z:=fun z hz hc=>by
  obtain ⟨x,_,rfl⟩:=List.mem_map.mp hz
  rcases List.mem_append.mp hc with hc|hc
  ·exact itoa_no (by decide) hc
  ·rcases List.mem_cons.mp hc with hc|hc
   ·exact absurd hc (by decide)
   ·exact itoa_no (by decide) hc
 have h:=tail_inj no no (itoa_no (by decide)) (itoa_no (by decide)) (B_inj h)
 have h1:=itoa_inj h.1
 have h2:=map_inj (P:=fun _=>True) (fun _ _=>hopL_inj) (fun _ _=>trivial) (fun _ _=>trivial) h.2
 cases x;cases y
 simp only at h1 h2
 rw [h1,h2]
theorem words_eq(l:List Anyv):words l=B (Lib.join (l.map fun x=>x.txt.data.toList) [32]):=by
 rw [words,joinB,List.map_map];rfl
theorem audT_inj{e:Int}{s:Bool}{a b c a2 b2 c2:Int}(h:audT ⟨e,s,a,b,c⟩=audT ⟨e,s,a2,b2,c2⟩):a=a2∧b=b2∧c=c2:=by
 unfold audT at h
 rw [words_eq,words_eq] at h
 have hs:(32:UInt8) ∉ (stlT s).data.toList:=by cases s<;>decide
 have no:∀{a b c:Int},∀z∈([.s (B [101,118,101,110,116]),.n e,.s (stlT s),.s (B [109,105,115,115,105,110,103]),.n a,.s (B [102,111,114,101,105,103,110]),.n b,.s (B [114,101,112,101,97,116,101,100]),.n c]:List Anyv).map (fun x=>x.txt.data.toList),(32:UInt8) ∉ z:=fun z hz=>by
  simp only [List.map_cons,List.map_nil,List.mem_cons,List.not_mem_nil,or_false] at hz
  rcases hz with rfl|rfl|rfl|rfl|rfl|rfl|rfl|rfl|rfl
  ·decide
  ·exact itoa_no (by decide)
  ·exact hs
  ·decide
  ·exact itoa_no (by decide)
  ·decide
  ·exact itoa_no (by decide)
  ·decide
  ·exact itoa_no (by decide)
 have h:=join_inj no no (by simp) (by simp) (B_inj h)
 simp only [List.map_cons,List.map_nil,List.cons.injEq,and_true,true_and] at h
 exact ⟨itoa_inj h.1,itoa_inj h.2.1,itoa_inj h.2.2⟩
theorem itmsOk.mono{n m:Int}{l:List Itm}(h:itmsOk n l)(hm:n≤m):itmsOk m l:=
 ⟨fun x hx=>by obtain ⟨⟨a,b⟩,c⟩:=h.1 x hx;exact ⟨⟨a,by omega⟩,c⟩,h.2⟩
theorem Nodup.grp{l:List Itm}(h:(l.map Itm.grp).Nodup){x y:Itm}(hx:x∈l)(hy:y∈l)(e:x.grp=y.grp):x=y:=by
 induction l with
 | nil=>simp at hx
 | cons z l ih =>
  simp only [List.map_cons,List.nodup_cons] at h
  rcases List.mem_cons.mp hx with h1|h1
  ·rcases List.mem_cons.mp hy with h2|h2
   ·rw [h1,h2]
   ·exact absurd (List.mem_map.mpr ⟨y,h2,by rw [←e,h1]⟩) h.1
  ·rcases List.mem_cons.mp hy with h2|h2
   ·exact absurd (List.mem_map.mpr ⟨x,h1,by rw [e,h2]⟩) h.1
   ·exact ih h.2 h1 h2
structure Adv (n:Int) (l:List Itm) (m:Int) (k:List Itm):Prop where
  le:n≤m
  old:∀z∈k,z∈l∨n<z.ver
  grp:∀z∈l,∃y∈k,y.grp=z.grp
theorem Adv.refl(n:Int)(l:List Itm):Adv n l n l:=⟨Int.le_refl _,fun _ h=>.inl h,fun z h=>⟨z,h,rfl⟩⟩
def wNew(L:List Int)(p:Nat)(g:Int)(out:List Wnt):List Wnt:=
 if Mod (rawV L (filterT L p).2) 2=0∧((filterT L p).1.mode=2∨(filterT L p).1.srcs≠[]) then out++[⟨g,(filterT L p).1.mode,(filterT L p).1.srcs⟩] else out
def wPos(L:List Int)(p:Nat):Nat:=rawP L (filterT L p).2
def wantsL(L:List Int):Nat→Int→List Wnt→Nat→List Wnt×Nat
 | 0,_,out,p=>(out,p)
 | n+1,g,out,p=>wantsL L n (g+1) (wNew L p g out) (wPos L p)
def wantsT(L:List Int)(p:Nat):List Wnt×Nat:=wantsL L 6 1 [] p
structure WOk (g:Int) (out:List Wnt):Prop where
  rng:∀w∈out,1≤w.grp∧w.grp<g
  flt:∀w∈out,fltErr w.mode w.srcs=0
  no:∀w∈out,¬isNoW w
  asc:out.Pairwise fun x y=>x.grp<y.grp
  len:out.length+1≤g
theorem WOk.new{L:List Int}{p:Nat}{g:Int}{out:List Wnt}(h:WOk g out)(hg:1≤g):WOk (g+1) (wNew L p g out):=by
 unfold wNew
 have hf:=filterT_in L p
 split
 ·rename_i c
  refine ⟨fun w hw=>?_,fun w hw=>?_,fun w hw=>?_,List.pairwise_append.mpr ⟨h.asc,List.pairwise_singleton _ _,fun a ha b hb=>?_⟩,?_⟩
  ·rcases List.mem_append.mp hw with hw|hw
   ·have:=h.rng w hw;omega
   ·rw [List.mem_singleton] at hw;subst hw;exact ⟨hg,by simp only;omega⟩
  ·rcases List.mem_append.mp hw with hw|hw
   ·exact h.flt w hw
   ·rw [List.mem_singleton] at hw;subst hw;exact hf
  ·rcases List.mem_append.mp hw with hw|hw
   ·exact h.no w hw
   ·rw [List.mem_singleton] at hw;subst hw
    rintro ⟨e1,e2⟩
    simp only at e1 e2
    rcases c.2 with c|c
    ·omega
    ·exact c e2
  ·rw [List.mem_singleton] at hb;subst hb
   exact (h.rng a ha).2
  ·have:=h.len;simp only [List.length_append,List.length_singleton];omega
 ·exact ⟨fun w hw=>by have:=h.rng w hw;omega,h.flt,h.no,h.asc,by have:=h.len;omega⟩
theorem wantsL_ok{L:List Int}:∀(n:Nat) {g:Int} {out:List Wnt} {p:Nat},WOk g out→1≤g→WOk (g+n) (wantsL L n g out p).1
 | 0,g,out,p,h,_=>by simpa [wantsL] using h
 | n+1,g,out,p,h,hg=>by
  have:=wantsL_ok (L:=L) n (p:=wPos L p) (h.new (L:=L) (p:=p) hg) (by omega)
  rw [show g+((n+1:Nat):Int)=g+1+n by omega]
  exact this
theorem wantsT_ok(L:List Int)(p:Nat):WOk 7 (wantsT L p).1:=
 wantsL_ok (g:=1) 6 ⟨fun w hw=>by simp at hw,fun w hw=>by simp at hw,fun w hw=>by simp at hw,List.Pairwise.nil,by simp⟩ (by omega)
def findW(l:List Wnt)(g:Int):Flt:=match l.find? fun w=>decide (w.grp=g) with
 | some w=>⟨w.mode,w.srcs⟩
 | none=>⟨1,[]⟩
def chgs1(old new:List Wnt)(g:Int):List Wnt:=if findW new g=findW old g then [] else [⟨g,(findW new g).mode,(findW new g).srcs⟩]
def chgsTo(old new:List Wnt):Nat→List Wnt
 | 0=>[]
 | n+1=>chgsTo old new n++chgs1 old new (n+1)
def changes(old new:List Wnt):List Wnt×Int:=
 if wErr false old≠0 then ([],wErr false old) else if wErr false new≠0 then ([],wErr false new)
 else if 32<(chgsTo old new 99).length then ([],3) else (chgsTo old new 99,0)
def wantsTF_a(L:(List Int))(p:Nat):Prop:=okL [.ref 0 0]∧(.box (.agg [.sl 1 (L.map AV.int) false,.int ((p:Nat):Int)]):Blk).ok
def wantsTF_n0(L:(List Int))(t0:Int×Nat×(List Wnt)):NF:=⟨[(0,.k,.ref 0 0),(3,.k,.vec 1),(4,.k,.int t0.1)],[.box (.agg [.sl 1 (L.map AV.int) false,.int ((t0.2.1:Nat):Int)]),.vec 3 (t0.2.2.map Wnt.v) (pureBL_map (fun _=>rfl) t0.2.2)]⟩
@[reducible] def wantsTF_s:Nat→Type
 | 0=>Int×Nat×(List Wnt)
 | _=>Unit
def wantsTF_e(r:Tap×(List Wnt)):AV:=.sl 3 (r.2.map Wnt.v) false
def wantsTF_b(r:Tap×(List Wnt)):List (Option Blk):=[some (.box (.agg [.sl 1 (r.1.L.map AV.int) false,.int ((r.1.p:Nat):Int)]))]
def wantsTF_x(L:(List Int))(p:Nat)(I0:(Int×Nat×(List Wnt))→Prop)(m0:(Int×Nat×(List Wnt))→Nat):Ax Tryd.prog wantsTF_s (Tap×(List Wnt)):=
 (.cmdL (.nilT 3 3) (.loop 0 (wantsTF_n0 L) I0 m0 (1,p,[]) [0,49] fun (t0:Int×Nat×(List Wnt)) b0 =>
(.br 34 (decide (t0.1≤6)) (.callH [0] (filterT_h L t0.2.1) 50
(.callH [0] (N_h L ((filterT L t0.2.1).2) 2) 114
(.br 162 ((Mod (rawV L ((filterT L t0.2.1).2)) 2)==0) (.br 226 (((filterT L t0.2.1).1).mode==2) (.say (fun R=>Rf (α:=List AV) (t0.2.2.map Wnt.v) (Rf (α:=List AV) [.agg [.int t0.1,.int (((filterT L t0.2.1).1).mode),.sl 1 ((((filterT L t0.2.1).1).srcs).map AV.int) false]]
(ck (decide (t0.2.2.length+1≤1000000))
R))) (.app 402 Wnt.v t0.2.2 [(⟨t0.1,((filterT L t0.2.1).1).mode,((filterT L t0.2.1).1).srcs⟩:Wnt)]
(.bk 0 b0 (W (t0.1+1),rawP L ((filterT L t0.2.1).2),t0.2.2++[(⟨t0.1,((filterT L t0.2.1).1).mode,((filterT L t0.2.1).1).srcs⟩:Wnt)]) [0,402])))
(.br 322 (decide (0<(((((filterT L t0.2.1).1).srcs).map AV.int).length:Int))) (.say (fun R=>Rf (α:=List AV) (t0.2.2.map Wnt.v) (Rf (α:=List AV) [.agg [.int t0.1,.int (((filterT L t0.2.1).1).mode),.sl 1 ((((filterT L t0.2.1).1).srcs).map AV.int) false]]
(ck (decide (t0.2.2.length+1≤1000000))
R))) (.app 402 Wnt.v t0.2.2 [(⟨t0.1,((filterT L t0.2.1).1).mode,((filterT L t0.2.1).1).srcs⟩:Wnt)]
(.bk 0 b0 (W (t0.1+1),rawP L ((filterT L t0.2.1).2),t0.2.2++[(⟨t0.1,((filterT L t0.2.1).1).mode,((filterT L t0.2.1).1).srcs⟩:Wnt)]) [0,402])))
(.bk 0 b0 (W (t0.1+1),rawP L ((filterT L t0.2.1).2),t0.2.2) [0,1])))
(.bk 0 b0 (W (t0.1+1),rawP L ((filterT L t0.2.1).2),t0.2.2) [0,1]))))
(.say (Rf (t0.2.2.map Wnt.v)) (.cmdL (.frzE 1 (t0.2.2.map Wnt.v) (pureBL_map (fun _=>rfl) t0.2.2)) (.retH ((⟨L,t0.2.1⟩:Tap),t0.2.2) ⟨[(2,.k,.sl 3 (t0.2.2.map Wnt.v) false)],[.box (.agg [.sl 1 (L.map AV.int) false,.int ((t0.2.1:Nat):Int)])]⟩ [0]))))))
def wantsTF_vc(L:(List Int))(p:Nat)(I0:(Int×Nat×(List Wnt))→Prop)(m0:(Int×Nat×(List Wnt))→Nat)(r0:Tap×(List Wnt)):Prop:=(wantsTF_x L p I0 m0).vc wantsTF_e wantsTF_b r0
theorem wantsTF_p(L:List Int)(p:Nat)(ok:wantsTF_a L p):∃I m,wantsTF_vc L p I m (⟨L,(wantsT L p).2⟩,(wantsT L p).1):=by
 refine ⟨fun t=>∃k:Nat,t.1=((k+1:Nat):Int)∧k≤6∧wantsL L (6-k) t.1 t.2.2 t.2.1=wantsT L p∧t.2.2.length≤k,fun t=>7-t.1.toNat,?_⟩
 dsimp only [wantsTF_vc,wantsTF_x,wantsTF_s,Ax.vp,Ax.vc];simp only [vcU,rfU,List.length_map]
 refine ⟨⟨0,rfl,by omega,rfl,by simp⟩,?_⟩
 rintro ⟨_,q,out⟩ ⟨k,rfl,hk,h,hl⟩
 simp only at h hl
 refine ⟨fun h1=>?_,fun h1=>?_⟩
 ·have h1:k<6:=by simp only at h1;omega
  rw [show 6-k=(6-(k+1))+1 by omega,wantsL] at h
  simp only [W_succ (k:=k+1) (n:=7) (by omega) (by omega)]
  have hg:((k+1:Nat):Int)+1=((k+1+1:Nat):Int):=by omega
  rw [hg] at h
  have put:Mod (rawV L (filterT L q).2) 2=0∧((filterT L q).1.mode=2∨(filterT L q).1.srcs≠[]) →
    wNew L q ((k+1:Nat):Int) out=out++[⟨((k+1:Nat):Int),(filterT L q).1.mode,(filterT L q).1.srcs⟩]:=fun c=>by rw [wNew,if_pos c]
  have no:¬(Mod (rawV L (filterT L q).2) 2=0∧((filterT L q).1.mode=2∨(filterT L q).1.srcs≠[]))→wNew L q ((k+1:Nat):Int) out=out:=fun c=>by rw [wNew,if_neg c]
  refine ⟨fun c1=>⟨fun c2=>⟨by omega,⟨k+1,rfl,by omega,?_,by simp;omega⟩,by omega⟩,fun c2=>⟨fun c3=>⟨by omega,⟨k+1,rfl,by omega,?_,by simp;omega⟩,by omega⟩,fun c3=>⟨⟨k+1,rfl,by omega,?_,by omega⟩,by omega⟩⟩⟩,fun c1=>⟨⟨k+1,rfl,by omega,?_,by omega⟩,by omega⟩⟩
  ·rw [put ⟨by simpa using c1,.inl (by simpa using c2)⟩] at h;exact h
  ·rw [put ⟨by simpa using c1,.inr (fun e=>by rw [e] at c3;simp at c3)⟩] at h;exact h
  ·rw [no (fun ⟨_,e⟩=>by
    rcases e with e|e
    ·simp [e] at c2
    ·exact e (List.eq_nil_of_length_eq_zero (by omega)))] at h;exact h
  ·rw [no (fun ⟨e,_⟩=>by simp [e] at c1)] at h;exact h
 ·have h1:k=6:=by simp only at h1;omega
  subst h1
  rw [←h];rfl
def wantsT_h(L:(List Int))(p:Nat):HC Tryd.prog:=⟨8,[.k],[.ref 0 0],[.box (.agg [.sl 1 (L.map AV.int) false,.int ((p:Nat):Int)])],wantsTF_e (⟨L,(wantsT L p).2⟩,(wantsT L p).1),wantsTF_b (⟨L,(wantsT L p).2⟩,(wantsT L p).1),HSpec.of_okh fun ok ok2=>have ok:wantsTF_a L p:=⟨ok,ok2 _ (by simp)⟩;(wantsTF_p L p ok).elim fun I0 h=>h.elim fun m0 h=>mxH_of (sh:=(.s 3)) (enc:=wantsTF_e) (hB:=wantsTF_b) (a:=(wantsTF_x L p I0 m0).an) h (by kernel_rfl),fnB_ok (by kernel_rfl),HcOk.of (by simp [hcB,belBL,AV.belB,allB,okBk,okBkO,wantsTF_e,wantsTF_b,pureBL_map (v:=AV.int) (fun _=>rfl)])⟩
theorem Wnt.eq_iff{x y:Wnt}:x=y↔x.grp=y.grp∧x.mode=y.mode∧x.srcs=y.srcs:=by cases x;cases y;simp
def sameW_a(a:(List Wnt))(b:(List Wnt)):Prop:=okL [.sl 3 (a.map Wnt.v) false,.sl 3 (b.map Wnt.v) false]
def sameW_n0(a:(List Wnt))(b:(List Wnt))(t0:Int):NF:=⟨[(0,.k,.sl 3 (a.map Wnt.v) false),(1,.k,.sl 3 (b.map Wnt.v) false),(5,.k,.int t0)],[]⟩
@[reducible] def sameW_s:Nat→Type
 | 0=>Int
 | _=>Unit
def sameW_e(r:Bool):AV:=.bool r
def sameW_x(a:(List Wnt))(b:(List Wnt))(I0:Int→Prop)(m0:Int→Nat):Ax Tryd.prog sameW_s (Bool):=
 (.br 96 (((a.map Wnt.v).length:Int) != ((b.map Wnt.v).length:Int)) (.ret (false))
(.loop 0 (sameW_n0 a b) I0 m0 ((0):Int) [] fun (t0:Int) b0 =>
(.br 64 (decide (t0<((a.map Wnt.v).length:Int))) (.el 96 Wnt.v a (fun R=>Rf (a.map Wnt.v) (ck (decide (0≤t0)) (ck (decide (t0<(a.length:Int)))
(∀x1,a[t0.toNat]?=some x1 →
(R x1))))) fun x1 =>
(.el 176 Wnt.v b (fun R=>Rf (b.map Wnt.v) (ck (decide (0≤t0)) (ck (decide (t0<(b.length:Int)))
(∀x2,b[t0.toNat]?=some x2 →
(R x2))))) fun x2 =>
(.br 256 (x1.grp != x2.grp) (.ret (false))
(.el 288 Wnt.v a (fun R=>Rf (a.map Wnt.v) (ck (decide (0≤t0)) (ck (decide (t0<(a.length:Int)))
(∀x3,a[t0.toNat]?=some x3 →
(R x3))))) fun x3 =>
(.el 368 Wnt.v b (fun R=>Rf (b.map Wnt.v) (ck (decide (0≤t0)) (ck (decide (t0<(b.length:Int)))
(∀x4,b[t0.toNat]?=some x4 →
(R x4))))) fun x4 =>
(.callP (FSame_c (⟨x3.mode,x3.srcs⟩:Flt) (⟨x4.mode,x4.srcs⟩:Flt))
(.br 464 (!(FSame (⟨x3.mode,x3.srcs⟩:Flt) (⟨x4.mode,x4.srcs⟩:Flt))) (.ret (false))
(.bk 0 b0 ((W (t0+1)):Int) []))))))))
(.ret (true)))))
def sameW_vc(a:(List Wnt))(b:(List Wnt))(I0:Int→Prop)(m0:Int→Nat)(r0:Bool):Prop:=(sameW_x a b I0 m0).vp sameW_e r0
theorem sameW_p(a b:List Wnt)(ok:sameW_a a b):∃I m,sameW_vc a b I m (decide (a=b)):=by
 simp only [sameW_a,okU,Blk.ok,plainV,List.length_map] at ok
 refine ⟨fun t=>∃k:Nat,t=k∧k≤a.length∧a.take k=b.take k,fun t=>a.length-t.toNat,?_⟩
 dsimp only [sameW_vc,sameW_x,sameW_s,Ax.vp,Ax.vc];simp only [vcU,rfU,List.length_map]
 refine ⟨fun e=>(decide_eq_false fun h=>by subst h;simp at e).symm,fun e=>⟨⟨0,rfl,by omega,rfl⟩,?_⟩⟩
 have e:a.length=b.length:=by simp at e;omega
 rintro _ ⟨k,rfl,hk,h⟩
 simp only [Int.toNat_natCast]
 refine ⟨fun h1=>⟨by omega,by omega,fun x hx=>⟨by omega,by omega,fun y hy=>?_⟩⟩,fun h1=>?_⟩
 ·have bad:x≠y→false=decide (a=b):=fun hne=>(decide_eq_false fun hh=>by
   subst hh
   cases hx.symm.trans hy
   exact hne rfl).symm
  refine ⟨fun c=>bad fun q=>by subst q;simp at c,fun c=>⟨by omega,by omega,fun x2 hx2=>⟨by omega,by omega,fun y2 hy2=>?_⟩⟩⟩
  cases hx.symm.trans hx2
  cases hy.symm.trans hy2
  refine ⟨fun c3=>bad fun q=>by subst q;simp [FSame] at c3,fun c3=>?_⟩
  have q:x=y:=by
   rw [Wnt.eq_iff]
   have c3:FSame ⟨x.mode,x.srcs⟩ ⟨y.mode,y.srcs⟩=true:=by simpa using c3
   have c3:=of_decide_eq_true c3
   simp only [Flt.mk.injEq] at c3
   exact ⟨by simpa using c,c3⟩
  subst q
  rw [W_succ (n:=a.length) (by omega) (by omega)]
  exact ⟨⟨k+1,rfl,by omega,by rw [take_succ hx,take_succ hy,h]⟩,by omega⟩
 ·rw [List.take_of_length_le (by omega),List.take_of_length_le (by omega)] at h
  exact (decide_eq_true h).symm
def sameW_c(a:(List Wnt))(b:(List Wnt)):PC Tryd.prog:=⟨15,[(.s 3),(.s 3)],[.sl 3 (a.map Wnt.v) false,.sl 3 (b.map Wnt.v) false],sameW_e (decide (a=b)),PSpec.of_ok fun ok=>(sameW_p a b ok).elim fun I0 h=>h.elim fun m0 h=>mxP_of (sh:=.k) (enc:=sameW_e) (a:=(sameW_x a b I0 m0).an) h (by kernel_rfl) (AV.pureB_ok rfl),fnB_ok (by kernel_rfl)⟩
theorem toList_loop(b:ByteArray):∀(n i:Nat) (r:List UInt8),b.size-i=n→ByteArray.toList.loop b i r=r.reverse++b.data.toList.drop i:=by
 intro n
 induction n with
 | zero =>
  intro i r h
  rw [ByteArray.toList.loop,if_neg (by omega),List.drop_of_length_le (by rw [ba_len];omega),List.append_nil]
 | succ n ih =>
  intro i r h
  have hi:i<b.data.toList.length:=by rw [ba_len];omega
  rw [ByteArray.toList.loop,if_pos (by omega),ih _ _ (by omega),List.drop_eq_getElem_cons hi]
  have:b.get! i=b.data.toList[i]:=by
   show (b.data[i]!)=_
   rw [getElem!_pos b.data i (by rw [ba_len] at hi;exact hi)];simp
  rw [this];simp
theorem ba_list(b:ByteArray):b.toList=b.data.toList:=by
 rw [ByteArray.toList,toList_loop b _ 0 [] rfl];simp
theorem str_eq(a b:ByteArray):(a.toList==b.toList)=decide (a=b):=by
 rw [ba_list,ba_list]
 by_cases h:a=b
 ·subst h;simp
 ·rw [decide_eq_false h,beq_eq_false_iff_ne]
  intro e
  have:=congrArg B e
  rw [B_of,B_of] at this
  exact h this
def awk42_a:Prop:=okL []
def awk42_e(r:Bool):AV:=.bool r
def awk42_x:Ax Tryd.prog noS (Bool):=
 (.req 48 ((⟨2,[2,3]⟩:Flt).srcs.length≤1000) fun h1 =>
(.callP (fltT_c (⟨2,[2,3]⟩:Flt) h1)
(.br 96 ((fltT (⟨2,[2,3]⟩:Flt)).toList==(B [97,108,108,32,98,117,116,32,50,44,51]).toList) (.req 160 ((⟨1,[(⟨1,2⟩:Hop),(⟨2,3⟩:Hop)]⟩:Tre).ls.length≤1000) fun h2 =>
(.callP (treT_c (⟨1,[(⟨1,2⟩:Hop),(⟨2,3⟩:Hop)]⟩:Tre) h2)
(.ret ((treT (⟨1,[(⟨1,2⟩:Hop),(⟨2,3⟩:Hop)]⟩:Tre)).toList==(B [49,32,49,45,50,32,50,45,51]).toList))))
(.ret (false)))))
def awk42_vc(r0:Bool):Prop:=(awk42_x).vp awk42_e r0
theorem awk42_p(ok:awk42_a):awk42_vc true:=by
  dsimp only [awk42_vc,awk42_x,noS,Ax.vp,Ax.vc];simp only [vcU,rfU,List.length_map]
  have e1:fltT { mode:=2,srcs:=[2,3] }=B [97,108,108,32,98,117,116,32,50,44,51]:=by
    rw [fltT_eq];simp [fltL,listL,Lib.itoa,Lib.decDigits,Lib.join_cons,Lib.joinTail]
  have e2:treT { root:=1,ls:=[{ a:=1,b:=2 },{ a:=2,b:=3 }] }=B [49,32,49,45,50,32,50,45,51]:=by
    rw [treT_eq];simp [hopL,Lib.itoa,Lib.decDigits,Lib.joinTail]
  rw [e1,e2]
  simp
def awk42_c:PC Tryd.prog:=⟨20,[],[],awk42_e true,PSpec.of_ok fun ok=>mxP_of (sh:=.k) (enc:=awk42_e) (a:=(awk42_x).an) (awk42_p ok) (by kernel_rfl) (AV.pureB_ok rfl),fnB_ok (by kernel_rfl)⟩
theorem asc_len{hi:Int}:∀{l:List Int} {lo:Int},l.Pairwise (·<·)→(∀x∈l,lo≤x∧x≤hi)→lo≤hi+1→lo+l.length≤hi+1
 | [],lo,_,_,h=>by simpa using h
 | x::r,lo,hp,hl,h=>by
  rw [List.pairwise_cons] at hp
  have h1:=hl x (by simp)
  have:=asc_len (hi:=hi) (l:=r) (lo:=x+1) hp.2 (fun y hy=>by have:=hp.1 y hy;have:=hl y (by simp [hy]);omega) (by omega)
  rw [List.length_cons];omega
theorem flt_ok{m:Int}{s:List Int}(h:fltErr m s=0):okM m∧s.length≤99:=by
 unfold fltErr at h
 by_cases c:m=1∨m=2
 ·rw [if_neg (not_not_intro c)] at h
  by_cases c2:rngI s
  ·rw [if_neg (not_not_intro c2)] at h
   by_cases c3:ascI s
   ·refine ⟨c,?_⟩
    have:=asc_len (hi:=99) (lo:=1) (asc_pw.mp c3) (fun x hx=>c2 x hx) (by omega)
    omega
   ·rw [if_pos c3] at h;simp at h
  ·rw [if_pos c2] at h;simp at h
 ·rw [if_pos c] at h;simp at h
theorem wants_ok{w:List Wnt}(h:WOk 7 w):(∀x∈w,okM x.mode)∧w.length≤6∧∀x∈w,x.srcs.length≤1000:=
 ⟨fun x hx=>(flt_ok (h.flt x hx)).1,by have:=h.len;omega,fun x hx=>by have:=(flt_ok (h.flt x hx)).2;omega⟩
def differs_a(t:(List Int)):Prop:=okL [.sl 1 (t.map AV.int) false]
def differs_n0(t0:Tap):NF:=⟨[(3,.k,.ref 0 0)],[.box (.agg [.sl 1 (t0.L.map AV.int) false,.int ((t0.p:Nat):Int)])]⟩
def differs_n1(t0:Tap)(t1:Flt×Flt):NF:=⟨[(3,.k,.ref 0 0),(4,.k,.ref 1 0),(5,.k,.ref 2 0)],[.box (.agg [.sl 1 (t0.L.map AV.int) false,.int ((((filterT t0.L ((filterT t0.L t0.p).2)).2):Nat):Int)]),.box (.agg [.int t1.1.mode,.sl 1 (t1.1.srcs.map AV.int) false]),.box (.agg [.int t1.2.mode,.sl 1 (t1.2.srcs.map AV.int) false])]⟩
def differs_n2(t0:Tap)(t1:Flt×Flt)(t2:(List Wnt)×(List Wnt)):NF:=⟨[(3,.k,.ref 0 0),(4,.k,.ref 1 0),(5,.k,.ref 2 0),(6,(.s 3),.sl 3 (t2.1.map Wnt.v) false),(7,(.s 3),.sl 3 (t2.2.map Wnt.v) false)],[.box (.agg [.sl 1 (t0.L.map AV.int) false,.int ((((wantsT t0.L ((wantsT t0.L ((filterT t0.L ((filterT t0.L t0.p).2)).2)).2)).2):Nat):Int)]),.box (.agg [.int t1.1.mode,.sl 1 (t1.1.srcs.map AV.int) false]),.box (.agg [.int t1.2.mode,.sl 1 (t1.2.srcs.map AV.int) false])]⟩
def differs_n3(t0:Tap)(t1:Flt×Flt)(t2:(List Wnt)×(List Wnt))(t3:Tpl):NF:=⟨[(3,.k,.ref 0 0),(4,.k,.ref 1 0),(5,.k,.ref 2 0),(6,.k,.sl 3 (t2.1.map Wnt.v) false),(7,.k,.sl 3 (t2.2.map Wnt.v) false),(8,.k,.ref 3 0)],[.box (.agg [.sl 1 (t0.L.map AV.int) false,.int ((((topoT t0.L ((wantsT t0.L ((wantsT t0.L ((filterT t0.L ((filterT t0.L t0.p).2)).2)).2)).2) 6).2):Nat):Int)]),.box (.agg [.int t1.1.mode,.sl 1 (t1.1.srcs.map AV.int) false]),.box (.agg [.int t1.2.mode,.sl 1 (t1.2.srcs.map AV.int) false]),.box (.agg [.sl 2 (t3.rs.map Rtr.v) false,.sl 5 (t3.ls.map Lnk.v) false])]⟩
def differs_n4(t0:Tap)(t1:Flt×Flt)(t2:(List Wnt)×(List Wnt))(t3:Tpl)(x2:Rtr)(t4:Tre×Tre):NF:=⟨[(3,.k,.ref 0 0),(4,.k,.ref 1 0),(5,.k,.ref 2 0),(6,.k,.sl 3 (t2.1.map Wnt.v) false),(7,.k,.sl 3 (t2.2.map Wnt.v) false),(10,.k,.ref 3 0),(11,.k,.ref 4 0)],[.box (.agg [.sl 1 (t0.L.map AV.int) false,.int ((((treN t0.L ((treN t0.L (rawP t0.L ((topoT t0.L ((wantsT t0.L ((wantsT t0.L ((filterT t0.L ((filterT t0.L t0.p).2)).2)).2)).2) 6).2)) t3 x2.id).2) t3 x2.id).2):Nat):Int)]),.box (.agg [.int t1.1.mode,.sl 1 (t1.1.srcs.map AV.int) false]),.box (.agg [.int t1.2.mode,.sl 1 (t1.2.srcs.map AV.int) false]),.box (.agg [.int t4.1.root,.sl 2 (t4.1.ls.map Hop.v) false]),.box (.agg [.int t4.2.root,.sl 2 (t4.2.ls.map Hop.v) false])]⟩
def differs_n5(t0:Tap)(t3:Tpl)(x2:Rtr)(t5:Bool):NF:=⟨[(3,.k,.ref 0 0),(76,.k,.bool t5)],[.box (.agg [.sl 1 (t0.L.map AV.int) false,.int ((((treN t0.L ((treN t0.L (rawP t0.L ((topoT t0.L ((wantsT t0.L ((wantsT t0.L ((filterT t0.L ((filterT t0.L t0.p).2)).2)).2)).2) 6).2)) t3 x2.id).2) t3 x2.id).2):Nat):Int)])]⟩
def differs_n6(t0:Tap)(t3:Tpl)(x2:Rtr)(t6:(List ByteArray)):NF:=⟨[(12,.k,.sl 5 [.agg [.int (Mod (rawV t0.L ((treN t0.L ((treN t0.L (rawP t0.L ((topoT t0.L ((wantsT t0.L ((wantsT t0.L ((filterT t0.L ((filterT t0.L t0.p).2)).2)).2)).2) 6).2)) t3 x2.id).2) t3 x2.id).2)) 9),.bool ((Mod (rawV t0.L (rawP t0.L ((treN t0.L ((treN t0.L (rawP t0.L ((topoT t0.L ((wantsT t0.L ((wantsT t0.L ((filterT t0.L ((filterT t0.L t0.p).2)).2)).2)).2) 6).2)) t3 x2.id).2) t3 x2.id).2))) 2)==0),.int (Mod (rawV t0.L (rawP t0.L (rawP t0.L ((treN t0.L ((treN t0.L (rawP t0.L ((topoT t0.L ((wantsT t0.L ((wantsT t0.L ((filterT t0.L ((filterT t0.L t0.p).2)).2)).2)).2) 6).2)) t3 x2.id).2) t3 x2.id).2)))) 2),.int (Mod (rawV t0.L (rawP t0.L (rawP t0.L (rawP t0.L ((treN t0.L ((treN t0.L (rawP t0.L ((topoT t0.L ((wantsT t0.L ((wantsT t0.L ((filterT t0.L ((filterT t0.L t0.p).2)).2)).2)).2) 6).2)) t3 x2.id).2) t3 x2.id).2))))) 2),.int (Mod (rawV t0.L (rawP t0.L (rawP t0.L (rawP t0.L (rawP t0.L ((treN t0.L ((treN t0.L (rawP t0.L ((topoT t0.L ((wantsT t0.L ((wantsT t0.L ((filterT t0.L ((filterT t0.L t0.p).2)).2)).2)).2) 6).2)) t3 x2.id).2) t3 x2.id).2)))))) 2)]] true),(13,(.s 1),.sl 1 (t6.map AV.str) false)],[]⟩
def differs_n7(t0:Tap)(t3:Tpl)(x2:Rtr)(t6:(List ByteArray))(t7:(List ByteArray)×Aud):NF:=⟨[(12,.k,.sl 5 [.agg [.int (Mod (rawV t0.L ((treN t0.L ((treN t0.L (rawP t0.L ((topoT t0.L ((wantsT t0.L ((wantsT t0.L ((filterT t0.L ((filterT t0.L t0.p).2)).2)).2)).2) 6).2)) t3 x2.id).2) t3 x2.id).2)) 9),.bool ((Mod (rawV t0.L (rawP t0.L ((treN t0.L ((treN t0.L (rawP t0.L ((topoT t0.L ((wantsT t0.L ((wantsT t0.L ((filterT t0.L ((filterT t0.L t0.p).2)).2)).2)).2) 6).2)) t3 x2.id).2) t3 x2.id).2))) 2)==0),.int (Mod (rawV t0.L (rawP t0.L (rawP t0.L ((treN t0.L ((treN t0.L (rawP t0.L ((topoT t0.L ((wantsT t0.L ((wantsT t0.L ((filterT t0.L ((filterT t0.L t0.p).2)).2)).2)).2) 6).2)) t3 x2.id).2) t3 x2.id).2)))) 2),.int (Mod (rawV t0.L (rawP t0.L (rawP t0.L (rawP t0.L ((treN t0.L ((treN t0.L (rawP t0.L ((topoT t0.L ((wantsT t0.L ((wantsT t0.L ((filterT t0.L ((filterT t0.L t0.p).2)).2)).2)).2) 6).2)) t3 x2.id).2) t3 x2.id).2))))) 2),.int (Mod (rawV t0.L (rawP t0.L (rawP t0.L (rawP t0.L (rawP t0.L ((treN t0.L ((treN t0.L (rawP t0.L ((topoT t0.L ((wantsT t0.L ((wantsT t0.L ((filterT t0.L ((filterT t0.L t0.p).2)).2)).2)).2) 6).2)) t3 x2.id).2) t3 x2.id).2)))))) 2)]] true),(13,.k,.sl 1 (t6.map AV.str) false),(14,.k,.ref 0 0),(15,(.s 1),.sl 1 (t7.1.map AV.str) false)],[.box (.agg [.int t7.2.ev,.bool t7.2.st,.int t7.2.mis,.int t7.2.frn,.int t7.2.rep])]⟩
@[reducible] def differs_s:Nat→Type
 | 0=>Tap
 | 1=>Flt×Flt
 | 2=>(List Wnt)×(List Wnt)
 | 3=>Tpl
 | 4=>Tre×Tre
 | 5=>Bool
 | 6=>(List ByteArray)
 | 7=>(List ByteArray)×Aud
 | _=>Unit
def differs_e(r:Bool):AV:=.bool r
def differs_x(t:(List Int))(I5:Tap→Flt×Flt→(List Wnt)×(List Wnt)→Tpl→Rtr→Tre×Tre→Bool→Prop):Ax Tryd.prog differs_s (Bool):=
 (.pass (.join 0 (differs_n0) (fun (t0:Tap)=>t0=(((⟨t.take 2000,0⟩:Tap)):Tap)) (fun b0=>(.callH [] (New_h t) 32
(.bk 0 b0 (((⟨t.take 2000,0⟩:Tap)):Tap) [32]))) fun (t0:Tap) =>
(.join 1 (differs_n1 t0) (fun (t1:Flt×Flt)=>t1=(((filterT t0.L t0.p).1,(filterT t0.L ((filterT t0.L t0.p).2)).1):Flt×Flt)) (fun b1=>(.callH [0] (filterT_h t0.L t0.p) 17
(.callH [0] (filterT_h t0.L ((filterT t0.L t0.p).2)) 49
(.bk 1 b1 ((filterT t0.L t0.p).1,(filterT t0.L ((filterT t0.L t0.p).2)).1) [0,65,81])))) fun (t1:Flt×Flt) =>
(.join 2 (differs_n2 t0 t1) (fun (t2:(List Wnt)×(List Wnt))=>t2=(((wantsT t0.L ((filterT t0.L ((filterT t0.L t0.p).2)).2)).1,(wantsT t0.L ((wantsT t0.L ((filterT t0.L ((filterT t0.L t0.p).2)).2)).2)).1):(List Wnt)×(List Wnt))) (fun b2=>(.callH [0] (wantsT_h t0.L ((filterT t0.L ((filterT t0.L t0.p).2)).2)) 19
(.callH [0] (wantsT_h t0.L ((wantsT t0.L ((filterT t0.L ((filterT t0.L t0.p).2)).2)).2)) 51
(.bk 2 b2 ((wantsT t0.L ((filterT t0.L ((filterT t0.L t0.p).2)).2)).1,(wantsT t0.L ((wantsT t0.L ((filterT t0.L ((filterT t0.L t0.p).2)).2)).2)).1) [0,1,2])))) fun (t2:(List Wnt)×(List Wnt)) =>
(.join 3 (differs_n3 t0 t1 t2) (fun (t3:Tpl)=>t3=(((topoT t0.L ((wantsT t0.L ((wantsT t0.L ((filterT t0.L ((filterT t0.L t0.p).2)).2)).2)).2) 6).1):Tpl)) (fun b3=>(.req 19 (1≤6∧6≤100) fun h1 =>
(.callH [0] (topoT_h t0.L ((wantsT t0.L ((wantsT t0.L ((filterT t0.L ((filterT t0.L t0.p).2)).2)).2)).2) 6 h1) 19
(.bk 3 b3 (((topoT t0.L ((wantsT t0.L ((wantsT t0.L ((filterT t0.L ((filterT t0.L t0.p).2)).2)).2)).2) 6).1):Tpl) [0,1,2,35])))) fun (t3:Tpl) =>
(.callH [0] (N_h t0.L ((topoT t0.L ((wantsT t0.L ((wantsT t0.L ((filterT t0.L ((filterT t0.L t0.p).2)).2)).2)).2) 6).2) ((t3.rs.map Rtr.v).length:Int)) 100
(.el 116 Rtr.v t3.rs (fun R=>Rf (t3.rs.map Rtr.v) (ck (decide (0≤(Mod (rawV t0.L ((topoT t0.L ((wantsT t0.L ((wantsT t0.L ((filterT t0.L ((filterT t0.L t0.p).2)).2)).2)).2) 6).2)) ((t3.rs.map Rtr.v).length:Int)))) (ck (decide ((Mod (rawV t0.L ((topoT t0.L ((wantsT t0.L ((wantsT t0.L ((filterT t0.L ((filterT t0.L t0.p).2)).2)).2)).2) 6).2)) ((t3.rs.map Rtr.v).length:Int))<(t3.rs.length:Int)))
(∀x2,t3.rs[(Mod (rawV t0.L ((topoT t0.L ((wantsT t0.L ((wantsT t0.L ((filterT t0.L ((filterT t0.L t0.p).2)).2)).2)).2) 6).2)) ((t3.rs.map Rtr.v).length:Int)).toNat]?=some x2 →
(R x2))))) fun x2 =>
(.join 4 (differs_n4 t0 t1 t2 t3 x2) (fun (t4:Tre×Tre)=>t4=(((treN t0.L (rawP t0.L ((topoT t0.L ((wantsT t0.L ((wantsT t0.L ((filterT t0.L ((filterT t0.L t0.p).2)).2)).2)).2) 6).2)) t3 x2.id).1,(treN t0.L ((treN t0.L (rawP t0.L ((topoT t0.L ((wantsT t0.L ((wantsT t0.L ((filterT t0.L ((filterT t0.L t0.p).2)).2)).2)).2) 6).2)) t3 x2.id).2) t3 x2.id).1):Tre×Tre)) (fun b4=>(.req 228 (t3.ls.length≤10000) fun h3 =>
(.callH [0] (treN_h t0.L (rawP t0.L ((topoT t0.L ((wantsT t0.L ((wantsT t0.L ((filterT t0.L ((filterT t0.L t0.p).2)).2)).2)).2) 6).2)) t3 x2.id h3) 228
(.req 292 (t3.ls.length≤10000) fun h4 =>
(.callH [0] (treN_h t0.L ((treN t0.L (rawP t0.L ((topoT t0.L ((wantsT t0.L ((wantsT t0.L ((filterT t0.L ((filterT t0.L t0.p).2)).2)).2)).2) 6).2)) t3 x2.id).2) t3 x2.id h4) 292
(.bk 4 b4 ((treN t0.L (rawP t0.L ((topoT t0.L ((wantsT t0.L ((wantsT t0.L ((filterT t0.L ((filterT t0.L t0.p).2)).2)).2)).2) 6).2)) t3 x2.id).1,(treN t0.L ((treN t0.L (rawP t0.L ((topoT t0.L ((wantsT t0.L ((wantsT t0.L ((filterT t0.L ((filterT t0.L t0.p).2)).2)).2)).2) 6).2)) t3 x2.id).2) t3 x2.id).1) [0,1,2,308,324])))))) fun (t4:Tre×Tre) =>
(.pass (.join 5 (differs_n5 t0 t3 x2) (fun (t5:Bool)=>I5 t0 t1 t2 t3 x2 t4 t5) (fun b5=>(.req 21 (t1.1.srcs.length≤1000) fun h5 =>
(.callP (fltT_c t1.1 h5)
(.req 53 (t1.2.srcs.length≤1000) fun h6 =>
(.callP (fltT_c t1.2 h6)
(.callP (FSame_c t1.1 t1.2)
(.br 165 (!(((fltT t1.1).toList==(fltT t1.2).toList)==(FSame t1.1 t1.2))) (.bk 5 b5 ((true):Bool) [0])
(.req 181 (t2.1.length≤1000) fun h7 =>
(.req 181 (∀w∈t2.1,w.srcs.length≤1000) fun h8 =>
(.callP (wntsT_c t2.1 h7 h8)
(.req 213 (t2.2.length≤1000) fun h9 =>
(.req 213 (∀w∈t2.2,w.srcs.length≤1000) fun h10 =>
(.callP (wntsT_c t2.2 h9 h10)
(.callP (sameW_c t2.1 t2.2)
(.br 341 (!(((wntsT t2.1).toList==(wntsT t2.2).toList)==(decide (t2.1=t2.2)))) (.bk 5 b5 ((true):Bool) [0])
(.req 357 (t4.1.ls.length≤1000) fun h11 =>
(.callP (treT_c t4.1 h11)
(.req 389 (t4.2.ls.length≤1000) fun h12 =>
(.callP (treT_c t4.2 h12)
(.callP (smeT_c t4.1 t4.2)
(.bk 5 b5 ((!(((treT t4.1).toList==(treT t4.2).toList)==(decide (t4.1=t4.2)))):Bool) [0]))))))))))))))))))))) fun (t5:Bool) =>
(.br 1 t5 (.ret (false))
(.callH [0] (N_h t0.L ((treN t0.L ((treN t0.L (rawP t0.L ((topoT t0.L ((wantsT t0.L ((wantsT t0.L ((filterT t0.L ((filterT t0.L t0.p).2)).2)).2)).2) 6).2)) t3 x2.id).2) t3 x2.id).2) 9) 17
(.callH [0] (N_h t0.L (rawP t0.L ((treN t0.L ((treN t0.L (rawP t0.L ((topoT t0.L ((wantsT t0.L ((wantsT t0.L ((filterT t0.L ((filterT t0.L t0.p).2)).2)).2)).2) 6).2)) t3 x2.id).2) t3 x2.id).2)) 2) 49
(.callH [0] (N_h t0.L (rawP t0.L (rawP t0.L ((treN t0.L ((treN t0.L (rawP t0.L ((topoT t0.L ((wantsT t0.L ((wantsT t0.L ((filterT t0.L ((filterT t0.L t0.p).2)).2)).2)).2) 6).2)) t3 x2.id).2) t3 x2.id).2))) 2) 97
(.callH [0] (N_h t0.L (rawP t0.L (rawP t0.L (rawP t0.L ((treN t0.L ((treN t0.L (rawP t0.L ((topoT t0.L ((wantsT t0.L ((wantsT t0.L ((filterT t0.L ((filterT t0.L t0.p).2)).2)).2)).2) 6).2)) t3 x2.id).2) t3 x2.id).2)))) 2) 129
(.callH [0] (N_h t0.L (rawP t0.L (rawP t0.L (rawP t0.L (rawP t0.L ((treN t0.L ((treN t0.L (rawP t0.L ((topoT t0.L ((wantsT t0.L ((wantsT t0.L ((filterT t0.L ((filterT t0.L t0.p).2)).2)).2)).2) 6).2)) t3 x2.id).2) t3 x2.id).2))))) 2) 161
(.join 6 (differs_n6 t0 t3 x2) (fun (t6:(List ByteArray))=>t6=(([(⟨Mod (rawV t0.L ((treN t0.L ((treN t0.L (rawP t0.L ((topoT t0.L ((wantsT t0.L ((wantsT t0.L ((filterT t0.L ((filterT t0.L t0.p).2)).2)).2)).2) 6).2)) t3 x2.id).2) t3 x2.id).2)) 9,(Mod (rawV t0.L (rawP t0.L ((treN t0.L ((treN t0.L (rawP t0.L ((topoT t0.L ((wantsT t0.L ((wantsT t0.L ((filterT t0.L ((filterT t0.L t0.p).2)).2)).2)).2) 6).2)) t3 x2.id).2) t3 x2.id).2))) 2)==0,Mod (rawV t0.L (rawP t0.L (rawP t0.L ((treN t0.L ((treN t0.L (rawP t0.L ((topoT t0.L ((wantsT t0.L ((wantsT t0.L ((filterT t0.L ((filterT t0.L t0.p).2)).2)).2)).2) 6).2)) t3 x2.id).2) t3 x2.id).2)))) 2,Mod (rawV t0.L (rawP t0.L (rawP t0.L (rawP t0.L ((treN t0.L ((treN t0.L (rawP t0.L ((topoT t0.L ((wantsT t0.L ((wantsT t0.L ((filterT t0.L ((filterT t0.L t0.p).2)).2)).2)).2) 6).2)) t3 x2.id).2) t3 x2.id).2))))) 2,Mod (rawV t0.L (rawP t0.L (rawP t0.L (rawP t0.L (rawP t0.L ((treN t0.L ((treN t0.L (rawP t0.L ((topoT t0.L ((wantsT t0.L ((wantsT t0.L ((filterT t0.L ((filterT t0.L t0.p).2)).2)).2)).2) 6).2)) t3 x2.id).2) t3 x2.id).2)))))) 2⟩:Aud)].map audT):(List ByteArray))) (fun b6=>(.req 241 ([(⟨Mod (rawV t0.L ((treN t0.L ((treN t0.L (rawP t0.L ((topoT t0.L ((wantsT t0.L ((wantsT t0.L ((filterT t0.L ((filterT t0.L t0.p).2)).2)).2)).2) 6).2)) t3 x2.id).2) t3 x2.id).2)) 9,(Mod (rawV t0.L (rawP t0.L ((treN t0.L ((treN t0.L (rawP t0.L ((topoT t0.L ((wantsT t0.L ((wantsT t0.L ((filterT t0.L ((filterT t0.L t0.p).2)).2)).2)).2) 6).2)) t3 x2.id).2) t3 x2.id).2))) 2)==0,Mod (rawV t0.L (rawP t0.L (rawP t0.L ((treN t0.L ((treN t0.L (rawP t0.L ((topoT t0.L ((wantsT t0.L ((wantsT t0.L ((filterT t0.L ((filterT t0.L t0.p).2)).2)).2)).2) 6).2)) t3 x2.id).2) t3 x2.id).2)))) 2,Mod (rawV t0.L (rawP t0.L (rawP t0.L (rawP t0.L ((treN t0.L ((treN t0.L (rawP t0.L ((topoT t0.L ((wantsT t0.L ((wantsT t0.L ((filterT t0.L ((filterT t0.L t0.p).2)).2)).2)).2) 6).2)) t3 x2.id).2) t3 x2.id).2))))) 2,Mod (rawV t0.L (rawP t0.L (rawP t0.L (rawP t0.L (rawP t0.L ((treN t0.L ((treN t0.L (rawP t0.L ((topoT t0.L ((wantsT t0.L ((wantsT t0.L ((filterT t0.L ((filterT t0.L t0.p).2)).2)).2)).2) 6).2)) t3 x2.id).2) t3 x2.id).2)))))) 2⟩:Aud)].length≤1000) fun h13 =>
(.callP (audsT_c [(⟨Mod (rawV t0.L ((treN t0.L ((treN t0.L (rawP t0.L ((topoT t0.L ((wantsT t0.L ((wantsT t0.L ((filterT t0.L ((filterT t0.L t0.p).2)).2)).2)).2) 6).2)) t3 x2.id).2) t3 x2.id).2)) 9,(Mod (rawV t0.L (rawP t0.L ((treN t0.L ((treN t0.L (rawP t0.L ((topoT t0.L ((wantsT t0.L ((wantsT t0.L ((filterT t0.L ((filterT t0.L t0.p).2)).2)).2)).2) 6).2)) t3 x2.id).2) t3 x2.id).2))) 2)==0,Mod (rawV t0.L (rawP t0.L (rawP t0.L ((treN t0.L ((treN t0.L (rawP t0.L ((topoT t0.L ((wantsT t0.L ((wantsT t0.L ((filterT t0.L ((filterT t0.L t0.p).2)).2)).2)).2) 6).2)) t3 x2.id).2) t3 x2.id).2)))) 2,Mod (rawV t0.L (rawP t0.L (rawP t0.L (rawP t0.L ((treN t0.L ((treN t0.L (rawP t0.L ((topoT t0.L ((wantsT t0.L ((wantsT t0.L ((filterT t0.L ((filterT t0.L t0.p).2)).2)).2)).2) 6).2)) t3 x2.id).2) t3 x2.id).2))))) 2,Mod (rawV t0.L (rawP t0.L (rawP t0.L (rawP t0.L (rawP t0.L ((treN t0.L ((treN t0.L (rawP t0.L ((topoT t0.L ((wantsT t0.L ((wantsT t0.L ((filterT t0.L ((filterT t0.L t0.p).2)).2)).2)).2) 6).2)) t3 x2.id).2) t3 x2.id).2)))))) 2⟩:Aud)] h13)
(.bk 6 b6 (([(⟨Mod (rawV t0.L ((treN t0.L ((treN t0.L (rawP t0.L ((topoT t0.L ((wantsT t0.L ((wantsT t0.L ((filterT t0.L ((filterT t0.L t0.p).2)).2)).2)).2) 6).2)) t3 x2.id).2) t3 x2.id).2)) 9,(Mod (rawV t0.L (rawP t0.L ((treN t0.L ((treN t0.L (rawP t0.L ((topoT t0.L ((wantsT t0.L ((wantsT t0.L ((filterT t0.L ((filterT t0.L t0.p).2)).2)).2)).2) 6).2)) t3 x2.id).2) t3 x2.id).2))) 2)==0,Mod (rawV t0.L (rawP t0.L (rawP t0.L ((treN t0.L ((treN t0.L (rawP t0.L ((topoT t0.L ((wantsT t0.L ((wantsT t0.L ((filterT t0.L ((filterT t0.L t0.p).2)).2)).2)).2) 6).2)) t3 x2.id).2) t3 x2.id).2)))) 2,Mod (rawV t0.L (rawP t0.L (rawP t0.L (rawP t0.L ((treN t0.L ((treN t0.L (rawP t0.L ((topoT t0.L ((wantsT t0.L ((wantsT t0.L ((filterT t0.L ((filterT t0.L t0.p).2)).2)).2)).2) 6).2)) t3 x2.id).2) t3 x2.id).2))))) 2,Mod (rawV t0.L (rawP t0.L (rawP t0.L (rawP t0.L (rawP t0.L ((treN t0.L ((treN t0.L (rawP t0.L ((topoT t0.L ((wantsT t0.L ((wantsT t0.L ((filterT t0.L ((filterT t0.L t0.p).2)).2)).2)).2) 6).2)) t3 x2.id).2) t3 x2.id).2)))))) 2⟩:Aud)].map audT):(List ByteArray)) [])))) fun (t6:(List ByteArray)) =>
(.br 48 (((t6.map AV.str).length:Int) != 1) (.ret (false))
(.el 64 Aud.v [(⟨Mod (rawV t0.L ((treN t0.L ((treN t0.L (rawP t0.L ((topoT t0.L ((wantsT t0.L ((wantsT t0.L ((filterT t0.L ((filterT t0.L t0.p).2)).2)).2)).2) 6).2)) t3 x2.id).2) t3 x2.id).2)) 9,(Mod (rawV t0.L (rawP t0.L ((treN t0.L ((treN t0.L (rawP t0.L ((topoT t0.L ((wantsT t0.L ((wantsT t0.L ((filterT t0.L ((filterT t0.L t0.p).2)).2)).2)).2) 6).2)) t3 x2.id).2) t3 x2.id).2))) 2)==0,Mod (rawV t0.L (rawP t0.L (rawP t0.L ((treN t0.L ((treN t0.L (rawP t0.L ((topoT t0.L ((wantsT t0.L ((wantsT t0.L ((filterT t0.L ((filterT t0.L t0.p).2)).2)).2)).2) 6).2)) t3 x2.id).2) t3 x2.id).2)))) 2,Mod (rawV t0.L (rawP t0.L (rawP t0.L (rawP t0.L ((treN t0.L ((treN t0.L (rawP t0.L ((topoT t0.L ((wantsT t0.L ((wantsT t0.L ((filterT t0.L ((filterT t0.L t0.p).2)).2)).2)).2) 6).2)) t3 x2.id).2) t3 x2.id).2))))) 2,Mod (rawV t0.L (rawP t0.L (rawP t0.L (rawP t0.L (rawP t0.L ((treN t0.L ((treN t0.L (rawP t0.L ((topoT t0.L ((wantsT t0.L ((wantsT t0.L ((filterT t0.L ((filterT t0.L t0.p).2)).2)).2)).2) 6).2)) t3 x2.id).2) t3 x2.id).2)))))) 2⟩:Aud)] (fun R=>Rf (α:=List AV) [.agg [.int (Mod (rawV t0.L ((treN t0.L ((treN t0.L (rawP t0.L ((topoT t0.L ((wantsT t0.L ((wantsT t0.L ((filterT t0.L ((filterT t0.L t0.p).2)).2)).2)).2) 6).2)) t3 x2.id).2) t3 x2.id).2)) 9),.bool ((Mod (rawV t0.L (rawP t0.L ((treN t0.L ((treN t0.L (rawP t0.L ((topoT t0.L ((wantsT t0.L ((wantsT t0.L ((filterT t0.L ((filterT t0.L t0.p).2)).2)).2)).2) 6).2)) t3 x2.id).2) t3 x2.id).2))) 2)==0),.int (Mod (rawV t0.L (rawP t0.L (rawP t0.L ((treN t0.L ((treN t0.L (rawP t0.L ((topoT t0.L ((wantsT t0.L ((wantsT t0.L ((filterT t0.L ((filterT t0.L t0.p).2)).2)).2)).2) 6).2)) t3 x2.id).2) t3 x2.id).2)))) 2),.int (Mod (rawV t0.L (rawP t0.L (rawP t0.L (rawP t0.L ((treN t0.L ((treN t0.L (rawP t0.L ((topoT t0.L ((wantsT t0.L ((wantsT t0.L ((filterT t0.L ((filterT t0.L t0.p).2)).2)).2)).2) 6).2)) t3 x2.id).2) t3 x2.id).2))))) 2),.int (Mod (rawV t0.L (rawP t0.L (rawP t0.L (rawP t0.L (rawP t0.L ((treN t0.L ((treN t0.L (rawP t0.L ((topoT t0.L ((wantsT t0.L ((wantsT t0.L ((filterT t0.L ((filterT t0.L t0.p).2)).2)).2)).2) 6).2)) t3 x2.id).2) t3 x2.id).2)))))) 2)]] (ck (decide (0<([(⟨Mod (rawV t0.L ((treN t0.L ((treN t0.L (rawP t0.L ((topoT t0.L ((wantsT t0.L ((wantsT t0.L ((filterT t0.L ((filterT t0.L t0.p).2)).2)).2)).2) 6).2)) t3 x2.id).2) t3 x2.id).2)) 9,(Mod (rawV t0.L (rawP t0.L ((treN t0.L ((treN t0.L (rawP t0.L ((topoT t0.L ((wantsT t0.L ((wantsT t0.L ((filterT t0.L ((filterT t0.L t0.p).2)).2)).2)).2) 6).2)) t3 x2.id).2) t3 x2.id).2))) 2)==0,Mod (rawV t0.L (rawP t0.L (rawP t0.L ((treN t0.L ((treN t0.L (rawP t0.L ((topoT t0.L ((wantsT t0.L ((wantsT t0.L ((filterT t0.L ((filterT t0.L t0.p).2)).2)).2)).2) 6).2)) t3 x2.id).2) t3 x2.id).2)))) 2,Mod (rawV t0.L (rawP t0.L (rawP t0.L (rawP t0.L ((treN t0.L ((treN t0.L (rawP t0.L ((topoT t0.L ((wantsT t0.L ((wantsT t0.L ((filterT t0.L ((filterT t0.L t0.p).2)).2)).2)).2) 6).2)) t3 x2.id).2) t3 x2.id).2))))) 2,Mod (rawV t0.L (rawP t0.L (rawP t0.L (rawP t0.L (rawP t0.L ((treN t0.L ((treN t0.L (rawP t0.L ((topoT t0.L ((wantsT t0.L ((wantsT t0.L ((filterT t0.L ((filterT t0.L t0.p).2)).2)).2)).2) 6).2)) t3 x2.id).2) t3 x2.id).2)))))) 2⟩:Aud)].length:Int)))
(∀x14,[(⟨Mod (rawV t0.L ((treN t0.L ((treN t0.L (rawP t0.L ((topoT t0.L ((wantsT t0.L ((wantsT t0.L ((filterT t0.L ((filterT t0.L t0.p).2)).2)).2)).2) 6).2)) t3 x2.id).2) t3 x2.id).2)) 9,(Mod (rawV t0.L (rawP t0.L ((treN t0.L ((treN t0.L (rawP t0.L ((topoT t0.L ((wantsT t0.L ((wantsT t0.L ((filterT t0.L ((filterT t0.L t0.p).2)).2)).2)).2) 6).2)) t3 x2.id).2) t3 x2.id).2))) 2)==0,Mod (rawV t0.L (rawP t0.L (rawP t0.L ((treN t0.L ((treN t0.L (rawP t0.L ((topoT t0.L ((wantsT t0.L ((wantsT t0.L ((filterT t0.L ((filterT t0.L t0.p).2)).2)).2)).2) 6).2)) t3 x2.id).2) t3 x2.id).2)))) 2,Mod (rawV t0.L (rawP t0.L (rawP t0.L (rawP t0.L ((treN t0.L ((treN t0.L (rawP t0.L ((topoT t0.L ((wantsT t0.L ((wantsT t0.L ((filterT t0.L ((filterT t0.L t0.p).2)).2)).2)).2) 6).2)) t3 x2.id).2) t3 x2.id).2))))) 2,Mod (rawV t0.L (rawP t0.L (rawP t0.L (rawP t0.L (rawP t0.L ((treN t0.L ((treN t0.L (rawP t0.L ((topoT t0.L ((wantsT t0.L ((wantsT t0.L ((filterT t0.L ((filterT t0.L t0.p).2)).2)).2)).2) 6).2)) t3 x2.id).2) t3 x2.id).2)))))) 2⟩:Aud)][0]?=some x14 →
(R x14)))) fun x14 =>
(.pass (.join 7 (differs_n7 t0 t3 x2 t6) (fun (t7:(List ByteArray)×Aud)=>t7=(([(⟨x14.ev,x14.st,0,0,0⟩:Aud)].map audT,(⟨x14.ev,x14.st,0,0,0⟩:Aud)):(List ByteArray)×Aud)) (fun b7=>(.req 256 ([(⟨x14.ev,x14.st,0,0,0⟩:Aud)].length≤1000) fun h15 =>
(.callP (audsT_c [(⟨x14.ev,x14.st,0,0,0⟩:Aud)] h15)
(.bk 7 b7 ([(⟨x14.ev,x14.st,0,0,0⟩:Aud)].map audT,(⟨x14.ev,x14.st,0,0,0⟩:Aud)) [96])))) fun (t7:(List ByteArray)×Aud) =>
(.br 65 (((t7.1.map AV.str).length:Int)==1) (.el 81 AV.str t6 (fun R=>Rf (t6.map AV.str) (ck (decide (0<(t6.length:Int)))
(∀x16,t6[0]?=some x16 →
(R x16)))) fun x16 =>
(.el 129 AV.str t7.1 (fun R=>Rf (t7.1.map AV.str) (ck (decide (0<(t7.1.length:Int)))
(∀x17,t7.1[0]?=some x17 →
(R x17)))) fun x17 =>
(.el 193 Aud.v [(⟨Mod (rawV t0.L ((treN t0.L ((treN t0.L (rawP t0.L ((topoT t0.L ((wantsT t0.L ((wantsT t0.L ((filterT t0.L ((filterT t0.L t0.p).2)).2)).2)).2) 6).2)) t3 x2.id).2) t3 x2.id).2)) 9,(Mod (rawV t0.L (rawP t0.L ((treN t0.L ((treN t0.L (rawP t0.L ((topoT t0.L ((wantsT t0.L ((wantsT t0.L ((filterT t0.L ((filterT t0.L t0.p).2)).2)).2)).2) 6).2)) t3 x2.id).2) t3 x2.id).2))) 2)==0,Mod (rawV t0.L (rawP t0.L (rawP t0.L ((treN t0.L ((treN t0.L (rawP t0.L ((topoT t0.L ((wantsT t0.L ((wantsT t0.L ((filterT t0.L ((filterT t0.L t0.p).2)).2)).2)).2) 6).2)) t3 x2.id).2) t3 x2.id).2)))) 2,Mod (rawV t0.L (rawP t0.L (rawP t0.L (rawP t0.L ((treN t0.L ((treN t0.L (rawP t0.L ((topoT t0.L ((wantsT t0.L ((wantsT t0.L ((filterT t0.L ((filterT t0.L t0.p).2)).2)).2)).2) 6).2)) t3 x2.id).2) t3 x2.id).2))))) 2,Mod (rawV t0.L (rawP t0.L (rawP t0.L (rawP t0.L (rawP t0.L ((treN t0.L ((treN t0.L (rawP t0.L ((topoT t0.L ((wantsT t0.L ((wantsT t0.L ((filterT t0.L ((filterT t0.L t0.p).2)).2)).2)).2) 6).2)) t3 x2.id).2) t3 x2.id).2)))))) 2⟩:Aud)] (fun R=>Rf (α:=List AV) [.agg [.int (Mod (rawV t0.L ((treN t0.L ((treN t0.L (rawP t0.L ((topoT t0.L ((wantsT t0.L ((wantsT t0.L ((filterT t0.L ((filterT t0.L t0.p).2)).2)).2)).2) 6).2)) t3 x2.id).2) t3 x2.id).2)) 9),.bool ((Mod (rawV t0.L (rawP t0.L ((treN t0.L ((treN t0.L (rawP t0.L ((topoT t0.L ((wantsT t0.L ((wantsT t0.L ((filterT t0.L ((filterT t0.L t0.p).2)).2)).2)).2) 6).2)) t3 x2.id).2) t3 x2.id).2))) 2)==0),.int (Mod (rawV t0.L (rawP t0.L (rawP t0.L ((treN t0.L ((treN t0.L (rawP t0.L ((topoT t0.L ((wantsT t0.L ((wantsT t0.L ((filterT t0.L ((filterT t0.L t0.p).2)).2)).2)).2) 6).2)) t3 x2.id).2) t3 x2.id).2)))) 2),.int (Mod (rawV t0.L (rawP t0.L (rawP t0.L (rawP t0.L ((treN t0.L ((treN t0.L (rawP t0.L ((topoT t0.L ((wantsT t0.L ((wantsT t0.L ((filterT t0.L ((filterT t0.L t0.p).2)).2)).2)).2) 6).2)) t3 x2.id).2) t3 x2.id).2))))) 2),.int (Mod (rawV t0.L (rawP t0.L (rawP t0.L (rawP t0.L (rawP t0.L ((treN t0.L ((treN t0.L (rawP t0.L ((topoT t0.L ((wantsT t0.L ((wantsT t0.L ((filterT t0.L ((filterT t0.L t0.p).2)).2)).2)).2) 6).2)) t3 x2.id).2) t3 x2.id).2)))))) 2)]] (ck (decide (0<([(⟨Mod (rawV t0.L ((treN t0.L ((treN t0.L (rawP t0.L ((topoT t0.L ((wantsT t0.L ((wantsT t0.L ((filterT t0.L ((filterT t0.L t0.p).2)).2)).2)).2) 6).2)) t3 x2.id).2) t3 x2.id).2)) 9,(Mod (rawV t0.L (rawP t0.L ((treN t0.L ((treN t0.L (rawP t0.L ((topoT t0.L ((wantsT t0.L ((wantsT t0.L ((filterT t0.L ((filterT t0.L t0.p).2)).2)).2)).2) 6).2)) t3 x2.id).2) t3 x2.id).2))) 2)==0,Mod (rawV t0.L (rawP t0.L (rawP t0.L ((treN t0.L ((treN t0.L (rawP t0.L ((topoT t0.L ((wantsT t0.L ((wantsT t0.L ((filterT t0.L ((filterT t0.L t0.p).2)).2)).2)).2) 6).2)) t3 x2.id).2) t3 x2.id).2)))) 2,Mod (rawV t0.L (rawP t0.L (rawP t0.L (rawP t0.L ((treN t0.L ((treN t0.L (rawP t0.L ((topoT t0.L ((wantsT t0.L ((wantsT t0.L ((filterT t0.L ((filterT t0.L t0.p).2)).2)).2)).2) 6).2)) t3 x2.id).2) t3 x2.id).2))))) 2,Mod (rawV t0.L (rawP t0.L (rawP t0.L (rawP t0.L (rawP t0.L ((treN t0.L ((treN t0.L (rawP t0.L ((topoT t0.L ((wantsT t0.L ((wantsT t0.L ((filterT t0.L ((filterT t0.L t0.p).2)).2)).2)).2) 6).2)) t3 x2.id).2) t3 x2.id).2)))))) 2⟩:Aud)].length:Int)))
(∀x18,[(⟨Mod (rawV t0.L ((treN t0.L ((treN t0.L (rawP t0.L ((topoT t0.L ((wantsT t0.L ((wantsT t0.L ((filterT t0.L ((filterT t0.L t0.p).2)).2)).2)).2) 6).2)) t3 x2.id).2) t3 x2.id).2)) 9,(Mod (rawV t0.L (rawP t0.L ((treN t0.L ((treN t0.L (rawP t0.L ((topoT t0.L ((wantsT t0.L ((wantsT t0.L ((filterT t0.L ((filterT t0.L t0.p).2)).2)).2)).2) 6).2)) t3 x2.id).2) t3 x2.id).2))) 2)==0,Mod (rawV t0.L (rawP t0.L (rawP t0.L ((treN t0.L ((treN t0.L (rawP t0.L ((topoT t0.L ((wantsT t0.L ((wantsT t0.L ((filterT t0.L ((filterT t0.L t0.p).2)).2)).2)).2) 6).2)) t3 x2.id).2) t3 x2.id).2)))) 2,Mod (rawV t0.L (rawP t0.L (rawP t0.L (rawP t0.L ((treN t0.L ((treN t0.L (rawP t0.L ((topoT t0.L ((wantsT t0.L ((wantsT t0.L ((filterT t0.L ((filterT t0.L t0.p).2)).2)).2)).2) 6).2)) t3 x2.id).2) t3 x2.id).2))))) 2,Mod (rawV t0.L (rawP t0.L (rawP t0.L (rawP t0.L (rawP t0.L ((treN t0.L ((treN t0.L (rawP t0.L ((topoT t0.L ((wantsT t0.L ((wantsT t0.L ((filterT t0.L ((filterT t0.L t0.p).2)).2)).2)).2) 6).2)) t3 x2.id).2) t3 x2.id).2)))))) 2⟩:Aud)][0]?=some x18 →
(R x18)))) fun x18 =>
(.br 305 ((x16.toList==x17.toList)==((x18.ev==t7.2.ev) && ((x18.st==t7.2.st) && ((x18.mis==t7.2.mis) && ((x18.frn==t7.2.frn) && ((x18.rep==t7.2.rep) && true)))))) (.el 321 AV.str t6 (fun R=>Rf (t6.map AV.str) (ck (decide (0<(t6.length:Int)))
(∀x19,t6[0]?=some x19 →
(R x19)))) fun x19 =>
(.el 369 AV.str t7.1 (fun R=>Rf (t7.1.map AV.str) (ck (decide (0<(t7.1.length:Int)))
(∀x20,t7.1[0]?=some x20 →
(R x20)))) fun x20 =>
(.br 449 (!(x19.toList==x20.toList)) (.callP (awk42_c )
(.ret (true)))
(.callP (clnA_c [(⟨Mod (rawV t0.L ((treN t0.L ((treN t0.L (rawP t0.L ((topoT t0.L ((wantsT t0.L ((wantsT t0.L ((filterT t0.L ((filterT t0.L t0.p).2)).2)).2)).2) 6).2)) t3 x2.id).2) t3 x2.id).2)) 9,(Mod (rawV t0.L (rawP t0.L ((treN t0.L ((treN t0.L (rawP t0.L ((topoT t0.L ((wantsT t0.L ((wantsT t0.L ((filterT t0.L ((filterT t0.L t0.p).2)).2)).2)).2) 6).2)) t3 x2.id).2) t3 x2.id).2))) 2)==0,Mod (rawV t0.L (rawP t0.L (rawP t0.L ((treN t0.L ((treN t0.L (rawP t0.L ((topoT t0.L ((wantsT t0.L ((wantsT t0.L ((filterT t0.L ((filterT t0.L t0.p).2)).2)).2)).2) 6).2)) t3 x2.id).2) t3 x2.id).2)))) 2,Mod (rawV t0.L (rawP t0.L (rawP t0.L (rawP t0.L ((treN t0.L ((treN t0.L (rawP t0.L ((topoT t0.L ((wantsT t0.L ((wantsT t0.L ((filterT t0.L ((filterT t0.L t0.p).2)).2)).2)).2) 6).2)) t3 x2.id).2) t3 x2.id).2))))) 2,Mod (rawV t0.L (rawP t0.L (rawP t0.L (rawP t0.L (rawP t0.L ((treN t0.L ((treN t0.L (rawP t0.L ((topoT t0.L ((wantsT t0.L ((wantsT t0.L ((filterT t0.L ((filterT t0.L t0.p).2)).2)).2)).2) 6).2)) t3 x2.id).2) t3 x2.id).2)))))) 2⟩:Aud)])
(.br 529 (clnA [(⟨Mod (rawV t0.L ((treN t0.L ((treN t0.L (rawP t0.L ((topoT t0.L ((wantsT t0.L ((wantsT t0.L ((filterT t0.L ((filterT t0.L t0.p).2)).2)).2)).2) 6).2)) t3 x2.id).2) t3 x2.id).2)) 9,(Mod (rawV t0.L (rawP t0.L ((treN t0.L ((treN t0.L (rawP t0.L ((topoT t0.L ((wantsT t0.L ((wantsT t0.L ((filterT t0.L ((filterT t0.L t0.p).2)).2)).2)).2) 6).2)) t3 x2.id).2) t3 x2.id).2))) 2)==0,Mod (rawV t0.L (rawP t0.L (rawP t0.L ((treN t0.L ((treN t0.L (rawP t0.L ((topoT t0.L ((wantsT t0.L ((wantsT t0.L ((filterT t0.L ((filterT t0.L t0.p).2)).2)).2)).2) 6).2)) t3 x2.id).2) t3 x2.id).2)))) 2,Mod (rawV t0.L (rawP t0.L (rawP t0.L (rawP t0.L ((treN t0.L ((treN t0.L (rawP t0.L ((topoT t0.L ((wantsT t0.L ((wantsT t0.L ((filterT t0.L ((filterT t0.L t0.p).2)).2)).2)).2) 6).2)) t3 x2.id).2) t3 x2.id).2))))) 2,Mod (rawV t0.L (rawP t0.L (rawP t0.L (rawP t0.L (rawP t0.L ((treN t0.L ((treN t0.L (rawP t0.L ((topoT t0.L ((wantsT t0.L ((wantsT t0.L ((filterT t0.L ((filterT t0.L t0.p).2)).2)).2)).2) 6).2)) t3 x2.id).2) t3 x2.id).2)))))) 2⟩:Aud)]) (.callP (awk42_c )
(.ret (true)))
(.ret (false)))))))
(.ret (false))))))
(.ret (false))))))))))))))))))))))))
def differs_vc(t:(List Int))(I5:Tap→Flt×Flt→(List Wnt)×(List Wnt)→Tpl→Rtr→Tre×Tre→Bool→Prop)(r0:Bool):Prop:=(differs_x t I5).vp differs_e r0
theorem differs_p(t:List Int)(ok:differs_a t):∃I5,differs_vc t I5 true:=by
 refine ⟨fun _ _ _ _ _ _ b=>b=false,?_⟩
 dsimp only [differs_vc,differs_x,differs_s,Ax.vp,Ax.vc];simp only [vcU,rfU,List.length_map]
 refine ⟨trivial,?_⟩
 rintro ⟨L,p⟩ h0
 refine ⟨trivial,?_⟩
 rintro ⟨a,b⟩ h1
 simp only at h1
 have ha:a=(filterT L p).1:=congrArg Prod.fst h1
 have hb:b=(filterT L (filterT L p).2).1:=congrArg Prod.snd h1
 clear h1
 have fa:fltErr a.mode a.srcs=0:=by rw [ha];exact filterT_in _ _
 have fb:fltErr b.mode b.srcs=0:=by rw [hb];exact filterT_in _ _
 clear ha hb
 refine ⟨trivial,?_⟩
 rintro ⟨v,w⟩ h1
 simp only at h1 ⊢
 have hv:v=(wantsT L (filterT L (filterT L p).2).2).1:=congrArg Prod.fst h1
 have hw:w=(wantsT L (wantsT L (filterT L (filterT L p).2).2).2).1:=congrArg Prod.snd h1
 clear h1
 have fv:WOk 7 v:=by rw [hv];exact wantsT_ok _ _
 have fw:WOk 7 w:=by rw [hw];exact wantsT_ok _ _
 clear hv hw
 generalize (wantsT L (wantsT L (filterT L (filterT L p).2).2).2).2=p1
 refine ⟨⟨by omega,trivial⟩,?_⟩
 rintro T hT
 have t1:=topoT_rs (L:=L) (p:=p1) (most:=6) (by omega)
 have t2:=topoT_ls (L:=L) (p:=p1) (most:=6) (by omega)
 rw [←hT] at t1 t2
 clear hT
 generalize (topoT L p1 6).2=p2
 have hm:=Mod_range (x:=rawV L p2) (show 1≤(T.rs.length:Int) by omega)
 refine ⟨by omega,by omega,fun r hr=>⟨⟨by omega,by omega,trivial⟩,?_⟩⟩
 rintro ⟨x,y⟩ h1
 simp only at h1 ⊢
 have hx:x=(treN L (rawP L p2) T r.id).1:=congrArg Prod.fst h1
 have hy:y=(treN L (treN L (rawP L p2) T r.id).2 T r.id).1:=congrArg Prod.snd h1
 clear h1
 have lx:x.ls.length≤72:=by
  have:=treN_len (L:=L) (p:=rawP L p2) (a:=T) (root:=r.id)
  rw [←hx] at this;omega
 have ly:y.ls.length≤72:=by
  have:=treN_len (L:=L) (p:=(treN L (rawP L p2) T r.id).2) (a:=T) (root:=r.id)
  rw [←hy] at this;omega
 clear hx hy
 generalize (treN L (treN L (rawP L p2) T r.id).2 T r.id).2=p3
 have ga:=flt_ok fa
 have gb:=flt_ok fb
 have gv:=wants_ok fv
 have gw:=wants_ok fw
 refine ⟨⟨by omega,by omega,fun c=>?_,fun c=>⟨by omega,gv.2.2,by omega,gw.2.2,fun c=>?_,fun c=>⟨by omega,by omega,?_⟩⟩⟩,?_⟩
 ·rw [str_eq] at c
  have:decide (fltT a=fltT b)=FSame a b:=by
   rw [FSame,decide_eq_decide]
   exact ⟨fun h=>fltL_inj ga.1 gb.1 (B_inj (by rw [←fltT_eq,←fltT_eq];exact h)),fun h=>by rw [h]⟩
  rw [this] at c;simp at c
 ·rw [str_eq] at c
  have:decide (wntsT v=wntsT w)=decide (v=w):=by
   rw [decide_eq_decide]
   exact ⟨fun h=>wntsL_inj gv.1 gw.1 (B_inj (by rw [←wntsT_eq,←wntsT_eq];exact h)),fun h=>by rw [h]⟩
  rw [this] at c;simp at c
 ·rw [str_eq]
  have:decide (treT x=treT y)=decide (x=y):=by
   rw [decide_eq_decide]
   exact ⟨treT_inj,fun h=>by rw [h]⟩
  rw [this];simp
 rintro _ rfl
 refine ⟨fun c=>by simp at c,fun _=>⟨⟨by simp,trivial⟩,?_⟩⟩
 generalize Mod (rawV L p3) 9=e
 generalize (Mod (rawV L (rawP L p3)) 2==0)=st
 generalize Mod (rawV L (rawP L (rawP L p3))) 2=m1
 generalize Mod (rawV L (rawP L (rawP L (rawP L p3)))) 2=m2
 generalize Mod (rawV L (rawP L (rawP L (rawP L (rawP L p3))))) 2=m3
 rintro _ rfl
 refine ⟨fun c=>by simp at c,fun _=>⟨by simp,fun z hz=>?_⟩⟩
 cases Option.some.inj hz
 refine ⟨⟨by simp,trivial⟩,?_⟩
 rintro _ rfl
 refine ⟨fun _=>⟨by simp,fun q1 g1=>⟨by simp,fun q2 g2=>⟨by simp,fun z2 hz2=>?_⟩⟩⟩,fun c=>by simp at c⟩
 cases Option.some.inj hz2
 cases Option.some.inj g1
 cases Option.some.inj g2
 rw [str_eq]
 have key:audT ⟨e,st,m1,m2,m3⟩=audT ⟨e,st,0,0,0⟩↔m1=0∧m2=0∧m3=0:=
  ⟨audT_inj,fun h=>by rw [h.1,h.2.1,h.2.2]⟩
 refine ⟨fun _=>⟨by simp,fun q3 g3=>⟨by simp,fun q4 g4=>?_⟩⟩,fun c=>?_⟩
 ·cases Option.some.inj g3
  cases Option.some.inj g4
  rw [str_eq]
  refine ⟨fun _=>trivial,fun c=>⟨fun _=>trivial,fun d=>?_⟩⟩
  have c:audT ⟨e,st,m1,m2,m3⟩=audT ⟨e,st,0,0,0⟩:=by simpa using c
  obtain ⟨rfl,rfl,rfl⟩:=key.mp c
  simp [clnA] at d
 ·exfalso
  have c:(decide (audT ⟨e,st,m1,m2,m3⟩=audT ⟨e,st,0,0,0⟩)==(e==e && (st==st && (m1==0 && (m2==0 && (m3==0 && true))))))=false:=c
  by_cases h:m1=0∧m2=0∧m3=0
  ·obtain ⟨rfl,rfl,rfl⟩:=h
   simp at c
  ·rw [decide_eq_false (fun q=>h (key.mp q))] at c
   simp at c
   exact h ⟨c.1,c.2.1,c.2.2⟩
def differs_c(t:(List Int)):PC Tryd.prog:=⟨3,[(.s 1)],[.sl 1 (t.map AV.int) false],differs_e true,PSpec.of_ok fun ok=>(differs_p t ok).elim fun I5 h=>mxP_of (sh:=.k) (enc:=differs_e) (a:=(differs_x t I5).an) h (by kernel_rfl) (AV.pureB_ok rfl),fnB_ok (by kernel_rfl)⟩
end Go.Proofs.YthhpaedpnjdnbaaDoor
