/- Texts joined: D1 D2 D3 D4 V2 U1 GW D5 E0 E1 E2 E3 GB E4 D6 E5. -/
import Derived.Test.YthhpaedpnjdnbaaDoorQY4
set_option linter.unusedVariables false
set_option linter.unusedSimpArgs false
namespace Go.Proofs.YthhpaedpnjdnbaaDoor
open Go Go.Am
def hopLt(y x:Hop):Bool:=decide (y.a<x.a) || (y.a==x.a && decide (y.b<x.b))
def putHP(l:List Hop)(x:Hop):Nat:=l.findIdx fun y=>!hopLt y x
def putH(l:List Hop)(x:Hop):List Hop:=insAt l (putHP l x) x
def hopG(l:List Hop)(x:Hop)(k:Nat):Bool:=match l[k]? with|some y=>hopLt y x|none=>false
theorem putHP_eq{l:List Hop}{x:Hop}{k:Nat}(h:∀j y,j<k→l[j]?=some y→hopLt y x=true)(hk:k≤l.length)(h2:k=l.length∨∃y,l[k]?=some y∧hopLt y x=false):putHP l x=k:=by
 have hle:putHP l x≤l.length:=List.findIdx_le_length
 rcases Nat.lt_trichotomy (putHP l x) k with g|g|g
 ·have hl:putHP l x<l.length:=by omega
  have:=List.findIdx_getElem (p:=fun y=>!hopLt y x) (xs:=l) (w:=hl)
  have e:=h _ _ g (List.getElem?_eq_getElem hl)
  simp only [putHP] at e this
  simp only [Bool.not_eq_true'] at this
  exact absurd (e.symm.trans this) (by simp)
 ·exact g
 ·rcases h2 with h2|⟨y,hy,hn⟩
  ·omega
  ·have:=List.not_of_lt_findIdx g
   rw [List.getElem?_eq_getElem (lt_of_get hy)] at hy
   rw [Option.some.inj hy,hn] at this
   simp at this
theorem insAt_eqG{α:Type}{l:List α}{k:Nat}{x:α}:((l.take k).drop 0)++([x]++((l.take ((l.length:Int).toNat)).drop k))=insAt l k x:=by
 rw [Int.toNat_natCast,List.take_length,List.drop_zero,insAt,List.append_assoc]
def putH_a(l:(List Hop))(h_:Hop):Prop:=okL [.sl 2 (l.map Hop.v) false,.agg [.int h_.a,.int h_.b]]
abbrev putH_v0(l:(List Hop)):=(l.take ((l.length:Int).toNat))
def putH_n0(l:(List Hop))(h_:Hop)(t0:Int):NF:=⟨[(0,.k,.sl 2 (l.map Hop.v) false),(3,.k,.ref 0 0),(5,.k,.int t0)],[.box (.agg [.int h_.a,.int h_.b])]⟩
def putH_n1(l:(List Hop))(h_:Hop)(t0:Int)(t1:Bool):NF:=⟨[(0,.k,.sl 2 (l.map Hop.v) false),(3,.k,.ref 0 0),(5,.k,.int t0),(40,.k,.bool t1)],[.box (.agg [.int h_.a,.int h_.b])]⟩
@[reducible] def putH_s:Nat→Type
 | 0=>Int
 | 1=>Bool
 | _=>Unit
def putH_e(r:(List Hop)):AV:=.sl 2 (r.map Hop.v) false
def putH_x(l:(List Hop))(h_:Hop)(I0:Int→Prop)(m0:Int→Nat)(I1:Int→Bool→Prop):Ax Tryd.prog putH_s ((List Hop)):=
 (.loop 0 (putH_n0 l h_) I0 m0 ((0):Int) [0] fun (t0:Int) b0 =>
(.pass (.join 1 (putH_n1 l h_ t0) (fun (t1:Bool)=>I1 t0 t1) (fun b1=>(.br 81 (decide (t0<((l.map Hop.v).length:Int))) (.el 113 Hop.v l (fun R=>Rf (l.map Hop.v) (ck (decide (0≤t0)) (ck (decide (t0<(l.length:Int)))
(∀x1,l[t0.toNat]?=some x1 →
(R x1))))) fun x1 =>
(.br 225 (decide (x1.a<h_.a)) (.bk 1 b1 ((true):Bool) [0])
(.el 257 Hop.v l (fun R=>Rf (l.map Hop.v) (ck (decide (0≤t0)) (ck (decide (t0<(l.length:Int)))
(∀x2,l[t0.toNat]?=some x2 →
(R x2))))) fun x2 =>
(.br 369 (x2.a==h_.a) (.el 401 Hop.v l (fun R=>Rf (l.map Hop.v) (ck (decide (0≤t0)) (ck (decide (t0<(l.length:Int)))
(∀x3,l[t0.toNat]?=some x3 →
(R x3))))) fun x3 =>
(.bk 1 b1 ((decide (x3.b<h_.b)):Bool) [0]))
(.bk 1 b1 ((false):Bool) [0])))))
(.bk 1 b1 ((false):Bool) [0]))) fun (t1:Bool) =>
(.br 1 t1 (.bk 0 b0 ((W (t0+1)):Int) [0])
(.own 17 (.say (fun R=>Rf (α:=List AV) (l.map Hop.v) (ck (bndB l.length t0 (l.length:Int) (l.length:Int))
R)) (.sub 65 Hop.v l false
(.say (fun R=>Rf (α:=List AV) [.agg [.int h_.a,.int h_.b]] (Rf (α:=List AV) (((putH_v0 l).drop t0.toNat).map Hop.v)
(ck (decide ([h_].length+((putH_v0 l).drop t0.toNat).length≤1048576))
R))) (.app 81 Hop.v [h_] ((putH_v0 l).drop t0.toNat)
(.say (fun R=>Rf (α:=List AV) (l.map Hop.v) (ck (bndB l.length 0 t0 t0)
R)) (.sub 161 Hop.v l true
(.say (fun R=>ck (decide (t0=t0))
((Rf (α:=List AV) (((l.take t0.toNat).drop 0).map Hop.v) (Rf (α:=List AV) (([h_]++((putH_v0 l).drop t0.toNat)).map Hop.v)
(ck (decide (0<([h_]++((putH_v0 l).drop t0.toNat)).length))
R))))) (.appF 193 Hop.v ((l.take t0.toNat).drop 0) ([h_]++((putH_v0 l).drop t0.toNat))
(.say (fun R=>ck (decide (((l.take t0.toNat).drop 0).length+([h_]++((putH_v0 l).drop t0.toNat)).length≤1048576))
((Rf ((((l.take t0.toNat).drop 0)++([h_]++((putH_v0 l).drop t0.toNat))).map Hop.v) R))) (.cmdL (.frzE 193 ((((l.take t0.toNat).drop 0)++([h_]++((putH_v0 l).drop t0.toNat))).map Hop.v) (pureBL_map (fun _=>rfl) (((l.take t0.toNat).drop 0)++([h_]++((putH_v0 l).drop t0.toNat))))) (.ret (((l.take t0.toNat).drop 0)++([h_]++((putH_v0 l).drop t0.toNat)))))))))))))))))))
def putH_vc(l:(List Hop))(h_:Hop)(I0:Int→Prop)(m0:Int→Nat)(I1:Int→Bool→Prop)(r0:(List Hop)):Prop:=(putH_x l h_ I0 m0 I1).vp putH_e r0
theorem putH_p(l:List Hop)(x:Hop)(hl:l.length≤100000)(ok:putH_a l x):∃I m J,putH_vc l x I m J (putH l x):=by
 refine ⟨fun t=>∃k:Nat,t=k∧k≤l.length∧∀j y,j<k→l[j]?=some y→hopLt y x=true,fun t=>l.length-t.toNat,fun t b=>∀k:Nat,t=k→b=hopG l x k,?_⟩
 dsimp only [putH_vc,putH_x,putH_s,putH_v0,Ax.vp,Ax.vc];simp only [vcU,rfU,List.length_map]
 refine ⟨⟨0,rfl,by omega,fun j y h=>by omega⟩,?_⟩
 rintro _ ⟨k,rfl,hk,h⟩
 simp only [Int.toNat_natCast]
 refine ⟨⟨fun h1=>⟨by omega,by omega,fun y hy=>⟨fun c=>?_,fun c=>⟨by omega,by omega,fun y2 hy2=>⟨fun c2=>⟨by omega,by omega,fun y3 hy3=>?_⟩,fun c2=>?_⟩⟩⟩⟩,fun h1=>?_⟩,?_⟩
 ·intro k' e;have e:k=k':=by omega
  subst e
  simp [hopG,hy,hopLt,c]
 ·intro k' e;have e:k=k':=by omega
  subst e
  rw [hy] at hy2 hy3;cases hy2;cases hy3
  simp [hopG,hy,hopLt,c,c2]
 ·intro k' e;have e:k=k':=by omega
  subst e
  rw [hy] at hy2;cases hy2
  simp [hopG,hy,hopLt,c,c2]
 ·intro k' e;have e:k=k':=by omega
  subst e
  rw [hopG,List.getElem?_eq_none (by omega)]
 ·intro b hb
  have hb:=hb k rfl
  refine ⟨fun e=>?_,fun e=>?_⟩
  ·rw [hb] at e
   have hkl:k<l.length:=by
    refine Classical.byContradiction fun hh=>?_
    rw [hopG,List.getElem?_eq_none (by omega)] at e;simp at e
   rw [W_succ (n:=l.length) (by omega) (by omega)]
   refine ⟨⟨k+1,rfl,by omega,fun j z hj hz=>?_⟩,by omega⟩
   by_cases e':j=k
   ·subst e';rw [hopG,hz] at e;exact e
   ·exact h j z (by omega) hz
  ·rw [hb] at e
   have hq:=putHP_eq h hk (by
    by_cases hkl:k<l.length
    ·refine .inr ⟨l[k],List.getElem?_eq_getElem hkl,?_⟩
     rw [hopG,List.getElem?_eq_getElem hkl] at e;exact e
    ·exact .inl (by omega))
   have e1:(List.take l.length l)=l:=List.take_length
   refine ⟨by simp [bndB];omega,by simp;omega,by simp [bndB];omega,trivial,by simp,by simp;omega,?_⟩
   have:=insAt_eqG (l:=l) (k:=k) (x:=x)
   rw [Int.toNat_natCast] at this
   rw [this,putH,hq]
def putH_c(l:(List Hop))(h_:Hop)(hl:l.length≤100000):PC Tryd.prog:=⟨42,[(.s 2),.k],[.sl 2 (l.map Hop.v) false,.agg [.int h_.a,.int h_.b]],putH_e (putH l h_),PSpec.of_ok fun ok=>(putH_p l h_ hl ok).elim fun I0 h=>h.elim fun m0 h=>h.elim fun I1 h=>mxP_of (sh:=(.s 2)) (enc:=putH_e) (a:=(putH_x l h_ I0 m0 I1).an) h (by kernel_rfl) (AV.pureB_ok rfl),fnB_ok (by kernel_rfl)⟩
theorem putH_len(l:List Hop)(x:Hop):(putH l x).length=l.length+1:=by
 have:putHP l x≤l.length:=List.findIdx_le_length
 unfold putH insAt;simp;omega
theorem pureBLs_int(l:List Int):pureBLs [l.map AV.int]=true:=by rw [pureBLs,pureBL_map (fun _=>rfl) _];rfl
def treH(ins:List Int)(l:Lnk):Hop:=if InI ins l.b then ⟨l.b,l.a⟩ else ⟨l.a,l.b⟩
def treG(L:List Int)(ls:List Lnk):Nat→List Int→Tre→Nat→Tre×Nat
 | 0,_,t,p=>(t,p)
 | i+1,ins,t,p =>
  let h:=treH ins (ls.getD (Mod (rawV L p) ls.length).toNat ⟨0,0,0,0,0⟩)
  if InI ins h.a && !InI ins h.b then treG L ls i (ins++[h.b]) ⟨t.root,putH t.ls h⟩ (rawP L p) else treG L ls i ins t (rawP L p)
def treN(L:List Int)(p:Nat)(a:Tpl)(root:Int):Tre×Nat:=treG L a.ls (Mod (rawV L p) (2 * a.ls.length+1)).toNat [root] ⟨root,[]⟩ (rawP L p)
def treN_a(L:(List Int))(p:Nat)(a1:Tpl)(root:Int):Prop:=okL [.ref 0 0,.agg [.sl 2 (a1.rs.map Rtr.v) false,.sl 5 (a1.ls.map Lnk.v) false],.int root]∧(.box (.agg [.sl 1 (L.map AV.int) false,.int ((p:Nat):Int)]):Blk).ok
def treN_n0(L:(List Int))(a1:Tpl)(t0:Int×(List Int)×Tre×Nat):NF:=⟨[(0,.k,.ref 0 0),(4,.k,.ref 1 0),(6,.k,.ref 2 0),(7,.k,.ref 3 0),(8,.k,.vec 4),(9,.k,.int t0.1)],[.box (.agg [.sl 1 (L.map AV.int) false,.int ((t0.2.2.2:Nat):Int)]),.box (.agg [.sl 2 (a1.rs.map Rtr.v) false,.sl 5 (a1.ls.map Lnk.v) false]),.box (.agg [.int 0,.sl 0 [] true]),.box (.agg [.int t0.2.2.1.root,.sl 2 (t0.2.2.1.ls.map Hop.v) false]),.vec 1 (t0.2.1.map AV.int) (pureBL_map (fun _=>rfl) t0.2.1)]⟩
def treN_n1(L:(List Int))(a1:Tpl)(t0:Int×(List Int)×Tre×Nat)(t1:Hop):NF:=⟨[(0,.k,.ref 0 0),(4,.k,.ref 1 0),(6,.k,.ref 2 0),(7,.k,.ref 3 0),(8,.k,.vec 4),(9,.k,.int t0.1),(11,.k,.ref 5 0)],[.box (.agg [.sl 1 (L.map AV.int) false,.int (((rawP L t0.2.2.2):Nat):Int)]),.box (.agg [.sl 2 (a1.rs.map Rtr.v) false,.sl 5 (a1.ls.map Lnk.v) false]),.box (.agg [.int 0,.sl 0 [] true]),.box (.agg [.int t0.2.2.1.root,.sl 2 (t0.2.2.1.ls.map Hop.v) false]),.vec 1 (t0.2.1.map AV.int) (pureBL_map (fun _=>rfl) t0.2.1),.box (.agg [.int t1.a,.int t1.b])]⟩
def treN_n2(L:(List Int))(a1:Tpl)(t0:Int×(List Int)×Tre×Nat)(t1:Hop)(t2:Bool):NF:=⟨[(0,.k,.ref 0 0),(4,.k,.ref 1 0),(6,.k,.ref 2 0),(7,.k,.ref 3 0),(8,.k,.vec 4),(9,.k,.int t0.1),(11,.k,.ref 5 0),(60,.k,.bool t2)],[.box (.agg [.sl 1 (L.map AV.int) false,.int (((rawP L t0.2.2.2):Nat):Int)]),.box (.agg [.sl 2 (a1.rs.map Rtr.v) false,.sl 5 (a1.ls.map Lnk.v) false]),.box (.agg [.int 0,.sl 0 [] true]),.box (.agg [.int t0.2.2.1.root,.sl 2 (t0.2.2.1.ls.map Hop.v) false]),.vec 1 (t0.2.1.map AV.int) (pureBL_map (fun _=>rfl) t0.2.1),.box (.agg [.int t1.a,.int t1.b])]⟩
@[reducible] def treN_s:Nat→Type
 | 0=>Int×(List Int)×Tre×Nat
 | 1=>Hop
 | 2=>Bool
 | _=>Unit
def treN_e(r:Tap×Tre):AV:=.agg [.int r.2.root,.sl 2 (r.2.ls.map Hop.v) false]
def treN_b(r:Tap×Tre):List (Option Blk):=[some (.box (.agg [.sl 1 (r.1.L.map AV.int) false,.int ((r.1.p:Nat):Int)]))]
def treN_x(L:(List Int))(p:Nat)(a1:Tpl)(root:Int)(I0:(Int×(List Int)×Tre×Nat)→Prop)(m0:(Int×(List Int)×Tre×Nat)→Nat)(I1:Int×(List Int)×Tre×Nat→Lnk→Hop→Prop)(I2:Int×(List Int)×Tre×Nat→Lnk→Hop→Bool→Prop):Ax Tryd.prog treN_s (Tap×Tre):=
 (.own 113 (.callH [0] (N_h L p (W ((W (2 * ((a1.ls.map Lnk.v).length:Int)))+1))) 241
(.cmdL (.wkB 65 (.a [.k,.s 2])) (.loop 0 (treN_n0 L a1) I0 m0 (Mod (rawV L p) (W ((W (2 * ((a1.ls.map Lnk.v).length:Int)))+1)),[root],(⟨root,[]⟩:Tre),rawP L p) [0,1,17,65,113] fun (t0:Int×(List Int)×Tre×Nat) b0 =>
(.br 37 (decide (0<t0.1)) (.callH [0] (N_h L t0.2.2.2 ((a1.ls.map Lnk.v).length:Int)) 133
(.el 149 Lnk.v a1.ls (fun R=>Rf (a1.ls.map Lnk.v) (ck (decide (0≤(Mod (rawV L t0.2.2.2) ((a1.ls.map Lnk.v).length:Int)))) (ck (decide ((Mod (rawV L t0.2.2.2) ((a1.ls.map Lnk.v).length:Int))<(a1.ls.length:Int)))
(∀x1,a1.ls[(Mod (rawV L t0.2.2.2) ((a1.ls.map Lnk.v).length:Int)).toNat]?=some x1 →
(R x1))))) fun x1 =>
(.pass (.join 1 (treN_n1 L a1 t0) (fun (t1:Hop)=>I1 t0 x1 t1) (fun b1=>(.callP (InI_c t0.2.1 x1.b)
(.say (ck (pureBLs [(t0.2.1.map AV.int)])) (.br 389 (InI t0.2.1 x1.b) (.bk 1 b1 (((⟨x1.b,x1.a⟩:Hop)):Hop) [0,1,2,3,4,293])
(.bk 1 b1 (((⟨x1.a,x1.b⟩:Hop)):Hop) [0,1,2,3,4,293]))))) fun (t1:Hop) =>
(.join 2 (treN_n2 L a1 t0 t1) (fun (t2:Bool)=>I2 t0 x1 t1 t2) (fun b2=>(.callP (InI_c t0.2.1 t1.a)
(.say (ck (pureBLs [(t0.2.1.map AV.int)])) (.br 86 (InI t0.2.1 t1.a) (.callP (InI_c t0.2.1 t1.b)
(.say (ck (pureBLs [(t0.2.1.map AV.int)])) (.bk 2 b2 ((!(InI t0.2.1 t1.b)):Bool) [0,1,2,3,4,5])))
(.bk 2 b2 ((false):Bool) [0,1,2,3,4,5]))))) fun (t2:Bool) =>
(.br 6 t2 (.own 54 (.say (fun R=>Rf (α:=List AV) (t0.2.1.map AV.int) (Rf (α:=List AV) [.int t1.b]
(ck (decide (t0.2.1.length+1≤1048576))
R))) (.app 70 AV.int t0.2.1 [t1.b]
(.req 150 (t0.2.2.1.ls.length≤100000) fun h2 =>
(.callP (putH_c t0.2.2.1.ls t1 h2)
(.bk 0 b0 (W (t0.1-1),t0.2.1++[t1.b],(⟨t0.2.2.1.root,putH t0.2.2.1.ls t1⟩:Tre),rawP L t0.2.2.2) [0,1,2,3,70]))))))
(.bk 0 b0 (W (t0.1-1),t0.2.1,t0.2.2.1,rawP L t0.2.2.2) [0,1,2,3,4])))))))
(.retH ((⟨L,t0.2.2.2⟩:Tap),t0.2.2.1) ⟨[(6,.k,.ref 1 0)],[.box (.agg [.sl 1 (L.map AV.int) false,.int ((t0.2.2.2:Nat):Int)]),.box (.agg [.int t0.2.2.1.root,.sl 2 (t0.2.2.1.ls.map Hop.v) false])]⟩ [0,2]))))))
def treN_vc(L:(List Int))(p:Nat)(a1:Tpl)(root:Int)(I0:(Int×(List Int)×Tre×Nat)→Prop)(m0:(Int×(List Int)×Tre×Nat)→Nat)(I1:Int×(List Int)×Tre×Nat→Lnk→Hop→Prop)(I2:Int×(List Int)×Tre×Nat→Lnk→Hop→Bool→Prop)(r0:Tap×Tre):Prop:=(treN_x L p a1 root I0 m0 I1 I2).vc treN_e treN_b r0
theorem treN_p(L:List Int)(p:Nat)(a:Tpl)(root:Int)(hl:a.ls.length≤10000)(ok:treN_a L p a root):∃I m J K,treN_vc L p a root I m J K ((⟨L,(treN L p a root).2⟩:Tap),(treN L p a root).1):=by
 refine ⟨fun t=>∃i:Nat,t.1=i∧treG L a.ls i t.2.1 t.2.2.1 t.2.2.2=treN L p a root∧i+t.2.1.length≤30000∧t.2.2.1.ls.length+i≤20000∧i≤2 * a.ls.length,fun t=>t.1.toNat,fun t l h=>h=treH t.2.1 l,fun t l h b=>b=(InI t.2.1 h.a && !InI t.2.1 h.b),?_⟩
 dsimp only [treN_vc,treN_x,treN_s,Ax.vp,Ax.vc];simp only [vcU,rfU,List.length_map]
 have hm:=Mod_range (x:=rawV L p) (show 1≤2 * (a.ls.length:Int)+1 by omega)
 have w1:W (2 * (a.ls.length:Int))=2 * (a.ls.length:Int):=W_eq (by omega)
 rw [w1,W_eq (by omega)]
 refine ⟨⟨(Mod (rawV L p) (2 * a.ls.length+1)).toNat,by omega,rfl,by simp;omega,by simp;omega,by omega⟩,?_⟩
 rintro ⟨i,ins,t,q⟩ ⟨k,hi,he,h1,h2,h3⟩
 simp only at hi he h1 h2 h3 ⊢
 subst hi
 refine ⟨fun c=>?_,fun c=>?_⟩
 ·obtain ⟨k,rfl⟩:∃j,k=j+1:=⟨k-1,by omega⟩
  have hr:=Mod_range (x:=rawV L q) (show 1≤(a.ls.length:Int) by omega)
  have w:W (((k+1:Nat):Int)-1)=(k:Int):=by rw [W_eq (by omega)];omega
  rw [w]
  refine ⟨by omega,by omega,fun x hx=>⟨⟨pureBLs_int _,fun c=>by rw [treH,if_pos c],fun c=>by rw [treH,if_neg (by simp [c])]⟩,?_⟩⟩
  rintro _ rfl
  refine ⟨⟨pureBLs_int _,fun c=>⟨pureBLs_int _,by rw [c];simp⟩,fun c=>by rw [c];simp⟩,?_⟩
  rw [treG] at he
  have hg:a.ls.getD (Mod (rawV L q) a.ls.length).toNat ⟨0,0,0,0,0⟩=x:=by rw [List.getD_eq_getElem?_getD,hx];rfl
  rw [hg] at he
  rintro _ rfl
  refine ⟨fun c=>?_,fun c=>?_⟩
  ·rw [if_pos c] at he
   have hpl:=putH_len t.ls (treH ins x)
   refine ⟨by omega,by omega,⟨k,rfl,he,by simp;omega,by omega,by omega⟩,by omega⟩
  ·rw [if_neg (by simp [c])] at he
   exact ⟨⟨k,rfl,he,by omega,by omega,by omega⟩,by omega⟩
 ·have:k=0:=by omega
  subst this
  rw [treG] at he
  rw [←he]
def treN_h(L:(List Int))(p:Nat)(a1:Tpl)(root:Int)(hl:a1.ls.length≤10000):HC Tryd.prog:=⟨11,[.k,(.a [(.s 2),(.s 5)]),.k],[.ref 0 0,.agg [.sl 2 (a1.rs.map Rtr.v) false,.sl 5 (a1.ls.map Lnk.v) false],.int root],[.box (.agg [.sl 1 (L.map AV.int) false,.int ((p:Nat):Int)])],treN_e ((⟨L,(treN L p a1 root).2⟩:Tap),(treN L p a1 root).1),treN_b ((⟨L,(treN L p a1 root).2⟩:Tap),(treN L p a1 root).1),HSpec.of_okh fun ok ok2=>have ok:treN_a L p a1 root:=⟨ok,ok2 _ (by simp)⟩;(treN_p L p a1 root hl ok).elim fun I0 h=>h.elim fun m0 h=>h.elim fun I1 h=>h.elim fun I2 h=>mxH_of (sh:=(.a [.k,(.s 2)])) (enc:=treN_e) (hB:=treN_b) (a:=(treN_x L p a1 root I0 m0 I1 I2).an) h (by kernel_rfl),fnB_ok (by kernel_rfl),HcOk.of (by simp [hcB,belBL,AV.belB,allB,okBk,okBkO,treN_e,treN_b,pureBL_map (v:=AV.int) (fun _=>rfl),pureBL_map (v:=Lnk.v) (fun _=>rfl),pureBL_map (v:=Rtr.v) (fun _=>rfl)])⟩
theorem treG_len{L:List Int}{ls:List Lnk}:∀{i:Nat} {ins:List Int} {t:Tre} {p:Nat},(treG L ls i ins t p).1.ls.length≤t.ls.length+i
 | 0,_,_,_=>by simp [treG]
 | i+1,ins,t,p=>by
  rw [treG]
  split
  ·refine Nat.le_trans treG_len ?_
   simp only [putH_len];omega
  ·refine Nat.le_trans treG_len ?_
   omega
theorem treN_len{L:List Int}{p:Nat}{a:Tpl}{root:Int}:(treN L p a root).1.ls.length≤2 * a.ls.length:=by
 have hm:=Mod_range (x:=rawV L p) (show 1≤2 * (a.ls.length:Int)+1 by omega)
 refine Nat.le_trans treG_len ?_
 simp;omega
theorem lnk1_len{L:List Int}{rs:List Rtr}{flat:Bool}{a:Nat}:∀{r:List Bool} {b:Nat} {ls:List Lnk} {p:Nat},(lnk1 L rs flat a r b ls p).1.length≤ls.length+r.length
 | [],_,_,_=>by simp [lnk1]
 | t::r,b,ls,p=>by
  rw [lnk1]
  split
  ·refine Nat.le_trans lnk1_len ?_
   simp;omega
  ·refine Nat.le_trans lnk1_len ?_
   simp only [List.length_cons];omega
theorem lnk2_len{L:List Int}{rs:List Rtr}{flat:Bool}{n:Nat}:∀{M:List (List Bool)} {a:Nat} {ls:List Lnk} {p:Nat},(∀r∈M,r.length=n)→(lnk2 L rs flat M a ls p).1.length≤ls.length+M.length * n
 | [],_,_,_,_=>by simp [lnk2]
 | r::M,a,ls,p,h=>by
  rw [lnk2]
  refine Nat.le_trans (lnk2_len (n:=n) fun r hr=>h r (by simp [hr])) ?_
  have:=lnk1_len (L:=L) (rs:=rs) (flat:=flat) (a:=a) (r:=r) (b:=0) (ls:=ls) (p:=p)
  have:=h r (by simp)
  rw [List.length_cons,Nat.succ_mul];omega
theorem topoT_ls{L:List Int}{p:Nat}{most:Int}(hm:1≤most∧most≤100):((topoT L p most).1.ls.length:Int)≤most * most:=by
 have hr:=rng_in (L:=L) (p:=p) (lo:=1) (hi:=most) (by omega)
 have hM:=topoM_sq L (rng L p 1 most).toNat (topoR L p most).2
 have:=lnk2_len (L:=L) (rs:=(topoR L p most).1) (flat:=Mod (rawV L (topoM L (rng L p 1 most).toNat (topoR L p most).2).2) 3==0) (a:=0) (ls:=[]) (p:=rawP L (topoM L (rng L p 1 most).toNat (topoR L p most).2).2) (fun r hr=>hM.2 r hr)
 rw [hM.1] at this
 show (((lnk2 _ _ _ _ _ _ _).1.length:Nat):Int)≤_
 generalize (lnk2 _ _ _ _ _ _ _).1.length=x at *
 simp only [List.length_nil,Nat.zero_add] at this
 obtain ⟨n,hn⟩:∃n:Nat,rng L p 1 most=n:=⟨(rng L p 1 most).toNat,by omega⟩
 rw [hn] at hr this
 simp only [Int.toNat_natCast] at this
 have h2:(n:Int) * n≤most * most:=Int.mul_le_mul hr.2 hr.2 (by omega) (by omega)
 have h3:((n * n:Nat):Int)=(n:Int) * n:=by simp
 omega
theorem joinTail_cons(sep x:List UInt8)(l:List (List UInt8)):Lib.joinTail sep (x::l)=sep++(x++Lib.joinTail sep l):=by simp [Lib.joinTail]
def listL(l:List Int):List UInt8:=if l=[] then [46] else Lib.join (l.map Lib.itoa) [44]
theorem joinB_eq(l:List (List UInt8))(sep:List UInt8):joinB (l.map B) (B sep)=B (Lib.join l sep):=by
 rw [joinB,List.map_map]
 show B (Lib.join (l.map fun x=>x) sep)=_
 rw [List.map_id']
theorem listT_eq(l:List Int):listT l=B (listL l):=by
 unfold listT listL
 split
 ·rfl
 ·rw [←joinB_eq,List.map_map];rfl
def fltL(f:Flt):List UInt8:=
 if f.mode=1 then (if f.srcs=[] then [110,111,116,104,105,110,103] else [111,110,108,121,32]++listL f.srcs)
 else if f.mode=2 then (if f.srcs=[] then [97,108,108] else [97,108,108,32,98,117,116,32]++listL f.srcs)
 else [63]
theorem fltT_eq(f:Flt):fltT f=B (fltL f):=by
 unfold fltT fltL
 simp only [listT_eq,B_app]
 split
 ·split<;>rfl
 ·split
  ·split<;>rfl
  ·rfl
def okM(m:Int):Prop:=m=1∨m=2
def wntL(w:Wnt):List UInt8:=Lib.itoa w.grp++61::fltL ⟨w.mode,w.srcs⟩
def wntsL(l:List Wnt):List UInt8:=if l=[] then [46] else Lib.join (l.map wntL) [59,32]
theorem wntT_eq(w:Wnt):wntT w=B (wntL w):=by
 rw [wntT,wntL,fltT_eq,itoa,B_app,B_app,List.append_assoc];rfl
theorem wntsT_eq(l:List Wnt):wntsT l=B (wntsL l):=by
 unfold wntsT wntsL
 split
 ·rfl
 ·rw [←joinB_eq,List.map_map]
  congr 1
  exact List.map_congr_left fun w _=>wntT_eq w
def hopL(h:Hop):List UInt8:=Lib.itoa h.a++45::Lib.itoa h.b
theorem hopT_eq(h:Hop):hopT h.a h.b=B (hopL h):=by
 rw [hopT,hopL,itoa,itoa,B_app,B_app,List.append_assoc];rfl
theorem treF_eq:∀{l:List Hop} {o:List UInt8},l.foldl (fun o h=>o++(B [32]++hopT h.a h.b)) (B o)=B (o++Lib.joinTail [32] (l.map hopL))
 | [],o=>by simp [Lib.joinTail]
 | h::l,o=>by
  rw [List.foldl_cons,hopT_eq,B_app,B_app,treF_eq,List.map_cons,joinTail_cons]
  simp [List.append_assoc]
theorem treT_eq(t:Tre):treT t=B (Lib.itoa t.root++Lib.joinTail [32] (t.ls.map hopL)):=treF_eq
theorem words_eq(l:List Anyv):words l=B (Lib.join (l.map fun x=>x.txt.data.toList) [32]):=by
 rw [words,joinB,List.map_map];rfl
theorem itmsOk.mono{n m:Int}{l:List Itm}(h:itmsOk n l)(hm:n≤m):itmsOk m l:=
 ⟨fun x hx=>by obtain ⟨⟨a,b⟩,c⟩:=h.1 x hx;exact ⟨⟨a,by omega⟩,c⟩,h.2⟩
theorem Nodup.grp{l:List Itm}(h:(l.map Itm.grp).Nodup){x y:Itm}(hx:x∈l)(hy:y∈l)(e:x.grp=y.grp):x=y:=by
 induction l with
 | nil=>simp at hx
 | cons z l ih =>
  simp only [List.map_cons,List.nodup_cons] at h
  rcases List.mem_cons.mp hx with h1|h1
  ·rcases List.mem_cons.mp hy with h2|h2
   ·rw [h1,h2]
   ·exact absurd (List.mem_map.mpr ⟨y,h2,by rw [←e,h1]⟩) h.1
  ·rcases List.mem_cons.mp hy with h2|h2
   ·exact absurd (List.mem_map.mpr ⟨x,h1,by rw [e,h2]⟩) h.1
   ·exact ih h.2 h1 h2
structure Adv (n:Int) (l:List Itm) (m:Int) (k:List Itm):Prop where
  le:n≤m
  old:∀z∈k,z∈l∨n<z.ver
  grp:∀z∈l,∃y∈k,y.grp=z.grp
theorem Adv.refl(n:Int)(l:List Itm):Adv n l n l:=⟨Int.le_refl _,fun _ h=>.inl h,fun z h=>⟨z,h,rfl⟩⟩
def wNew(L:List Int)(p:Nat)(g:Int)(out:List Wnt):List Wnt:=
 if Mod (rawV L (filterT L p).2) 2=0∧((filterT L p).1.mode=2∨(filterT L p).1.srcs≠[]) then out++[⟨g,(filterT L p).1.mode,(filterT L p).1.srcs⟩] else out
def wPos(L:List Int)(p:Nat):Nat:=rawP L (filterT L p).2
def wantsL(L:List Int):Nat→Int→List Wnt→Nat→List Wnt×Nat
 | 0,_,out,p=>(out,p)
 | n+1,g,out,p=>wantsL L n (g+1) (wNew L p g out) (wPos L p)
def wantsT(L:List Int)(p:Nat):List Wnt×Nat:=wantsL L 6 1 [] p
structure WOk (g:Int) (out:List Wnt):Prop where
  rng:∀w∈out,1≤w.grp∧w.grp<g
  flt:∀w∈out,fltErr w.mode w.srcs=0
  no:∀w∈out,¬isNoW w
  asc:out.Pairwise fun x y=>x.grp<y.grp
  len:out.length+1≤g
theorem WOk.new{L:List Int}{p:Nat}{g:Int}{out:List Wnt}(h:WOk g out)(hg:1≤g):WOk (g+1) (wNew L p g out):=by
 unfold wNew
 have hf:=filterT_in L p
 split
 ·rename_i c
  refine ⟨fun w hw=>?_,fun w hw=>?_,fun w hw=>?_,List.pairwise_append.mpr ⟨h.asc,List.pairwise_singleton _ _,fun a ha b hb=>?_⟩,?_⟩
  ·rcases List.mem_append.mp hw with hw|hw
   ·have:=h.rng w hw;omega
   ·rw [List.mem_singleton] at hw;subst hw;exact ⟨hg,by simp only;omega⟩
  ·rcases List.mem_append.mp hw with hw|hw
   ·exact h.flt w hw
   ·rw [List.mem_singleton] at hw;subst hw;exact hf
  ·rcases List.mem_append.mp hw with hw|hw
   ·exact h.no w hw
   ·rw [List.mem_singleton] at hw;subst hw
    rintro ⟨e1,e2⟩
    simp only at e1 e2
    rcases c.2 with c|c
    ·omega
    ·exact c e2
  ·rw [List.mem_singleton] at hb;subst hb
   exact (h.rng a ha).2
  ·have:=h.len;simp only [List.length_append,List.length_singleton];omega
 ·exact ⟨fun w hw=>by have:=h.rng w hw;omega,h.flt,h.no,h.asc,by have:=h.len;omega⟩
theorem wantsL_ok{L:List Int}:∀(n:Nat) {g:Int} {out:List Wnt} {p:Nat},WOk g out→1≤g→WOk (g+n) (wantsL L n g out p).1
 | 0,g,out,p,h,_=>by simpa [wantsL] using h
 | n+1,g,out,p,h,hg=>by
  have:=wantsL_ok (L:=L) n (p:=wPos L p) (h.new (L:=L) (p:=p) hg) (by omega)
  rw [show g+((n+1:Nat):Int)=g+1+n by omega]
  exact this
theorem wantsT_ok(L:List Int)(p:Nat):WOk 7 (wantsT L p).1:=
 wantsL_ok (g:=1) 6 ⟨fun w hw=>by simp at hw,fun w hw=>by simp at hw,fun w hw=>by simp at hw,List.Pairwise.nil,by simp⟩ (by omega)
def findW(l:List Wnt)(g:Int):Flt:=match l.find? fun w=>decide (w.grp=g) with
 | some w=>⟨w.mode,w.srcs⟩
 | none=>⟨1,[]⟩
def chgs1(old new:List Wnt)(g:Int):List Wnt:=if findW new g=findW old g then [] else [⟨g,(findW new g).mode,(findW new g).srcs⟩]
def chgsTo(old new:List Wnt):Nat→List Wnt
 | 0=>[]
 | n+1=>chgsTo old new n++chgs1 old new (n+1)
def changes(old new:List Wnt):List Wnt×Int:=
 if wErr false old≠0 then ([],wErr false old) else if wErr false new≠0 then ([],wErr false new)
 else if 32<(chgsTo old new 99).length then ([],3) else (chgsTo old new 99,0)
def wantsTF_a(L:(List Int))(p:Nat):Prop:=okL [.ref 0 0]∧(.box (.agg [.sl 1 (L.map AV.int) false,.int ((p:Nat):Int)]):Blk).ok
def wantsTF_n0(L:(List Int))(t0:Int×Nat×(List Wnt)):NF:=⟨[(0,.k,.ref 0 0),(3,.k,.vec 1),(4,.k,.int t0.1)],[.box (.agg [.sl 1 (L.map AV.int) false,.int ((t0.2.1:Nat):Int)]),.vec 3 (t0.2.2.map Wnt.v) (pureBL_map (fun _=>rfl) t0.2.2)]⟩
@[reducible] def wantsTF_s:Nat→Type
 | 0=>Int×Nat×(List Wnt)
 | _=>Unit
def wantsTF_e(r:Tap×(List Wnt)):AV:=.sl 3 (r.2.map Wnt.v) false
def wantsTF_b(r:Tap×(List Wnt)):List (Option Blk):=[some (.box (.agg [.sl 1 (r.1.L.map AV.int) false,.int ((r.1.p:Nat):Int)]))]
def wantsTF_x(L:(List Int))(p:Nat)(I0:(Int×Nat×(List Wnt))→Prop)(m0:(Int×Nat×(List Wnt))→Nat):Ax Tryd.prog wantsTF_s (Tap×(List Wnt)):=
 (.cmdL (.nilT 3 3) (.loop 0 (wantsTF_n0 L) I0 m0 (1,p,[]) [0,49] fun (t0:Int×Nat×(List Wnt)) b0 =>
(.br 34 (decide (t0.1≤6)) (.callH [0] (filterT_h L t0.2.1) 50
(.callH [0] (N_h L ((filterT L t0.2.1).2) 2) 114
(.br 162 ((Mod (rawV L ((filterT L t0.2.1).2)) 2)==0) (.br 226 (((filterT L t0.2.1).1).mode==2) (.say (fun R=>Rf (α:=List AV) (t0.2.2.map Wnt.v) (Rf (α:=List AV) [.agg [.int t0.1,.int (((filterT L t0.2.1).1).mode),.sl 1 ((((filterT L t0.2.1).1).srcs).map AV.int) false]]
(ck (decide (t0.2.2.length+1≤1048576))
R))) (.app 402 Wnt.v t0.2.2 [(⟨t0.1,((filterT L t0.2.1).1).mode,((filterT L t0.2.1).1).srcs⟩:Wnt)]
(.bk 0 b0 (W (t0.1+1),rawP L ((filterT L t0.2.1).2),t0.2.2++[(⟨t0.1,((filterT L t0.2.1).1).mode,((filterT L t0.2.1).1).srcs⟩:Wnt)]) [0,402])))
(.br 322 (decide (0<(((((filterT L t0.2.1).1).srcs).map AV.int).length:Int))) (.say (fun R=>Rf (α:=List AV) (t0.2.2.map Wnt.v) (Rf (α:=List AV) [.agg [.int t0.1,.int (((filterT L t0.2.1).1).mode),.sl 1 ((((filterT L t0.2.1).1).srcs).map AV.int) false]]
(ck (decide (t0.2.2.length+1≤1048576))
R))) (.app 402 Wnt.v t0.2.2 [(⟨t0.1,((filterT L t0.2.1).1).mode,((filterT L t0.2.1).1).srcs⟩:Wnt)]
(.bk 0 b0 (W (t0.1+1),rawP L ((filterT L t0.2.1).2),t0.2.2++[(⟨t0.1,((filterT L t0.2.1).1).mode,((filterT L t0.2.1).1).srcs⟩:Wnt)]) [0,402])))
(.bk 0 b0 (W (t0.1+1),rawP L ((filterT L t0.2.1).2),t0.2.2) [0,1])))
(.bk 0 b0 (W (t0.1+1),rawP L ((filterT L t0.2.1).2),t0.2.2) [0,1]))))
(.say (Rf (t0.2.2.map Wnt.v)) (.cmdL (.frzE 1 (t0.2.2.map Wnt.v) (pureBL_map (fun _=>rfl) t0.2.2)) (.retH ((⟨L,t0.2.1⟩:Tap),t0.2.2) ⟨[(2,.k,.sl 3 (t0.2.2.map Wnt.v) false)],[.box (.agg [.sl 1 (L.map AV.int) false,.int ((t0.2.1:Nat):Int)])]⟩ [0]))))))
def wantsTF_vc(L:(List Int))(p:Nat)(I0:(Int×Nat×(List Wnt))→Prop)(m0:(Int×Nat×(List Wnt))→Nat)(r0:Tap×(List Wnt)):Prop:=(wantsTF_x L p I0 m0).vc wantsTF_e wantsTF_b r0
theorem wantsTF_p(L:List Int)(p:Nat)(ok:wantsTF_a L p):∃I m,wantsTF_vc L p I m (⟨L,(wantsT L p).2⟩,(wantsT L p).1):=by
 refine ⟨fun t=>∃k:Nat,t.1=((k+1:Nat):Int)∧k≤6∧wantsL L (6-k) t.1 t.2.2 t.2.1=wantsT L p∧t.2.2.length≤k,fun t=>7-t.1.toNat,?_⟩
 dsimp only [wantsTF_vc,wantsTF_x,wantsTF_s,Ax.vp,Ax.vc];simp only [vcU,rfU,List.length_map]
 refine ⟨⟨0,rfl,by omega,rfl,by simp⟩,?_⟩
 rintro ⟨_,q,out⟩ ⟨k,rfl,hk,h,hl⟩
 simp only at h hl
 refine ⟨fun h1=>?_,fun h1=>?_⟩
 ·have h1:k<6:=by simp only at h1;omega
  rw [show 6-k=(6-(k+1))+1 by omega,wantsL] at h
  simp only [W_succ (k:=k+1) (n:=7) (by omega) (by omega)]
  have hg:((k+1:Nat):Int)+1=((k+1+1:Nat):Int):=by omega
  rw [hg] at h
  have put:Mod (rawV L (filterT L q).2) 2=0∧((filterT L q).1.mode=2∨(filterT L q).1.srcs≠[]) →
    wNew L q ((k+1:Nat):Int) out=out++[⟨((k+1:Nat):Int),(filterT L q).1.mode,(filterT L q).1.srcs⟩]:=fun c=>by rw [wNew,if_pos c]
  have no:¬(Mod (rawV L (filterT L q).2) 2=0∧((filterT L q).1.mode=2∨(filterT L q).1.srcs≠[]))→wNew L q ((k+1:Nat):Int) out=out:=fun c=>by rw [wNew,if_neg c]
  refine ⟨fun c1=>⟨fun c2=>⟨by omega,⟨k+1,rfl,by omega,?_,by simp;omega⟩,by omega⟩,fun c2=>⟨fun c3=>⟨by omega,⟨k+1,rfl,by omega,?_,by simp;omega⟩,by omega⟩,fun c3=>⟨⟨k+1,rfl,by omega,?_,by omega⟩,by omega⟩⟩⟩,fun c1=>⟨⟨k+1,rfl,by omega,?_,by omega⟩,by omega⟩⟩
  ·rw [put ⟨by simpa using c1,.inl (by simpa using c2)⟩] at h;exact h
  ·rw [put ⟨by simpa using c1,.inr (fun e=>by rw [e] at c3;simp at c3)⟩] at h;exact h
  ·rw [no (fun ⟨_,e⟩=>by
    rcases e with e|e
    ·simp [e] at c2
    ·exact e (List.eq_nil_of_length_eq_zero (by omega)))] at h;exact h
  ·rw [no (fun ⟨e,_⟩=>by simp [e] at c1)] at h;exact h
 ·have h1:k=6:=by simp only at h1;omega
  subst h1
  rw [←h];rfl
def wantsT_h(L:(List Int))(p:Nat):HC Tryd.prog:=⟨8,[.k],[.ref 0 0],[.box (.agg [.sl 1 (L.map AV.int) false,.int ((p:Nat):Int)])],wantsTF_e (⟨L,(wantsT L p).2⟩,(wantsT L p).1),wantsTF_b (⟨L,(wantsT L p).2⟩,(wantsT L p).1),HSpec.of_okh fun ok ok2=>have ok:wantsTF_a L p:=⟨ok,ok2 _ (by simp)⟩;(wantsTF_p L p ok).elim fun I0 h=>h.elim fun m0 h=>mxH_of (sh:=(.s 3)) (enc:=wantsTF_e) (hB:=wantsTF_b) (a:=(wantsTF_x L p I0 m0).an) h (by kernel_rfl),fnB_ok (by kernel_rfl),HcOk.of (by simp [hcB,belBL,AV.belB,allB,okBk,okBkO,wantsTF_e,wantsTF_b,pureBL_map (v:=AV.int) (fun _=>rfl)])⟩
theorem toList_loop(b:ByteArray):∀(n i:Nat) (r:List UInt8),b.size-i=n→ByteArray.toList.loop b i r=r.reverse++b.data.toList.drop i:=by
 intro n
 induction n with
 | zero =>
  intro i r h
  rw [ByteArray.toList.loop,if_neg (by omega),List.drop_of_length_le (by rw [ba_len];omega),List.append_nil]
 | succ n ih =>
  intro i r h
  have hi:i<b.data.toList.length:=by rw [ba_len];omega
  rw [ByteArray.toList.loop,if_pos (by omega),ih _ _ (by omega),List.drop_eq_getElem_cons hi]
  have:b.get! i=b.data.toList[i]:=by
   show (b.data[i]!)=_
   rw [getElem!_pos b.data i (by rw [ba_len] at hi;exact hi)];simp
  rw [this];simp
theorem ba_list(b:ByteArray):b.toList=b.data.toList:=by
 rw [ByteArray.toList,toList_loop b _ 0 [] rfl];simp
theorem str_eq(a b:ByteArray):(a.toList==b.toList)=decide (a=b):=by
 rw [ba_list,ba_list]
 by_cases h:a=b
 ·subst h;simp
 ·rw [decide_eq_false h,beq_eq_false_iff_ne]
  intro e
  have:=congrArg B e
  rw [B_of,B_of] at this
  exact h this
def awk42_a:Prop:=okL []
def awk42_e(r:Bool):AV:=.bool r
def awk42_x:Ax Tryd.prog noS (Bool):=
 (.req 48 ((⟨2,[2,3]⟩:Flt).srcs.length≤1048576) fun h1 =>
(.callP (fltT_c (⟨2,[2,3]⟩:Flt) h1)
(.br 96 ((fltT (⟨2,[2,3]⟩:Flt)).toList==(B [97,108,108,32,98,117,116,32,50,44,51]).toList) (.req 160 ((⟨1,[(⟨1,2⟩:Hop),(⟨2,3⟩:Hop)]⟩:Tre).ls.length≤1000) fun h2 =>
(.callP (treT_c (⟨1,[(⟨1,2⟩:Hop),(⟨2,3⟩:Hop)]⟩:Tre) h2)
(.ret ((treT (⟨1,[(⟨1,2⟩:Hop),(⟨2,3⟩:Hop)]⟩:Tre)).toList==(B [49,32,49,45,50,32,50,45,51]).toList))))
(.ret (false)))))
def awk42_vc(r0:Bool):Prop:=(awk42_x).vp awk42_e r0
theorem awk42_p(ok:awk42_a):awk42_vc true:=by
  dsimp only [awk42_vc,awk42_x,noS,Ax.vp,Ax.vc];simp only [vcU,rfU,List.length_map]
  have e1:fltT { mode:=2,srcs:=[2,3] }=B [97,108,108,32,98,117,116,32,50,44,51]:=by
    rw [fltT_eq];simp [fltL,listL,Lib.itoa,Lib.decDigits,Lib.join_cons,Lib.joinTail]
  have e2:treT { root:=1,ls:=[{ a:=1,b:=2 },{ a:=2,b:=3 }] }=B [49,32,49,45,50,32,50,45,51]:=by
    rw [treT_eq];simp [hopL,Lib.itoa,Lib.decDigits,Lib.joinTail]
  rw [e1,e2]
  simp
def awk42_c:PC Tryd.prog:=⟨20,[],[],awk42_e true,PSpec.of_ok fun ok=>mxP_of (sh:=.k) (enc:=awk42_e) (a:=(awk42_x).an) (awk42_p ok) (by kernel_rfl) (AV.pureB_ok rfl),fnB_ok (by kernel_rfl)⟩
end Go.Proofs.YthhpaedpnjdnbaaDoor
namespace Go.Proofs.YthhpaedpnjdnbaaDoor
open Go Go.Am Go.RowKit
def decM(n:Int):Nat:=2 * n.natAbs+(if n<0 then 1 else 0)
theorem itoa_small{n:Int}(h:0≤n∧n<10):Lib.itoa n=[UInt8.ofNat (48+n.toNat)]:=by
 rw [Lib.itoa,if_neg (by omega),Lib.decDigits,dif_pos (by omega)]
theorem itoa_big{n:Int}(h:10≤n):Lib.itoa n=Lib.itoa (n / 10)++[UInt8.ofNat (48+(n % 10).toNat)]:=by
 rw [Lib.itoa,if_neg (by omega),Lib.decDigits,dif_neg (by omega),Lib.itoa,if_neg (by omega)]
 have h1:n.toNat / 10=(n / 10).toNat:=by omega
 have h2:n.toNat % 10=(n % 10).toNat:=by omega
 rw [h1,h2]
theorem itoa_minus{n:Int}(h:n<0):Lib.itoa n=45::Lib.itoa (-n):=by
 rw [Lib.itoa,if_pos h,Lib.itoa,if_neg (by omega)]
 have:n.natAbs=(-n).toNat:=by omega
 rw [this]
theorem itoa_low{n:Int}(h:n≤-10):Lib.itoa n=Lib.itoa (n.tdiv 10)++Lib.itoa (-(n.tmod 10)):=by
 have e1:n.tdiv 10=-((-n) / 10):=by
  rw [←Int.neg_neg n,Int.neg_tdiv,Int.neg_neg,Int.tdiv_eq_ediv_of_nonneg (by omega)]
 have e2:n.tmod 10=-((-n) % 10):=by
  rw [←Int.neg_neg n,Int.neg_tmod,Int.neg_neg,Int.tmod_eq_emod_of_nonneg (by omega)]
 rw [e1,e2,itoa_minus (by omega),itoa_big (by omega),itoa_minus (n:=-((-n) / 10)) (by omega),Int.neg_neg,Int.neg_neg,itoa_small (n:=(-n) % 10) (by omega)]
 rfl
theorem wrap8{d:Int}(h:0≤d∧d<10):IntKind.u8.wrap (48+d)=48+d:=by
 have:d=0∨d=1∨d=2∨d=3∨d=4∨d=5∨d=6∨d=7∨d=8∨d=9:=by omega
 rcases this with rfl|rfl|rfl|rfl|rfl|rfl|rfl|rfl|rfl|rfl<;>rfl
theorem div_neg{n:Int}(h:n<0):n.tdiv 10=-((-n) / 10)∧n.tmod 10=-((-n) % 10):=by
 constructor
 ·rw [←Int.neg_neg n,Int.neg_tdiv,Int.neg_neg,Int.tdiv_eq_ediv_of_nonneg (by omega)]
 ·rw [←Int.neg_neg n,Int.neg_tmod,Int.neg_neg,Int.tmod_eq_emod_of_nonneg (by omega)]
theorem div_pos{n:Int}(h:0≤n):n.tdiv 10=n / 10∧n.tmod 10=n % 10:=⟨Int.tdiv_eq_ediv_of_nonneg h,Int.tmod_eq_emod_of_nonneg h⟩
theorem decM_lt{m n:Int}(h:m.natAbs<n.natAbs∨(m.natAbs=n.natAbs∧0≤m∧n<0)):decM m<decM n:=by
 unfold decM
 split<;>split<;>omega
def decC(n:Int)(hr:∀m:Int,decM m<decM n→PSpec Tryd.prog 62 [.int m] (.str (itoa m)))(m:Int)(h:decM m<decM n):PC Tryd.prog:=⟨62,[.k],[.int m],.str (itoa m),hr m h,fnB_ok (by kernel_rfl)⟩
def decN_a(n:Int)(hr:∀m:Int,decM m<decM n→PSpec Tryd.prog 62 [.int m] (.str (itoa m))):Prop:=okL [.int n]
def decN_e(r:ByteArray):AV:=.str r
def decN_x(n:Int)(hr:∀m:Int,decM m<decM n→PSpec Tryd.prog 62 [.int m] (.str (itoa m))):Ax Tryd.prog noS (ByteArray):=
 (.br 48 (decide (n<0)) (.br 96 ((W (n.tdiv 10))==0) (.req 128 (decM (W (0-n))<decM n) fun h1 =>
(.callP (decC n hr (W (0-n)) h1)
(.say (ck (decide ((B [45]).size+(itoa (W (0-n))).size≤maxLen))) (.ret ((B [45])++(itoa (W (0-n))))))))
(.req 128 (decM (W (n.tdiv 10))<decM n) fun h2 =>
(.callP (decC n hr (W (n.tdiv 10)) h2)
(.req 192 (decM (W (0-(n.tmod 10)))<decM n) fun h3 =>
(.callP (decC n hr (W (0-(n.tmod 10))) h3)
(.say (ck (decide ((itoa (W (n.tdiv 10))).size+(itoa (W (0-(n.tmod 10)))).size≤maxLen))) (.ret ((itoa (W (n.tdiv 10)))++(itoa (W (0-(n.tmod 10))))))))))))
(.br 80 (decide (n<10)) (.ret (B [UInt8.ofNat ((IntKind.u8.wrap (W (48+n)))).toNat]))
(.req 112 (decM (W (n.tdiv 10))<decM n) fun h4 =>
(.callP (decC n hr (W (n.tdiv 10)) h4)
(.say (ck (decide ((itoa (W (n.tdiv 10))).size+(B [UInt8.ofNat ((IntKind.u8.wrap (W (48+(n.tmod 10))))).toNat]).size≤maxLen))) (.ret ((itoa (W (n.tdiv 10)))++(B [UInt8.ofNat ((IntKind.u8.wrap (W (48+(n.tmod 10))))).toNat]))))))))
def decN_vc(n:Int)(hr:∀m:Int,decM m<decM n→PSpec Tryd.prog 62 [.int m] (.str (itoa m)))(r0:ByteArray):Prop:=(decN_x n hr).vp decN_e r0
theorem decN_p(n:Int)(hr:∀m:Int,decM m<decM n→PSpec Tryd.prog 62 [.int m] (.str (itoa m)))(ok:decN_a n hr):decN_vc n hr (itoa n):=by
 simp only [decN_a,okU,Blk.ok,plainV,List.length_map] at ok
 dsimp only [decN_vc,decN_x,noS,Ax.vp,Ax.vc];simp only [vcU,rfU,List.length_map]
 have hml:=maxLen_eq
 have c1:(B [45]).size=1:=rfl
 refine ⟨fun h=>?_,fun h=>?_⟩
 ·obtain ⟨e1,e2⟩:=div_neg h
  rw [e1,e2,W_eq (n:=-(-n / 10)) (by omega)]
  refine ⟨fun c=>?_,fun c=>?_⟩
  ·have c:-(-n / 10)=0:=by simpa using c
   have w:W (0-n)=-n:=by rw [W_eq (by omega)];omega
   rw [w]
   have:=itoa_len (n:=-n) (by omega)
   refine ⟨decM_lt (.inr (by omega)),by omega,?_⟩
   rw [itoa,itoa,itoa_minus h,B_app];rfl
  ·have c:¬-(-n / 10)=0:=by simpa using c
   have w:W (0 - -(-n % 10))=-n % 10:=by rw [W_eq (by omega)];omega
   rw [w]
   have l1:=itoa_len (n:=-(-n / 10)) (by omega)
   have l2:=itoa_len (n:=-n % 10) (by omega)
   refine ⟨decM_lt (.inl (by omega)),decM_lt (.inl (by omega)),by omega,?_⟩
   have:=itoa_low (n:=n) (by omega)
   rw [e1,e2,Int.neg_neg] at this
   rw [itoa,itoa,itoa,this,B_app]
 ·obtain ⟨e1,e2⟩:=div_pos (n:=n) (by omega)
  refine ⟨fun c=>?_,fun c=>?_⟩
  ·rw [W_eq (by omega),wrap8 (by omega),itoa,itoa_small (by omega)]
   have:(48+n).toNat=48+n.toNat:=by omega
   rw [this]
  ·rw [e1,e2,W_eq (n:=48+n % 10) (by omega),W_eq (n:=n / 10) (by omega),wrap8 (by omega)]
   have l1:=itoa_len (n:=n / 10) (by omega)
   refine ⟨decM_lt (.inl (by omega)),?_,?_⟩
   ·rw [B_size];simp;omega
   ·rw [itoa,itoa,itoa_big (n:=n) (by omega),B_app]
    have:(48+n % 10).toNat=48+(n % 10).toNat:=by omega
    rw [this]
def decN_c(n:Int)(hr:∀m:Int,decM m<decM n→PSpec Tryd.prog 62 [.int m] (.str (itoa m))):PC Tryd.prog:=⟨62,[.k],[.int n],decN_e (itoa n),PSpec.of_ok fun ok=>mxP_of (sh:=.k) (enc:=decN_e) (a:=(decN_x n hr).an) (decN_p n hr ok) (by kernel_rfl) (AV.pureB_ok rfl),fnB_ok (by kernel_rfl)⟩
theorem dec_all:∀(k:Nat) (n:Int),decM n<k→PSpec Tryd.prog 62 [.int n] (.str (itoa n))
 | 0,_,h=>absurd h (by omega)
 | k+1,n,h=>(decN_c n fun m hm=>dec_all k m (by omega)).ok
def decT_c(n:Int):PC Tryd.prog:=⟨62,[.k],[.int n],.str (itoa n),dec_all _ n (Nat.lt_succ_self _),fnB_ok (by kernel_rfl)⟩
theorem join_snoc{l:List (List UInt8)}{x sep:List UInt8}(h:l≠[]):Lib.join (l++[x]) sep=Lib.join l sep++(sep++x):=by
 cases l with
 | nil=>exact absurd rfl h
 | cons y r =>
  rw [List.cons_append,Lib.join_cons,Lib.join_cons,List.append_assoc]
  congr 1
  simp [Lib.joinTail]
theorem join_step{α:Type}{l:List α}{f:α→List UInt8}{sep:List UInt8}{k:Nat}{x:α}(hx:l[k]?=some x) :
  Lib.join ((l.take (k+1)).map f) sep=(if k=0 then Lib.join ((l.take k).map f) sep else Lib.join ((l.take k).map f) sep++sep)++f x:=by
 rw [take_succ hx,List.map_append,List.map_singleton]
 have:=lt_of_get hx
 split
 ·rename_i e;subst e;simp [Lib.join_one,Lib.join_nil]
 ·rename_i e
  rw [join_snoc,List.append_assoc]
  intro q
  have:=congrArg List.length q
  rw [List.length_map,List.length_take,List.length_nil] at this
  omega
theorem join_len{l:List (List UInt8)}{sep:List UInt8}{m k:Nat}(hm:∀x∈l,x.length≤m)(hs:sep.length≤k):(Lib.join l sep).length≤l.length * (m+k):=by
 have:=joinB_size (l:=l.map B) (sep:=B sep) (m:=m) (k:=k) (fun x hx=>by
  obtain ⟨y,hy,rfl⟩:=List.mem_map.mp hx
  rw [B_size];exact hm y hy) (by rw [B_size];exact hs)
 rwa [joinB_eq,B_size,List.length_map] at this
def listR_a(l:(List Int)):Prop:=okL [.sl 1 (l.map AV.int) false]
def listR_n0(l:(List Int))(t0:ByteArray×Int):NF:=⟨[(3,.k,.str t0.1),(9,.k,.sl 1 (l.map AV.int) false),(10,.k,.int ((l.map AV.int).length:Int)),(11,.k,.int t0.2)],[]⟩
def listR_n1(l:(List Int))(t0:ByteArray×Int)(x1:Int)(t1:ByteArray):NF:=⟨[(3,.k,.str t1),(5,.k,.int x1),(9,.k,.sl 1 (l.map AV.int) false),(10,.k,.int ((l.map AV.int).length:Int)),(11,.k,.int t0.2)],[]⟩
@[reducible] def listR_s:Nat→Type
 | 0=>ByteArray×Int
 | 1=>ByteArray
 | _=>Unit
def listR_e(r:ByteArray):AV:=.str r
def listR_x(l:(List Int))(I0:(ByteArray×Int)→Prop)(m0:(ByteArray×Int)→Nat)(I1:ByteArray×Int→Int→ByteArray→Prop):Ax Tryd.prog listR_s (ByteArray):=
 (.br 64 (((l.map AV.int).length:Int)==0) (.ret (B [46]))
(.loop 0 (listR_n0 l) I0 m0 (B [],0) [] fun (t0:ByteArray×Int) b0 =>
(.br 16 (decide (t0.2<((l.map AV.int).length:Int))) (.el 32 AV.int l (fun R=>Rf (l.map AV.int) (ck (decide (0≤t0.2)) (ck (decide (t0.2<(l.length:Int)))
(∀x1,l[t0.2.toNat]?=some x1 →
(R x1))))) fun x1 =>
(.join 1 (listR_n1 l t0 x1) (fun (t1:ByteArray)=>I1 t0 x1 t1) (fun b1=>(.br 128 (decide (0<t0.2)) (.say (ck (decide (t0.1.size+(B [44]).size≤maxLen))) (.bk 1 b1 ((t0.1++(B [44])):ByteArray) []))
(.bk 1 b1 ((t0.1):ByteArray) []))) fun (t1:ByteArray) =>
(.callP (decT_c x1)
(.say (ck (decide (t1.size+(itoa x1).size≤maxLen))) (.bk 0 b0 (t1++(itoa x1),W (t0.2+1)) [])))))
(.ret (t0.1)))))
def listR_vc(l:(List Int))(I0:(ByteArray×Int)→Prop)(m0:(ByteArray×Int)→Nat)(I1:ByteArray×Int→Int→ByteArray→Prop)(r0:ByteArray):Prop:=(listR_x l I0 m0 I1).vp listR_e r0
theorem listR_p(l:List Int)(h:l.length≤1048576)(ok:listR_a l):∃I m J,listR_vc l I m J (listT l):=by
 refine ⟨fun t=>∃k:Nat,t.2=k∧k≤l.length∧t.1=B (Lib.join ((l.take k).map Lib.itoa) [44]),fun t=>l.length-t.2.toNat,fun t x o=>o=(if t.2=0 then t.1 else t.1++B [44]),?_⟩
 simp only [listR_a,okU,Blk.ok,plainV,List.length_map] at ok
 dsimp only [listR_vc,listR_x,listR_s,Ax.vp,Ax.vc];simp only [vcU,rfU,List.length_map]
 have hml:=maxLen_eq
 have hin:∀x∈l,-9223372036854775808≤x∧x≤9223372036854775807:=fun x hx=>by
  have:=okL_iff.mp ok.2 _ (List.mem_map_of_mem hx)
  simpa only [okU,plainV] using this
 refine ⟨fun c=>?_,fun c=>⟨⟨0,rfl,by omega,by simp [Lib.join_nil]⟩,?_⟩⟩
 ·have:l=[]:=List.eq_nil_of_length_eq_zero (by have:=eq_of_beq c;omega)
  rw [listT,if_pos this]
 ·have hne:¬l=[]:=fun e=>by subst e;simp at c
  rintro ⟨o,i⟩ ⟨k,hi,hk,ho⟩
  simp only at hi ho ⊢
  subst hi
  have hlen:=join_len (l:=(l.take k).map Lib.itoa) (sep:=[44]) (m:=21) (k:=1) (fun x hx=>by
   obtain ⟨y,hy,rfl⟩:=List.mem_map.mp hx
   have h2:=itoa_len (hin y (List.mem_of_mem_take hy))
   rwa [itoa,B_size] at h2) (Nat.le_refl _)
  rw [List.length_map,List.length_take] at hlen
  have hos:o.size≤23068672:=by rw [ho,B_size];omega
  have c1:(B [44]).size=1:=rfl
  simp only [Int.toNat_natCast]
  refine ⟨fun c1=>⟨by omega,by omega,fun x hx=>⟨⟨fun q=>⟨by omega,by rw [if_neg (by omega)]⟩,fun q=>by rw [if_pos (by omega)]⟩,?_⟩⟩,fun c1=>?_⟩
  ·rintro o2 rfl
   have h2:=itoa_len (hin x (mem_of_get hx))
   have hst:=join_step (f:=Lib.itoa) (sep:=[44]) hx
   have e:(if (k:Int)=0 then o else o++B [44])++itoa x=B (Lib.join ((l.take (k+1)).map Lib.itoa) [44]):=by
    rw [hst,ho,itoa]
    by_cases hk0:k=0
    ·rw [if_pos (by omega),if_pos hk0,B_app]
    ·rw [if_neg (by omega),if_neg hk0,B_app,B_app]
   refine ⟨?_,⟨k+1,W_succ (n:=l.length) (by omega) (by omega),by omega,e⟩,by rw [W_succ (n:=l.length) (by omega) (by omega)];omega⟩
   split
   ·omega
   ·rw [ByteArray.size_append];omega
  ·rw [ho,List.take_of_length_le (by omega),listT_eq,listL,if_neg hne]
def listR_c(l:(List Int))(h:l.length≤1048576):PC Tryd.prog:=⟨64,[(.s 1)],[.sl 1 (l.map AV.int) false],listR_e (listT l),PSpec.of_ok fun ok=>(listR_p l h ok).elim fun I0 h=>h.elim fun m0 h=>h.elim fun I1 h=>mxP_of (sh:=.k) (enc:=listR_e) (a:=(listR_x l I0 m0 I1).an) h (by kernel_rfl) (AV.pureB_ok rfl),fnB_ok (by kernel_rfl)⟩
def fltR_a(f:Flt):Prop:=okL [.agg [.int f.mode,.sl 1 (f.srcs.map AV.int) false]]
def fltR_n0(f:Flt)(t0:Bool):NF:=⟨[(1,.k,.ref 0 0),(3,.k,.bool t0)],[.box (.agg [.int f.mode,.sl 1 (f.srcs.map AV.int) false])]⟩
def fltR_n1(f:Flt)(t1:Bool):NF:=⟨[(1,.k,.ref 0 0),(13,.k,.bool t1)],[.box (.agg [.int f.mode,.sl 1 (f.srcs.map AV.int) false])]⟩
@[reducible] def fltR_s:Nat→Type
 | 0=>Bool
 | 1=>Bool
 | _=>Unit
def fltR_e(r:ByteArray):AV:=.str r
def fltR_x(f:Flt)(I0:Bool→Prop)(I1:Bool→Bool→Prop):Ax Tryd.prog fltR_s (ByteArray):=
 (.pass (.pass (.join 0 (fltR_n0 f) (fun (t0:Bool)=>I0 t0) (fun b0=>(.br 96 (f.mode==1) (.bk 0 b0 ((((f.srcs.map AV.int).length:Int)==0):Bool) [0])
(.bk 0 b0 ((false):Bool) [0]))) fun (t0:Bool) =>
(.br 1 t0 (.ret (B [110,111,116,104,105,110,103]))
(.join 1 (fltR_n1 f) (fun (t1:Bool)=>I1 t0 t1) (fun b1=>(.br 65 (f.mode==2) (.bk 1 b1 ((((f.srcs.map AV.int).length:Int)==0):Bool) [0])
(.bk 1 b1 ((false):Bool) [0]))) fun (t1:Bool) =>
(.br 1 t1 (.ret (B [97,108,108]))
(.br 65 (f.mode==1) (.req 97 (f.srcs.length≤1048576) fun h1 =>
(.callP (listR_c f.srcs h1)
(.say (ck (decide ((B [111,110,108,121,32]).size+(listT f.srcs).size≤maxLen))) (.ret ((B [111,110,108,121,32])++(listT f.srcs))))))
(.br 129 (f.mode==2) (.req 161 (f.srcs.length≤1048576) fun h2 =>
(.callP (listR_c f.srcs h2)
(.say (ck (decide ((B [97,108,108,32,98,117,116,32]).size+(listT f.srcs).size≤maxLen))) (.ret ((B [97,108,108,32,98,117,116,32])++(listT f.srcs))))))
(.ret (B [63]))))))))))
def fltR_vc(f:Flt)(I0:Bool→Prop)(I1:Bool→Bool→Prop)(r0:ByteArray):Prop:=(fltR_x f I0 I1).vp fltR_e r0
theorem fltR_p(f:Flt)(h:f.srcs.length≤1048576)(ok:fltR_a f):∃I J,fltR_vc f I J (fltT f):=by
 refine ⟨fun b=>b=decide (f.mode=1∧f.srcs=[]),fun _ b=>b=decide (f.mode=2∧f.srcs=[]),?_⟩
 simp only [fltR_a,okU,Blk.ok,plainV,List.length_map] at ok
 dsimp only [fltR_vc,fltR_x,fltR_s,Ax.vp,Ax.vc];simp only [vcU,rfU,List.length_map]
 have hin:∀x∈f.srcs,-9223372036854775808≤x∧x≤9223372036854775807:=fun x hx=>by
  have:=okL_iff.mp ok.2.2 _ (List.mem_map_of_mem hx)
  simpa only [okU,plainV] using this
 have hs:=listT_size hin
 have hml:=maxLen_eq
 have c1:(B [111,110,108,121,32]).size=5:=rfl
 have c2:(B [97,108,108,32,98,117,116,32]).size=8:=rfl
 have key:∀b:Bool,(((f.srcs.length:Int)==0)=decide (f.srcs=[])):=fun _=>by
  cases f.srcs with
  | nil=>rfl
  | cons x r =>
   have:¬(((x::r).length:Int)=0):=by simp only [List.length_cons];omega
   simp [this];omega
 refine ⟨⟨fun c=>?_,fun c=>?_⟩,?_⟩
 ·have c:f.mode=1:=eq_of_beq c
  rw [key true];simp [c]
 ·have c:¬f.mode=1:=fun e=>by rw [e] at c;simp at c
  simp [c]
 rintro _ rfl
 refine ⟨fun c=>?_,fun c=>⟨⟨fun d=>?_,fun d=>?_⟩,?_⟩⟩
 ·have c:=of_decide_eq_true c
  rw [fltT,if_pos c.1,if_pos c.2]
 ·have d:f.mode=2:=eq_of_beq d
  rw [key true];simp [d]
 ·have d:¬f.mode=2:=fun e=>by rw [e] at d;simp at d
  simp [d]
 rintro _ rfl
 have c:=of_decide_eq_false c
 refine ⟨fun d=>?_,fun d=>⟨fun e=>⟨h,by omega,?_⟩,fun e=>⟨fun e2=>⟨h,by omega,?_⟩,fun e2=>?_⟩⟩⟩
 ·have d:=of_decide_eq_true d
  rw [fltT,if_neg (by omega),if_pos d.1,if_pos d.2]
 ·have e:f.mode=1:=eq_of_beq e
  rw [fltT,if_pos e,if_neg (fun q=>c ⟨e,q⟩)]
 ·have d:=of_decide_eq_false d
  have e2:f.mode=2:=eq_of_beq e2
  rw [fltT,if_neg (by omega),if_pos e2,if_neg (fun q=>d ⟨e2,q⟩)]
 ·have e:¬f.mode=1:=fun q=>by rw [q] at e;simp at e
  have e2:¬f.mode=2:=fun q=>by rw [q] at e2;simp at e2
  rw [fltT,if_neg e,if_neg e2]
def fltR_c(f:Flt)(h:f.srcs.length≤1048576):PC Tryd.prog:=⟨28,[(.a [.k,(.s 1)])],[.agg [.int f.mode,.sl 1 (f.srcs.map AV.int) false]],fltR_e (fltT f),PSpec.of_ok fun ok=>(fltR_p f h ok).elim fun I0 h=>h.elim fun I1 h=>mxP_of (sh:=.k) (enc:=fltR_e) (a:=(fltR_x f I0 I1).an) h (by kernel_rfl) (AV.pureB_ok rfl),fnB_ok (by kernel_rfl)⟩
def wntsR_a(l:(List Wnt)):Prop:=okL [.sl 3 (l.map Wnt.v) false]
def wntsR_n0(l:(List Wnt))(t0:ByteArray×Int):NF:=⟨[(3,.k,.str t0.1),(9,.k,.sl 3 (l.map Wnt.v) false),(10,.k,.int ((l.map Wnt.v).length:Int)),(11,.k,.int t0.2)],[]⟩
def wntsR_n1(l:(List Wnt))(t0:ByteArray×Int)(x1:Wnt)(t1:ByteArray):NF:=⟨[(3,.k,.str t1),(5,.k,.ref 0 0),(9,.k,.sl 3 (l.map Wnt.v) false),(10,.k,.int ((l.map Wnt.v).length:Int)),(11,.k,.int t0.2)],[.box (.agg [.int x1.grp,.int x1.mode,.sl 1 (x1.srcs.map AV.int) false])]⟩
@[reducible] def wntsR_s:Nat→Type
 | 0=>ByteArray×Int
 | 1=>ByteArray
 | _=>Unit
def wntsR_e(r:ByteArray):AV:=.str r
def wntsR_x(l:(List Wnt))(I0:(ByteArray×Int)→Prop)(m0:(ByteArray×Int)→Nat)(I1:ByteArray×Int→Wnt→ByteArray→Prop):Ax Tryd.prog wntsR_s (ByteArray):=
 (.br 64 (((l.map Wnt.v).length:Int)==0) (.ret (B [46]))
(.loop 0 (wntsR_n0 l) I0 m0 (B [],0) [] fun (t0:ByteArray×Int) b0 =>
(.br 16 (decide (t0.2<((l.map Wnt.v).length:Int))) (.el 32 Wnt.v l (fun R=>Rf (l.map Wnt.v) (ck (decide (0≤t0.2)) (ck (decide (t0.2<(l.length:Int)))
(∀x1,l[t0.2.toNat]?=some x1 →
(R x1))))) fun x1 =>
(.join 1 (wntsR_n1 l t0 x1) (fun (t1:ByteArray)=>I1 t0 x1 t1) (fun b1=>(.br 144 (decide (0<t0.2)) (.say (ck (decide (t0.1.size+(B [59,32]).size≤maxLen))) (.bk 1 b1 ((t0.1++(B [59,32])):ByteArray) [64]))
(.bk 1 b1 ((t0.1):ByteArray) [64]))) fun (t1:ByteArray) =>
(.callP (decT_c x1.grp)
(.say (ck (decide ((itoa x1.grp).size+(B [61]).size≤maxLen))) (.req 113 ((⟨x1.mode,x1.srcs⟩:Flt).srcs.length≤1048576) fun h2 =>
(.callP (fltR_c (⟨x1.mode,x1.srcs⟩:Flt) h2)
(.say (fun R=>ck (decide (((itoa x1.grp)++(B [61])).size+(fltT (⟨x1.mode,x1.srcs⟩:Flt)).size≤maxLen))
((ck (decide (t1.size+(((itoa x1.grp)++(B [61]))++(fltT (⟨x1.mode,x1.srcs⟩:Flt))).size≤maxLen))
R))) (.bk 0 b0 (t1++(((itoa x1.grp)++(B [61]))++(fltT (⟨x1.mode,x1.srcs⟩:Flt))),W (t0.2+1)) []))))))))
(.ret (t0.1)))))
def wntsR_vc(l:(List Wnt))(I0:(ByteArray×Int)→Prop)(m0:(ByteArray×Int)→Nat)(I1:ByteArray×Int→Wnt→ByteArray→Prop)(r0:ByteArray):Prop:=(wntsR_x l I0 m0 I1).vp wntsR_e r0
theorem wntsR_p(l:List Wnt)(h:l.length≤40)(hw:∀w∈l,w.srcs.length≤1048576)(ok:wntsR_a l):∃I m J,wntsR_vc l I m J (wntsT l):=by
 refine ⟨fun t=>∃k:Nat,t.2=k∧k≤l.length∧t.1=B (Lib.join ((l.take k).map wntL) [59,32]),fun t=>l.length-t.2.toNat,fun t x o=>o=(if t.2=0 then t.1 else t.1++B [59,32]),?_⟩
 simp only [wntsR_a,okU,Blk.ok,plainV,List.length_map] at ok
 dsimp only [wntsR_vc,wntsR_x,wntsR_s,Ax.vp,Ax.vc];simp only [vcU,rfU,List.length_map]
 have hok:∀w∈l,okW w:=fun w hm=>by
  have:=okL_iff.mp ok.2 _ (List.mem_map_of_mem hm)
  simp only [Wnt.v,okU,plainV] at this
  exact ⟨this.1,hw w hm,fun x hx=>by
   have:=okL_iff.mp this.2.2.2 _ (List.mem_map_of_mem hx)
   simp only [okU,plainV] at this
   exact this⟩
 have hml:=maxLen_eq
 refine ⟨fun c=>?_,fun c=>⟨⟨0,rfl,by omega,by simp [Lib.join_nil]⟩,?_⟩⟩
 ·have:l=[]:=List.eq_nil_of_length_eq_zero (by have:=eq_of_beq c;omega)
  rw [wntsT,if_pos this]
 ·have hne:¬l=[]:=fun e=>by subst e;simp at c
  rintro ⟨o,i⟩ ⟨k,hi,hk,ho⟩
  simp only at hi ho ⊢
  subst hi
  have hlen:=join_len (l:=(l.take k).map wntL) (sep:=[59,32]) (m:=23068703) (k:=2) (fun x hx=>by
   obtain ⟨y,hy,rfl⟩:=List.mem_map.mp hx
   have h2:=wntT_size (hok y (List.mem_of_mem_take hy))
   rwa [wntT_eq,B_size] at h2) (Nat.le_refl _)
  rw [List.length_map,List.length_take] at hlen
  have hos:o.size≤922748200:=by rw [ho,B_size];omega
  have c1:(B [59,32]).size=2:=rfl
  simp only [Int.toNat_natCast]
  refine ⟨fun c1=>⟨by omega,by omega,fun x hx=>⟨⟨fun q=>⟨by omega,by rw [if_neg (by omega)]⟩,fun q=>by rw [if_pos (by omega)]⟩,?_⟩⟩,fun c1=>?_⟩
  ·rintro o2 rfl
   have ox:=hok x (mem_of_get hx)
   have h1:=itoa_len ox.1
   have h2:=fltT_size (f:=⟨x.mode,x.srcs⟩) ox.2.2
   have h3:(B [61]).size=1:=rfl
   have h4:=ox.2.1
   simp only at h2
   have h5:(itoa x.grp++B [61]).size=(itoa x.grp).size+1:=by rw [ByteArray.size_append,h3]
   have h6:(itoa x.grp++B [61]++fltT ⟨x.mode,x.srcs⟩).size=(itoa x.grp).size+1+(fltT ⟨x.mode,x.srcs⟩).size:=by rw [ByteArray.size_append,h5]
   have hst:=join_step (f:=wntL) (sep:=[59,32]) hx
   have e:(if (k:Int)=0 then o else o++B [59,32])++wntT x=B (Lib.join ((l.take (k+1)).map wntL) [59,32]):=by
    rw [hst,ho,wntT_eq]
    by_cases hk0:k=0
    ·rw [if_pos (by omega),if_pos hk0,B_app]
    ·rw [if_neg (by omega),if_neg hk0,B_app,B_app]
   have hsz:(if (k:Int)=0 then o else o++B [59,32]).size≤922748202:=by
    split
    ·omega
    ·rw [ByteArray.size_append];omega
   refine ⟨by omega,by omega,by omega,by omega,⟨k+1,W_succ (n:=l.length) (by omega) (by omega),by omega,e⟩,by rw [W_succ (n:=l.length) (by omega) (by omega)];omega⟩
  ·rw [ho,List.take_of_length_le (by omega),wntsT_eq,wntsL,if_neg hne]
def wntsR_c(l:(List Wnt))(h:l.length≤40)(hw:∀w∈l,w.srcs.length≤1048576):PC Tryd.prog:=⟨29,[(.s 3)],[.sl 3 (l.map Wnt.v) false],wntsR_e (wntsT l),PSpec.of_ok fun ok=>(wntsR_p l h hw ok).elim fun I0 h=>h.elim fun m0 h=>h.elim fun I1 h=>mxP_of (sh:=.k) (enc:=wntsR_e) (a:=(wntsR_x l I0 m0 I1).an) h (by kernel_rfl) (AV.pureB_ok rfl),fnB_ok (by kernel_rfl)⟩
def treR_a(t:Tre):Prop:=okL [.agg [.int t.root,.sl 2 (t.ls.map Hop.v) false]]
def treR_n0(t:Tre)(t0:ByteArray×Int):NF:=⟨[(3,.k,.str t0.1),(10,.k,.sl 2 (t.ls.map Hop.v) false),(11,.k,.int ((t.ls.map Hop.v).length:Int)),(12,.k,.int t0.2)],[]⟩
@[reducible] def treR_s:Nat→Type
 | 0=>ByteArray×Int
 | _=>Unit
def treR_e(r:ByteArray):AV:=.str r
def treR_x(t:Tre)(I0:(ByteArray×Int)→Prop)(m0:(ByteArray×Int)→Nat):Ax Tryd.prog treR_s (ByteArray):=
 (.callP (decT_c t.root)
(.loop 0 (treR_n0 t) I0 m0 (itoa t.root,0) [] fun (t0:ByteArray×Int) b0 =>
(.br 16 (decide (t0.2<((t.ls.map Hop.v).length:Int))) (.el 16 Hop.v t.ls (fun R=>Rf (t.ls.map Hop.v) (ck (decide (0≤t0.2)) (ck (decide (t0.2<(t.ls.length:Int)))
(∀x1,t.ls[t0.2.toNat]?=some x1 →
(R x1))))) fun x1 =>
(.callP (decT_c x1.a)
(.say (fun R=>ck (decide ((B [32]).size+(itoa x1.a).size≤maxLen))
((ck (decide (((B [32])++(itoa x1.a)).size+(B [45]).size≤maxLen))
R))) (.callP (decT_c x1.b)
(.say (fun R=>ck (decide ((((B [32])++(itoa x1.a))++(B [45])).size+(itoa x1.b).size≤maxLen))
((ck (decide (t0.1.size+((((B [32])++(itoa x1.a))++(B [45]))++(itoa x1.b)).size≤maxLen))
R))) (.bk 0 b0 (t0.1++((((B [32])++(itoa x1.a))++(B [45]))++(itoa x1.b)),W (t0.2+1)) []))))))
(.ret (t0.1)))))
def treR_vc(t:Tre)(I0:(ByteArray×Int)→Prop)(m0:(ByteArray×Int)→Nat)(r0:ByteArray):Prop:=(treR_x t I0 m0).vp treR_e r0
theorem treR_p(t:Tre)(h:t.ls.length≤1000)(ok:treR_a t):∃I m,treR_vc t I m (treT t):=by
 refine ⟨fun q=>∃k:Nat,q.2=k∧k≤t.ls.length∧q.1=(t.ls.take k).foldl (fun o h=>o++(B [32]++hopT h.a h.b)) (itoa t.root)∧q.1.size≤21+k * 44,fun q=>t.ls.length-q.2.toNat,?_⟩
 simp only [treR_a,okU,Blk.ok,plainV,List.length_map] at ok
 dsimp only [treR_vc,treR_x,treR_s,Ax.vp,Ax.vc];simp only [vcU,rfU,List.length_map]
 have hml:=maxLen_eq
 have hin:∀x∈t.ls,in64 x.a∧in64 x.b:=fun x hx=>by
  have:=okL_iff.mp ok.2.2 _ (List.mem_map_of_mem hx)
  simp only [Hop.v,okU,plainV] at this
  exact this
 refine ⟨⟨0,rfl,by omega,rfl,itoa_len ok.1⟩,?_⟩
 rintro ⟨o,i⟩ ⟨k,hi,hk,ho,hs⟩
 simp only at hi ho hs ⊢
 subst hi
 simp only [Int.toNat_natCast]
 refine ⟨fun c1=>⟨by omega,by omega,fun x hx=>?_⟩,fun c1=>?_⟩
 ·have i1:=itoa_len (hin x (mem_of_get hx)).1
  have i2:=itoa_len (hin x (mem_of_get hx)).2
  have s1:(B [32]).size=1:=rfl
  have s2:(B [45]).size=1:=rfl
  have s3:(B [32]++itoa x.a).size=1+(itoa x.a).size:=by rw [ByteArray.size_append,s1]
  have s4:(B [32]++itoa x.a++B [45]).size=1+(itoa x.a).size+1:=by rw [ByteArray.size_append,s3,s2]
  have s5:(B [32]++itoa x.a++B [45]++itoa x.b).size=1+(itoa x.a).size+1+(itoa x.b).size:=by rw [ByteArray.size_append,s4]
  have e:B [32]++itoa x.a++B [45]++itoa x.b=B [32]++hopT x.a x.b:=by rw [hopT];simp only [ByteArray.append_assoc]
  refine ⟨by omega,by omega,by omega,by omega,⟨k+1,W_succ (n:=t.ls.length) (by omega) (by omega),by omega,by rw [foldl_take _ _ hx,←ho,e],?_⟩,by rw [W_succ (n:=t.ls.length) (by omega) (by omega)];omega⟩
  rw [ByteArray.size_append];omega
 ·rw [ho,treT,List.take_of_length_le (by omega)]
def treR_c(t:Tre)(h:t.ls.length≤1000):PC Tryd.prog:=⟨30,[(.a [.k,(.s 2)])],[.agg [.int t.root,.sl 2 (t.ls.map Hop.v) false]],treR_e (treT t),PSpec.of_ok fun ok=>(treR_p t h ok).elim fun I0 h=>h.elim fun m0 h=>mxP_of (sh:=.k) (enc:=treR_e) (a:=(treR_x t I0 m0).an) h (by kernel_rfl) (AV.pureB_ok rfl),fnB_ok (by kernel_rfl)⟩
def stlR_a(ok_:Bool):Prop:=okL [.bool ok_]
def stlR_e(r:ByteArray):AV:=.str r
def stlR_x(ok_:Bool):Ax Tryd.prog noS (ByteArray):=
 (.br 32 ok_ (.ret (B [115,101,116,116,108,101,100]))
(.ret (B [111,112,101,110])))
def stlR_vc(ok_:Bool)(r0:ByteArray):Prop:=(stlR_x ok_).vp stlR_e r0
theorem stlR_p(ok_:Bool)(ok:stlR_a ok_):stlR_vc ok_ (stlT ok_):=by
 dsimp only [stlR_vc,stlR_x,noS,Ax.vp,Ax.vc];simp only [vcU,rfU,List.length_map]
 refine ⟨fun h=>by rw [h];rfl,fun h=>by rw [h];rfl⟩
def stlR_c(ok_:Bool):PC Tryd.prog:=⟨65,[.k],[.bool ok_],stlR_e (stlT ok_),PSpec.of_ok fun ok=>mxP_of (sh:=.k) (enc:=stlR_e) (a:=(stlR_x ok_).an) (stlR_p ok_ ok) (by kernel_rfl) (AV.pureB_ok rfl),fnB_ok (by kernel_rfl)⟩
def sameT_a(a:(List ByteArray))(b:(List ByteArray)):Prop:=okL [.sl 1 (a.map AV.str) false,.sl 1 (b.map AV.str) false]
def sameT_n0(a:(List ByteArray))(b:(List ByteArray))(t0:Int):NF:=⟨[(0,.k,.sl 1 (a.map AV.str) false),(1,.k,.sl 1 (b.map AV.str) false),(12,.k,.int ((a.map AV.str).length:Int)),(13,.k,.int t0)],[]⟩
@[reducible] def sameT_s:Nat→Type
 | 0=>Int
 | _=>Unit
def sameT_e(r:Bool):AV:=.bool r
def sameT_x(a:(List ByteArray))(b:(List ByteArray))(I0:Int→Prop)(m0:Int→Nat):Ax Tryd.prog sameT_s (Bool):=
 (.br 96 (((a.map AV.str).length:Int) != ((b.map AV.str).length:Int)) (.ret (false))
(.loop 0 (sameT_n0 a b) I0 m0 ((0):Int) [] fun (t0:Int) b0 =>
(.br 16 (decide (t0<((a.map AV.str).length:Int))) (.el 80 AV.str a (fun R=>Rf (a.map AV.str) (ck (decide (0≤t0)) (ck (decide (t0<(a.length:Int)))
(∀x1,a[t0.toNat]?=some x1 →
(R x1))))) fun x1 =>
(.el 144 AV.str b (fun R=>Rf (b.map AV.str) (ck (decide (0≤t0)) (ck (decide (t0<(b.length:Int)))
(∀x2,b[t0.toNat]?=some x2 →
(R x2))))) fun x2 =>
(.br 192 (!(x1.toList==x2.toList)) (.ret (false))
(.bk 0 b0 ((W (t0+1)):Int) []))))
(.ret (true)))))
def sameT_vc(a:(List ByteArray))(b:(List ByteArray))(I0:Int→Prop)(m0:Int→Nat)(r0:Bool):Prop:=(sameT_x a b I0 m0).vp sameT_e r0
theorem sameT_p(a b:List ByteArray)(ok:sameT_a a b):∃I m,sameT_vc a b I m (decide (a=b)):=by
 refine ⟨fun t=>∃k:Nat,t=k∧k≤a.length∧a.take k=b.take k,fun t=>a.length-t.toNat,?_⟩
 simp only [sameT_a,okU,Blk.ok,plainV,List.length_map] at ok
 dsimp only [sameT_vc,sameT_x,sameT_s,Ax.vp,Ax.vc];simp only [vcU,rfU,List.length_map]
 refine ⟨fun e=>(decide_eq_false fun h=>by subst h;simp at e).symm,fun e=>⟨⟨0,rfl,by omega,rfl⟩,?_⟩⟩
 have e:a.length=b.length:=by simp at e;omega
 rintro _ ⟨k,rfl,hk,h⟩
 simp only [Int.toNat_natCast]
 refine ⟨fun h1=>⟨by omega,by omega,fun x hx=>⟨by omega,by omega,fun y hy=>⟨fun d=>?_,fun d=>?_⟩⟩⟩,fun h1=>?_⟩
 ·refine (decide_eq_false fun e=>?_).symm
  subst e
  cases hx.symm.trans hy
  simp at d
 ·have q:x=y:=by
   rw [str_eq] at d
   exact of_decide_eq_true (by simpa using d)
  subst q
  rw [W_succ (n:=a.length) (by omega) (by omega)]
  exact ⟨⟨k+1,rfl,by omega,by rw [take_succ hx,take_succ hy,h]⟩,by omega⟩
 ·rw [List.take_of_length_le (by omega),List.take_of_length_le (by omega)] at h
  exact (decide_eq_true h).symm
def sameT_c(a:(List ByteArray))(b:(List ByteArray)):PC Tryd.prog:=⟨25,[(.s 1),(.s 1)],[.sl 1 (a.map AV.str) false,.sl 1 (b.map AV.str) false],sameT_e (decide (a=b)),PSpec.of_ok fun ok=>(sameT_p a b ok).elim fun I0 h=>h.elim fun m0 h=>mxP_of (sh:=.k) (enc:=sameT_e) (a:=(sameT_x a b I0 m0).an) h (by kernel_rfl) (AV.pureB_ok rfl),fnB_ok (by kernel_rfl)⟩
def rcpsR_a(l:(List Rcp)):Prop:=okL [.sl 5 (l.map Rcp.v) false]
def rcpsR_n0(l:(List Rcp))(t0:Int×(List ByteArray)):NF:=⟨[(3,.k,.vec 0),(6,.k,.sl 5 (l.map Rcp.v) false),(7,.k,.int ((l.map Rcp.v).length:Int)),(8,.k,.int t0.1)],[.vec 1 (t0.2.map AV.str) (pureBL_map (fun _=>rfl) t0.2)]⟩
@[reducible] def rcpsR_s:Nat→Type
 | 0=>Int×(List ByteArray)
 | _=>Unit
def rcpsR_e(r:(List ByteArray)):AV:=.sl 1 (r.map AV.str) false
def rcpsR_x(l:(List Rcp))(I0:(Int×(List ByteArray))→Prop)(m0:(Int×(List ByteArray))→Nat):Ax Tryd.prog rcpsR_s ((List ByteArray)):=
 (.cmdL (.nilT 3 1) (.loop 0 (rcpsR_n0 l) I0 m0 (0,[]) [80] fun (t0:Int×(List ByteArray)) b0 =>
(.br 17 (decide (t0.1<((l.map Rcp.v).length:Int))) (.el 17 Rcp.v l (fun R=>Rf (l.map Rcp.v) (ck (decide (0≤t0.1)) (ck (decide (t0.1<(l.length:Int)))
(∀x1,l[t0.1.toNat]?=some x1 →
(R x1))))) fun x1 =>
(.callP (decT_c x1.host)
(.say (fun R=>ck (decide ((B [104,111,115,116,32]).size+(itoa x1.host).size≤maxLen))
((ck (decide (((B [104,111,115,116,32])++(itoa x1.host)).size+(B [32,97,116,32]).size≤maxLen))
R))) (.callP (decT_c x1.router)
(.say (fun R=>ck (decide ((((B [104,111,115,116,32])++(itoa x1.host))++(B [32,97,116,32])).size+(itoa x1.router).size≤maxLen))
((ck (decide (((((B [104,111,115,116,32])++(itoa x1.host))++(B [32,97,116,32]))++(itoa x1.router)).size+(B [32,102,114,111,109,32]).size≤maxLen))
R))) (.callP (decT_c x1.src)
(.say (fun R=>ck (decide ((((((B [104,111,115,116,32])++(itoa x1.host))++(B [32,97,116,32]))++(itoa x1.router))++(B [32,102,114,111,109,32])).size+(itoa x1.src).size≤maxLen))
((ck (decide (((((((B [104,111,115,116,32])++(itoa x1.host))++(B [32,97,116,32]))++(itoa x1.router))++(B [32,102,114,111,109,32]))++(itoa x1.src)).size+(B [32,103,114,111,117,112,32]).size≤maxLen))
R))) (.callP (decT_c x1.grp)
(.say (fun R=>ck (decide ((((((((B [104,111,115,116,32])++(itoa x1.host))++(B [32,97,116,32]))++(itoa x1.router))++(B [32,102,114,111,109,32]))++(itoa x1.src))++(B [32,103,114,111,117,112,32])).size+(itoa x1.grp).size≤maxLen))
((ck (decide (((((((((B [104,111,115,116,32])++(itoa x1.host))++(B [32,97,116,32]))++(itoa x1.router))++(B [32,102,114,111,109,32]))++(itoa x1.src))++(B [32,103,114,111,117,112,32]))++(itoa x1.grp)).size+(B [32,98,121,116,101,115,32]).size≤maxLen))
R))) (.callP (decT_c (x1.data.size:Int))
(.say (fun R=>ck (decide ((((((((((B [104,111,115,116,32])++(itoa x1.host))++(B [32,97,116,32]))++(itoa x1.router))++(B [32,102,114,111,109,32]))++(itoa x1.src))++(B [32,103,114,111,117,112,32]))++(itoa x1.grp))++(B [32,98,121,116,101,115,32])).size+(itoa (x1.data.size:Int)).size≤maxLen))
((Rf (α:=List AV) (t0.2.map AV.str) (Rf (α:=List AV) [.str ((((((((((B [104,111,115,116,32])++(itoa x1.host))++(B [32,97,116,32]))++(itoa x1.router))++(B [32,102,114,111,109,32]))++(itoa x1.src))++(B [32,103,114,111,117,112,32]))++(itoa x1.grp))++(B [32,98,121,116,101,115,32]))++(itoa (x1.data.size:Int)))]
(ck (decide (t0.2.length+1≤1048576))
R))))) (.app 545 AV.str t0.2 [(((((((((B [104,111,115,116,32])++(itoa x1.host))++(B [32,97,116,32]))++(itoa x1.router))++(B [32,102,114,111,109,32]))++(itoa x1.src))++(B [32,103,114,111,117,112,32]))++(itoa x1.grp))++(B [32,98,121,116,101,115,32]))++(itoa (x1.data.size:Int))]
(.bk 0 b0 (W (t0.1+1),t0.2++[(((((((((B [104,111,115,116,32])++(itoa x1.host))++(B [32,97,116,32]))++(itoa x1.router))++(B [32,102,114,111,109,32]))++(itoa x1.src))++(B [32,103,114,111,117,112,32]))++(itoa x1.grp))++(B [32,98,121,116,101,115,32]))++(itoa (x1.data.size:Int))]) [545])))))))))))))
(.say (Rf (t0.2.map AV.str)) (.cmdL (.frzE 0 (t0.2.map AV.str) (pureBL_map (fun _=>rfl) t0.2)) (.ret (t0.2)))))))
def rcpsR_vc(l:(List Rcp))(I0:(Int×(List ByteArray))→Prop)(m0:(Int×(List ByteArray))→Nat)(r0:(List ByteArray)):Prop:=(rcpsR_x l I0 m0).vp rcpsR_e r0
theorem rcpsR_p(l:List Rcp)(h:l.length≤1000)(ok:rcpsR_a l):∃I m,rcpsR_vc l I m (l.map rcpT):=by
 refine ⟨fun q=>∃k:Nat,q.1=k∧k≤l.length∧q.2=(l.take k).map rcpT,fun q=>l.length-q.1.toNat,?_⟩
 simp only [rcpsR_a,okU,Blk.ok,plainV,List.length_map] at ok
 dsimp only [rcpsR_vc,rcpsR_x,rcpsR_s,Ax.vp,Ax.vc];simp only [vcU,rfU,List.length_map]
 refine ⟨⟨0,rfl,by omega,rfl⟩,?_⟩
 rintro ⟨i,r⟩ ⟨k,hi,hk,hr⟩
 simp only at hi hr ⊢
 subst hi;subst hr
 simp only [Int.toNat_natCast]
 refine ⟨fun c1=>⟨by omega,by omega,fun x hx=>?_⟩,fun c1=>by rw [List.take_of_length_le (by omega)]⟩
 have o:=okL_iff.mp ok.2 _ (List.mem_map_of_mem (mem_of_get hx))
 simp only [Rcp.v,okU,plainV] at o
 have hst:=lines_step (f:=rcpT) hx h
 have hml:=maxLen_eq
 have e:rcpT x=B [104,111,115,116,32]++itoa x.host++B [32,97,116,32]++itoa x.router++B [32,102,114,111,109,32]++itoa x.src++B [32,103,114,111,117,112,32]++itoa x.grp++B [32,98,121,116,101,115,32]++itoa x.data.size:=by
  rw [rcpT,words_eq]
  simp only [itoa,B_app]
  congr 1
  simp [Lib.join_cons,Lib.joinTail,Anyv.txt,itoa,B_data]
 rw [e] at hst
 have i1:=itoa_len o.1
 have i2:=itoa_len o.2.1
 have i3:=itoa_len o.2.2.1
 have i4:=itoa_len o.2.2.2.1
 have i5:=itoa_len (n:=x.data.size) ⟨by omega,by omega⟩
 simp only [ByteArray.size_append,B_size,List.length_cons,List.length_nil] at i1 i2 i3 i4 i5 ⊢
 exact ⟨by omega,by omega,by omega,by omega,by omega,by omega,by omega,by omega,by omega,hst.1,hst.2.1,hst.2.2⟩
def rcpsR_c(l:(List Rcp))(h:l.length≤1000):PC Tryd.prog:=⟨32,[(.s 5)],[.sl 5 (l.map Rcp.v) false],rcpsR_e (l.map rcpT),PSpec.of_ok fun ok=>(rcpsR_p l h ok).elim fun I0 h=>h.elim fun m0 h=>mxP_of (sh:=(.s 1)) (enc:=rcpsR_e) (a:=(rcpsR_x l I0 m0).an) h (by kernel_rfl) (AV.pureB_ok rfl),fnB_ok (by kernel_rfl)⟩
def audsR_a(l:(List Aud)):Prop:=okL [.sl 5 (l.map Aud.v) false]
def audsR_n0(l:(List Aud))(t0:Int×(List ByteArray)):NF:=⟨[(3,.k,.vec 0),(6,.k,.sl 5 (l.map Aud.v) false),(7,.k,.int ((l.map Aud.v).length:Int)),(8,.k,.int t0.1)],[.vec 1 (t0.2.map AV.str) (pureBL_map (fun _=>rfl) t0.2)]⟩
@[reducible] def audsR_s:Nat→Type
 | 0=>Int×(List ByteArray)
 | _=>Unit
def audsR_e(r:(List ByteArray)):AV:=.sl 1 (r.map AV.str) false
def audsR_x(l:(List Aud))(I0:(Int×(List ByteArray))→Prop)(m0:(Int×(List ByteArray))→Nat):Ax Tryd.prog audsR_s ((List ByteArray)):=
 (.cmdL (.nilT 3 1) (.loop 0 (audsR_n0 l) I0 m0 (0,[]) [80] fun (t0:Int×(List ByteArray)) b0 =>
(.br 17 (decide (t0.1<((l.map Aud.v).length:Int))) (.el 17 Aud.v l (fun R=>Rf (l.map Aud.v) (ck (decide (0≤t0.1)) (ck (decide (t0.1<(l.length:Int)))
(∀x1,l[t0.1.toNat]?=some x1 →
(R x1))))) fun x1 =>
(.callP (decT_c x1.ev)
(.say (fun R=>ck (decide ((B [101,118,101,110,116,32]).size+(itoa x1.ev).size≤maxLen))
((ck (decide (((B [101,118,101,110,116,32])++(itoa x1.ev)).size+(B [32]).size≤maxLen))
R))) (.callP (stlR_c x1.st)
(.say (fun R=>ck (decide ((((B [101,118,101,110,116,32])++(itoa x1.ev))++(B [32])).size+(stlT x1.st).size≤maxLen))
((ck (decide (((((B [101,118,101,110,116,32])++(itoa x1.ev))++(B [32]))++(stlT x1.st)).size+(B [32,109,105,115,115,105,110,103,32]).size≤maxLen))
R))) (.callP (decT_c x1.mis)
(.say (fun R=>ck (decide ((((((B [101,118,101,110,116,32])++(itoa x1.ev))++(B [32]))++(stlT x1.st))++(B [32,109,105,115,115,105,110,103,32])).size+(itoa x1.mis).size≤maxLen))
((ck (decide (((((((B [101,118,101,110,116,32])++(itoa x1.ev))++(B [32]))++(stlT x1.st))++(B [32,109,105,115,115,105,110,103,32]))++(itoa x1.mis)).size+(B [32,102,111,114,101,105,103,110,32]).size≤maxLen))
R))) (.callP (decT_c x1.frn)
(.say (fun R=>ck (decide ((((((((B [101,118,101,110,116,32])++(itoa x1.ev))++(B [32]))++(stlT x1.st))++(B [32,109,105,115,115,105,110,103,32]))++(itoa x1.mis))++(B [32,102,111,114,101,105,103,110,32])).size+(itoa x1.frn).size≤maxLen))
((ck (decide (((((((((B [101,118,101,110,116,32])++(itoa x1.ev))++(B [32]))++(stlT x1.st))++(B [32,109,105,115,115,105,110,103,32]))++(itoa x1.mis))++(B [32,102,111,114,101,105,103,110,32]))++(itoa x1.frn)).size+(B [32,114,101,112,101,97,116,101,100,32]).size≤maxLen))
R))) (.callP (decT_c x1.rep)
(.say (fun R=>ck (decide ((((((((((B [101,118,101,110,116,32])++(itoa x1.ev))++(B [32]))++(stlT x1.st))++(B [32,109,105,115,115,105,110,103,32]))++(itoa x1.mis))++(B [32,102,111,114,101,105,103,110,32]))++(itoa x1.frn))++(B [32,114,101,112,101,97,116,101,100,32])).size+(itoa x1.rep).size≤maxLen))
((Rf (α:=List AV) (t0.2.map AV.str) (Rf (α:=List AV) [.str ((((((((((B [101,118,101,110,116,32])++(itoa x1.ev))++(B [32]))++(stlT x1.st))++(B [32,109,105,115,115,105,110,103,32]))++(itoa x1.mis))++(B [32,102,111,114,101,105,103,110,32]))++(itoa x1.frn))++(B [32,114,101,112,101,97,116,101,100,32]))++(itoa x1.rep))]
(ck (decide (t0.2.length+1≤1048576))
R))))) (.app 497 AV.str t0.2 [(((((((((B [101,118,101,110,116,32])++(itoa x1.ev))++(B [32]))++(stlT x1.st))++(B [32,109,105,115,115,105,110,103,32]))++(itoa x1.mis))++(B [32,102,111,114,101,105,103,110,32]))++(itoa x1.frn))++(B [32,114,101,112,101,97,116,101,100,32]))++(itoa x1.rep)]
(.bk 0 b0 (W (t0.1+1),t0.2++[(((((((((B [101,118,101,110,116,32])++(itoa x1.ev))++(B [32]))++(stlT x1.st))++(B [32,109,105,115,115,105,110,103,32]))++(itoa x1.mis))++(B [32,102,111,114,101,105,103,110,32]))++(itoa x1.frn))++(B [32,114,101,112,101,97,116,101,100,32]))++(itoa x1.rep)]) [497])))))))))))))
(.say (Rf (t0.2.map AV.str)) (.cmdL (.frzE 0 (t0.2.map AV.str) (pureBL_map (fun _=>rfl) t0.2)) (.ret (t0.2)))))))
def audsR_vc(l:(List Aud))(I0:(Int×(List ByteArray))→Prop)(m0:(Int×(List ByteArray))→Nat)(r0:(List ByteArray)):Prop:=(audsR_x l I0 m0).vp audsR_e r0
theorem audsR_p(l:List Aud)(h:l.length≤1000)(ok:audsR_a l):∃I m,audsR_vc l I m (l.map audT):=by
 refine ⟨fun q=>∃k:Nat,q.1=k∧k≤l.length∧q.2=(l.take k).map audT,fun q=>l.length-q.1.toNat,?_⟩
 simp only [audsR_a,okU,Blk.ok,plainV,List.length_map] at ok
 dsimp only [audsR_vc,audsR_x,audsR_s,Ax.vp,Ax.vc];simp only [vcU,rfU,List.length_map]
 refine ⟨⟨0,rfl,by omega,rfl⟩,?_⟩
 rintro ⟨i,r⟩ ⟨k,hi,hk,hr⟩
 simp only at hi hr ⊢
 subst hi;subst hr
 simp only [Int.toNat_natCast]
 refine ⟨fun c1=>⟨by omega,by omega,fun x hx=>?_⟩,fun c1=>by rw [List.take_of_length_le (by omega)]⟩
 have o:=okL_iff.mp ok.2 _ (List.mem_map_of_mem (mem_of_get hx))
 simp only [Aud.v,okU,plainV] at o
 have hst:=lines_step (f:=audT) hx h
 have hml:=maxLen_eq
 have hq:(stlT x.st).size≤7:=by unfold stlT;split<;>(rw [B_size];decide)
 have e:audT x=B [101,118,101,110,116,32]++itoa x.ev++B [32]++stlT x.st++B [32,109,105,115,115,105,110,103,32]++itoa x.mis++B [32,102,111,114,101,105,103,110,32]++itoa x.frn++B [32,114,101,112,101,97,116,101,100,32]++itoa x.rep:=by
  rw [audT,words_eq]
  cases x.st
  ·simp only [itoa,stlT,B_app]
   congr 1
   simp [Lib.join_cons,Lib.joinTail,Anyv.txt,itoa,stlT,B_data]
  ·simp only [itoa,stlT,B_app]
   congr 1
   simp [Lib.join_cons,Lib.joinTail,Anyv.txt,itoa,stlT,B_data]
 rw [e] at hst
 have i1:=itoa_len o.1
 have i2:=itoa_len o.2.1
 have i3:=itoa_len o.2.2.1
 have i4:=itoa_len o.2.2.2
 simp only [ByteArray.size_append,B_size,List.length_cons,List.length_nil] at i1 i2 i3 i4 hq ⊢
 exact ⟨by omega,by omega,by omega,by omega,by omega,by omega,by omega,by omega,by omega,hst.1,hst.2.1,hst.2.2⟩
def audsR_c(l:(List Aud))(h:l.length≤1000):PC Tryd.prog:=⟨35,[(.s 5)],[.sl 5 (l.map Aud.v) false],audsR_e (l.map audT),PSpec.of_ok fun ok=>(audsR_p l h ok).elim fun I0 h=>h.elim fun m0 h=>mxP_of (sh:=(.s 1)) (enc:=audsR_e) (a:=(audsR_x l I0 m0).an) h (by kernel_rfl) (AV.pureB_ok rfl),fnB_ok (by kernel_rfl)⟩
def fndsR_a(l:(List Fnd)):Prop:=okL [.sl 4 (l.map Fnd.v) false]
def fndsR_n0(l:(List Fnd))(t0:Int×(List ByteArray)):NF:=⟨[(3,.k,.vec 0),(7,.k,.sl 4 (l.map Fnd.v) false),(8,.k,.int ((l.map Fnd.v).length:Int)),(9,.k,.int t0.1)],[.vec 1 (t0.2.map AV.str) (pureBL_map (fun _=>rfl) t0.2)]⟩
def fndsR_n1(l:(List Fnd))(t0:Int×(List ByteArray))(x1:Fnd)(t1:ByteArray):NF:=⟨[(3,.k,.vec 0),(5,.k,.ref 1 0),(6,.k,.str t1),(7,.k,.sl 4 (l.map Fnd.v) false),(8,.k,.int ((l.map Fnd.v).length:Int)),(9,.k,.int t0.1)],[.vec 1 (t0.2.map AV.str) (pureBL_map (fun _=>rfl) t0.2),.box (.agg [.int x1.kind,.int x1.router,.int x1.id,.int x1.got])]⟩
def fndsR_n2(l:(List Fnd))(t0:Int×(List ByteArray))(x1:Fnd)(t2:Bool):NF:=⟨[(3,.k,.vec 0),(5,.k,.ref 1 0),(6,.k,.str (B [63])),(7,.k,.sl 4 (l.map Fnd.v) false),(8,.k,.int ((l.map Fnd.v).length:Int)),(9,.k,.int t0.1),(20,.k,.bool t2)],[.vec 1 (t0.2.map AV.str) (pureBL_map (fun _=>rfl) t0.2),.box (.agg [.int x1.kind,.int x1.router,.int x1.id,.int x1.got])]⟩
@[reducible] def fndsR_s:Nat→Type
 | 0=>Int×(List ByteArray)
 | 1=>ByteArray
 | 2=>Bool
 | _=>Unit
def fndsR_e(r:(List ByteArray)):AV:=.sl 1 (r.map AV.str) false
def fndsR_x(l:(List Fnd))(I0:(Int×(List ByteArray))→Prop)(m0:(Int×(List ByteArray))→Nat)(I1:Int×(List ByteArray)→Fnd→ByteArray→Prop)(I2:Int×(List ByteArray)→Fnd→Bool→Prop):Ax Tryd.prog fndsR_s ((List ByteArray)):=
 (.cmdL (.nilT 3 1) (.loop 0 (fndsR_n0 l) I0 m0 (0,[]) [80] fun (t0:Int×(List ByteArray)) b0 =>
(.br 17 (decide (t0.1<((l.map Fnd.v).length:Int))) (.el 17 Fnd.v l (fun R=>Rf (l.map Fnd.v) (ck (decide (0≤t0.1)) (ck (decide (t0.1<(l.length:Int)))
(∀x1,l[t0.1.toNat]?=some x1 →
(R x1))))) fun x1 =>
(.pass (.join 1 (fndsR_n1 l t0 x1) (fun (t1:ByteArray)=>I1 t0 x1 t1) (fun b1=>(.join 2 (fndsR_n2 l t0 x1) (fun (t2:Bool)=>I2 t0 x1 t2) (fun b2=>(.br 161 (decide (1≤x1.kind)) (.bk 2 b2 ((decide (x1.kind≤5)):Bool) [0,49])
(.bk 2 b2 ((false):Bool) [0,49]))) fun (t2:Bool) =>
(.br 2 t2 (.el 66 AV.str [B [109,105,115,115,105,110,103],B [102,111,114,101,105,103,110],B [116,119,105,99,101],B [114,111,117,116,101,114],B [114,111,119]] (fun R=>Rf (α:=List AV) [.str (B [109,105,115,115,105,110,103]),.str (B [102,111,114,101,105,103,110]),.str (B [116,119,105,99,101]),.str (B [114,111,117,116,101,114]),.str (B [114,111,119])] (ck (decide (0≤(W (x1.kind-1)))) (ck (decide ((W (x1.kind-1))<([B [109,105,115,115,105,110,103],B [102,111,114,101,105,103,110],B [116,119,105,99,101],B [114,111,117,116,101,114],B [114,111,119]].length:Int)))
(∀x2,[B [109,105,115,115,105,110,103],B [102,111,114,101,105,103,110],B [116,119,105,99,101],B [114,111,117,116,101,114],B [114,111,119]][(W (x1.kind-1)).toNat]?=some x2 →
(R x2))))) fun x2 =>
(.bk 1 b1 ((x2):ByteArray) [0,1]))
(.bk 1 b1 ((B [63]):ByteArray) [0,1])))) fun (t1:ByteArray) =>
(.say (ck (decide (t1.size+(B [32,114,111,117,116,101,114,32]).size≤maxLen))) (.callP (decT_c x1.router)
(.say (fun R=>ck (decide ((t1++(B [32,114,111,117,116,101,114,32])).size+(itoa x1.router).size≤maxLen))
((ck (decide (((t1++(B [32,114,111,117,116,101,114,32]))++(itoa x1.router)).size+(B [32,105,100,32]).size≤maxLen))
R))) (.callP (decT_c x1.id)
(.say (fun R=>ck (decide ((((t1++(B [32,114,111,117,116,101,114,32]))++(itoa x1.router))++(B [32,105,100,32])).size+(itoa x1.id).size≤maxLen))
((ck (decide (((((t1++(B [32,114,111,117,116,101,114,32]))++(itoa x1.router))++(B [32,105,100,32]))++(itoa x1.id)).size+(B [32,103,111,116,32]).size≤maxLen))
R))) (.callP (decT_c x1.got)
(.say (fun R=>ck (decide ((((((t1++(B [32,114,111,117,116,101,114,32]))++(itoa x1.router))++(B [32,105,100,32]))++(itoa x1.id))++(B [32,103,111,116,32])).size+(itoa x1.got).size≤maxLen))
((Rf (α:=List AV) (t0.2.map AV.str) (Rf (α:=List AV) [.str ((((((t1++(B [32,114,111,117,116,101,114,32]))++(itoa x1.router))++(B [32,105,100,32]))++(itoa x1.id))++(B [32,103,111,116,32]))++(itoa x1.got))]
(ck (decide (t0.2.length+1≤1048576))
R))))) (.app 290 AV.str t0.2 [(((((t1++(B [32,114,111,117,116,101,114,32]))++(itoa x1.router))++(B [32,105,100,32]))++(itoa x1.id))++(B [32,103,111,116,32]))++(itoa x1.got)]
(.bk 0 b0 (W (t0.1+1),t0.2++[(((((t1++(B [32,114,111,117,116,101,114,32]))++(itoa x1.router))++(B [32,105,100,32]))++(itoa x1.id))++(B [32,103,111,116,32]))++(itoa x1.got)]) [290]))))))))))))
(.say (Rf (t0.2.map AV.str)) (.cmdL (.frzE 0 (t0.2.map AV.str) (pureBL_map (fun _=>rfl) t0.2)) (.ret (t0.2)))))))
def fndsR_vc(l:(List Fnd))(I0:(Int×(List ByteArray))→Prop)(m0:(Int×(List ByteArray))→Nat)(I1:Int×(List ByteArray)→Fnd→ByteArray→Prop)(I2:Int×(List ByteArray)→Fnd→Bool→Prop)(r0:(List ByteArray)):Prop:=(fndsR_x l I0 m0 I1 I2).vp fndsR_e r0
theorem fndsR_p(l:List Fnd)(h:l.length≤1000)(ok:fndsR_a l):∃I m J J2,fndsR_vc l I m J J2 (l.map fndT):=by
 refine ⟨fun q=>∃k:Nat,q.1=k∧k≤l.length∧q.2=(l.take k).map fndT,fun q=>l.length-q.1.toNat,fun _ x s=>s=kindT x,fun _ x b=>b=decide (0<x.kind∧x.kind<6),?_⟩
 simp only [fndsR_a,okU,Blk.ok,plainV,List.length_map] at ok
 dsimp only [fndsR_vc,fndsR_x,fndsR_s,Ax.vp,Ax.vc];simp only [vcU,rfU,List.length_map]
 refine ⟨⟨0,rfl,by omega,rfl⟩,?_⟩
 rintro ⟨i,r⟩ ⟨k,hi,hk,hr⟩
 simp only at hi hr ⊢
 subst hi;subst hr
 simp only [Int.toNat_natCast]
 refine ⟨fun c1=>⟨by omega,by omega,fun x hx=>?_⟩,fun c1=>by rw [List.take_of_length_le (by omega)]⟩
 have hml:=maxLen_eq
 have o:=okL_iff.mp ok.2 _ (List.mem_map_of_mem (mem_of_get hx))
 simp only [Fnd.v,okU,plainV] at o
 have hst:=lines_step (f:=fndT) hx h
 refine ⟨⟨⟨fun q=>by simp only [decide_eq_decide];omega,fun q=>(decide_eq_false (by omega)).symm⟩,?_⟩,?_⟩
 ·rintro _ rfl
  refine ⟨fun q=>?_,fun q=>?_⟩
  ·have q:0<x.kind∧x.kind<6:=of_decide_eq_true q
   have w:W (x.kind-1)=x.kind-1:=W_eq (by omega)
   rw [w]
   refine ⟨by omega,by simp;omega,fun y hy=>?_⟩
   rw [kindT,if_pos q]
   have:x.kind=1∨x.kind=2∨x.kind=3∨x.kind=4∨x.kind=5:=by omega
   rcases this with e|e|e|e|e<;>rw [e] at hy ⊢<;>exact (Option.some.inj hy).symm
  ·have q:¬(0<x.kind∧x.kind<6):=of_decide_eq_false q
   rw [kindT,if_neg q]
 rintro _ rfl
 have hq:(kindT x).size≤7:=by
  unfold kindT;split
  ·rename_i q
   have:x.kind.toNat=1∨x.kind.toNat=2∨x.kind.toNat=3∨x.kind.toNat=4∨x.kind.toNat=5:=by omega
   rcases this with e|e|e|e|e<;>(rw [e];show (B _).size≤7;rw [B_size];decide)
  ·rw [B_size];decide
 have e:fndT x=kindT x++B [32,114,111,117,116,101,114,32]++itoa x.router++B [32,105,100,32]++itoa x.id++B [32,103,111,116,32]++itoa x.got:=by
  rw [fndT,words_eq]
  have hk:kindT x=B (kindT x).data.toList:=(B_of _).symm
  rw [hk]
  simp only [itoa,B_app]
  congr 1
  simp [Lib.join_cons,Lib.joinTail,Anyv.txt,itoa,B_data]
 rw [e] at hst
 have i2:=itoa_len o.2.1
 have i3:=itoa_len o.2.2.1
 have i4:=itoa_len o.2.2.2
 simp only [ByteArray.size_append,B_size,List.length_cons,List.length_nil] at i2 i3 i4 hq ⊢
 exact ⟨by omega,by omega,by omega,by omega,by omega,by omega,hst.1,hst.2.1,hst.2.2⟩
def fndsR_c(l:(List Fnd))(h:l.length≤1000):PC Tryd.prog:=⟨34,[(.s 4)],[.sl 4 (l.map Fnd.v) false],fndsR_e (l.map fndT),PSpec.of_ok fun ok=>(fndsR_p l h ok).elim fun I0 h=>h.elim fun m0 h=>h.elim fun I1 h=>h.elim fun I2 h=>mxP_of (sh:=(.s 1)) (enc:=fndsR_e) (a:=(fndsR_x l I0 m0 I1 I2).an) h (by kernel_rfl) (AV.pureB_ok rfl),fnB_ok (by kernel_rfl)⟩
end Go.Proofs.YthhpaedpnjdnbaaDoor
namespace Go.Proofs.YthhpaedpnjdnbaaDoor
open Go Go.Am
def bentF(L:List Int)(p:Nat)(f:Flt):Flt×Nat:=
 if Mod (rawV L p) 4=0 then (⟨rng L (rawP L p) 0 3,f.srcs⟩,rawP L (rawP L p))
 else if Mod (rawV L p) 4=1 then (⟨f.mode,f.srcs++[pickI [0,1,99,100] (rawV L (rawP L p))]⟩,rawP L (rawP L p))
 else if Mod (rawV L p) 4=2 then (if 0<(f.srcs.length:Int) then ⟨f.mode,f.srcs++[f.srcs.getD 0 0]⟩ else f,rawP L p)
 else if 0<(f.srcs.length:Int) then (⟨f.mode,f.srcs.set 0 (pickI [-1,0,100] (rawV L (rawP L p)))⟩,rawP L (rawP L p)) else (f,rawP L p)
def bentF_a(L:(List Int))(p:Nat)(f:Flt):Prop:=okL [.ref 0 0,.agg [.int f.mode,.sl 1 (f.srcs.map AV.int) false]]∧(.box (.agg [.sl 1 (L.map AV.int) false,.int ((p:Nat):Int)]):Blk).ok
def bentF_e(r:Tap×Flt):AV:=.agg [.int r.2.mode,.sl 1 (r.2.srcs.map AV.int) false]
def bentF_b(r:Tap×Flt):List (Option Blk):=[some (.box (.agg [.sl 1 (r.1.L.map AV.int) false,.int ((r.1.p:Nat):Int)]))]
def bentF_x(L:(List Int))(p:Nat)(f:Flt):Ax Tryd.prog noS (Tap×Flt):=
 (.say (fun R=>Rf (α:=List AV) [] (Rf (α:=List AV) (f.srcs.map AV.int)
(ck (decide (0+f.srcs.length≤1048576))
R))) (.app 113 AV.int [] f.srcs
(.callH [0] (N_h L p 4) 193
(.br 241 ((Mod (rawV L p) 4)==0) (.callH [0] (Range_h L (rawP L p) 0 3) 257
(.say (Rf (f.srcs.map AV.int)) (.cmdL (.frzE 113 (f.srcs.map AV.int) (pureBL_map (fun _=>rfl) f.srcs)) (.retH ((⟨L,rawP L (rawP L p)⟩:Tap),(⟨rng L (rawP L p) 0 3,f.srcs⟩:Flt)) ⟨[(4,.k,.ref 1 0)],[.box (.agg [.sl 1 (L.map AV.int) false,.int (((rawP L (rawP L p)):Nat):Int)]),.box (.agg [.int (rng L (rawP L p) 0 3),.sl 1 (f.srcs.map AV.int) false])]⟩ [0,17]))))
(.br 273 ((Mod (rawV L p) 4)==1) (.req 337 ([0,1,99,100]≠[]) fun h1 =>
(.callH [0] (Pick_h L (rawP L p) [0,1,99,100] h1) 337
(.say (fun R=>Rf (α:=List AV) (f.srcs.map AV.int) (Rf (α:=List AV) [.int (pickI [0,1,99,100] (rawV L (rawP L p)))]
(ck (decide (f.srcs.length+1≤1048576))
R))) (.app 369 AV.int f.srcs [pickI [0,1,99,100] (rawV L (rawP L p))]
(.say (Rf ((f.srcs++[pickI [0,1,99,100] (rawV L (rawP L p))]).map AV.int)) (.cmdL (.frzE 369 ((f.srcs++[pickI [0,1,99,100] (rawV L (rawP L p))]).map AV.int) (pureBL_map (fun _=>rfl) (f.srcs++[pickI [0,1,99,100] (rawV L (rawP L p))]))) (.retH ((⟨L,rawP L (rawP L p)⟩:Tap),(⟨f.mode,f.srcs++[pickI [0,1,99,100] (rawV L (rawP L p))]⟩:Flt)) ⟨[(4,.k,.ref 1 0)],[.box (.agg [.sl 1 (L.map AV.int) false,.int (((rawP L (rawP L p)):Nat):Int)]),.box (.agg [.int f.mode,.sl 1 ((f.srcs++[pickI [0,1,99,100] (rawV L (rawP L p))]).map AV.int) false])]⟩ [0,17])))))))
(.br 305 ((Mod (rawV L p) 4)==2) (.br 369 (decide (0<((f.srcs.map AV.int).length:Int))) (.say (ck (decide (0<((f.srcs.map AV.int).length:Int)))) (.el 449 AV.int f.srcs (fun R=>Rf (f.srcs.map AV.int) (ck (decide (0<f.srcs.length))
(∀x2,f.srcs[0]?=some x2 →
(R x2)))) fun x2 =>
(.say (fun R=>Rf (α:=List AV) (f.srcs.map AV.int) (Rf (α:=List AV) [.int x2]
(ck (decide (f.srcs.length+1≤1048576))
R))) (.app 481 AV.int f.srcs [x2]
(.say (Rf ((f.srcs++[x2]).map AV.int)) (.cmdL (.frzE 481 ((f.srcs++[x2]).map AV.int) (pureBL_map (fun _=>rfl) (f.srcs++[x2]))) (.retH ((⟨L,rawP L p⟩:Tap),(⟨f.mode,f.srcs++[x2]⟩:Flt)) ⟨[(4,.k,.ref 1 0)],[.box (.agg [.sl 1 (L.map AV.int) false,.int (((rawP L p):Nat):Int)]),.box (.agg [.int f.mode,.sl 1 ((f.srcs++[x2]).map AV.int) false])]⟩ [0,17])))))))
(.say (Rf (f.srcs.map AV.int)) (.cmdL (.frzE 113 (f.srcs.map AV.int) (pureBL_map (fun _=>rfl) f.srcs)) (.retH ((⟨L,rawP L p⟩:Tap),f) ⟨[(4,.k,.ref 1 0)],[.box (.agg [.sl 1 (L.map AV.int) false,.int (((rawP L p):Nat):Int)]),.box (.agg [.int f.mode,.sl 1 (f.srcs.map AV.int) false])]⟩ [0,17]))))
(.br 369 (decide (0<((f.srcs.map AV.int).length:Int))) (.req 433 ([-1,0,100]≠[]) fun h3 =>
(.callH [0] (Pick_h L (rawP L p) [-1,0,100] h3) 433
(.say (ck (decide (0<((f.srcs.map AV.int).length:Int)))) (.st 465 AV.int f.srcs (fun y4=>(pickI [-1,0,100] (rawV L (rawP L p)))) (fun R=>Rf (f.srcs.map AV.int) (ck (decide (0<f.srcs.length))
(∀y4,f.srcs[0]?=some y4→Rf (AV.int (pickI [-1,0,100] (rawV L (rawP L p))))
((R y4))))) fun y4 =>
(.say (Rf ((f.srcs.set 0 (pickI [-1,0,100] (rawV L (rawP L p)))).map AV.int)) (.cmdL (.frzE 113 ((f.srcs.set 0 (pickI [-1,0,100] (rawV L (rawP L p)))).map AV.int) (pureBL_map (fun _=>rfl) (f.srcs.set 0 (pickI [-1,0,100] (rawV L (rawP L p)))))) (.retH ((⟨L,rawP L (rawP L p)⟩:Tap),(⟨f.mode,f.srcs.set 0 (pickI [-1,0,100] (rawV L (rawP L p)))⟩:Flt)) ⟨[(4,.k,.ref 1 0)],[.box (.agg [.sl 1 (L.map AV.int) false,.int (((rawP L (rawP L p)):Nat):Int)]),.box (.agg [.int f.mode,.sl 1 ((f.srcs.set 0 (pickI [-1,0,100] (rawV L (rawP L p)))).map AV.int) false])]⟩ [0,17])))))))
(.say (Rf (f.srcs.map AV.int)) (.cmdL (.frzE 113 (f.srcs.map AV.int) (pureBL_map (fun _=>rfl) f.srcs)) (.retH ((⟨L,rawP L p⟩:Tap),f) ⟨[(4,.k,.ref 1 0)],[.box (.agg [.sl 1 (L.map AV.int) false,.int (((rawP L p):Nat):Int)]),.box (.agg [.int f.mode,.sl 1 (f.srcs.map AV.int) false])]⟩ [0,17]))))))))))
def bentF_vc(L:(List Int))(p:Nat)(f:Flt)(r0:Tap×Flt):Prop:=(bentF_x L p f).vc bentF_e bentF_b r0
theorem bentF_p(L:List Int)(p:Nat)(f:Flt)(h:f.srcs.length≤900000)(ok:bentF_a L p f):bentF_vc L p f ((⟨L,(bentF L p f).2⟩:Tap),(bentF L p f).1):=by
 dsimp only [bentF_vc,bentF_x,noS,Ax.vp,Ax.vc];simp only [vcU,rfU,List.length_map]
 refine ⟨by omega,fun c=>by simp [bentF,eq_of_beq c],fun c0=>?_⟩
 have c0:¬Mod (rawV L p) 4=0:=by simpa using c0
 refine ⟨fun c=>⟨by simp,by omega,by simp [bentF,eq_of_beq c]⟩,fun c1=>?_⟩
 have c1:¬Mod (rawV L p) 4=1:=by simpa using c1
 refine ⟨fun c=>⟨fun q=>⟨q,by omega,fun x hx=>⟨by omega,?_⟩⟩,fun q=>?_⟩,fun c2=>?_⟩
 ·have c:=eq_of_beq c
  have hx:f.srcs.getD 0 0=x:=by rw [List.getD_eq_getElem?_getD,hx];rfl
  rw [bentF,if_neg c0,if_neg c1,if_pos c,if_pos q,hx]
 ·have c:=eq_of_beq c
  rw [bentF,if_neg c0,if_neg c1,if_pos c,if_neg q]
 have c2:¬Mod (rawV L p) 4=2:=by simpa using c2
 refine ⟨fun q=>⟨by simp,q,by omega,fun x hx=>?_⟩,fun q=>?_⟩
 ·rw [bentF,if_neg c0,if_neg c1,if_neg c2,if_pos q]
 ·rw [bentF,if_neg c0,if_neg c1,if_neg c2,if_neg q]
def bentF_h(L:(List Int))(p:Nat)(f:Flt)(h:f.srcs.length≤900000):HC Tryd.prog:=⟨27,[.k,(.a [.k,(.s 1)])],[.ref 0 0,.agg [.int f.mode,.sl 1 (f.srcs.map AV.int) false]],[.box (.agg [.sl 1 (L.map AV.int) false,.int ((p:Nat):Int)])],bentF_e ((⟨L,(bentF L p f).2⟩:Tap),(bentF L p f).1),bentF_b ((⟨L,(bentF L p f).2⟩:Tap),(bentF L p f).1),HSpec.of_okh fun ok ok2=>have ok:bentF_a L p f:=⟨ok,ok2 _ (by simp)⟩;mxH_of (sh:=(.a [.k,(.s 1)])) (enc:=bentF_e) (hB:=bentF_b) (a:=(bentF_x L p f).an) (bentF_p L p f h ok) (by kernel_rfl),fnB_ok (by kernel_rfl),HcOk.of (by simp [hcB,belBL,AV.belB,allB,okBk,okBkO,bentF_e,bentF_b,pureBL_map (v:=AV.int) (fun _=>rfl)])⟩
theorem bentF_len{L:List Int}{p:Nat}{f:Flt}:(bentF L p f).1.srcs.length≤f.srcs.length+1:=by
 unfold bentF
 repeat' split
 all_goals simp
def rtrT(L:List Int)(p:Nat)(a:Tpl):Int×Nat:=
 if a.rs=[] then (pickI [0,98,100] (rawV L p),rawP L p)
 else if Mod (rawV L p) 40=39 then (pickI [0,98,100] (rawV L (rawP L p)),rawP L (rawP L p))
 else ((a.rs.getD (Mod (rawV L (rawP L p)) a.rs.length).toNat ⟨0,false⟩).id,rawP L (rawP L p))
def rtrT_a(L:(List Int))(p:Nat)(a1:Tpl):Prop:=okL [.ref 0 0,.agg [.sl 2 (a1.rs.map Rtr.v) false,.sl 5 (a1.ls.map Lnk.v) false]]∧(.box (.agg [.sl 1 (L.map AV.int) false,.int ((p:Nat):Int)]):Blk).ok
def rtrT_n0(L:(List Int))(a1:Tpl)(t0:Bool×Nat):NF:=⟨[(0,.k,.ref 0 0),(3,.k,.ref 1 0),(13,.k,.bool t0.1)],[.box (.agg [.sl 1 (L.map AV.int) false,.int ((t0.2:Nat):Int)]),.box (.agg [.sl 2 (a1.rs.map Rtr.v) false,.sl 5 (a1.ls.map Lnk.v) false])]⟩
@[reducible] def rtrT_s:Nat→Type
 | 0=>Bool×Nat
 | _=>Unit
def rtrT_e(r:Tap×Int):AV:=.int r.2
def rtrT_b(r:Tap×Int):List (Option Blk):=[some (.box (.agg [.sl 1 (r.1.L.map AV.int) false,.int ((r.1.p:Nat):Int)]))]
def rtrT_x(L:(List Int))(p:Nat)(a1:Tpl)(I0:(Bool×Nat)→Prop):Ax Tryd.prog rtrT_s (Tap×Int):=
 (.pass (.pass (.join 0 (rtrT_n0 L a1) (fun (t0:Bool×Nat)=>I0 t0) (fun b0=>(.br 113 (((a1.rs.map Rtr.v).length:Int)==0) (.bk 0 b0 (true,p) [0,1])
(.callH [0] (N_h L p 40) 129
(.bk 0 b0 ((Mod (rawV L p) 40)==39,rawP L p) [0,1])))) fun (t0:Bool×Nat) =>
(.br 2 t0.1 (.req 34 ([0,98,100]≠[]) fun h1 =>
(.callH [0] (Pick_h L t0.2 [0,98,100] h1) 34
(.retH ((⟨L,rawP L t0.2⟩:Tap),pickI [0,98,100] (rawV L t0.2)) ⟨[(4,.k,.int (pickI [0,98,100] (rawV L t0.2)))],[.box (.agg [.sl 1 (L.map AV.int) false,.int (((rawP L t0.2):Nat):Int)])]⟩ [0])))
(.callH [0] (N_h L t0.2 ((a1.rs.map Rtr.v).length:Int)) 98
(.el 114 Rtr.v a1.rs (fun R=>Rf (a1.rs.map Rtr.v) (ck (decide (0≤(Mod (rawV L t0.2) ((a1.rs.map Rtr.v).length:Int)))) (ck (decide ((Mod (rawV L t0.2) ((a1.rs.map Rtr.v).length:Int))<(a1.rs.length:Int)))
(∀x2,a1.rs[(Mod (rawV L t0.2) ((a1.rs.map Rtr.v).length:Int)).toNat]?=some x2 →
(R x2))))) fun x2 =>
(.retH ((⟨L,rawP L t0.2⟩:Tap),x2.id) ⟨[(4,.k,.int x2.id)],[.box (.agg [.sl 1 (L.map AV.int) false,.int (((rawP L t0.2):Nat):Int)])]⟩ [0])))))))
def rtrT_vc(L:(List Int))(p:Nat)(a1:Tpl)(I0:(Bool×Nat)→Prop)(r0:Tap×Int):Prop:=(rtrT_x L p a1 I0).vc rtrT_e rtrT_b r0
theorem rtrT_p(L:List Int)(p:Nat)(a:Tpl)(ok:rtrT_a L p a):∃I,rtrT_vc L p a I ((⟨L,(rtrT L p a).2⟩:Tap),(rtrT L p a).1):=by
 refine ⟨fun t=>t=if a.rs=[] then (true,p) else (decide (Mod (rawV L p) 40=39),rawP L p),?_⟩
 dsimp only [rtrT_vc,rtrT_x,rtrT_s,Ax.vp,Ax.vc];simp only [vcU,rfU,List.length_map]
 refine ⟨⟨fun c=>?_,fun c=>?_⟩,?_⟩
 ·have:a.rs=[]:=List.eq_nil_of_length_eq_zero (by have:=eq_of_beq c;omega)
  rw [if_pos this]
 ·have:¬a.rs=[]:=fun e=>by rw [e] at c;simp at c
  rw [if_neg this]
  by_cases d:Mod (rawV L p) 40=39<;>simp [d]
 rintro ⟨b,q⟩ hb
 by_cases e:a.rs=[]
 ·rw [if_pos e] at hb
  cases hb
  refine ⟨fun _=>⟨by simp,by rw [rtrT,if_pos e]⟩,fun c=>by simp at c⟩
 ·rw [if_neg e] at hb
  simp only [Prod.mk.injEq] at hb
  obtain ⟨rfl,rfl⟩:=hb
  have hl:0<a.rs.length:=List.length_pos_iff.mpr e
  have hm:=Mod_range (x:=rawV L (rawP L p)) (show 1≤(a.rs.length:Int) by omega)
  refine ⟨fun c=>⟨by simp,?_⟩,fun c=>⟨by simp only;omega,by simp only;omega,fun x hx=>?_⟩⟩
  ·have c:=of_decide_eq_true c
   rw [rtrT,if_neg e,if_pos c]
  ·have c:=of_decide_eq_false c
   rw [rtrT,if_neg e,if_neg c,List.getD_eq_getElem?_getD,hx];rfl
def rtrT_h(L:(List Int))(p:Nat)(a1:Tpl):HC Tryd.prog:=⟨23,[.k,(.a [(.s 2),(.s 5)])],[.ref 0 0,.agg [.sl 2 (a1.rs.map Rtr.v) false,.sl 5 (a1.ls.map Lnk.v) false]],[.box (.agg [.sl 1 (L.map AV.int) false,.int ((p:Nat):Int)])],rtrT_e ((⟨L,(rtrT L p a1).2⟩:Tap),(rtrT L p a1).1),rtrT_b ((⟨L,(rtrT L p a1).2⟩:Tap),(rtrT L p a1).1),HSpec.of_okh fun ok ok2=>have ok:rtrT_a L p a1:=⟨ok,ok2 _ (by simp)⟩;(rtrT_p L p a1 ok).elim fun I0 h=>mxH_of (sh:=.k) (enc:=rtrT_e) (hB:=rtrT_b) (a:=(rtrT_x L p a1 I0).an) h (by kernel_rfl),fnB_ok (by kernel_rfl),HcOk.of (by simp [hcB,belBL,AV.belB,allB,okBk,okBkO,rtrT_e,rtrT_b,pureBL_map (v:=AV.int) (fun _=>rfl),pureBL_map (v:=Lnk.v) (fun _=>rfl),pureBL_map (v:=Rtr.v) (fun _=>rfl)])⟩
theorem asc_len{hi:Int}:∀{l:List Int} {lo:Int},l.Pairwise (·<·)→(∀x∈l,lo≤x∧x≤hi)→lo≤hi+1→lo+l.length≤hi+1
 | [],lo,_,_,h=>by simpa using h
 | x::r,lo,hp,hl,h=>by
  rw [List.pairwise_cons] at hp
  have h1:=hl x (by simp)
  have:=asc_len (hi:=hi) (l:=r) (lo:=x+1) hp.2 (fun y hy=>by have:=hp.1 y hy;have:=hl y (by simp [hy]);omega) (by omega)
  rw [List.length_cons];omega
theorem flt_ok{m:Int}{s:List Int}(h:fltErr m s=0):okM m∧s.length≤99:=by
 unfold fltErr at h
 by_cases c:m=1∨m=2
 ·rw [if_neg (not_not_intro c)] at h
  by_cases c2:rngI s
  ·rw [if_neg (not_not_intro c2)] at h
   by_cases c3:ascI s
   ·refine ⟨c,?_⟩
    have:=asc_len (hi:=99) (lo:=1) (asc_pw.mp c3) (fun x hx=>c2 x hx) (by omega)
    omega
   ·rw [if_pos c3] at h;simp at h
  ·rw [if_pos c2] at h;simp at h
 ·rw [if_pos c] at h;simp at h
theorem wants_ok{w:List Wnt}(h:WOk 7 w):(∀x∈w,okM x.mode)∧w.length≤6∧∀x∈w,x.srcs.length≤1048576:=
 ⟨fun x hx=>(flt_ok (h.flt x hx)).1,by have:=h.len;omega,fun x hx=>by have:=(flt_ok (h.flt x hx)).2;omega⟩
def textsL_a(t:(List Int))(f:Flt)(w:(List Wnt))(x:Tre)(l:(List Rcp))(g:(List Fnd))(a:(List Aud)):Prop:=okL [.sl 1 (t.map AV.int) false,.agg [.int f.mode,.sl 1 (f.srcs.map AV.int) false],.sl 3 (w.map Wnt.v) false,.agg [.int x.root,.sl 2 (x.ls.map Hop.v) false],.sl 5 (l.map Rcp.v) false,.sl 4 (g.map Fnd.v) false,.sl 5 (a.map Aud.v) false]
def textsL_n0(t:(List Int))(f:Flt)(w:(List Wnt))(x:Tre)(l:(List Rcp))(g:(List Fnd))(a:(List Aud))(t0:Bool):NF:=⟨[(0,.k,.sl 1 (t.map AV.int) false),(2,.k,.sl 3 (w.map Wnt.v) false),(4,.k,.sl 5 (l.map Rcp.v) false),(5,.k,.sl 4 (g.map Fnd.v) false),(6,.k,.sl 5 (a.map Aud.v) false),(8,.k,.ref 0 0),(10,.k,.ref 1 0),(52,.k,.bool t0)],[.box (.agg [.int f.mode,.sl 1 (f.srcs.map AV.int) false]),.box (.agg [.int x.root,.sl 2 (x.ls.map Hop.v) false])]⟩
def textsL_n1(f:Flt)(w:(List Wnt))(x:Tre)(l:(List Rcp))(g:(List Fnd))(a:(List Aud))(t1:Tap):NF:=⟨[(2,.k,.sl 3 (w.map Wnt.v) false),(4,.k,.sl 5 (l.map Rcp.v) false),(5,.k,.sl 4 (g.map Fnd.v) false),(6,.k,.sl 5 (a.map Aud.v) false),(8,.k,.ref 0 0),(10,.k,.ref 1 0),(15,.k,.ref 2 0)],[.box (.agg [.int f.mode,.sl 1 (f.srcs.map AV.int) false]),.box (.agg [.int x.root,.sl 2 (x.ls.map Hop.v) false]),.box (.agg [.sl 1 (t1.L.map AV.int) false,.int ((t1.p:Nat):Int)])]⟩
def textsL_n2(f:Flt)(w:(List Wnt))(x:Tre)(l:(List Rcp))(g:(List Fnd))(a:(List Aud))(t1:Tap)(t2:Int):NF:=⟨[(2,.k,.sl 3 (w.map Wnt.v) false),(4,.k,.sl 5 (l.map Rcp.v) false),(5,.k,.sl 4 (g.map Fnd.v) false),(6,.k,.sl 5 (a.map Aud.v) false),(10,.k,.ref 0 0),(15,.k,.ref 1 0),(63,.k,.sl 2 [.agg [.int f.mode,.sl 1 (f.srcs.map AV.int) false],(Flt.v ((filterT t1.L t1.p).1)),.agg [.int (((bentF t1.L ((filterT t1.L ((filterT t1.L t1.p).2)).2) ((filterT t1.L ((filterT t1.L t1.p).2)).1)).1).mode),.sl 1 ((((bentF t1.L ((filterT t1.L ((filterT t1.L t1.p).2)).2) ((filterT t1.L ((filterT t1.L t1.p).2)).1)).1).srcs).map AV.int) false]] true),(64,.k,.int 3),(65,.k,.int t2)],[.box (.agg [.int x.root,.sl 2 (x.ls.map Hop.v) false]),.box (.agg [.sl 1 (t1.L.map AV.int) false,.int ((((bentF t1.L ((filterT t1.L ((filterT t1.L t1.p).2)).2) ((filterT t1.L ((filterT t1.L t1.p).2)).1)).2):Nat):Int)])]⟩
def textsL_n3(f:Flt)(w:(List Wnt))(x:Tre)(l:(List Rcp))(g:(List Fnd))(a:(List Aud))(t1:Tap)(t2:Int)(t3:Bool):NF:=⟨[(2,.k,.sl 3 (w.map Wnt.v) false),(4,.k,.sl 5 (l.map Rcp.v) false),(5,.k,.sl 4 (g.map Fnd.v) false),(6,.k,.sl 5 (a.map Aud.v) false),(10,.k,.ref 0 0),(15,.k,.ref 1 0),(63,.k,.sl 2 [.agg [.int f.mode,.sl 1 (f.srcs.map AV.int) false],(Flt.v ((filterT t1.L t1.p).1)),.agg [.int (((bentF t1.L ((filterT t1.L ((filterT t1.L t1.p).2)).2) ((filterT t1.L ((filterT t1.L t1.p).2)).1)).1).mode),.sl 1 ((((bentF t1.L ((filterT t1.L ((filterT t1.L t1.p).2)).2) ((filterT t1.L ((filterT t1.L t1.p).2)).1)).1).srcs).map AV.int) false]] true),(64,.k,.int 3),(65,.k,.int t2),(73,.k,.bool t3)],[.box (.agg [.int x.root,.sl 2 (x.ls.map Hop.v) false]),.box (.agg [.sl 1 (t1.L.map AV.int) false,.int ((((bentF t1.L ((filterT t1.L ((filterT t1.L t1.p).2)).2) ((filterT t1.L ((filterT t1.L t1.p).2)).1)).2):Nat):Int)])]⟩
def textsL_n4(w:(List Wnt))(x:Tre)(l:(List Rcp))(g:(List Fnd))(a:(List Aud))(t1:Tap)(t4:Int):NF:=⟨[(4,.k,.sl 5 (l.map Rcp.v) false),(5,.k,.sl 4 (g.map Fnd.v) false),(6,.k,.sl 5 (a.map Aud.v) false),(10,.k,.ref 0 0),(15,.k,.ref 1 0),(78,.k,.sl 1 [.sl 3 (w.map Wnt.v) false,.sl 3 (((wantsT t1.L ((bentF t1.L ((filterT t1.L ((filterT t1.L t1.p).2)).2) ((filterT t1.L ((filterT t1.L t1.p).2)).1)).2)).1).map Wnt.v) false] true),(79,.k,.int 2),(80,.k,.int t4)],[.box (.agg [.int x.root,.sl 2 (x.ls.map Hop.v) false]),.box (.agg [.sl 1 (t1.L.map AV.int) false,.int ((((wantsT t1.L ((bentF t1.L ((filterT t1.L ((filterT t1.L t1.p).2)).2) ((filterT t1.L ((filterT t1.L t1.p).2)).1)).2)).2):Nat):Int)])]⟩
def textsL_n5(w:(List Wnt))(x:Tre)(l:(List Rcp))(g:(List Fnd))(a:(List Aud))(t1:Tap)(t4:Int)(t5:Bool):NF:=⟨[(4,.k,.sl 5 (l.map Rcp.v) false),(5,.k,.sl 4 (g.map Fnd.v) false),(6,.k,.sl 5 (a.map Aud.v) false),(10,.k,.ref 0 0),(15,.k,.ref 1 0),(78,.k,.sl 1 [.sl 3 (w.map Wnt.v) false,.sl 3 (((wantsT t1.L ((bentF t1.L ((filterT t1.L ((filterT t1.L t1.p).2)).2) ((filterT t1.L ((filterT t1.L t1.p).2)).1)).2)).1).map Wnt.v) false] true),(79,.k,.int 2),(80,.k,.int t4),(88,.k,.bool t5)],[.box (.agg [.int x.root,.sl 2 (x.ls.map Hop.v) false]),.box (.agg [.sl 1 (t1.L.map AV.int) false,.int ((((wantsT t1.L ((bentF t1.L ((filterT t1.L ((filterT t1.L t1.p).2)).2) ((filterT t1.L ((filterT t1.L t1.p).2)).1)).2)).2):Nat):Int)])]⟩
def textsL_n6(x:Tre)(l:(List Rcp))(g:(List Fnd))(a:(List Aud))(t1:Tap)(t6:Tpl):NF:=⟨[(4,.k,.sl 5 (l.map Rcp.v) false),(5,.k,.sl 4 (g.map Fnd.v) false),(6,.k,.sl 5 (a.map Aud.v) false),(10,.k,.ref 0 0),(15,.k,.ref 1 0),(20,.k,.ref 2 0)],[.box (.agg [.int x.root,.sl 2 (x.ls.map Hop.v) false]),.box (.agg [.sl 1 (t1.L.map AV.int) false,.int ((((topoT t1.L ((wantsT t1.L ((bentF t1.L ((filterT t1.L ((filterT t1.L t1.p).2)).2) ((filterT t1.L ((filterT t1.L t1.p).2)).1)).2)).2) 6).2):Nat):Int)]),.box (.agg [.sl 2 (t6.rs.map Rtr.v) false,.sl 5 (t6.ls.map Lnk.v) false])]⟩
def textsL_n7(x:Tre)(l:(List Rcp))(g:(List Fnd))(a:(List Aud))(t1:Tap)(t6:Tpl)(t7:Int):NF:=⟨[(4,.k,.sl 5 (l.map Rcp.v) false),(5,.k,.sl 4 (g.map Fnd.v) false),(6,.k,.sl 5 (a.map Aud.v) false),(99,.k,.sl 2 [.agg [.int x.root,.sl 2 (x.ls.map Hop.v) false],.agg [.int (((treN t1.L ((rtrT t1.L ((topoT t1.L ((wantsT t1.L ((bentF t1.L ((filterT t1.L ((filterT t1.L t1.p).2)).2) ((filterT t1.L ((filterT t1.L t1.p).2)).1)).2)).2) 6).2) t6).2) t6 ((rtrT t1.L ((topoT t1.L ((wantsT t1.L ((bentF t1.L ((filterT t1.L ((filterT t1.L t1.p).2)).2) ((filterT t1.L ((filterT t1.L t1.p).2)).1)).2)).2) 6).2) t6).1)).1).root),.sl 2 ((((treN t1.L ((rtrT t1.L ((topoT t1.L ((wantsT t1.L ((bentF t1.L ((filterT t1.L ((filterT t1.L t1.p).2)).2) ((filterT t1.L ((filterT t1.L t1.p).2)).1)).2)).2) 6).2) t6).2) t6 ((rtrT t1.L ((topoT t1.L ((wantsT t1.L ((bentF t1.L ((filterT t1.L ((filterT t1.L t1.p).2)).2) ((filterT t1.L ((filterT t1.L t1.p).2)).1)).2)).2) 6).2) t6).1)).1).ls).map Hop.v) false]] true),(100,.k,.int 2),(101,.k,.int t7)],[]⟩
def textsL_n8(x:Tre)(l:(List Rcp))(g:(List Fnd))(a:(List Aud))(t1:Tap)(t6:Tpl)(t7:Int)(t8:Bool):NF:=⟨[(4,.k,.sl 5 (l.map Rcp.v) false),(5,.k,.sl 4 (g.map Fnd.v) false),(6,.k,.sl 5 (a.map Aud.v) false),(99,.k,.sl 2 [.agg [.int x.root,.sl 2 (x.ls.map Hop.v) false],.agg [.int (((treN t1.L ((rtrT t1.L ((topoT t1.L ((wantsT t1.L ((bentF t1.L ((filterT t1.L ((filterT t1.L t1.p).2)).2) ((filterT t1.L ((filterT t1.L t1.p).2)).1)).2)).2) 6).2) t6).2) t6 ((rtrT t1.L ((topoT t1.L ((wantsT t1.L ((bentF t1.L ((filterT t1.L ((filterT t1.L t1.p).2)).2) ((filterT t1.L ((filterT t1.L t1.p).2)).1)).2)).2) 6).2) t6).1)).1).root),.sl 2 ((((treN t1.L ((rtrT t1.L ((topoT t1.L ((wantsT t1.L ((bentF t1.L ((filterT t1.L ((filterT t1.L t1.p).2)).2) ((filterT t1.L ((filterT t1.L t1.p).2)).1)).2)).2) 6).2) t6).2) t6 ((rtrT t1.L ((topoT t1.L ((wantsT t1.L ((bentF t1.L ((filterT t1.L ((filterT t1.L t1.p).2)).2) ((filterT t1.L ((filterT t1.L t1.p).2)).1)).2)).2) 6).2) t6).1)).1).ls).map Hop.v) false]] true),(100,.k,.int 2),(101,.k,.int t7),(109,.k,.bool t8)],[]⟩
@[reducible] def textsL_s:Nat→Type
 | 0=>Bool
 | 1=>Tap
 | 2=>Int
 | 3=>Bool
 | 4=>Int
 | 5=>Bool
 | 6=>Tpl
 | 7=>Int
 | 8=>Bool
 | _=>Unit
def textsL_e(r:Bool):AV:=.bool r
def textsL_x(t:(List Int))(f:Flt)(w:(List Wnt))(x:Tre)(l:(List Rcp))(g:(List Fnd))(a:(List Aud))(I0:Bool→Prop)(I2:Bool→Tap→Int→Prop)(m2:Bool→Tap→Int→Nat)(I4:Bool→Tap→Int→Int→Prop)(m4:Bool→Tap→Int→Int→Nat)(I7:Bool→Tap→Int→Int→Tpl→Int→Prop)(m7:Bool→Tap→Int→Int→Tpl→Int→Nat):Ax Tryd.prog textsL_s (Bool):=
 (.pass (.pass (.join 0 (textsL_n0 t f w x l g a) (fun (t0:Bool)=>I0 t0) (fun b0=>(.br 128 (decide (110<((f.srcs.map AV.int).length:Int))) (.bk 0 b0 ((true):Bool) [0,16])
(.br 208 (decide (40<((w.map Wnt.v).length:Int))) (.bk 0 b0 ((true):Bool) [0,16])
(.br 304 (decide (40<((x.ls.map Hop.v).length:Int))) (.bk 0 b0 ((true):Bool) [0,16])
(.br 384 (decide (40<((l.map Rcp.v).length:Int))) (.bk 0 b0 ((true):Bool) [0,16])
(.br 464 (decide (40<((g.map Fnd.v).length:Int))) (.bk 0 b0 ((true):Bool) [0,16])
(.bk 0 b0 ((decide (40<((a.map Aud.v).length:Int))):Bool) [0,16]))))))) fun (t0:Bool) =>
(.br 2 t0 (.callP (awk42_c )
(.ret (true)))
(.join 1 (textsL_n1 f w x l g a) (fun (t1:Tap)=>t1=(((⟨t.take 2000,0⟩:Tap)):Tap)) (fun b1=>(.callH [] (New_h t) 18
(.bk 1 b1 (((⟨t.take 2000,0⟩:Tap)):Tap) [0,1,18]))) fun (t1:Tap) =>
(.callH [2] (filterT_h t1.L t1.p) 35
(.callH [2] (filterT_h t1.L ((filterT t1.L t1.p).2)) 83
(.req 99 (((filterT t1.L ((filterT t1.L t1.p).2)).1).srcs.length≤900000) fun h1 =>
(.callH [2] (bentF_h t1.L ((filterT t1.L ((filterT t1.L t1.p).2)).2) ((filterT t1.L ((filterT t1.L t1.p).2)).1) h1) 99
(.loop 2 (textsL_n2 f w x l g a t1) (I2 t0 t1) (m2 t0 t1) ((0):Int) [1,2] fun (t2:Int) b2 =>
(.br 18 (decide (t2<3)) (.el 18 Flt.v [f,(filterT t1.L t1.p).1,(bentF t1.L ((filterT t1.L ((filterT t1.L t1.p).2)).2) ((filterT t1.L ((filterT t1.L t1.p).2)).1)).1] (fun R=>Rf (α:=List AV) [.agg [.int f.mode,.sl 1 (f.srcs.map AV.int) false],(Flt.v ((filterT t1.L t1.p).1)),.agg [.int (((bentF t1.L ((filterT t1.L ((filterT t1.L t1.p).2)).2) ((filterT t1.L ((filterT t1.L t1.p).2)).1)).1).mode),.sl 1 ((((bentF t1.L ((filterT t1.L ((filterT t1.L t1.p).2)).2) ((filterT t1.L ((filterT t1.L t1.p).2)).1)).1).srcs).map AV.int) false]] (ck (decide (0≤t2)) (ck (decide (t2<([f,(filterT t1.L t1.p).1,(bentF t1.L ((filterT t1.L ((filterT t1.L t1.p).2)).2) ((filterT t1.L ((filterT t1.L t1.p).2)).1)).1].length:Int)))
(∀x2,[f,(filterT t1.L t1.p).1,(bentF t1.L ((filterT t1.L ((filterT t1.L t1.p).2)).2) ((filterT t1.L ((filterT t1.L t1.p).2)).1)).1][t2.toNat]?=some x2 →
(R x2))))) fun x2 =>
(.join 3 (textsL_n3 f w x l g a t1 t2) (fun (t3:Bool)=>t3=((!((fltT x2).toList==(fltT x2).toList)):Bool)) (fun b3=>(.req 98 (x2.srcs.length≤1048576) fun h3 =>
(.callP (fltT_c x2 h3)
(.req 130 (x2.srcs.length≤1048576) fun h4 =>
(.callP (fltR_c x2 h4)
(.bk 3 b3 ((!((fltT x2).toList==(fltT x2).toList)):Bool) [0,1])))))) fun (t3:Bool) =>
(.br 2 t3 (.ret (false))
(.bk 2 b2 ((W (t2+1)):Int) [0,1]))))
(.callH [1] (wantsT_h t1.L ((bentF t1.L ((filterT t1.L ((filterT t1.L t1.p).2)).2) ((filterT t1.L ((filterT t1.L t1.p).2)).1)).2)) 50
(.loop 4 (textsL_n4 w x l g a t1) (I4 t0 t1 t2) (m4 t0 t1 t2) ((0):Int) [0,1] fun (t4:Int) b4 =>
(.br 18 (decide (t4<2)) (.el 18 (fun l=>AV.sl 3 (l.map Wnt.v) false) [w,(wantsT t1.L ((bentF t1.L ((filterT t1.L ((filterT t1.L t1.p).2)).2) ((filterT t1.L ((filterT t1.L t1.p).2)).1)).2)).1] (fun R=>Rf (α:=List AV) [.sl 3 (w.map Wnt.v) false,.sl 3 (((wantsT t1.L ((bentF t1.L ((filterT t1.L ((filterT t1.L t1.p).2)).2) ((filterT t1.L ((filterT t1.L t1.p).2)).1)).2)).1).map Wnt.v) false] (ck (decide (0≤t4)) (ck (decide (t4<([w,(wantsT t1.L ((bentF t1.L ((filterT t1.L ((filterT t1.L t1.p).2)).2) ((filterT t1.L ((filterT t1.L t1.p).2)).1)).2)).1].length:Int)))
(∀x5,[w,(wantsT t1.L ((bentF t1.L ((filterT t1.L ((filterT t1.L t1.p).2)).2) ((filterT t1.L ((filterT t1.L t1.p).2)).1)).2)).1][t4.toNat]?=some x5 →
(R x5))))) fun x5 =>
(.join 5 (textsL_n5 w x l g a t1 t4) (fun (t5:Bool)=>t5=((!((wntsT x5).toList==(wntsT x5).toList)):Bool)) (fun b5=>(.req 82 (x5.length≤40) fun h6 =>
(.req 82 (∀w∈x5,w.srcs.length≤1048576) fun h7 =>
(.callP (wntsT_c x5 h6 h7)
(.req 114 (x5.length≤40) fun h8 =>
(.req 114 (∀w∈x5,w.srcs.length≤1048576) fun h9 =>
(.callP (wntsR_c x5 h8 h9)
(.bk 5 b5 ((!((wntsT x5).toList==(wntsT x5).toList)):Bool) [0,1])))))))) fun (t5:Bool) =>
(.br 2 t5 (.ret (false))
(.bk 4 b4 ((W (t4+1)):Int) [0,1]))))
(.join 6 (textsL_n6 x l g a t1) (fun (t6:Tpl)=>t6=(((topoT t1.L ((wantsT t1.L ((bentF t1.L ((filterT t1.L ((filterT t1.L t1.p).2)).2) ((filterT t1.L ((filterT t1.L t1.p).2)).1)).2)).2) 6).1):Tpl)) (fun b6=>(.req 34 (1≤6∧6≤100) fun h10 =>
(.callH [1] (topoT_h t1.L ((wantsT t1.L ((bentF t1.L ((filterT t1.L ((filterT t1.L t1.p).2)).2) ((filterT t1.L ((filterT t1.L t1.p).2)).1)).2)).2) 6 h10) 34
(.bk 6 b6 (((topoT t1.L ((wantsT t1.L ((bentF t1.L ((filterT t1.L ((filterT t1.L t1.p).2)).2) ((filterT t1.L ((filterT t1.L t1.p).2)).1)).2)).2) 6).1):Tpl) [0,1,50])))) fun (t6:Tpl) =>
(.callH [1] (rtrT_h t1.L ((topoT t1.L ((wantsT t1.L ((bentF t1.L ((filterT t1.L ((filterT t1.L t1.p).2)).2) ((filterT t1.L ((filterT t1.L t1.p).2)).1)).2)).2) 6).2) t6) 83
(.req 99 (t6.ls.length≤10000) fun h11 =>
(.callH [1] (treN_h t1.L ((rtrT t1.L ((topoT t1.L ((wantsT t1.L ((bentF t1.L ((filterT t1.L ((filterT t1.L t1.p).2)).2) ((filterT t1.L ((filterT t1.L t1.p).2)).1)).2)).2) 6).2) t6).2) t6 ((rtrT t1.L ((topoT t1.L ((wantsT t1.L ((bentF t1.L ((filterT t1.L ((filterT t1.L t1.p).2)).2) ((filterT t1.L ((filterT t1.L t1.p).2)).1)).2)).2) 6).2) t6).1) h11) 99
(.loop 7 (textsL_n7 x l g a t1 t6) (I7 t0 t1 t2 t4 t6) (m7 t0 t1 t2 t4 t6) ((0):Int) [] fun (t7:Int) b7 =>
(.br 16 (decide (t7<2)) (.el 16 Tre.v [x,(treN t1.L ((rtrT t1.L ((topoT t1.L ((wantsT t1.L ((bentF t1.L ((filterT t1.L ((filterT t1.L t1.p).2)).2) ((filterT t1.L ((filterT t1.L t1.p).2)).1)).2)).2) 6).2) t6).2) t6 ((rtrT t1.L ((topoT t1.L ((wantsT t1.L ((bentF t1.L ((filterT t1.L ((filterT t1.L t1.p).2)).2) ((filterT t1.L ((filterT t1.L t1.p).2)).1)).2)).2) 6).2) t6).1)).1] (fun R=>Rf (α:=List AV) [.agg [.int x.root,.sl 2 (x.ls.map Hop.v) false],.agg [.int (((treN t1.L ((rtrT t1.L ((topoT t1.L ((wantsT t1.L ((bentF t1.L ((filterT t1.L ((filterT t1.L t1.p).2)).2) ((filterT t1.L ((filterT t1.L t1.p).2)).1)).2)).2) 6).2) t6).2) t6 ((rtrT t1.L ((topoT t1.L ((wantsT t1.L ((bentF t1.L ((filterT t1.L ((filterT t1.L t1.p).2)).2) ((filterT t1.L ((filterT t1.L t1.p).2)).1)).2)).2) 6).2) t6).1)).1).root),.sl 2 ((((treN t1.L ((rtrT t1.L ((topoT t1.L ((wantsT t1.L ((bentF t1.L ((filterT t1.L ((filterT t1.L t1.p).2)).2) ((filterT t1.L ((filterT t1.L t1.p).2)).1)).2)).2) 6).2) t6).2) t6 ((rtrT t1.L ((topoT t1.L ((wantsT t1.L ((bentF t1.L ((filterT t1.L ((filterT t1.L t1.p).2)).2) ((filterT t1.L ((filterT t1.L t1.p).2)).1)).2)).2) 6).2) t6).1)).1).ls).map Hop.v) false]] (ck (decide (0≤t7)) (ck (decide (t7<([x,(treN t1.L ((rtrT t1.L ((topoT t1.L ((wantsT t1.L ((bentF t1.L ((filterT t1.L ((filterT t1.L t1.p).2)).2) ((filterT t1.L ((filterT t1.L t1.p).2)).1)).2)).2) 6).2) t6).2) t6 ((rtrT t1.L ((topoT t1.L ((wantsT t1.L ((bentF t1.L ((filterT t1.L ((filterT t1.L t1.p).2)).2) ((filterT t1.L ((filterT t1.L t1.p).2)).1)).2)).2) 6).2) t6).1)).1].length:Int)))
(∀x12,[x,(treN t1.L ((rtrT t1.L ((topoT t1.L ((wantsT t1.L ((bentF t1.L ((filterT t1.L ((filterT t1.L t1.p).2)).2) ((filterT t1.L ((filterT t1.L t1.p).2)).1)).2)).2) 6).2) t6).2) t6 ((rtrT t1.L ((topoT t1.L ((wantsT t1.L ((bentF t1.L ((filterT t1.L ((filterT t1.L t1.p).2)).2) ((filterT t1.L ((filterT t1.L t1.p).2)).1)).2)).2) 6).2) t6).1)).1][t7.toNat]?=some x12 →
(R x12))))) fun x12 =>
(.join 8 (textsL_n8 x l g a t1 t6 t7) (fun (t8:Bool)=>t8=((!((treT x12).toList==(treT x12).toList)):Bool)) (fun b8=>(.req 96 (x12.ls.length≤1000) fun h13 =>
(.callP (treT_c x12 h13)
(.req 128 (x12.ls.length≤1000) fun h14 =>
(.callP (treR_c x12 h14)
(.bk 8 b8 ((!((treT x12).toList==(treT x12).toList)):Bool) [])))))) fun (t8:Bool) =>
(.br 0 t8 (.ret (false))
(.bk 7 b7 ((W (t7+1)):Int) []))))
(.req 32 (l.length≤1000) fun h15 =>
(.callP (rcpsT_c l h15)
(.req 64 (l.length≤1000) fun h16 =>
(.callP (rcpsR_c l h16)
(.callP (sameT_c (l.map rcpT) (l.map rcpT))
(.br 112 (decide ((l.map rcpT)=(l.map rcpT))) (.req 128 (g.length≤1000) fun h17 =>
(.callP (fndsT_c g h17)
(.req 160 (g.length≤1000) fun h18 =>
(.callP (fndsR_c g h18)
(.callP (sameT_c (g.map fndT) (g.map fndT))
(.br 224 (decide ((g.map fndT)=(g.map fndT))) (.req 240 (a.length≤1000) fun h19 =>
(.callP (audsT_c a h19)
(.req 272 (a.length≤1000) fun h20 =>
(.callP (audsR_c a h20)
(.callP (sameT_c (a.map audT) (a.map audT))
(.br 336 (decide ((a.map audT)=(a.map audT))) (.callP (awk42_c )
(.ret (true)))
(.ret (false))))))))
(.ret (false))))))))
(.ret (false))))))))))))))))))))))))))))
def textsL_vc(t:(List Int))(f:Flt)(w:(List Wnt))(x:Tre)(l:(List Rcp))(g:(List Fnd))(a:(List Aud))(I0:Bool→Prop)(I2:Bool→Tap→Int→Prop)(m2:Bool→Tap→Int→Nat)(I4:Bool→Tap→Int→Int→Prop)(m4:Bool→Tap→Int→Int→Nat)(I7:Bool→Tap→Int→Int→Tpl→Int→Prop)(m7:Bool→Tap→Int→Int→Tpl→Int→Nat)(r0:Bool):Prop:=(textsL_x t f w x l g a I0 I2 m2 I4 m4 I7 m7).vp textsL_e r0
theorem textsL_p(t:List Int)(f:Flt)(w:List Wnt)(x:Tre)(l:List Rcp)(g:List Fnd)(a:List Aud)(hw:∀y∈w,y.srcs.length≤1048576)(ok:textsL_a t f w x l g a):∃I0 I2 m2 I4 m4 I7 m7,textsL_vc t f w x l g a I0 I2 m2 I4 m4 I7 m7 true:=by
 refine ⟨fun b=>b=decide (110<f.srcs.length∨40<w.length∨40<x.ls.length∨40<l.length∨40<g.length∨40<a.length),
  fun _ _ i=>∃k:Nat,i=k∧k≤3,fun _ _ i=>3-i.toNat,fun _ _ _ i=>∃k:Nat,i=k∧k≤2,fun _ _ _ i=>2-i.toNat,fun _ _ _ _ _ i=>∃k:Nat,i=k∧k≤2,fun _ _ _ _ _ i=>2-i.toNat,?_⟩
 dsimp only [textsL_vc,textsL_x,textsL_s,Ax.vp,Ax.vc];simp only [vcU,rfU,List.length_map]
 refine ⟨⟨fun c=>(decide_eq_true (by omega)).symm,fun c0=>⟨fun c=>(decide_eq_true (by omega)).symm,fun c1=>⟨fun c=>(decide_eq_true (by omega)).symm,fun c2=>⟨fun c=>(decide_eq_true (by omega)).symm,fun c3=>⟨fun c=>(decide_eq_true (by omega)).symm,fun c4=>by rw [decide_eq_decide];omega⟩⟩⟩⟩⟩,?_⟩
 rintro _ rfl
 refine ⟨fun _=>trivial,fun c=>⟨trivial,?_⟩⟩
 have c:=of_decide_eq_false c
 rintro ⟨L,p⟩ _
 simp only
 have f1:=flt_ok (filterT_in L p)
 have f2:=flt_ok (filterT_in L (filterT L p).2)
 generalize hF:filterT L p=F at *
 generalize hG:filterT L F.2=G at *
 have f3:(bentF L G.2 G.1).1.srcs.length≤100:=by
  have:=bentF_len (L:=L) (p:=G.2) (f:=G.1);omega
 generalize hB:bentF L G.2 G.1=Q at *
 have f4:=wants_ok (wantsT_ok L Q.2)
 generalize hV:wantsT L Q.2=V at *
 refine ⟨by omega,⟨0,rfl,by omega⟩,?_⟩
 rintro _ ⟨i,rfl,hi⟩
 simp only [Int.toNat_natCast]
 refine ⟨fun h1=>⟨by omega,by simp;omega,fun y hy=>?_⟩,fun _=>⟨⟨0,rfl,by omega⟩,?_⟩⟩
 ·have hy:y.srcs.length≤1048576:=by
   have:=mem_of_get hy
   simp only [List.mem_cons,List.not_mem_nil,or_false] at this
   rcases this with rfl|rfl|rfl<;>omega
  refine ⟨⟨hy,hy,trivial⟩,?_⟩
  rintro _ rfl
  refine ⟨fun q=>by simp at q,fun _=>⟨⟨i+1,W_succ (n:=3) (by omega) (by omega),by omega⟩,by rw [W_succ (n:=3) (by omega) (by omega)];omega⟩⟩
 rintro _ ⟨j,rfl,hj⟩
 simp only [Int.toNat_natCast]
 refine ⟨fun h1=>⟨by omega,by simp;omega,fun y hy=>?_⟩,fun _=>⟨⟨by omega,trivial⟩,?_⟩⟩
 ·have hy:y.length≤40∧∀z∈y,z.srcs.length≤1048576:=by
   have:=mem_of_get hy
   simp only [List.mem_cons,List.not_mem_nil,or_false] at this
   rcases this with rfl|rfl
   ·exact ⟨by omega,hw⟩
   ·exact ⟨by omega,f4.2.2⟩
  refine ⟨⟨hy.1,hy.2,hy.1,hy.2,trivial⟩,?_⟩
  rintro _ rfl
  refine ⟨fun q=>by simp at q,fun _=>⟨⟨j+1,W_succ (n:=2) (by omega) (by omega),by omega⟩,by rw [W_succ (n:=2) (by omega) (by omega)];omega⟩⟩
 rintro T hT
 have t2:=topoT_ls (L:=L) (p:=V.2) (most:=6) (by omega)
 rw [←hT] at t2
 have t3:=treN_len (L:=L) (p:=(rtrT L (topoT L V.2 6).2 T).2) (a:=T) (root:=(rtrT L (topoT L V.2 6).2 T).1)
 generalize (treN L (rtrT L (topoT L V.2 6).2 T).2 T (rtrT L (topoT L V.2 6).2 T).1).1=Y at *
 refine ⟨by omega,⟨0,rfl,by omega⟩,?_⟩
 rintro _ ⟨m,rfl,hm⟩
 simp only [Int.toNat_natCast]
 refine ⟨fun h1=>⟨by omega,by simp;omega,fun y hy=>?_⟩,fun _=>⟨by omega,by omega,fun _=>⟨by omega,by omega,fun _=>⟨by omega,by omega,fun _=>trivial,fun q=>absurd trivial q⟩,fun q=>absurd trivial q⟩,fun q=>absurd trivial q⟩⟩
 have hy:y.ls.length≤1000:=by
  have:=mem_of_get hy
  simp only [List.mem_cons,List.not_mem_nil,or_false] at this
  rcases this with rfl|rfl<;>omega
 refine ⟨⟨hy,hy,trivial⟩,?_⟩
 rintro _ rfl
 refine ⟨fun q=>by simp at q,fun _=>⟨⟨m+1,W_succ (n:=2) (by omega) (by omega),by omega⟩,by rw [W_succ (n:=2) (by omega) (by omega)];omega⟩⟩
def textsL_c(t:(List Int))(f:Flt)(w:(List Wnt))(x:Tre)(l:(List Rcp))(g:(List Fnd))(a:(List Aud))(hw:∀y∈w,y.srcs.length≤1048576):PC Tryd.prog:=⟨5,[(.s 1),(.a [.k,(.s 1)]),(.s 3),(.a [.k,(.s 2)]),(.s 5),(.s 4),(.s 5)],[.sl 1 (t.map AV.int) false,.agg [.int f.mode,.sl 1 (f.srcs.map AV.int) false],.sl 3 (w.map Wnt.v) false,.agg [.int x.root,.sl 2 (x.ls.map Hop.v) false],.sl 5 (l.map Rcp.v) false,.sl 4 (g.map Fnd.v) false,.sl 5 (a.map Aud.v) false],textsL_e true,PSpec.of_ok fun ok=>(textsL_p t f w x l g a hw ok).elim fun I0 h=>h.elim fun I2 h=>h.elim fun m2 h=>h.elim fun I4 h=>h.elim fun m4 h=>h.elim fun I7 h=>h.elim fun m7 h=>mxP_of (sh:=.k) (enc:=textsL_e) (a:=(textsL_x t f w x l g a I0 I2 m2 I4 m4 I7 m7).an) h (by kernel_rfl) (AV.pureB_ok rfl),fnB_ok (by kernel_rfl)⟩
end Go.Proofs.YthhpaedpnjdnbaaDoor
