/- Texts joined: G2 St C0 TP0 C1 C2 V1 C3 TP1 TP2. -/
import Derived.Shelf.Strings.Builder1
import Derived.Shelf.Strings.Builder2
import Derived.Shelf.Strings.OnBuilder
import Derived.Shelf.LaysM
import Derived.Shelf.Strconv.Itoa3
import Derived.Test.YthhpaedpnjdnbaaDoorProg
import Derived.Lib.ItoaLen
import Derived.Below
import Derived.Test.YthhpaedpnjdnbaaDoorQY3
set_option linter.unusedVariables false
set_option linter.unusedSimpArgs false
namespace Go.Proofs.YthhpaedpnjdnbaaDoor
open Go Go.Am
def insAt{α:Type}(es:List α)(i:Nat)(x:α):List α:=es.take i++[x]++es.drop i
theorem pickI_mem{l:List Int}(h:l≠[])(r:Int):pickI l r∈l:=by
 have hl:0<l.length:=List.length_pos_iff.mpr h
 have:=Mod_range (x:=r) (show 1≤(l.length:Int) by omega)
 have hi:(Mod r l.length).toNat<l.length:=by omega
 rw [pickI,getD_get hi]
 exact List.getElem_mem hi
theorem rng_in{L:List Int}{p:Nat}{lo hi:Int}(h:-1000000000≤lo∧lo≤hi∧hi≤1000000000):lo≤rng L p lo hi∧rng L p lo hi≤hi:=by
 unfold rng
 have e1:W (hi-lo)=hi-lo:=W_eq (by omega)
 have e2:W (hi-lo+1)=hi-lo+1:=W_eq (by omega)
 rw [e1,e2]
 have:=Mod_range (x:=rawV L p) (show 1≤hi-lo+1 by omega)
 rw [W_eq (by omega)];omega
def putP(l:List Int)(x:Int):Nat:=l.findIdx (fun y=>!decide (y<x))
def put(l:List Int)(x:Int):List Int:=if l[putP l x]?=some x then l else insAt l (putP l x) x
theorem put_mem{l:List Int}{x y:Int}:y∈put l x→y∈l∨y=x:=by
 unfold put
 split
 ·exact .inl
 ·unfold insAt
  intro h
  rcases List.mem_append.mp h with h|h
  ·rcases List.mem_append.mp h with h|h
   ·exact .inl (List.mem_of_mem_take h)
   ·exact .inr (by simpa using h)
  ·exact .inl (List.mem_of_mem_drop h)
theorem put_length(l:List Int)(x:Int):(put l x).length≤l.length+1:=by
 unfold put
 split
 ·omega
 ·unfold insAt;simp;omega
theorem asc_pw{l:List Int}:ascI l↔l.Pairwise (·<·):=by
 rw [List.pairwise_iff_getElem]
 constructor
 ·intro h
  have key:∀i d,(hi:i+d+1<l.length)→l.getD i 0<l.getD (i+d+1) 0:=by
   intro i d
   induction d with
   | zero=>intro hi;exact h i (by omega)
   | succ d ih=>intro hi;exact Int.lt_trans (ih (by omega)) (h (i+d+1) (by omega))
  intro i j hi hj hij
  have:=key i (j-i-1) (by omega)
  rw [show i+(j-i-1)+1=j by omega,getD_get hi,getD_get hj] at this
  exact this
 ·intro h i hi
  have h1:i<l.length:=by omega
  have h2:i+1<l.length:=by omega
  rw [getD_get h1,getD_get h2]
  exact h i (i+1) h1 h2 (by omega)
theorem put_asc{l:List Int}{x:Int}(h:ascI l):ascI (put l x):=by
 unfold put
 split
 ·exact h
 rename_i hx
 rw [asc_pw] at *
 have hlo:∀a∈l.take (putP l x),a<x:=fun a ha=>by
  obtain ⟨i,hi,rfl⟩:=List.getElem_of_mem ha
  rw [List.getElem_take]
  have h1:i<putP l x:=by simp at hi;omega
  have:=List.not_of_lt_findIdx h1
  simpa using this
 have hhi:∀a∈l.drop (putP l x),x<a:=fun a ha=>by
  have hne:l.drop (putP l x)≠[]:=fun e=>by rw [e] at ha;simp at ha
  have hlt:putP l x<l.length:=by
   refine Classical.byContradiction fun e=>hne (List.drop_of_length_le (by omega))
  have h1:¬l[putP l x]<x:=by
   have:=List.findIdx_getElem (p:=fun y=>!decide (y<x)) (xs:=l) (w:=hlt)
   rw [Bool.not_eq_true'] at this
   exact of_decide_eq_false this
  have h2:l[putP l x]≠x:=fun e=>hx (by rw [List.getElem?_eq_getElem hlt,e])
  rw [List.drop_eq_getElem_cons hlt] at ha
  have h3:(l.drop (putP l x)).Pairwise (·<·):=h.sublist (List.drop_sublist _ _)
  rw [List.drop_eq_getElem_cons hlt,List.pairwise_cons] at h3
  rcases List.mem_cons.mp ha with rfl|ha
  ·omega
  ·have:=h3.1 a ha;omega
 unfold insAt
 rw [List.pairwise_append,List.pairwise_append]
 refine ⟨⟨h.sublist (List.take_sublist _ _),List.pairwise_singleton _ _,fun a ha b hb=>?_⟩,h.sublist (List.drop_sublist _ _),fun a ha b hb=>?_⟩
 ·rw [List.mem_singleton] at hb;subst hb;exact hlo a ha
 ·rcases List.mem_append.mp ha with ha|ha
  ·exact Int.lt_trans (hlo a ha) (hhi b hb)
  ·rw [List.mem_singleton] at ha;subst ha;exact hhi b hb
theorem put_rng{l:List Int}{x:Int}(h:rngI l)(hx:1≤x∧x≤99):rngI (put l x):=fun y hy=>by
 rcases put_mem hy with hy|rfl
 ·exact h y hy
 ·exact hx
theorem putP_le(l:List Int)(x:Int):putP l x≤l.length:=List.findIdx_le_length
theorem putP_lo{l:List Int}{x y:Int}{j:Nat}(hj:j<putP l x)(hy:l[j]?=some y):y<x:=by
 have:=List.not_of_lt_findIdx hj
 rw [List.getElem?_eq_getElem (lt_of_get hy)] at hy
 rw [←Option.some.inj hy]
 simpa using this
theorem putP_hi{l:List Int}{x y:Int}(hy:l[putP l x]?=some y):¬y<x:=by
 have h:=lt_of_get hy
 have:=List.findIdx_getElem (p:=fun y=>!decide (y<x)) (xs:=l) (w:=h)
 rw [List.getElem?_eq_getElem h] at hy;cases hy
 rw [Bool.not_eq_true'] at this
 exact of_decide_eq_false this
theorem putP_eq{l:List Int}{x:Int}{k:Nat}(h:∀j y,j<k→l[j]?=some y→y<x)(hk:k≤l.length)(h2:k=l.length∨∃y,l[k]?=some y∧¬y<x):putP l x=k:=by
 rcases Nat.lt_trichotomy (putP l x) k with g|g|g
 ·have hl:putP l x<l.length:=by omega
  have e:=List.getElem?_eq_getElem hl
  exact absurd (h _ _ g e) (putP_hi e)
 ·exact g
 ·rcases h2 with h2|⟨y,hy,hn⟩
  ·have:=putP_le l x;omega
  ·exact absurd (putP_lo g hy) hn
theorem insAt_eq{l:List Int}{k:Nat}{x:Int}:((l.take k).drop 0)++([x]++((l.take ((l.length:Int).toNat)).drop k))=insAt l k x:=by
 rw [Int.toNat_natCast,List.take_length,List.drop_zero,insAt,List.append_assoc]
def put_a(l:(List Int))(x:Int):Prop:=okL [.sl 1 (l.map AV.int) false,.int x]
abbrev put_v0(l:(List Int)):=(l.take ((l.length:Int).toNat))
def put_n0(l:(List Int))(x:Int)(t0:Int):NF:=⟨[(0,.k,.sl 1 (l.map AV.int) false),(1,.k,.int x),(5,.k,.int t0)],[]⟩
@[reducible] def put_s:Nat→Type
 | 0=>Int
 | _=>Unit
def put_e(r:(List Int)):AV:=.sl 1 (r.map AV.int) false
def put_x(l:(List Int))(x:Int)(I0:Int→Prop)(m0:Int→Nat):Ax Tryd.prog put_s ((List Int)):=
 (.loop 0 (put_n0 l x) I0 m0 ((0):Int) [] fun (t0:Int) b0 =>
(.br 80 (decide (t0<((l.map AV.int).length:Int))) (.el 112 AV.int l (fun R=>Rf (l.map AV.int) (ck (decide (0≤t0)) (ck (decide (t0<(l.length:Int)))
(∀x1,l[t0.toNat]?=some x1 →
(R x1))))) fun x1 =>
(.br 192 (decide (x1<x)) (.bk 0 b0 ((W (t0+1)):Int) [])
(.br 272 (decide (t0<((l.map AV.int).length:Int))) (.el 304 AV.int l (fun R=>Rf (l.map AV.int) (ck (decide (0≤t0)) (ck (decide (t0<(l.length:Int)))
(∀x2,l[t0.toNat]?=some x2 →
(R x2))))) fun x2 =>
(.br 384 (x2==x) (.ret (l))
(.own 400 (.say (fun R=>Rf (α:=List AV) (l.map AV.int) (ck (bndB l.length t0 (l.length:Int) (l.length:Int))
R)) (.sub 448 AV.int l false
(.say (fun R=>Rf (α:=List AV) [.int x] (Rf (α:=List AV) (((put_v0 l).drop t0.toNat).map AV.int)
(ck (decide ([x].length+((put_v0 l).drop t0.toNat).length≤1048576))
R))) (.app 464 AV.int [x] ((put_v0 l).drop t0.toNat)
(.say (fun R=>Rf (α:=List AV) (l.map AV.int) (ck (bndB l.length 0 t0 t0)
R)) (.sub 544 AV.int l true
(.say (fun R=>ck (decide (t0=t0))
((Rf (α:=List AV) (((l.take t0.toNat).drop 0).map AV.int) (Rf (α:=List AV) (([x]++((put_v0 l).drop t0.toNat)).map AV.int)
(ck (decide (0<([x]++((put_v0 l).drop t0.toNat)).length))
R))))) (.appF 576 AV.int ((l.take t0.toNat).drop 0) ([x]++((put_v0 l).drop t0.toNat))
(.say (fun R=>ck (decide (((l.take t0.toNat).drop 0).length+([x]++((put_v0 l).drop t0.toNat)).length≤1048576))
((Rf ((((l.take t0.toNat).drop 0)++([x]++((put_v0 l).drop t0.toNat))).map AV.int) R))) (.cmdL (.frzE 576 ((((l.take t0.toNat).drop 0)++([x]++((put_v0 l).drop t0.toNat))).map AV.int) (pureBL_map (fun _=>rfl) (((l.take t0.toNat).drop 0)++([x]++((put_v0 l).drop t0.toNat))))) (.ret (((l.take t0.toNat).drop 0)++([x]++((put_v0 l).drop t0.toNat)))))))))))))))))
(.own 400 (.say (fun R=>Rf (α:=List AV) (l.map AV.int) (ck (bndB l.length t0 (l.length:Int) (l.length:Int))
R)) (.sub 448 AV.int l false
(.say (fun R=>Rf (α:=List AV) [.int x] (Rf (α:=List AV) (((put_v0 l).drop t0.toNat).map AV.int)
(ck (decide ([x].length+((put_v0 l).drop t0.toNat).length≤1048576))
R))) (.app 464 AV.int [x] ((put_v0 l).drop t0.toNat)
(.say (fun R=>Rf (α:=List AV) (l.map AV.int) (ck (bndB l.length 0 t0 t0)
R)) (.sub 544 AV.int l true
(.say (fun R=>ck (decide (t0=t0))
((Rf (α:=List AV) (((l.take t0.toNat).drop 0).map AV.int) (Rf (α:=List AV) (([x]++((put_v0 l).drop t0.toNat)).map AV.int)
(ck (decide (0<([x]++((put_v0 l).drop t0.toNat)).length))
R))))) (.appF 576 AV.int ((l.take t0.toNat).drop 0) ([x]++((put_v0 l).drop t0.toNat))
(.say (fun R=>ck (decide (((l.take t0.toNat).drop 0).length+([x]++((put_v0 l).drop t0.toNat)).length≤1048576))
((Rf ((((l.take t0.toNat).drop 0)++([x]++((put_v0 l).drop t0.toNat))).map AV.int) R))) (.cmdL (.frzE 576 ((((l.take t0.toNat).drop 0)++([x]++((put_v0 l).drop t0.toNat))).map AV.int) (pureBL_map (fun _=>rfl) (((l.take t0.toNat).drop 0)++([x]++((put_v0 l).drop t0.toNat))))) (.ret (((l.take t0.toNat).drop 0)++([x]++((put_v0 l).drop t0.toNat))))))))))))))))))
(.br 272 (decide (t0<((l.map AV.int).length:Int))) (.el 304 AV.int l (fun R=>Rf (l.map AV.int) (ck (decide (0≤t0)) (ck (decide (t0<(l.length:Int)))
(∀x3,l[t0.toNat]?=some x3 →
(R x3))))) fun x3 =>
(.br 384 (x3==x) (.ret (l))
(.own 400 (.say (fun R=>Rf (α:=List AV) (l.map AV.int) (ck (bndB l.length t0 (l.length:Int) (l.length:Int))
R)) (.sub 448 AV.int l false
(.say (fun R=>Rf (α:=List AV) [.int x] (Rf (α:=List AV) (((put_v0 l).drop t0.toNat).map AV.int)
(ck (decide ([x].length+((put_v0 l).drop t0.toNat).length≤1048576))
R))) (.app 464 AV.int [x] ((put_v0 l).drop t0.toNat)
(.say (fun R=>Rf (α:=List AV) (l.map AV.int) (ck (bndB l.length 0 t0 t0)
R)) (.sub 544 AV.int l true
(.say (fun R=>ck (decide (t0=t0))
((Rf (α:=List AV) (((l.take t0.toNat).drop 0).map AV.int) (Rf (α:=List AV) (([x]++((put_v0 l).drop t0.toNat)).map AV.int)
(ck (decide (0<([x]++((put_v0 l).drop t0.toNat)).length))
R))))) (.appF 576 AV.int ((l.take t0.toNat).drop 0) ([x]++((put_v0 l).drop t0.toNat))
(.say (fun R=>ck (decide (((l.take t0.toNat).drop 0).length+([x]++((put_v0 l).drop t0.toNat)).length≤1048576))
((Rf ((((l.take t0.toNat).drop 0)++([x]++((put_v0 l).drop t0.toNat))).map AV.int) R))) (.cmdL (.frzE 576 ((((l.take t0.toNat).drop 0)++([x]++((put_v0 l).drop t0.toNat))).map AV.int) (pureBL_map (fun _=>rfl) (((l.take t0.toNat).drop 0)++([x]++((put_v0 l).drop t0.toNat))))) (.ret (((l.take t0.toNat).drop 0)++([x]++((put_v0 l).drop t0.toNat)))))))))))))))))
(.own 400 (.say (fun R=>Rf (α:=List AV) (l.map AV.int) (ck (bndB l.length t0 (l.length:Int) (l.length:Int))
R)) (.sub 448 AV.int l false
(.say (fun R=>Rf (α:=List AV) [.int x] (Rf (α:=List AV) (((put_v0 l).drop t0.toNat).map AV.int)
(ck (decide ([x].length+((put_v0 l).drop t0.toNat).length≤1048576))
R))) (.app 464 AV.int [x] ((put_v0 l).drop t0.toNat)
(.say (fun R=>Rf (α:=List AV) (l.map AV.int) (ck (bndB l.length 0 t0 t0)
R)) (.sub 544 AV.int l true
(.say (fun R=>ck (decide (t0=t0))
((Rf (α:=List AV) (((l.take t0.toNat).drop 0).map AV.int) (Rf (α:=List AV) (([x]++((put_v0 l).drop t0.toNat)).map AV.int)
(ck (decide (0<([x]++((put_v0 l).drop t0.toNat)).length))
R))))) (.appF 576 AV.int ((l.take t0.toNat).drop 0) ([x]++((put_v0 l).drop t0.toNat))
(.say (fun R=>ck (decide (((l.take t0.toNat).drop 0).length+([x]++((put_v0 l).drop t0.toNat)).length≤1048576))
((Rf ((((l.take t0.toNat).drop 0)++([x]++((put_v0 l).drop t0.toNat))).map AV.int) R))) (.cmdL (.frzE 576 ((((l.take t0.toNat).drop 0)++([x]++((put_v0 l).drop t0.toNat))).map AV.int) (pureBL_map (fun _=>rfl) (((l.take t0.toNat).drop 0)++([x]++((put_v0 l).drop t0.toNat))))) (.ret (((l.take t0.toNat).drop 0)++([x]++((put_v0 l).drop t0.toNat))))))))))))))))))
def put_vc(l:(List Int))(x:Int)(I0:Int→Prop)(m0:Int→Nat)(r0:(List Int)):Prop:=(put_x l x I0 m0).vp put_e r0
theorem put_p(l:List Int)(x:Int)(hl:l.length≤900000)(ok:put_a l x):∃I m,put_vc l x I m (put l x):=by
 refine ⟨fun t=>∃k:Nat,t=k∧k≤l.length∧∀j y,j<k→l[j]?=some y→y<x,fun t=>l.length-t.toNat,?_⟩
 dsimp only [put_vc,put_x,put_s,put_v0,Ax.vp,Ax.vc];simp only [vcU,rfU,List.length_map]
 have hle:=putP_le l x
 have key:∀k:Nat,putP l x=k→l[k]?≠some x→List.drop 0 (List.take k l)++([x]++List.drop k (List.take (l.length:Int).toNat l))=put l x:=fun k e hne=>by
  rw [insAt_eq,put,e,if_neg hne]
 refine ⟨⟨0,rfl,by omega,fun j y h=>by omega⟩,?_⟩
 rintro _ ⟨k,rfl,hk,h⟩
 simp only [Int.toNat_natCast]
 have hb1:bndB l.length k l.length l.length=true:=by simp [bndB];omega
 have hb2:bndB l.length 0 k k=true:=by simp [bndB];omega
 have e1:(List.take l.length l)=l:=List.take_length
 refine ⟨fun h1=>⟨by omega,by omega,fun y hy=>⟨fun e=>?_,fun e=>⟨fun h2=>⟨by omega,by omega,fun z hz=>?_⟩,fun h2=>by omega⟩⟩⟩,fun h1=>⟨fun h2=>by omega,fun _=>?_⟩⟩
 ·rw [W_succ (n:=l.length) (by omega) (by omega)]
  refine ⟨⟨k+1,rfl,by omega,fun j z hj hz=>?_⟩,by omega⟩
  by_cases e':j=k
  ·subst e';rw [hz] at hy;cases hy;exact e
  ·exact h j z (by omega) hz
 ·have hq:=putP_eq h hk (.inr ⟨y,hy,e⟩)
  rw [hy] at hz;cases hz
  refine ⟨fun e'=>?_,fun e'=>?_⟩
  ·rw [put,hq,if_pos (by rw [hy];simpa using e')]
  ·have hne:l[k]?≠some x:=by rw [hy];simpa using e'
   refine ⟨hb1,?_,hb2,trivial,?_,?_,?_⟩
   ·simp;omega
   ·simp
   ·simp;omega
   ·have:=key k hq hne;simpa using this
 ·have hq:=putP_eq h hk (.inl (by omega))
  refine ⟨hb1,?_,hb2,trivial,?_,?_,?_⟩
  ·simp;omega
  ·simp
  ·simp;omega
  ·have:=key k hq (by rw [List.getElem?_eq_none (by omega)];simp);simpa using this
def put_c(l:(List Int))(x:Int)(hl:l.length≤900000):PC Tryd.prog:=⟨66,[(.s 1),.k],[.sl 1 (l.map AV.int) false,.int x],put_e (put l x),PSpec.of_ok fun ok=>(put_p l x hl ok).elim fun I0 h=>h.elim fun m0 h=>mxP_of (sh:=(.s 1)) (enc:=put_e) (a:=(put_x l x I0 m0).an) h (by kernel_rfl) (AV.pureB_ok rfl),fnB_ok (by kernel_rfl)⟩
def src1(L:List Int)(p:Nat):Int:=pickI [rng L p 1 6,rng L (rawP L p) 1 20,rng L (rawP L (rawP L p)) 1 99] (rawV L (rawP L (rawP L (rawP L p))))
def src1P(L:List Int)(p:Nat):Nat:=rawP L (rawP L (rawP L (rawP L p)))
def srcLoop(L:List Int):Nat→List Int→Nat→List Int×Nat
 | 0,out,p=>(out,p)
 | i+1,out,p=>srcLoop L i (put out (src1 L p)) (src1P L p)
def sources(L:List Int)(p:Nat)(n:Int):List Int×Nat:=srcLoop L (Mod (rawV L p) (n+1)).toNat [] (rawP L p)
theorem src1_in(L:List Int)(p:Nat):1≤src1 L p∧src1 L p≤99:=by
 have h1:=rng_in (L:=L) (p:=p) (lo:=1) (hi:=6) (by omega)
 have h2:=rng_in (L:=L) (p:=rawP L p) (lo:=1) (hi:=20) (by omega)
 have h3:=rng_in (L:=L) (p:=rawP L (rawP L p)) (lo:=1) (hi:=99) (by omega)
 have:=pickI_mem (l:=[rng L p 1 6,rng L (rawP L p) 1 20,rng L (rawP L (rawP L p)) 1 99]) (by simp) (rawV L (rawP L (rawP L (rawP L p))))
 unfold src1
 generalize pickI _ _=v at this
 simp only [List.mem_cons,List.not_mem_nil,or_false] at this
 omega
theorem srcLoop_ok{L:List Int}:∀{i:Nat} {out:List Int} {p:Nat},rngI out→ascI out→rngI (srcLoop L i out p).1∧ascI (srcLoop L i out p).1
 | 0,_,_,h,h2=>⟨h,h2⟩
 | i+1,out,p,h,h2=>by
  rw [srcLoop]
  exact srcLoop_ok (put_rng h (src1_in L p)) (put_asc h2)
theorem sources_in(L:List Int)(p:Nat)(n:Int):rngI (sources L p n).1∧ascI (sources L p n).1:=srcLoop_ok (fun _ h=>by simp at h) (fun i h=>by simp at h)
def sources_a(L:(List Int))(p:Nat)(n:Int):Prop:=okL [.ref 0 0,.int n]∧(.box (.agg [.sl 1 (L.map AV.int) false,.int ((p:Nat):Int)]):Blk).ok
def sources_n0(L:(List Int))(t0:(List Int)×Int×Nat):NF:=⟨[(0,.k,.ref 0 0),(5,(.s 1),.sl 1 (t0.1.map AV.int) false),(6,.k,.int t0.2.1)],[.box (.agg [.sl 1 (L.map AV.int) false,.int ((t0.2.2:Nat):Int)])]⟩
@[reducible] def sources_s:Nat→Type
 | 0=>(List Int)×Int×Nat
 | _=>Unit
def sources_e(r:Tap×(List Int)):AV:=.sl 1 (r.2.map AV.int) false
def sources_b(r:Tap×(List Int)):List (Option Blk):=[some (.box (.agg [.sl 1 (r.1.L.map AV.int) false,.int ((r.1.p:Nat):Int)]))]
def sources_x(L:(List Int))(p:Nat)(n:Int)(I0:((List Int)×Int×Nat)→Prop)(m0:((List Int)×Int×Nat)→Nat):Ax Tryd.prog sources_s (Tap×(List Int)):=
 (.callH [0] (N_h L p (W (n+1))) 81
(.loop 0 (sources_n0 L) I0 m0 ([],Mod (rawV L p) (W (n+1)),rawP L p) [0] fun (t0:(List Int)×Int×Nat) b0 =>
(.br 33 (decide (0<t0.2.1)) (.callH [0] (Range_h L t0.2.2 1 6) 81
(.callH [0] (Range_h L (rawP L t0.2.2) 1 20) 113
(.callH [0] (Range_h L (rawP L (rawP L t0.2.2)) 1 99) 145
(.req 177 ([rng L t0.2.2 1 6,rng L (rawP L t0.2.2) 1 20,rng L (rawP L (rawP L t0.2.2)) 1 99]≠[]) fun h1 =>
(.callH [0] (Pick_h L (rawP L (rawP L (rawP L t0.2.2))) [rng L t0.2.2 1 6,rng L (rawP L t0.2.2) 1 20,rng L (rawP L (rawP L t0.2.2)) 1 99] h1) 177
(.req 193 (t0.1.length≤900000) fun h2 =>
(.callP (put_c t0.1 (pickI [rng L t0.2.2 1 6,rng L (rawP L t0.2.2) 1 20,rng L (rawP L (rawP L t0.2.2)) 1 99] (rawV L (rawP L (rawP L (rawP L t0.2.2))))) h2)
(.bk 0 b0 (put t0.1 (pickI [rng L t0.2.2 1 6,rng L (rawP L t0.2.2) 1 20,rng L (rawP L (rawP L t0.2.2)) 1 99] (rawV L (rawP L (rawP L (rawP L t0.2.2))))),W (t0.2.1-1),rawP L (rawP L (rawP L (rawP L t0.2.2)))) [0]))))))))
(.retH ((⟨L,t0.2.2⟩:Tap),t0.1) ⟨[(4,.k,.sl 1 (t0.1.map AV.int) false)],[.box (.agg [.sl 1 (L.map AV.int) false,.int ((t0.2.2:Nat):Int)])]⟩ [0]))))
def sources_vc(L:(List Int))(p:Nat)(n:Int)(I0:((List Int)×Int×Nat)→Prop)(m0:((List Int)×Int×Nat)→Nat)(r0:Tap×(List Int)):Prop:=(sources_x L p n I0 m0).vc sources_e sources_b r0
theorem sources_p(L:List Int)(p:Nat)(n:Int)(hn:0≤n∧n≤1000)(ok:sources_a L p n):∃I m,sources_vc L p n I m ((⟨L,(sources L p n).2⟩:Tap),(sources L p n).1):=by
 have hm:=Mod_range (x:=rawV L p) (show 1≤n+1 by omega)
 refine ⟨fun t=>∃i:Nat,t.2.1=i∧srcLoop L i t.1 t.2.2=sources L p n∧i+t.1.length≤2000,fun t=>t.2.1.toNat,?_⟩
 dsimp only [sources_vc,sources_x,sources_s,Ax.vp,Ax.vc];simp only [vcU,rfU,List.length_map]
 rw [W_eq (by omega)]
 refine ⟨⟨(Mod (rawV L p) (n+1)).toNat,by omega,rfl,by simp;omega⟩,?_⟩
 rintro ⟨out,_,q⟩ ⟨i,rfl,h,hl⟩
 simp only at h hl ⊢
 refine ⟨fun h1=>?_,fun h1=>?_⟩
 ·obtain ⟨i,rfl⟩:∃k,i=k+1:=⟨i-1,by omega⟩
  refine ⟨by simp,by omega,⟨i,?_,h,?_⟩,?_⟩
  ·rw [W_eq (by omega)];omega
  ·have:=put_length out (src1 L q);show i+(put out (src1 L q)).length≤2000;omega
  ·rw [W_eq (by omega)];omega
 ·obtain rfl:i=0:=by omega
  rw [←h];rfl
def sources_h(L:(List Int))(p:Nat)(n:Int)(hn:0≤n∧n≤1000):HC Tryd.prog:=⟨38,[.k,.k],[.ref 0 0,.int n],[.box (.agg [.sl 1 (L.map AV.int) false,.int ((p:Nat):Int)])],sources_e (((⟨L,(sources L p n).2⟩:Tap),(sources L p n).1):Tap×List Int),sources_b (((⟨L,(sources L p n).2⟩:Tap),(sources L p n).1):Tap×List Int),HSpec.of_okh fun ok ok2=>have ok:sources_a L p n:=⟨ok,ok2 _ (by simp)⟩;(sources_p L p n hn ok).elim fun I0 h=>h.elim fun m0 h=>mxH_of (sh:=(.s 1)) (enc:=sources_e) (hB:=sources_b) (a:=(sources_x L p n I0 m0).an) h (by kernel_rfl),fnB_ok (by kernel_rfl),HcOk.of (by simp [hcB,belBL,AV.belB,allB,okBk,okBkO,sources_e,sources_b,pureBL_map (v:=AV.int) (fun _=>rfl)])⟩
def fltN(L:List Int)(p:Nat):Int:=pickI [0,2,4,4,16,99] (rawV L p)
def filterT(L:List Int)(p:Nat):Flt×Nat:=(⟨rng L (rawP L p) 1 2,(sources L (rawP L (rawP L p)) (fltN L p)).1⟩,(sources L (rawP L (rawP L p)) (fltN L p)).2)
theorem fltN_in(L:List Int)(p:Nat):0≤fltN L p∧fltN L p≤1000:=by
 have:=pickI_mem (l:=[0,2,4,4,16,99]) (by simp) (rawV L p)
 unfold fltN
 generalize pickI _ _=v at this
 simp only [List.mem_cons,List.not_mem_nil,or_false] at this
 omega
theorem filterT_in(L:List Int)(p:Nat):fltErr (filterT L p).1.mode (filterT L p).1.srcs=0:=by
 have h1:=rng_in (L:=L) (p:=rawP L p) (lo:=1) (hi:=2) (by omega)
 have h2:rngI (filterT L p).1.srcs∧ascI (filterT L p).1.srcs:=sources_in L _ _
 unfold fltErr
 rw [if_neg,if_neg (not_not_intro h2.1),if_neg (not_not_intro h2.2)]
 refine not_not_intro ?_
 show rng L (rawP L p) 1 2=1∨rng L (rawP L p) 1 2=2
 omega
def filterT_a(L:(List Int))(p:Nat):Prop:=okL [.ref 0 0]∧(.box (.agg [.sl 1 (L.map AV.int) false,.int ((p:Nat):Int)]):Blk).ok
def filterT_e(r:Tap×Flt):AV:=.agg [.int r.2.mode,.sl 1 (r.2.srcs.map AV.int) false]
def filterT_b(r:Tap×Flt):List (Option Blk):=[some (.box (.agg [.sl 1 (r.1.L.map AV.int) false,.int ((r.1.p:Nat):Int)]))]
def filterT_x(L:(List Int))(p:Nat):Ax Tryd.prog noS (Tap×Flt):=
 (.req 49 ([0,2,4,4,16,99]≠[]) fun h1 =>
(.callH [0] (Pick_h L p [0,2,4,4,16,99] h1) 49
(.callH [0] (Range_h L (rawP L p) 1 2) 97
(.req 145 (0≤(pickI [0,2,4,4,16,99] (rawV L p))∧(pickI [0,2,4,4,16,99] (rawV L p))≤1000) fun h2 =>
(.callH [0] (sources_h L (rawP L (rawP L p)) (pickI [0,2,4,4,16,99] (rawV L p)) h2) 145
(.retH ((⟨L,(sources L (rawP L (rawP L p)) (pickI [0,2,4,4,16,99] (rawV L p))).2⟩:Tap),(⟨rng L (rawP L p) 1 2,(sources L (rawP L (rawP L p)) (pickI [0,2,4,4,16,99] (rawV L p))).1⟩:Flt)) ⟨[(2,.k,.ref 1 0)],[.box (.agg [.sl 1 (L.map AV.int) false,.int ((((sources L (rawP L (rawP L p)) (pickI [0,2,4,4,16,99] (rawV L p))).2):Nat):Int)]),.box (.agg [.int (rng L (rawP L p) 1 2),.sl 1 (((sources L (rawP L (rawP L p)) (pickI [0,2,4,4,16,99] (rawV L p))).1).map AV.int) false])]⟩ [0,1]))))))
def filterT_vc(L:(List Int))(p:Nat)(r0:Tap×Flt):Prop:=(filterT_x L p).vc filterT_e filterT_b r0
theorem filterT_p(L:List Int)(p:Nat)(ok:filterT_a L p):filterT_vc L p ((⟨L,(filterT L p).2⟩:Tap),(filterT L p).1):=by
 dsimp only [filterT_vc,filterT_x,noS,Ax.vp,Ax.vc];simp only [vcU,rfU,List.length_map]
 exact ⟨by simp,fltN_in L p,rfl⟩
def filterT_h(L:(List Int))(p:Nat):HC Tryd.prog:=⟨7,[.k],[.ref 0 0],[.box (.agg [.sl 1 (L.map AV.int) false,.int ((p:Nat):Int)])],filterT_e (((⟨L,(filterT L p).2⟩:Tap),(filterT L p).1):Tap×Flt),filterT_b (((⟨L,(filterT L p).2⟩:Tap),(filterT L p).1):Tap×Flt),HSpec.of_okh fun ok ok2=>have ok:filterT_a L p:=⟨ok,ok2 _ (by simp)⟩;mxH_of (sh:=(.a [.k,(.s 1)])) (enc:=filterT_e) (hB:=filterT_b) (a:=(filterT_x L p).an) (filterT_p L p ok) (by kernel_rfl),fnB_ok (by kernel_rfl),HcOk.of (by simp [hcB,belBL,AV.belB,allB,okBk,okBkO,filterT_e,filterT_b,pureBL_map (v:=AV.int) (fun _=>rfl)])⟩
end Go.Proofs.YthhpaedpnjdnbaaDoor
namespace Go.Proofs
open Go.Shelf
def Tryd.lays156_ren:Go.Shelf.Ren:=⟨fun|156=>46|165=>68|166=>69|169=>70|240=>84|241=>85|276=>97|277=>98|n=>n,fun|31=>51|9=>9|3=>3|4=>4|0=>0|20=>20|72=>155|76=>159|70=>152|37=>153|75=>158|127=>174|164=>181|5=>5|80=>161|n=>n,fun|n=>n⟩
theorem Tryd.lays156:Go.Proofs.Lays.n156 Tryd.prog Tryd.lays156_ren:={
 mixed:=by kernel_rfl
 f156:=Tryd.func46.trans (congrArg some (by kernel_rfl))
 f165:=Tryd.func68.trans (congrArg some (by kernel_rfl))
 f166:=Tryd.func69.trans (congrArg some (by kernel_rfl))
 f169:=Tryd.func70.trans (congrArg some (by kernel_rfl))
 f240:=Tryd.func84.trans (congrArg some (by kernel_rfl))
 f241:=Tryd.func85.trans (congrArg some (by kernel_rfl))
 f276:=Tryd.func97.trans (congrArg some (by kernel_rfl))
 f277:=Tryd.func98.trans (congrArg some (by kernel_rfl))
 t0:=Tryd.underlying0
 a0:=Tryd.isAgg0
 z0:=Tryd.sizeOf0
 v0:=Tryd.zeroValue0
 t3:=Tryd.underlying3
 a3:=Tryd.isAgg3
 z3:=Tryd.sizeOf3
 v3:=Tryd.zeroValue3
 t4:=Tryd.underlying4
 a4:=Tryd.isAgg4
 z4:=Tryd.sizeOf4
 v4:=Tryd.zeroValue4
 t9:=Tryd.underlying9
 a9:=Tryd.isAgg9
 z9:=Tryd.sizeOf9
 v9:=Tryd.zeroValue9
 t20:=Tryd.underlying20
 a20:=Tryd.isAgg20
 z20:=Tryd.sizeOf20
 v20:=Tryd.zeroValue20
 t31:=Tryd.underlying51
 a31:=Tryd.isAgg51
 z31:=Tryd.sizeOf51
 v31:=Tryd.zeroValue51
 t37:=Tryd.underlying153
 a37:=Tryd.isAgg153
 z37:=Tryd.sizeOf153
 v37:=Tryd.zeroValue153
 t70:=Tryd.underlying152
 a70:=Tryd.isAgg152
 z70:=Tryd.sizeOf152
 v70:=Tryd.zeroValue152
 t72:=Tryd.underlying155
 a72:=Tryd.isAgg155
 z72:=Tryd.sizeOf155
 v72:=Tryd.zeroValue155
 t75:=Tryd.underlying158
 a75:=Tryd.isAgg158
 z75:=Tryd.sizeOf158
 v75:=Tryd.zeroValue158
 t76:=Tryd.underlying159
 a76:=Tryd.isAgg159
 z76:=Tryd.sizeOf159
 v76:=Tryd.zeroValue159
 t127:=Tryd.underlying174
 a127:=Tryd.isAgg174
 z127:=Tryd.sizeOf174
 v127:=Tryd.zeroValue174
 t164:=Tryd.underlying181
 a164:=Tryd.isAgg181
 z164:=Tryd.sizeOf181
 v164:=Tryd.zeroValue181 }
theorem Tryd.Builder_Extra_156:Builder.Extra Tryd.prog Tryd.lays156_ren:={
 sizeBuilder:=by kernel_rfl
 liesBuilder:=by kernel_rfl
 t5:=Tryd.underlying5
 a5:=Tryd.isAgg5
 z5:=Tryd.sizeOf5
 v5:=Tryd.zeroValue5
 infoByte:=by kernel_rfl
 cellsByte:=by kernel_rfl
 sizeByte:=by kernel_rfl
 neB5:=by decide }
open Go.RowKit in
theorem Tryd.strings_Join_none(a:Option Addr)(c:Nat)(sep:ByteArray)(w:World) :
  Calls Tryd.prog 46 #[.slice a 0 c,.string sep] w fun e w'=>e=.returned (.string ⟨#[]⟩)∧w'=w:=Any.strings_Join_none Tryd.lays156 Tryd.Builder_Extra_156 a c sep w
open Go.RowKit in
theorem Tryd.strings_Join(bk o c:Nat)(xs:List ByteArray)(sep:ByteArray)(w:World)(hcells:∀(j:Nat) x,xs[j]?=some x→w.cell? ⟨bk,o+j,none⟩=some (.string x))(hbk:bk<w.heap.size)(hN:xs.length≤140737488355328)(hcap:xs.length≤c)(hlen:(Lib.join (xs.map (·.data.toList)) sep.data.toList).length≤140737488355328) :
  Calls Tryd.prog 46 #[.slice (some ⟨bk,o,none⟩) xs.length c,.string sep] w fun e w'=>e=.returned (.string ⟨(Lib.join (xs.map (·.data.toList)) sep.data.toList).toArray⟩)∧Below w.heap.size w w':=Any.strings_Join Tryd.lays156 Tryd.Builder_Extra_156 bk o c xs sep w hcells hbk hN hcap hlen
def Tryd.laysM171_ren:Go.Shelf.Ren:=⟨fun|171=>45|243=>67|246=>83|283=>93|284=>94|285=>95|286=>96|129=>103|317=>102|318=>104|319=>105|320=>106|337=>107|338=>92|n=>n,fun|3=>3|9=>9|2=>2|4=>4|171=>177|0=>0|53=>65|37=>153|5=>5|173=>179|212=>188|51=>189|20=>20|213=>190|46=>70|232=>193|233=>186|n=>n,fun|17=>1|18=>3|19=>0|n=>n⟩
theorem Tryd.laysM171:Go.Proofs.LaysM.n171 Tryd.prog Tryd.laysM171_ren:={
 mixed:=by kernel_rfl
 f129:=Tryd.func103.trans (congrArg some (by kernel_rfl))
 f171:=Tryd.func45.trans (congrArg some (by kernel_rfl))
 f243:=Tryd.func67.trans (congrArg some (by kernel_rfl))
 f246:=Tryd.func83.trans (congrArg some (by kernel_rfl))
 f283:=Tryd.func93.trans (congrArg some (by kernel_rfl))
 f284:=Tryd.func94.trans (congrArg some (by kernel_rfl))
 f285:=Tryd.func95.trans (congrArg some (by kernel_rfl))
 f286:=Tryd.func96.trans (congrArg some (by kernel_rfl))
 f317:=Tryd.func102.trans (congrArg some (by kernel_rfl))
 f318:=Tryd.func104.trans (congrArg some (by kernel_rfl))
 f319:=Tryd.func105.trans (congrArg some (by kernel_rfl))
 f320:=Tryd.func106.trans (congrArg some (by kernel_rfl))
 f337:=Tryd.func107.trans (congrArg some (by kernel_rfl))
 f338:=Tryd.func92.trans (congrArg some (by kernel_rfl))
 t0:=Tryd.underlying0
 a0:=Tryd.isAgg0
 z0:=Tryd.sizeOf0
 v0:=Tryd.zeroValue0
 t2:=Tryd.underlying2
 a2:=Tryd.isAgg2
 z2:=Tryd.sizeOf2
 v2:=Tryd.zeroValue2
 t3:=Tryd.underlying3
 a3:=Tryd.isAgg3
 z3:=Tryd.sizeOf3
 v3:=Tryd.zeroValue3
 t4:=Tryd.underlying4
 a4:=Tryd.isAgg4
 z4:=Tryd.sizeOf4
 v4:=Tryd.zeroValue4
 t5:=Tryd.underlying5
 a5:=Tryd.isAgg5
 z5:=Tryd.sizeOf5
 v5:=Tryd.zeroValue5
 t9:=Tryd.underlying9
 a9:=Tryd.isAgg9
 z9:=Tryd.sizeOf9
 v9:=Tryd.zeroValue9
 t20:=Tryd.underlying20
 a20:=Tryd.isAgg20
 z20:=Tryd.sizeOf20
 v20:=Tryd.zeroValue20
 t37:=Tryd.underlying153
 a37:=Tryd.isAgg153
 z37:=Tryd.sizeOf153
 v37:=Tryd.zeroValue153
 t46:=Tryd.underlying70
 a46:=Tryd.isAgg70
 z46:=Tryd.sizeOf70
 v46:=Tryd.zeroValue70
 t51:=Tryd.underlying189
 a51:=Tryd.isAgg189
 z51:=Tryd.sizeOf189
 v51:=Tryd.zeroValue189
 t53:=Tryd.underlying65
 a53:=Tryd.isAgg65
 z53:=Tryd.sizeOf65
 v53:=Tryd.zeroValue65
 t171:=Tryd.underlying177
 a171:=Tryd.isAgg177
 z171:=Tryd.sizeOf177
 v171:=Tryd.zeroValue177
 t173:=Tryd.underlying179
 a173:=Tryd.isAgg179
 z173:=Tryd.sizeOf179
 v173:=Tryd.zeroValue179
 t212:=Tryd.underlying188
 a212:=Tryd.isAgg188
 z212:=Tryd.sizeOf188
 v212:=Tryd.zeroValue188
 t213:=Tryd.underlying190
 a213:=Tryd.isAgg190
 z213:=Tryd.sizeOf190
 t232:=Tryd.underlying193
 a232:=Tryd.isAgg193
 z232:=Tryd.sizeOf193
 v232:=Tryd.zeroValue193
 t233:=Tryd.underlying186
 a233:=Tryd.isAgg186
 z233:=Tryd.sizeOf186
 v233:=Tryd.zeroValue186
 g17:=by kernel_rfl
 g18:=by kernel_rfl
 g19:=by kernel_rfl
 i0:=by kernel_rfl
 i2:=by kernel_rfl
 i3:=by kernel_rfl
 i4:=by kernel_rfl
 i5:=by kernel_rfl
 i9:=by kernel_rfl
 i20:=by kernel_rfl
 i37:=by kernel_rfl
 i46:=by kernel_rfl
 i51:=by kernel_rfl
 i53:=by kernel_rfl
 i171:=by kernel_rfl
 i173:=by kernel_rfl
 i212:=by kernel_rfl
 i232:=by kernel_rfl
 i233:=by kernel_rfl
 m17:=by kernel_rfl
 m18:=by kernel_rfl
 m19:=by kernel_rfl }
open Go.RowKit Go.Sort Go.Lib in
theorem Tryd.strconv_Itoa (n : Int) (h0 : -9223372036854775808 ≤ n) (h1 : n ≤ 9223372036854775807) (w : World) (htab : Lib.TabIs Tryd.prog w "internal/strconv.uint64pow10" .u64 Lib.pow10Tab) :
    Calls Tryd.prog 45 #[.int .i64 n] w fun e w' => e = .returned (.string ⟨(Lib.itoa n).toArray⟩) ∧ ∃ k os, w' = grow (w.drewN k) os := Any.strconv_Itoa Tryd.laysM171 n h0 h1 w htab
end Go.Proofs
namespace Go.Proofs.YthhpaedpnjdnbaaDoor
open Go Go.Am Go.RowKit
theorem B_data(l:List UInt8):(B l).data.toList=l:=rfl
theorem B_size(l:List UInt8):(B l).size=l.length:=by simp [B,ByteArray.size]
theorem B_app(a b:List UInt8):B a++B b=B (a++b):=by
 apply ByteArray.ext;simp [B]
theorem B_of(s:ByteArray):B s.data.toList=s:=by cases s;simp [B]
def itoa(n:Int):ByteArray:=B (Lib.itoa n)
def joinB(l:List ByteArray)(sep:ByteArray):ByteArray:=B (Lib.join (l.map (·.data.toList)) sep.data.toList)
theorem ext_below{w w':World}(h:Below w.heap.size w w'):Ext (fun _=>False) w w':=⟨h.os,h.tape,h.output,h.size,fun k hk _=>h.block k hk⟩
theorem pspec_str{f:FuncId}{args:List AV}{s:ByteArray}(hs:s.size≤maxLen) (h:∀(w:World) (A:Nat→Prop) (cargs:List Value),LtOk Tryd.prog A w→RVL w A args noMu cargs →
  Calls Tryd.prog f cargs.toArray w fun e w'=>e=.returned (.string s)∧Below w.heap.size w w'):PSpec Tryd.prog f args (.str s):=by
 intro w A cargs hl ha
 refine (h w A cargs hl ha).mono ?_
 rintro e w' ⟨rfl,hb⟩
 exact ⟨_,A,rfl,⟨rfl,hs⟩,ext_below hb,fun _ h=>h,fun _ h=>.inl h,fun b hb'=>Nat.lt_of_lt_of_le (hl.f b hb') hb.size⟩
theorem below_grow(w:World)(k:Nat)(os:Array Obj):Below w.heap.size w (Go.Sort.grow (w.drewN k) os):=by
 refine ⟨rfl,rfl,rfl,?_,fun q hq=>?_⟩
 ·show w.heap.size≤(w.heap++os).size
  simp
 ·show (w.heap++os)[q]?=w.heap[q]?
  exact Array.getElem?_append_left hq
theorem itoa_len{n:Int}(h:-9223372036854775808≤n∧n≤9223372036854775807):(itoa n).size≤21:=by
 rw [itoa,B_size];exact Lib.itoa_length_le n h.1 h.2
theorem itoa_spec (n : Int) : PSpec Tryd.prog 45 [.int n] (.str (itoa n)) := by
  refine PSpec.of_ok fun ok => ?_
  simp only [okL, AV.ok, plainV, inK64, and_true] at ok
  refine pspec_str (by have := itoa_len ok; rw [maxLen_eq]; omega) fun w A cargs hl ha => ?_
  obtain ⟨v, vs, rfl, ⟨rfl, _⟩, rfl⟩ := ha
  have hg : Program.globalNamed Tryd.prog "internal/strconv.uint64pow10" = some 1 := by kernel_rfl
  refine (Tryd.strconv_Itoa n ok.1 ok.2 w (hl.t _ _ _ _ rfl hg).2).mono ?_
  rintro e w' ⟨rfl, k, os, rfl⟩
  exact ⟨rfl, below_grow w k os⟩
def itoa_c(n:Int):PC Tryd.prog:=⟨45,[.k],[.int n],.str (itoa n),itoa_spec n,fnB_ok (by kernel_rfl)⟩
theorem join_spec(l:List ByteArray)(sep:ByteArray)(h1:l.length≤1048576)(h2:(joinB l sep).size≤1000000000):PSpec Tryd.prog 46 [.sl 1 (l.map AV.str) false,.str sep] (.str (joinB l sep)):=by
 refine pspec_str (by rw [maxLen_eq];omega) fun w A cargs hl ha=>?_
 obtain ⟨v,vs,rfl,hv,v2,vs2,rfl,⟨rfl,_⟩,rfl⟩:=ha
 rcases hv with ⟨e,a,rfl⟩|⟨blk,off,cap,vs,rfl,e2,e3,e4,e5,e6,e7,e8,e9⟩
 ·have:l=[]:=by simpa using e
  subst this
  refine (Tryd.strings_Join_none a 0 sep w).mono ?_
  rintro e w' ⟨rfl,rfl⟩
  exact ⟨rfl,Below.refl _ _⟩
 ·rw [List.length_map] at *
  rw [joinB,B_size] at h2
  refine (Tryd.strings_Join blk off cap l sep w (fun j x hj=>?_) (hl.f blk e2) (by omega) e3 (by omega)).mono ?_
  ·have hx:(l.map AV.str)[j]?=some (.str x):=by rw [List.getElem?_map,hj];rfl
   obtain ⟨v,g1,rfl,_⟩:=e6.get hx
   refine e8 j _ ?_
   have hone:∀(us:List Value),(∀u∈us,u.cells.size=1∧cellsOk u)→us.flatMap (·.cells.toList)=us.map fun u=>(u.cells.toList.getD 0 undef):=by
    intro us
    induction us with
    | nil=>intro _;rfl
    | cons u us ih =>
     intro h
     have hu:=(h u (by simp)).1
     obtain ⟨y,hy⟩:∃y,u.cells.toList=[y]:=List.length_eq_one_iff.mp (by simpa using hu)
     rw [List.flatMap_cons,ih (fun u hu=>h u (by simp [hu])),List.map_cons,hy];rfl
   rw [hone vs e7,List.getElem?_map,g1];rfl
  ·rintro e w' ⟨rfl,hb⟩
   exact ⟨rfl,hb⟩
def join_c(l:List ByteArray)(sep:ByteArray)(h1:l.length≤1048576)(h2:(joinB l sep).size≤1000000000):PC Tryd.prog:=⟨46,[.s 1,.k],[.sl 1 (l.map AV.str) false,.str sep],.str (joinB l sep),join_spec l sep h1 h2,fnB_ok (by kernel_rfl)⟩
end Go.Proofs.YthhpaedpnjdnbaaDoor
namespace Go.Proofs.YthhpaedpnjdnbaaDoor
open Go Go.Am
structure Rtr where
  id:Int
  cap:Bool
  deriving DecidableEq
structure Lnk where
  a:Int
  b:Int
  ca:Int
  cb:Int
  w:Int
  deriving DecidableEq
structure Tpl where
  rs:List Rtr
  ls:List Lnk
  deriving DecidableEq
structure Flw where
  src:Int
  grp:Int
  deriving DecidableEq
def Rtr.v(x:Rtr):AV:=.agg [.int x.id,.bool x.cap]
def Lnk.v(x:Lnk):AV:=.agg [.int x.a,.int x.b,.int x.ca,.int x.cb,.int x.w]
def G(rows:List (List Bool))(h:Hp):Hp:=fun b=>if 1000≤b∧b<2000 then (rows[b-1000]?).map (fun r=>Blk.vec 1 (r.map AV.bool)) else h b
def F(i:Nat):Nat:=1000+i
def names(n:Nat):List AV:=(List.range n).map fun i=>.vec (F i)
theorem G_lo{rows:List (List Bool)}{h:Hp}{b:Nat}(hb:b<1000):G rows h b=h b:=if_neg (by omega)
theorem G_F{rows:List (List Bool)}{h:Hp}{i:Nat}{r:List Bool}(hr:rows[i]?=some r)(hl:rows.length≤1000):G rows h (F i)=some (.vec 1 (r.map AV.bool)):=by
 have:i<rows.length:=(List.getElem?_eq_some_iff.mp hr).1
 unfold G F
 rw [if_pos (by omega),show 1000+i-1000=i by omega,hr];rfl
theorem F_lo{i b:Nat}(hb:b<1000):(F i=b)=False:=by unfold F;simp;omega
theorem F_lo'{i b:Nat}(hb:b<1000):(b=F i)=False:=by unfold F;simp;omega
theorem names_get{n i:Nat}(h:i<n):(names n)[i]?=some (.vec (F i)):=by simp [names,h]
theorem names_len(n:Nat):(names n).length=n:=by simp [names]
def famPi(bs fs:Nat→Nat)(b:Nat):Nat:=if 1000≤b∧b<2000 then fs (b-1000) else bs b
theorem famPi_F{bs fs:Nat→Nat}{i:Nat}(h:i<1000):famPi bs fs (F i)=fs i:=by unfold famPi F;rw [if_pos (by omega),show 1000+i-1000=i by omega]
theorem famPi_lo{bs fs:Nat→Nat}{b:Nat}(h:b<1000):famPi bs fs b=bs b:=if_neg (by omega)
theorem pureL_bool(r:List Bool):pureL (r.map AV.bool):=pureBL_ok (pureBL_map (fun _=>rfl) r)
theorem Weak.nfG{k n:Nat}{tm:Nat→AV}{hp:Hp}{nx:Nat}(rows:List (List Bool))(ts:List (Nat×AV))(hs:List (Option Blk))(bs fs:Nat→Nat)
    (hT:∀p∈ts,tm p.1=p.2.ren (famPi bs fs)∧p.2.bel 2000) (hH:∀i x,hs[i]?=some (some x)→hp (bs i)=some (x.ren (famPi bs fs))∧x.bel 2000)
    (hl:hs.length≤1000) (hr:rows.length≤1000) (hR:∀i r,rows[i]?=some r→hp (fs i)=some (.vec 1 (r.map AV.bool)))
    (h1:∀i j,i<hs.length→j<hs.length→bs i=bs j→i=j) (h2:∀i j,i<rows.length→j<rows.length→fs i=fs j→i=j) (h3:∀i j,i<hs.length→j<rows.length→bs i≠fs j)
    (hk:∀b,b<k→bs b=b) (hkl:k≤1000):Weak k n ⟨tm,hp,nx⟩ ⟨resT ts,G rows (hpL 0 hs),2000⟩:=by
  have low:∀{b x},hpL 0 hs b=some x→hs[b]?=some (some x):=fun {b x} e=>by
    rw [hpL_eq,if_pos (Nat.zero_le _),Nat.sub_zero] at e
    cases e':hs[b]? with
    | none=>rw [e'] at e;cases e
    | some y=>rw [e'] at e;exact congrArg some e
  have cls:∀{b x},G rows (hpL 0 hs) b=some x→(∃i r,b=F i∧i<rows.length∧rows[i]?=some r∧x=.vec 1 (r.map AV.bool))∨(b<hs.length∧hs[b]?=some (some x)):=fun {b x} e=>by
    unfold G at e
    split at e
    · rename_i hb
      obtain ⟨r,hr,rfl⟩:=Option.map_eq_some_iff.mp e
      exact .inl ⟨b-1000,r,by unfold F;omega,(List.getElem?_eq_some_iff.mp hr).1,hr,rfl⟩
    · have:=low e
      exact .inr ⟨(List.getElem?_eq_some_iff.mp this).1,this⟩
  refine Weak.ren (famPi bs fs) (fun t=>?_) (fun b x e=>?_) (fun b b' e e' he=>?_) (fun b hb=>?_) (by show k≤2000;omega)
  · show resT ts t=.unk∨(tm t=(resT ts t).ren _∧(resT ts t).bel 2000)
    clear hH hR h1 h2 h3 cls low hl
    induction ts with
    | nil=>exact .inl rfl
    | cons p l ih =>
      obtain ⟨t',x⟩:=p
      by_cases ht:t=t'
      · subst ht
        have:=hT (t,x) (by simp)
        simp only [resT,↓reduceIte]
        exact .inr this
      · have:=ih (fun p hp=>hT p (by simp [hp]))
        simp only [resT,if_neg ht]
        exact this
  · show b<2000∧hp (famPi bs fs b)=some (x.ren (famPi bs fs))∧x.bel 2000
    rcases cls e with ⟨i,r,rfl,hi,hr',rfl⟩|⟨hb,e⟩
    · refine ⟨by unfold F;omega,?_,belL_pure (pureL_bool r)⟩
      rw [famPi_F (by omega),hR i r hr',Blk.ren,renL_pure _ (pureL_bool r)]
    · obtain ⟨g1,g2⟩:=hH b x e
      exact ⟨by omega,by rw [famPi_lo (by omega)];exact g1,g2⟩
  · have c1:(∃i,b=F i∧i<rows.length)∨b<hs.length:=by
      cases q:G rows (hpL 0 hs) b with
      | none=>exact absurd q e
      | some x => rcases cls q with ⟨i, r, g1, g2, _⟩ | ⟨g, _⟩
                  · exact .inl ⟨i,g1,g2⟩
                  · exact .inr g
    have c2:(∃i,b'=F i∧i<rows.length)∨b'<hs.length:=by
      cases q:G rows (hpL 0 hs) b' with
      | none=>exact absurd q e'
      | some x => rcases cls q with ⟨i, r, g1, g2, _⟩ | ⟨g, _⟩
                  · exact .inl ⟨i,g1,g2⟩
                  · exact .inr g
    rcases c1 with ⟨i,rfl,hi⟩|hb<;>rcases c2 with ⟨j,rfl,hj⟩|hb'
    · rw [famPi_F (by omega),famPi_F (by omega)] at he
      rw [h2 i j hi hj he]
    · rw [famPi_F (by omega),famPi_lo (by omega)] at he
      exact absurd he.symm (h3 b' i hb' hi)
    · rw [famPi_lo (by omega),famPi_F (by omega)] at he
      exact absurd he (h3 b j hb hj)
    · rw [famPi_lo (by omega),famPi_lo (by omega)] at he
      exact h1 b b' hb hb' he
  · rw [famPi_lo (by omega)];exact hk b hb
def mset(M:List (List Bool))(x y:Nat):List (List Bool):=M.set x ((M.getD x []).set y true)
def lk1(L:List Int):Nat→Nat→Nat→List (List Bool)→List (List Bool)×Nat
 | 0,i,p,M=>(M,p)
 | m+1,i,p,M=>if Mod (rawV L p) 12<11 then lk1 L m (i+1) (rawP L (rawP L p)) (mset M (Mod (rawV L (rawP L p)) i).toNat i) else lk1 L m (i+1) (rawP L p) M
def lk2(L:List Int)(n:Nat):Nat→Nat→List (List Bool)→List (List Bool)×Nat
 | 0,p,M=>(M,p)
 | m+1,p,M =>
  if Mod (rawV L p) n=Mod (rawV L (rawP L p)) n then lk2 L n m (rawP L (rawP L p)) M
  else lk2 L n m (rawP L (rawP L p)) (mset M (min (Mod (rawV L p) n) (Mod (rawV L (rawP L p)) n)).toNat (max (Mod (rawV L p) n) (Mod (rawV L (rawP L p)) n)).toNat)
def Sq(n:Nat)(M:List (List Bool)):Prop:=M.length=n∧∀r∈M,r.length=n
theorem Sq.get{n:Nat}{M:List (List Bool)}(h:Sq n M){x:Nat}(hx:x<n):∃r,M[x]?=some r∧r.length=n∧M.getD x []=r:=by
 have hx:x<M.length:=by rw [h.1];exact hx
 exact ⟨M[x],List.getElem?_eq_getElem hx,h.2 _ (List.getElem_mem hx),by simp [List.getD,List.getElem?_eq_getElem hx]⟩
theorem Sq.set{n:Nat}{M:List (List Bool)}(h:Sq n M)(x y:Nat):Sq n (mset M x y):=by
 refine ⟨by simp [mset,h.1],fun r hr=>?_⟩
 by_cases hx:x<n
 ·obtain ⟨r0,g1,g2,g3⟩:=h.get hx
  rcases List.mem_or_eq_of_mem_set hr with hr|rfl
  ·exact h.2 r hr
  ·rw [g3];simpa using g2
 ·have:mset M x y=M:=List.set_eq_of_length_le (by rw [h.1];omega)
  rw [this] at hr;exact h.2 r hr
theorem lk1_sq{L:List Int}{n:Nat}:∀{m i p:Nat} {M:List (List Bool)},Sq n M→Sq n (lk1 L m i p M).1
 | 0,_,_,_,h=>h
 | m+1,i,p,M,h=>by
  rw [lk1];split
  ·exact lk1_sq (h.set _ _)
  ·exact lk1_sq h
theorem lk2_sq{L:List Int}{n k:Nat}:∀{m p:Nat} {M:List (List Bool)},Sq n M→Sq n (lk2 L k m p M).1
 | 0,_,_,h=>h
 | m+1,p,M,h=>by
  rw [lk2];split
  ·exact lk2_sq h
  ·exact lk2_sq (h.set _ _)
def sq0(n:Nat):List (List Bool):=List.replicate n (List.replicate n false)
theorem sq0_sq(n:Nat):Sq n (sq0 n):=⟨by simp [sq0],fun r hr=>by rw [(List.mem_replicate.mp hr).2];simp⟩
end Go.Proofs.YthhpaedpnjdnbaaDoor
namespace Go.Proofs.YthhpaedpnjdnbaaDoor
open Go Go.Am Go.RowKit
inductive Anyv where
  | n (i:Int)
  | s (b:ByteArray)
def Anyv.v:Anyv→AV
 | .n i=>.val (.iface 3 (.int .i64 i))
 | .s b=>.val (.iface 9 (.string b))
def Anyv.txt:Anyv→ByteArray
 | .n i=>itoa i
 | .s b=>b
def words(l:List Anyv):ByteArray:=joinB (l.map Anyv.txt) (B [32])
def cf48:AF:=
 ⟨33,1,[.tmp 2],
 .seq (.reg [⟨(some 2),.move (.c (.val (.string ⟨#[]⟩))),none⟩])
 (.seq (.reg [⟨(some 3),.move (.c (.sl 0 [] true)),none⟩])
 (.seq (.seq (.reg [⟨(some 8),.move (.t 0),none⟩,⟨(some 9),.len (.t 8),none⟩,⟨(some 10),.move (.c (.val (.int .i64 0))),none⟩])
 (.block 0 (.loop (.seq (.reg [⟨(some 11),.bin .lss (.t 10) (.t 9),none⟩])
 (.seq (.cond (.t 11) (.skip) (.exit 0))
 (.seq (.block 1 (.seq (.reg [⟨(some 12),.iaddr 1 (.t 8) (.t 10),none⟩,⟨(some 13),.load false 1 (.t 12),none⟩,⟨(some 5),.move (.t 13),none⟩])
 (.seq (.reg [⟨(some 14),.move (.t 5),none⟩])
 (.block 2 (.seq (.reg [⟨(some 15),.asrt 3 ((.val (.int .i64 0))) (.t 14),none⟩,⟨(some 16),.ext 1 (.t 15),none⟩,⟨(some 17),.ext 0 (.t 15),none⟩])
 (.cond (.t 16) (.seq (.reg [⟨(some 6),.move (.t 17),none⟩])
 (.reg [⟨(some 18),.move (.t 3),none⟩,⟨(some 19),.move (.t 6),none⟩,⟨(some 20),.call (.c (.func 45 [])) [(.t 19)],none⟩,⟨(some 21),.lit 1 1 (.val (.string ⟨#[]⟩)) [(0,(.t 20))],none⟩,⟨(some 22),.append 1 16 (.t 18) (.t 21),none⟩,⟨(some 3),.move (.t 22),none⟩])) (.seq (.reg [⟨(some 23),.asrt 9 ((.val (.string ⟨#[]⟩))) (.t 14),none⟩,⟨(some 24),.ext 1 (.t 23),none⟩,⟨(some 25),.ext 0 (.t 23),none⟩])
 (.cond (.t 24) (.seq (.reg [⟨(some 7),.move (.t 25),none⟩])
 (.reg [⟨(some 26),.move (.t 3),none⟩,⟨(some 27),.move (.t 7),none⟩,⟨(some 28),.lit 1 1 (.val (.string ⟨#[]⟩)) [(0,(.t 27))],none⟩,⟨(some 29),.append 1 16 (.t 26) (.t 28),none⟩,⟨(some 3),.move (.t 29),none⟩])) (.skip)))))))))
 (.reg [⟨(some 30),.bin .add (.t 10) (.c (.val (.int .i64 1))),none⟩,⟨(some 10),.move (.t 30),none⟩])))))))
 (.seq (.reg [⟨(some 31),.move (.t 3),none⟩,⟨(some 32),.call (.c (.func 46 [])) [(.t 31),(.c (.val (.string ⟨#[32]⟩)))],none⟩,⟨(some 2),.move (.t 32),none⟩])
 (.ret))))⟩
theorem cf48_ok:cFunc Tryd.prog Tryd.f48=some cf48:=by kernel_rfl
theorem itoa_fn:FnOk Tryd.prog 45:=fnB_ok (by kernel_rfl)
theorem join_fn:FnOk Tryd.prog 46:=fnB_ok (by kernel_rfl)
theorem pureL_txt(l:List Anyv):pureL (l.map fun x=>AV.str x.txt):=pureL_iff.mpr fun x hx=>by obtain ⟨y,_,rfl⟩:=List.mem_map.mp hx;trivial
theorem words_spec(l:List Anyv)(h1:l.length≤1000)(h2:(words l).size≤1000000000):PSpec Tryd.prog 48 [.sl 1 (l.map Anyv.v) false] (.str (words l)):=by
 refine PSpec.walk Tryd.func48 cf48_ok (by simp [cf48]) trivial ?_
 unfold cf48
 simp only [initT]
 have hml:=maxLen_eq
 refine AWP.seq' ?_
 refine AWP.reg' fun K hK=>?_
 try simp only [stepS,stepD,stepM,eq_self,implies_true,forall_eq_or_imp,forall_eq,Nat.reduceEqDiff,↓reduceIte,Nat.reduceAdd,Nat.reduceLeDiff,Nat.reduceSub,Nat.reduceMul,Nat.reduceLT,Int.reduceBEq,Int.reduceBNe,Int.reduceToNat,Int.reduceLT,Int.reduceLE,Int.reduceAdd,Int.reduceSub,Int.reduceMul,reduceCtorEq]
 refine hK _ _ _ ?_
 clear hK K
 refine AWP.seq' ?_
 refine AWP.reg' fun K hK=>?_
 try simp only [stepS,stepD,stepM,eq_self,implies_true,forall_eq_or_imp,forall_eq,Nat.reduceEqDiff,↓reduceIte,Nat.reduceAdd,Nat.reduceLeDiff,Nat.reduceSub,Nat.reduceMul,Nat.reduceLT,Int.reduceBEq,Int.reduceBNe,Int.reduceToNat,Int.reduceLT,Int.reduceLE,Int.reduceAdd,Int.reduceSub,Int.reduceMul,reduceCtorEq]
 refine hK _ _ _ ?_
 clear hK K
 refine AWP.seq' (AWP.seq' ?_)
 refine AWP.reg' fun K hK=>?_
 try simp only [stepS,stepD,stepM,eq_self,implies_true,forall_eq_or_imp,forall_eq,Nat.reduceEqDiff,↓reduceIte,Nat.reduceAdd,Nat.reduceLeDiff,Nat.reduceSub,Nat.reduceMul,Nat.reduceLT,Int.reduceBEq,Int.reduceBNe,Int.reduceToNat,Int.reduceLT,Int.reduceLE,Int.reduceAdd,Int.reduceSub,Int.reduceMul,reduceCtorEq,lenA]
 refine hK _ _ _ ?_
 clear hK K
 refine AWP.block ?_
 refine AWP.weak (Weak.nilvec 3 0 1 rfl (Nat.zero_le _)) ?_
 refine AWP.loopS (fun i=>⟨resT [(3,.vec 0),(8,.sl 1 (l.map Anyv.v) false),(9,.int l.length),(10,.int (i:Nat))],hpL 0 [some (.vec 1 ((l.take i).map fun x=>.str x.txt))],1⟩)
  (fun i=>i≤l.length) (fun i=>l.length-i) (i0:=0) (Nat.zero_le _) ?_ ?_
 ·refine Weak.nf [80] _ _ ?_ ?_ ⟨rfl,rfl⟩ (by decide) (by decide) (by decide)
  ·repeat' (first|exact trivial|exact And.intro rfl trivial|refine And.intro ?_ ?_|rfl|exact Nat.le_of_ble_eq_true rfl|(rw [List.length_map];rfl))
  ·repeat' (first|exact trivial|exact And.intro rfl trivial|refine And.intro ?_ ?_|rfl|exact Nat.le_of_ble_eq_true rfl|(rw [List.length_map];rfl))
 intro i hi
 refine AWP.seq' ?_
 refine AWP.reg' fun K hK=>?_
 try simp only [stepS,stepD,stepM,eq_self,implies_true,forall_eq_or_imp,forall_eq,Nat.reduceEqDiff,↓reduceIte,Nat.reduceAdd,Nat.reduceLeDiff,Nat.reduceSub,Nat.reduceMul,Nat.reduceLT,Int.reduceBEq,Int.reduceBNe,Int.reduceToNat,Int.reduceLT,Int.reduceLE,Int.reduceAdd,Int.reduceSub,Int.reduceMul,reduceCtorEq]
 refine hK _ _ _ ?_
 clear hK K
 refine AWP.seq' ?_
 refine AWP.cond (b:=decide ((i:Int)<(l.length:Int))) rfl (fun h=>?_) (fun h=>?_)
 ·have h:i<l.length:=by have:=of_decide_eq_true h;omega
  obtain ⟨x,hx⟩:∃x,l[i]?=some x:=⟨_,List.getElem?_eq_getElem h⟩
  have hg:(l.map Anyv.v).getD i .unk=x.v:=by rw [List.getD_eq_getElem?_getD,List.getElem?_map,hx];rfl
  have ht:l.take (i+1)=l.take i++[x]:=take_succ hx
  have w:IntKind.i64.wrap ((i:Int)+1)=((i+1:Nat):Int):=wrapN (by omega) (by omega)
  have hlen:(l.take i).length=i:=by rw [List.length_take];omega
  refine AWP.skip ?_
  refine AWP.seq' (AWP.block (AWP.seq' ?_))
  cases x with
  | n j =>
   have hv:(Anyv.n j).v=.val (.iface 3 (.int .i64 j)):=rfl
   rw [hv] at hg
   refine AWP.reg' fun K hK=>?_
   try simp only [stepS,stepD,stepM,eq_self,implies_true,forall_eq_or_imp,forall_eq,Nat.reduceEqDiff,↓reduceIte,Nat.reduceAdd,Nat.reduceLeDiff,Nat.reduceSub,Nat.reduceMul,Nat.reduceLT,Int.reduceBEq,Int.reduceBNe,Int.reduceToNat,Int.reduceLT,Int.reduceLE,Int.reduceAdd,Int.reduceSub,Int.reduceMul,reduceCtorEq,hg,Int.toNat_natCast,List.length_map]
   repeat (refine And.intro (by omega) ?_)
   refine hK _ _ _ ?_
   clear hK K
   refine AWP.seq' ?_
   refine AWP.reg' fun K hK=>?_
   try simp only [stepS,stepD,stepM,eq_self,implies_true,forall_eq_or_imp,forall_eq,Nat.reduceEqDiff,↓reduceIte,Nat.reduceAdd,Nat.reduceLeDiff,Nat.reduceSub,Nat.reduceMul,Nat.reduceLT,Int.reduceBEq,Int.reduceBNe,Int.reduceToNat,Int.reduceLT,Int.reduceLE,Int.reduceAdd,Int.reduceSub,Int.reduceMul,reduceCtorEq]
   refine hK _ _ _ ?_
   clear hK K
   refine AWP.block (AWP.seq' ?_)
   refine AWP.reg' fun K hK=>?_
   try simp only [stepS,stepD,stepM,eq_self,implies_true,forall_eq_or_imp,forall_eq,Nat.reduceEqDiff,↓reduceIte,Nat.reduceAdd,Nat.reduceLeDiff,Nat.reduceSub,Nat.reduceMul,Nat.reduceLT,Int.reduceBEq,Int.reduceBNe,Int.reduceToNat,Int.reduceLT,Int.reduceLE,Int.reduceAdd,Int.reduceSub,Int.reduceMul,reduceCtorEq,evA]
   refine hK _ _ _ ?_
   clear hK K
   refine AWP.cond (b:=true) rfl (fun _=>?_) (fun h=>by cases h)
   refine AWP.seq' ?_
   refine AWP.reg' fun K hK=>?_
   try simp only [stepS,stepD,stepM,eq_self,implies_true,forall_eq_or_imp,forall_eq,Nat.reduceEqDiff,↓reduceIte,Nat.reduceAdd,Nat.reduceLeDiff,Nat.reduceSub,Nat.reduceMul,Nat.reduceLT,Int.reduceBEq,Int.reduceBNe,Int.reduceToNat,Int.reduceLT,Int.reduceLE,Int.reduceAdd,Int.reduceSub,Int.reduceMul,reduceCtorEq]
   refine hK _ _ _ ?_
   clear hK K
   refine AWP.reg' fun K hK=>?_
   try simp only [stepS,stepD,stepM,eq_self,implies_true,forall_eq_or_imp,forall_eq,Nat.reduceEqDiff,↓reduceIte,Nat.reduceAdd,Nat.reduceLeDiff,Nat.reduceSub,Nat.reduceMul,Nat.reduceLT,Int.reduceBEq,Int.reduceBNe,Int.reduceToNat,Int.reduceLT,Int.reduceLE,Int.reduceAdd,Int.reduceSub,Int.reduceMul,reduceCtorEq]
   refine evT_pure (itoa_spec j) itoa_fn rfl (by rfl) ⟨trivial,trivial⟩ ?_
   try simp only [stepS,stepD,stepM,eq_self,implies_true,forall_eq_or_imp,forall_eq,Nat.reduceEqDiff,↓reduceIte,Nat.reduceAdd,Nat.reduceLeDiff,Nat.reduceSub,Nat.reduceMul,Nat.reduceLT,Int.reduceBEq,Int.reduceBNe,Int.reduceToNat,Int.reduceLT,Int.reduceLE,Int.reduceAdd,Int.reduceSub,Int.reduceMul,reduceCtorEq]
   refine evT_lit ?_
   try simp only [stepS,stepD,stepM,eq_self,implies_true,forall_eq_or_imp,forall_eq,Nat.reduceEqDiff,↓reduceIte,Nat.reduceAdd,Nat.reduceLeDiff,Nat.reduceSub,Nat.reduceMul,Nat.reduceLT,Int.reduceBEq,Int.reduceBNe,Int.reduceToNat,Int.reduceLT,Int.reduceLE,Int.reduceAdd,Int.reduceSub,Int.reduceMul,reduceCtorEq,evA,litA,litOk,litPure,appendA,srcA,hlen,List.length_map]
   repeat (refine And.intro (by omega) ?_)
   refine hK _ _ _ ?_
   clear hK K
   refine (show AWP _ _ _ _ _ _ from ?_)
   refine AWP.reg' fun K hK=>?_
   try simp only [stepS,stepD,stepM,eq_self,implies_true,forall_eq_or_imp,forall_eq,Nat.reduceEqDiff,↓reduceIte,Nat.reduceAdd,Nat.reduceLeDiff,Nat.reduceSub,Nat.reduceMul,Nat.reduceLT,Int.reduceBEq,Int.reduceBNe,Int.reduceToNat,Int.reduceLT,Int.reduceLE,Int.reduceAdd,Int.reduceSub,Int.reduceMul,reduceCtorEq,w]
   refine hK _ _ _ ?_
   clear hK K
   refine ⟨i+1,by omega,by omega,?_⟩
   rw [ht,List.map_append]
   refine Weak.nf [209] _ _ ?_ ?_ ⟨rfl,rfl⟩ (by decide) (by decide) (by decide)
   ·repeat' (first|exact trivial|exact And.intro rfl trivial|refine And.intro ?_ ?_|rfl|exact Nat.le_of_ble_eq_true rfl|(rw [Blk.ren,renL_pure _ (pureL_iff.mpr fun x hx=>by rcases List.mem_append.mp hx with hx|hx<;>(obtain ⟨y,_,rfl⟩:=List.mem_map.mp hx;trivial))];rfl)|exact belL_pure (pureL_iff.mpr fun x hx=>by rcases List.mem_append.mp hx with hx|hx<;>(obtain ⟨y,_,rfl⟩:=List.mem_map.mp hx;trivial)))
   ·repeat' (first|exact trivial|exact And.intro rfl trivial|refine And.intro ?_ ?_|rfl|exact Nat.le_of_ble_eq_true rfl|(rw [Blk.ren,renL_pure _ (pureL_iff.mpr fun x hx=>by rcases List.mem_append.mp hx with hx|hx<;>(obtain ⟨y,_,rfl⟩:=List.mem_map.mp hx;trivial))];rfl)|exact belL_pure (pureL_iff.mpr fun x hx=>by rcases List.mem_append.mp hx with hx|hx<;>(obtain ⟨y,_,rfl⟩:=List.mem_map.mp hx;trivial)))
  | s b =>
   have hv:(Anyv.s b).v=.val (.iface 9 (.string b)):=rfl
   rw [hv] at hg
   refine AWP.reg' fun K hK=>?_
   try simp only [stepS,stepD,stepM,eq_self,implies_true,forall_eq_or_imp,forall_eq,Nat.reduceEqDiff,↓reduceIte,Nat.reduceAdd,Nat.reduceLeDiff,Nat.reduceSub,Nat.reduceMul,Nat.reduceLT,Int.reduceBEq,Int.reduceBNe,Int.reduceToNat,Int.reduceLT,Int.reduceLE,Int.reduceAdd,Int.reduceSub,Int.reduceMul,reduceCtorEq,hg,Int.toNat_natCast,List.length_map]
   repeat (refine And.intro (by omega) ?_)
   refine hK _ _ _ ?_
   clear hK K
   refine AWP.seq' ?_
   refine AWP.reg' fun K hK=>?_
   try simp only [stepS,stepD,stepM,eq_self,implies_true,forall_eq_or_imp,forall_eq,Nat.reduceEqDiff,↓reduceIte,Nat.reduceAdd,Nat.reduceLeDiff,Nat.reduceSub,Nat.reduceMul,Nat.reduceLT,Int.reduceBEq,Int.reduceBNe,Int.reduceToNat,Int.reduceLT,Int.reduceLE,Int.reduceAdd,Int.reduceSub,Int.reduceMul,reduceCtorEq]
   refine hK _ _ _ ?_
   clear hK K
   refine AWP.block (AWP.seq' ?_)
   refine AWP.reg' fun K hK=>?_
   try simp only [stepS,stepD,stepM,eq_self,implies_true,forall_eq_or_imp,forall_eq,Nat.reduceEqDiff,↓reduceIte,Nat.reduceAdd,Nat.reduceLeDiff,Nat.reduceSub,Nat.reduceMul,Nat.reduceLT,Int.reduceBEq,Int.reduceBNe,Int.reduceToNat,Int.reduceLT,Int.reduceLE,Int.reduceAdd,Int.reduceSub,Int.reduceMul,reduceCtorEq,evA]
   refine hK _ _ _ ?_
   clear hK K
   refine AWP.cond (b:=false) rfl (fun h=>by cases h) (fun _=>?_)
   refine AWP.seq' ?_
   refine AWP.reg' fun K hK=>?_
   try simp only [stepS,stepD,stepM,eq_self,implies_true,forall_eq_or_imp,forall_eq,Nat.reduceEqDiff,↓reduceIte,Nat.reduceAdd,Nat.reduceLeDiff,Nat.reduceSub,Nat.reduceMul,Nat.reduceLT,Int.reduceBEq,Int.reduceBNe,Int.reduceToNat,Int.reduceLT,Int.reduceLE,Int.reduceAdd,Int.reduceSub,Int.reduceMul,reduceCtorEq,evA]
   refine hK _ _ _ ?_
   clear hK K
   refine AWP.cond (b:=true) rfl (fun _=>?_) (fun h=>by cases h)
   refine AWP.seq' ?_
   refine AWP.reg' fun K hK=>?_
   try simp only [stepS,stepD,stepM,eq_self,implies_true,forall_eq_or_imp,forall_eq,Nat.reduceEqDiff,↓reduceIte,Nat.reduceAdd,Nat.reduceLeDiff,Nat.reduceSub,Nat.reduceMul,Nat.reduceLT,Int.reduceBEq,Int.reduceBNe,Int.reduceToNat,Int.reduceLT,Int.reduceLE,Int.reduceAdd,Int.reduceSub,Int.reduceMul,reduceCtorEq]
   refine hK _ _ _ ?_
   clear hK K
   refine AWP.reg' fun K hK=>?_
   try simp only [stepS,stepD,stepM,eq_self,implies_true,forall_eq_or_imp,forall_eq,Nat.reduceEqDiff,↓reduceIte,Nat.reduceAdd,Nat.reduceLeDiff,Nat.reduceSub,Nat.reduceMul,Nat.reduceLT,Int.reduceBEq,Int.reduceBNe,Int.reduceToNat,Int.reduceLT,Int.reduceLE,Int.reduceAdd,Int.reduceSub,Int.reduceMul,reduceCtorEq]
   refine evT_lit ?_
   try simp only [stepS,stepD,stepM,eq_self,implies_true,forall_eq_or_imp,forall_eq,Nat.reduceEqDiff,↓reduceIte,Nat.reduceAdd,Nat.reduceLeDiff,Nat.reduceSub,Nat.reduceMul,Nat.reduceLT,Int.reduceBEq,Int.reduceBNe,Int.reduceToNat,Int.reduceLT,Int.reduceLE,Int.reduceAdd,Int.reduceSub,Int.reduceMul,reduceCtorEq,evA,litA,litOk,litPure,appendA,srcA,hlen,List.length_map]
   repeat (refine And.intro (by omega) ?_)
   refine hK _ _ _ ?_
   clear hK K
   refine (show AWP _ _ _ _ _ _ from ?_)
   refine AWP.reg' fun K hK=>?_
   try simp only [stepS,stepD,stepM,eq_self,implies_true,forall_eq_or_imp,forall_eq,Nat.reduceEqDiff,↓reduceIte,Nat.reduceAdd,Nat.reduceLeDiff,Nat.reduceSub,Nat.reduceMul,Nat.reduceLT,Int.reduceBEq,Int.reduceBNe,Int.reduceToNat,Int.reduceLT,Int.reduceLE,Int.reduceAdd,Int.reduceSub,Int.reduceMul,reduceCtorEq,w]
   refine hK _ _ _ ?_
   clear hK K
   refine ⟨i+1,by omega,by omega,?_⟩
   rw [ht,List.map_append]
   refine Weak.nf [241] _ _ ?_ ?_ ⟨rfl,rfl⟩ (by decide) (by decide) (by decide)
   ·repeat' (first|exact trivial|exact And.intro rfl trivial|refine And.intro ?_ ?_|rfl|exact Nat.le_of_ble_eq_true rfl|(rw [Blk.ren,renL_pure _ (pureL_iff.mpr fun x hx=>by rcases List.mem_append.mp hx with hx|hx<;>(obtain ⟨y,_,rfl⟩:=List.mem_map.mp hx;trivial))];rfl)|exact belL_pure (pureL_iff.mpr fun x hx=>by rcases List.mem_append.mp hx with hx|hx<;>(obtain ⟨y,_,rfl⟩:=List.mem_map.mp hx;trivial)))
   ·repeat' (first|exact trivial|exact And.intro rfl trivial|refine And.intro ?_ ?_|rfl|exact Nat.le_of_ble_eq_true rfl|(rw [Blk.ren,renL_pure _ (pureL_iff.mpr fun x hx=>by rcases List.mem_append.mp hx with hx|hx<;>(obtain ⟨y,_,rfl⟩:=List.mem_map.mp hx;trivial))];rfl)|exact belL_pure (pureL_iff.mpr fun x hx=>by rcases List.mem_append.mp hx with hx|hx<;>(obtain ⟨y,_,rfl⟩:=List.mem_map.mp hx;trivial)))
 ·have h:i=l.length:=by have:=of_decide_eq_false h;omega
  subst h
  refine AWP.exit ?_
  refine (show AWP _ _ _ _ _ _ from ?_)
  rw [List.take_length]
  refine AWP.weak (Weak.giveT 3 0 (by rfl) (by rfl) (pureL_txt l)) ?_
  have e:(l.map fun x=>AV.str x.txt)=(l.map Anyv.txt).map AV.str:=by rw [List.map_map];rfl
  rw [e]
  refine AWP.seq' ?_
  refine AWP.reg' fun K hK=>?_
  try simp only [stepS,stepD,stepM,eq_self,implies_true,forall_eq_or_imp,forall_eq,Nat.reduceEqDiff,↓reduceIte,Nat.reduceAdd,Nat.reduceLeDiff,Nat.reduceSub,Nat.reduceMul,Nat.reduceLT,Int.reduceBEq,Int.reduceBNe,Int.reduceToNat,Int.reduceLT,Int.reduceLE,Int.reduceAdd,Int.reduceSub,Int.reduceMul,reduceCtorEq]
  refine evT_pure (join_spec (l.map Anyv.txt) (B [32]) (by rw [List.length_map];omega) h2) join_fn rfl (by rfl) ⟨trivial,trivial,trivial⟩ ?_
  try simp only [stepS,stepD,stepM,eq_self,implies_true,forall_eq_or_imp,forall_eq,Nat.reduceEqDiff,↓reduceIte,Nat.reduceAdd,Nat.reduceLeDiff,Nat.reduceSub,Nat.reduceMul,Nat.reduceLT,Int.reduceBEq,Int.reduceBNe,Int.reduceToNat,Int.reduceLT,Int.reduceLE,Int.reduceAdd,Int.reduceSub,Int.reduceMul,reduceCtorEq]
  refine hK _ _ _ ?_
  clear hK K
  exact AWP.ret (finP_ret rfl (by rfl) trivial)
def words_c(l:List Anyv)(h1:l.length≤1000)(h2:(words l).size≤1000000000):PC Tryd.prog:=⟨48,[.s 1],[.sl 1 (l.map Anyv.v) false],.str (words l),words_spec l h1 h2,fnB_ok (by kernel_rfl)⟩
structure A2S where
  s0:ByteArray
  s1:ByteArray
def A2S.v(x:A2S):AV:=.agg [.str x.s0,.str x.s1]
theorem joinTail_len{m k:Nat}{sep:List UInt8}(hs:sep.length≤k):∀{l:List (List UInt8)},(∀x∈l,x.length≤m)→(Lib.joinTail sep l).length≤l.length * (m+k)
 | [],_=>by simp [Lib.joinTail]
 | x::l,h=>by
  have h1:=h x (by simp)
  have h2:=joinTail_len hs (l:=l) fun y hy=>h y (by simp [hy])
  have e:Lib.joinTail sep (x::l)=(sep++x)++Lib.joinTail sep l:=by simp [Lib.joinTail]
  rw [e,List.length_append,List.length_append,List.length_cons,Nat.succ_mul]
  omega
theorem ba_len(s:ByteArray):s.data.toList.length=s.size:=by rw [Array.length_toList];rfl
theorem joinB_size{l:List ByteArray}{sep:ByteArray}{m k:Nat}(hm:∀x∈l,x.size≤m)(hs:sep.size≤k):(joinB l sep).size≤l.length * (m+k):=by
 rw [joinB,B_size]
 cases l with
 | nil=>simp [Lib.join_nil]
 | cons x r =>
  rw [List.map_cons,Lib.join_cons,List.length_append]
  have h1:=hm x (by simp)
  have h2:=joinTail_len (m:=m) (k:=k) (sep:=sep.data.toList) (by rw [ba_len];exact hs) (l:=r.map (·.data.toList)) (fun y hy=>by
   obtain ⟨z,hz,rfl⟩:=List.mem_map.mp hy
   rw [ba_len];exact hm z (by simp [hz]))
  have h3:=ba_len x
  rw [List.length_map] at h2
  rw [List.length_cons,Nat.succ_mul]
  omega
def hopT(a b:Int):ByteArray:=itoa a++B [45]++itoa b
def hopT_a(from_:Int)(to_:Int):Prop:=okL [.int from_,.int to_]
def hopT_e(r:ByteArray):AV:=.str r
def hopT_x(from_:Int)(to_:Int):Ax Tryd.prog noS (ByteArray):=
 (.callP (itoa_c from_)
(.say (ck (decide ((itoa from_).size+(B [45]).size≤maxLen))) (.callP (itoa_c to_)
(.say (ck (decide (((itoa from_)++(B [45])).size+(itoa to_).size≤maxLen))) (.ret (((itoa from_)++(B [45]))++(itoa to_)))))))
def hopT_vc(from_:Int)(to_:Int)(r0:ByteArray):Prop:=(hopT_x from_ to_).vp hopT_e r0
theorem hopT_p(f t:Int)(ok:hopT_a f t):hopT_vc f t (hopT f t):=by
 simp only [hopT_a,okU,Blk.ok,plainV,List.length_map] at ok
 dsimp only [hopT_vc,hopT_x,noS,Ax.vp,Ax.vc];simp only [vcU,rfU,List.length_map]
 have h1:=itoa_len ok.1
 have h2:=itoa_len ok.2
 have h3:(B [45]).size=1:=rfl
 rw [ByteArray.size_append,h3,maxLen_eq]
 exact ⟨by omega,by omega,rfl⟩
def hopT_c(from_:Int)(to_:Int):PC Tryd.prog:=⟨47,[.k,.k],[.int from_,.int to_],hopT_e (hopT from_ to_),PSpec.of_ok fun ok=>mxP_of (sh:=.k) (enc:=hopT_e) (a:=(hopT_x from_ to_).an) (hopT_p from_ to_ ok) (by kernel_rfl) (AV.pureB_ok rfl),fnB_ok (by kernel_rfl)⟩
theorem hopT_size{a b:Int}(h1:-9223372036854775808≤a∧a≤9223372036854775807)(h2:-9223372036854775808≤b∧b≤9223372036854775807):(hopT a b).size≤43:=by
 have h1:=itoa_len h1
 have h2:=itoa_len h2
 have h3:(B [45]).size=1:=rfl
 rw [hopT,ByteArray.size_append,ByteArray.size_append];omega
def listT(l:List Int):ByteArray:=if l=[] then B [46] else joinB (l.map itoa) (B [44])
def listT_a(l:(List Int)):Prop:=okL [.sl 1 (l.map AV.int) false]
def listT_n0(l:(List Int))(t0:Int×(List ByteArray)):NF:=⟨[(3,.k,.vec 0),(9,.k,.sl 1 (l.map AV.int) false),(10,.k,.int ((l.map AV.int).length:Int)),(11,.k,.int t0.1)],[.vec 1 (t0.2.map AV.str) (pureBL_map (fun _=>rfl) t0.2)]⟩
@[reducible] def listT_s:Nat→Type
 | 0=>Int×(List ByteArray)
 | _=>Unit
def listT_e(r:ByteArray):AV:=.str r
def listT_x(l:(List Int))(I0:(Int×(List ByteArray))→Prop)(m0:(Int×(List ByteArray))→Nat):Ax Tryd.prog listT_s (ByteArray):=
 (.br 64 (((l.map AV.int).length:Int)==0) (.ret (B [46]))
(.cmdL (.nilT 3 1) (.loop 0 (listT_n0 l) I0 m0 (0,[]) [128] fun (t0:Int×(List ByteArray)) b0 =>
(.br 17 (decide (t0.1<((l.map AV.int).length:Int))) (.el 17 AV.int l (fun R=>Rf (l.map AV.int) (ck (decide (0≤t0.1)) (ck (decide (t0.1<(l.length:Int)))
(∀x1,l[t0.1.toNat]?=some x1 →
(R x1))))) fun x1 =>
(.callP (itoa_c x1)
(.say (fun R=>Rf (α:=List AV) (t0.2.map AV.str) (Rf (α:=List AV) [.str (itoa x1)]
(ck (decide (t0.2.length+1≤1048576))
R))) (.app 129 AV.str t0.2 [itoa x1]
(.bk 0 b0 (W (t0.1+1),t0.2++[itoa x1]) [129])))))
(.req 33 (t0.2.length≤1048576) fun h2 =>
(.req 33 ((joinB t0.2 (B [44])).size≤1000000000) fun h3 =>
(.callP (join_c t0.2 (B [44]) h2 h3)
(.say (ck (pureBLs [(t0.2.map AV.str)])) (.ret (joinB t0.2 (B [44])))))))))))
def listT_vc(l:(List Int))(I0:(Int×(List ByteArray))→Prop)(m0:(Int×(List ByteArray))→Nat)(r0:ByteArray):Prop:=(listT_x l I0 m0).vp listT_e r0
theorem listT_p(l:List Int)(h:l.length≤1048576)(ok:listT_a l):∃I m,listT_vc l I m (listT l):=by
 refine ⟨fun t=>∃k:Nat,t.1=k∧k≤l.length∧t.2=(l.take k).map itoa,fun t=>l.length-t.1.toNat,?_⟩
 simp only [listT_a,okU,Blk.ok,plainV,List.length_map] at ok
 dsimp only [listT_vc,listT_x,listT_s,Ax.vp,Ax.vc];simp only [vcU,rfU,List.length_map]
 have hin:∀x∈l,-9223372036854775808≤x∧x≤9223372036854775807:=fun x hx=>by
  have:=okL_iff.mp ok.2 _ (List.mem_map_of_mem hx)
  simpa only [okU,plainV] using this
 refine ⟨fun c=>?_,fun c=>⟨⟨0,rfl,by omega,rfl⟩,?_⟩⟩
 ·have:l=[]:=List.eq_nil_of_length_eq_zero (by have:=eq_of_beq c;omega)
  rw [listT,if_pos this]
 ·have hne:¬l=[]:=fun e=>by subst e;simp at c
  rintro ⟨i,r⟩ ⟨k,hi,hk,hr⟩
  simp only at hi hr ⊢
  subst hi;subst hr
  simp only [Int.toNat_natCast]
  refine ⟨fun c1=>⟨by omega,by omega,fun x hx=>⟨by simp;omega,⟨k+1,W_succ (n:=l.length) (by omega) (by omega),by omega,by rw [take_succ hx,List.map_append];rfl⟩,by rw [W_succ (n:=l.length) (by omega) (by omega)];omega⟩⟩,fun c1=>?_⟩
  have hkl:k=l.length:=by omega
  subst hkl
  rw [List.take_length]
  have hs:=joinB_size (l:=l.map itoa) (sep:=B [44]) (m:=21) (k:=1) (fun x hx=>by
   obtain ⟨y,hy,rfl⟩:=List.mem_map.mp hx
   exact itoa_len (hin y hy)) (Nat.le_refl _)
  rw [List.length_map] at hs
  exact ⟨by simp;omega,by omega,cond_true_iff.mpr ⟨pureBL_map (fun _=>rfl) _,rfl⟩,by rw [listT,if_neg hne]⟩
def listT_c(l:(List Int))(h:l.length≤1048576):PC Tryd.prog:=⟨43,[(.s 1)],[.sl 1 (l.map AV.int) false],listT_e (listT l),PSpec.of_ok fun ok=>(listT_p l h ok).elim fun I0 h=>h.elim fun m0 h=>mxP_of (sh:=.k) (enc:=listT_e) (a:=(listT_x l I0 m0).an) h (by kernel_rfl) (AV.pureB_ok rfl),fnB_ok (by kernel_rfl)⟩
theorem listT_size{l:List Int}(h:∀x∈l,-9223372036854775808≤x∧x≤9223372036854775807):(listT l).size≤1+l.length * 22:=by
 unfold listT
 split
 ·have:(B [46]).size=1:=rfl
  omega
 ·have hs:=joinB_size (l:=l.map itoa) (sep:=B [44]) (m:=21) (k:=1) (fun x hx=>by
   obtain ⟨y,hy,rfl⟩:=List.mem_map.mp hx
   exact itoa_len (h y hy)) (Nat.le_refl _)
  rw [List.length_map] at hs
  omega
def fltT(f:Flt):ByteArray:=
 if f.mode=1 then (if f.srcs=[] then B [110,111,116,104,105,110,103] else B [111,110,108,121,32]++listT f.srcs)
 else if f.mode=2 then (if f.srcs=[] then B [97,108,108] else B [97,108,108,32,98,117,116,32]++listT f.srcs)
 else B [63]
def fltT_a(f:Flt):Prop:=okL [.agg [.int f.mode,.sl 1 (f.srcs.map AV.int) false]]
def fltT_e(r:ByteArray):AV:=.str r
def fltT_x(f:Flt):Ax Tryd.prog noS (ByteArray):=
 (.mn 160 (mnGetI A2S.v ([(1,(⟨B [110,111,116,104,105,110,103],B [111,110,108,121,32]⟩:A2S)),(2,(⟨B [97,108,108],B [97,108,108,32,98,117,116,32]⟩:A2S))]:List (Int×A2S)) f.mode (⟨B [],B []⟩:A2S)) (.br 320 (!(mhas ([(1,(⟨B [110,111,116,104,105,110,103],B [111,110,108,121,32]⟩:A2S)),(2,(⟨B [97,108,108],B [97,108,108,32,98,117,116,32]⟩:A2S))]:List (Int×A2S)) f.mode)) (.ret (B [63]))
(.br 400 (((f.srcs.map AV.int).length:Int)==0) (.ret ((mval ([(1,(⟨B [110,111,116,104,105,110,103],B [111,110,108,121,32]⟩:A2S)),(2,(⟨B [97,108,108],B [97,108,108,32,98,117,116,32]⟩:A2S))]:List (Int×A2S)) f.mode (⟨B [],B []⟩:A2S)).s0))
(.req 464 (f.srcs.length≤1048576) fun h1 =>
(.callP (listT_c f.srcs h1)
(.say (ck (decide (((mval ([(1,(⟨B [110,111,116,104,105,110,103],B [111,110,108,121,32]⟩:A2S)),(2,(⟨B [97,108,108],B [97,108,108,32,98,117,116,32]⟩:A2S))]:List (Int×A2S)) f.mode (⟨B [],B []⟩:A2S)).s1).size+(listT f.srcs).size≤maxLen))) (.ret (((mval ([(1,(⟨B [110,111,116,104,105,110,103],B [111,110,108,121,32]⟩:A2S)),(2,(⟨B [97,108,108],B [97,108,108,32,98,117,116,32]⟩:A2S))]:List (Int×A2S)) f.mode (⟨B [],B []⟩:A2S)).s1)++(listT f.srcs)))))))))
def fltT_vc(f:Flt)(r0:ByteArray):Prop:=(fltT_x f).vp fltT_e r0
theorem fltT_p(f:Flt)(h:f.srcs.length≤1048576)(ok:fltT_a f):fltT_vc f (fltT f):=by
 simp only [fltT_a,okU,Blk.ok,plainV,List.length_map] at ok
 dsimp only [fltT_vc,fltT_x,noS,Ax.vp,Ax.vc];simp only [vcU,rfU,List.length_map]
 have hin:∀x∈f.srcs,-9223372036854775808≤x∧x≤9223372036854775807:=fun x hx=>by
  have:=okL_iff.mp ok.2.2 _ (List.mem_map_of_mem hx)
  simpa only [okU,plainV] using this
 have hs:=listT_size hin
 have hml:=maxLen_eq
 have c1:(B [111,110,108,121,32]).size=5:=rfl
 have c2:(B [97,108,108,32,98,117,116,32]).size=8:=rfl
 by_cases m1:f.mode=1
 ·refine ⟨fun h=>by simp [mhas,mkeys,m1] at h,fun _=>⟨fun e=>?_,fun e=>⟨h,?_,?_⟩⟩⟩
  ·have e:f.srcs=[]:=List.eq_nil_of_length_eq_zero (by have:=eq_of_beq e;omega)
   simp [mval,midx,mkeys,m1,fltT,e,List.idxOf_cons]
  ·simp [mval,midx,mkeys,m1,List.idxOf_cons];omega
  ·have e:¬f.srcs=[]:=fun q=>by simp [q] at e
   simp [mval,midx,mkeys,m1,fltT,e,List.idxOf_cons]
 by_cases m2:f.mode=2
 ·refine ⟨fun h=>by simp [mhas,mkeys,m2] at h,fun _=>⟨fun e=>?_,fun e=>⟨h,?_,?_⟩⟩⟩
  ·have e:f.srcs=[]:=List.eq_nil_of_length_eq_zero (by have:=eq_of_beq e;omega)
   simp [mval,midx,mkeys,m2,fltT,e,List.idxOf_cons]
  ·simp [mval,midx,mkeys,m2,List.idxOf_cons];omega
  ·have e:¬f.srcs=[]:=fun q=>by simp [q] at e
   simp [mval,midx,mkeys,m2,fltT,e,List.idxOf_cons]
 ·refine ⟨fun _=>by rw [fltT,if_neg m1,if_neg m2],fun h=>by simp [mhas,mkeys,m1,m2] at h⟩
def fltT_c(f:Flt)(h:f.srcs.length≤1048576):PC Tryd.prog:=⟨12,[(.a [.k,(.s 1)])],[.agg [.int f.mode,.sl 1 (f.srcs.map AV.int) false]],fltT_e (fltT f),PSpec.of_ok fun ok=>mxP_of (sh:=.k) (enc:=fltT_e) (a:=(fltT_x f).an) (fltT_p f h ok) (by kernel_rfl) (AV.pureB_ok rfl),fnB_ok (by kernel_rfl)⟩
theorem fltT_size{f:Flt}(h:∀x∈f.srcs,-9223372036854775808≤x∧x≤9223372036854775807):(fltT f).size≤9+f.srcs.length * 22:=by
 have hs:=listT_size h
 have c1:(B [111,110,108,121,32]).size=5:=rfl
 have c2:(B [97,108,108,32,98,117,116,32]).size=8:=rfl
 have c3:(B [110,111,116,104,105,110,103]).size=7:=rfl
 have c4:(B [97,108,108]).size=3:=rfl
 have c5:(B [63]).size=1:=rfl
 unfold fltT
 split
 ·split
  ·omega
  ·rw [ByteArray.size_append];omega
 ·split
  ·split
   ·omega
   ·rw [ByteArray.size_append];omega
  ·omega
def stlT(b:Bool):ByteArray:=if b then B [115,101,116,116,108,101,100] else B [111,112,101,110]
def stlT_a(is:Bool):Prop:=okL [.bool is]
def stlT_e(r:ByteArray):AV:=.str r
def stlT_x(is:Bool):Ax Tryd.prog noS (ByteArray):=
 (.br 32 is (.ret (B [115,101,116,116,108,101,100]))
(.ret (B [111,112,101,110])))
def stlT_vc(is:Bool)(r0:ByteArray):Prop:=(stlT_x is).vp stlT_e r0
theorem stlT_p(is:Bool)(ok:stlT_a is):stlT_vc is (stlT is):=by
 dsimp only [stlT_vc,stlT_x,noS,Ax.vp,Ax.vc];simp only [vcU,rfU,List.length_map]
 refine ⟨fun h=>by rw [h];rfl,fun h=>by rw [h];rfl⟩
def stlT_c(is:Bool):PC Tryd.prog:=⟨49,[.k],[.bool is],stlT_e (stlT is),PSpec.of_ok fun ok=>mxP_of (sh:=.k) (enc:=stlT_e) (a:=(stlT_x is).an) (stlT_p is ok) (by kernel_rfl) (AV.pureB_ok rfl),fnB_ok (by kernel_rfl)⟩
end Go.Proofs.YthhpaedpnjdnbaaDoor
namespace Go.Proofs.YthhpaedpnjdnbaaDoor
open Go Go.Am
structure Itm where
  ver:Int
  grp:Int
  mode:Int
  srcs:List Int
  deriving DecidableEq
structure Wnt where
  grp:Int
  mode:Int
  srcs:List Int
  deriving DecidableEq
structure Per where
  router:Int
  epoch:Int
  acked:Int
  deriving DecidableEq
structure Spk where
  router:Int
  epoch:Int
  last:Int
  items:List Itm
  peers:List Per
  deriving DecidableEq
structure Hrd where
  router:Int
  epoch:Int
  ver:Int
  items:List Itm
  deriving DecidableEq
def Wnt.v(x:Wnt):AV:=.agg [.int x.grp,.int x.mode,ints x.srcs]
def itmOk(last:Int)(x:Itm):Prop:=(1≤x.ver∧x.ver≤last)∧(1≤x.grp∧x.grp≤99)∧fltErr x.mode x.srcs=0
instance (last:Int) (x:Itm):Decidable (itmOk last x):=by unfold itmOk;infer_instance
def itmsOk(last:Int)(l:List Itm):Prop:=(∀x∈l,itmOk last x)∧(l.map Itm.grp).Nodup∧l.Pairwise fun x y=>x.ver<y.ver
instance (last:Int) (l:List Itm):Decidable (itmsOk last l):=by unfold itmsOk;infer_instance
def perOk(r last:Int)(p:Per):Prop:=(1≤p.router∧p.router≤99)∧p.router≠r∧(0≤p.epoch∧p.epoch≤1000000)∧(0≤p.acked∧p.acked≤last)
instance (r last:Int) (p:Per):Decidable (perOk r last p):=by unfold perOk;infer_instance
def spkOk(s:Spk):Prop:=(1≤s.router∧s.router≤99)∧(1≤s.epoch∧s.epoch≤1000000)∧(0≤s.last∧s.last≤1000000)∧itmsOk s.last s.items∧s.peers.length≤12 ∧
 (∀p∈s.peers,perOk s.router s.last p)∧s.peers.Pairwise fun x y=>x.router<y.router
instance (s:Spk):Decidable (spkOk s):=by unfold spkOk;infer_instance
def isNoW(w:Wnt):Prop:=w.mode=1∧w.srcs=[]
instance (w:Wnt):Decidable (isNoW w):=by unfold isNoW;infer_instance
def wFErrs(l:List Wnt):Int:=orI (l.map fun x=>fltErr x.mode x.srcs)
def wErr(chg:Bool)(l:List Wnt):Int:=
 if 32<l.length then 3 else if ¬(∀w∈l,1≤w.grp∧w.grp≤99) then 2 else if wFErrs l≠0 then wFErrs l
 else if chg=false∧∃w∈l,isNoW w then 1 else if ¬(l.Pairwise fun x y=>x.grp<y.grp) then 25 else 0
def without(g:Int)(l:List Itm):List Itm:=l.filter fun x=>decide (x.grp≠g)
def told(l:List Itm)(g:Int):Int×List Int:=match l.find? fun x=>decide (x.grp=g) with
 | some x=>(x.mode,x.srcs)
 | none=>(1,[])
def spk0:Spk:=⟨0,0,0,[],[]⟩
abbrev SR:=Spk×Int
def new(r k:Int)(p:List Int):SR:=
 let s:Spk:=⟨r,k,0,[],p.map fun x=>⟨x,0,0⟩⟩
 if spkOk s then (s,0) else (spk0,1)
def posH(l:List Hrd)(r:Int):Nat:=l.findIdx fun p=>!decide (p.router<r)
def hrd0:Hrd:=⟨0,0,0,[]⟩
def hitH(l:List Hrd)(r:Int):Prop:=posH l r<l.length∧(l.getD (posH l r) hrd0).router=r
instance (l:List Hrd) (r:Int):Decidable (hitH l r):=by unfold hitH;infer_instance
def base(l:List Hrd)(r:Int):List Hrd:=if hitH l r then l else insAt l (posH l r) ⟨r,0,0,[]⟩
end Go.Proofs.YthhpaedpnjdnbaaDoor
namespace Go.Proofs.YthhpaedpnjdnbaaDoor
open Go Go.Am Go.RowKit
structure Hop where
  a:Int
  b:Int
  deriving DecidableEq
structure Tre where
  root:Int
  ls:List Hop
  deriving DecidableEq
structure Rcp where
  host:Int
  router:Int
  src:Int
  grp:Int
  data:ByteArray
structure Fnd where
  kind:Int
  router:Int
  id:Int
  got:Int
structure Aud where
  ev:Int
  st:Bool
  mis:Int
  frn:Int
  rep:Int
  deriving DecidableEq
def Hop.v(x:Hop):AV:=.agg [.int x.a,.int x.b]
def Tre.v(x:Tre):AV:=.agg [.int x.root,.sl 2 (x.ls.map Hop.v) false]
def Rcp.v(x:Rcp):AV:=.agg [.int x.host,.int x.router,.int x.src,.int x.grp,.str x.data]
def Fnd.v(x:Fnd):AV:=.agg [.int x.kind,.int x.router,.int x.id,.int x.got]
def Aud.v(x:Aud):AV:=.agg [.int x.ev,.bool x.st,.int x.mis,.int x.frn,.int x.rep]
abbrev in64(x:Int):Prop:=-9223372036854775808≤x∧x≤9223372036854775807
theorem words_size{l:List Anyv}(h:∀x∈l,x.txt.size≤21):(words l).size≤l.length * 22:=by
 have hs:=joinB_size (l:=l.map Anyv.txt) (sep:=B [32]) (m:=21) (k:=1) (fun x hx=>by
   obtain ⟨y,hy,rfl⟩:=List.mem_map.mp hx
   exact h y hy) (Nat.le_refl _)
 rwa [List.length_map] at hs
theorem lines_step{α:Type}{l:List α}{f:α→ByteArray}{k:Nat}{x:α}(hx:l[k]?=some x)(hl:l.length≤1000):((l.take k).map f).length+1≤1048576∧(∃j:Nat,W ((k:Int)+1)=j∧j≤l.length∧(l.take k).map f++[f x]=(l.take j).map f)∧l.length-(W ((k:Int)+1)).toNat<l.length-k:=by
 have:=lt_of_get hx
 refine ⟨by simp;omega,⟨k+1,W_succ (n:=l.length) (by omega) (by omega),by omega,by rw [take_succ hx,List.map_append];rfl⟩,by rw [W_succ (n:=l.length) (by omega) (by omega)];omega⟩
def wntT(w:Wnt):ByteArray:=itoa w.grp++B [61]++fltT ⟨w.mode,w.srcs⟩
def wntsT(l:List Wnt):ByteArray:=if l=[] then B [46] else joinB (l.map wntT) (B [59,32])
def okW(w:Wnt):Prop:=in64 w.grp∧w.srcs.length≤1048576∧∀x∈w.srcs,in64 x
theorem wntT_size{w:Wnt}(h:okW w):(wntT w).size≤23068703:=by
 have h1:=itoa_len h.1
 have h2:=fltT_size (f:=⟨w.mode,w.srcs⟩) h.2.2
 have h3:(B [61]).size=1:=rfl
 have h4:=h.2.1
 simp only at h2
 rw [wntT,ByteArray.size_append,ByteArray.size_append];omega
def wntsT_a(l:(List Wnt)):Prop:=okL [.sl 3 (l.map Wnt.v) false]
def wntsT_n0(l:(List Wnt))(t0:Int×(List ByteArray)):NF:=⟨[(3,.k,.vec 0),(9,.k,.sl 3 (l.map Wnt.v) false),(10,.k,.int ((l.map Wnt.v).length:Int)),(11,.k,.int t0.1)],[.vec 1 (t0.2.map AV.str) (pureBL_map (fun _=>rfl) t0.2)]⟩
@[reducible] def wntsT_s:Nat→Type
 | 0=>Int×(List ByteArray)
 | _=>Unit
def wntsT_e(r:ByteArray):AV:=.str r
def wntsT_x(l:(List Wnt))(I0:(Int×(List ByteArray))→Prop)(m0:(Int×(List ByteArray))→Nat):Ax Tryd.prog wntsT_s (ByteArray):=
 (.br 64 (((l.map Wnt.v).length:Int)==0) (.ret (B [46]))
(.cmdL (.nilT 3 1) (.loop 0 (wntsT_n0 l) I0 m0 (0,[]) [128] fun (t0:Int×(List ByteArray)) b0 =>
(.br 17 (decide (t0.1<((l.map Wnt.v).length:Int))) (.el 17 Wnt.v l (fun R=>Rf (l.map Wnt.v) (ck (decide (0≤t0.1)) (ck (decide (t0.1<(l.length:Int)))
(∀x1,l[t0.1.toNat]?=some x1 →
(R x1))))) fun x1 =>
(.callP (itoa_c x1.grp)
(.say (ck (decide ((itoa x1.grp).size+(B [61]).size≤maxLen))) (.req 193 ((⟨x1.mode,x1.srcs⟩:Flt).srcs.length≤1048576) fun h2 =>
(.callP (fltT_c (⟨x1.mode,x1.srcs⟩:Flt) h2)
(.say (fun R=>ck (decide (((itoa x1.grp)++(B [61])).size+(fltT (⟨x1.mode,x1.srcs⟩:Flt)).size≤maxLen))
((Rf (α:=List AV) (t0.2.map AV.str) (Rf (α:=List AV) [.str (((itoa x1.grp)++(B [61]))++(fltT (⟨x1.mode,x1.srcs⟩:Flt)))]
(ck (decide (t0.2.length+1≤1048576))
R))))) (.app 241 AV.str t0.2 [((itoa x1.grp)++(B [61]))++(fltT (⟨x1.mode,x1.srcs⟩:Flt))]
(.bk 0 b0 (W (t0.1+1),t0.2++[((itoa x1.grp)++(B [61]))++(fltT (⟨x1.mode,x1.srcs⟩:Flt))]) [241]))))))))
(.req 33 (t0.2.length≤1048576) fun h3 =>
(.req 33 ((joinB t0.2 (B [59,32])).size≤1000000000) fun h4 =>
(.callP (join_c t0.2 (B [59,32]) h3 h4)
(.say (ck (pureBLs [(t0.2.map AV.str)])) (.ret (joinB t0.2 (B [59,32])))))))))))
def wntsT_vc(l:(List Wnt))(I0:(Int×(List ByteArray))→Prop)(m0:(Int×(List ByteArray))→Nat)(r0:ByteArray):Prop:=(wntsT_x l I0 m0).vp wntsT_e r0
theorem wntsT_p(l:List Wnt)(h:l.length≤40)(hw:∀w∈l,w.srcs.length≤1048576)(ok:wntsT_a l):∃I m,wntsT_vc l I m (wntsT l):=by
 refine ⟨fun t=>∃k:Nat,t.1=k∧k≤l.length∧t.2=(l.take k).map wntT,fun t=>l.length-t.1.toNat,?_⟩
 simp only [wntsT_a,okU,Blk.ok,plainV,List.length_map] at ok
 dsimp only [wntsT_vc,wntsT_x,wntsT_s,Ax.vp,Ax.vc];simp only [vcU,rfU,List.length_map]
 have hok:∀w∈l,okW w:=fun w hm=>by
  have:=okL_iff.mp ok.2 _ (List.mem_map_of_mem hm)
  simp only [Wnt.v,okU,plainV] at this
  exact ⟨this.1,hw w hm,fun x hx=>by
   have:=okL_iff.mp this.2.2.2 _ (List.mem_map_of_mem hx)
   simp only [okU,plainV] at this
   exact this⟩
 have hml:=maxLen_eq
 refine ⟨fun c=>?_,fun c=>⟨⟨0,rfl,by omega,rfl⟩,?_⟩⟩
 ·have:l=[]:=List.eq_nil_of_length_eq_zero (by have:=eq_of_beq c;omega)
  rw [wntsT,if_pos this]
 ·have hne:¬l=[]:=fun e=>by subst e;simp at c
  rintro ⟨i,r⟩ ⟨k,hi,hk,hr⟩
  simp only at hi hr ⊢
  subst hi;subst hr
  simp only [Int.toNat_natCast]
  refine ⟨fun c1=>⟨by omega,by omega,fun x hx=>?_⟩,fun c1=>?_⟩
  ·have o:=hok x (mem_of_get hx)
   have h1:=itoa_len o.1
   have h2:=fltT_size (f:=⟨x.mode,x.srcs⟩) o.2.2
   have h3:(B [61]).size=1:=rfl
   have h4:=o.2.1
   simp only at h2
   have h5:(itoa x.grp++B [61]).size=(itoa x.grp).size+1:=by rw [ByteArray.size_append,h3]
   have hst:=lines_step (f:=wntT) hx (by omega)
   exact ⟨by omega,by omega,by omega,hst.1,hst.2.1,hst.2.2⟩
  have hkl:k=l.length:=by omega
  subst hkl
  rw [List.take_length]
  have hs:=joinB_size (l:=l.map wntT) (sep:=B [59,32]) (m:=23068703) (k:=2) (fun x hx=>by
   obtain ⟨y,hy,rfl⟩:=List.mem_map.mp hx
   exact wntT_size (hok y hy)) (Nat.le_refl _)
  rw [List.length_map] at hs
  exact ⟨by simp;omega,by omega,cond_true_iff.mpr ⟨pureBL_map (fun _=>rfl) _,rfl⟩,by rw [wntsT,if_neg hne]⟩
def wntsT_c(l:(List Wnt))(h:l.length≤40)(hw:∀w∈l,w.srcs.length≤1048576):PC Tryd.prog:=⟨14,[(.s 3)],[.sl 3 (l.map Wnt.v) false],wntsT_e (wntsT l),PSpec.of_ok fun ok=>(wntsT_p l h hw ok).elim fun I0 h=>h.elim fun m0 h=>mxP_of (sh:=.k) (enc:=wntsT_e) (a:=(wntsT_x l I0 m0).an) h (by kernel_rfl) (AV.pureB_ok rfl),fnB_ok (by kernel_rfl)⟩
def treT(t:Tre):ByteArray:=t.ls.foldl (fun o h=>o++(B [32]++hopT h.a h.b)) (itoa t.root)
theorem foldl_take{α β:Type}(f:β→α→β)(b:β){l:List α}{k:Nat}{x:α}(hx:l[k]?=some x):(l.take (k+1)).foldl f b=f ((l.take k).foldl f b) x:=by rw [take_succ hx,List.foldl_append];rfl
def treT_a(t:Tre):Prop:=okL [.agg [.int t.root,.sl 2 (t.ls.map Hop.v) false]]
def treT_n0(t:Tre)(t0:ByteArray×Int):NF:=⟨[(3,.k,.str t0.1),(10,.k,.sl 2 (t.ls.map Hop.v) false),(11,.k,.int ((t.ls.map Hop.v).length:Int)),(12,.k,.int t0.2)],[]⟩
@[reducible] def treT_s:Nat→Type
 | 0=>ByteArray×Int
 | _=>Unit
def treT_e(r:ByteArray):AV:=.str r
def treT_x(t:Tre)(I0:(ByteArray×Int)→Prop)(m0:(ByteArray×Int)→Nat):Ax Tryd.prog treT_s (ByteArray):=
 (.callP (itoa_c t.root)
(.loop 0 (treT_n0 t) I0 m0 (itoa t.root,0) [] fun (t0:ByteArray×Int) b0 =>
(.br 16 (decide (t0.2<((t.ls.map Hop.v).length:Int))) (.el 16 Hop.v t.ls (fun R=>Rf (t.ls.map Hop.v) (ck (decide (0≤t0.2)) (ck (decide (t0.2<(t.ls.length:Int)))
(∀x1,t.ls[t0.2.toNat]?=some x1 →
(R x1))))) fun x1 =>
(.callP (hopT_c x1.a x1.b)
(.say (fun R=>ck (decide ((B [32]).size+(hopT x1.a x1.b).size≤maxLen))
((ck (decide (t0.1.size+((B [32])++(hopT x1.a x1.b)).size≤maxLen))
R))) (.bk 0 b0 (t0.1++((B [32])++(hopT x1.a x1.b)),W (t0.2+1)) []))))
(.ret (t0.1)))))
def treT_vc(t:Tre)(I0:(ByteArray×Int)→Prop)(m0:(ByteArray×Int)→Nat)(r0:ByteArray):Prop:=(treT_x t I0 m0).vp treT_e r0
theorem treT_p(t:Tre)(h:t.ls.length≤1000)(ok:treT_a t):∃I m,treT_vc t I m (treT t):=by
 refine ⟨fun q=>∃k:Nat,q.2=k∧k≤t.ls.length∧q.1=(t.ls.take k).foldl (fun o h=>o++(B [32]++hopT h.a h.b)) (itoa t.root)∧q.1.size≤21+k * 44,fun q=>t.ls.length-q.2.toNat,?_⟩
 simp only [treT_a,okU,Blk.ok,plainV,List.length_map] at ok
 dsimp only [treT_vc,treT_x,treT_s,Ax.vp,Ax.vc];simp only [vcU,rfU,List.length_map]
 have hml:=maxLen_eq
 have hin:∀x∈t.ls,in64 x.a∧in64 x.b:=fun x hx=>by
  have:=okL_iff.mp ok.2.2 _ (List.mem_map_of_mem hx)
  simp only [Hop.v,okU,plainV] at this
  exact this
 refine ⟨⟨0,rfl,by omega,rfl,itoa_len ok.1⟩,?_⟩
 rintro ⟨o,i⟩ ⟨k,hi,hk,ho,hs⟩
 simp only at hi ho hs ⊢
 subst hi
 simp only [Int.toNat_natCast]
 refine ⟨fun c1=>⟨by omega,by omega,fun x hx=>?_⟩,fun c1=>?_⟩
 ·have hh:=hopT_size (hin x (mem_of_get hx)).1 (hin x (mem_of_get hx)).2
  have h3:(B [32]).size=1:=rfl
  have h5:(B [32]++hopT x.a x.b).size=1+(hopT x.a x.b).size:=by rw [ByteArray.size_append,h3]
  refine ⟨by omega,by omega,⟨k+1,W_succ (n:=t.ls.length) (by omega) (by omega),by omega,by rw [foldl_take _ _ hx,←ho],?_⟩,by rw [W_succ (n:=t.ls.length) (by omega) (by omega)];omega⟩
  rw [ByteArray.size_append];omega
 ·rw [ho,treT,List.take_of_length_le (by omega)]
def treT_c(t:Tre)(h:t.ls.length≤1000):PC Tryd.prog:=⟨16,[(.a [.k,(.s 2)])],[.agg [.int t.root,.sl 2 (t.ls.map Hop.v) false]],treT_e (treT t),PSpec.of_ok fun ok=>(treT_p t h ok).elim fun I0 h=>h.elim fun m0 h=>mxP_of (sh:=.k) (enc:=treT_e) (a:=(treT_x t I0 m0).an) h (by kernel_rfl) (AV.pureB_ok rfl),fnB_ok (by kernel_rfl)⟩
def rcpT(r:Rcp):ByteArray:=words [.s (B [104,111,115,116]),.n r.host,.s (B [97,116]),.n r.router,.s (B [102,114,111,109]),.n r.src,.s (B [103,114,111,117,112]),.n r.grp,.s (B [98,121,116,101,115]),.n r.data.size]
theorem any_n{i:Int}(h:in64 i):(Anyv.n i).txt.size≤21:=itoa_len h
theorem any_s{l:List UInt8}(h:l.length≤21):(Anyv.s (B l)).txt.size≤21:=by show (B l).size≤21;rw [B_size];exact h
def rcpsT_a(l:(List Rcp)):Prop:=okL [.sl 5 (l.map Rcp.v) false]
def rcpsT_n0(l:(List Rcp))(t0:Int×(List ByteArray)):NF:=⟨[(3,.k,.vec 0),(6,.k,.sl 5 (l.map Rcp.v) false),(7,.k,.int ((l.map Rcp.v).length:Int)),(8,.k,.int t0.1)],[.vec 1 (t0.2.map AV.str) (pureBL_map (fun _=>rfl) t0.2)]⟩
@[reducible] def rcpsT_s:Nat→Type
 | 0=>Int×(List ByteArray)
 | _=>Unit
def rcpsT_e(r:(List ByteArray)):AV:=.sl 1 (r.map AV.str) false
def rcpsT_x(l:(List Rcp))(I0:(Int×(List ByteArray))→Prop)(m0:(Int×(List ByteArray))→Nat):Ax Tryd.prog rcpsT_s ((List ByteArray)):=
 (.cmdL (.nilT 3 1) (.loop 0 (rcpsT_n0 l) I0 m0 (0,[]) [80] fun (t0:Int×(List ByteArray)) b0 =>
(.br 17 (decide (t0.1<((l.map Rcp.v).length:Int))) (.el 17 Rcp.v l (fun R=>Rf (l.map Rcp.v) (ck (decide (0≤t0.1)) (ck (decide (t0.1<(l.length:Int)))
(∀x1,l[t0.1.toNat]?=some x1 →
(R x1))))) fun x1 =>
(.req 481 ([Anyv.s (B [104,111,115,116]),Anyv.n x1.host,Anyv.s (B [97,116]),Anyv.n x1.router,Anyv.s (B [102,114,111,109]),Anyv.n x1.src,Anyv.s (B [103,114,111,117,112]),Anyv.n x1.grp,Anyv.s (B [98,121,116,101,115]),Anyv.n (x1.data.size:Int)].length≤1000) fun h2 =>
(.req 481 ((words [Anyv.s (B [104,111,115,116]),Anyv.n x1.host,Anyv.s (B [97,116]),Anyv.n x1.router,Anyv.s (B [102,114,111,109]),Anyv.n x1.src,Anyv.s (B [103,114,111,117,112]),Anyv.n x1.grp,Anyv.s (B [98,121,116,101,115]),Anyv.n (x1.data.size:Int)]).size≤1000000000) fun h3 =>
(.callP (words_c [Anyv.s (B [104,111,115,116]),Anyv.n x1.host,Anyv.s (B [97,116]),Anyv.n x1.router,Anyv.s (B [102,114,111,109]),Anyv.n x1.src,Anyv.s (B [103,114,111,117,112]),Anyv.n x1.grp,Anyv.s (B [98,121,116,101,115]),Anyv.n (x1.data.size:Int)] h2 h3)
(.say (fun R=>Rf (α:=List AV) (t0.2.map AV.str) (Rf (α:=List AV) [.str (words [Anyv.s (B [104,111,115,116]),Anyv.n x1.host,Anyv.s (B [97,116]),Anyv.n x1.router,Anyv.s (B [102,114,111,109]),Anyv.n x1.src,Anyv.s (B [103,114,111,117,112]),Anyv.n x1.grp,Anyv.s (B [98,121,116,101,115]),Anyv.n (x1.data.size:Int)])]
(ck (decide (t0.2.length+1≤1048576))
R))) (.app 513 AV.str t0.2 [words [Anyv.s (B [104,111,115,116]),Anyv.n x1.host,Anyv.s (B [97,116]),Anyv.n x1.router,Anyv.s (B [102,114,111,109]),Anyv.n x1.src,Anyv.s (B [103,114,111,117,112]),Anyv.n x1.grp,Anyv.s (B [98,121,116,101,115]),Anyv.n (x1.data.size:Int)]]
(.bk 0 b0 (W (t0.1+1),t0.2++[words [Anyv.s (B [104,111,115,116]),Anyv.n x1.host,Anyv.s (B [97,116]),Anyv.n x1.router,Anyv.s (B [102,114,111,109]),Anyv.n x1.src,Anyv.s (B [103,114,111,117,112]),Anyv.n x1.grp,Anyv.s (B [98,121,116,101,115]),Anyv.n (x1.data.size:Int)]]) [513])))))))
(.say (Rf (t0.2.map AV.str)) (.cmdL (.frzE 0 (t0.2.map AV.str) (pureBL_map (fun _=>rfl) t0.2)) (.ret (t0.2)))))))
def rcpsT_vc(l:(List Rcp))(I0:(Int×(List ByteArray))→Prop)(m0:(Int×(List ByteArray))→Nat)(r0:(List ByteArray)):Prop:=(rcpsT_x l I0 m0).vp rcpsT_e r0
theorem rcpsT_p(l:List Rcp)(h:l.length≤1000)(ok:rcpsT_a l):∃I m,rcpsT_vc l I m (l.map rcpT):=by
 refine ⟨fun q=>∃k:Nat,q.1=k∧k≤l.length∧q.2=(l.take k).map rcpT,fun q=>l.length-q.1.toNat,?_⟩
 simp only [rcpsT_a,okU,Blk.ok,plainV,List.length_map] at ok
 dsimp only [rcpsT_vc,rcpsT_x,rcpsT_s,Ax.vp,Ax.vc];simp only [vcU,rfU,List.length_map]
 refine ⟨⟨0,rfl,by omega,rfl⟩,?_⟩
 rintro ⟨i,r⟩ ⟨k,hi,hk,hr⟩
 simp only at hi hr ⊢
 subst hi;subst hr
 simp only [Int.toNat_natCast]
 refine ⟨fun c1=>⟨by omega,by omega,fun x hx=>?_⟩,fun c1=>by rw [List.take_of_length_le (by omega)]⟩
 have o:=okL_iff.mp ok.2 _ (List.mem_map_of_mem (mem_of_get hx))
 simp only [Rcp.v,okU,plainV] at o
 have hst:=lines_step (f:=rcpT) hx h
 refine ⟨by simp,?_,hst.1,hst.2.1,hst.2.2⟩
 have:(rcpT x).size≤_:=words_size (fun y hy=>by
  simp only [List.mem_cons,List.not_mem_nil,or_false] at hy
  rcases hy with rfl|rfl|rfl|rfl|rfl|rfl|rfl|rfl|rfl|rfl
  ·exact any_s (by decide)
  ·exact any_n o.1
  ·exact any_s (by decide)
  ·exact any_n o.2.1
  ·exact any_s (by decide)
  ·exact any_n o.2.2.1
  ·exact any_s (by decide)
  ·exact any_n o.2.2.2.1
  ·exact any_s (by decide)
  ·exact any_n ⟨by omega,by omega⟩)
 refine Nat.le_trans this (by simp only [List.length_cons,List.length_nil];decide)
def rcpsT_c(l:(List Rcp))(h:l.length≤1000):PC Tryd.prog:=⟨31,[(.s 5)],[.sl 5 (l.map Rcp.v) false],rcpsT_e (l.map rcpT),PSpec.of_ok fun ok=>(rcpsT_p l h ok).elim fun I0 h=>h.elim fun m0 h=>mxP_of (sh:=(.s 1)) (enc:=rcpsT_e) (a:=(rcpsT_x l I0 m0).an) h (by kernel_rfl) (AV.pureB_ok rfl),fnB_ok (by kernel_rfl)⟩
def audT(a:Aud):ByteArray:=words [.s (B [101,118,101,110,116]),.n a.ev,.s (stlT a.st),.s (B [109,105,115,115,105,110,103]),.n a.mis,.s (B [102,111,114,101,105,103,110]),.n a.frn,.s (B [114,101,112,101,97,116,101,100]),.n a.rep]
def audsT_a(l:(List Aud)):Prop:=okL [.sl 5 (l.map Aud.v) false]
def audsT_n0(l:(List Aud))(t0:Int×(List ByteArray)):NF:=⟨[(3,.k,.vec 0),(6,.k,.sl 5 (l.map Aud.v) false),(7,.k,.int ((l.map Aud.v).length:Int)),(8,.k,.int t0.1)],[.vec 1 (t0.2.map AV.str) (pureBL_map (fun _=>rfl) t0.2)]⟩
@[reducible] def audsT_s:Nat→Type
 | 0=>Int×(List ByteArray)
 | _=>Unit
def audsT_e(r:(List ByteArray)):AV:=.sl 1 (r.map AV.str) false
def audsT_x(l:(List Aud))(I0:(Int×(List ByteArray))→Prop)(m0:(Int×(List ByteArray))→Nat):Ax Tryd.prog audsT_s ((List ByteArray)):=
 (.cmdL (.nilT 3 1) (.loop 0 (audsT_n0 l) I0 m0 (0,[]) [80] fun (t0:Int×(List ByteArray)) b0 =>
(.br 17 (decide (t0.1<((l.map Aud.v).length:Int))) (.el 17 Aud.v l (fun R=>Rf (l.map Aud.v) (ck (decide (0≤t0.1)) (ck (decide (t0.1<(l.length:Int)))
(∀x1,l[t0.1.toNat]?=some x1 →
(R x1))))) fun x1 =>
(.callP (stlT_c x1.st)
(.req 433 ([Anyv.s (B [101,118,101,110,116]),Anyv.n x1.ev,Anyv.s (stlT x1.st),Anyv.s (B [109,105,115,115,105,110,103]),Anyv.n x1.mis,Anyv.s (B [102,111,114,101,105,103,110]),Anyv.n x1.frn,Anyv.s (B [114,101,112,101,97,116,101,100]),Anyv.n x1.rep].length≤1000) fun h2 =>
(.req 433 ((words [Anyv.s (B [101,118,101,110,116]),Anyv.n x1.ev,Anyv.s (stlT x1.st),Anyv.s (B [109,105,115,115,105,110,103]),Anyv.n x1.mis,Anyv.s (B [102,111,114,101,105,103,110]),Anyv.n x1.frn,Anyv.s (B [114,101,112,101,97,116,101,100]),Anyv.n x1.rep]).size≤1000000000) fun h3 =>
(.callP (words_c [Anyv.s (B [101,118,101,110,116]),Anyv.n x1.ev,Anyv.s (stlT x1.st),Anyv.s (B [109,105,115,115,105,110,103]),Anyv.n x1.mis,Anyv.s (B [102,111,114,101,105,103,110]),Anyv.n x1.frn,Anyv.s (B [114,101,112,101,97,116,101,100]),Anyv.n x1.rep] h2 h3)
(.say (fun R=>Rf (α:=List AV) (t0.2.map AV.str) (Rf (α:=List AV) [.str (words [Anyv.s (B [101,118,101,110,116]),Anyv.n x1.ev,Anyv.s (stlT x1.st),Anyv.s (B [109,105,115,115,105,110,103]),Anyv.n x1.mis,Anyv.s (B [102,111,114,101,105,103,110]),Anyv.n x1.frn,Anyv.s (B [114,101,112,101,97,116,101,100]),Anyv.n x1.rep])]
(ck (decide (t0.2.length+1≤1048576))
R))) (.app 465 AV.str t0.2 [words [Anyv.s (B [101,118,101,110,116]),Anyv.n x1.ev,Anyv.s (stlT x1.st),Anyv.s (B [109,105,115,115,105,110,103]),Anyv.n x1.mis,Anyv.s (B [102,111,114,101,105,103,110]),Anyv.n x1.frn,Anyv.s (B [114,101,112,101,97,116,101,100]),Anyv.n x1.rep]]
(.bk 0 b0 (W (t0.1+1),t0.2++[words [Anyv.s (B [101,118,101,110,116]),Anyv.n x1.ev,Anyv.s (stlT x1.st),Anyv.s (B [109,105,115,115,105,110,103]),Anyv.n x1.mis,Anyv.s (B [102,111,114,101,105,103,110]),Anyv.n x1.frn,Anyv.s (B [114,101,112,101,97,116,101,100]),Anyv.n x1.rep]]) [465]))))))))
(.say (Rf (t0.2.map AV.str)) (.cmdL (.frzE 0 (t0.2.map AV.str) (pureBL_map (fun _=>rfl) t0.2)) (.ret (t0.2)))))))
def audsT_vc(l:(List Aud))(I0:(Int×(List ByteArray))→Prop)(m0:(Int×(List ByteArray))→Nat)(r0:(List ByteArray)):Prop:=(audsT_x l I0 m0).vp audsT_e r0
theorem audsT_p(l:List Aud)(h:l.length≤1000)(ok:audsT_a l):∃I m,audsT_vc l I m (l.map audT):=by
 refine ⟨fun q=>∃k:Nat,q.1=k∧k≤l.length∧q.2=(l.take k).map audT,fun q=>l.length-q.1.toNat,?_⟩
 simp only [audsT_a,okU,Blk.ok,plainV,List.length_map] at ok
 dsimp only [audsT_vc,audsT_x,audsT_s,Ax.vp,Ax.vc];simp only [vcU,rfU,List.length_map]
 refine ⟨⟨0,rfl,by omega,rfl⟩,?_⟩
 rintro ⟨i,r⟩ ⟨k,hi,hk,hr⟩
 simp only at hi hr ⊢
 subst hi;subst hr
 simp only [Int.toNat_natCast]
 refine ⟨fun c1=>⟨by omega,by omega,fun x hx=>?_⟩,fun c1=>by rw [List.take_of_length_le (by omega)]⟩
 have o:=okL_iff.mp ok.2 _ (List.mem_map_of_mem (mem_of_get hx))
 simp only [Aud.v,okU,plainV] at o
 have hst:=lines_step (f:=audT) hx h
 refine ⟨by simp,?_,hst.1,hst.2.1,hst.2.2⟩
 have:(audT x).size≤_:=words_size (fun y hy=>by
  simp only [List.mem_cons,List.not_mem_nil,or_false] at hy
  rcases hy with rfl|rfl|rfl|rfl|rfl|rfl|rfl|rfl|rfl
  ·exact any_s (by decide)
  ·exact any_n o.1
  ·show (stlT x.st).size≤21
   unfold stlT;split<;>(rw [B_size];decide)
  ·exact any_s (by decide)
  ·exact any_n o.2.1
  ·exact any_s (by decide)
  ·exact any_n o.2.2.1
  ·exact any_s (by decide)
  ·exact any_n o.2.2.2)
 refine Nat.le_trans this (by simp only [List.length_cons,List.length_nil];decide)
def audsT_c(l:(List Aud))(h:l.length≤1000):PC Tryd.prog:=⟨18,[(.s 5)],[.sl 5 (l.map Aud.v) false],audsT_e (l.map audT),PSpec.of_ok fun ok=>(audsT_p l h ok).elim fun I0 h=>h.elim fun m0 h=>mxP_of (sh:=(.s 1)) (enc:=audsT_e) (a:=(audsT_x l I0 m0).an) h (by kernel_rfl) (AV.pureB_ok rfl),fnB_ok (by kernel_rfl)⟩
def kindT(f:Fnd):ByteArray:=if 0<f.kind∧f.kind<6 then ([B [],B [109,105,115,115,105,110,103],B [102,111,114,101,105,103,110],B [116,119,105,99,101],B [114,111,117,116,101,114],B [114,111,119]]:List ByteArray).getD f.kind.toNat (B []) else B [63]
def fndT(f:Fnd):ByteArray:=words [.s (kindT f),.s (B [114,111,117,116,101,114]),.n f.router,.s (B [105,100]),.n f.id,.s (B [103,111,116]),.n f.got]
def fndsT_a(l:(List Fnd)):Prop:=okL [.sl 4 (l.map Fnd.v) false]
def fndsT_n0(l:(List Fnd))(t0:Int×(List ByteArray)):NF:=⟨[(3,.k,.ref 0 0),(4,.k,.vec 1),(9,.k,.sl 4 (l.map Fnd.v) false),(10,.k,.int ((l.map Fnd.v).length:Int)),(11,.k,.int t0.1)],[.arr (([B [],B [109,105,115,115,105,110,103],B [102,111,114,101,105,103,110],B [116,119,105,99,101],B [114,111,117,116,101,114],B [114,111,119]]:List ByteArray).map AV.str) (pureBL_map (fun _=>rfl) ([B [],B [109,105,115,115,105,110,103],B [102,111,114,101,105,103,110],B [116,119,105,99,101],B [114,111,117,116,101,114],B [114,111,119]]:List ByteArray)),.vec 1 (t0.2.map AV.str) (pureBL_map (fun _=>rfl) t0.2)]⟩
def fndsT_n1(l:(List Fnd))(t0:Int×(List ByteArray))(x1:Fnd)(t1:ByteArray):NF:=⟨[(3,.k,.ref 0 0),(4,.k,.vec 1),(6,.k,.ref 2 0),(7,.k,.str t1),(9,.k,.sl 4 (l.map Fnd.v) false),(10,.k,.int ((l.map Fnd.v).length:Int)),(11,.k,.int t0.1)],[.arr (([B [],B [109,105,115,115,105,110,103],B [102,111,114,101,105,103,110],B [116,119,105,99,101],B [114,111,117,116,101,114],B [114,111,119]]:List ByteArray).map AV.str) (pureBL_map (fun _=>rfl) ([B [],B [109,105,115,115,105,110,103],B [102,111,114,101,105,103,110],B [116,119,105,99,101],B [114,111,117,116,101,114],B [114,111,119]]:List ByteArray)),.vec 1 (t0.2.map AV.str) (pureBL_map (fun _=>rfl) t0.2),.box (.agg [.int x1.kind,.int x1.router,.int x1.id,.int x1.got])]⟩
def fndsT_n2(l:(List Fnd))(t0:Int×(List ByteArray))(x1:Fnd)(t2:Bool):NF:=⟨[(3,.k,.ref 0 0),(4,.k,.vec 1),(6,.k,.ref 2 0),(7,.k,.str (B [63])),(9,.k,.sl 4 (l.map Fnd.v) false),(10,.k,.int ((l.map Fnd.v).length:Int)),(11,.k,.int t0.1),(22,.k,.bool t2)],[.arr (([B [],B [109,105,115,115,105,110,103],B [102,111,114,101,105,103,110],B [116,119,105,99,101],B [114,111,117,116,101,114],B [114,111,119]]:List ByteArray).map AV.str) (pureBL_map (fun _=>rfl) ([B [],B [109,105,115,115,105,110,103],B [102,111,114,101,105,103,110],B [116,119,105,99,101],B [114,111,117,116,101,114],B [114,111,119]]:List ByteArray)),.vec 1 (t0.2.map AV.str) (pureBL_map (fun _=>rfl) t0.2),.box (.agg [.int x1.kind,.int x1.router,.int x1.id,.int x1.got])]⟩
@[reducible] def fndsT_s:Nat→Type
 | 0=>Int×(List ByteArray)
 | 1=>ByteArray
 | 2=>Bool
 | _=>Unit
def fndsT_e(r:(List ByteArray)):AV:=.sl 1 (r.map AV.str) false
def fndsT_x(l:(List Fnd))(I0:(Int×(List ByteArray))→Prop)(m0:(Int×(List ByteArray))→Nat)(I1:Int×(List ByteArray)→Fnd→ByteArray→Prop)(I2:Int×(List ByteArray)→Fnd→Bool→Prop):Ax Tryd.prog fndsT_s ((List ByteArray)):=
 (.cmdL (.nilT 4 1) (.loop 0 (fndsT_n0 l) I0 m0 (0,[]) [32,128] fun (t0:Int×(List ByteArray)) b0 =>
(.br 18 (decide (t0.1<((l.map Fnd.v).length:Int))) (.el 18 Fnd.v l (fun R=>Rf (l.map Fnd.v) (ck (decide (0≤t0.1)) (ck (decide (t0.1<(l.length:Int)))
(∀x1,l[t0.1.toNat]?=some x1 →
(R x1))))) fun x1 =>
(.pass (.join 1 (fndsT_n1 l t0 x1) (fun (t1:ByteArray)=>I1 t0 x1 t1) (fun b1=>(.join 2 (fndsT_n2 l t0 x1) (fun (t2:Bool)=>I2 t0 x1 t2) (fun b2=>(.br 162 (decide (0<x1.kind)) (.bk 2 b2 ((decide (x1.kind<6)):Bool) [0,1,50])
(.bk 2 b2 ((false):Bool) [0,1,50]))) fun (t2:Bool) =>
(.br 3 t2 (.say (ck (cond (decide (0≤x1.kind)) (decide (x1.kind<6)) false)) (.el 51 AV.str ([B [],B [109,105,115,115,105,110,103],B [102,111,114,101,105,103,110],B [116,119,105,99,101],B [114,111,117,116,101,114],B [114,111,119]]:List ByteArray) (fun R=>Rf (([B [],B [109,105,115,115,105,110,103],B [102,111,114,101,105,103,110],B [116,119,105,99,101],B [114,111,117,116,101,114],B [114,111,119]]:List ByteArray).map AV.str) (ck (decide ((0+(x1.kind.toNat * 1))<([B [],B [109,105,115,115,105,110,103],B [102,111,114,101,105,103,110],B [116,119,105,99,101],B [114,111,117,116,101,114],B [114,111,119]]:List ByteArray).length))
(∀x2,([B [],B [109,105,115,115,105,110,103],B [102,111,114,101,105,103,110],B [116,119,105,99,101],B [114,111,117,116,101,114],B [114,111,119]]:List ByteArray)[(0+(x1.kind.toNat * 1))]?=some x2 →
(R x2)))) fun x2 =>
(.bk 1 b1 ((x2):ByteArray) [0,1,2])))
(.bk 1 b1 ((B [63]):ByteArray) [0,1,2])))) fun (t1:ByteArray) =>
(.req 259 ([Anyv.s t1,Anyv.s (B [114,111,117,116,101,114]),Anyv.n x1.router,Anyv.s (B [105,100]),Anyv.n x1.id,Anyv.s (B [103,111,116]),Anyv.n x1.got].length≤1000) fun h3 =>
(.req 259 ((words [Anyv.s t1,Anyv.s (B [114,111,117,116,101,114]),Anyv.n x1.router,Anyv.s (B [105,100]),Anyv.n x1.id,Anyv.s (B [103,111,116]),Anyv.n x1.got]).size≤1000000000) fun h4 =>
(.callP (words_c [Anyv.s t1,Anyv.s (B [114,111,117,116,101,114]),Anyv.n x1.router,Anyv.s (B [105,100]),Anyv.n x1.id,Anyv.s (B [103,111,116]),Anyv.n x1.got] h3 h4)
(.say (fun R=>Rf (α:=List AV) (t0.2.map AV.str) (Rf (α:=List AV) [.str (words [Anyv.s t1,Anyv.s (B [114,111,117,116,101,114]),Anyv.n x1.router,Anyv.s (B [105,100]),Anyv.n x1.id,Anyv.s (B [103,111,116]),Anyv.n x1.got])]
(ck (decide (t0.2.length+1≤1048576))
R))) (.app 291 AV.str t0.2 [words [Anyv.s t1,Anyv.s (B [114,111,117,116,101,114]),Anyv.n x1.router,Anyv.s (B [105,100]),Anyv.n x1.id,Anyv.s (B [103,111,116]),Anyv.n x1.got]]
(.bk 0 b0 (W (t0.1+1),t0.2++[words [Anyv.s t1,Anyv.s (B [114,111,117,116,101,114]),Anyv.n x1.router,Anyv.s (B [105,100]),Anyv.n x1.id,Anyv.s (B [103,111,116]),Anyv.n x1.got]]) [0,291])))))))))
(.say (Rf (t0.2.map AV.str)) (.cmdL (.frzE 1 (t0.2.map AV.str) (pureBL_map (fun _=>rfl) t0.2)) (.ret (t0.2)))))))
def fndsT_vc(l:(List Fnd))(I0:(Int×(List ByteArray))→Prop)(m0:(Int×(List ByteArray))→Nat)(I1:Int×(List ByteArray)→Fnd→ByteArray→Prop)(I2:Int×(List ByteArray)→Fnd→Bool→Prop)(r0:(List ByteArray)):Prop:=(fndsT_x l I0 m0 I1 I2).vp fndsT_e r0
theorem fndsT_p(l:List Fnd)(h:l.length≤1000)(ok:fndsT_a l):∃I m J J2,fndsT_vc l I m J J2 (l.map fndT):=by
 refine ⟨fun q=>∃k:Nat,q.1=k∧k≤l.length∧q.2=(l.take k).map fndT,fun q=>l.length-q.1.toNat,fun _ x s=>s=kindT x,fun _ x b=>b=decide (0<x.kind∧x.kind<6),?_⟩
 simp only [fndsT_a,okU,Blk.ok,plainV,List.length_map] at ok
 dsimp only [fndsT_vc,fndsT_x,fndsT_s,Ax.vp,Ax.vc];simp only [vcU,rfU,List.length_map]
 refine ⟨⟨0,rfl,by omega,rfl⟩,?_⟩
 rintro ⟨i,r⟩ ⟨k,hi,hk,hr⟩
 simp only at hi hr ⊢
 subst hi;subst hr
 simp only [Int.toNat_natCast]
 refine ⟨fun c1=>⟨by omega,by omega,fun x hx=>⟨⟨⟨fun q=>by simp [q],fun q=>by simp [q]⟩,?_⟩,?_⟩⟩,fun c1=>by rw [List.take_of_length_le (by omega)]⟩
 ·rintro _ rfl
  refine ⟨fun q=>?_,fun q=>?_⟩
  ·have q:0<x.kind∧x.kind<6:=of_decide_eq_true q
   refine ⟨by simp;omega,by simp;omega,fun y hy=>?_⟩
   rw [kindT,if_pos q,List.getD_eq_getElem?_getD,show x.kind.toNat=0+x.kind.toNat * 1 by omega,hy];rfl
  ·have q:¬(0<x.kind∧x.kind<6):=of_decide_eq_false q
   rw [kindT,if_neg q]
 ·rintro _ rfl
  have o:=okL_iff.mp ok.2 _ (List.mem_map_of_mem (mem_of_get hx))
  simp only [Fnd.v,okU,plainV] at o
  have hst:=lines_step (f:=fndT) hx h
  refine ⟨by simp,?_,hst.1,hst.2.1,hst.2.2⟩
  have:(fndT x).size≤_:=words_size (fun y hy=>by
   simp only [List.mem_cons,List.not_mem_nil,or_false] at hy
   rcases hy with rfl|rfl|rfl|rfl|rfl|rfl|rfl
   ·show (kindT x).size≤21
    unfold kindT;split
    ·rename_i q
     have:x.kind.toNat=1∨x.kind.toNat=2∨x.kind.toNat=3∨x.kind.toNat=4∨x.kind.toNat=5:=by omega
     rcases this with e|e|e|e|e<;>(rw [e];show (B _).size≤21;rw [B_size];decide)
    ·rw [B_size];decide
   ·exact any_s (by decide)
   ·exact any_n o.2.1
   ·exact any_s (by decide)
   ·exact any_n o.2.2.1
   ·exact any_s (by decide)
   ·exact any_n o.2.2.2)
  refine Nat.le_trans this (by simp only [List.length_cons,List.length_nil];decide)
def fndsT_c(l:(List Fnd))(h:l.length≤1000):PC Tryd.prog:=⟨33,[(.s 4)],[.sl 4 (l.map Fnd.v) false],fndsT_e (l.map fndT),PSpec.of_ok fun ok=>(fndsT_p l h ok).elim fun I0 h=>h.elim fun m0 h=>h.elim fun I1 h=>h.elim fun I2 h=>mxP_of (sh:=(.s 1)) (enc:=fndsT_e) (a:=(fndsT_x l I0 m0 I1 I2).an) h (by kernel_rfl) (AV.pureB_ok rfl),fnB_ok (by kernel_rfl)⟩
end Go.Proofs.YthhpaedpnjdnbaaDoor
namespace Go.Proofs.YthhpaedpnjdnbaaDoor
open Go Go.Am
mutual
theorem AV.ren_id:∀x:AV,x.ren (fun b=>b)=x
  | .agg cs=>by rw [AV.ren,renL_id cs]
  | .tup xs=>by rw [AV.ren,renL_id xs]
  | .func f caps=>by rw [AV.ren,renL_id caps]
  | .ref _ _=>rfl
  | .eref _ _ _=>rfl
  | .vec _=>rfl
  | .vsub _ _ _=>rfl
  | .asub _ _ _ _=>rfl
  | .val _=>rfl
  | .rptr _ _=>rfl
  | .sl _ _ _=>rfl
  | .mref _=>rfl
  | .mp _ _ _=>rfl
  | .unk=>rfl
theorem renL_id:∀xs:List AV,renL (fun b=>b) xs=xs
  | []=>rfl
  | x::xs=>by rw [renL,AV.ren_id x,renL_id xs]
end
def F0(i:Nat):Nat:=1000+i
theorem famPi_id:famPi (fun b=>b) F0=fun b=>b:=by
 funext b;show (if 1000≤b∧b<2000 then 1000+(b-1000) else b)=b;split<;>omega
def F1(i f j:Nat):Nat:=if j=i then f else 1000+j
theorem names_bel(n:Nat)(h:n≤1000):belL 2000 (names n):=by
 unfold names
 have:∀l:List Nat,(∀i∈l,i<1000)→belL 2000 (l.map fun i=>AV.vec (F i)):=by
  intro l
  induction l with
  | nil=>intro _;trivial
  | cons a l ih=>intro h;exact ⟨by have:=h a (by simp);show F a<2000;unfold F;omega,ih fun i hi=>h i (by simp [hi])⟩
 exact this _ fun i hi=>by have:=List.mem_range.mp hi;omega
theorem belL_app{k:Nat}:∀{xs ys:List AV},belL k xs→belL k ys→belL k (xs++ys)
 | [],_,_,h=>h
 | _::_,_,h,h'=>⟨h.1,belL_app h.2 h'⟩
theorem belL_rep{k n:Nat}{x:AV}(h:x.bel k):belL k (List.replicate n x):=by
 induction n with
 | zero=>trivial
 | succ n ih=>exact ⟨h,ih⟩
theorem renL_app{π:Nat→Nat}(xs ys:List AV):renL π (xs++ys)=renL π xs++renL π ys:=by rw [renL_map,renL_map,renL_map,List.map_append]
theorem names_ren(n:Nat)(bs fs:Nat→Nat)(h:n≤1000):renL (famPi bs fs) (names n)=(List.range n).map fun i=>.vec (fs i):=by
 rw [renL_map,names,List.map_map]
 refine List.map_congr_left fun i hi=>?_
 have:=List.mem_range.mp hi
 show AV.vec (famPi bs fs (F i))=_
 rw [famPi_F (by omega)]
abbrev nilR:AV:=.sl 1 [] false
def rowsN(i m:Nat):List AV:=names i++List.replicate m nilR
theorem rowsN_len(i m:Nat):(rowsN i m).length=i+m:=by simp [rowsN,names_len]
theorem rowsN_new{i m f:Nat}(h:i≤999)(bs:Nat→Nat):renL (famPi bs (F1 i f)) (rowsN (i+1) m)=(rowsN i (m+1)).set i (.vec f):=by
 rw [rowsN,renL_app,names_ren _ _ _ (by omega),renL_pure _ (pureL_iff.mpr fun x hx=>by rw [(List.mem_replicate.mp hx).2];trivial),rowsN,List.set_append_right _ _ (by rw [names_len];exact Nat.le_refl _),names_len,Nat.sub_self,
  List.replicate_succ,List.set_cons_zero,List.range_succ,List.map_append,List.map_cons,List.map_nil,names,List.append_assoc]
 have e:(List.range i).map (fun j=>AV.vec (F1 i f j))=(List.range i).map fun j=>.vec (F j):=List.map_congr_left fun j hj=>by
  have:=List.mem_range.mp hj
  simp [F1,F,show j≠i by omega]
 rw [e];simp [F1]
theorem rowsN_bel{i m:Nat}(h:i≤1000):belL 2000 (rowsN i m):=belL_app (names_bel i h) (belL_rep trivial)
theorem F1_inj{i f m:Nat}(hm:m≤1000)(hf:2000≤f):∀a b,a<m→b<m→F1 i f a=F1 i f b→a=b:=fun a b ha hb h=>by
 unfold F1 at h;split at h<;>split at h<;>omega
def topo_c2:AC:=.seq (.reg [⟨(some 41),.move (.t 9),none⟩,⟨(some 42),.len (.t 41),none⟩,⟨(some 43),.move (.c (.val (.int .i64 0))),none⟩])
 (.block 2 (.loop (.seq (.reg [⟨(some 44),.bin .lss (.t 43) (.t 42),none⟩])
 (.seq (.cond (.t 44) (.skip) (.exit 2))
 (.seq (.block 3 (.seq (.reg [⟨(some 45),.move (.t 43),none⟩,⟨(some 10),.move (.t 45),none⟩])
 (.reg [⟨(some 46),.move (.t 9),none⟩,⟨(some 47),.move (.t 10),none⟩,⟨(some 48),.move (.t 5),none⟩,⟨(some 49),.mks 1 1 (.val (.bool false)) (.t 48) (.t 48),none⟩,⟨(some 50),.iaddr 1 (.t 46) (.t 47),none⟩,⟨none,.store 1 (.t 50) (.t 49),none⟩])))
 (.reg [⟨(some 51),.bin .add (.t 43) (.c (.val (.int .i64 1))),none⟩,⟨(some 43),.move (.t 51),none⟩]))))))
def topo_m1(L:List Int)(p:Nat)(rs:List Rtr)(n:Int):NF:=
  ⟨[(0,.k,.ref 0 0),(4,.k,.ref 1 0),(5,.k,.int n),(6,.k,.ref 2 0),(9,.k,.vec 4)],
   [.box (Tap.v ⟨L,p⟩),.box (.agg [.sl 0 [] true,.sl 0 [] true]),.box (.agg [.vec 3,.sl 0 [] true]),.vec 2 (rs.map Rtr.v) (pureBL_map (fun _=>rfl) rs),.vec 1 ((List.replicate n.toNat ([]:List Bool)).map (fun l=>AV.sl 1 (l.map AV.bool) false)) (pureBL_map (fun _=>rfl) _)]⟩
def topoH(L:List Int)(p:Nat)(rs:List Rtr)(es:List AV):List (Option Blk):=
 [some (.box (Tap.v ⟨L,p⟩)),some (.box (.agg [.sl 0 [] true,.sl 0 [] true])),some (.box (.agg [.vec 3,.sl 0 [] true])),some (.vec 2 (rs.map Rtr.v)),some (.vec 1 es)]
def topoS(L:List Int)(p:Nat)(rs:List Rtr)(n:Int)(M:List (List Bool)):S3:=
 ⟨resT [(0,.ref 0 0),(4,.ref 1 0),(5,.int n),(6,.ref 2 0),(9,.vec 4)],G M (hpL 0 (topoH L p rs (names n.toNat))),2000⟩
theorem pureL_rtr(rs:List Rtr):pureL (rs.map Rtr.v):=pureBL_ok (pureBL_map (fun _=>rfl) rs)
theorem topoH_ren{L:List Int}{p:Nat}{rs:List Rtr}{es es':List AV}{hp:Hp}{fs:Nat→Nat}(h0:hp 0=some (.box (Tap.v ⟨L,p⟩)))(h1:hp 1=some (.box (.agg [.sl 0 [] true,.sl 0 [] true])))(h2:hp 2=some (.box (.agg [.vec 3,.sl 0 [] true])))(h3:hp 3=some (.vec 2 (rs.map Rtr.v)))
  (h4:hp 4=some (.vec 1 es')) (he:renL (famPi (fun b=>b) fs) es=es') (hb:belL 2000 es):∀i x,(topoH L p rs es)[i]?=some (some x)→hp i=some (x.ren (famPi (fun b=>b) fs))∧x.bel 2000:=by
 intro i x h
 rcases i with _|_|_|_|_|i
 ·cases h;exact ⟨by rw [h0];rfl,⟨trivial,trivial,trivial⟩⟩
 ·cases h;exact ⟨by rw [h1];rfl,⟨trivial,trivial,trivial⟩⟩
 ·cases h;exact ⟨by rw [h2];rfl,⟨show 3<2000 by omega,trivial,trivial⟩⟩
 ·cases h;exact ⟨by rw [h3,Blk.ren,renL_pure _ (pureL_rtr rs)],belL_pure (pureL_rtr rs)⟩
 ·cases h;exact ⟨by rw [h4,Blk.ren,he],hb⟩
 ·simp [topoH] at h
theorem topoH_F{L:List Int}{p:Nat}{rs:List Rtr}{es:List AV}{hp:Hp}(h0:hp 0=some (.box (Tap.v ⟨L,p⟩)))(h1:hp 1=some (.box (.agg [.sl 0 [] true,.sl 0 [] true])))(h2:hp 2=some (.box (.agg [.vec 3,.sl 0 [] true])))(h3:hp 3=some (.vec 2 (rs.map Rtr.v)))
  (h4:hp 4=some (.vec 1 es)) (hb:belL 2000 es):∀i x,(topoH L p rs es)[i]?=some (some x)→hp i=some (x.ren (famPi (fun b=>b) F0))∧x.bel 2000:=
 topoH_ren h0 h1 h2 h3 h4 (by rw [famPi_id,renL_id]) hb
theorem G4(rows:List (List Bool))(h:Hp):G rows h 4=h 4:=G_lo (by decide)
theorem topo_h2(L:List Int)(p:Nat)(rs:List Rtr)(n:Int)(hn:1≤n∧n≤100)(k:Nat):HandOk Tryd.prog 1 k topo_c2 (topo_m1 L p rs n).st (topoS L p rs n (sq0 n.toNat)):=by
 obtain ⟨N,rfl⟩:∃N:Nat,n=N:=⟨n.toNat,by omega⟩
 simp only [topoS,Int.toNat_natCast]
 unfold HandOk topo_c2
 show AWP _ 1 k _ _ ⟨resT [(0,.ref 0 0),(4,.ref 1 0),(5,.int N),(6,.ref 2 0),(9,.vec 4)],hpL 0 (topoH L p rs ((List.replicate N ([]:List Bool)).map (fun l=>AV.sl 1 (l.map AV.bool) false))),5⟩
 have hnil:(List.replicate N ([]:List Bool)).map (fun l=>AV.sl 1 (l.map AV.bool) false)=rowsN 0 N:=by rw [List.map_replicate,rowsN,names];rfl
 rw [hnil]
 refine AWP.seq' ?_
 refine AWP.reg' fun K hK=>?_
 try simp only [stepS,stepD,stepM,eq_self,implies_true,forall_eq_or_imp,forall_eq,Nat.reduceEqDiff,↓reduceIte,Nat.reduceAdd,Nat.reduceLeDiff,Nat.reduceSub,Nat.reduceMul,Nat.reduceLT,Int.reduceBEq,Int.reduceBNe,Int.reduceToNat,Int.reduceLT,Int.reduceLE,Int.reduceAdd,Int.reduceSub,Int.reduceMul,reduceCtorEq,topoH,lenA,rowsN_len]
 refine hK _ _ _ ?_
 clear hK K
 refine AWP.block ?_
 refine AWP.loopS (fun i=>⟨resT [(0,.ref 0 0),(4,.ref 1 0),(5,.int N),(6,.ref 2 0),(9,.vec 4),(42,.int N),(43,.int (i:Nat))],G (List.replicate i (List.replicate N false)) (hpL 0 (topoH L p rs (rowsN i (N-i)))),2000⟩)
  (fun i=>i≤N) (fun i=>N-i) (i0:=0) (Nat.zero_le _) ?_ ?_
 ·refine Weak.nfG _ _ _ (fun b=>b) F0 ?_ (topoH_F rfl rfl rfl rfl rfl (rowsN_bel (by omega))) (by simp [topoH]) (by simp) (by simp) (fun i j _ _ h=>h) (fun i j _ _ h=>by unfold F0 at h;omega) (fun i j h1 h2=>by simp at h2) (fun b _=>rfl) (by decide)
  simp only [List.forall_mem_cons,List.not_mem_nil,false_implies,implies_true,and_true]
  exact ⟨⟨rfl,show 0<2000 by omega⟩,⟨rfl,show 1<2000 by omega⟩,⟨rfl,trivial⟩,⟨rfl,show 2<2000 by omega⟩,⟨rfl,show 4<2000 by omega⟩,⟨rfl,trivial⟩,rfl,trivial⟩
 ·intro i hi
  refine AWP.seq' ?_
  refine AWP.reg' fun K hK=>?_
  try simp only [stepS,stepD,stepM,eq_self,implies_true,forall_eq_or_imp,forall_eq,Nat.reduceEqDiff,↓reduceIte,Nat.reduceAdd,Nat.reduceLeDiff,Nat.reduceSub,Nat.reduceMul,Nat.reduceLT,Int.reduceBEq,Int.reduceBNe,Int.reduceToNat,Int.reduceLT,Int.reduceLE,Int.reduceAdd,Int.reduceSub,Int.reduceMul,reduceCtorEq,topoH]
  refine hK _ _ _ ?_
  clear hK K
  refine AWP.seq' ?_
  refine AWP.cond (b:=decide ((i:Int)<(N:Int))) rfl (fun h=>?_) (fun h=>?_)
  ·have h:i<N:=by have:=of_decide_eq_true h;omega
   refine AWP.skip ?_
   refine AWP.seq' (AWP.block (AWP.seq' ?_))
   refine AWP.reg' fun K hK=>?_
   try simp only [stepS,stepD,stepM,eq_self,implies_true,forall_eq_or_imp,forall_eq,Nat.reduceEqDiff,↓reduceIte,Nat.reduceAdd,Nat.reduceLeDiff,Nat.reduceSub,Nat.reduceMul,Nat.reduceLT,Int.reduceBEq,Int.reduceBNe,Int.reduceToNat,Int.reduceLT,Int.reduceLE,Int.reduceAdd,Int.reduceSub,Int.reduceMul,reduceCtorEq]
   refine hK _ _ _ ?_
   clear hK K
   have hml:=maxLen_eq
   have hg:(rowsN i (N-i)).getD i .unk=nilR:=by
    rw [rowsN,List.getD_eq_getElem?_getD,List.getElem?_append_right (by rw [names_len];exact Nat.le_refl _),names_len,Nat.sub_self,List.getElem?_replicate,if_pos (by omega)];rfl
   have hs1:nilR.solid=true:=rfl
   have hc1:nilR.cells=[nilR]:=rfl
   have hv1:setPart nilR 0 (.vec 2096)=.vec 2096:=rfl
   refine AWP.reg' fun K hK=>?_
   try simp only [stepS,stepD,stepM,eq_self,implies_true,forall_eq_or_imp,forall_eq,Nat.reduceEqDiff,↓reduceIte,Nat.reduceAdd,Nat.reduceLeDiff,Nat.reduceSub,Nat.reduceMul,Nat.reduceLT,Int.reduceBEq,Int.reduceBNe,Int.reduceToNat,Int.reduceLT,Int.reduceLE,Int.reduceAdd,Int.reduceSub,Int.reduceMul,reduceCtorEq,G4,topoH,rowsN_len,Int.toNat_natCast,hg,hs1,hc1,hv1]
   refine ⟨⟨by omega,by omega,by omega⟩,⟨by omega,by omega⟩,by omega,?_⟩
   refine hK _ _ _ ?_
   clear hK K
   refine (show AWP _ _ _ _ _ _ from ?_)
   have w:IntKind.i64.wrap ((i:Int)+1)=((i+1:Nat):Int):=wrapN (by omega) (by omega)
   refine AWP.reg' fun K hK=>?_
   try simp only [stepS,stepD,stepM,eq_self,implies_true,forall_eq_or_imp,forall_eq,Nat.reduceEqDiff,↓reduceIte,Nat.reduceAdd,Nat.reduceLeDiff,Nat.reduceSub,Nat.reduceMul,Nat.reduceLT,Int.reduceBEq,Int.reduceBNe,Int.reduceToNat,Int.reduceLT,Int.reduceLE,Int.reduceAdd,Int.reduceSub,Int.reduceMul,reduceCtorEq,w]
   refine hK _ _ _ ?_
   clear hK K
   refine ⟨i+1,by omega,by omega,?_⟩
   refine Weak.nfG _ _ _ (fun b=>b) (F1 i 2096) ?_ (topoH_ren rfl rfl rfl rfl rfl ?_ (rowsN_bel (by omega))) (by simp [topoH]) (by simp;omega) ?_ (fun a b _ _ h=>h) (F1_inj (by simp;omega) (by decide)) (fun a b h1 h2 h=>by simp [topoH] at h1;unfold F1 at h;split at h<;>omega) (fun b _=>rfl) (by decide)
   ·simp only [List.forall_mem_cons,List.not_mem_nil,false_implies,implies_true,and_true]
    exact ⟨⟨rfl,show 0<2000 by omega⟩,⟨rfl,show 1<2000 by omega⟩,⟨rfl,trivial⟩,⟨rfl,show 2<2000 by omega⟩,⟨rfl,show 4<2000 by omega⟩,⟨rfl,trivial⟩,rfl,trivial⟩
   ·rw [rowsN_new (by omega),show N-(i+1)+1=N-i by omega]
   ·intro j r hr
    by_cases e:j=i
    ·subst e
     rw [List.getElem?_replicate,if_pos (by omega)] at hr
     cases hr
     simp only [F1,↓reduceIte,List.map_replicate]
     rfl
    ·have hj:j<i+1:=by have:=(List.getElem?_eq_some_iff.mp hr).1;simpa using this
     rw [List.getElem?_replicate,if_pos hj] at hr
     cases hr
     have:(List.replicate i (List.replicate N false))[j]?=some (List.replicate N false):=by rw [List.getElem?_replicate,if_pos (by omega)]
     rw [show F1 i 2096 j=F j by simp [F1,e,F]]
     simp only [upd_ap,F_lo (show 4<1000 by omega),if_false]
     rw [if_neg (by unfold F;omega)]
     exact G_F this (by simp;omega)
  ·have h:i=N:=by have:=of_decide_eq_false h;omega
   subst h
   refine AWP.exit ?_
   refine (show Weak 1 k _ _ from ?_)
   have e:sq0 i=List.replicate i (List.replicate i false):=rfl
   rw [e]
   refine Weak.nfG _ _ _ (fun b=>b) F0 ?_ (topoH_F rfl rfl rfl rfl ?_ (names_bel i (by omega))) (by simp [topoH]) (by simp;omega) ?_ (fun i j _ _ h=>h) (fun i j _ _ h=>by unfold F0 at h;omega) (fun i j h1 h2 h=>by simp [topoH] at h1;unfold F0 at h;omega) (fun b _=>rfl) (by decide)
   ·simp only [List.forall_mem_cons,List.not_mem_nil,false_implies,implies_true,and_true]
    exact ⟨⟨rfl,show 0<2000 by omega⟩,⟨rfl,show 1<2000 by omega⟩,⟨rfl,trivial⟩,⟨rfl,show 2<2000 by omega⟩,⟨rfl,show 4<2000 by omega⟩⟩
   ·show G _ _ 4=_
    rw [G4]
    show some (Blk.vec 1 (rowsN i (i-i)))=_
    rw [Nat.sub_self,rowsN,List.replicate_zero,List.append_nil]
   ·intro j r hr
    exact G_F hr (by simp;omega)
def topo_c3:AC:=.seq (.reg [⟨(some 11),.move (.c (.val (.int .i64 1))),none⟩])
 (.block 4 (.loop (.seq (.seq (.reg [⟨(some 52),.move (.t 11),none⟩,⟨(some 53),.move (.t 5),none⟩,⟨(some 54),.bin .lss (.t 52) (.t 53),none⟩])
 (.cond (.t 54) (.skip) (.exit 4)))
 (.seq (.block 5 (.seq (.reg [⟨(some 57),.move (.t 0),none⟩,⟨(some 58),.call (.c (.func 10 [])) [(.t 57),(.c (.val (.int .i64 12)))],none⟩,⟨(some 59),.bin .lss (.t 58) (.c (.val (.int .i64 11))),none⟩])
 (.cond (.t 59) (.reg [⟨(some 60),.move (.t 9),none⟩,⟨(some 61),.move (.t 0),none⟩,⟨(some 62),.move (.t 11),none⟩,⟨(some 63),.call (.c (.func 10 [])) [(.t 61),(.t 62)],none⟩,⟨(some 64),.iaddr 1 (.t 60) (.t 63),none⟩,⟨(some 65),.load false 1 (.t 64),none⟩,⟨(some 66),.move (.t 11),none⟩,⟨(some 67),.iaddr 1 (.t 65) (.t 66),none⟩,⟨none,.store 1 (.t 67) (.c (.val (.bool true))),none⟩]) (.skip))))
 (.reg [⟨(some 55),.move (.t 11),none⟩,⟨(some 56),.bin .add (.t 55) (.c (.val (.int .i64 1))),none⟩,⟨(some 11),.move (.t 56),none⟩])))))
theorem tap_pure(L:List Int)(p:Nat):(Tap.v ⟨L,p⟩).pure:=⟨trivial,trivial,trivial⟩
theorem names_getD{n i:Nat}(h:i<n):(names n).getD i .unk=.vec (F i):=by rw [List.getD_eq_getElem?_getD,names_get h];rfl
theorem bools_getD{r:List Bool}{i:Nat}(h:i<r.length):∃b:Bool,(r.map AV.bool).getD i .unk=.bool b:=⟨r[i],by simp [List.getD_eq_getElem?_getD,h]⟩
theorem mset_get{M:List (List Bool)}{x y j:Nat}{r q:List Bool}(hx:M[x]?=some r)(h:(mset M x y)[j]?=some q):(j=x∧q=r.set y true)∨(j≠x∧M[j]?=some q):=by
 have hl:=(List.getElem?_eq_some_iff.mp hx).1
 have e:M.getD x []=r:=by rw [List.getD_eq_getElem?_getD,hx];rfl
 rw [mset,List.getElem?_set,e] at h
 by_cases hj:x=j
 ·subst hj;rw [if_pos rfl,if_pos hl] at h;cases h;exact .inl ⟨rfl,rfl⟩
 ·rw [if_neg hj] at h;exact .inr ⟨fun e=>hj e.symm,h⟩
theorem topo_h3(L:List Int)(p:Nat)(rs:List Rtr)(n:Int)(M:List (List Bool))(hn:1≤n∧n≤100)(hM:Sq n.toNat M)(k:Nat) :
  HandOk Tryd.prog 1 k topo_c3 (topoS L p rs n M) (topoS L (lk1 L (n.toNat-1) 1 p M).2 rs n (lk1 L (n.toNat-1) 1 p M).1):=by
 obtain ⟨N,rfl⟩:∃N:Nat,n=N:=⟨n.toNat,by omega⟩
 simp only [topoS,Int.toNat_natCast] at hM ⊢
 unfold HandOk topo_c3
 generalize hE:lk1 L (N-1) 1 p M=E
 refine AWP.seq' ?_
 refine AWP.reg' fun K hK=>?_
 try simp only [stepS,stepD,stepM,eq_self,implies_true,forall_eq_or_imp,forall_eq,Nat.reduceEqDiff,↓reduceIte,Nat.reduceAdd,Nat.reduceLeDiff,Nat.reduceSub,Nat.reduceMul,Nat.reduceLT,Int.reduceBEq,Int.reduceBNe,Int.reduceToNat,Int.reduceLT,Int.reduceLE,Int.reduceAdd,Int.reduceSub,Int.reduceMul,reduceCtorEq]
 refine hK _ _ _ ?_
 clear hK K
 refine AWP.block ?_
 refine AWP.loopS (σ:=Nat×Nat×List (List Bool)) (fun t=>⟨resT [(0,.ref 0 0),(4,.ref 1 0),(5,.int N),(6,.ref 2 0),(9,.vec 4),(11,.int (t.1:Nat))],G t.2.2 (hpL 0 (topoH L t.2.1 rs (names N))),2000⟩)
  (fun t=>1≤t.1∧t.1≤N∧Sq N t.2.2∧lk1 L (N-t.1) t.1 t.2.1 t.2.2=E) (fun t=>N-t.1) (i0:=(1,p,M)) ⟨by omega,by omega,hM,hE⟩ ?_ ?_
 ·refine Weak.nfG _ _ _ (fun b=>b) F0 ?_ (topoH_F rfl rfl rfl rfl rfl (names_bel N (by omega))) (by simp [topoH]) (by rw [hM.1];omega) (fun j r hr=>G_F hr (by rw [hM.1];omega)) (fun i j _ _ h=>h) (fun i j _ _ h=>by unfold F0 at h;omega) (fun i j h1 h2 h=>by simp [topoH] at h1;unfold F0 at h;omega) (fun b _=>rfl) (by decide)
  simp only [List.forall_mem_cons,List.not_mem_nil,false_implies,implies_true,and_true]
  exact ⟨⟨rfl,show 0<2000 by omega⟩,⟨rfl,show 1<2000 by omega⟩,⟨rfl,trivial⟩,⟨rfl,show 2<2000 by omega⟩,⟨rfl,show 4<2000 by omega⟩,rfl,trivial⟩
 rintro ⟨i,p,M⟩ ⟨h1,h2,hM,hE⟩
 simp only at h1 h2 hM hE ⊢
 have hMl:M.length≤1000:=by rw [hM.1];omega
 refine AWP.seq' (AWP.seq' ?_)
 refine AWP.reg' fun K hK=>?_
 try simp only [stepS,stepD,stepM,eq_self,implies_true,forall_eq_or_imp,forall_eq,Nat.reduceEqDiff,↓reduceIte,Nat.reduceAdd,Nat.reduceLeDiff,Nat.reduceSub,Nat.reduceMul,Nat.reduceLT,Int.reduceBEq,Int.reduceBNe,Int.reduceToNat,Int.reduceLT,Int.reduceLE,Int.reduceAdd,Int.reduceSub,Int.reduceMul,reduceCtorEq]
 refine hK _ _ _ ?_
 clear hK K
 refine AWP.cond (b:=decide ((i:Int)<(N:Int))) rfl (fun h=>?_) (fun h=>?_)
 ·have h:i<N:=by have:=of_decide_eq_true h;omega
  refine AWP.skip ?_
  refine AWP.seq' (AWP.block (AWP.seq' ?_))
  refine AWP.reg' fun K hK=>?_
  try simp only [stepS,stepD,stepM,eq_self,implies_true,forall_eq_or_imp,forall_eq,Nat.reduceEqDiff,↓reduceIte,Nat.reduceAdd,Nat.reduceLeDiff,Nat.reduceSub,Nat.reduceMul,Nat.reduceLT,Int.reduceBEq,Int.reduceBNe,Int.reduceToNat,Int.reduceLT,Int.reduceLE,Int.reduceAdd,Int.reduceSub,Int.reduceMul,reduceCtorEq]
  refine evT_own (hs:=(N_h L p 12).ok) (N_h L p 12).fn (args:=[.int 12]) (r:=.int (Mod (rawV L p) 12)) (x':=Tap.v ⟨L,rawP L p⟩) ⟨trivial,trivial⟩ (tap_pure _ _) (tap_pure _ _) trivial rfl (by rfl) (by rfl) ?_
  try simp only [stepS,stepD,stepM,eq_self,implies_true,forall_eq_or_imp,forall_eq,Nat.reduceEqDiff,↓reduceIte,Nat.reduceAdd,Nat.reduceLeDiff,Nat.reduceSub,Nat.reduceMul,Nat.reduceLT,Int.reduceBEq,Int.reduceBNe,Int.reduceToNat,Int.reduceLT,Int.reduceLE,Int.reduceAdd,Int.reduceSub,Int.reduceMul,reduceCtorEq]
  refine hK _ _ _ ?_
  clear hK K
  have w:IntKind.i64.wrap ((i:Int)+1)=((i+1:Nat):Int):=wrapN (by omega) (by omega)
  have hE':lk1 L (N-(i+1)+1) i p M=E:=by rw [show N-(i+1)+1=N-i by omega];exact hE
  rw [lk1] at hE'
  refine AWP.cond (b:=decide (Mod (rawV L p) 12<11)) rfl (fun hc=>?_) (fun hc=>?_)
  ·rw [if_pos (of_decide_eq_true hc)] at hE'
   have hX:=Mod_range (x:=rawV L (rawP L p)) (n:=(i:Int)) (by omega)
   generalize hq:Mod (rawV L (rawP L p)) (i:Int)=X at hX hE'
   obtain ⟨Y,rfl⟩:∃Y:Nat,X=Y:=⟨X.toNat,by omega⟩
   rw [Int.toNat_natCast] at hE'
   obtain ⟨r,hr,hrl,-⟩:=hM.get (show Y<N by omega)
   obtain ⟨b0,hb0⟩:=bools_getD (r:=r) (i:=i) (by omega)
   refine AWP.reg' fun K hK=>?_
   try simp only [stepS,stepD,stepM,eq_self,implies_true,forall_eq_or_imp,forall_eq,Nat.reduceEqDiff,↓reduceIte,Nat.reduceAdd,Nat.reduceLeDiff,Nat.reduceSub,Nat.reduceMul,Nat.reduceLT,Int.reduceBEq,Int.reduceBNe,Int.reduceToNat,Int.reduceLT,Int.reduceLE,Int.reduceAdd,Int.reduceSub,Int.reduceMul,reduceCtorEq]
   have hc2:HSpec Tryd.prog (N_h L (rawP L p) i).f [.ref 0 0,.int i] [.box (Tap.v ⟨L,rawP L p⟩)] (.int Y) [some (.box (Tap.v ⟨L,rawP L (rawP L p)⟩))]:=by rw [←hq];exact (N_h L (rawP L p) i).ok
   refine evT_own (hs:=hc2) (N_h L (rawP L p) i).fn (args:=[.int i]) ⟨trivial,trivial⟩ (tap_pure _ _) (tap_pure _ _) trivial rfl (by rfl) (by rfl) ?_
   have hgF:G M (hpL 0 (topoH L p rs (names N))) (F Y)=some (.vec 1 (r.map AV.bool)):=G_F hr hMl
   have hso:(AV.vec (F Y)).solid=true:=rfl
   have hce:(AV.vec (F Y)).cells=[AV.vec (F Y)]:=rfl
   have hpa:partA (.vec (F Y)) 0 1 false=.vec (F Y):=rfl
   have hF0:(F Y=0)=False:=F_lo (by decide)
   have hF3:(F Y=4)=False:=F_lo (by decide)
   have hbs:(AV.bool b0).solid=true:=rfl
   have hbc:(AV.bool b0).cells=[AV.bool b0]:=rfl
   have htc:(AV.bool true).cells=[AV.bool true]:=rfl
   have hts:(AV.bool true).solid=true:=rfl
   have hsp:setPart (.bool b0) 0 (.bool true)=.bool true:=rfl
   have hT4:hpL 0 (topoH L p rs (names N)) 4=some (.vec 1 (names N)):=rfl
   try simp only [stepS,stepD,stepM,eq_self,implies_true,forall_eq_or_imp,forall_eq,Nat.reduceEqDiff,↓reduceIte,Nat.reduceAdd,Nat.reduceLeDiff,Nat.reduceSub,Nat.reduceMul,Nat.reduceLT,Int.reduceBEq,Int.reduceBNe,Int.reduceToNat,Int.reduceLT,Int.reduceLE,Int.reduceAdd,Int.reduceSub,Int.reduceMul,reduceCtorEq,G4,hT4,names_len,Int.toNat_natCast,names_getD (show Y<N by omega),hso,hce,hpa,hF0,hF3,hgF,List.length_map,hb0,hbs,hbc,htc,hts,hsp,if_false]
   refine ⟨⟨by omega,by omega⟩,by omega,⟨by omega,by omega⟩,by omega,?_⟩
   refine hK _ _ _ ?_
   clear hK K
   refine (show AWP _ _ _ _ _ _ from ?_)
   refine AWP.reg' fun K hK=>?_
   try simp only [stepS,stepD,stepM,eq_self,implies_true,forall_eq_or_imp,forall_eq,Nat.reduceEqDiff,↓reduceIte,Nat.reduceAdd,Nat.reduceLeDiff,Nat.reduceSub,Nat.reduceMul,Nat.reduceLT,Int.reduceBEq,Int.reduceBNe,Int.reduceToNat,Int.reduceLT,Int.reduceLE,Int.reduceAdd,Int.reduceSub,Int.reduceMul,reduceCtorEq,w]
   refine hK _ _ _ ?_
   clear hK K
   refine ⟨(i+1,rawP L (rawP L p),mset M Y i),⟨by omega,by omega,hM.set _ _,hE'⟩,by omega,?_⟩
   have hM':(mset M Y i).length≤1000:=by rw [(hM.set Y i).1];omega
   refine Weak.nfG _ _ _ (fun b=>b) F0 ?_ (topoH_F ?_ ?_ ?_ ?_ ?_ (names_bel N (by omega))) (by simp [topoH]) hM' ?_ (fun i j _ _ h=>h) (fun i j _ _ h=>by unfold F0 at h;omega) (fun i j h1 h2 h=>by simp [topoH] at h1;unfold F0 at h;omega) (fun b _=>rfl) (by decide)
   ·simp only [List.forall_mem_cons,List.not_mem_nil,false_implies,implies_true,and_true]
    exact ⟨⟨rfl,show 0<2000 by omega⟩,⟨rfl,show 1<2000 by omega⟩,⟨rfl,trivial⟩,⟨rfl,show 2<2000 by omega⟩,⟨rfl,show 4<2000 by omega⟩,rfl,trivial⟩
   ·simp only [upd_ap,F_lo' (show 0<1000 by omega),if_false,if_true]
   ·simp only [upd_ap,F_lo' (show 1<1000 by omega),if_false];rfl
   ·simp only [upd_ap,F_lo' (show 2<1000 by omega),if_false];rfl
   ·simp only [upd_ap,F_lo' (show 3<1000 by omega),if_false];rfl
   ·simp only [upd_ap,F_lo' (show 4<1000 by omega),if_false];rfl
   ·intro j q hj
    rw [show F0 j=F j from rfl]
    rcases mset_get hr hj with ⟨rfl,rfl⟩|⟨hne,hj⟩
    ·simp only [upd_ap,if_true,List.map_set]
    ·have:(F j=F Y)=False:=by unfold F;simp;omega
     simp only [upd_ap,this,F_lo (show 0<1000 by omega),if_false]
     exact G_F hj hMl
  ·rw [if_neg (of_decide_eq_false hc)] at hE'
   refine AWP.skip ?_
   refine (show AWP _ _ _ _ _ _ from ?_)
   refine AWP.reg' fun K hK=>?_
   try simp only [stepS,stepD,stepM,eq_self,implies_true,forall_eq_or_imp,forall_eq,Nat.reduceEqDiff,↓reduceIte,Nat.reduceAdd,Nat.reduceLeDiff,Nat.reduceSub,Nat.reduceMul,Nat.reduceLT,Int.reduceBEq,Int.reduceBNe,Int.reduceToNat,Int.reduceLT,Int.reduceLE,Int.reduceAdd,Int.reduceSub,Int.reduceMul,reduceCtorEq,w]
   refine hK _ _ _ ?_
   clear hK K
   refine ⟨(i+1,rawP L p,M),⟨by omega,by omega,hM,hE'⟩,by omega,?_⟩
   refine Weak.nfG _ _ _ (fun b=>b) F0 ?_ (topoH_F rfl rfl rfl rfl rfl (names_bel N (by omega))) (by simp [topoH]) hMl ?_ (fun i j _ _ h=>h) (fun i j _ _ h=>by unfold F0 at h;omega) (fun i j h1 h2 h=>by simp [topoH] at h1;unfold F0 at h;omega) (fun b _=>rfl) (by decide)
   ·simp only [List.forall_mem_cons,List.not_mem_nil,false_implies,implies_true,and_true]
    exact ⟨⟨rfl,show 0<2000 by omega⟩,⟨rfl,show 1<2000 by omega⟩,⟨rfl,trivial⟩,⟨rfl,show 2<2000 by omega⟩,⟨rfl,show 4<2000 by omega⟩,rfl,trivial⟩
   ·intro j r hr
    rw [show F0 j=F j from rfl]
    simp only [upd_ap,F_lo (show 0<1000 by omega),if_false]
    exact G_F hr hMl
 ·have h:i=N:=by have:=of_decide_eq_false h;omega
  subst h
  refine AWP.exit ?_
  refine (show Weak 1 k _ _ from ?_)
  rw [Nat.sub_self,lk1] at hE
  subst hE
  refine Weak.nfG _ _ _ (fun b=>b) F0 ?_ (topoH_F rfl rfl rfl rfl rfl (names_bel i (by omega))) (by simp [topoH]) hMl (fun j r hr=>G_F hr hMl) (fun i j _ _ h=>h) (fun i j _ _ h=>by unfold F0 at h;omega) (fun i j h1 h2 h=>by simp [topoH] at h1;unfold F0 at h;omega) (fun b _=>rfl) (by decide)
  simp only [List.forall_mem_cons,List.not_mem_nil,false_implies,implies_true,and_true]
  exact ⟨⟨rfl,show 0<2000 by omega⟩,⟨rfl,show 1<2000 by omega⟩,⟨rfl,trivial⟩,⟨rfl,show 2<2000 by omega⟩,⟨rfl,show 4<2000 by omega⟩⟩
def rowV(r:List Bool):AV:=.sl 1 (r.map AV.bool) false
theorem topo_frz{L:List Int}{p:Nat}{rs:List Rtr}{M:List (List Bool)}{N:Nat}{k n nx:Nat}{tm:Nat→AV}{x:AV}(hM:Sq N M)(hN:1≤N∧N≤100)(hnx:2000≤nx)
  (t0:tm 0=.ref 0 0) (t4:tm 4=.ref 1 0) (t5:tm 5=x) (hx:x.pure) (t6:tm 6=.ref 2 0) (t9:tm 9=.vec 4) :
  Weak k n ⟨tm,G M (hpL 0 (topoH L p rs (names N))),nx⟩
   ⟨resT [(0,.ref 0 0),(4,.ref 1 0),(5,x),(6,.ref 2 0),(9,.sl 1 (M.map rowV) false)],hpL 0 [some (.box (Tap.v ⟨L,p⟩)),some (.box (.agg [.sl 0 [] true,.sl 0 [] true])),some (.box (.agg [.vec 3,.sl 0 [] true])),some (.vec 2 (rs.map Rtr.v))],nx⟩:=by
 rintro P c a w ⟨h0,A,μ,H⟩
 have H:RelE P c A μ (fun b=>nx≤b) tm (G M (hpL 0 (topoH L p rs (names N)))) n a w:=H
 have hMl:M.length≤1000:=by rw [hM.1];omega
 have same:Same A w w:=fun _ _=>rfl
 let fam:Nat→Prop:=fun b=>b=4∨∃i,i<N∧b=F i
 let A':Nat→Prop:=fun q=>A q∨∃b hd,fam b∧μ b=some hd∧hd.emp=none∧hd.blk=q
 have hle:∀b,A b→A' b:=fun b hb=>.inl hb
 have hlive:∀b,fam b→∃x,G M (hpL 0 (topoH L p rs (names N))) b=some x:=by
  rintro b (rfl|⟨i,hi,rfl⟩)
  ·exact ⟨_,G4 _ _⟩
  ·obtain ⟨r,hr,_,_⟩:=hM.get hi
   exact ⟨_,G_F hr hMl⟩
 have hsub:∀b y,hpL 0 [some (.box (Tap.v ⟨L,p⟩)),some (.box (.agg [.sl 0 [] true,.sl 0 [] true])),some (.box (.agg [.vec 3,.sl 0 [] true])),some (.vec 2 (rs.map Rtr.v))] b=some y→b<4∧G M (hpL 0 (topoH L p rs (names N))) b=some y:=by
  intro b y hy
  rcases b with _|_|_|_|b
  ·exact ⟨by omega,by rw [G_lo (by omega)];exact hy⟩
  ·exact ⟨by omega,by rw [G_lo (by omega)];exact hy⟩
  ·exact ⟨by omega,by rw [G_lo (by omega)];exact hy⟩
  ·exact ⟨by omega,by rw [G_lo (by omega)];exact hy⟩
  ·have:hpL 0 [some (.box (Tap.v ⟨L,p⟩)),some (.box (.agg [.sl 0 [] true,.sl 0 [] true])),some (.box (.agg [.vec 3,.sl 0 [] true])),some (.vec 2 (rs.map Rtr.v))] (b+4)=none:=by rw [hpL_eq];simp
   rw [this] at hy;cases hy
 have hnf:∀b,b<4→¬fam b:=by
  rintro b hb (rfl|⟨i,hi,rfl⟩)
  ·omega
  ·unfold F at hb;omega
 have row:∀i r v,M[i]?=some r→RV w A (.vec (F i)) μ v→RV w A' (rowV r) noMu v:=by
  intro i r v hr hv
  have g:G M (hpL 0 (topoH L p rs (names N))) (F i)=some (.vec 1 (r.map AV.bool)):=G_F hr hMl
  have hi:i<N:=by rw [←hM.1];exact (List.getElem?_eq_some_iff.mp hr).1
  have:=Give.vec g (pureL_bool r) P c A μ _ tm n a w v H hv
  refine RV.pure trivial (this.mono (fun _ _=>rfl) (fun q hq=>?_) _ (MuLe.refl _))
  rcases hq with hq|⟨hd,e1,e2,e3⟩
  ·exact .inl hq
  ·exact .inr ⟨F i,hd,.inr ⟨i,hi,rfl⟩,e1,e2,e3⟩
 have out:RV w A' (.sl 1 (M.map rowV) false) noMu (a.tmps.getD 9 undef):=by
  have hv:=H.tm 9
  rw [t9] at hv
  obtain ⟨hd,e1,hv⟩:=hv
  obtain ⟨hd',f1,f2,f3⟩:=H.vec (show G M (hpL 0 (topoH L p rs (names N))) 4=some (.vec 1 (names N)) from G4 _ _)
  rw [e1] at f1;cases f1
  rcases f3 with ⟨f3,_⟩|⟨g1,g2,g4,g5,C,ty,vs,k1,k2,k3,k4,k5,k6,k7⟩
  ·have:=congrArg List.length f3
   rw [names_len] at this;simp at this;omega
  ·rw [names_len] at g2
   have hv':hd.val=.slice (some ⟨hd.blk,0,none⟩) (M.map rowV).length hd.cap:=by rw [Hd.val,g1,g2,List.length_map,hM.1]
   rw [hv,hv']
   refine .inr ⟨hd.blk,0,hd.cap,vs,rfl,.inr ⟨4,hd,.inl rfl,e1,g1,rfl⟩,by rw [List.length_map,hM.1];omega,g5,(fun h=>by cases h),?_,fun v hv=>⟨k4 v hv,?_⟩,fun p u hu=>by rw [Nat.zero_add];exact k7 p u hu,fun y hy=>?_⟩
   ·refine RVL.of_get (by rw [List.length_map,hM.1,←k2.length,names_len]) fun i y v hy hv=>?_
    rw [List.getElem?_map] at hy
    obtain ⟨r,hr,rfl⟩:=Option.map_eq_some_iff.mp hy
    have hi:i<N:=by rw [←hM.1];exact (List.getElem?_eq_some_iff.mp hr).1
    exact row i r v hr (k2.get2 (names_get hi) hv)
   ·obtain ⟨i,hi⟩:=List.mem_iff_getElem?.1 hv
    have hlt:i<N:=by
     have:=(List.getElem?_eq_some_iff.1 hi).1
     rwa [←k2.length,names_len] at this
    exact (RV.cells rfl (k2.get2 (names_get hlt) hi)).2
   ·obtain ⟨r,_,rfl⟩:=List.mem_map.mp hy;rfl
 refine ⟨h0,A',μ,fun t=>?_,H.n,H.df,fun b y hy=>?_,fun b b' y y' hd hd' hy hy'=>?_,?_,fun b hb=>?_,H.keep,fun b hb=>.inl (H.A0 b hb),?_,H.mu⟩
 ·show RV w A' (resT _ t) μ _
  have ht:=H.tm t
  simp only [resT]
  split
  ·rename_i e;subst e;rw [show tm 0=_ from t0] at ht;exact ht.mono same hle _ (MuLe.refl _)
  split
  ·rename_i e;subst e;rw [show tm 4=_ from t4] at ht;exact ht.mono same hle _ (MuLe.refl _)
  split
  ·rename_i e;subst e;rw [show tm 5=_ from t5] at ht;exact ht.mono same hle _ (MuLe.refl _)
  split
  ·rename_i e;subst e;rw [show tm 6=_ from t6] at ht;exact ht.mono same hle _ (MuLe.refl _)
  split
  ·rename_i e;subst e;exact out.up
  ·trivial
 ·obtain ⟨g0,g1⟩:=hsub b y hy
  obtain ⟨hd,e1,e2,e3⟩:=H.blk b y g1
  refine ⟨hd,e1,e2.mono same hle (MuLe.refl _) (fun _=>rfl),fun he=>⟨?_,(e3 he).2⟩⟩
  rintro (h|⟨b2,hd2,q1,q2,q3,q4⟩)
  ·exact (e3 he).1 h
  ·obtain ⟨x2,hx2⟩:=hlive b2 q1
   have:=H.inj b b2 y x2 hd hd2 g1 hx2 e1 q2 he q3 q4.symm
   exact hnf b g0 (this ▸ q1)
 ·exact H.inj b b' y y' hd hd' (hsub b y hy).2 (hsub b' y' hy').2
 ·refine H.lt.mono same hle ?_
  rintro q (h|⟨b,hd,q1,q2,q3,rfl⟩)
  ·exact H.lt q h
  ·obtain ⟨x,hx⟩:=hlive b q1
   obtain ⟨hd',e1,e2,e3⟩:=H.blk b x hx
   rw [q2] at e1;cases e1
   exact (e3 q3).2.1
 ·obtain ⟨q1,q2⟩:=H.fr b hb
  refine ⟨q1,?_⟩
  cases hy:hpL 0 [some (.box (Tap.v ⟨L,p⟩)),some (.box (.agg [.sl 0 [] true,.sl 0 [] true])),some (.box (.agg [.vec 3,.sl 0 [] true])),some (.vec 2 (rs.map Rtr.v))] b with
  | none=>exact hy
  | some y=>have:=(hsub b y hy).1;have hb:nx≤b:=hb;omega
 ·rintro q (h|⟨b,hd,q1,q2,q3,rfl⟩)
  ·exact H.A1 q h
  ·obtain ⟨x,hx⟩:=hlive b q1
   obtain ⟨hd',e1,e2,e3⟩:=H.blk b x hx
   rw [q2] at e1;cases e1
   exact .inr (e3 q3).2.2
def topo_c4:AC:=.seq (.reg [⟨(some 68),.move (.t 0),none⟩,⟨(some 69),.move (.t 5),none⟩,⟨(some 70),.bin .add (.t 69) (.c (.val (.int .i64 2))),none⟩,⟨(some 71),.call (.c (.func 10 [])) [(.t 68),(.t 70)],none⟩,⟨(some 12),.move (.t 71),none⟩])
 (.block 6 (.loop (.seq (.seq (.reg [⟨(some 72),.move (.t 12),none⟩,⟨(some 73),.bin .gtr (.t 72) (.c (.val (.int .i64 0))),none⟩])
 (.cond (.t 73) (.skip) (.exit 6)))
 (.seq (.block 7 (.seq (.reg [⟨(some 76),.move (.t 0),none⟩,⟨(some 77),.move (.t 5),none⟩,⟨(some 78),.call (.c (.func 10 [])) [(.t 76),(.t 77)],none⟩,⟨(some 79),.move (.t 0),none⟩,⟨(some 80),.move (.t 5),none⟩,⟨(some 81),.call (.c (.func 10 [])) [(.t 79),(.t 80)],none⟩,⟨(some 13),.move (.t 78),none⟩,⟨(some 14),.move (.t 81),none⟩])
 (.seq (.reg [⟨(some 82),.move (.t 13),none⟩,⟨(some 83),.move (.t 14),none⟩,⟨(some 84),.bin .neq (.t 82) (.t 83),none⟩])
 (.cond (.t 84) (.reg [⟨(some 85),.move (.t 9),none⟩,⟨(some 86),.move (.t 13),none⟩,⟨(some 87),.move (.t 14),none⟩,⟨(some 88),.min [(.t 86),(.t 87)],none⟩,⟨(some 89),.iaddr 1 (.t 85) (.t 88),none⟩,⟨(some 90),.load false 1 (.t 89),none⟩,⟨(some 91),.move (.t 13),none⟩,⟨(some 92),.move (.t 14),none⟩,⟨(some 93),.max [(.t 91),(.t 92)],none⟩,⟨(some 94),.iaddr 1 (.t 90) (.t 93),none⟩,⟨none,.store 1 (.t 94) (.c (.val (.bool true))),none⟩]) (.skip)))))
 (.reg [⟨(some 74),.move (.t 12),none⟩,⟨(some 75),.bin .sub (.t 74) (.c (.val (.int .i64 1))),none⟩,⟨(some 12),.move (.t 75),none⟩])))))
def topoE(L:List Int)(p:Nat)(rs:List Rtr)(n:Int)(M:List (List Bool)):S3:=
 ⟨resT [(0,.ref 0 0),(4,.ref 1 0),(5,.int n),(6,.ref 2 0),(9,.sl 1 (M.map rowV) false)],hpL 0 [some (.box (Tap.v ⟨L,p⟩)),some (.box (.agg [.sl 0 [] true,.sl 0 [] true])),some (.box (.agg [.vec 3,.sl 0 [] true])),some (.vec 2 (rs.map Rtr.v))],4⟩
def lkE(L:List Int)(n:Nat)(p:Nat)(M:List (List Bool)):List (List Bool)×Nat:=lk2 L n (Mod (rawV L p) (n+2)).toNat (rawP L p) M
theorem maxI_max(a b:Int):maxI a b=max a b:=by unfold maxI;split<;>omega
theorem minI_min(a b:Int):minI a b=min a b:=by unfold minI;split<;>omega
theorem topo_h4(L:List Int)(p:Nat)(rs:List Rtr)(n:Int)(M:List (List Bool))(hn:1≤n∧n≤100)(hM:Sq n.toNat M)(k:Nat) :
  HandOk Tryd.prog 1 k topo_c4 (topoS L p rs n M) (topoE L (lkE L n.toNat p M).2 rs n (lkE L n.toNat p M).1):=by
 obtain ⟨N,rfl⟩:∃N:Nat,n=N:=⟨n.toNat,by omega⟩
 simp only [topoS,topoE,Int.toNat_natCast] at hM ⊢
 unfold HandOk topo_c4
 have hC:=Mod_range (x:=rawV L p) (n:=(N:Int)+2) (by omega)
 have hE:lk2 L N (Mod (rawV L p) (N+2)).toNat (rawP L p) M=lkE L N p M:=rfl
 generalize lkE L N p M=E at hE ⊢
 generalize hq:Mod (rawV L p) ((N:Int)+2)=X at hC hE
 obtain ⟨C,rfl⟩:∃C:Nat,X=C:=⟨X.toNat,by omega⟩
 rw [Int.toNat_natCast] at hE
 have w2:IntKind.i64.wrap ((N:Int)+2)=(N:Int)+2:=wrap64 (by omega)
 refine AWP.seq' ?_
 refine AWP.reg' fun K hK=>?_
 try simp only [stepS,stepD,stepM,eq_self,implies_true,forall_eq_or_imp,forall_eq,Nat.reduceEqDiff,↓reduceIte,Nat.reduceAdd,Nat.reduceLeDiff,Nat.reduceSub,Nat.reduceMul,Nat.reduceLT,Int.reduceBEq,Int.reduceBNe,Int.reduceToNat,Int.reduceLT,Int.reduceLE,Int.reduceAdd,Int.reduceSub,Int.reduceMul,reduceCtorEq,w2]
 have hc0:HSpec Tryd.prog (N_h L p ((N:Int)+2)).f [.ref 0 0,.int ((N:Int)+2)] [.box (Tap.v ⟨L,p⟩)] (.int C) [some (.box (Tap.v ⟨L,rawP L p⟩))]:=by rw [←hq];exact (N_h L p ((N:Int)+2)).ok
 refine evT_own (hs:=hc0) (N_h L p ((N:Int)+2)).fn (args:=[.int ((N:Int)+2)]) ⟨trivial,trivial⟩ (tap_pure _ _) (tap_pure _ _) trivial rfl (by rfl) (by rfl) ?_
 try simp only [stepS,stepD,stepM,eq_self,implies_true,forall_eq_or_imp,forall_eq,Nat.reduceEqDiff,↓reduceIte,Nat.reduceAdd,Nat.reduceLeDiff,Nat.reduceSub,Nat.reduceMul,Nat.reduceLT,Int.reduceBEq,Int.reduceBNe,Int.reduceToNat,Int.reduceLT,Int.reduceLE,Int.reduceAdd,Int.reduceSub,Int.reduceMul,reduceCtorEq]
 refine hK _ _ _ ?_
 clear hK K
 refine AWP.block ?_
 refine AWP.loopS (σ:=Nat×Nat×List (List Bool)) (fun t=>⟨resT [(0,.ref 0 0),(4,.ref 1 0),(5,.int N),(6,.ref 2 0),(9,.vec 4),(12,.int (t.1:Nat))],G t.2.2 (hpL 0 (topoH L t.2.1 rs (names N))),2000⟩)
  (fun t=>t.1≤N+2∧Sq N t.2.2∧lk2 L N t.1 t.2.1 t.2.2=E) (fun t=>t.1) (i0:=(C,rawP L p,M)) ⟨by omega,hM,hE⟩ ?_ ?_
 ·have hMl:M.length≤1000:=by rw [hM.1];omega
  refine Weak.nfG _ _ _ (fun b=>b) F0 ?_ (topoH_F rfl rfl rfl rfl rfl (names_bel N (by omega))) (by simp [topoH]) hMl ?_ (fun i j _ _ h=>h) (fun i j _ _ h=>by unfold F0 at h;omega) (fun i j h1 h2 h=>by simp [topoH] at h1;unfold F0 at h;omega) (fun b _=>rfl) (by decide)
  ·simp only [List.forall_mem_cons,List.not_mem_nil,false_implies,implies_true,and_true]
   exact ⟨⟨rfl,show 0<2000 by omega⟩,⟨rfl,show 1<2000 by omega⟩,⟨rfl,trivial⟩,⟨rfl,show 2<2000 by omega⟩,⟨rfl,show 4<2000 by omega⟩,rfl,trivial⟩
  ·intro j r hr
   rw [show F0 j=F j from rfl]
   simp only [upd_ap,F_lo (show 0<1000 by omega),if_false]
   exact G_F hr hMl
 clear hM hE hq hC
 rintro ⟨i,p,M⟩ ⟨h2,hM,hE⟩
 simp only at h2 hM hE ⊢
 have hMl:M.length≤1000:=by rw [hM.1];omega
 refine AWP.seq' (AWP.seq' ?_)
 refine AWP.reg' fun K hK=>?_
 try simp only [stepS,stepD,stepM,eq_self,implies_true,forall_eq_or_imp,forall_eq,Nat.reduceEqDiff,↓reduceIte,Nat.reduceAdd,Nat.reduceLeDiff,Nat.reduceSub,Nat.reduceMul,Nat.reduceLT,Int.reduceBEq,Int.reduceBNe,Int.reduceToNat,Int.reduceLT,Int.reduceLE,Int.reduceAdd,Int.reduceSub,Int.reduceMul,reduceCtorEq]
 refine hK _ _ _ ?_
 clear hK K
 refine AWP.cond (b:=decide ((0:Int)<(i:Int))) rfl (fun h=>?_) (fun h=>?_)
 ·have h:0<i:=by have:=of_decide_eq_true h;omega
  obtain ⟨i,rfl⟩:∃j,i=j+1:=⟨i-1,by omega⟩
  refine AWP.skip ?_
  refine AWP.seq' (AWP.block (AWP.seq' ?_))
  refine AWP.reg' fun K hK=>?_
  try simp only [stepS,stepD,stepM,eq_self,implies_true,forall_eq_or_imp,forall_eq,Nat.reduceEqDiff,↓reduceIte,Nat.reduceAdd,Nat.reduceLeDiff,Nat.reduceSub,Nat.reduceMul,Nat.reduceLT,Int.reduceBEq,Int.reduceBNe,Int.reduceToNat,Int.reduceLT,Int.reduceLE,Int.reduceAdd,Int.reduceSub,Int.reduceMul,reduceCtorEq]
  have hX:=Mod_range (x:=rawV L p) (n:=(N:Int)) (by omega)
  have hY:=Mod_range (x:=rawV L (rawP L p)) (n:=(N:Int)) (by omega)
  rw [lk2] at hE
  have hc1:=(N_h L p N).ok
  have hc2:=(N_h L (rawP L p) N).ok
  have hc1:HSpec Tryd.prog (N_h L p N).f [.ref 0 0,.int N] [.box (Tap.v ⟨L,p⟩)] (.int (Mod (rawV L p) N)) [some (.box (Tap.v ⟨L,rawP L p⟩))]:=hc1
  have hc2:HSpec Tryd.prog (N_h L (rawP L p) N).f [.ref 0 0,.int N] [.box (Tap.v ⟨L,rawP L p⟩)] (.int (Mod (rawV L (rawP L p)) N)) [some (.box (Tap.v ⟨L,rawP L (rawP L p)⟩))]:=hc2
  generalize Mod (rawV L p) (N:Int)=X at hX hE hc1
  generalize Mod (rawV L (rawP L p)) (N:Int)=Y at hY hE hc2
  refine evT_own (hs:=hc1) (N_h L p N).fn (args:=[.int N]) ⟨trivial,trivial⟩ (tap_pure _ _) (tap_pure _ _) trivial rfl (by rfl) (by rfl) ?_
  try simp only [stepS,stepD,stepM,eq_self,implies_true,forall_eq_or_imp,forall_eq,Nat.reduceEqDiff,↓reduceIte,Nat.reduceAdd,Nat.reduceLeDiff,Nat.reduceSub,Nat.reduceMul,Nat.reduceLT,Int.reduceBEq,Int.reduceBNe,Int.reduceToNat,Int.reduceLT,Int.reduceLE,Int.reduceAdd,Int.reduceSub,Int.reduceMul,reduceCtorEq]
  refine evT_own (hs:=hc2) (N_h L (rawP L p) N).fn (args:=[.int N]) ⟨trivial,trivial⟩ (tap_pure _ _) (tap_pure _ _) trivial rfl (by rfl) (by rfl) ?_
  try simp only [stepS,stepD,stepM,eq_self,implies_true,forall_eq_or_imp,forall_eq,Nat.reduceEqDiff,↓reduceIte,Nat.reduceAdd,Nat.reduceLeDiff,Nat.reduceSub,Nat.reduceMul,Nat.reduceLT,Int.reduceBEq,Int.reduceBNe,Int.reduceToNat,Int.reduceLT,Int.reduceLE,Int.reduceAdd,Int.reduceSub,Int.reduceMul,reduceCtorEq]
  refine hK _ _ _ ?_
  clear hK K
  refine AWP.seq' ?_
  refine AWP.reg' fun K hK=>?_
  try simp only [stepS,stepD,stepM,eq_self,implies_true,forall_eq_or_imp,forall_eq,Nat.reduceEqDiff,↓reduceIte,Nat.reduceAdd,Nat.reduceLeDiff,Nat.reduceSub,Nat.reduceMul,Nat.reduceLT,Int.reduceBEq,Int.reduceBNe,Int.reduceToNat,Int.reduceLT,Int.reduceLE,Int.reduceAdd,Int.reduceSub,Int.reduceMul,reduceCtorEq]
  refine hK _ _ _ ?_
  clear hK K
  have w:IntKind.i64.wrap (((i+1:Nat):Int)-1)=(i:Nat):=wrapN (by omega) (by omega)
  refine AWP.cond (b:=(X != Y)) rfl (fun hc=>?_) (fun hc=>?_)
  ·have hc:¬X=Y:=by simpa using hc
   rw [if_neg hc] at hE
   obtain ⟨U,hU⟩:∃U:Nat,min X Y=U:=⟨(min X Y).toNat,by omega⟩
   obtain ⟨V,hV⟩:∃V:Nat,max X Y=V:=⟨(max X Y).toNat,by omega⟩
   rw [hU,hV,Int.toNat_natCast,Int.toNat_natCast] at hE
   have hUN:U<N:=by omega
   have hVN:V<N:=by omega
   obtain ⟨r,hr,hrl,-⟩:=hM.get hUN
   obtain ⟨b0,hb0⟩:=bools_getD (r:=r) (i:=V) (by omega)
   have hT4:hpL 0 (topoH L p rs (names N)) 4=some (.vec 1 (names N)):=rfl
   have hgF:G M (hpL 0 (topoH L p rs (names N))) (F U)=some (.vec 1 (r.map AV.bool)):=G_F hr hMl
   have hso:(AV.vec (F U)).solid=true:=rfl
   have hce:(AV.vec (F U)).cells=[AV.vec (F U)]:=rfl
   have hpa:partA (.vec (F U)) 0 1 false=.vec (F U):=rfl
   have hF0:(F U=0)=False:=F_lo (by decide)
   have hF3:(F U=4)=False:=F_lo (by decide)
   have hbs:(AV.bool b0).solid=true:=rfl
   have hbc:(AV.bool b0).cells=[AV.bool b0]:=rfl
   have htc:(AV.bool true).cells=[AV.bool true]:=rfl
   have hts:(AV.bool true).solid=true:=rfl
   have hsp:setPart (.bool b0) 0 (.bool true)=.bool true:=rfl
   refine AWP.reg' fun K hK=>?_
   try simp only [stepS,stepD,stepM,eq_self,implies_true,forall_eq_or_imp,forall_eq,Nat.reduceEqDiff,↓reduceIte,Nat.reduceAdd,Nat.reduceLeDiff,Nat.reduceSub,Nat.reduceMul,Nat.reduceLT,Int.reduceBEq,Int.reduceBNe,Int.reduceToNat,Int.reduceLT,Int.reduceLE,Int.reduceAdd,Int.reduceSub,Int.reduceMul,reduceCtorEq,foldA,foldI,minI_min,maxI_max,hU,hV,G4,hT4,names_len,Int.toNat_natCast,names_getD hUN,hso,hce,hpa,hF0,hF3,hgF,List.length_map,hb0,hbs,hbc,htc,hts,hsp,if_false]
   refine ⟨⟨by omega,by omega⟩,by omega,⟨by omega,by omega⟩,by omega,?_⟩
   refine hK _ _ _ ?_
   clear hK K
   refine (show AWP _ _ _ _ _ _ from ?_)
   refine AWP.reg' fun K hK=>?_
   try simp only [stepS,stepD,stepM,eq_self,implies_true,forall_eq_or_imp,forall_eq,Nat.reduceEqDiff,↓reduceIte,Nat.reduceAdd,Nat.reduceLeDiff,Nat.reduceSub,Nat.reduceMul,Nat.reduceLT,Int.reduceBEq,Int.reduceBNe,Int.reduceToNat,Int.reduceLT,Int.reduceLE,Int.reduceAdd,Int.reduceSub,Int.reduceMul,reduceCtorEq,w]
   refine hK _ _ _ ?_
   clear hK K
   refine ⟨(i,rawP L (rawP L p),mset M U V),⟨by omega,hM.set _ _,hE⟩,by omega,?_⟩
   have hM':(mset M U V).length≤1000:=by rw [(hM.set U V).1];omega
   refine Weak.nfG _ _ _ (fun b=>b) F0 ?_ (topoH_F ?_ ?_ ?_ ?_ ?_ (names_bel N (by omega))) (by simp [topoH]) hM' ?_ (fun i j _ _ h=>h) (fun i j _ _ h=>by unfold F0 at h;omega) (fun i j h1 h2 h=>by simp [topoH] at h1;unfold F0 at h;omega) (fun b _=>rfl) (by decide)
   ·simp only [List.forall_mem_cons,List.not_mem_nil,false_implies,implies_true,and_true]
    exact ⟨⟨rfl,show 0<2000 by omega⟩,⟨rfl,show 1<2000 by omega⟩,⟨rfl,trivial⟩,⟨rfl,show 2<2000 by omega⟩,⟨rfl,show 4<2000 by omega⟩,rfl,trivial⟩
   ·simp only [upd_ap,F_lo' (show 0<1000 by omega),if_false,if_true]
   ·simp only [upd_ap,F_lo' (show 1<1000 by omega),if_false];rfl
   ·simp only [upd_ap,F_lo' (show 2<1000 by omega),if_false];rfl
   ·simp only [upd_ap,F_lo' (show 3<1000 by omega),if_false];rfl
   ·simp only [upd_ap,F_lo' (show 4<1000 by omega),if_false];rfl
   ·intro j q hj
    rw [show F0 j=F j from rfl]
    rcases mset_get hr hj with ⟨rfl,rfl⟩|⟨hne,hj⟩
    ·simp only [upd_ap,if_true,List.map_set]
    ·have:(F j=F U)=False:=by unfold F;simp;omega
     simp only [upd_ap,this,F_lo (show 0<1000 by omega),if_false]
     exact G_F hj hMl
  ·have hc:X=Y:=by simpa using hc
   rw [if_pos hc] at hE
   refine AWP.skip ?_
   refine (show AWP _ _ _ _ _ _ from ?_)
   refine AWP.reg' fun K hK=>?_
   try simp only [stepS,stepD,stepM,eq_self,implies_true,forall_eq_or_imp,forall_eq,Nat.reduceEqDiff,↓reduceIte,Nat.reduceAdd,Nat.reduceLeDiff,Nat.reduceSub,Nat.reduceMul,Nat.reduceLT,Int.reduceBEq,Int.reduceBNe,Int.reduceToNat,Int.reduceLT,Int.reduceLE,Int.reduceAdd,Int.reduceSub,Int.reduceMul,reduceCtorEq,w]
   refine hK _ _ _ ?_
   clear hK K
   refine ⟨(i,rawP L (rawP L p),M),⟨by omega,hM,hE⟩,by omega,?_⟩
   refine Weak.nfG _ _ _ (fun b=>b) F0 ?_ (topoH_F rfl rfl rfl rfl rfl (names_bel N (by omega))) (by simp [topoH]) hMl ?_ (fun i j _ _ h=>h) (fun i j _ _ h=>by unfold F0 at h;omega) (fun i j h1 h2 h=>by simp [topoH] at h1;unfold F0 at h;omega) (fun b _=>rfl) (by decide)
   ·simp only [List.forall_mem_cons,List.not_mem_nil,false_implies,implies_true,and_true]
    exact ⟨⟨rfl,show 0<2000 by omega⟩,⟨rfl,show 1<2000 by omega⟩,⟨rfl,trivial⟩,⟨rfl,show 2<2000 by omega⟩,⟨rfl,show 4<2000 by omega⟩,rfl,trivial⟩
   ·intro j r hr
    rw [show F0 j=F j from rfl]
    simp only [upd_ap,F_lo (show 0<1000 by omega),if_false]
    exact G_F hr hMl
 ·have h:i=0:=by have:=of_decide_eq_false h;omega
  subst h
  refine AWP.exit ?_
  refine (show Weak 1 k _ _ from ?_)
  rw [lk2] at hE
  subst hE
  refine Weak.trans (topo_frz (x:=.int N) hM (by omega) ?_ ?_ ?_ ?_ trivial ?_ ?_) ?_
  ·exact Nat.le_of_ble_eq_true rfl
  ·rfl
  ·rfl
  ·rfl
  ·rfl
  ·rfl
  refine Weak.nf [0,1,2,3] _ _ ?_ ?_ ⟨rfl,rfl⟩ (by decide) (by decide) (by decide)
  ·repeat' (first|exact trivial|exact And.intro rfl trivial|refine And.intro ?_ ?_|rfl|exact Nat.le_of_ble_eq_true rfl|(rw [Blk.ren,renL_pure _ (pureL_rtr rs)];rfl)|exact belL_pure (pureL_rtr rs))
  ·repeat' (first|exact trivial|exact And.intro rfl trivial|refine And.intro ?_ ?_|rfl|exact Nat.le_of_ble_eq_true rfl|(rw [Blk.ren,renL_pure _ (pureL_rtr rs)];rfl)|exact belL_pure (pureL_rtr rs))
theorem rng_top{L:List Int}{p:Nat}{most:Int}(h:1≤most∧most≤100):1≤rng L p 1 most∧rng L p 1 most≤100:=by
 have:=rng_in (L:=L) (p:=p) (lo:=1) (hi:=most) (by omega)
 omega
def rtsL(L:List Int):Nat→Int→Nat→List Rtr→List Rtr×Nat
 | 0,id,p,rs=>(rs,p)
 | n+1,id,p,rs=>rtsL L n (id+pickI [1,1,1,2,5] (rawV L p)) (rawP L p) (rs++[⟨id+pickI [1,1,1,2,5] (rawV L p),true⟩])
def lnkP(L:List Int)(flat:Bool)(p:Nat):Nat:=if flat then rawP L p else rawP L (rawP L (rawP L (rawP L (rawP L p))))
def lnkCa(L:List Int)(p:Nat):Int:=pickI [1,2,3,rng L p 1 20,1000] (rawV L (rawP L p))
def lnkCb(L:List Int)(p:Nat)(ca:Int):Int:=pickI [ca,ca,rng L p 1 20] (rawV L (rawP L p))
def lnk0(L:List Int)(flat:Bool)(a b:Int)(p:Nat):Lnk:=
 if flat then ⟨a,b,1,1,pickI [0,1,2,3,5,10,1000] (rawV L p)⟩
 else ⟨a,b,lnkCa L (rawP L p),lnkCb L (rawP L (rawP L (rawP L p))) (lnkCa L (rawP L p)),pickI [0,1,2,3,5,10,1000] (rawV L p)⟩
def idAt(rs:List Rtr)(i:Nat):Int:=(rs.getD i ⟨0,false⟩).id
def lnk1(L:List Int)(rs:List Rtr)(flat:Bool)(a:Nat):List Bool→Nat→List Lnk→Nat→List Lnk×Nat
 | [],b,ls,p=>(ls,p)
 | t::r,b,ls,p=>if t then lnk1 L rs flat a r (b+1) (ls++[lnk0 L flat (idAt rs a) (idAt rs b) p]) (lnkP L flat p) else lnk1 L rs flat a r (b+1) ls p
def lnk2(L:List Int)(rs:List Rtr)(flat:Bool):List (List Bool)→Nat→List Lnk→Nat→List Lnk×Nat
 | [],a,ls,p=>(ls,p)
 | r::M,a,ls,p=>lnk2 L rs flat M (a+1) (lnk1 L rs flat a r 0 ls p).1 (lnk1 L rs flat a r 0 ls p).2
def topoM(L:List Int)(n p:Nat):List (List Bool)×Nat:=lkE L n (lk1 L (n-1) 1 p (sq0 n)).2 (lk1 L (n-1) 1 p (sq0 n)).1
def topoR(L:List Int)(p:Nat)(most:Int):List Rtr×Nat:=rtsL L (rng L p 1 most).toNat 0 (rawP L p) []
def topoT(L:List Int)(p:Nat)(most:Int):Tpl×Nat:=
 let r:=topoR L p most;let m:=topoM L (rng L p 1 most).toNat r.2
 let k:=lnk2 L r.1 (Mod (rawV L m.2) 3==0) m.1 0 [] (rawP L m.2)
 (⟨r.1,k.1⟩,k.2)
theorem rtsL_len{L:List Int}:∀{n:Nat} {id:Int} {p:Nat} {rs:List Rtr},(rtsL L n id p rs).1.length=rs.length+n
 | 0,_,_,_=>by simp [rtsL]
 | n+1,id,p,rs=>by rw [rtsL,rtsL_len];simp;omega
theorem topoM_sq(L:List Int)(n p:Nat):Sq n (topoM L n p).1:=lk2_sq (lk1_sq (sq0_sq n))
theorem pick5{L:List Int}{p:Nat}:1≤pickI [1,1,1,2,5] (rawV L p)∧pickI [1,1,1,2,5] (rawV L p)≤5:=by
 have:=pickI_mem (l:=[1,1,1,2,5]) (by simp) (rawV L p)
 simp at this;omega
def topoT_a(L:(List Int))(p:Nat)(most:Int)(hm:1≤most∧most≤100):Prop:=okL [.ref 0 0,.int most]∧(.box (.agg [.sl 1 (L.map AV.int) false,.int ((p:Nat):Int)]):Blk).ok
abbrev topoT_v0(L:(List Int))(p:Nat)(most:Int):=(sq0 ((rng L p 1 most)).toNat)
def topoT_n0(L:(List Int))(p:Nat)(most:Int)(t0:Int×Int×Nat×(List Rtr)):NF:=⟨[(0,.k,.ref 0 0),(4,.k,.ref 1 0),(5,.k,.int (rng L p 1 most)),(6,.k,.ref 2 0),(7,.k,.int t0.1),(8,.k,.int t0.2.1)],[.box (.agg [.sl 1 (L.map AV.int) false,.int ((t0.2.2.1:Nat):Int)]),.box (.agg [.sl 0 [] true,.sl 0 [] true]),.box (.agg [.vec 3,.sl 0 [] true]),.vec 2 (t0.2.2.2.map Rtr.v) (pureBL_map (fun _=>rfl) t0.2.2.2)]⟩
def topoT_n1(L:(List Int))(p:Nat)(most:Int)(t0:Int×Int×Nat×(List Rtr))(t1:Int×Nat×(List Lnk)):NF:=⟨[(0,.k,.ref 0 0),(4,.k,.ref 1 0),(6,.k,.ref 2 0),(9,.k,.sl 1 (((lkE L ((rng L p 1 most)).toNat ((lk1 L (((rng L p 1 most)).toNat-1) 1 t0.2.2.1 (topoT_v0 L p most)).2) (lk1 L (((rng L p 1 most)).toNat-1) 1 t0.2.2.1 (topoT_v0 L p most)).1).1).map (fun l=>AV.sl 1 (l.map AV.bool) false)) false),(15,.k,.bool ((Mod (rawV L (lkE L ((rng L p 1 most)).toNat ((lk1 L (((rng L p 1 most)).toNat-1) 1 t0.2.2.1 (topoT_v0 L p most)).2) (lk1 L (((rng L p 1 most)).toNat-1) 1 t0.2.2.1 (topoT_v0 L p most)).1).2) 3)==0)),(99,.k,.int ((((lkE L ((rng L p 1 most)).toNat ((lk1 L (((rng L p 1 most)).toNat-1) 1 t0.2.2.1 (topoT_v0 L p most)).2) (lk1 L (((rng L p 1 most)).toNat-1) 1 t0.2.2.1 (topoT_v0 L p most)).1).1).map (fun l=>AV.sl 1 (l.map AV.bool) false)).length:Int)),(100,.k,.int t1.1)],[.box (.agg [.sl 1 (L.map AV.int) false,.int ((t1.2.1:Nat):Int)]),.box (.agg [.sl 0 [] true,.sl 0 [] true]),.box (.agg [.vec 3,.vec 4]),.vec 2 (t0.2.2.2.map Rtr.v) (pureBL_map (fun _=>rfl) t0.2.2.2),.vec 5 (t1.2.2.map Lnk.v) (pureBL_map (fun _=>rfl) t1.2.2)]⟩
def topoT_n2(L:(List Int))(p:Nat)(most:Int)(t0:Int×Int×Nat×(List Rtr))(t1:Int×Nat×(List Lnk))(t2:Int×(List Lnk)×Nat):NF:=⟨[(0,.k,.ref 0 0),(4,.k,.ref 1 0),(6,.k,.ref 2 0),(9,.k,.sl 1 (((lkE L ((rng L p 1 most)).toNat ((lk1 L (((rng L p 1 most)).toNat-1) 1 t0.2.2.1 (topoT_v0 L p most)).2) (lk1 L (((rng L p 1 most)).toNat-1) 1 t0.2.2.1 (topoT_v0 L p most)).1).1).map (fun l=>AV.sl 1 (l.map AV.bool) false)) false),(15,.k,.bool ((Mod (rawV L (lkE L ((rng L p 1 most)).toNat ((lk1 L (((rng L p 1 most)).toNat-1) 1 t0.2.2.1 (topoT_v0 L p most)).2) (lk1 L (((rng L p 1 most)).toNat-1) 1 t0.2.2.1 (topoT_v0 L p most)).1).2) 3)==0)),(16,.k,.int t1.1),(99,.k,.int ((((lkE L ((rng L p 1 most)).toNat ((lk1 L (((rng L p 1 most)).toNat-1) 1 t0.2.2.1 (topoT_v0 L p most)).2) (lk1 L (((rng L p 1 most)).toNat-1) 1 t0.2.2.1 (topoT_v0 L p most)).1).1).map (fun l=>AV.sl 1 (l.map AV.bool) false)).length:Int)),(100,.k,.int t1.1),(104,.k,.int ((((lkE L ((rng L p 1 most)).toNat ((lk1 L (((rng L p 1 most)).toNat-1) 1 t0.2.2.1 (topoT_v0 L p most)).2) (lk1 L (((rng L p 1 most)).toNat-1) 1 t0.2.2.1 (topoT_v0 L p most)).1).1).map (fun l=>AV.sl 1 (l.map AV.bool) false)).length:Int)),(105,.k,.int t2.1)],[.box (.agg [.sl 1 (L.map AV.int) false,.int ((t2.2.2:Nat):Int)]),.box (.agg [.sl 0 [] true,.sl 0 [] true]),.box (.agg [.vec 3,.vec 4]),.vec 2 (t0.2.2.2.map Rtr.v) (pureBL_map (fun _=>rfl) t0.2.2.2),.vec 5 (t2.2.1.map Lnk.v) (pureBL_map (fun _=>rfl) t2.2.1)]⟩
@[reducible] def topoT_s:Nat→Type
 | 0=>Int×Int×Nat×(List Rtr)
 | 1=>Int×Nat×(List Lnk)
 | 2=>Int×(List Lnk)×Nat
 | _=>Unit
def topoT_e(r:Tap×Tpl):AV:=.agg [.sl 2 (r.2.rs.map Rtr.v) false,.sl 5 (r.2.ls.map Lnk.v) false]
def topoT_b(r:Tap×Tpl):List (Option Blk):=[some (.box (.agg [.sl 1 (r.1.L.map AV.int) false,.int ((r.1.p:Nat):Int)]))]
def topoT_x(L:(List Int))(p:Nat)(most:Int)(hm:1≤most∧most≤100)(I0:(Int×Int×Nat×(List Rtr))→Prop)(m0:(Int×Int×Nat×(List Rtr))→Nat)(I1:Int×Int×Nat×(List Rtr)→(Int×Nat×(List Lnk))→Prop)(m1:Int×Int×Nat×(List Rtr)→(Int×Nat×(List Lnk))→Nat)(I2:Int×Int×Nat×(List Rtr)→Int×Nat×(List Lnk)→(Int×(List Lnk)×Nat)→Prop)(m2:Int×Int×Nat×(List Rtr)→Int×Nat×(List Lnk)→(Int×(List Lnk)×Nat)→Nat):Ax Tryd.prog topoT_s (Tap×Tpl):=
 (.callH [0] (Range_h L p 1 most) 49
(.cmdL (.nilB 81 0 2) (.loop 0 (topoT_n0 L p most) I0 m0 (0,0,rawP L p,[]) [0,1,81,129] fun (t0:Int×Int×Nat×(List Rtr)) b0 =>
(.br 52 (decide (t0.2.1<(rng L p 1 most))) (.req 100 ([1,1,1,2,5]≠[]) fun h1 =>
(.callH [0] (Pick_h L t0.2.2.1 [1,1,1,2,5] h1) 100
(.say (fun R=>Rf (α:=List AV) (t0.2.2.2.map Rtr.v) (Rf (α:=List AV) [.agg [.int (W (t0.1+(pickI [1,1,1,2,5] (rawV L t0.2.2.1)))),.bool true]]
(ck (decide (t0.2.2.2.length+1≤1048576))
R))) (.app 228 Rtr.v t0.2.2.2 [(⟨W (t0.1+(pickI [1,1,1,2,5] (rawV L t0.2.2.1))),true⟩:Rtr)]
(.bk 0 b0 (W (t0.1+(pickI [1,1,1,2,5] (rawV L t0.2.2.1))),W (t0.2.1+1),rawP L t0.2.2.1,t0.2.2.2++[(⟨W (t0.1+(pickI [1,1,1,2,5] (rawV L t0.2.2.1))),true⟩:Rtr)]) [0,1,2,228])))))
(.say (fun R=>Rf (AV.sl 0 [] true) (ck (cond (decide (0≤(rng L p 1 most))) (cond (decide ((rng L p 1 most)≤(rng L p 1 most))) (decide ((rng L p 1 most)≤1048576)) false) false)
R)) (.rep 68 (fun y:AV=>y) (.sl 0 [] true)
(.say (fun R=>FitR (.s 1) (fun l=>AV.sl 1 (l.map AV.bool) false) ((rng L p 1 most).toNat) (.sl 0 [] true) [] ∧
R) (.hand 1 [.wkV 68 (.s 1) (fun l=>AV.sl 1 (l.map AV.bool) false) (List.replicate ((rng L p 1 most).toNat) [])] (topo_m1 L t0.2.2.1 t0.2.2.2 (rng L p 1 most)) [0,1,2,3,68] (topoS L t0.2.2.1 t0.2.2.2 (rng L p 1 most) (topoT_v0 L p most)) topo_c2 (topo_h2 L t0.2.2.1 t0.2.2.2 (rng L p 1 most) (rng_top hm))
(.hand2 1 (topoS L t0.2.2.1 t0.2.2.2 (rng L p 1 most) (topoT_v0 L p most)) (topoS L (lk1 L (((rng L p 1 most)).toNat-1) 1 t0.2.2.1 (topoT_v0 L p most)).2 t0.2.2.2 (rng L p 1 most) (lk1 L (((rng L p 1 most)).toNat-1) 1 t0.2.2.1 (topoT_v0 L p most)).1) topo_c3 (topo_h3 L t0.2.2.1 t0.2.2.2 (rng L p 1 most) (topoT_v0 L p most) (rng_top hm) (sq0_sq _))
(.hand2 1 (topoS L ((lk1 L (((rng L p 1 most)).toNat-1) 1 t0.2.2.1 (topoT_v0 L p most)).2) t0.2.2.2 (rng L p 1 most) (lk1 L (((rng L p 1 most)).toNat-1) 1 t0.2.2.1 (topoT_v0 L p most)).1) (topoE L (lkE L ((rng L p 1 most)).toNat ((lk1 L (((rng L p 1 most)).toNat-1) 1 t0.2.2.1 (topoT_v0 L p most)).2) (lk1 L (((rng L p 1 most)).toNat-1) 1 t0.2.2.1 (topoT_v0 L p most)).1).2 t0.2.2.2 (rng L p 1 most) (lkE L ((rng L p 1 most)).toNat ((lk1 L (((rng L p 1 most)).toNat-1) 1 t0.2.2.1 (topoT_v0 L p most)).2) (lk1 L (((rng L p 1 most)).toNat-1) 1 t0.2.2.1 (topoT_v0 L p most)).1).1) topo_c4 (topo_h4 L ((lk1 L (((rng L p 1 most)).toNat-1) 1 t0.2.2.1 (topoT_v0 L p most)).2) t0.2.2.2 (rng L p 1 most) (lk1 L (((rng L p 1 most)).toNat-1) 1 t0.2.2.1 (topoT_v0 L p most)).1 (rng_top hm) (lk1_sq (sq0_sq _)))
(.callH [0] (N_h L (lkE L ((rng L p 1 most)).toNat ((lk1 L (((rng L p 1 most)).toNat-1) 1 t0.2.2.1 (topoT_v0 L p most)).2) (lk1 L (((rng L p 1 most)).toNat-1) 1 t0.2.2.1 (topoT_v0 L p most)).1).2 3) 20
(.cmdL (.nilB 2 1 5) (.loop 1 (topoT_n1 L p most t0) (I1 t0) (m1 t0) (0,rawP L (lkE L ((rng L p 1 most)).toNat ((lk1 L (((rng L p 1 most)).toNat-1) 1 t0.2.2.1 (topoT_v0 L p most)).2) (lk1 L (((rng L p 1 most)).toNat-1) 1 t0.2.2.1 (topoT_v0 L p most)).1).2,[]) [0,1,2,3,116] fun (t1:Int×Nat×(List Lnk)) b1 =>
(.br 21 (decide (t1.1<((((lkE L ((rng L p 1 most)).toNat ((lk1 L (((rng L p 1 most)).toNat-1) 1 t0.2.2.1 (topoT_v0 L p most)).2) (lk1 L (((rng L p 1 most)).toNat-1) 1 t0.2.2.1 (topoT_v0 L p most)).1).1).map (fun l=>AV.sl 1 (l.map AV.bool) false)).length:Int))) (.loop 2 (topoT_n2 L p most t0 t1) (I2 t0 t1) (m2 t0 t1) (0,t1.2.2,t1.2.1) [0,1,2,3,4] fun (t2:Int×(List Lnk)×Nat) b2 =>
(.br 21 (decide (t2.1<((((lkE L ((rng L p 1 most)).toNat ((lk1 L (((rng L p 1 most)).toNat-1) 1 t0.2.2.1 (topoT_v0 L p most)).2) (lk1 L (((rng L p 1 most)).toNat-1) 1 t0.2.2.1 (topoT_v0 L p most)).1).1).map (fun l=>AV.sl 1 (l.map AV.bool) false)).length:Int))) (.el 85 (fun l=>AV.sl 1 (l.map AV.bool) false) ((lkE L ((rng L p 1 most)).toNat ((lk1 L (((rng L p 1 most)).toNat-1) 1 t0.2.2.1 (topoT_v0 L p most)).2) (lk1 L (((rng L p 1 most)).toNat-1) 1 t0.2.2.1 (topoT_v0 L p most)).1).1) (fun R=>Rf (((lkE L ((rng L p 1 most)).toNat ((lk1 L (((rng L p 1 most)).toNat-1) 1 t0.2.2.1 (topoT_v0 L p most)).2) (lk1 L (((rng L p 1 most)).toNat-1) 1 t0.2.2.1 (topoT_v0 L p most)).1).1).map (fun l=>AV.sl 1 (l.map AV.bool) false)) (ck (decide (0≤t1.1)) (ck (decide (t1.1<(((lkE L ((rng L p 1 most)).toNat ((lk1 L (((rng L p 1 most)).toNat-1) 1 t0.2.2.1 (topoT_v0 L p most)).2) (lk1 L (((rng L p 1 most)).toNat-1) 1 t0.2.2.1 (topoT_v0 L p most)).1).1).length:Int)))
(∀x2,((lkE L ((rng L p 1 most)).toNat ((lk1 L (((rng L p 1 most)).toNat-1) 1 t0.2.2.1 (topoT_v0 L p most)).2) (lk1 L (((rng L p 1 most)).toNat-1) 1 t0.2.2.1 (topoT_v0 L p most)).1).1)[t1.1.toNat]?=some x2 →
(R x2))))) fun x2 =>
(.el 133 AV.bool x2 (fun R=>Rf (x2.map AV.bool) (ck (decide (0≤t2.1)) (ck (decide (t2.1<(x2.length:Int)))
(∀x3,x2[t2.1.toNat]?=some x3 →
(R x3))))) fun x3 =>
(.br 181 (!x3) (.bk 2 b2 (W (t2.1+1),t2.2.1,t2.2.2) [0,1,2,3,4])
(.say (ck (cond (decide (0≤t1.1)) (decide (t1.1<((t0.2.2.2.map Rtr.v).length:Int))) false)) (.el 261 Rtr.v t0.2.2.2 (fun R=>Rf (t0.2.2.2.map Rtr.v) (ck (decide (t1.1.toNat<t0.2.2.2.length))
(∀x4,t0.2.2.2[t1.1.toNat]?=some x4 →
(R x4)))) fun x4 =>
(.say (ck (cond (decide (0≤t2.1)) (decide (t2.1<((t0.2.2.2.map Rtr.v).length:Int))) false)) (.el 357 Rtr.v t0.2.2.2 (fun R=>Rf (t0.2.2.2.map Rtr.v) (ck (decide (t2.1.toNat<t0.2.2.2.length))
(∀x5,t0.2.2.2[t2.1.toNat]?=some x5 →
(R x5)))) fun x5 =>
(.req 405 ([0,1,2,3,5,10,1000]≠[]) fun h6 =>
(.callH [0] (Pick_h L t2.2.2 [0,1,2,3,5,10,1000] h6) 405
(.br 501 (!((Mod (rawV L (lkE L ((rng L p 1 most)).toNat ((lk1 L (((rng L p 1 most)).toNat-1) 1 t0.2.2.1 (topoT_v0 L p most)).2) (lk1 L (((rng L p 1 most)).toNat-1) 1 t0.2.2.1 (topoT_v0 L p most)).1).2) 3)==0)) (.callH [0] (Range_h L (rawP L t2.2.2) 1 20) 533
(.req 565 ([1,2,3,rng L (rawP L t2.2.2) 1 20,1000]≠[]) fun h7 =>
(.callH [0] (Pick_h L (rawP L (rawP L t2.2.2)) [1,2,3,rng L (rawP L t2.2.2) 1 20,1000] h7) 565
(.callH [0] (Range_h L (rawP L (rawP L (rawP L t2.2.2))) 1 20) 709
(.req 741 ([pickI [1,2,3,rng L (rawP L t2.2.2) 1 20,1000] (rawV L (rawP L (rawP L t2.2.2))),pickI [1,2,3,rng L (rawP L t2.2.2) 1 20,1000] (rawV L (rawP L (rawP L t2.2.2))),rng L (rawP L (rawP L (rawP L t2.2.2))) 1 20]≠[]) fun h8 =>
(.callH [0] (Pick_h L (rawP L (rawP L (rawP L (rawP L t2.2.2)))) [pickI [1,2,3,rng L (rawP L t2.2.2) 1 20,1000] (rawV L (rawP L (rawP L t2.2.2))),pickI [1,2,3,rng L (rawP L t2.2.2) 1 20,1000] (rawV L (rawP L (rawP L t2.2.2))),rng L (rawP L (rawP L (rawP L t2.2.2))) 1 20] h8) 741
(.say (fun R=>Rf (α:=List AV) (t2.2.1.map Lnk.v) (Rf (α:=List AV) [.agg [.int x4.id,.int x5.id,.int (pickI [1,2,3,rng L (rawP L t2.2.2) 1 20,1000] (rawV L (rawP L (rawP L t2.2.2)))),.int (pickI [pickI [1,2,3,rng L (rawP L t2.2.2) 1 20,1000] (rawV L (rawP L (rawP L t2.2.2))),pickI [1,2,3,rng L (rawP L t2.2.2) 1 20,1000] (rawV L (rawP L (rawP L t2.2.2))),rng L (rawP L (rawP L (rawP L t2.2.2))) 1 20] (rawV L (rawP L (rawP L (rawP L (rawP L t2.2.2)))))),.int (pickI [0,1,2,3,5,10,1000] (rawV L t2.2.2))]]
(ck (decide (t2.2.1.length+1≤1048576))
R))) (.app 853 Lnk.v t2.2.1 [(⟨x4.id,x5.id,pickI [1,2,3,rng L (rawP L t2.2.2) 1 20,1000] (rawV L (rawP L (rawP L t2.2.2))),pickI [pickI [1,2,3,rng L (rawP L t2.2.2) 1 20,1000] (rawV L (rawP L (rawP L t2.2.2))),pickI [1,2,3,rng L (rawP L t2.2.2) 1 20,1000] (rawV L (rawP L (rawP L t2.2.2))),rng L (rawP L (rawP L (rawP L t2.2.2))) 1 20] (rawV L (rawP L (rawP L (rawP L (rawP L t2.2.2))))),pickI [0,1,2,3,5,10,1000] (rawV L t2.2.2)⟩:Lnk)]
(.bk 2 b2 (W (t2.1+1),t2.2.1++[(⟨x4.id,x5.id,pickI [1,2,3,rng L (rawP L t2.2.2) 1 20,1000] (rawV L (rawP L (rawP L t2.2.2))),pickI [pickI [1,2,3,rng L (rawP L t2.2.2) 1 20,1000] (rawV L (rawP L (rawP L t2.2.2))),pickI [1,2,3,rng L (rawP L t2.2.2) 1 20,1000] (rawV L (rawP L (rawP L t2.2.2))),rng L (rawP L (rawP L (rawP L t2.2.2))) 1 20] (rawV L (rawP L (rawP L (rawP L (rawP L t2.2.2))))),pickI [0,1,2,3,5,10,1000] (rawV L t2.2.2)⟩:Lnk)],rawP L (rawP L (rawP L (rawP L (rawP L t2.2.2))))) [0,1,2,3,853])))))))))
(.say (fun R=>Rf (α:=List AV) (t2.2.1.map Lnk.v) (Rf (α:=List AV) [.agg [.int x4.id,.int x5.id,.int 1,.int 1,.int (pickI [0,1,2,3,5,10,1000] (rawV L t2.2.2))]]
(ck (decide (t2.2.1.length+1≤1048576))
R))) (.app 565 Lnk.v t2.2.1 [(⟨x4.id,x5.id,1,1,pickI [0,1,2,3,5,10,1000] (rawV L t2.2.2)⟩:Lnk)]
(.bk 2 b2 (W (t2.1+1),t2.2.1++[(⟨x4.id,x5.id,1,1,pickI [0,1,2,3,5,10,1000] (rawV L t2.2.2)⟩:Lnk)],rawP L t2.2.2) [0,1,2,3,565])))))))))))))
(.bk 1 b1 (W (t1.1+1),t2.2.2,t2.2.1) [0,1,2,3,4])))
(.say (Rf (t1.2.2.map Lnk.v)) (.cmdL (.frzE 4 (t1.2.2.map Lnk.v) (pureBL_map (fun _=>rfl) t1.2.2)) (.say (Rf (t0.2.2.2.map Rtr.v)) (.cmdL (.frzE 3 (t0.2.2.2.map Rtr.v) (pureBL_map (fun _=>rfl) t0.2.2.2)) (.retH ((⟨L,t1.2.1⟩:Tap),(⟨t0.2.2.2,t1.2.2⟩:Tpl)) ⟨[(4,.k,.ref 1 0)],[.box (.agg [.sl 1 (L.map AV.int) false,.int ((t1.2.1:Nat):Int)]),.box (.agg [.sl 2 (t0.2.2.2.map Rtr.v) false,.sl 5 (t1.2.2.map Lnk.v) false])]⟩ [0,1])))))))))))))))))))
def topoT_vc(L:(List Int))(p:Nat)(most:Int)(hm:1≤most∧most≤100)(I0:(Int×Int×Nat×(List Rtr))→Prop)(m0:(Int×Int×Nat×(List Rtr))→Nat)(I1:Int×Int×Nat×(List Rtr)→(Int×Nat×(List Lnk))→Prop)(m1:Int×Int×Nat×(List Rtr)→(Int×Nat×(List Lnk))→Nat)(I2:Int×Int×Nat×(List Rtr)→Int×Nat×(List Lnk)→(Int×(List Lnk)×Nat)→Prop)(m2:Int×Int×Nat×(List Rtr)→Int×Nat×(List Lnk)→(Int×(List Lnk)×Nat)→Nat)(r0:Tap×Tpl):Prop:=(topoT_x L p most hm I0 m0 I1 m1 I2 m2).vc topoT_e topoT_b r0
theorem topoT_p(L:List Int)(p:Nat)(most:Int)(hm:1≤most∧most≤100)(ok:topoT_a L p most hm):∃I0 m0 I1 m1 I2 m2,topoT_vc L p most hm I0 m0 I1 m1 I2 m2 ((⟨L,(topoT L p most).2⟩:Tap),(topoT L p most).1):=by
 have hr:=rng_top (L:=L) (p:=p) hm
 have hlen:(topoR L p most).1.length=(rng L p 1 most).toNat:=by unfold topoR;rw [rtsL_len];simp
 have hn100:(rng L p 1 most).toNat≤100:=by omega
 refine ⟨fun t=>∃k:Nat,t.2.1=k∧k≤(rng L p 1 most).toNat∧t.2.2.2.length=k∧0≤t.1∧t.1≤5 * k∧rtsL L ((rng L p 1 most).toNat-k) t.1 t.2.2.1 t.2.2.2=topoR L p most,fun t=>(rng L p 1 most).toNat-t.2.1.toNat,
  fun t0 t=>∃k:Nat,t.1=k∧k≤(rng L p 1 most).toNat∧t.2.2.length≤k * 100∧lnk2 L (topoR L p most).1 (Mod (rawV L (topoM L (rng L p 1 most).toNat (topoR L p most).2).2) 3==0) ((topoM L (rng L p 1 most).toNat (topoR L p most).2).1.drop k) k t.2.2 t.2.1
    = lnk2 L (topoR L p most).1 (Mod (rawV L (topoM L (rng L p 1 most).toNat (topoR L p most).2).2) 3==0) (topoM L (rng L p 1 most).toNat (topoR L p most).2).1 0 [] (rawP L (topoM L (rng L p 1 most).toNat (topoR L p most).2).2),
  fun _ t=>(rng L p 1 most).toNat-t.1.toNat,
  fun _ a t=>∃k:Nat,t.1=k∧k≤(rng L p 1 most).toNat∧t.2.1.length≤a.2.2.length+k∧lnk1 L (topoR L p most).1 (Mod (rawV L (topoM L (rng L p 1 most).toNat (topoR L p most).2).2) 3==0) a.1.toNat (((topoM L (rng L p 1 most).toNat (topoR L p most).2).1.getD a.1.toNat []).drop k) k t.2.1 t.2.2
    = lnk1 L (topoR L p most).1 (Mod (rawV L (topoM L (rng L p 1 most).toNat (topoR L p most).2).2) 3==0) a.1.toNat ((topoM L (rng L p 1 most).toNat (topoR L p most).2).1.getD a.1.toNat []) 0 a.2.2 a.2.1,
  fun _ _ t=>(rng L p 1 most).toNat-t.1.toNat,?_⟩
 dsimp only [topoT_vc,topoT_x,topoT_s,topoT_v0,Ax.vp,Ax.vc];simp only [vcU,rfU,List.length_map]
 have hE:topoT L p most=(⟨(topoR L p most).1,(lnk2 L (topoR L p most).1 (Mod (rawV L (topoM L (rng L p 1 most).toNat (topoR L p most).2).2) 3==0) (topoM L (rng L p 1 most).toNat (topoR L p most).2).1 0 [] (rawP L (topoM L (rng L p 1 most).toNat (topoR L p most).2).2)).1⟩,
  (lnk2 L (topoR L p most).1 (Mod (rawV L (topoM L (rng L p 1 most).toNat (topoR L p most).2).2) 3==0) (topoM L (rng L p 1 most).toNat (topoR L p most).2).1 0 [] (rawP L (topoM L (rng L p 1 most).toNat (topoR L p most).2).2)).2):=rfl
 rw [hE]
 have hR0:rtsL L (rng L p 1 most).toNat 0 (rawP L p) []=topoR L p most:=rfl
 generalize rng L p 1 most=n at *
 generalize topoR L p most=R at *
 obtain ⟨N,rfl⟩:∃N:Nat,n=N:=⟨n.toNat,by omega⟩
 simp only [Int.toNat_natCast] at *
 refine ⟨⟨0,rfl,by omega,rfl,by omega,by omega,hR0⟩,?_⟩
 rintro ⟨id,i,q,rs⟩ ⟨k,hi,hk,hl,h0,h5,hr'⟩
 simp only at hi hl h0 h5 hr' ⊢
 subst hi
 have hp5:=pick5 (L:=L) (p:=q)
 refine ⟨fun c=>?_,fun c=>?_⟩
 ·have c:k<N:=by omega
  have w1:W (id+pickI [1,1,1,2,5] (rawV L q))=id+pickI [1,1,1,2,5] (rawV L q):=W_eq (by omega)
  rw [w1,W_succ (n:=N) (by omega) (by omega)]
  refine ⟨by simp,by omega,⟨k+1,rfl,by omega,by simp [hl],by omega,by omega,?_⟩,by omega⟩
  rw [←hr',show N-k=N-(k+1)+1 by omega,rtsL]
 ·have hkN:k=N:=by omega
  subst hkN
  rw [Nat.sub_self,rtsL] at hr'
  subst hr'
  simp only at *
  have hM:=topoM_sq L k q
  have e2:lkE L k (lk1 L (k-1) 1 q (sq0 k)).2 (lk1 L (k-1) 1 q (sq0 k)).1=topoM L k q:=rfl
  rw [e2]
  generalize topoM L k q=T at *
  obtain ⟨M,m⟩:=T
  simp only at hM ⊢
  refine ⟨by simp;omega,fitR_ok rfl,⟨0,rfl,by omega,by simp,rfl⟩,?_⟩
  rintro ⟨a,pa,ls⟩ ⟨x,ha,hx,hls,hq⟩
  simp only at ha hls hq ⊢
  subst ha
  simp only [Int.toNat_natCast]
  refine ⟨fun c2=>⟨⟨0,rfl,by omega,by simp,rfl⟩,?_⟩,fun c2=>?_⟩
  ·have hxk:x<k:=by rw [hM.1] at c2;omega
   obtain ⟨row,g1,g2,g3⟩:=hM.get hxk
   rw [g3]
   rintro ⟨b,ls2,p2⟩ ⟨y,hb,hy,hls2,hq2⟩
   simp only at hb hls2 hq2 ⊢
   subst hb
   simp only [Int.toNat_natCast]
   refine ⟨fun c3=>?_,fun c3=>?_⟩
   ·have hyk:y<k:=by rw [hM.1] at c3;omega
    have hy':y<row.length:=by omega
    have hd:row.drop y=row[y]::row.drop (y+1):=List.drop_eq_getElem_cons hy'
    refine ⟨by omega,by rw [hM.1];omega,fun x2 e=>?_⟩
    rw [g1] at e;cases e
    refine ⟨by omega,by omega,fun x3 e3=>?_⟩
    obtain ⟨-,rfl⟩:=List.getElem?_eq_some_iff.mp e3
    rw [hd] at hq2
    rw [W_succ (n:=k) (by omega) (by omega)]
    refine ⟨fun d=>?_,fun d=>?_⟩
    ·have d:row[y]=false:=by simpa using d
     rw [d,lnk1,if_neg (by simp)] at hq2
     exact ⟨⟨y+1,rfl,by omega,by omega,hq2⟩,by omega⟩
    ·have d:row[y]=true:=by simpa using d
     rw [d,lnk1,if_pos rfl] at hq2
     refine ⟨by simp;omega,by omega,fun x4 e4=>⟨by simp;omega,by omega,fun x5 e5=>?_⟩⟩
     have i4:idAt rs x=x4.id:=by rw [idAt,List.getD_eq_getElem?_getD,e4];rfl
     have i5:idAt rs y=x5.id:=by rw [idAt,List.getD_eq_getElem?_getD,e5];rfl
     rw [i4,i5] at hq2
     refine ⟨by simp,fun f=>?_,fun f=>?_⟩
     ·have f:(Mod (rawV L m) 3==0)=false:=by simpa using f
      rw [f] at hq2 ⊢
      refine ⟨by simp,by simp,by omega,⟨y+1,rfl,by omega,by simp;omega,?_⟩,by omega⟩
      exact hq2
     ·have f:(Mod (rawV L m) 3==0)=true:=by simpa using f
      rw [f] at hq2 ⊢
      refine ⟨by omega,⟨y+1,rfl,by omega,by simp;omega,?_⟩,by omega⟩
      exact hq2
   ·have hyk:y=k:=by rw [hM.1] at c3;omega
    subst hyk
    rw [List.drop_of_length_le (by omega),lnk1] at hq2
    rw [W_succ (n:=y) (by omega) (by omega)]
    refine ⟨⟨x+1,rfl,by omega,by omega,?_⟩,by omega⟩
    have hd:M.drop x=row::M.drop (x+1):=by
     obtain ⟨h1,h2⟩:=List.getElem?_eq_some_iff.mp g1
     rw [List.drop_eq_getElem_cons h1,h2]
    rw [hd,lnk2,←hq2] at hq
    exact hq
  ·have hxk:x=k:=by rw [hM.1] at c2;omega
   subst hxk
   rw [List.drop_of_length_le (by rw [hM.1];omega),lnk2] at hq
   rw [←hq]
def topoT_h(L:(List Int))(p:Nat)(most:Int)(hm:1≤most∧most≤100):HC Tryd.prog:=⟨9,[.k,.k],[.ref 0 0,.int most],[.box (.agg [.sl 1 (L.map AV.int) false,.int ((p:Nat):Int)])],topoT_e ((⟨L,(topoT L p most).2⟩:Tap),(topoT L p most).1),topoT_b ((⟨L,(topoT L p most).2⟩:Tap),(topoT L p most).1),HSpec.of_okh fun ok ok2=>have ok:topoT_a L p most hm:=⟨ok,ok2 _ (by simp)⟩;(topoT_p L p most hm ok).elim fun I0 h=>h.elim fun m0 h=>h.elim fun I1 h=>h.elim fun m1 h=>h.elim fun I2 h=>h.elim fun m2 h=>mxH_of (sh:=(.a [(.s 2),(.s 5)])) (enc:=topoT_e) (hB:=topoT_b) (a:=(topoT_x L p most hm I0 m0 I1 m1 I2 m2).an) h (by kernel_rfl),fnB_ok (by kernel_rfl),HcOk.of (by simp [hcB,belBL,AV.belB,allB,okBk,okBkO,topoT_e,topoT_b,pureBL_map (v:=AV.int) (fun _=>rfl)])⟩
end Go.Proofs.YthhpaedpnjdnbaaDoor
