/- Texts joined: H0 LP G3 G4 G5 G6 G7 G10 H1 V4 V5. -/
import Derived.Test.YthhpaedpnjdnbaaGreatDoorQP4
set_option linter.unusedVariables false
set_option linter.unusedSimpArgs false
namespace Go.Proofs.YthhpaedpnjdnbaaGreatDoor
open Go Go.Am
structure Mem where
  host:Int
  grp:Int
  mode:Int
  srcs:List Int
  til:Int
  deriving DecidableEq
structure Mems where
  now:Int
  list:List Mem
  deriving DecidableEq
structure Edg where
  router:Int
  id:Int
  deriving DecidableEq
structure Pln where
  sub:Int
  len:Int
  es:List Edg
  deriving DecidableEq
def Mem.v(x:Mem):AV:=.agg [.int x.host,.int x.grp,.int x.mode,ints x.srcs,.int x.til]
def Edg.v(x:Edg):AV:=.agg [.int x.router,.int x.id]
def ordL(L:List Int):Nat→Int→List Int→Nat→List Int×Nat
 | 0,_,out,p=>(out,p)
 | n+1,i,out,p=>ordL L n (i+1) (insAt out (Mod (rawV L p) (out.length+1)).toNat i) (rawP L p)
def ordT(L:List Int)(n:Int)(p:Nat):List Int×Nat:=ordL L n.toNat 0 [] p
theorem insAt_len{α:Type}(l:List α)(k:Nat)(x:α)(h:k≤l.length):(insAt l k x).length=l.length+1:=by
 unfold insAt;simp;omega
theorem insAt_perm{α:Type}(l:List α)(k:Nat)(x:α):(insAt l k x).Perm (x::l):=by
 unfold insAt
 have:=(List.perm_middle (a:=x) (l₁:=l.take k) (l₂:=l.drop k))
 rw [List.take_append_drop] at this
 simpa [List.append_assoc] using this
theorem ordL_ok{L:List Int}:∀{n:Nat} {i:Int} {out:List Int} {p:Nat},out.Nodup→(∀x∈out,0≤x∧x<i)→0≤i →
  (ordL L n i out p).1.Nodup∧∀x∈(ordL L n i out p).1,0≤x∧x<i+n
 | 0,i,out,p,h1,h2,h0=>⟨h1,fun x hx=>by have:=h2 x hx;omega⟩
 | n+1,i,out,p,h1,h2,h0=>by
  rw [ordL]
  have hp:=insAt_perm out (Mod (rawV L p) (out.length+1)).toNat i
  obtain ⟨a,b⟩:=ordL_ok (L:=L) (n:=n) (i:=i+1) (out:=insAt out (Mod (rawV L p) (out.length+1)).toNat i) (p:=rawP L p)
   (hp.nodup_iff.mpr (List.nodup_cons.mpr ⟨fun hi=>by have:=h2 i hi;omega,h1⟩))
   (fun x hx=>by
    rcases List.mem_cons.mp (hp.mem_iff.mp hx) with rfl|hx
    ·omega
    ·have:=h2 x hx;omega) (by omega)
  exact ⟨a,fun x hx=>by have:=b x hx;omega⟩
theorem ordT_facts{L:List Int}{n:Int}{p:Nat}(h:0≤n):(ordT L n p).1.Nodup∧∀x∈(ordT L n p).1,0≤x∧x<n:=by
 obtain ⟨a,b⟩:=ordL_ok (L:=L) (n:=n.toNat) (i:=0) (out:=[]) (p:=p) List.nodup_nil (by simp) (by omega)
 exact ⟨a,fun x hx=>by have:=b x hx;omega⟩
def ordT_a(L:(List Int))(p:Nat)(n:Int):Prop:=okL [.ref 0 0,.int n]∧(.box (.agg [.sl 1 (L.map AV.int) false,.int ((p:Nat):Int)]):Blk).ok
def ordT_n0(L:(List Int))(n:Int)(t0:Int×Nat×(List Int)):NF:=⟨[(0,.k,.ref 0 0),(1,.k,.int n),(5,.k,.vec 1),(6,.k,.int t0.1)],[.box (.agg [.sl 1 (L.map AV.int) false,.int ((t0.2.1:Nat):Int)]),.vec 1 (t0.2.2.map AV.int) (pureBL_map (fun _=>rfl) t0.2.2)]⟩
@[reducible] def ordT_s:Nat→Type
 | 0=>Int×Nat×(List Int)
 | _=>Unit
def ordT_e(r:Tap×(List Int)):AV:=.sl 1 (r.2.map AV.int) false
def ordT_b(r:Tap×(List Int)):List (Option Blk):=[some (.box (.agg [.sl 1 (r.1.L.map AV.int) false,.int ((r.1.p:Nat):Int)]))]
def ordT_x(L:(List Int))(p:Nat)(n:Int)(I0:(Int×Nat×(List Int))→Prop)(m0:(Int×Nat×(List Int))→Nat):Ax Tryz.prog ordT_s (Tap×(List Int)):=
 (.cmdL (.nilT 5 1) (.loop 0 (ordT_n0 L n) I0 m0 (0,p,[]) [0,49] fun (t0:Int×Nat×(List Int)) b0 =>
(.br 50 (decide (t0.1<n)) (.callH [0] (N_h L t0.2.1 (W (((t0.2.2.map AV.int).length:Int)+1))) 114
(.say (Rf (t0.2.2.map AV.int)) (.cmd (.frzE 1 (t0.2.2.map AV.int) (pureBL_map (fun _=>rfl) t0.2.2)) (.own 162 (.say (fun R=>Rf (α:=List AV) (t0.2.2.map AV.int) (ck (bndB t0.2.2.length (Mod (rawV L t0.2.1) (W (((t0.2.2.map AV.int).length:Int)+1))) (t0.2.2.length:Int) (t0.2.2.length:Int))
R)) (.sub 210 AV.int t0.2.2 false
(.say (fun R=>Rf (α:=List AV) [.int t0.1] (Rf (α:=List AV) (((t0.2.2.take ((t0.2.2.length:Int).toNat)).drop ((Mod (rawV L t0.2.1) (W (((t0.2.2.map AV.int).length:Int)+1))).toNat)).map AV.int)
(ck (decide ([t0.1].length+((t0.2.2.take ((t0.2.2.length:Int).toNat)).drop ((Mod (rawV L t0.2.1) (W (((t0.2.2.map AV.int).length:Int)+1))).toNat)).length≤1048576))
R))) (.app 226 AV.int [t0.1] ((t0.2.2.take ((t0.2.2.length:Int).toNat)).drop ((Mod (rawV L t0.2.1) (W (((t0.2.2.map AV.int).length:Int)+1))).toNat))
(.say (fun R=>Rf (α:=List AV) (t0.2.2.map AV.int) (ck (bndB t0.2.2.length 0 (Mod (rawV L t0.2.1) (W (((t0.2.2.map AV.int).length:Int)+1))) (Mod (rawV L t0.2.1) (W (((t0.2.2.map AV.int).length:Int)+1))))
R)) (.sub 306 AV.int t0.2.2 true
(.say (fun R=>ck (decide ((Mod (rawV L t0.2.1) (W (((t0.2.2.map AV.int).length:Int)+1)))=(Mod (rawV L t0.2.1) (W (((t0.2.2.map AV.int).length:Int)+1)))))
((Rf (α:=List AV) (((t0.2.2.take ((Mod (rawV L t0.2.1) (W (((t0.2.2.map AV.int).length:Int)+1))).toNat)).drop 0).map AV.int) (Rf (α:=List AV) (([t0.1]++((t0.2.2.take ((t0.2.2.length:Int).toNat)).drop ((Mod (rawV L t0.2.1) (W (((t0.2.2.map AV.int).length:Int)+1))).toNat))).map AV.int)
(ck (decide (0<([t0.1]++((t0.2.2.take ((t0.2.2.length:Int).toNat)).drop ((Mod (rawV L t0.2.1) (W (((t0.2.2.map AV.int).length:Int)+1))).toNat))).length))
R))))) (.appF 338 AV.int ((t0.2.2.take ((Mod (rawV L t0.2.1) (W (((t0.2.2.map AV.int).length:Int)+1))).toNat)).drop 0) ([t0.1]++((t0.2.2.take ((t0.2.2.length:Int).toNat)).drop ((Mod (rawV L t0.2.1) (W (((t0.2.2.map AV.int).length:Int)+1))).toNat)))
(.say (ck (decide (((t0.2.2.take ((Mod (rawV L t0.2.1) (W (((t0.2.2.map AV.int).length:Int)+1))).toNat)).drop 0).length+([t0.1]++((t0.2.2.take ((t0.2.2.length:Int).toNat)).drop ((Mod (rawV L t0.2.1) (W (((t0.2.2.map AV.int).length:Int)+1))).toNat))).length≤1048576))) (.bk 0 b0 (W (t0.1+1),rawP L t0.2.1,((t0.2.2.take ((Mod (rawV L t0.2.1) (W (((t0.2.2.map AV.int).length:Int)+1))).toNat)).drop 0)++([t0.1]++((t0.2.2.take ((t0.2.2.length:Int).toNat)).drop ((Mod (rawV L t0.2.1) (W (((t0.2.2.map AV.int).length:Int)+1))).toNat)))) [0,338]))))))))))))))
(.say (Rf (t0.2.2.map AV.int)) (.cmdL (.frzE 1 (t0.2.2.map AV.int) (pureBL_map (fun _=>rfl) t0.2.2)) (.retH ((⟨L,t0.2.1⟩:Tap),t0.2.2) ⟨[(4,.k,.sl 1 (t0.2.2.map AV.int) false)],[.box (.agg [.sl 1 (L.map AV.int) false,.int ((t0.2.1:Nat):Int)])]⟩ [0]))))))
def ordT_vc(L:(List Int))(p:Nat)(n:Int)(I0:(Int×Nat×(List Int))→Prop)(m0:(Int×Nat×(List Int))→Nat)(r0:Tap×(List Int)):Prop:=(ordT_x L p n I0 m0).vc ordT_e ordT_b r0
theorem ordT_p(L:List Int)(p:Nat)(n:Int)(h:n≤1000)(ok:ordT_a L p n):∃I m,ordT_vc L p n I m ((⟨L,(ordT L n p).2⟩:Tap),(ordT L n p).1):=by
 have hm:=fun (l:Nat) (q:Nat)=>Mod_range (x:=rawV L q) (show 1≤(l:Int)+1 by omega)
 refine ⟨fun t=>∃k:Nat,t.1=k∧k≤n.toNat∧t.2.2.length=k∧ordL L (n.toNat-k) t.1 t.2.2 t.2.1=ordT L n p,fun t=>n.toNat-t.1.toNat,?_⟩
 dsimp only [ordT_vc,ordT_x,ordT_s,Ax.vp,Ax.vc];simp only [vcU,rfU,List.length_map]
 refine ⟨⟨0,rfl,by omega,rfl,rfl⟩,?_⟩
 rintro ⟨i,q,out⟩ ⟨k,hi,hk,hl,hr⟩
 simp only at hi hl hr ⊢
 subst hi
 have w1:W ((out.length:Int)+1)=(out.length:Int)+1:=W_eq (by omega)
 have hq:=hm out.length q
 rw [w1,insAt_eqG]
 refine ⟨fun c=>?_,fun c=>?_⟩
 ·have c:k<n.toNat:=by omega
  rw [W_succ (n:=n.toNat) (by omega) (by omega)]
  refine ⟨by simp [bndB];omega,by simp;omega,by simp [bndB];omega,trivial,by simp,by simp;omega,⟨k+1,rfl,by omega,by rw [insAt_len _ _ _ (by omega),hl],?_⟩,by omega⟩
  rw [show n.toNat-k=(n.toNat-(k+1))+1 by omega,ordL] at hr
  exact hr
 ·have:k=n.toNat:=by omega
  subst this
  rw [Nat.sub_self,ordL] at hr
  rw [←hr]
def ordT_h(L:(List Int))(p:Nat)(n:Int)(h:n≤1000):HC Tryz.prog:=⟨79,[.k,.k],[.ref 0 0,.int n],[.box (.agg [.sl 1 (L.map AV.int) false,.int ((p:Nat):Int)])],ordT_e ((⟨L,(ordT L n p).2⟩:Tap),(ordT L n p).1),ordT_b ((⟨L,(ordT L n p).2⟩:Tap),(ordT L n p).1),HSpec.of_okh fun ok ok2=>have ok:ordT_a L p n:=⟨ok,ok2 _ (by simp)⟩;(ordT_p L p n h ok).elim fun I0 h=>h.elim fun m0 h=>mxH_of (sh:=(.s 1)) (enc:=ordT_e) (hB:=ordT_b) (a:=(ordT_x L p n I0 m0).an) h (by kernel_rfl),fnB_ok (by kernel_rfl),HcOk.of (by simp [hcB,belBL,AV.belB,allB,okBk,okBkO,ordT_e,ordT_b,pureBL_map (v:=AV.int) (fun _=>rfl)])⟩
theorem ordL_len{L:List Int}:∀{n:Nat} {i:Int} {out:List Int} {p:Nat},(ordL L n i out p).1.length=out.length+n
 | 0,i,out,p=>rfl
 | n+1,i,out,p=>by
  have:=Mod_range (x:=rawV L p) (show 1≤(out.length:Int)+1 by omega)
  rw [ordL,ordL_len,insAt_len _ _ _ (by omega)];omega
theorem ordT_len{L:List Int}{n:Int}{p:Nat}:(ordT L n p).1.length=n.toNat:=by rw [ordT,ordL_len];simp
theorem findIdx_at{α:Type}{g:α→Bool}{l:List α}{k:Nat}(h:∀j y,j<k→l[j]?=some y→g y=true)(hk:k≤l.length)(h2:k=l.length∨∃y,l[k]?=some y∧g y=false):(l.findIdx fun y=>!g y)=k:=by
 have hle:(l.findIdx fun y=>!g y)≤l.length:=List.findIdx_le_length
 rcases Nat.lt_trichotomy (l.findIdx fun y=>!g y) k with q|q|q
 ·have hl:(l.findIdx fun y=>!g y)<l.length:=by omega
  have:=List.findIdx_getElem (p:=fun y=>!g y) (xs:=l) (w:=hl)
  rw [h _ _ q (List.getElem?_eq_getElem hl)] at this
  cases this
 ·exact q
 ·rcases h2 with h2|⟨y,hy,hn⟩
  ·omega
  ·have:=List.not_of_lt_findIdx q
   rw [List.getElem?_eq_getElem (lt_of_get hy)] at hy
   rw [Option.some.inj hy,hn] at this
   simp at this
def memLt(y x:Mem):Bool:=decide (y.grp<x.grp) || (y.grp==x.grp && decide (y.host<x.host))
def memP(l:List Mem)(x:Mem):Nat:=l.findIdx fun y=>!memLt y x
def memG(l:List Mem)(x:Mem)(k:Nat):Bool:=match l[k]? with|some y=>memLt y x|none=>false
def memE(l:List Mem)(x:Mem)(k:Nat):Bool:=match l[k]? with|some y=>y.grp==x.grp && y.host==x.host|none=>false
def putM(l:List Mem)(x:Mem):List Mem:=if memE l x (memP l x)=true then l.set (memP l x) x else insAt l (memP l x) x
def memX(L:List Int)(now:Int)(p:Nat):Mem×Nat:=
 (⟨rng L p 1 8,rng L (rawP L p) 1 4,if (filterT L (rawP L (rawP L p))).1.mode=1∧(filterT L (rawP L (rawP L p))).1.srcs=[] then 2 else (filterT L (rawP L (rawP L p))).1.mode,(filterT L (rawP L (rawP L p))).1.srcs,
  now+pickI [0,1,30,1000] (rawV L (filterT L (rawP L (rawP L p))).2)⟩,rawP L (filterT L (rawP L (rawP L p))).2)
def memsL(L:List Int)(now:Int):Nat→List Mem→Nat→List Mem×Nat
 | 0,l,p=>(l,p)
 | n+1,l,p=>memsL L now n (putM l (memX L now p).1) (memX L now p).2
def memsT(L:List Int)(n:Int)(p:Nat):Mems×Nat:=
 (⟨pickI [0,10,500,998000] (rawV L p),(memsL L (pickI [0,10,500,998000] (rawV L p)) (Mod (rawV L (rawP L p)) (n+1)).toNat [] (rawP L (rawP L p))).1⟩,
  (memsL L (pickI [0,10,500,998000] (rawV L p)) (Mod (rawV L (rawP L p)) (n+1)).toNat [] (rawP L (rawP L p))).2)
theorem putM_len(l:List Mem)(x:Mem):(putM l x).length≤l.length+1:=by
 have:memP l x≤l.length:=List.findIdx_le_length
 unfold putM
 split
 ·simp
 ·rw [insAt_len _ _ _ this];omega
theorem pickI_in{l:List Int}{a b:Int}(h:∀x∈l,a≤x∧x≤b)(h0:l≠[])(r:Int):a≤pickI l r∧pickI l r≤b:=h _ (pickI_mem h0 r)
def memsT_a(L:(List Int))(p:Nat)(n:Int):Prop:=okL [.ref 0 0,.int n]∧(.box (.agg [.sl 1 (L.map AV.int) false,.int ((p:Nat):Int)]):Blk).ok
def memsT_n0(L:(List Int))(p:Nat)(t0:Int×Nat×(List Mem)):NF:=⟨[(0,.k,.ref 0 0),(4,.k,.ref 1 0),(5,.k,.ref 2 0),(6,.k,.int t0.1)],[.box (.agg [.sl 1 (L.map AV.int) false,.int ((t0.2.1:Nat):Int)]),.box (.agg [.int 0,.sl 0 [] true]),.box (.agg [.int (pickI [0,10,500,998000] (rawV L p)),.vec 3]),.vec 5 (t0.2.2.map Mem.v) (pureBL_map (fun _=>rfl) t0.2.2)]⟩
def memsT_n1(L:(List Int))(p:Nat)(t0:Int×Nat×(List Mem))(t1:Mem):NF:=⟨[(0,.k,.ref 0 0),(4,.k,.ref 1 0),(5,.k,.ref 2 0),(6,.k,.int t0.1),(7,.k,.ref 4 0)],[.box (.agg [.sl 1 (L.map AV.int) false,.int (((rawP L ((filterT L (rawP L (rawP L t0.2.1))).2)):Nat):Int)]),.box (.agg [.int 0,.sl 0 [] true]),.box (.agg [.int (pickI [0,10,500,998000] (rawV L p)),.vec 3]),.vec 5 (t0.2.2.map Mem.v) (pureBL_map (fun _=>rfl) t0.2.2),.box (.agg [.int t1.host,.int t1.grp,.int t1.mode,.sl 1 (t1.srcs.map AV.int) false,.int t1.til])]⟩
def memsT_n2(L:(List Int))(p:Nat)(t0:Int×Nat×(List Mem))(t2:Bool):NF:=⟨[(0,.k,.ref 0 0),(4,.k,.ref 1 0),(5,.k,.ref 2 0),(6,.k,.int t0.1),(7,.k,.ref 4 0),(45,.k,.bool t2)],[.box (.agg [.sl 1 (L.map AV.int) false,.int (((rawP L ((filterT L (rawP L (rawP L t0.2.1))).2)):Nat):Int)]),.box (.agg [.int 0,.sl 0 [] true]),.box (.agg [.int (pickI [0,10,500,998000] (rawV L p)),.vec 3]),.vec 5 (t0.2.2.map Mem.v) (pureBL_map (fun _=>rfl) t0.2.2),.box (.agg [.int (rng L t0.2.1 1 8),.int (rng L (rawP L t0.2.1) 1 4),.int (((filterT L (rawP L (rawP L t0.2.1))).1).mode),.sl 1 ((((filterT L (rawP L (rawP L t0.2.1))).1).srcs).map AV.int) false,.int (W ((pickI [0,10,500,998000] (rawV L p))+(pickI [0,1,30,1000] (rawV L ((filterT L (rawP L (rawP L t0.2.1))).2)))))])]⟩
def memsT_n3(L:(List Int))(p:Nat)(t0:Int×Nat×(List Mem))(t1:Mem)(t3:Int):NF:=⟨[(0,.k,.ref 0 0),(4,.k,.ref 1 0),(5,.k,.ref 2 0),(6,.k,.int t0.1),(7,.k,.ref 4 0),(8,.k,.int t3)],[.box (.agg [.sl 1 (L.map AV.int) false,.int (((rawP L ((filterT L (rawP L (rawP L t0.2.1))).2)):Nat):Int)]),.box (.agg [.int 0,.sl 0 [] true]),.box (.agg [.int (pickI [0,10,500,998000] (rawV L p)),.vec 3]),.vec 5 (t0.2.2.map Mem.v) (pureBL_map (fun _=>rfl) t0.2.2),.box (.agg [.int t1.host,.int t1.grp,.int t1.mode,.sl 1 (t1.srcs.map AV.int) false,.int t1.til])]⟩
def memsT_n4(L:(List Int))(p:Nat)(t0:Int×Nat×(List Mem))(t1:Mem)(t3:Int)(t4:Bool):NF:=⟨[(0,.k,.ref 0 0),(4,.k,.ref 1 0),(5,.k,.ref 2 0),(6,.k,.int t0.1),(7,.k,.ref 4 0),(8,.k,.int t3),(85,.k,.bool t4)],[.box (.agg [.sl 1 (L.map AV.int) false,.int (((rawP L ((filterT L (rawP L (rawP L t0.2.1))).2)):Nat):Int)]),.box (.agg [.int 0,.sl 0 [] true]),.box (.agg [.int (pickI [0,10,500,998000] (rawV L p)),.vec 3]),.vec 5 (t0.2.2.map Mem.v) (pureBL_map (fun _=>rfl) t0.2.2),.box (.agg [.int t1.host,.int t1.grp,.int t1.mode,.sl 1 (t1.srcs.map AV.int) false,.int t1.til])]⟩
def memsT_n5(L:(List Int))(p:Nat)(t0:Int×Nat×(List Mem))(t1:Mem)(t3:Int)(t5:Bool):NF:=⟨[(0,.k,.ref 0 0),(4,.k,.ref 1 0),(5,.k,.ref 2 0),(6,.k,.int t0.1),(7,.k,.ref 4 0),(8,.k,.int t3),(114,.k,.bool t5)],[.box (.agg [.sl 1 (L.map AV.int) false,.int (((rawP L ((filterT L (rawP L (rawP L t0.2.1))).2)):Nat):Int)]),.box (.agg [.int 0,.sl 0 [] true]),.box (.agg [.int (pickI [0,10,500,998000] (rawV L p)),.vec 3]),.vec 5 (t0.2.2.map Mem.v) (pureBL_map (fun _=>rfl) t0.2.2),.box (.agg [.int t1.host,.int t1.grp,.int t1.mode,.sl 1 (t1.srcs.map AV.int) false,.int t1.til])]⟩
@[reducible] def memsT_s:Nat→Type
 | 0=>Int×Nat×(List Mem)
 | 1=>Mem
 | 2=>Bool
 | 3=>Int
 | 4=>Bool
 | 5=>Bool
 | _=>Unit
def memsT_e(r:Tap×Mems):AV:=.agg [.int r.2.now,.vec 1]
def memsT_b(r:Tap×Mems):List (Option Blk):=[some (.box (.agg [.sl 1 (r.1.L.map AV.int) false,.int ((r.1.p:Nat):Int)])),some (.vec 5 (r.2.list.map Mem.v))]
def memsT_x(L:(List Int))(p:Nat)(n:Int)(I0:(Int×Nat×(List Mem))→Prop)(m0:(Int×Nat×(List Mem))→Nat)(I1:Int×Nat×(List Mem)→Mem→Prop)(I2:Int×Nat×(List Mem)→Bool→Prop)(I3:Int×Nat×(List Mem)→Mem→Int→Prop)(m3:Int×Nat×(List Mem)→Mem→Int→Nat)(I4:Int×Nat×(List Mem)→Mem→Int→Bool→Prop)(I5:Int×Nat×(List Mem)→Mem→Int→Bool→Bool→Prop):Ax Tryz.prog memsT_s (Tap×Mems):=
 (.req 49 ([0,10,500,998000]≠[]) fun h1 =>
(.callH [0] (Pick_h L p [0,10,500,998000] h1) 49
(.callH [0] (N_h L (rawP L p) (W (n+1))) 161
(.cmdL (.nilB 81 1 5) (.loop 0 (memsT_n0 L p) I0 m0 (Mod (rawV L (rawP L p)) (W (n+1)),rawP L (rawP L p),[]) [0,1,81,193] fun (t0:Int×Nat×(List Mem)) b0 =>
(.br 36 (decide (0<t0.1)) (.callH [0] (Range_h L t0.2.1 1 8) 52
(.callH [0] (Range_h L (rawP L t0.2.1) 1 4) 84
(.callH [0] (filterT_h L (rawP L (rawP L t0.2.1))) 116
(.req 196 ([0,1,30,1000]≠[]) fun h2 =>
(.callH [0] (Pick_h L ((filterT L (rawP L (rawP L t0.2.1))).2) [0,1,30,1000] h2) 196
(.join 1 (memsT_n1 L p t0) (fun (t1:Mem)=>I1 t0 t1) (fun b1=>(.join 2 (memsT_n2 L p t0) (fun (t2:Bool)=>I2 t0 t2) (fun b2=>(.br 356 (((filterT L (rawP L (rawP L t0.2.1))).1).mode==1) (.bk 2 b2 (((((((filterT L (rawP L (rawP L t0.2.1))).1).srcs).map AV.int).length:Int)==0):Bool) [0,1,2,3,244])
(.bk 2 b2 ((false):Bool) [0,1,2,3,244]))) fun (t2:Bool) =>
(.br 5 t2 (.bk 1 b1 (((⟨rng L t0.2.1 1 8,rng L (rawP L t0.2.1) 1 4,2,((filterT L (rawP L (rawP L t0.2.1))).1).srcs,W ((pickI [0,10,500,998000] (rawV L p))+(pickI [0,1,30,1000] (rawV L ((filterT L (rawP L (rawP L t0.2.1))).2))))⟩:Mem)):Mem) [0,1,2,3,4])
(.bk 1 b1 (((⟨rng L t0.2.1 1 8,rng L (rawP L t0.2.1) 1 4,((filterT L (rawP L (rawP L t0.2.1))).1).mode,((filterT L (rawP L (rawP L t0.2.1))).1).srcs,W ((pickI [0,10,500,998000] (rawV L p))+(pickI [0,1,30,1000] (rawV L ((filterT L (rawP L (rawP L t0.2.1))).2))))⟩:Mem)):Mem) [0,1,2,3,4])))) fun (t1:Mem) =>
(.loop 3 (memsT_n3 L p t0 t1) (I3 t0 t1) (m3 t0 t1) ((0):Int) [0,1,2,3,4] fun (t3:Int) b3 =>
(.pass (.join 4 (memsT_n4 L p t0 t1 t3) (fun (t4:Bool)=>I4 t0 t1 t3 t4) (fun b4=>(.br 101 (decide (t3<((t0.2.2.map Mem.v).length:Int))) (.say (ck (cond (decide (0≤t3)) (decide (t3<((t0.2.2.map Mem.v).length:Int))) false)) (.el 181 Mem.v t0.2.2 (fun R=>Rf (t0.2.2.map Mem.v) (ck (decide (t3.toNat<t0.2.2.length))
(∀x3,t0.2.2[t3.toNat]?=some x3 →
(R x3)))) fun x3 =>
(.br 261 (decide (x3.grp<t1.grp)) (.bk 4 b4 ((true):Bool) [0,1,2,3,4])
(.say (ck (cond (decide (0≤t3)) (decide (t3<((t0.2.2.map Mem.v).length:Int))) false)) (.el 341 Mem.v t0.2.2 (fun R=>Rf (t0.2.2.map Mem.v) (ck (decide (t3.toNat<t0.2.2.length))
(∀x4,t0.2.2[t3.toNat]?=some x4 →
(R x4)))) fun x4 =>
(.br 421 (x4.grp==t1.grp) (.say (ck (cond (decide (0≤t3)) (decide (t3<((t0.2.2.map Mem.v).length:Int))) false)) (.el 501 Mem.v t0.2.2 (fun R=>Rf (t0.2.2.map Mem.v) (ck (decide (t3.toNat<t0.2.2.length))
(∀x5,t0.2.2[t3.toNat]?=some x5 →
(R x5)))) fun x5 =>
(.bk 4 b4 ((decide (x5.host<t1.host)):Bool) [0,1,2,3,4])))
(.bk 4 b4 ((false):Bool) [0,1,2,3,4])))))))
(.bk 4 b4 ((false):Bool) [0,1,2,3,4]))) fun (t4:Bool) =>
(.br 5 t4 (.bk 3 b3 ((W (t3+1)):Int) [0,1,2,3,4])
(.pass (.join 5 (memsT_n5 L p t0 t1 t3) (fun (t5:Bool)=>I5 t0 t1 t3 t4 t5) (fun b5=>(.br 101 (decide (t3<((t0.2.2.map Mem.v).length:Int))) (.say (ck (cond (decide (0≤t3)) (decide (t3<((t0.2.2.map Mem.v).length:Int))) false)) (.el 181 Mem.v t0.2.2 (fun R=>Rf (t0.2.2.map Mem.v) (ck (decide (t3.toNat<t0.2.2.length))
(∀x6,t0.2.2[t3.toNat]?=some x6 →
(R x6)))) fun x6 =>
(.br 277 (x6.grp==t1.grp) (.say (ck (cond (decide (0≤t3)) (decide (t3<((t0.2.2.map Mem.v).length:Int))) false)) (.el 357 Mem.v t0.2.2 (fun R=>Rf (t0.2.2.map Mem.v) (ck (decide (t3.toNat<t0.2.2.length))
(∀x7,t0.2.2[t3.toNat]?=some x7 →
(R x7)))) fun x7 =>
(.bk 5 b5 ((x7.host==t1.host):Bool) [0,1,2,3,4])))
(.bk 5 b5 ((false):Bool) [0,1,2,3,4]))))
(.bk 5 b5 ((false):Bool) [0,1,2,3,4]))) fun (t5:Bool) =>
(.br 5 t5 (.say (ck (cond (decide (0≤t3)) (decide (t3<((t0.2.2.map Mem.v).length:Int))) false)) (.st 85 Mem.v t0.2.2 (fun y8=>t1) (fun R=>Rf (t0.2.2.map Mem.v) (ck (decide (t3.toNat<t0.2.2.length))
(∀y8,t0.2.2[t3.toNat]?=some y8→Rf (Mem.v t1)
((R y8))))) fun y8 =>
(.bk 0 b0 (W (t0.1-1),rawP L ((filterT L (rawP L (rawP L t0.2.1))).2),t0.2.2.set t3.toNat t1) [0,1,2,3])))
(.say (Rf (t0.2.2.map Mem.v)) (.cmd (.frzE 3 (t0.2.2.map Mem.v) (pureBL_map (fun _=>rfl) t0.2.2)) (.own 21 (.say (fun R=>Rf (α:=List AV) (t0.2.2.map Mem.v) (ck (bndB t0.2.2.length t3 (t0.2.2.length:Int) (t0.2.2.length:Int))
R)) (.sub 85 Mem.v t0.2.2 false
(.say (fun R=>Rf (α:=List AV) [.agg [.int t1.host,.int t1.grp,.int t1.mode,.sl 1 (t1.srcs.map AV.int) false,.int t1.til]] (Rf (α:=List AV) (((t0.2.2.take ((t0.2.2.length:Int).toNat)).drop t3.toNat).map Mem.v)
(ck (decide ([t1].length+((t0.2.2.take ((t0.2.2.length:Int).toNat)).drop t3.toNat).length≤1048576))
R))) (.app 101 Mem.v [t1] ((t0.2.2.take ((t0.2.2.length:Int).toNat)).drop t3.toNat)
(.say (fun R=>Rf (α:=List AV) (t0.2.2.map Mem.v) (ck (bndB t0.2.2.length 0 t3 t3)
R)) (.sub 197 Mem.v t0.2.2 true
(.say (fun R=>ck (decide (t3=t3))
((Rf (α:=List AV) (((t0.2.2.take t3.toNat).drop 0).map Mem.v) (Rf (α:=List AV) (([t1]++((t0.2.2.take ((t0.2.2.length:Int).toNat)).drop t3.toNat)).map Mem.v)
(ck (decide (0<([t1]++((t0.2.2.take ((t0.2.2.length:Int).toNat)).drop t3.toNat)).length))
R))))) (.appF 229 Mem.v ((t0.2.2.take t3.toNat).drop 0) ([t1]++((t0.2.2.take ((t0.2.2.length:Int).toNat)).drop t3.toNat))
(.say (ck (decide (((t0.2.2.take t3.toNat).drop 0).length+([t1]++((t0.2.2.take ((t0.2.2.length:Int).toNat)).drop t3.toNat)).length≤1048576))) (.bk 0 b0 (W (t0.1-1),rawP L ((filterT L (rawP L (rawP L t0.2.1))).2),((t0.2.2.take t3.toNat).drop 0)++([t1]++((t0.2.2.take ((t0.2.2.length:Int).toNat)).drop t3.toNat))) [0,1,2,229]))))))))))))))))))))))))))
(.retH ((⟨L,t0.2.1⟩:Tap),(⟨pickI [0,10,500,998000] (rawV L p),t0.2.2⟩:Mems)) ⟨[(4,.k,.ref 2 0)],[.box (.agg [.sl 1 (L.map AV.int) false,.int ((t0.2.1:Nat):Int)]),.vec 5 (t0.2.2.map Mem.v) (pureBL_map (fun _=>rfl) t0.2.2),.box (.agg [.int (pickI [0,10,500,998000] (rawV L p)),.vec 1])]⟩ [0,3,1])))))))
def memsT_vc(L:(List Int))(p:Nat)(n:Int)(I0:(Int×Nat×(List Mem))→Prop)(m0:(Int×Nat×(List Mem))→Nat)(I1:Int×Nat×(List Mem)→Mem→Prop)(I2:Int×Nat×(List Mem)→Bool→Prop)(I3:Int×Nat×(List Mem)→Mem→Int→Prop)(m3:Int×Nat×(List Mem)→Mem→Int→Nat)(I4:Int×Nat×(List Mem)→Mem→Int→Bool→Prop)(I5:Int×Nat×(List Mem)→Mem→Int→Bool→Bool→Prop)(r0:Tap×Mems):Prop:=(memsT_x L p n I0 m0 I1 I2 I3 m3 I4 I5).vc memsT_e memsT_b r0
theorem memsT_p(L:List Int)(p:Nat)(n:Int)(h:0≤n∧n≤1000)(ok:memsT_a L p n):∃I0 m0 I1 I2 I3 m3 I4 I5,memsT_vc L p n I0 m0 I1 I2 I3 m3 I4 I5 ((⟨L,(memsT L n p).2⟩:Tap),(memsT L n p).1):=by
 have hnow:=pickI_in (l:=[0,10,500,998000]) (a:=0) (b:=998000) (by decide) (by decide) (rawV L p)
 refine ⟨fun t=>∃k:Nat,t.1=k∧k+t.2.2.length≤1000∧memsL L (pickI [0,10,500,998000] (rawV L p)) k t.2.2 t.2.1=((memsT L n p).1.list,(memsT L n p).2),fun t=>t.1.toNat,
  fun s x=>x=(memX L (pickI [0,10,500,998000] (rawV L p)) s.2.1).1,
  fun s b=>b=decide ((filterT L (rawP L (rawP L s.2.1))).1.mode=1∧(filterT L (rawP L (rawP L s.2.1))).1.srcs=[]),
  fun s x t=>∃k:Nat,t=k∧k≤s.2.2.length∧∀j y,j<k→s.2.2[j]?=some y→memLt y x=true,fun s x t=>s.2.2.length-t.toNat,
  fun s x t b=>∀k:Nat,t=k→b=memG s.2.2 x k,fun s x t b c=>∀k:Nat,t=k→c=memE s.2.2 x k,?_⟩
 dsimp only [memsT_vc,memsT_x,memsT_s,Ax.vp,Ax.vc];simp only [vcU,rfU,List.length_map]
 have w0:W (n+1)=n+1:=W_eq (by omega)
 have hm:=Mod_range (x:=rawV L (rawP L p)) (show 1≤n+1 by omega)
 rw [w0]
 refine ⟨by simp,⟨(Mod (rawV L (rawP L p)) (n+1)).toNat,by omega,by simp;omega,rfl⟩,?_⟩
 rintro ⟨c,q,l⟩ ⟨k,rfl,hl,hr⟩
 simp only at hl hr ⊢
 have hp4:=pickI_in (l:=[0,1,30,1000]) (a:=0) (b:=1000) (by decide) (by decide) (rawV L (filterT L (rawP L (rawP L q))).2)
 have w1:W (pickI [0,10,500,998000] (rawV L p)+pickI [0,1,30,1000] (rawV L (filterT L (rawP L (rawP L q))).2))=pickI [0,10,500,998000] (rawV L p)+pickI [0,1,30,1000] (rawV L (filterT L (rawP L (rawP L q))).2):=W_eq (by omega)
 rw [w1]
 generalize hf:filterT L (rawP L (rawP L q))=F at *
 generalize hN:pickI [0,10,500,998000] (rawV L p)=N at *
 have hX:memX L N q=(⟨rng L q 1 8,rng L (rawP L q) 1 4,if F.1.mode=1∧F.1.srcs=[] then 2 else F.1.mode,F.1.srcs,N+pickI [0,1,30,1000] (rawV L F.2)⟩,rawP L F.2):=by rw [memX,hf]
 rw [hX]
 have emp:(((F.1.srcs.length:Int)==0)=true)↔F.1.srcs=[]:=by
  rw [beq_iff_eq,←List.length_eq_zero_iff];omega
 refine ⟨fun c=>⟨by simp,⟨⟨fun c1=>?_,fun c1=>?_⟩,?_⟩,?_⟩,fun c=>?_⟩
 ·have c1:F.1.mode=1:=eq_of_beq c1
  rw [Bool.eq_iff_iff,emp,decide_eq_true_eq];simp [c1]
 ·have c1:¬F.1.mode=1:=by simpa using c1
  simp [c1]
 ·rintro _ rfl
  refine ⟨fun d=>?_,fun d=>?_⟩
  ·rw [if_pos (of_decide_eq_true d)]
  ·rw [if_neg (of_decide_eq_false d)]
 ·intro x hx0
  replace hx0:=hx0.symm
  refine ⟨⟨0,rfl,by omega,fun j y hj=>by omega⟩,?_⟩
  rintro _ ⟨i,rfl,hi,hlt⟩
  simp only [Int.toNat_natCast]
  have one:∀{A:Prop},(∀j:Nat,(i:Int)=j→A)↔A:=fun {A}=>⟨fun h=>h i rfl,fun h _ _=>h⟩
  have cast:∀{f:Nat→Bool} {b:Bool},(∀j:Nat,(i:Int)=j→b=f j)↔b=f i:=fun {f b}=>⟨fun h=>h i rfl,fun h j hj=>by rw [h,show i=j by omega]⟩
  simp only [cast]
  have bd:(i:Int)<l.length→(bif decide ((0:Int)≤i) then decide ((i:Int)<l.length) else false)=true:=fun h=>by
   rw [decide_eq_true (by omega),decide_eq_true h];rfl
  refine ⟨⟨fun d=>⟨bd d,by omega,fun y hy=>⟨fun e=>?_,fun e=>⟨bd d,by omega,fun y2 hy2=>?_⟩⟩⟩,fun d=>?_⟩,?_⟩
  ·simp [memG,hy,memLt,e]
  ·rw [hy] at hy2;cases hy2
   refine ⟨fun e2=>⟨bd d,by omega,fun y3 hy3=>?_⟩,fun e2=>?_⟩
   ·rw [hy] at hy3;cases hy3
    simp [memG,hy,memLt,e,e2]
   ·simp [memG,hy,memLt,e,e2]
  ·rw [memG,List.getElem?_eq_none (by omega)]
  rintro b rfl
  refine ⟨fun d=>?_,fun d=>?_⟩
  ·have hil:i<l.length:=by
    refine Classical.byContradiction fun hh=>?_
    rw [memG,List.getElem?_eq_none (by omega)] at d;simp at d
   rw [W_succ (n:=l.length) (by omega) (by omega)]
   refine ⟨⟨i+1,rfl,by omega,fun j z hj hz=>?_⟩,by omega⟩
   by_cases e':j=i
   ·subst e';rw [memG,hz] at d;exact d
   ·exact hlt j z (by omega) hz
  have hP:memP l x=i:=findIdx_at hlt hi (by
   by_cases hil:i<l.length
   ·refine .inr ⟨l[i],List.getElem?_eq_getElem hil,?_⟩
    rw [memG,List.getElem?_eq_getElem hil] at d;exact d
   ·exact .inl (by omega))
  refine ⟨⟨fun c2=>⟨bd c2,by omega,fun y hy=>⟨fun e=>⟨bd c2,by omega,fun y2 hy2=>?_⟩,fun e=>?_⟩⟩,fun c2=>?_⟩,?_⟩
  ·rw [hy] at hy2;cases hy2
   simp [memE,hy,e]
  ·simp [memE,hy,e]
  ·rw [memE,List.getElem?_eq_none (by omega)]
  rintro b2 rfl
  have hk1:0<k:=by omega
  have wk:W ((k:Int)-1)=((k-1:Nat):Int):=W_pred (by omega) hk1
  rw [wk]
  have step:memsL L N k l q=memsL L N (k-1) (putM l x) (rawP L F.2):=by
   obtain ⟨k',rfl⟩:∃k',k=k'+1:=⟨k-1,by omega⟩
   rw [memsL,hX,hx0];rfl
  have hpl:=putM_len l x
  rw [step] at hr
  refine ⟨fun c2=>?_,fun c2=>?_⟩
  ·have hil:i<l.length:=by
    refine Classical.byContradiction fun hh=>?_
    rw [memE,List.getElem?_eq_none (by omega)] at c2;simp at c2
   have hput:putM l x=l.set i x:=by rw [putM,hP,if_pos c2]
   rw [hput] at hr hpl
   refine ⟨bd (by omega),by omega,fun y hy=>⟨⟨k-1,rfl,by omega,hr⟩,by omega⟩⟩
  ·have hput:putM l x=insAt l i x:=by rw [putM,hP,if_neg (by rw [c2];simp)]
   rw [hput] at hr hpl
   have e1:=insAt_eqG (l:=l) (k:=i) (x:=x)
   rw [Int.toNat_natCast] at e1
   rw [e1]
   exact ⟨by simp [bndB];omega,by simp;omega,by simp [bndB];omega,trivial,by simp,by simp;omega,⟨k-1,rfl,by omega,hr⟩,by omega⟩
 ·have:k=0:=by omega
  subst this
  rw [memsL] at hr
  have h1:l=(memsT L n p).1.list:=congrArg Prod.fst hr
  have h2:q=(memsT L n p).2:=congrArg Prod.snd hr
  rw [←h2]
  have h3:(memsT L n p).1=⟨(memsT L n p).1.now,(memsT L n p).1.list⟩:=rfl
  have h4:(memsT L n p).1.now=N:=hN
  rw [h3,←h1,h4]
def memsT_h(L:(List Int))(p:Nat)(n:Int)(h:0≤n∧n≤1000):HC Tryz.prog:=⟨37,[.k,.k],[.ref 0 0,.int n],[.box (.agg [.sl 1 (L.map AV.int) false,.int ((p:Nat):Int)])],memsT_e ((⟨L,(memsT L n p).2⟩:Tap),(memsT L n p).1),memsT_b ((⟨L,(memsT L n p).2⟩:Tap),(memsT L n p).1),HSpec.of_okh fun ok ok2=>have ok:memsT_a L p n:=⟨ok,ok2 _ (by simp)⟩;(memsT_p L p n h ok).elim fun I0 h=>h.elim fun m0 h=>h.elim fun I1 h=>h.elim fun I2 h=>h.elim fun I3 h=>h.elim fun m3 h=>h.elim fun I4 h=>h.elim fun I5 h=>mxH_of (sh:=.k) (enc:=memsT_e) (hB:=memsT_b) (a:=(memsT_x L p n I0 m0 I1 I2 I3 m3 I4 I5).an) h (by kernel_rfl),fnB_ok (by kernel_rfl),HcOk.of (by simp [hcB,belBL,AV.belB,allB,okBk,okBkO,memsT_e,memsT_b,pureBL_map (v:=AV.int) (fun _=>rfl),pureBL_map (v:=Mem.v) (fun _=>rfl)])⟩
def plnL(L:List Int)(rs:List Rtr):List Int→Int→List Edg→Nat→List Edg×Nat
 | [],_,out,p=>(out,p)
 | k::ks,id,out,p=>if Mod (rawV L p) 4=0 then plnL L rs ks id out (rawP L p)
  else plnL L rs ks (id+pickI [1,1,1,2,7,9] (rawV L (rawP L p))) (out++[⟨(rs.getD k.toNat ⟨0,false⟩).id,id+pickI [1,1,1,2,7,9] (rawV L (rawP L p))⟩]) (rawP L (rawP L p))
def plnR(L:List Int)(p:Nat)(a:Tpl):List Edg×Nat:=plnL L a.rs (ordT L a.rs.length (rawP L p)).1 0 [] (ordT L a.rs.length (rawP L p)).2
def plnT(L:List Int)(p:Nat)(a:Tpl):Pln×Nat:=
 if 0<(plnR L p a).1.length then (⟨Mod (rawV L p) 3,pickI [8,8,16,32,64] (rawV L (plnR L p a).2),(plnR L p a).1⟩,rawP L (plnR L p a).2)
 else (⟨Mod (rawV L p) 3,0,(plnR L p a).1⟩,(plnR L p a).2)
def plnT_a(L:(List Int))(p:Nat)(a1:Tpl):Prop:=okL [.ref 0 0,.agg [.sl 2 (a1.rs.map Rtr.v) false,.sl 5 (a1.ls.map Lnk.v) false]]∧(.box (.agg [.sl 1 (L.map AV.int) false,.int ((p:Nat):Int)]):Blk).ok
abbrev plnT_v0(L:(List Int))(p:Nat)(a1:Tpl):=(ordT L ((a1.rs.map Rtr.v).length:Int) (rawP L p))
def plnT_n0(L:(List Int))(p:Nat)(a1:Tpl)(t0:Int×Nat×Int×(List Edg)):NF:=⟨[(0,.k,.ref 0 0),(3,.k,.ref 1 0),(4,.k,.ref 2 0),(5,.k,.ref 3 0),(6,.k,.int t0.2.2.1),(16,.k,.sl 1 (((plnT_v0 L p a1).1).map AV.int) false),(17,.k,.int ((((plnT_v0 L p a1).1).map AV.int).length:Int)),(18,.k,.int t0.1)],[.box (.agg [.sl 1 (L.map AV.int) false,.int ((t0.2.1:Nat):Int)]),.box (.agg [.sl 2 (a1.rs.map Rtr.v) false,.sl 5 (a1.ls.map Lnk.v) false]),.box (.agg [.int 0,.int 0,.sl 0 [] true]),.box (.agg [.int (Mod (rawV L p) 3),.int 0,.vec 4]),.vec 2 (t0.2.2.2.map Edg.v) (pureBL_map (fun _=>rfl) t0.2.2.2)]⟩
@[reducible] def plnT_s:Nat→Type
 | 0=>Int×Nat×Int×(List Edg)
 | _=>Unit
def plnT_e(r:Tap×Pln):AV:=.agg [.int r.2.sub,.int r.2.len,.sl 2 (r.2.es.map Edg.v) false]
def plnT_b(r:Tap×Pln):List (Option Blk):=[some (.box (.agg [.sl 1 (r.1.L.map AV.int) false,.int ((r.1.p:Nat):Int)]))]
def plnT_x(L:(List Int))(p:Nat)(a1:Tpl)(I0:(Int×Nat×Int×(List Edg))→Prop)(m0:(Int×Nat×Int×(List Edg))→Nat):Ax Tryz.prog plnT_s (Tap×Pln):=
 (.callH [0] (N_h L p 3) 49
(.req 193 (((a1.rs.map Rtr.v).length:Int)≤1000) fun h1 =>
(.callH [0] (ordT_h L (rawP L p) ((a1.rs.map Rtr.v).length:Int) h1) 193
(.cmdL (.nilB 81 2 2) (.loop 0 (plnT_n0 L p a1) I0 m0 (0,(plnT_v0 L p a1).2,0,[]) [0,1,17,81,241] fun (t0:Int×Nat×Int×(List Edg)) b0 =>
(.br 21 (decide (t0.1<((((plnT_v0 L p a1).1).map AV.int).length:Int))) (.el 21 AV.int ((plnT_v0 L p a1).1) (fun R=>Rf (((plnT_v0 L p a1).1).map AV.int) (ck (decide (0≤t0.1)) (ck (decide (t0.1<(((plnT_v0 L p a1).1).length:Int)))
(∀x2,((plnT_v0 L p a1).1)[t0.1.toNat]?=some x2 →
(R x2))))) fun x2 =>
(.callH [0] (N_h L t0.2.1 4) 85
(.br 117 ((Mod (rawV L t0.2.1) 4)==0) (.bk 0 b0 (W (t0.1+1),rawP L t0.2.1,t0.2.2.1,t0.2.2.2) [0,1,2,3,4])
(.req 165 ([1,1,1,2,7,9]≠[]) fun h3 =>
(.callH [0] (Pick_h L (rawP L t0.2.1) [1,1,1,2,7,9] h3) 165
(.el 293 Rtr.v a1.rs (fun R=>Rf (a1.rs.map Rtr.v) (ck (decide (0≤x2)) (ck (decide (x2<(a1.rs.length:Int)))
(∀x4,a1.rs[x2.toNat]?=some x4 →
(R x4))))) fun x4 =>
(.say (fun R=>Rf (α:=List AV) (t0.2.2.2.map Edg.v) (Rf (α:=List AV) [.agg [.int x4.id,.int (W (t0.2.2.1+(pickI [1,1,1,2,7,9] (rawV L (rawP L t0.2.1)))))]]
(ck (decide (t0.2.2.2.length+1≤1048576))
R))) (.app 389 Edg.v t0.2.2.2 [(⟨x4.id,W (t0.2.2.1+(pickI [1,1,1,2,7,9] (rawV L (rawP L t0.2.1))))⟩:Edg)]
(.bk 0 b0 (W (t0.1+1),rawP L (rawP L t0.2.1),W (t0.2.2.1+(pickI [1,1,1,2,7,9] (rawV L (rawP L t0.2.1)))),t0.2.2.2++[(⟨x4.id,W (t0.2.2.1+(pickI [1,1,1,2,7,9] (rawV L (rawP L t0.2.1))))⟩:Edg)]) [0,1,2,3,389])))))))))
(.br 85 (decide (0<((t0.2.2.2.map Edg.v).length:Int))) (.req 117 ([8,8,16,32,64]≠[]) fun h5 =>
(.callH [0] (Pick_h L t0.2.1 [8,8,16,32,64] h5) 117
(.say (Rf (t0.2.2.2.map Edg.v)) (.cmdL (.frzE 4 (t0.2.2.2.map Edg.v) (pureBL_map (fun _=>rfl) t0.2.2.2)) (.retH ((⟨L,rawP L t0.2.1⟩:Tap),(⟨Mod (rawV L p) 3,pickI [8,8,16,32,64] (rawV L t0.2.1),t0.2.2.2⟩:Pln)) ⟨[(4,.k,.ref 1 0)],[.box (.agg [.sl 1 (L.map AV.int) false,.int (((rawP L t0.2.1):Nat):Int)]),.box (.agg [.int (Mod (rawV L p) 3),.int (pickI [8,8,16,32,64] (rawV L t0.2.1)),.sl 2 (t0.2.2.2.map Edg.v) false])]⟩ [0,2])))))
(.say (Rf (t0.2.2.2.map Edg.v)) (.cmdL (.frzE 4 (t0.2.2.2.map Edg.v) (pureBL_map (fun _=>rfl) t0.2.2.2)) (.retH ((⟨L,t0.2.1⟩:Tap),(⟨Mod (rawV L p) 3,0,t0.2.2.2⟩:Pln)) ⟨[(4,.k,.ref 1 0)],[.box (.agg [.sl 1 (L.map AV.int) false,.int ((t0.2.1:Nat):Int)]),.box (.agg [.int (Mod (rawV L p) 3),.int 0,.sl 2 (t0.2.2.2.map Edg.v) false])]⟩ [0,2]))))))))))
def plnT_vc(L:(List Int))(p:Nat)(a1:Tpl)(I0:(Int×Nat×Int×(List Edg))→Prop)(m0:(Int×Nat×Int×(List Edg))→Nat)(r0:Tap×Pln):Prop:=(plnT_x L p a1 I0 m0).vc plnT_e plnT_b r0
theorem plnT_p(L:List Int)(p:Nat)(a:Tpl)(h:a.rs.length≤1000)(ok:plnT_a L p a):∃I m,plnT_vc L p a I m ((⟨L,(plnT L p a).2⟩:Tap),(plnT L p a).1):=by
 refine ⟨fun t=>∃k:Nat,t.1=k∧k≤a.rs.length∧t.2.2.2.length≤k∧(0≤t.2.2.1∧t.2.2.1≤9 * k)∧plnL L a.rs ((ordT L a.rs.length (rawP L p)).1.drop k) t.2.2.1 t.2.2.2 t.2.1=plnR L p a,
  fun t=>a.rs.length-t.1.toNat,?_⟩
 dsimp only [plnT_vc,plnT_x,plnT_s,plnT_v0,Ax.vp,Ax.vc];simp only [vcU,rfU,List.length_map]
 have ho:(ordT L (a.rs.length:Int) (rawP L p)).1.length=a.rs.length:=by rw [ordT_len];simp
 have hb:=(ordT_facts (L:=L) (n:=(a.rs.length:Int)) (p:=rawP L p) (by omega)).2
 refine ⟨by omega,⟨0,rfl,by omega,by simp,by omega,rfl⟩,?_⟩
 rintro ⟨i,q,id,es⟩ ⟨k,hi,hk,hl,hid,hr⟩
 simp only at hi hl hid hr ⊢
 subst hi
 simp only [Int.toNat_natCast]
 refine ⟨fun c=>⟨by omega,by omega,fun x hx=>?_⟩,fun c=>?_⟩
 ·have hk':k<a.rs.length:=by omega
  have hd:=List.drop_eq_getElem_cons (show k<(ordT L (a.rs.length:Int) (rawP L p)).1.length by omega)
  have hxe:(ordT L (a.rs.length:Int) (rawP L p)).1[k]=x:=by rw [List.getElem?_eq_getElem (by omega)] at hx;exact Option.some.inj hx
  rw [hd,hxe,plnL] at hr
  have hxb:=hb x (mem_of_get hx)
  have hp6:=pickI_in (l:=[1,1,1,2,7,9]) (a:=1) (b:=9) (by decide) (by decide) (rawV L (rawP L q))
  rw [W_succ (n:=a.rs.length) (by omega) (by omega)]
  refine ⟨fun c1=>⟨⟨k+1,rfl,by omega,by omega,by omega,?_⟩,by omega⟩,fun c1=>⟨by simp,by omega,by omega,fun y hy=>?_⟩⟩
  ·rw [if_pos (eq_of_beq c1)] at hr;exact hr
  ·rw [if_neg (by simpa using c1)] at hr
   have w1:W (id+pickI [1,1,1,2,7,9] (rawV L (rawP L q)))=id+pickI [1,1,1,2,7,9] (rawV L (rawP L q)):=W_eq (by omega)
   rw [w1]
   refine ⟨by omega,⟨k+1,rfl,by omega,by simp;omega,by omega,?_⟩,by omega⟩
   rw [List.getD_eq_getElem?_getD,hy] at hr;exact hr
 ·have:k=a.rs.length:=by omega
  subst this
  rw [List.drop_of_length_le (by omega),plnL] at hr
  rw [plnT,←hr]
  refine ⟨fun c2=>⟨by simp,?_⟩,fun c2=>?_⟩
  ·rw [if_pos (show 0<es.length by omega)]
  ·rw [if_neg (show ¬0<es.length by omega)]
def plnT_h(L:(List Int))(p:Nat)(a1:Tpl)(h:a1.rs.length≤1000):HC Tryz.prog:=⟨35,[.k,(.a [(.s 2),(.s 5)])],[.ref 0 0,.agg [.sl 2 (a1.rs.map Rtr.v) false,.sl 5 (a1.ls.map Lnk.v) false]],[.box (.agg [.sl 1 (L.map AV.int) false,.int ((p:Nat):Int)])],plnT_e ((⟨L,(plnT L p a1).2⟩:Tap),(plnT L p a1).1),plnT_b ((⟨L,(plnT L p a1).2⟩:Tap),(plnT L p a1).1),HSpec.of_okh fun ok ok2=>have ok:plnT_a L p a1:=⟨ok,ok2 _ (by simp)⟩;(plnT_p L p a1 h ok).elim fun I0 h=>h.elim fun m0 h=>mxH_of (sh:=(.a [.k,.k,(.s 2)])) (enc:=plnT_e) (hB:=plnT_b) (a:=(plnT_x L p a1 I0 m0).an) h (by kernel_rfl),fnB_ok (by kernel_rfl),HcOk.of (by simp [hcB,belBL,AV.belB,allB,okBk,okBkO,plnT_e,plnT_b,pureBL_map (v:=AV.int) (fun _=>rfl),pureBL_map (v:=Lnk.v) (fun _=>rfl),pureBL_map (v:=Rtr.v) (fun _=>rfl)])⟩
section
variable {α : Type} {l : List α} {P : α → Prop} {R : α → α → Prop} {t : Int} {x y : α}
theorem range2{i n:Int}(h1:0≤i)(h2:i<n):(bif decide (0≤i) then decide (i<n) else false)=true:=by
 rw [decide_eq_true h1,decide_eq_true h2];rfl
def ForI(l:List α)(P:α→Prop)(t:Int):Prop:=∃k:Nat,t=k∧k≤l.length∧∀x∈l.take k,P x
theorem ForI.zero:ForI l P 0:=⟨0,rfl,by omega,by simp⟩
theorem ForI.idx(h:ForI l P t):0≤t:=by obtain ⟨k,rfl,_,_⟩:=h;omega
theorem ForI.step(h:ForI l P t)(hl:l.length≤9223372036854775807)(hx:l[t.toNat]?=some x)(p:P x):ForI l P (W (t+1))∧l.length-(W (t+1)).toNat<l.length-t.toNat:=by
 obtain ⟨k,rfl,hk,ha⟩:=h
 rw [Int.toNat_natCast] at hx
 have:=lt_of_get hx
 rw [W_succ (n:=l.length) this hl]
 refine ⟨⟨k+1,rfl,by omega,fun z hz=>?_⟩,by omega⟩
 rw [take_succ hx] at hz
 rcases List.mem_append.mp hz with hz|hz
 ·exact ha z hz
 ·rw [List.mem_singleton] at hz;exact hz ▸ p
theorem ForI.done(h:ForI l P t)(c:¬t<l.length):∀x∈l,P x:=by
 obtain ⟨k,rfl,hk,ha⟩:=h
 rw [List.take_of_length_le (by omega)] at ha
 exact ha
theorem at_mem(hx:l[t.toNat]?=some x):x∈l:=mem_of_get hx
def ForA(l:List α)(R:α→α→Prop)(t:Int):Prop:=∃k:Nat,t=k∧1≤k∧k≤l.length+1∧∀j x y,j+1<k→l[j]?=some x→l[j+1]?=some y→R x y
theorem ForA.one:ForA l R 1:=⟨1,rfl,by omega,by omega,fun j x y h=>by omega⟩
theorem ForA.idx(h:ForA l R t)(hl:l.length≤9223372036854775807)(c:t<l.length):(0≤W (t-1)∧W (t-1)<l.length)∧0≤t:=by
 obtain ⟨k,rfl,h1,hk,ha⟩:=h
 rw [W_pred (by omega) h1]
 omega
theorem ForA.step(h:ForA l R t)(hl:l.length≤9223372036854775806)(hx:l[(W (t-1)).toNat]?=some x)(hy:l[t.toNat]?=some y)(p:R x y):ForA l R (W (t+1))∧l.length+1-(W (t+1)).toNat<l.length+1-t.toNat:=by
 obtain ⟨k,rfl,h1,hk,ha⟩:=h
 rw [Int.toNat_natCast] at hy
 have hlt:=lt_of_get hy
 rw [W_pred (by omega) h1,Int.toNat_natCast] at hx
 rw [W_succ (n:=l.length) hlt (by omega)]
 refine ⟨⟨k+1,rfl,by omega,by omega,fun j x' y' hj hx' hy'=>?_⟩,by omega⟩
 by_cases e:j+1=k
 ·subst e
  rw [show j+1-1=j by omega,hx'] at hx;cases hx
  rw [hy'] at hy;cases hy;exact p
 ·exact ha j x' y' (by omega) hx' hy'
theorem ForA.bad(h:ForA l R t)(hl:l.length≤9223372036854775806)(hx:l[(W (t-1)).toNat]?=some x)(hy:l[t.toNat]?=some y){S:α→α→Prop}(p:¬S x y):¬l.Pairwise S:=by
 obtain ⟨k,rfl,h1,hk,ha⟩:=h
 rw [Int.toNat_natCast] at hy
 have hlt:=lt_of_get hy
 rw [W_pred (by omega) h1,Int.toNat_natCast] at hx
 intro hp
 rw [List.pairwise_iff_getElem] at hp
 have:=hp (k-1) k (by omega) hlt (by omega)
 rw [List.getElem?_eq_getElem (by omega)] at hx hy
 rw [Option.some.inj hx,Option.some.inj hy] at this
 exact p this
theorem ForA.done(h:ForA l R t)(c:¬t<l.length)(tr:∀x y z,R x y→R y z→R x z):l.Pairwise R:=by
 obtain ⟨k,rfl,h1,hk,ha⟩:=h
 rw [List.pairwise_iff_getElem]
 have key:∀d i,(hi:i+d+1<l.length)→R (l[i]'(by omega)) l[i+d+1]:=by
  intro d
  induction d with
  | zero=>intro i hi;exact ha i _ _ (by omega) (List.getElem?_eq_getElem (by omega)) (List.getElem?_eq_getElem hi)
  | succ d ih =>
   intro i hi
   exact tr _ _ _ (ih i (by omega)) (ha (i+d+1) _ _ (by omega) (List.getElem?_eq_getElem (by omega)) (List.getElem?_eq_getElem hi))
 intro i j hi hj hij
 have:=key (j-i-1) i (by omega)
 simp only [show i+(j-i-1)+1=j by omega] at this
 exact this
def ForG{σ:Type}(l:List α)(g:σ→α→σ)(s0:σ)(t:Int)(s:σ):Prop:=∃k:Nat,t=k∧k≤l.length∧s=(l.take k).foldl g s0
section
variable {σ : Type} {g : σ → α → σ} {s0 s : σ}
theorem ForG.zero:ForG l g s0 0 s0:=⟨0,rfl,by omega,rfl⟩
theorem ForG.idx(h:ForG l g s0 t s):0≤t:=by obtain ⟨k,rfl,_,_⟩:=h;omega
theorem ForG.step(h:ForG l g s0 t s)(hl:l.length≤9223372036854775807)(hx:l[t.toNat]?=some x){s':σ}(p:s'=g s x):ForG l g s0 (W (t+1)) s'∧l.length-(W (t+1)).toNat<l.length-t.toNat:=by
 obtain ⟨k,rfl,hk,rfl⟩:=h
 rw [Int.toNat_natCast] at hx
 have:=lt_of_get hx
 rw [W_succ (n:=l.length) this hl]
 exact ⟨⟨k+1,rfl,by omega,by rw [take_succ hx,List.foldl_append,p];rfl⟩,by omega⟩
theorem ForG.len(h:ForG l g s0 t s){f:σ→Nat}{a b:Nat}(h0:f s0≤a)(hs:∀s x,x∈l→f (g s x)≤f s+b):f s≤a+b * t.toNat:=by
 obtain ⟨k,rfl,hk,rfl⟩:=h
 rw [Int.toNat_natCast]
 induction k with
 | zero=>simpa using h0
 | succ k ih =>
  rw [take_succ (List.getElem?_eq_getElem (show k<l.length by omega)),List.foldl_append,List.foldl_cons,List.foldl_nil,Nat.mul_succ]
  have:=hs ((l.take k).foldl g s0) l[k] (List.getElem_mem _)
  have:=ih (by omega)
  omega
theorem ForG.done(h:ForG l g s0 t s)(c:¬t<l.length):s=l.foldl g s0:=by
 obtain ⟨k,rfl,hk,rfl⟩:=h
 rw [List.take_of_length_le (by omega)]
end
def ForX{β:Type}(l:List α)(f:α→List β)(t:Int)(out:List β):Prop:=∃k:Nat,t=k∧k≤l.length∧out=(l.take k).flatMap f
section
variable {β : Type} {f : α → List β} {out : List β}
theorem ForX.zero:ForX l f 0 []:=⟨0,rfl,by omega,rfl⟩
theorem ForX.idx(h:ForX l f t out):0≤t:=by obtain ⟨k,rfl,_,_⟩:=h;omega
theorem ForX.step(h:ForX l f t out)(hl:l.length≤9223372036854775807)(hx:l[t.toNat]?=some x){out':List β}(p:out'=out++f x):ForX l f (W (t+1)) out'∧l.length-(W (t+1)).toNat<l.length-t.toNat:=by
 obtain ⟨k,rfl,hk,rfl⟩:=h
 rw [Int.toNat_natCast] at hx
 have:=lt_of_get hx
 rw [W_succ (n:=l.length) this hl]
 exact ⟨⟨k+1,rfl,by omega,by rw [take_succ hx,List.flatMap_append,p];simp⟩,by omega⟩
theorem ForX.done(h:ForX l f t out)(c:¬t<l.length):out=l.flatMap f:=by
 obtain ⟨k,rfl,hk,rfl⟩:=h
 rw [List.take_of_length_le (by omega)]
theorem ForX.len(h:ForX l f t out){b:Nat}(hb:∀x∈l,(f x).length≤b):out.length≤l.length * b:=by
 obtain ⟨k,rfl,hk,rfl⟩:=h
 have key:∀m:List α,(∀x∈m,(f x).length≤b)→(m.flatMap f).length≤m.length * b:=by
  intro m
  induction m with
  | nil=>intro _;simp
  | cons x m ih =>
   intro hm
   have h1:=hm x (by simp)
   have h2:=ih fun y hy=>hm y (by simp [hy])
   rw [List.flatMap_cons,List.length_append,List.length_cons,Nat.succ_mul];omega
 refine Nat.le_trans (key _ fun x hx=>hb x (List.mem_of_mem_take hx)) (Nat.mul_le_mul_right _ ?_)
 rw [List.length_take];omega
end
theorem flatMap_one{β:Type}{f:α→β}{l:List α}:(l.flatMap fun x=>[f x])=l.map f:=by
 induction l with
 | nil=>rfl
 | cons x l ih=>rw [List.flatMap_cons,ih];rfl
def idxF(p:α→Bool)(l:List α):Int:=if l.any p=true then ((l.findIdx p:Nat):Int) else -1
theorem ForI.found{p:α→Bool}(h:ForI l (fun y=>p y=false) t)(hx:l[t.toNat]?=some x)(hp:p x=true):t=idxF p l:=by
 obtain ⟨k,rfl,hk,ha⟩:=h
 rw [Int.toNat_natCast] at hx
 rw [idxF,if_pos (List.any_eq_true.mpr ⟨x,mem_of_get hx,hp⟩)]
 have:l.findIdx p=k:=by
  have hlt:=lt_of_get hx
  rw [List.getElem?_eq_getElem hlt] at hx
  have hx:=Option.some.inj hx
  rw [List.findIdx_eq hlt]
  refine ⟨by rw [hx];exact hp,fun j hj=>?_⟩
  exact ha _ (List.mem_take_iff_getElem.mpr ⟨j,by omega,rfl⟩)
 rw [this]
theorem ForI.lost{p:α→Bool}(h:ForI l (fun y=>p y=false) t)(c:¬t<l.length):-1=idxF p l:=by
 rw [idxF,if_neg]
 rw [List.any_eq_true]
 rintro ⟨x,hx,hp⟩
 rw [h.done c x hx] at hp;cases hp
theorem idxF_any(p:α→Bool)(l:List α):decide (0≤idxF p l)=l.any p:=by
 unfold idxF
 cases l.any p
 ·rfl
 ·rw [if_pos rfl];exact decide_eq_true (by omega)
theorem orI_first{f:α→Int}(h:ForI l (fun x=>f x=0) t)(hx:l[t.toNat]?=some x)(hn:f x≠0):orI (l.map f)=f x:=by
 obtain ⟨k,rfl,hk,ha⟩:=h
 rw [Int.toNat_natCast] at hx
 rw [orI,find_take (k:=k) (x:=f x) ?_ (by rw [List.getElem?_map,hx];rfl) hn]
 ·rfl
 ·rw [←List.map_take,List.all_eq_true]
  intro z hz
  obtain ⟨w,hw,rfl⟩:=List.mem_map.mp hz
  simp [ha w hw]
theorem orI_zero{f:α→Int}(h:∀x∈l,f x=0):orI (l.map f)=0:=by
 rw [orI,List.find?_eq_none.mpr]
 ·rfl
 ·intro z hz
  obtain ⟨w,hw,rfl⟩:=List.mem_map.mp hz
  simp [h w hw]
end
def within(n lo hi:Int):Bool:=decide (lo≤n∧n≤hi)
def codeE(v:Bool):Int:=if v then 0 else 1
def within_a(n:Int)(lo:Int)(hi:Int):Prop:=okL [.int n,.int lo,.int hi]
def within_e(r:Bool):AV:=.bool r
def within_x(n:Int)(lo:Int)(hi:Int):Ax Tryz.prog noS (Bool):=
 (.br 80 (decide (lo≤n)) (.ret (decide (n≤hi)))
(.ret (false)))
def within_vc(n:Int)(lo:Int)(hi:Int)(r0:Bool):Prop:=(within_x n lo hi).vp within_e r0
theorem within_p(n lo hi:Int)(ok:within_a n lo hi):within_vc n lo hi (within n lo hi):=by
 dsimp only [within_vc,within_x,noS,Ax.vp,Ax.vc];simp only [vcU,rfU,List.length_map]
 refine ⟨fun h=>by simp [within,h],fun h=>by simp [within,h]⟩
def within_c(n:Int)(lo:Int)(hi:Int):PC Tryz.prog:=⟨158,[.k,.k,.k],[.int n,.int lo,.int hi],within_e (within n lo hi),PSpec.of_ok fun ok=>mxP_of (sh:=.k) (enc:=within_e) (a:=(within_x n lo hi).an) (within_p n lo hi ok) (by kernel_rfl) (AV.pureB_ok rfl),fnB_ok (by kernel_rfl)⟩
def codeE_a(valid:Bool):Prop:=okL [.bool valid]
def codeE_e(r:Int):AV:=.int r
def codeE_x(valid:Bool):Ax Tryz.prog noS (Int):=
 (.br 32 valid (.ret (0))
(.ret (1)))
def codeE_vc(valid:Bool)(r0:Int):Prop:=(codeE_x valid).vp codeE_e r0
theorem codeE_p(v:Bool)(ok:codeE_a v):codeE_vc v (codeE v):=by
 dsimp only [codeE_vc,codeE_x,noS,Ax.vp,Ax.vc];simp only [vcU,rfU,List.length_map]
 cases v<;>simp [codeE]
def codeE_c(valid:Bool):PC Tryz.prog:=⟨159,[.k],[.bool valid],codeE_e (codeE valid),PSpec.of_ok fun ok=>mxP_of (sh:=.k) (enc:=codeE_e) (a:=(codeE_x valid).an) (codeE_p valid ok) (by kernel_rfl) (AV.pureB_ok rfl),fnB_ok (by kernel_rfl)⟩
def keyI(x:Itm):Int:=x.ver
def keyP(x:Per):Int:=x.router
def keyH(x:Hrd):Int:=x.router
def keyI_a(x:Itm):Prop:=okL [.agg [.int x.ver,.int x.grp,.int x.mode,.sl 1 (x.srcs.map AV.int) false]]
def keyI_e(r:Int):AV:=.int r
def keyI_x(x:Itm):Ax Tryz.prog noS (Int):=
 (.ret (x.ver))
def keyI_vc(x:Itm)(r0:Int):Prop:=(keyI_x x).vp keyI_e r0
theorem keyI_p(x:Itm)(ok:keyI_a x):keyI_vc x (keyI x):=by
 dsimp only [keyI_vc,keyI_x,noS,Ax.vp,Ax.vc];simp only [vcU,rfU,List.length_map]
 rfl
def keyI_c(x:Itm):PC Tryz.prog:=⟨169,[(.a [.k,.k,.k,(.s 1)])],[.agg [.int x.ver,.int x.grp,.int x.mode,.sl 1 (x.srcs.map AV.int) false]],keyI_e (keyI x),PSpec.of_ok fun ok=>mxP_of (sh:=.k) (enc:=keyI_e) (a:=(keyI_x x).an) (keyI_p x ok) (by kernel_rfl) (AV.pureB_ok rfl),fnB_ok (by kernel_rfl)⟩
def keyP_a(p:Per):Prop:=okL [.agg [.int p.router,.int p.epoch,.int p.acked]]
def keyP_e(r:Int):AV:=.int r
def keyP_x(p:Per):Ax Tryz.prog noS (Int):=
 (.ret (p.router))
def keyP_vc(p:Per)(r0:Int):Prop:=(keyP_x p).vp keyP_e r0
theorem keyP_p(x:Per)(ok:keyP_a x):keyP_vc x (keyP x):=by
 dsimp only [keyP_vc,keyP_x,noS,Ax.vp,Ax.vc];simp only [vcU,rfU,List.length_map]
 rfl
def keyP_c(p:Per):PC Tryz.prog:=⟨161,[.k],[.agg [.int p.router,.int p.epoch,.int p.acked]],keyP_e (keyP p),PSpec.of_ok fun ok=>mxP_of (sh:=.k) (enc:=keyP_e) (a:=(keyP_x p).an) (keyP_p p ok) (by kernel_rfl) (AV.pureB_ok rfl),fnB_ok (by kernel_rfl)⟩
def keyH_a(h_:Hrd):Prop:=okL [.agg [.int h_.router,.int h_.epoch,.int h_.ver,.sl 4 (h_.items.map Itm.v) false]]
def keyH_e(r:Int):AV:=.int r
def keyH_x(h_:Hrd):Ax Tryz.prog noS (Int):=
 (.ret (h_.router))
def keyH_vc(h_:Hrd)(r0:Int):Prop:=(keyH_x h_).vp keyH_e r0
theorem keyH_p(x:Hrd)(ok:keyH_a x):keyH_vc x (keyH x):=by
 dsimp only [keyH_vc,keyH_x,noS,Ax.vp,Ax.vc];simp only [vcU,rfU,List.length_map]
 rfl
def keyH_c(h_:Hrd):PC Tryz.prog:=⟨163,[(.a [.k,.k,.k,(.s 4)])],[.agg [.int h_.router,.int h_.epoch,.int h_.ver,.sl 4 (h_.items.map Itm.v) false]],keyH_e (keyH h_),PSpec.of_ok fun ok=>mxP_of (sh:=.k) (enc:=keyH_e) (a:=(keyH_x h_).an) (keyH_p h_ ok) (by kernel_rfl) (AV.pureB_ok rfl),fnB_ok (by kernel_rfl)⟩
def ascB{α:Type}(key:α→Int)(l:List α):Bool:=decide (l.Pairwise fun x y=>key x<key y)
theorem pw_adj{α:Type}{key:α→Int}{l:List α}(h:∀j x y,l[j]?=some x→l[j+1]?=some y→key x<key y):l.Pairwise fun x y=>key x<key y:=by
 have step:∀d i x y,l[i]?=some x→l[i+1+d]?=some y→key x<key y:=by
  intro d
  induction d with
  | zero=>exact h
  | succ d ih =>
   intro i x y hx hy
   have hz:=List.getElem?_eq_getElem (show i+1+d<l.length by have:=lt_of_get hy;omega)
   have h1:=ih i x _ hx hz
   have h2:=h (i+1+d) _ y hz hy
   omega
 rw [List.pairwise_iff_getElem]
 intro i j hi hj hij
 exact step (j-i-1) i _ _ (List.getElem?_eq_getElem hi) (by rw [show i+1+(j-i-1)=j by omega];exact List.getElem?_eq_getElem hj)
theorem pw_get{α:Type}{R:α→α→Prop}{l:List α}(h:l.Pairwise R){i j:Nat}{x y:α}(hij:i<j)(hx:l[i]?=some x)(hy:l[j]?=some y):R x y:=by
 have hi:=lt_of_get hx
 have hj:=lt_of_get hy
 have:=List.pairwise_iff_getElem.mp h i j hi hj hij
 rw [List.getElem?_eq_getElem hi] at hx;rw [List.getElem?_eq_getElem hj] at hy
 rw [←Option.some.inj hx,←Option.some.inj hy];exact this
def ascI_a(l:(List Itm)):Prop:=okL [.sl 4 (l.map Itm.v) false,.func 169 []]
def ascI_n0(l:(List Itm))(t0:Int):NF:=⟨[(0,.k,.sl 4 (l.map Itm.v) false),(1,.k,.func 169 []),(5,.k,.int t0)],[]⟩
@[reducible] def ascI_s:Nat→Type
 | 0=>Int
 | _=>Unit
def ascI_e(r:Bool):AV:=.bool r
def ascI_x(l:(List Itm))(I0:Int→Prop)(m0:Int→Nat):Ax Tryz.prog ascI_s (Bool):=
 (.loop 0 (ascI_n0 l) I0 m0 ((1):Int) [] fun (t0:Int) b0 =>
(.br 64 (decide (t0<((l.map Itm.v).length:Int))) (.el 128 Itm.v l (fun R=>Rf (l.map Itm.v) (ck (decide (0≤(W (t0-1)))) (ck (decide ((W (t0-1))<(l.length:Int)))
(∀x1,l[(W (t0-1)).toNat]?=some x1 →
(R x1))))) fun x1 =>
(.callP (keyI_c x1)
(.el 224 Itm.v l (fun R=>Rf (l.map Itm.v) (ck (decide (0≤t0)) (ck (decide (t0<(l.length:Int)))
(∀x2,l[t0.toNat]?=some x2 →
(R x2))))) fun x2 =>
(.callP (keyI_c x2)
(.br 288 (decide (x2.ver≤x1.ver)) (.ret (false))
(.bk 0 b0 ((W (t0+1)):Int) []))))))
(.ret (true))))
def ascI_vc(l:(List Itm))(I0:Int→Prop)(m0:Int→Nat)(r0:Bool):Prop:=(ascI_x l I0 m0).vp ascI_e r0
theorem ascI_p(l:List Itm)(ok:ascI_a l):∃I m,ascI_vc l I m (ascB Itm.ver l):=by
 simp only [ascI_a,okU,Blk.ok,plainV,List.length_map] at ok
 refine ⟨fun t=>∃k:Nat,t=k∧1≤k∧k≤l.length+1∧∀j x y,j+1<k→l[j]?=some x→l[j+1]?=some y→Itm.ver x<Itm.ver y,fun t=>l.length+1-t.toNat,?_⟩
 dsimp only [ascI_vc,ascI_x,ascI_s,Ax.vp,Ax.vc];simp only [vcU,rfU,List.length_map]
 refine ⟨⟨1,rfl,by omega,by omega,fun j x y hj=>by omega⟩,?_⟩
 rintro _ ⟨k,rfl,hk1,hk,h⟩
 refine ⟨fun h1=>?_,fun h1=>?_⟩
 ·rw [W_pred (by omega) hk1]
  simp only [Int.toNat_natCast]
  refine ⟨by omega,by omega,fun x hx=>⟨by omega,by omega,fun y hy=>⟨fun e=>?_,fun e=>?_⟩⟩⟩
  ·refine (decide_eq_false fun hp=>?_).symm
   have:Itm.ver x<Itm.ver y:=pw_get hp (show k-1<k by omega) hx hy
   omega
  ·rw [W_succ (n:=l.length) (by omega) (by omega)]
   refine ⟨⟨k+1,rfl,by omega,by omega,fun j x' y' hj hx' hy'=>?_⟩,by omega⟩
   by_cases e':j+1=k
   ·subst e'
    rw [show j+1-1=j by omega,hx'] at hx;cases hx
    rw [hy'] at hy;cases hy;omega
   ·exact h j x' y' (by omega) hx' hy'
 ·exact (decide_eq_true (pw_adj fun j x y hx hy=>h j x y (by have:=lt_of_get hy;omega) hx hy)).symm
def ascI_c(l:(List Itm)):PC Tryz.prog:=⟨168,[(.s 4),.k],[.sl 4 (l.map Itm.v) false,.func 169 []],ascI_e (ascB Itm.ver l),PSpec.of_ok fun ok=>(ascI_p l ok).elim fun I0 h=>h.elim fun m0 h=>mxP_of (sh:=.k) (enc:=ascI_e) (a:=(ascI_x l I0 m0).an) h (by kernel_rfl) (AV.pureB_ok rfl),fnB_ok (by kernel_rfl)⟩
def ascP_a(l:(List Per)):Prop:=okL [.sl 3 (l.map Per.v) false,.func 161 []]
def ascP_n0(l:(List Per))(t0:Int):NF:=⟨[(0,.k,.sl 3 (l.map Per.v) false),(1,.k,.func 161 []),(5,.k,.int t0)],[]⟩
@[reducible] def ascP_s:Nat→Type
 | 0=>Int
 | _=>Unit
def ascP_e(r:Bool):AV:=.bool r
def ascP_x(l:(List Per))(I0:Int→Prop)(m0:Int→Nat):Ax Tryz.prog ascP_s (Bool):=
 (.loop 0 (ascP_n0 l) I0 m0 ((1):Int) [] fun (t0:Int) b0 =>
(.br 64 (decide (t0<((l.map Per.v).length:Int))) (.el 128 Per.v l (fun R=>Rf (l.map Per.v) (ck (decide (0≤(W (t0-1)))) (ck (decide ((W (t0-1))<(l.length:Int)))
(∀x1,l[(W (t0-1)).toNat]?=some x1 →
(R x1))))) fun x1 =>
(.callP (keyP_c x1)
(.el 224 Per.v l (fun R=>Rf (l.map Per.v) (ck (decide (0≤t0)) (ck (decide (t0<(l.length:Int)))
(∀x2,l[t0.toNat]?=some x2 →
(R x2))))) fun x2 =>
(.callP (keyP_c x2)
(.br 288 (decide (x2.router≤x1.router)) (.ret (false))
(.bk 0 b0 ((W (t0+1)):Int) []))))))
(.ret (true))))
def ascP_vc(l:(List Per))(I0:Int→Prop)(m0:Int→Nat)(r0:Bool):Prop:=(ascP_x l I0 m0).vp ascP_e r0
theorem ascP_p(l:List Per)(ok:ascP_a l):∃I m,ascP_vc l I m (ascB Per.router l):=by
 simp only [ascP_a,okU,Blk.ok,plainV,List.length_map] at ok
 refine ⟨fun t=>∃k:Nat,t=k∧1≤k∧k≤l.length+1∧∀j x y,j+1<k→l[j]?=some x→l[j+1]?=some y→Per.router x<Per.router y,fun t=>l.length+1-t.toNat,?_⟩
 dsimp only [ascP_vc,ascP_x,ascP_s,Ax.vp,Ax.vc];simp only [vcU,rfU,List.length_map]
 refine ⟨⟨1,rfl,by omega,by omega,fun j x y hj=>by omega⟩,?_⟩
 rintro _ ⟨k,rfl,hk1,hk,h⟩
 refine ⟨fun h1=>?_,fun h1=>?_⟩
 ·rw [W_pred (by omega) hk1]
  simp only [Int.toNat_natCast]
  refine ⟨by omega,by omega,fun x hx=>⟨by omega,by omega,fun y hy=>⟨fun e=>?_,fun e=>?_⟩⟩⟩
  ·refine (decide_eq_false fun hp=>?_).symm
   have:Per.router x<Per.router y:=pw_get hp (show k-1<k by omega) hx hy
   omega
  ·rw [W_succ (n:=l.length) (by omega) (by omega)]
   refine ⟨⟨k+1,rfl,by omega,by omega,fun j x' y' hj hx' hy'=>?_⟩,by omega⟩
   by_cases e':j+1=k
   ·subst e'
    rw [show j+1-1=j by omega,hx'] at hx;cases hx
    rw [hy'] at hy;cases hy;omega
   ·exact h j x' y' (by omega) hx' hy'
 ·exact (decide_eq_true (pw_adj fun j x y hx hy=>h j x y (by have:=lt_of_get hy;omega) hx hy)).symm
def ascP_c(l:(List Per)):PC Tryz.prog:=⟨160,[(.s 3),.k],[.sl 3 (l.map Per.v) false,.func 161 []],ascP_e (ascB Per.router l),PSpec.of_ok fun ok=>(ascP_p l ok).elim fun I0 h=>h.elim fun m0 h=>mxP_of (sh:=.k) (enc:=ascP_e) (a:=(ascP_x l I0 m0).an) h (by kernel_rfl) (AV.pureB_ok rfl),fnB_ok (by kernel_rfl)⟩
def ascH_a(l:(List Hrd)):Prop:=okL [.sl 4 (l.map Hrd.v) false,.func 163 []]
def ascH_n0(l:(List Hrd))(t0:Int):NF:=⟨[(0,.k,.sl 4 (l.map Hrd.v) false),(1,.k,.func 163 []),(5,.k,.int t0)],[]⟩
@[reducible] def ascH_s:Nat→Type
 | 0=>Int
 | _=>Unit
def ascH_e(r:Bool):AV:=.bool r
def ascH_x(l:(List Hrd))(I0:Int→Prop)(m0:Int→Nat):Ax Tryz.prog ascH_s (Bool):=
 (.loop 0 (ascH_n0 l) I0 m0 ((1):Int) [] fun (t0:Int) b0 =>
(.br 64 (decide (t0<((l.map Hrd.v).length:Int))) (.el 128 Hrd.v l (fun R=>Rf (l.map Hrd.v) (ck (decide (0≤(W (t0-1)))) (ck (decide ((W (t0-1))<(l.length:Int)))
(∀x1,l[(W (t0-1)).toNat]?=some x1 →
(R x1))))) fun x1 =>
(.callP (keyH_c x1)
(.el 224 Hrd.v l (fun R=>Rf (l.map Hrd.v) (ck (decide (0≤t0)) (ck (decide (t0<(l.length:Int)))
(∀x2,l[t0.toNat]?=some x2 →
(R x2))))) fun x2 =>
(.callP (keyH_c x2)
(.br 288 (decide (x2.router≤x1.router)) (.ret (false))
(.bk 0 b0 ((W (t0+1)):Int) []))))))
(.ret (true))))
def ascH_vc(l:(List Hrd))(I0:Int→Prop)(m0:Int→Nat)(r0:Bool):Prop:=(ascH_x l I0 m0).vp ascH_e r0
theorem ascH_p(l:List Hrd)(ok:ascH_a l):∃I m,ascH_vc l I m (ascB Hrd.router l):=by
 simp only [ascH_a,okU,Blk.ok,plainV,List.length_map] at ok
 refine ⟨fun t=>∃k:Nat,t=k∧1≤k∧k≤l.length+1∧∀j x y,j+1<k→l[j]?=some x→l[j+1]?=some y→Hrd.router x<Hrd.router y,fun t=>l.length+1-t.toNat,?_⟩
 dsimp only [ascH_vc,ascH_x,ascH_s,Ax.vp,Ax.vc];simp only [vcU,rfU,List.length_map]
 refine ⟨⟨1,rfl,by omega,by omega,fun j x y hj=>by omega⟩,?_⟩
 rintro _ ⟨k,rfl,hk1,hk,h⟩
 refine ⟨fun h1=>?_,fun h1=>?_⟩
 ·rw [W_pred (by omega) hk1]
  simp only [Int.toNat_natCast]
  refine ⟨by omega,by omega,fun x hx=>⟨by omega,by omega,fun y hy=>⟨fun e=>?_,fun e=>?_⟩⟩⟩
  ·refine (decide_eq_false fun hp=>?_).symm
   have:Hrd.router x<Hrd.router y:=pw_get hp (show k-1<k by omega) hx hy
   omega
  ·rw [W_succ (n:=l.length) (by omega) (by omega)]
   refine ⟨⟨k+1,rfl,by omega,by omega,fun j x' y' hj hx' hy'=>?_⟩,by omega⟩
   by_cases e':j+1=k
   ·subst e'
    rw [show j+1-1=j by omega,hx'] at hx;cases hx
    rw [hy'] at hy;cases hy;omega
   ·exact h j x' y' (by omega) hx' hy'
 ·exact (decide_eq_true (pw_adj fun j x y hx hy=>h j x y (by have:=lt_of_get hy;omega) hx hy)).symm
def ascH_c(l:(List Hrd)):PC Tryz.prog:=⟨162,[(.s 4),.k],[.sl 4 (l.map Hrd.v) false,.func 163 []],ascH_e (ascB Hrd.router l),PSpec.of_ok fun ok=>(ascH_p l ok).elim fun I0 h=>h.elim fun m0 h=>mxP_of (sh:=.k) (enc:=ascH_e) (a:=(ascH_x l I0 m0).an) h (by kernel_rfl) (AV.pureB_ok rfl),fnB_ok (by kernel_rfl)⟩
def itemsB(l:List Itm)(last:Int):Bool:=decide (itmsOk last l)
def seenOk(l:List Itm)(s:List Bool):Prop:=s.length=100∧∀g,g<100→s[g]?=some (decide (∃x∈l,x.grp=(g:Nat)))
theorem seen_nil:seenOk [] (List.replicate 100 false):=⟨List.length_replicate,fun g hg=>by rw [List.getElem?_replicate,if_pos hg];simp⟩
theorem seen_add{l:List Itm}{s:List Bool}(h:seenOk l s){x:Itm}(hx:1≤x.grp∧x.grp≤99):seenOk (l++[x]) (s.set x.grp.toNat true):=by
 refine ⟨by simp [h.1],fun g hg=>?_⟩
 rw [List.getElem?_set]
 by_cases e:x.grp.toNat=g
 ·rw [if_pos e,if_pos (by have:=h.1;omega)]
  refine congrArg some (decide_eq_true ⟨x,by simp,by omega⟩).symm
 ·rw [if_neg e,h.2 g hg]
  refine congrArg some ?_
  refine decide_eq_decide.mpr ⟨fun ⟨y,hy,hg⟩=>⟨y,by simp [hy],hg⟩,fun ⟨y,hy,hg⟩=>?_⟩
  rcases List.mem_append.mp hy with hy|hy
  ·exact ⟨y,hy,hg⟩
  ·rw [List.mem_singleton] at hy;subst hy;omega
theorem nodup_add{l:List Itm}{x:Itm}(h:(l.map Itm.grp).Nodup)(hx:¬∃y∈l,y.grp=x.grp):((l++[x]).map Itm.grp).Nodup:=by
 rw [List.map_append,List.nodup_append]
 refine ⟨h,by simp,fun a ha b hb e=>?_⟩
 obtain ⟨y,hy,rfl⟩:=List.mem_map.mp ha
 simp at hb;subst hb
 exact hx ⟨y,hy,e⟩
def itemsB_a(l:(List Itm))(last:Int):Prop:=okL [.sl 4 (l.map Itm.v) false,.int last]
def itemsB_n0(l:(List Itm))(last:Int)(t0:Int×(List Bool)):NF:=⟨[(0,.k,.sl 4 (l.map Itm.v) false),(1,.k,.int last),(5,.k,.ref 0 0),(8,.k,.sl 4 (l.map Itm.v) false),(9,.k,.int ((l.map Itm.v).length:Int)),(10,.k,.int t0.1)],[.arr (t0.2.map AV.bool) (pureBL_map (fun _=>rfl) t0.2)]⟩
@[reducible] def itemsB_s:Nat→Type
 | 0=>Int×(List Bool)
 | _=>Unit
def itemsB_e(r:Bool):AV:=.bool r
def itemsB_x(l:(List Itm))(last:Int)(I0:(Int×(List Bool))→Prop)(m0:(Int×(List Bool))→Nat):Ax Tryz.prog itemsB_s (Bool):=
 (.loop 0 (itemsB_n0 l last) I0 m0 (0,List.replicate 100 false) [16] fun (t0:Int×(List Bool)) b0 =>
(.br 17 (decide (t0.1<((l.map Itm.v).length:Int))) (.el 17 Itm.v l (fun R=>Rf (l.map Itm.v) (ck (decide (0≤t0.1)) (ck (decide (t0.1<(l.length:Int)))
(∀x1,l[t0.1.toNat]?=some x1 →
(R x1))))) fun x1 =>
(.callP (within_c x1.ver 1 last)
(.br 177 (!(within x1.ver 1 last)) (.ret (false))
(.callP (within_c x1.grp 1 99)
(.br 273 (!(within x1.grp 1 99)) (.ret (false))
(.say (ck (cond (decide (0≤x1.grp)) (decide (x1.grp<100)) false)) (.el 321 AV.bool t0.2 (fun R=>Rf (t0.2.map AV.bool) (ck (decide ((0+(x1.grp.toNat * 1))<t0.2.length))
(∀x2,t0.2[(0+(x1.grp.toNat * 1))]?=some x2 →
(R x2)))) fun x2 =>
(.br 369 x2 (.ret (false))
(.callP (PVal_c (⟨x1.mode,x1.srcs⟩:Flt))
(.br 449 ((fltErr (⟨x1.mode,x1.srcs⟩:Flt).mode (⟨x1.mode,x1.srcs⟩:Flt).srcs) != 0) (.ret (false))
(.say (ck (cond (decide (0≤x1.grp)) (decide (x1.grp<100)) false)) (.st 497 AV.bool t0.2 (fun _=>true) (fun R=>Rf (t0.2.map AV.bool) (ck (decide ((0+(x1.grp.toNat * 1))<t0.2.length))
(∀y3,t0.2[(0+(x1.grp.toNat * 1))]?=some y3→Rf (AV.bool true)
((R y3))))) fun y3 =>
(.bk 0 b0 (W (t0.1+1),t0.2.set (0+(x1.grp.toNat * 1)) true) [0])))))))))))))
(.callP (ascI_c l)
(.ret (ascB Itm.ver l)))))
def itemsB_vc(l:(List Itm))(last:Int)(I0:(Int×(List Bool))→Prop)(m0:(Int×(List Bool))→Nat)(r0:Bool):Prop:=(itemsB_x l last I0 m0).vp itemsB_e r0
theorem itemsB_p(l:List Itm)(last:Int)(ok:itemsB_a l last):∃I m,itemsB_vc l last I m (itemsB l last):=by
 simp only [itemsB_a,okU,Blk.ok,plainV,List.length_map] at ok
 refine ⟨fun t=>∃k:Nat,t.1=k∧k≤l.length∧seenOk (l.take k) t.2∧(∀x∈l.take k,itmOk last x)∧((l.take k).map Itm.grp).Nodup,fun t=>l.length-t.1.toNat,?_⟩
 dsimp only [itemsB_vc,itemsB_x,itemsB_s,Ax.vp,Ax.vc];simp only [vcU,rfU,List.length_map]
 refine ⟨⟨0,rfl,by omega,seen_nil,by simp,by simp⟩,?_⟩
 rintro ⟨_,s⟩ ⟨k,rfl,hk,hs,hi,hn⟩
 simp only [Int.toNat_natCast,Nat.zero_add,Nat.mul_one] at hs ⊢
 refine ⟨fun h1=>⟨by omega,by omega,fun x hx=>?_⟩,fun h1=>?_⟩
 ·have hm:=mem_of_get hx
  have bad:¬itmOk last x→false=itemsB l last:=fun h=>(decide_eq_false fun e=>h (e.1 x hm)).symm
  refine ⟨fun e=>bad fun e'=>?_,fun e1=>⟨fun e=>bad fun e'=>?_,fun e2=>?_⟩⟩
  ·simp [within] at e;have:=e'.1;omega
  ·simp [within] at e;have:=e'.2.1;omega
  have hv:1≤x.ver∧x.ver≤last:=by simpa [within] using e1
  have hg:1≤x.grp∧x.grp≤99:=by simpa [within] using e2
  have hg2:(bif decide (0≤x.grp) then decide (x.grp<100) else false)=true:=by simp;omega
  have hsl:=hs.1
  refine ⟨hg2,by omega,fun b hb=>?_⟩
  rw [hs.2 _ (by omega)] at hb
  have hb:=Option.some.inj hb
  have hex:(∃y∈l.take k,y.grp=((x.grp.toNat:Nat):Int))↔∃y∈l.take k,y.grp=x.grp:=by rw [show ((x.grp.toNat:Nat):Int)=x.grp by omega]
  refine ⟨fun e3=>?_,fun e3=>⟨fun e=>bad fun e'=>?_,fun e4=>⟨hg2,by omega,fun y hy=>?_⟩⟩⟩
  ·rw [e3] at hb
   obtain ⟨y,hy,hyx⟩:=hex.mp (of_decide_eq_true hb)
   refine (decide_eq_false fun e=>?_).symm
   obtain ⟨j,hj,rfl⟩:=List.mem_take_iff_getElem.mp hy
   have:=pw_get (R:=fun a b=>a≠b) e.2.1 (i:=j) (j:=k) (by omega) (by rw [List.getElem?_map,List.getElem?_eq_getElem (by omega)];rfl) (by rw [List.getElem?_map,hx];rfl)
   exact this hyx
  ·have:=e'.2.2;simp [this] at e
  ·have hf:fltErr x.mode x.srcs=0:=by simpa using e4
   rw [e3] at hb
   have hne:=fun h=>of_decide_eq_false hb (hex.mpr h)
   rw [W_succ (n:=l.length) (by omega) (by omega)]
   refine ⟨⟨k+1,rfl,by omega,?_,?_,?_⟩,by omega⟩
   ·rw [take_succ hx];exact seen_add hs hg
   ·rw [take_succ hx]
    intro z hz
    rcases List.mem_append.mp hz with hz|hz
    ·exact hi z hz
    ·rw [List.mem_singleton] at hz;subst hz;exact ⟨hv,hg,hf⟩
   ·rw [take_succ hx];exact nodup_add hn hne
 ·rw [List.take_of_length_le (by omega)] at hi hn
  simp only [ascB,itemsB,itmsOk]
  exact decide_eq_decide.mpr ⟨fun h=>⟨hi,hn,h⟩,fun h=>h.2.2⟩
def itemsB_c(l:(List Itm))(last:Int):PC Tryz.prog:=⟨133,[(.s 4),.k],[.sl 4 (l.map Itm.v) false,.int last],itemsB_e (itemsB l last),PSpec.of_ok fun ok=>(itemsB_p l last ok).elim fun I0 h=>h.elim fun m0 h=>mxP_of (sh:=.k) (enc:=itemsB_e) (a:=(itemsB_x l last I0 m0).an) h (by kernel_rfl) (AV.pureB_ok rfl),fnB_ok (by kernel_rfl)⟩
def valS(s:Spk):Int:=errIf (spkOk s)
def valL(l:Lsn):Int:=errIf (lsnOk l)
theorem errIf_no{p:Prop}[Decidable p](h:¬p):(1:Int)=errIf p:=by rw [errIf,if_neg h]
theorem codeE_iff{p q:Prop}[Decidable p][Decidable q](h:p↔q):codeE (decide p)=errIf q:=by
 by_cases hp:p
 ·simp [codeE,errIf,hp,h.mp hp]
 ·have hq:¬q:=fun hq=>hp (h.mpr hq)
  simp [codeE,errIf,hp,hq]
def valS_a(s:Spk):Prop:=okL [.agg [.int s.router,.int s.epoch,.int s.last,.sl 4 (s.items.map Itm.v) false,.sl 3 (s.peers.map Per.v) false]]
def valS_n0(s:Spk)(t0:Int):NF:=⟨[(1,.k,.ref 0 0),(36,.k,.sl 3 (s.peers.map Per.v) false),(37,.k,.int ((s.peers.map Per.v).length:Int)),(38,.k,.int t0)],[.box (.agg [.int s.router,.int s.epoch,.int s.last,.sl 4 (s.items.map Itm.v) false,.sl 3 (s.peers.map Per.v) false])]⟩
@[reducible] def valS_s:Nat→Type
 | 0=>Int
 | _=>Unit
def valS_e(r:Int):AV:=.int r
def valS_x(s:Spk)(I0:Int→Prop)(m0:Int→Nat):Ax Tryz.prog valS_s (Int):=
 (.callP (within_c s.router 1 99)
(.br 112 (!(within s.router 1 99)) (.ret (1))
(.callP (within_c s.epoch 1 1000000)
(.br 208 (!(within s.epoch 1 1000000)) (.ret (1))
(.callP (within_c s.last 0 1000000)
(.br 304 (!(within s.last 0 1000000)) (.ret (1))
(.callP (itemsB_c s.items s.last)
(.br 432 (!(itemsB s.items s.last)) (.ret (1))
(.br 512 (decide (12<((s.peers.map Per.v).length:Int))) (.ret (1))
(.loop 0 (valS_n0 s) I0 m0 ((0):Int) [0] fun (t0:Int) b0 =>
(.br 17 (decide (t0<((s.peers.map Per.v).length:Int))) (.el 17 Per.v s.peers (fun R=>Rf (s.peers.map Per.v) (ck (decide (0≤t0)) (ck (decide (t0<(s.peers.length:Int)))
(∀x1,s.peers[t0.toNat]?=some x1 →
(R x1))))) fun x1 =>
(.callP (within_c x1.router 1 99)
(.br 161 (!(within x1.router 1 99)) (.ret (1))
(.br 273 (x1.router==s.router) (.ret (1))
(.callP (within_c x1.epoch 0 1000000)
(.br 369 (!(within x1.epoch 0 1000000)) (.ret (1))
(.callP (within_c x1.acked 0 s.last)
(.br 481 (!(within x1.acked 0 s.last)) (.ret (1))
(.bk 0 b0 ((W (t0+1)):Int) [0])))))))))
(.callP (ascP_c s.peers)
(.callP (codeE_c (ascB Per.router s.peers))
(.ret (codeE (ascB Per.router s.peers))))))))))))))))
def valS_vc(s:Spk)(I0:Int→Prop)(m0:Int→Nat)(r0:Int):Prop:=(valS_x s I0 m0).vp valS_e r0
theorem valS_p(s:Spk)(ok:valS_a s):∃I m,valS_vc s I m (valS s):=by
 simp only [valS_a,okU,Blk.ok,plainV,List.length_map] at ok
 refine ⟨fun t=>∃k:Nat,t=k∧k≤s.peers.length∧∀p∈s.peers.take k,perOk s.router s.last p,fun t=>s.peers.length-t.toNat,?_⟩
 dsimp only [valS_vc,valS_x,valS_s,Ax.vp,Ax.vc];simp only [vcU,rfU,List.length_map]
 have bad:¬spkOk s→1=valS s:=errIf_no
 refine ⟨fun e=>bad fun h=>?_,fun e1=>⟨fun e=>bad fun h=>?_,fun e2=>⟨fun e=>bad fun h=>?_,fun e3=>⟨fun e=>bad fun h=>?_,fun e4=>⟨fun e=>bad fun h=>?_,fun e5=>?_⟩⟩⟩⟩⟩
 ·have:=h.1;simp [within] at e;omega
 ·have:=h.2.1;simp [within] at e;omega
 ·have:=h.2.2.1;simp [within] at e;omega
 ·have:=h.2.2.2.1;simp [itemsB,this] at e
 ·have:=h.2.2.2.2.1;omega
 have e1:1≤s.router∧s.router≤99:=by simpa [within] using e1
 have e2:1≤s.epoch∧s.epoch≤1000000:=by simpa [within] using e2
 have e3:0≤s.last∧s.last≤1000000:=by simpa [within] using e3
 have e4:itmsOk s.last s.items:=by simpa [itemsB] using e4
 refine ⟨⟨0,rfl,by omega,by simp⟩,?_⟩
 rintro _ ⟨k,rfl,hk,hp⟩
 simp only [Int.toNat_natCast]
 refine ⟨fun h1=>⟨by omega,by omega,fun x hx=>?_⟩,fun h1=>?_⟩
 ·have bad:¬perOk s.router s.last x→1=valS s:=fun h=>bad fun e=>h (e.2.2.2.2.2.1 x (mem_of_get hx))
  refine ⟨fun e=>bad fun h=>?_,fun p1=>⟨fun e=>bad fun h=>?_,fun p2=>⟨fun e=>bad fun h=>?_,fun p3=>⟨fun e=>bad fun h=>?_,fun p4=>?_⟩⟩⟩⟩
  ·have:=h.1;simp [within] at e;omega
  ·have:=h.2.1;simp at e;omega
  ·have:=h.2.2.1;simp [within] at e;omega
  ·have:=h.2.2.2;simp [within] at e;omega
  rw [W_succ (n:=s.peers.length) (by omega) (by omega)]
  refine ⟨⟨k+1,rfl,by omega,?_⟩,by omega⟩
  rw [take_succ hx]
  intro z hz
  rcases List.mem_append.mp hz with hz|hz
  ·exact hp z hz
  ·rw [List.mem_singleton] at hz;subst hz
   exact ⟨by simpa [within] using p1,by simpa using p2,by simpa [within] using p3,by simpa [within] using p4⟩
 ·rw [List.take_of_length_le (by omega)] at hp
  exact codeE_iff ⟨fun h=>⟨e1,e2,e3,e4,by omega,hp,h⟩,fun h=>h.2.2.2.2.2.2⟩
def valS_c(s:Spk):PC Tryz.prog:=⟨122,[(.a [.k,.k,.k,(.s 4),(.s 3)])],[.agg [.int s.router,.int s.epoch,.int s.last,.sl 4 (s.items.map Itm.v) false,.sl 3 (s.peers.map Per.v) false]],valS_e (valS s),PSpec.of_ok fun ok=>(valS_p s ok).elim fun I0 h=>h.elim fun m0 h=>mxP_of (sh:=.k) (enc:=valS_e) (a:=(valS_x s I0 m0).an) h (by kernel_rfl) (AV.pureB_ok rfl),fnB_ok (by kernel_rfl)⟩
def valL_a(l:Lsn):Prop:=okL [.agg [.int l.router,.int l.epoch,.sl 4 (l.heard.map Hrd.v) false]]
def valL_n0(l:Lsn)(t0:Int):NF:=⟨[(1,.k,.ref 0 0),(22,.k,.sl 4 (l.heard.map Hrd.v) false),(23,.k,.int ((l.heard.map Hrd.v).length:Int)),(24,.k,.int t0)],[.box (.agg [.int l.router,.int l.epoch,.sl 4 (l.heard.map Hrd.v) false])]⟩
@[reducible] def valL_s:Nat→Type
 | 0=>Int
 | _=>Unit
def valL_e(r:Int):AV:=.int r
def valL_x(l:Lsn)(I0:Int→Prop)(m0:Int→Nat):Ax Tryz.prog valL_s (Int):=
 (.callP (within_c l.router 1 99)
(.br 112 (!(within l.router 1 99)) (.ret (1))
(.callP (within_c l.epoch 1 1000000)
(.br 208 (!(within l.epoch 1 1000000)) (.ret (1))
(.br 288 (decide (12<((l.heard.map Hrd.v).length:Int))) (.ret (1))
(.loop 0 (valL_n0 l) I0 m0 ((0):Int) [0] fun (t0:Int) b0 =>
(.br 17 (decide (t0<((l.heard.map Hrd.v).length:Int))) (.el 17 Hrd.v l.heard (fun R=>Rf (l.heard.map Hrd.v) (ck (decide (0≤t0)) (ck (decide (t0<(l.heard.length:Int)))
(∀x1,l.heard[t0.toNat]?=some x1 →
(R x1))))) fun x1 =>
(.callP (within_c x1.router 1 99)
(.br 161 (!(within x1.router 1 99)) (.ret (1))
(.br 273 (x1.router==l.router) (.ret (1))
(.callP (within_c x1.epoch 1 1000000)
(.br 369 (!(within x1.epoch 1 1000000)) (.ret (1))
(.callP (within_c x1.ver 0 1000000)
(.br 465 (!(within x1.ver 0 1000000)) (.ret (1))
(.callP (itemsB_c x1.items x1.ver)
(.br 577 (!(itemsB x1.items x1.ver)) (.ret (1))
(.bk 0 b0 ((W (t0+1)):Int) [0])))))))))))
(.callP (ascH_c l.heard)
(.callP (codeE_c (ascB Hrd.router l.heard))
(.ret (codeE (ascB Hrd.router l.heard))))))))))))
def valL_vc(l:Lsn)(I0:Int→Prop)(m0:Int→Nat)(r0:Int):Prop:=(valL_x l I0 m0).vp valL_e r0
theorem valL_p(l:Lsn)(ok:valL_a l):∃I m,valL_vc l I m (valL l):=by
 simp only [valL_a,okU,Blk.ok,plainV,List.length_map] at ok
 refine ⟨fun t=>∃k:Nat,t=k∧k≤l.heard.length∧∀h∈l.heard.take k,hrdOk l.router h,fun t=>l.heard.length-t.toNat,?_⟩
 dsimp only [valL_vc,valL_x,valL_s,Ax.vp,Ax.vc];simp only [vcU,rfU,List.length_map]
 have bad:¬lsnOk l→1=valL l:=errIf_no
 refine ⟨fun e=>bad fun h=>?_,fun e1=>⟨fun e=>bad fun h=>?_,fun e2=>⟨fun e=>bad fun h=>?_,fun e5=>?_⟩⟩⟩
 ·have:=h.1;simp [within] at e;omega
 ·have:=h.2.1;simp [within] at e;omega
 ·have:=h.2.2.1;omega
 have e1:1≤l.router∧l.router≤99:=by simpa [within] using e1
 have e2:1≤l.epoch∧l.epoch≤1000000:=by simpa [within] using e2
 refine ⟨⟨0,rfl,by omega,by simp⟩,?_⟩
 rintro _ ⟨k,rfl,hk,hp⟩
 simp only [Int.toNat_natCast]
 refine ⟨fun h1=>⟨by omega,by omega,fun x hx=>?_⟩,fun h1=>?_⟩
 ·have bad:¬hrdOk l.router x→1=valL l:=fun h=>bad fun e=>h (e.2.2.2.1 x (mem_of_get hx))
  refine ⟨fun e=>bad fun h=>?_,fun p1=>⟨fun e=>bad fun h=>?_,fun p2=>⟨fun e=>bad fun h=>?_,fun p3=>⟨fun e=>bad fun h=>?_,fun p4=>⟨fun e=>bad fun h=>?_,fun p5=>?_⟩⟩⟩⟩⟩
  ·have:=h.1;simp [within] at e;omega
  ·have:=h.2.1;simp at e;omega
  ·have:=h.2.2.1;simp [within] at e;omega
  ·have:=h.2.2.2.1;simp [within] at e;omega
  ·have:=h.2.2.2.2;simp [itemsB,this] at e
  rw [W_succ (n:=l.heard.length) (by omega) (by omega)]
  refine ⟨⟨k+1,rfl,by omega,?_⟩,by omega⟩
  rw [take_succ hx]
  intro z hz
  rcases List.mem_append.mp hz with hz|hz
  ·exact hp z hz
  ·rw [List.mem_singleton] at hz;subst hz
   exact ⟨by simpa [within] using p1,by simpa using p2,by simpa [within] using p3,by simpa [within] using p4,by simpa [itemsB] using p5⟩
 ·rw [List.take_of_length_le (by omega)] at hp
  exact codeE_iff ⟨fun h=>⟨e1,e2,by omega,hp,h⟩,fun h=>h.2.2.2.2⟩
def valL_c(l:Lsn):PC Tryz.prog:=⟨126,[(.a [.k,.k,(.s 4)])],[.agg [.int l.router,.int l.epoch,.sl 4 (l.heard.map Hrd.v) false]],valL_e (valL l),PSpec.of_ok fun ok=>(valL_p l ok).elim fun I0 h=>h.elim fun m0 h=>mxP_of (sh:=.k) (enc:=valL_e) (a:=(valL_x l I0 m0).an) h (by kernel_rfl) (AV.pureB_ok rfl),fnB_ok (by kernel_rfl)⟩
def filtered_a(f:Flt):Prop:=okL [.agg [.int f.mode,.sl 1 (f.srcs.map AV.int) false]]
def filtered_e(r:Flt):AV:=Flt.v r
def filtered_x(f:Flt):Ax Tryz.prog noS (Flt):=
 (.req 64 (f.srcs.length≤1000000) fun h1 =>
(.callP (cloneI_c f.srcs h1)
(.ret (f))))
def filtered_vc(f:Flt)(r0:Flt):Prop:=(filtered_x f).vp filtered_e r0
theorem filtered_p(f:Flt)(h:f.srcs.length≤1000000)(ok:filtered_a f):filtered_vc f f:=by
 dsimp only [filtered_vc,filtered_x,noS,Ax.vp,Ax.vc];simp only [vcU,rfU,List.length_map]
 exact ⟨h,trivial⟩
def filtered_c(f:Flt)(h:f.srcs.length≤1000000):PC Tryz.prog:=⟨135,[(.a [.k,(.s 1)])],[.agg [.int f.mode,.sl 1 (f.srcs.map AV.int) false]],filtered_e f,PSpec.of_ok fun ok=>mxP_of (sh:=(.a [.k,(.s 1)])) (enc:=filtered_e) (a:=(filtered_x f).an) (filtered_p f h ok) (by kernel_rfl) (AV.pureB_ok rfl),fnB_ok (by kernel_rfl)⟩
def fresh(p:List Int):List Per:=p.map fun x=>⟨x,0,0⟩
theorem find_at{α:Type}{p:α→Bool}{l:List α}{k:Nat}{x:α}(h:∀y∈l.take k,p y=false)(hx:l[k]?=some x)(hp:p x=true):l.find? p=some x:=by
 rw [List.find?_eq_some_iff_getElem]
 have hk:=lt_of_get hx
 rw [List.getElem?_eq_getElem hk] at hx
 refine ⟨hp,k,hk,Option.some.inj hx,fun j hj=>?_⟩
 rw [h _ (List.mem_take_iff_getElem.mpr ⟨j,by omega,rfl⟩)];rfl
def cmpH(p:Hrd)(r:Int):Int:=cmpI p.router r
def cmpH_a(h_:Hrd)(r:Int):Prop:=okL [.agg [.int h_.router,.int h_.epoch,.int h_.ver,.sl 4 (h_.items.map Itm.v) false],.int r]
def cmpH_e(r:Int):AV:=.int r
def cmpH_x(h_:Hrd)(r:Int):Ax Tryz.prog noS (Int):=
 (.callP (cmpI_c h_.router r)
(.ret (cmpI h_.router r)))
def cmpH_vc(h_:Hrd)(r:Int)(r0:Int):Prop:=(cmpH_x h_ r).vp cmpH_e r0
theorem cmpH_p(p:Hrd)(r:Int)(ok:cmpH_a p r):cmpH_vc p r (cmpH p r):=by
 dsimp only [cmpH_vc,cmpH_x,noS,Ax.vp,Ax.vc];simp only [vcU,rfU,List.length_map]
 rfl
def cmpH_c(h_:Hrd)(r:Int):PC Tryz.prog:=⟨174,[(.a [.k,.k,.k,(.s 4)]),.k],[.agg [.int h_.router,.int h_.epoch,.int h_.ver,.sl 4 (h_.items.map Itm.v) false],.int r],cmpH_e (cmpH h_ r),PSpec.of_ok fun ok=>mxP_of (sh:=.k) (enc:=cmpH_e) (a:=(cmpH_x h_ r).an) (cmpH_p h_ r ok) (by kernel_rfl) (AV.pureB_ok rfl),fnB_ok (by kernel_rfl)⟩
theorem half(i j:Nat)(h:i≤j)(hj:j≤1000000):W ((IntKind.u64.wrap (W ((i:Int)+j))).fdiv 2)=(((i+j) / 2:Nat):Int):=by
 have e1:W ((i:Int)+j)=((i+j:Nat):Int):=W_eq ⟨by omega,by omega⟩
 rw [e1]
 have e2:IntKind.u64.wrap ((i+j:Nat):Int)=((i+j:Nat):Int):=by simp [IntKind.wrap,IntKind.signed,IntKind.bits];omega
 rw [e2,show Int.fdiv ((i+j:Nat):Int) 2=(((i+j) / 2:Nat):Int) by rw [Int.fdiv_eq_ediv_of_nonneg _ (by omega)];rfl]
 exact W_eq ⟨by omega,by omega⟩
theorem idx_eq{α:Type}{key:α→Int}{l:List α}{r:Int}{i:Nat}(hi:i≤l.length)(h1:∀k x,k<i→l[k]?=some x→key x<r)(h2:∀k x,i≤k→l[k]?=some x→r≤key x) :
  l.findIdx (fun p=>!decide (key p<r))=i:=by
 by_cases e:i=l.length
 ·subst e
  rw [List.findIdx_eq_length]
  intro x hx
  obtain ⟨k,hk,rfl⟩:=List.mem_iff_getElem.mp hx
  have:=h1 k _ hk (List.getElem?_eq_getElem hk)
  simp [this]
 ·rw [List.findIdx_eq (by omega)]
  refine ⟨?_,fun j hj=>?_⟩
  ·have:=h2 i _ (Nat.le_refl _) (List.getElem?_eq_getElem (by omega))
   simp;omega
  ·have:=h1 j _ hj (List.getElem?_eq_getElem (by omega))
   simp [this]
theorem getD_some{α:Type}{l:List α}{i:Nat}{x d:α}(h:l[i]?=some x):l.getD i d=x:=by rw [List.getD,h];rfl
theorem cmp_lt(x y:Int):cmpI x y<0↔x<y:=by
 unfold cmpI;split
 ·simp_all
 ·split<;>simp_all
theorem cmp_eq(x y:Int):cmpI x y=0↔x=y:=by
 unfold cmpI;split
 ·simp;omega
 ·split
  ·simp;omega
  ·simp;omega
def bsH_a(x:(List Hrd))(target:Int):Prop:=okL [.sl 4 (x.map Hrd.v) false,.int target,.func 174 []]
def bsH_n0(x:(List Hrd))(target:Int)(t0:Int×Int):NF:=⟨[(0,.k,.sl 4 (x.map Hrd.v) false),(1,.k,.int target),(2,.k,.func 174 []),(8,.k,.int ((x.map Hrd.v).length:Int)),(9,.k,.int t0.1),(10,.k,.int t0.2)],[]⟩
@[reducible] def bsH_s:Nat→Type
 | 0=>Int×Int
 | _=>Unit
def bsH_e(r:Int×Bool):AV:=.tup [.int r.1,.bool r.2]
def bsH_x(x:(List Hrd))(target:Int)(I0:(Int×Int)→Prop)(m0:(Int×Int)→Nat):Ax Tryz.prog bsH_s (Int×Bool):=
 (.loop 0 (bsH_n0 x target) I0 m0 (0,((x.map Hrd.v).length:Int)) [] fun (t0:Int×Int) b0 =>
(.br 48 (decide (t0.1<t0.2)) (.el 208 Hrd.v x (fun R=>Rf (x.map Hrd.v) (ck (decide (0≤(W (Int.fdiv (IntKind.u64.wrap (W (t0.1+t0.2))) 2)))) (ck (decide ((W (Int.fdiv (IntKind.u64.wrap (W (t0.1+t0.2))) 2))<(x.length:Int)))
(∀x1,x[(W (Int.fdiv (IntKind.u64.wrap (W (t0.1+t0.2))) 2)).toNat]?=some x1 →
(R x1))))) fun x1 =>
(.callP (cmpH_c x1 target)
(.br 288 (decide ((cmpH x1 target)<0)) (.bk 0 b0 (W ((W (Int.fdiv (IntKind.u64.wrap (W (t0.1+t0.2))) 2))+1),t0.2) [])
(.bk 0 b0 (t0.1,W (Int.fdiv (IntKind.u64.wrap (W (t0.1+t0.2))) 2)) []))))
(.br 128 (decide (t0.1<((x.map Hrd.v).length:Int))) (.el 176 Hrd.v x (fun R=>Rf (x.map Hrd.v) (ck (decide (0≤t0.1)) (ck (decide (t0.1<(x.length:Int)))
(∀x2,x[t0.1.toNat]?=some x2 →
(R x2))))) fun x2 =>
(.callP (cmpH_c x2 target)
(.ret (t0.1,(cmpH x2 target)==0))))
(.ret (t0.1,false)))))
def bsH_vc(x:(List Hrd))(target:Int)(I0:(Int×Int)→Prop)(m0:(Int×Int)→Nat)(r0:Int×Bool):Prop:=(bsH_x x target I0 m0).vp bsH_e r0
theorem bsH_p(l:List Hrd)(r:Int)(h:l.Pairwise fun x y=>x.router<y.router)(hl:l.length≤1000000)(ok:bsH_a l r):∃I m,bsH_vc l r I m ((posH l r:Int),decide (hitH l r)):=by
 simp only [bsH_a,okU,Blk.ok,plainV,List.length_map] at ok
 refine ⟨fun t=>∃i j:Nat,t=((i:Int),(j:Int))∧i≤j∧j≤l.length∧(∀k x,k<i→l[k]?=some x→x.router<r)∧(∀k x,j≤k→l[k]?=some x→r≤x.router),fun t=>(t.2-t.1).toNat,?_⟩
 dsimp only [bsH_vc,bsH_x,bsH_s,Ax.vp,Ax.vc];simp only [vcU,rfU,List.length_map]
 refine ⟨⟨0,l.length,rfl,by omega,by omega,fun k x hk=>by omega,fun k x hk hx=>by have:=lt_of_get hx;omega⟩,?_⟩
 rintro _ ⟨i,j,rfl,hij,hj,h1,h2⟩
 refine ⟨fun h3=>?_,fun h3=>?_⟩
 ·have h3:i<j:=by simpa using h3
  simp only [half i j hij (by omega),Int.toNat_natCast]
  refine ⟨by omega,by omega,fun x hx=>⟨fun e=>?_,fun e=>?_⟩⟩
  ·rw [cmpH,cmp_lt] at e
   rw [W_succ (n:=l.length) (by omega) (by omega)]
   refine ⟨⟨_,_,rfl,by omega,hj,fun k y hk hy=>?_,h2⟩,by omega⟩
   by_cases e':k=(i+j) / 2
   ·subst e';rw [hx] at hy;cases hy;exact e
   ·have:=pw_get h (show k<(i+j) / 2 by omega) hy hx;omega
  ·rw [cmpH,cmp_lt] at e
   refine ⟨⟨_,_,rfl,by omega,by omega,h1,fun k y hk hy=>?_⟩,by omega⟩
   by_cases e':k=(i+j) / 2
   ·subst e';rw [hx] at hy;cases hy;omega
   ·have:=pw_get h (show (i+j) / 2<k by omega) hx hy;omega
 ·have h3:i=j:=by simp at h3;omega
  subst h3
  have hp:posH l r=i:=idx_eq (key:=Hrd.router) hj h1 h2
  simp only [Int.toNat_natCast]
  refine ⟨fun h4=>⟨by omega,by omega,fun x hx=>?_⟩,fun h4=>?_⟩
  ·have e:hitH l r↔x.router=r:=by rw [hitH,hp,getD_some hx];exact ⟨fun h=>h.2,fun h=>⟨lt_of_get hx,h⟩⟩
   rw [hp]
   refine congrArg _ ?_
   rw [cmpH,Bool.eq_iff_iff,decide_eq_true_iff,e,beq_iff_eq,cmp_eq]
  ·rw [hp,decide_eq_false]
   rw [hitH,hp];intro h;omega
def bsH_c(x:(List Hrd))(target:Int)(h:x.Pairwise fun x y=>x.router<y.router)(hl:x.length≤1000000):PC Tryz.prog:=⟨173,[(.s 4),.k,.k],[.sl 4 (x.map Hrd.v) false,.int target,.func 174 []],bsH_e ((posH x target:Int),decide (hitH x target)),PSpec.of_ok fun ok=>(bsH_p x target h hl ok).elim fun I0 h=>h.elim fun m0 h=>mxP_of (sh:=.k) (enc:=bsH_e) (a:=(bsH_x x target I0 m0).an) h (by kernel_rfl) (AV.pureB_ok rfl),fnB_ok (by kernel_rfl)⟩
def heard_a(l:Lsn)(router:Int):Prop:=okL [.agg [.int l.router,.int l.epoch,.sl 4 (l.heard.map Hrd.v) false],.int router]
def heard_e(r:Int×Bool):AV:=.tup [.int r.1,.bool r.2]
def heard_x(l:Lsn)(router:Int):Ax Tryz.prog noS (Int×Bool):=
 (.req 96 (l.heard.Pairwise fun x y=>x.router<y.router) fun h1 =>
(.req 96 (l.heard.length≤1000000) fun h2 =>
(.callP (bsH_c l.heard router h1 h2)
(.ret ((posH l.heard router:Int),decide (hitH l.heard router))))))
def heard_vc(l:Lsn)(router:Int)(r0:Int×Bool):Prop:=(heard_x l router).vp heard_e r0
theorem heard_p(l:Lsn)(r:Int)(h:l.heard.Pairwise fun x y=>x.router<y.router)(hl:l.heard.length≤1000000)(ok:heard_a l r):heard_vc l r ((posH l.heard r:Int),decide (hitH l.heard r)):=by
 dsimp only [heard_vc,heard_x,noS,Ax.vp,Ax.vc];simp only [vcU,rfU,List.length_map]
 exact ⟨h,hl,trivial⟩
def heard_c(l:Lsn)(router:Int)(h:l.heard.Pairwise fun x y=>x.router<y.router)(hl:l.heard.length≤1000000):PC Tryz.prog:=⟨138,[(.a [.k,.k,(.s 4)]),.k],[.agg [.int l.router,.int l.epoch,.sl 4 (l.heard.map Hrd.v) false],.int router],heard_e ((posH l.heard router:Int),decide (hitH l.heard router)),PSpec.of_ok fun ok=>mxP_of (sh:=.k) (enc:=heard_e) (a:=(heard_x l router).an) (heard_p l router h hl ok) (by kernel_rfl) (AV.pureB_ok rfl),fnB_ok (by kernel_rfl)⟩
def noF(f:Flt):Bool:=f.mode==1 && (f.srcs.length:Int)==0
def noF_a(f:Flt):Prop:=okL [.agg [.int f.mode,.sl 1 (f.srcs.map AV.int) false]]
def noF_e(r:Bool):AV:=.bool r
def noF_x(f:Flt):Ax Tryz.prog noS (Bool):=
 (.br 96 (f.mode==1) (.ret (((f.srcs.map AV.int).length:Int)==0))
(.ret (false)))
def noF_vc(f:Flt)(r0:Bool):Prop:=(noF_x f).vp noF_e r0
theorem noF_p(f:Flt)(ok:noF_a f):noF_vc f (noF f):=by
 dsimp only [noF_vc,noF_x,noS,Ax.vp,Ax.vc];simp only [vcU,rfU,List.length_map]
 by_cases h:f.mode=1<;>simp [noF,h]
def noF_c(f:Flt):PC Tryz.prog:=⟨175,[(.a [.k,(.s 1)])],[.agg [.int f.mode,.sl 1 (f.srcs.map AV.int) false]],noF_e (noF f),PSpec.of_ok fun ok=>mxP_of (sh:=.k) (enc:=noF_e) (a:=(noF_x f).an) (noF_p f ok) (by kernel_rfl) (AV.pureB_ok rfl),fnB_ok (by kernel_rfl)⟩
def checkW_a(l:(List Wnt))(changes:Bool):Prop:=okL [.sl 3 (l.map Wnt.v) false,.bool changes]
def checkW_n0(l:(List Wnt))(changes:Bool)(t0:Int):NF:=⟨[(0,.k,.sl 3 (l.map Wnt.v) false),(1,.k,.bool changes),(16,.k,.sl 3 (l.map Wnt.v) false),(17,.k,.int ((l.map Wnt.v).length:Int)),(18,.k,.int t0)],[]⟩
def checkW_n1(l:(List Wnt))(changes:Bool)(t1:Int):NF:=⟨[(0,.k,.sl 3 (l.map Wnt.v) false),(1,.k,.bool changes),(31,.k,.sl 3 (l.map Wnt.v) false),(32,.k,.int ((l.map Wnt.v).length:Int)),(33,.k,.int t1)],[]⟩
def checkW_n2(l:(List Wnt))(changes:Bool)(t2:Int):NF:=⟨[(0,.k,.sl 3 (l.map Wnt.v) false),(1,.k,.bool changes),(44,.k,.sl 3 (l.map Wnt.v) false),(45,.k,.int ((l.map Wnt.v).length:Int)),(46,.k,.int t2)],[]⟩
def checkW_n3(l:(List Wnt))(t3:Int):NF:=⟨[(0,.k,.sl 3 (l.map Wnt.v) false),(12,.k,.int t3)],[]⟩
@[reducible] def checkW_s:Nat→Type
 | 0=>Int
 | 1=>Int
 | 2=>Int
 | 3=>Int
 | _=>Unit
def checkW_e(r:Int):AV:=.int r
def checkW_x(l:(List Wnt))(changes:Bool)(I0:Int→Prop)(m0:Int→Nat)(I1:Int→Int→Prop)(m1:Int→Int→Nat)(I2:Int→Int→Int→Prop)(m2:Int→Int→Int→Nat)(I3:Int→Int→Int→Int→Prop)(m3:Int→Int→Int→Int→Nat):Ax Tryz.prog checkW_s (Int):=
 (.br 64 (decide (32<((l.map Wnt.v).length:Int))) (.ret (3))
(.loop 0 (checkW_n0 l changes) I0 m0 ((0):Int) [] fun (t0:Int) b0 =>
(.br 16 (decide (t0<((l.map Wnt.v).length:Int))) (.el 16 Wnt.v l (fun R=>Rf (l.map Wnt.v) (ck (decide (0≤t0)) (ck (decide (t0<(l.length:Int)))
(∀x1,l[t0.toNat]?=some x1 →
(R x1))))) fun x1 =>
(.br 144 (decide (x1.grp<1)) (.ret (2))
(.br 208 (decide (99<x1.grp)) (.ret (2))
(.bk 0 b0 ((W (t0+1)):Int) []))))
(.loop 1 (checkW_n1 l changes) (I1 t0) (m1 t0) ((0):Int) [] fun (t1:Int) b1 =>
(.br 16 (decide (t1<((l.map Wnt.v).length:Int))) (.el 16 Wnt.v l (fun R=>Rf (l.map Wnt.v) (ck (decide (0≤t1)) (ck (decide (t1<(l.length:Int)))
(∀x2,l[t1.toNat]?=some x2 →
(R x2))))) fun x2 =>
(.callP (PVal_c (⟨x2.mode,x2.srcs⟩:Flt))
(.br 176 ((fltErr (⟨x2.mode,x2.srcs⟩:Flt).mode (⟨x2.mode,x2.srcs⟩:Flt).srcs) != 0) (.ret (fltErr (⟨x2.mode,x2.srcs⟩:Flt).mode (⟨x2.mode,x2.srcs⟩:Flt).srcs))
(.bk 1 b1 ((W (t1+1)):Int) []))))
(.loop 2 (checkW_n2 l changes) (I2 t0 t1) (m2 t0 t1) ((0):Int) [] fun (t2:Int) b2 =>
(.br 16 (decide (t2<((l.map Wnt.v).length:Int))) (.el 16 Wnt.v l (fun R=>Rf (l.map Wnt.v) (ck (decide (0≤t2)) (ck (decide (t2<(l.length:Int)))
(∀x3,l[t2.toNat]?=some x3 →
(R x3))))) fun x3 =>
(.br 128 (!changes) (.callP (noF_c (⟨x3.mode,x3.srcs⟩:Flt))
(.br 192 (noF (⟨x3.mode,x3.srcs⟩:Flt)) (.ret (1))
(.bk 2 b2 ((W (t2+1)):Int) [])))
(.bk 2 b2 ((W (t2+1)):Int) [])))
(.loop 3 (checkW_n3 l) (I3 t0 t1 t2) (m3 t0 t1 t2) ((1):Int) [] fun (t3:Int) b3 =>
(.br 64 (decide (t3<((l.map Wnt.v).length:Int))) (.el 112 Wnt.v l (fun R=>Rf (l.map Wnt.v) (ck (decide (0≤(W (t3-1)))) (ck (decide ((W (t3-1))<(l.length:Int)))
(∀x4,l[(W (t3-1)).toNat]?=some x4 →
(R x4))))) fun x4 =>
(.el 192 Wnt.v l (fun R=>Rf (l.map Wnt.v) (ck (decide (0≤t3)) (ck (decide (t3<(l.length:Int)))
(∀x5,l[t3.toNat]?=some x5 →
(R x5))))) fun x5 =>
(.br 256 (decide (x5.grp≤x4.grp)) (.ret (25))
(.bk 3 b3 ((W (t3+1)):Int) []))))
(.ret (0)))))))))))
def checkW_vc(l:(List Wnt))(changes:Bool)(I0:Int→Prop)(m0:Int→Nat)(I1:Int→Int→Prop)(m1:Int→Int→Nat)(I2:Int→Int→Int→Prop)(m2:Int→Int→Int→Nat)(I3:Int→Int→Int→Int→Prop)(m3:Int→Int→Int→Int→Nat)(r0:Int):Prop:=(checkW_x l changes I0 m0 I1 m1 I2 m2 I3 m3).vp checkW_e r0
theorem orI_at{α:Type}{l:List α}{f:α→Int}{k:Nat}{x:α}(h:∀y∈l.take k,f y=0)(hx:l[k]?=some x)(hn:f x≠0):orI (l.map f)=f x:=by
 rw [orI,find_at (k:=k) (x:=f x)]
 ·rfl
 ·intro y hy
  rw [←List.map_take] at hy
  obtain ⟨z,hz,rfl⟩:=List.mem_map.mp hy
  simp [h z hz]
 ·rw [List.getElem?_map,hx];rfl
 ·simpa using hn
theorem orI_all{α:Type}{l:List α}{f:α→Int}(h:∀y∈l,f y=0):orI (l.map f)=0:=by
 rw [orI,List.find?_eq_none.mpr];· rfl
 intro x hx;obtain ⟨z,hz,rfl⟩:=List.mem_map.mp hx;simp [h z hz]
theorem all_take{α:Type}{P:α→Prop}{l:List α}{k:Nat}{x:α}(h:∀y∈l.take k,P y)(hx:l[k]?=some x)(hp:P x):∀y∈l.take (k+1),P y:=by
 rw [take_succ hx]
 intro z hz
 rcases List.mem_append.mp hz with hz|hz
 ·exact h z hz
 ·rw [List.mem_singleton] at hz;subst hz;exact hp
theorem checkW_p(l:List Wnt)(chg:Bool)(ok:checkW_a l chg):∃I0 m0 I1 m1 I2 m2 I3 m3,checkW_vc l chg I0 m0 I1 m1 I2 m2 I3 m3 (wErr chg l):=by
 let R:Prop:=∀w∈l,1≤w.grp∧w.grp≤99
 let F:Prop:=∀w∈l,fltErr w.mode w.srcs=0
 let N:Prop:=chg=false→∀w∈l,¬isNoW w
 refine ⟨fun t=>∃k:Nat,t=k∧k≤l.length∧∀w∈l.take k,1≤w.grp∧w.grp≤99,fun t=>l.length-t.toNat,
  fun _ t=>R∧∃k:Nat,t=k∧k≤l.length∧∀w∈l.take k,fltErr w.mode w.srcs=0,fun _ t=>l.length-t.toNat,
  fun _ _ t=>R∧F∧∃k:Nat,t=k∧k≤l.length∧∀w∈l.take k,chg=false→¬isNoW w,fun _ _ t=>l.length-t.toNat,
  fun _ _ _ t=>R∧F∧N∧∃k:Nat,t=k∧1≤k∧k≤l.length+1∧∀j x y,j+1<k→l[j]?=some x→l[j+1]?=some y→x.grp<y.grp,fun _ _ _ t=>l.length+1-t.toNat,?_⟩
 dsimp only [checkW_vc,checkW_x,checkW_s,Ax.vp,Ax.vc];simp only [vcU,rfU,List.length_map]
 have hno:∀x:Wnt,noF ⟨x.mode,x.srcs⟩=true↔isNoW x:=fun x=>by simp [noF,isNoW]
 refine ⟨fun e=>by rw [wErr,if_pos (by omega)],fun e0=>⟨⟨0,rfl,by omega,by simp⟩,?_⟩⟩
 have e0:¬32<l.length:=by omega
 rintro _ ⟨k,rfl,hk,h⟩
 simp only [Int.toNat_natCast]
 refine ⟨fun h1=>⟨by omega,by omega,fun x hx=>?_⟩,fun h1=>?_⟩
 ·have bad:¬(1≤x.grp∧x.grp≤99)→2=wErr chg l:=fun h=>by
   rw [wErr,if_neg e0,if_pos fun h'=>h (h' x (mem_of_get hx))]
  refine ⟨fun e=>bad (by omega),fun e1=>⟨fun e=>bad (by omega),fun e2=>?_⟩⟩
  rw [W_succ (n:=l.length) (by omega) (by omega)]
  exact ⟨⟨k+1,rfl,by omega,all_take h hx ⟨by omega,by omega⟩⟩,by omega⟩
 rw [List.take_of_length_le (by omega)] at h
 have hR:R:=h
 have w1:wErr chg l=if wFErrs l≠0 then wFErrs l else if chg=false∧∃w∈l,isNoW w then 1 else if ¬(l.Pairwise fun x y=>x.grp<y.grp) then 25 else 0:=by
  rw [wErr,if_neg e0,if_neg (fun h=>h hR)]
 clear h h1 hk k
 refine ⟨⟨hR,0,rfl,by omega,by simp⟩,?_⟩
 rintro _ ⟨-,k,rfl,hk,h⟩
 simp only [Int.toNat_natCast]
 refine ⟨fun h1=>⟨by omega,by omega,fun x hx=>⟨fun e=>?_,fun e=>?_⟩⟩,fun h1=>?_⟩
 ·have e:fltErr x.mode x.srcs≠0:=by simpa using e
  have:wFErrs l=fltErr x.mode x.srcs:=orI_at (f:=fun x:Wnt=>fltErr x.mode x.srcs) h hx e
  rw [w1,this,if_pos e]
 ·rw [W_succ (n:=l.length) (by omega) (by omega)]
  exact ⟨⟨hR,k+1,rfl,by omega,all_take h hx (by simpa using e)⟩,by omega⟩
 rw [List.take_of_length_le (by omega)] at h
 have hF:F:=h
 have w2:wErr chg l=if chg=false∧∃w∈l,isNoW w then 1 else if ¬(l.Pairwise fun x y=>x.grp<y.grp) then 25 else 0:=by
  rw [w1,if_neg (fun hh=>hh (orI_all hF))]
 clear h h1 hk k
 refine ⟨⟨hR,hF,0,rfl,by omega,by simp⟩,?_⟩
 rintro _ ⟨-,-,k,rfl,hk,h⟩
 simp only [Int.toNat_natCast]
 refine ⟨fun h1=>⟨by omega,by omega,fun x hx=>?_⟩,fun h1=>?_⟩
 ·have step:(chg=false→¬isNoW x)→(R∧F∧∃k':Nat,W ((k:Int)+1)=k'∧k'≤l.length∧∀w∈l.take k',chg=false→¬isNoW w)∧l.length-(W ((k:Int)+1)).toNat<l.length-k:=by
   intro hs
   rw [W_succ (n:=l.length) (by omega) (by omega)]
   exact ⟨⟨hR,hF,k+1,rfl,by omega,all_take h hx hs⟩,by omega⟩
  refine ⟨fun e=>⟨fun e2=>?_,fun e2=>step fun _ hn=>?_⟩,fun e=>step fun hc=>?_⟩
  ·rw [w2,if_pos ⟨by simpa using e,x,mem_of_get hx,(hno x).mp e2⟩]
  ·rw [(hno x).mpr hn] at e2;cases e2
  ·simp [hc] at e
 rw [List.take_of_length_le (by omega)] at h
 have hN:N:=fun hc w hw=>h w hw hc
 have w3:wErr chg l=if ¬(l.Pairwise fun x y=>x.grp<y.grp) then 25 else 0:=by
  rw [w2,if_neg (fun ⟨hc,w,hw,hn⟩=>hN hc w hw hn)]
 clear h h1 hk k
 refine ⟨⟨hR,hF,hN,1,rfl,by omega,by omega,fun j x y hj=>by omega⟩,?_⟩
 rintro _ ⟨-,-,-,k,rfl,hk1,hk,h⟩
 refine ⟨fun h1=>?_,fun h1=>?_⟩
 ·rw [W_pred (by omega) hk1]
  simp only [Int.toNat_natCast]
  refine ⟨by omega,by omega,fun x hx=>⟨by omega,by omega,fun y hy=>⟨fun e=>?_,fun e=>?_⟩⟩⟩
  ·rw [w3,if_pos]
   intro hp
   have:x.grp<y.grp:=pw_get hp (show k-1<k by omega) hx hy
   omega
  ·rw [W_succ (n:=l.length) (by omega) (by omega)]
   refine ⟨⟨hR,hF,hN,k+1,rfl,by omega,by omega,fun j x' y' hj hx' hy'=>?_⟩,by omega⟩
   by_cases e':j+1=k
   ·subst e'
    rw [show j+1-1=j by omega,hx'] at hx;cases hx
    rw [hy'] at hy;cases hy;omega
   ·exact h j x' y' (by omega) hx' hy'
 ·rw [w3,if_neg]
  exact fun hh=>hh (pw_adj fun j x y hx hy=>h j x y (by have:=lt_of_get hy;omega) hx hy)
def checkW_c(l:(List Wnt))(changes:Bool):PC Tryz.prog:=⟨139,[(.s 3),.k],[.sl 3 (l.map Wnt.v) false,.bool changes],checkW_e (wErr changes l),PSpec.of_ok fun ok=>(checkW_p l changes ok).elim fun I0 h=>h.elim fun m0 h=>h.elim fun I1 h=>h.elim fun m1 h=>h.elim fun I2 h=>h.elim fun m2 h=>h.elim fun I3 h=>h.elim fun m3 h=>mxP_of (sh:=.k) (enc:=checkW_e) (a:=(checkW_x l changes I0 m0 I1 m1 I2 m2 I3 m3).an) h (by kernel_rfl) (AV.pureB_ok rfl),fnB_ok (by kernel_rfl)⟩
def valW_a(l:(List Wnt)):Prop:=okL [.sl 3 (l.map Wnt.v) false]
def valW_e(r:Int):AV:=.int r
def valW_x(l:(List Wnt)):Ax Tryz.prog noS (Int):=
 (.callP (checkW_c l false)
(.ret (wErr false l)))
def valW_vc(l:(List Wnt))(r0:Int):Prop:=(valW_x l).vp valW_e r0
theorem valW_p(l:List Wnt)(ok:valW_a l):valW_vc l (wErr false l):=by
 dsimp only [valW_vc,valW_x,noS,Ax.vp,Ax.vc];simp only [vcU,rfU,List.length_map]
def valW_c(l:(List Wnt)):PC Tryz.prog:=⟨99,[(.s 3)],[.sl 3 (l.map Wnt.v) false],valW_e (wErr false l),PSpec.of_ok fun ok=>mxP_of (sh:=.k) (enc:=valW_e) (a:=(valW_x l).an) (valW_p l ok) (by kernel_rfl) (AV.pureB_ok rfl),fnB_ok (by kernel_rfl)⟩
structure Bnd where
  lo:Int
  hi:Int
structure Frm where
  l0:Int
  h0:Int
  l1:Int
  h1:Int
  l2:Int
  h2:Int
  l3:Int
  h3:Int
  l4:Int
  h4:Int
def Frm.v(b:Frm):AV:=.agg [.int b.l0,.int b.h0,.int b.l1,.int b.h1,.int b.l2,.int b.h2,.int b.l3,.int b.h3,.int b.l4,.int b.h4]
def hasB(b:Bnd)(n:Int):Bool:=decide (b.lo≤n) && decide (n≤b.hi)
def hasB_a(b:Bnd)(n:Int):Prop:=okL [.agg [.int b.lo,.int b.hi],.int n]
def hasB_e(r:Bool):AV:=.bool r
def hasB_x(b:Bnd)(n:Int):Ax Tryz.prog noS (Bool):=
 (.br 112 (decide (b.lo≤n)) (.ret (decide (n≤b.hi)))
(.ret (false)))
def hasB_vc(b:Bnd)(n:Int)(r0:Bool):Prop:=(hasB_x b n).vp hasB_e r0
theorem hasB_p(b:Bnd)(n:Int)(ok:hasB_a b n):hasB_vc b n (hasB b n):=by
 dsimp only [hasB_vc,hasB_x,noS,Ax.vp,Ax.vc];simp only [vcU,rfU,List.length_map]
 by_cases h:b.lo≤n<;>simp [hasB,h]
def hasB_c(b:Bnd)(n:Int):PC Tryz.prog:=⟨166,[.k,.k],[.agg [.int b.lo,.int b.hi],.int n],hasB_e (hasB b n),PSpec.of_ok fun ok=>mxP_of (sh:=.k) (enc:=hasB_e) (a:=(hasB_x b n).an) (hasB_p b n ok) (by kernel_rfl) (AV.pureB_ok rfl),fnB_ok (by kernel_rfl)⟩
def formsF(s:Sig):Frm×Bool:=
 if s.kind=1 then (⟨1,1000000,0,1000000,0,0,0,0,0,0⟩,true)
 else if s.kind=2 then (⟨1,1000000,1,1000000,0,W (s.ver-1),0,0,1,99⟩,true)
 else if s.kind=3 then (⟨0,1000000,0,1000000,0,0,1,1000000,0,0⟩,true)
 else (⟨0,0,0,0,0,0,0,0,0,0⟩,false)
def forms_a(s:Sig):Prop:=okL [.agg [.int s.kind,.int s.src,.int s.dst,.int s.epoch,.int s.ver,.int s.prev,.int s.pep,.int s.grp,.int s.mode,.sl 1 (s.srcs.map AV.int) false]]
def forms_e(r:Frm×Bool):AV:=.tup [Frm.v r.1,.bool r.2]
def forms_x(s:Sig):Ax Tryz.prog noS (Frm×Bool):=
 (.br 112 (s.kind==1) (.ret ((⟨1,1000000,0,1000000,0,0,0,0,0,0⟩:Frm),true))
(.br 144 (s.kind==2) (.ret ((⟨1,1000000,1,1000000,0,W (s.ver-1),0,0,1,99⟩:Frm),true))
(.br 176 (s.kind==3) (.ret ((⟨0,1000000,0,1000000,0,0,1,1000000,0,0⟩:Frm),true))
(.ret ((⟨0,0,0,0,0,0,0,0,0,0⟩:Frm),false)))))
def forms_vc(s:Sig)(r0:Frm×Bool):Prop:=(forms_x s).vp forms_e r0
theorem forms_p(s:Sig)(ok:forms_a s):forms_vc s (formsF s):=by
 dsimp only [forms_vc,forms_x,noS,Ax.vp,Ax.vc];simp only [vcU,rfU,List.length_map]
 refine ⟨fun e=>?_,fun e=>⟨fun e2=>?_,fun e2=>⟨fun e3=>?_,fun e3=>?_⟩⟩⟩
 all_goals simp at *
 all_goals simp [formsF, *]
def forms_c(s:Sig):PC Tryz.prog:=⟨165,[(.a [.k,.k,.k,.k,.k,.k,.k,.k,.k,(.s 1)])],[.agg [.int s.kind,.int s.src,.int s.dst,.int s.epoch,.int s.ver,.int s.prev,.int s.pep,.int s.grp,.int s.mode,.sl 1 (s.srcs.map AV.int) false]],forms_e (formsF s),PSpec.of_ok fun ok=>mxP_of (sh:=.k) (enc:=forms_e) (a:=(forms_x s).an) (forms_p s ok) (by kernel_rfl) (AV.pureB_ok rfl),fnB_ok (by kernel_rfl)⟩
theorem hasB_iff{b:Bnd}{n:Int}:hasB b n=true↔b.lo≤n∧n≤b.hi:=by simp [hasB]
def numL(s:Sig):List Int:=[s.epoch,s.ver,s.prev,s.pep,s.grp]
def bndL(f:Frm):List Bnd:=[⟨f.l0,f.h0⟩,⟨f.l1,f.h1⟩,⟨f.l2,f.h2⟩,⟨f.l3,f.h3⟩,⟨f.l4,f.h4⟩]
theorem five{p:Int→Bnd→Prop}{s:Sig}{f:Frm}:(∀(j:Nat) x b,(numL s)[j]?=some x→(bndL f)[j]?=some b→p x b)↔p s.epoch ⟨f.l0,f.h0⟩∧p s.ver ⟨f.l1,f.h1⟩∧p s.prev ⟨f.l2,f.h2⟩∧p s.pep ⟨f.l3,f.h3⟩∧p s.grp ⟨f.l4,f.h4⟩:=by
 refine ⟨fun h=>⟨h 0 _ _ rfl rfl,h 1 _ _ rfl rfl,h 2 _ _ rfl rfl,h 3 _ _ rfl rfl,h 4 _ _ rfl rfl⟩,fun ⟨h0,h1,h2,h3,h4⟩ j x b hx hb=>?_⟩
 rcases j with _|_|_|_|_|j<;>simp [numL,bndL] at hx hb<;>subst hx hb<;>assumption
theorem nums_iff{s:Sig}(hv:-9223372036854775808≤s.ver∧s.ver≤9223372036854775807)(hk:(formsF s).2=true) :
  sigNums s↔∀(j:Nat) x b,(numL s)[j]?=some x→(bndL (formsF s).1)[j]?=some b→hasB b x=true:=by
 rw [five (p:=fun x b=>hasB b x=true)]
 simp only [hasB_iff]
 by_cases e1:s.kind=1
 ·simp [formsF,sigNums,e1];omega
 ·by_cases e2:s.kind=2
  ·simp only [formsF,sigNums,if_neg e1,if_pos e2]
   constructor
   ·rintro ⟨h0,h1,h2,h3,h4⟩
    rw [W_eq (by omega)];omega
   ·rintro ⟨h0,h1,h2,h3,h4⟩
    rw [W_eq (by omega)] at h2;omega
  ·by_cases e3:s.kind=3
   ·simp [formsF,sigNums,e3];omega
   ·simp [formsF,e1,e2,e3] at hk
theorem forms_iff{s:Sig}:(formsF s).2=true↔s.kind=1∨s.kind=2∨s.kind=3:=by
 by_cases e1:s.kind=1
 ·simp [formsF,e1]
 ·by_cases e2:s.kind=2
  ·simp [formsF,e2]
  ·by_cases e3:s.kind=3<;>simp [formsF,e1,e2,e3]
def sigV_a(s:Sig):Prop:=okL [.agg [.int s.kind,.int s.src,.int s.dst,.int s.epoch,.int s.ver,.int s.prev,.int s.pep,.int s.grp,.int s.mode,.sl 1 (s.srcs.map AV.int) false]]
def sigV_n0(s:Sig)(t0:Int):NF:=⟨[(1,.k,.ref 0 0),(3,.k,.ref 1 0),(45,.k,.agg [.int s.epoch,.int s.ver,.int s.prev,.int s.pep,.int s.grp]),(46,.k,.int t0)],[.box (.agg [.int s.kind,.int s.src,.int s.dst,.int s.epoch,.int s.ver,.int s.prev,.int s.pep,.int s.grp,.int s.mode,.sl 1 (s.srcs.map AV.int) false]),.box (.agg [.int (((formsF s).1).l0),.int (((formsF s).1).h0),.int (((formsF s).1).l1),.int (((formsF s).1).h1),.int (((formsF s).1).l2),.int (((formsF s).1).h2),.int (((formsF s).1).l3),.int (((formsF s).1).h3),.int (((formsF s).1).l4),.int (((formsF s).1).h4)])]⟩
@[reducible] def sigV_s:Nat→Type
 | 0=>Int
 | _=>Unit
def sigV_e(r:Int):AV:=.int r
def sigV_x(s:Sig)(I0:Int→Prop)(m0:Int→Nat):Ax Tryz.prog sigV_s (Int):=
 (.callP (forms_c s)
(.br 192 (!((formsF s).2)) (.ret (1))
(.callP (hasB_c (⟨1,99⟩:Bnd) s.src)
(.br 336 (!(hasB (⟨1,99⟩:Bnd) s.src)) (.ret (2))
(.callP (hasB_c (⟨1,99⟩:Bnd) s.dst)
(.br 448 (!(hasB (⟨1,99⟩:Bnd) s.dst)) (.ret (2))
(.br 544 (s.src==s.dst) (.ret (2))
(.loop 0 (sigV_n0 s) I0 m0 ((0):Int) [0,112] fun (t0:Int) b0 =>
(.br 18 (decide (t0<5)) (.el 34 AV.int ([s.epoch,s.ver,s.prev,s.pep,s.grp]:List Int) (fun R=>Rf (([s.epoch,s.ver,s.prev,s.pep,s.grp]:List Int).map AV.int) (ck (decide (0≤t0)) (ck (decide (t0<5)) (ck (decide (t0.toNat<([s.epoch,s.ver,s.prev,s.pep,s.grp]:List Int).length))
(∀x1,([s.epoch,s.ver,s.prev,s.pep,s.grp]:List Int)[t0.toNat]?=some x1 →
(R x1)))))) fun x1 =>
(.say (ck (cond (decide (0≤t0)) (decide (t0<5)) false)) (.elA 114 (fun x:Bnd=>[.int x.lo,.int x.hi]) [(⟨((formsF s).1).l0,((formsF s).1).h0⟩:Bnd),(⟨((formsF s).1).l1,((formsF s).1).h1⟩:Bnd),(⟨((formsF s).1).l2,((formsF s).1).h2⟩:Bnd),(⟨((formsF s).1).l3,((formsF s).1).h3⟩:Bnd),(⟨((formsF s).1).l4,((formsF s).1).h4⟩:Bnd)] (t0.toNat) 2 (fun _=>rfl) (fun R=>Rf (α:=List AV) ([.int (((formsF s).1).l0),.int (((formsF s).1).h0),.int (((formsF s).1).l1),.int (((formsF s).1).h1),.int (((formsF s).1).l2),.int (((formsF s).1).h2),.int (((formsF s).1).l3),.int (((formsF s).1).h3),.int (((formsF s).1).l4),.int (((formsF s).1).h4)]) (((0+(t0.toNat * 2))=t0.toNat * 2)∧(ck (decide (t0.toNat<[(⟨((formsF s).1).l0,((formsF s).1).h0⟩:Bnd),(⟨((formsF s).1).l1,((formsF s).1).h1⟩:Bnd),(⟨((formsF s).1).l2,((formsF s).1).h2⟩:Bnd),(⟨((formsF s).1).l3,((formsF s).1).h3⟩:Bnd),(⟨((formsF s).1).l4,((formsF s).1).h4⟩:Bnd)].length))
(∀x2,[(⟨((formsF s).1).l0,((formsF s).1).h0⟩:Bnd),(⟨((formsF s).1).l1,((formsF s).1).h1⟩:Bnd),(⟨((formsF s).1).l2,((formsF s).1).h2⟩:Bnd),(⟨((formsF s).1).l3,((formsF s).1).h3⟩:Bnd),(⟨((formsF s).1).l4,((formsF s).1).h4⟩:Bnd)][t0.toNat]?=some x2 →
(R x2))))) fun x2 =>
(.callP (hasB_c x2 x1)
(.br 178 (!(hasB x2 x1)) (.ret (2))
(.bk 0 b0 ((W (t0+1)):Int) [0,1]))))))
(.br 66 (s.kind==2) (.callP (PVal_c (⟨s.mode,s.srcs⟩:Flt))
(.ret (fltErr (⟨s.mode,s.srcs⟩:Flt).mode (⟨s.mode,s.srcs⟩:Flt).srcs)))
(.br 146 (s.mode != 0) (.ret (1))
(.br 242 (decide (0<((s.srcs.map AV.int).length:Int))) (.ret (1))
(.ret (0))))))))))))))
def sigV_vc(s:Sig)(I0:Int→Prop)(m0:Int→Nat)(r0:Int):Prop:=(sigV_x s I0 m0).vp sigV_e r0
theorem sigV_p(s:Sig)(ok:sigV_a s):∃I m,sigV_vc s I m (sigErr s):=by
 simp only [sigV_a,okU,Blk.ok,plainV,List.length_map] at ok
 refine ⟨fun t=>∃k:Nat,t=k∧k≤5∧∀(j:Nat) x b,j<k→(numL s)[j]?=some x→(bndL (formsF s).1)[j]?=some b→hasB b x=true,fun t=>5-t.toNat,?_⟩
 dsimp only [sigV_vc,sigV_x,sigV_s,Ax.vp,Ax.vc];simp only [vcU,rfU,List.length_map]
 have hv:-9223372036854775808≤s.ver∧s.ver≤9223372036854775807:=ok.2.2.2.2.1
 refine ⟨fun e=>?_,fun e0=>?_⟩
 ·rw [sigErr,if_pos (fun h=>by rw [forms_iff.mpr h] at e;cases e)]
 have e0:(formsF s).2=true:=by simpa using e0
 have hk:=forms_iff.mp e0
 have bad:¬(sigEnds s∧sigNums s)→2=sigErr s:=fun h=>by rw [sigErr,if_neg (fun h=>h hk),if_pos h]
 refine ⟨fun e=>bad fun h=>?_,fun e1=>⟨fun e=>bad fun h=>?_,fun e2=>⟨fun e=>bad fun h=>?_,fun e3=>?_⟩⟩⟩
 ·have:=h.1.1;rw [hasB_iff.mpr this] at e;cases e
 ·have:=h.1.2.1;rw [hasB_iff.mpr this] at e;cases e
 ·have:=h.1.2.2;simp at e;exact this e
 have e1:=hasB_iff.mp (Bool.not_eq_false' .. ▸ e1:hasB ⟨1,99⟩ s.src=true)
 have e2:=hasB_iff.mp (Bool.not_eq_false' .. ▸ e2:hasB ⟨1,99⟩ s.dst=true)
 have hE:sigEnds s:=⟨e1,e2,by simpa using e3⟩
 refine ⟨⟨0,rfl,by omega,fun j x b hj=>by omega⟩,?_⟩
 rintro _ ⟨k,rfl,hk5,h⟩
 simp only [Int.toNat_natCast]
 refine ⟨fun h1=>⟨by omega,by omega,by simp;omega,fun x hx=>⟨by simp;omega,by omega,by simp;omega,fun b hb=>⟨fun e=>bad fun hs=>?_,fun e=>?_⟩⟩⟩,fun h1=>?_⟩
 ·have:=(nums_iff hv e0).mp hs.2 k x b hx hb
  rw [this] at e;cases e
 ·have e:hasB b x=true:=by simpa using e
  rw [W_succ (n:=5) (by omega) (by omega)]
  refine ⟨⟨k+1,rfl,by omega,fun j y c hj hy hc=>?_⟩,by omega⟩
  by_cases e':j=k
  ·subst e'
   have hy:=hy.symm.trans hx
   have hc:=hc.symm.trans hb
   cases hy;cases hc;exact e
  ·exact h j y c (by omega) hy hc
 have hN:sigNums s:=(nums_iff hv e0).mpr fun j x b hx hb=>h j x b (by have:=lt_of_get hx;simp [numL] at this;omega) hx hb
 have fin:sigErr s=if s.kind=2 then fltErr s.mode s.srcs else if s.mode≠0∨s.srcs≠[] then 1 else 0:=by
  rw [sigErr,if_neg (fun h=>h hk),if_neg (fun h=>h ⟨hE,hN⟩)]
 rw [fin]
 refine ⟨fun e=>by rw [if_pos (by simpa using e)],fun e=>?_⟩
 have e:¬s.kind=2:=by simpa using e
 rw [if_neg e]
 refine ⟨fun e=>by rw [if_pos (.inl (by simpa using e))],fun e1=>⟨fun e=>?_,fun e=>?_⟩⟩
 ·rw [if_pos (.inr fun h=>by rw [h] at e;simp at e)]
 ·rw [if_neg]
  rintro (h|h)
  ·exact h (by simpa using e1)
  ·exact h (List.eq_nil_of_length_eq_zero (by omega))
def sigV_c(s:Sig):PC Tryz.prog:=⟨128,[(.a [.k,.k,.k,.k,.k,.k,.k,.k,.k,(.s 1)])],[.agg [.int s.kind,.int s.src,.int s.dst,.int s.epoch,.int s.ver,.int s.prev,.int s.pep,.int s.grp,.int s.mode,.sl 1 (s.srcs.map AV.int) false]],sigV_e (sigErr s),PSpec.of_ok fun ok=>(sigV_p s ok).elim fun I0 h=>h.elim fun m0 h=>mxP_of (sh:=.k) (enc:=sigV_e) (a:=(sigV_x s I0 m0).an) h (by kernel_rfl) (AV.pureB_ok rfl),fnB_ok (by kernel_rfl)⟩
theorem pureBLs_one{es:List AV}(h:pureBL es=true):pureBLs [es]=true:=by rw [pureBLs,h];rfl
theorem srcs_len{m:Int}{l:List Int}(h:fltErr m l=0):l.length≤99:=by
 unfold fltErr at h
 split at h
 ·cases h
 split at h
 ·cases h
 rename_i hr
 split at h
 ·cases h
 rename_i ha
 have hr:=Classical.not_not.mp hr
 have ha:=Classical.not_not.mp ha
 have hp:l.Pairwise fun x y=>id x<id y:=pw_adj (key:=id) fun j x y hx hy=>ascI_iff.mp ha j x y hx hy
 exact nodup_len 99 l (hp.imp fun h=>Int.ne_of_lt h) fun x hx=>by have:=hr x hx;omega
def checkR_a(l:(List Wnt))(changes:Bool):Prop:=okL [.sl 3 (l.map Wnt.v) false,.bool changes]
def checkR_n0(l:(List Wnt))(changes:Bool)(t0:Int):NF:=⟨[(0,.k,.sl 3 (l.map Wnt.v) false),(1,.k,.bool changes),(16,.k,.sl 3 (l.map Wnt.v) false),(17,.k,.int ((l.map Wnt.v).length:Int)),(18,.k,.int t0)],[]⟩
def checkR_n1(l:(List Wnt))(changes:Bool)(t1:Int):NF:=⟨[(0,.k,.sl 3 (l.map Wnt.v) false),(1,.k,.bool changes),(31,.k,.sl 3 (l.map Wnt.v) false),(32,.k,.int ((l.map Wnt.v).length:Int)),(33,.k,.int t1)],[]⟩
def checkR_n2(l:(List Wnt))(changes:Bool)(t2:Int):NF:=⟨[(0,.k,.sl 3 (l.map Wnt.v) false),(1,.k,.bool changes),(44,.k,.sl 3 (l.map Wnt.v) false),(45,.k,.int ((l.map Wnt.v).length:Int)),(46,.k,.int t2)],[]⟩
def checkR_n3(l:(List Wnt))(t3:Int):NF:=⟨[(0,.k,.sl 3 (l.map Wnt.v) false),(12,.k,.int t3)],[]⟩
@[reducible] def checkR_s:Nat→Type
 | 0=>Int
 | 1=>Int
 | 2=>Int
 | 3=>Int
 | _=>Unit
def checkR_e(r:Int):AV:=.int r
def checkR_x(l:(List Wnt))(changes:Bool)(I0:Int→Prop)(m0:Int→Nat)(I1:Int→Int→Prop)(m1:Int→Int→Nat)(I2:Int→Int→Int→Prop)(m2:Int→Int→Int→Nat)(I3:Int→Int→Int→Int→Prop)(m3:Int→Int→Int→Int→Nat):Ax Tryz.prog checkR_s (Int):=
 (.br 64 (decide (32<((l.map Wnt.v).length:Int))) (.ret (3))
(.loop 0 (checkR_n0 l changes) I0 m0 ((0):Int) [] fun (t0:Int) b0 =>
(.br 16 (decide (t0<((l.map Wnt.v).length:Int))) (.el 16 Wnt.v l (fun R=>Rf (l.map Wnt.v) (ck (decide (0≤t0)) (ck (decide (t0<(l.length:Int)))
(∀x1,l[t0.toNat]?=some x1 →
(R x1))))) fun x1 =>
(.br 144 (decide (x1.grp<1)) (.ret (2))
(.br 208 (decide (99<x1.grp)) (.ret (2))
(.bk 0 b0 ((W (t0+1)):Int) []))))
(.loop 1 (checkR_n1 l changes) (I1 t0) (m1 t0) ((0):Int) [] fun (t1:Int) b1 =>
(.br 16 (decide (t1<((l.map Wnt.v).length:Int))) (.el 16 Wnt.v l (fun R=>Rf (l.map Wnt.v) (ck (decide (0≤t1)) (ck (decide (t1<(l.length:Int)))
(∀x2,l[t1.toNat]?=some x2 →
(R x2))))) fun x2 =>
(.callP (FVal_c (⟨x2.mode,x2.srcs⟩:Flt))
(.br 176 ((fltErr (⟨x2.mode,x2.srcs⟩:Flt).mode (⟨x2.mode,x2.srcs⟩:Flt).srcs) != 0) (.ret (fltErr (⟨x2.mode,x2.srcs⟩:Flt).mode (⟨x2.mode,x2.srcs⟩:Flt).srcs))
(.bk 1 b1 ((W (t1+1)):Int) []))))
(.loop 2 (checkR_n2 l changes) (I2 t0 t1) (m2 t0 t1) ((0):Int) [] fun (t2:Int) b2 =>
(.br 16 (decide (t2<((l.map Wnt.v).length:Int))) (.el 16 Wnt.v l (fun R=>Rf (l.map Wnt.v) (ck (decide (0≤t2)) (ck (decide (t2<(l.length:Int)))
(∀x3,l[t2.toNat]?=some x3 →
(R x3))))) fun x3 =>
(.br 128 (!changes) (.callP (Nothing_c )
(.callP (FSame_c (⟨x3.mode,x3.srcs⟩:Flt) (⟨1,[]⟩:Flt))
(.br 208 (FSame (⟨x3.mode,x3.srcs⟩:Flt) (⟨1,[]⟩:Flt)) (.ret (1))
(.bk 2 b2 ((W (t2+1)):Int) []))))
(.bk 2 b2 ((W (t2+1)):Int) [])))
(.loop 3 (checkR_n3 l) (I3 t0 t1 t2) (m3 t0 t1 t2) ((1):Int) [] fun (t3:Int) b3 =>
(.br 64 (decide (t3<((l.map Wnt.v).length:Int))) (.el 112 Wnt.v l (fun R=>Rf (l.map Wnt.v) (ck (decide (0≤(W (t3-1)))) (ck (decide ((W (t3-1))<(l.length:Int)))
(∀x4,l[(W (t3-1)).toNat]?=some x4 →
(R x4))))) fun x4 =>
(.el 192 Wnt.v l (fun R=>Rf (l.map Wnt.v) (ck (decide (0≤t3)) (ck (decide (t3<(l.length:Int)))
(∀x5,l[t3.toNat]?=some x5 →
(R x5))))) fun x5 =>
(.br 256 (decide (x5.grp≤x4.grp)) (.ret (25))
(.bk 3 b3 ((W (t3+1)):Int) []))))
(.ret (0)))))))))))
def checkR_vc(l:(List Wnt))(changes:Bool)(I0:Int→Prop)(m0:Int→Nat)(I1:Int→Int→Prop)(m1:Int→Int→Nat)(I2:Int→Int→Int→Prop)(m2:Int→Int→Int→Nat)(I3:Int→Int→Int→Int→Prop)(m3:Int→Int→Int→Int→Nat)(r0:Int):Prop:=(checkR_x l changes I0 m0 I1 m1 I2 m2 I3 m3).vp checkR_e r0
theorem checkR_p(l:List Wnt)(chg:Bool)(ok:checkR_a l chg):∃I0 m0 I1 m1 I2 m2 I3 m3,checkR_vc l chg I0 m0 I1 m1 I2 m2 I3 m3 (wErr chg l):=by
 let R:Prop:=∀w∈l,1≤w.grp∧w.grp≤99
 let F:Prop:=∀w∈l,fltErr w.mode w.srcs=0
 let N:Prop:=chg=false→∀w∈l,¬isNoW w
 refine ⟨fun t=>∃k:Nat,t=k∧k≤l.length∧∀w∈l.take k,1≤w.grp∧w.grp≤99,fun t=>l.length-t.toNat,
  fun _ t=>R∧∃k:Nat,t=k∧k≤l.length∧∀w∈l.take k,fltErr w.mode w.srcs=0,fun _ t=>l.length-t.toNat,
  fun _ _ t=>R∧F∧∃k:Nat,t=k∧k≤l.length∧∀w∈l.take k,chg=false→¬isNoW w,fun _ _ t=>l.length-t.toNat,
  fun _ _ _ t=>R∧F∧N∧∃k:Nat,t=k∧1≤k∧k≤l.length+1∧∀j x y,j+1<k→l[j]?=some x→l[j+1]?=some y→x.grp<y.grp,fun _ _ _ t=>l.length+1-t.toNat,?_⟩
 dsimp only [checkR_vc,checkR_x,checkR_s,Ax.vp,Ax.vc];simp only [vcU,rfU,List.length_map]
 have hno:∀x:Wnt,FSame ⟨x.mode,x.srcs⟩ ⟨1,[]⟩=true↔isNoW x:=fun x=>by simp [FSame,isNoW]
 refine ⟨fun e=>by rw [wErr,if_pos (by omega)],fun e0=>⟨⟨0,rfl,by omega,by simp⟩,?_⟩⟩
 have e0:¬32<l.length:=by omega
 rintro _ ⟨k,rfl,hk,h⟩
 simp only [Int.toNat_natCast]
 refine ⟨fun h1=>⟨by omega,by omega,fun x hx=>?_⟩,fun h1=>?_⟩
 ·have bad:¬(1≤x.grp∧x.grp≤99)→2=wErr chg l:=fun h=>by
   rw [wErr,if_neg e0,if_pos fun h'=>h (h' x (mem_of_get hx))]
  refine ⟨fun e=>bad (by omega),fun e1=>⟨fun e=>bad (by omega),fun e2=>?_⟩⟩
  rw [W_succ (n:=l.length) (by omega) (by omega)]
  exact ⟨⟨k+1,rfl,by omega,all_take h hx ⟨by omega,by omega⟩⟩,by omega⟩
 rw [List.take_of_length_le (by omega)] at h
 have hR:R:=h
 have w1:wErr chg l=if wFErrs l≠0 then wFErrs l else if chg=false∧∃w∈l,isNoW w then 1 else if ¬(l.Pairwise fun x y=>x.grp<y.grp) then 25 else 0:=by
  rw [wErr,if_neg e0,if_neg (fun h=>h hR)]
 clear h h1 hk k
 refine ⟨⟨hR,0,rfl,by omega,by simp⟩,?_⟩
 rintro _ ⟨-,k,rfl,hk,h⟩
 simp only [Int.toNat_natCast]
 refine ⟨fun h1=>⟨by omega,by omega,fun x hx=>⟨fun e=>?_,fun e=>?_⟩⟩,fun h1=>?_⟩
 ·have e:fltErr x.mode x.srcs≠0:=by simpa using e
  have:wFErrs l=fltErr x.mode x.srcs:=orI_at (f:=fun x:Wnt=>fltErr x.mode x.srcs) h hx e
  rw [w1,this,if_pos e]
 ·rw [W_succ (n:=l.length) (by omega) (by omega)]
  exact ⟨⟨hR,k+1,rfl,by omega,all_take h hx (by simpa using e)⟩,by omega⟩
 rw [List.take_of_length_le (by omega)] at h
 have hF:F:=h
 have w2:wErr chg l=if chg=false∧∃w∈l,isNoW w then 1 else if ¬(l.Pairwise fun x y=>x.grp<y.grp) then 25 else 0:=by
  rw [w1,if_neg (fun hh=>hh (orI_all hF))]
 clear h h1 hk k
 refine ⟨⟨hR,hF,0,rfl,by omega,by simp⟩,?_⟩
 rintro _ ⟨-,-,k,rfl,hk,h⟩
 simp only [Int.toNat_natCast]
 refine ⟨fun h1=>⟨by omega,by omega,fun x hx=>?_⟩,fun h1=>?_⟩
 ·have step:(chg=false→¬isNoW x)→(R∧F∧∃k':Nat,W ((k:Int)+1)=k'∧k'≤l.length∧∀w∈l.take k',chg=false→¬isNoW w)∧l.length-(W ((k:Int)+1)).toNat<l.length-k:=by
   intro hs
   rw [W_succ (n:=l.length) (by omega) (by omega)]
   exact ⟨⟨hR,hF,k+1,rfl,by omega,all_take h hx hs⟩,by omega⟩
  refine ⟨fun e=>⟨fun e2=>?_,fun e2=>step fun _ hn=>?_⟩,fun e=>step fun hc=>?_⟩
  ·rw [w2,if_pos ⟨by simpa using e,x,mem_of_get hx,(hno x).mp e2⟩]
  ·rw [(hno x).mpr hn] at e2;cases e2
  ·simp [hc] at e
 rw [List.take_of_length_le (by omega)] at h
 have hN:N:=fun hc w hw=>h w hw hc
 have w3:wErr chg l=if ¬(l.Pairwise fun x y=>x.grp<y.grp) then 25 else 0:=by
  rw [w2,if_neg (fun ⟨hc,w,hw,hn⟩=>hN hc w hw hn)]
 clear h h1 hk k
 refine ⟨⟨hR,hF,hN,1,rfl,by omega,by omega,fun j x y hj=>by omega⟩,?_⟩
 rintro _ ⟨-,-,-,k,rfl,hk1,hk,h⟩
 refine ⟨fun h1=>?_,fun h1=>?_⟩
 ·rw [W_pred (by omega) hk1]
  simp only [Int.toNat_natCast]
  refine ⟨by omega,by omega,fun x hx=>⟨by omega,by omega,fun y hy=>⟨fun e=>?_,fun e=>?_⟩⟩⟩
  ·rw [w3,if_pos]
   intro hp
   have:x.grp<y.grp:=pw_get hp (show k-1<k by omega) hx hy
   omega
  ·rw [W_succ (n:=l.length) (by omega) (by omega)]
   refine ⟨⟨hR,hF,hN,k+1,rfl,by omega,by omega,fun j x' y' hj hx' hy'=>?_⟩,by omega⟩
   by_cases e':j+1=k
   ·subst e'
    rw [show j+1-1=j by omega,hx'] at hx;cases hx
    rw [hy'] at hy;cases hy;omega
   ·exact h j x' y' (by omega) hx' hy'
 ·rw [w3,if_neg]
  exact fun hh=>hh (pw_adj fun j x y hx hy=>h j x y (by have:=lt_of_get hy;omega) hx hy)
def checkR_c(l:(List Wnt))(changes:Bool):PC Tryz.prog:=⟨89,[(.s 3),.k],[.sl 3 (l.map Wnt.v) false,.bool changes],checkR_e (wErr changes l),PSpec.of_ok fun ok=>(checkR_p l changes ok).elim fun I0 h=>h.elim fun m0 h=>h.elim fun I1 h=>h.elim fun m1 h=>h.elim fun I2 h=>h.elim fun m2 h=>h.elim fun I3 h=>h.elim fun m3 h=>mxP_of (sh:=.k) (enc:=checkR_e) (a:=(checkR_x l changes I0 m0 I1 m1 I2 m2 I3 m3).an) h (by kernel_rfl) (AV.pureB_ok rfl),fnB_ok (by kernel_rfl)⟩
def valR_a(l:(List Wnt)):Prop:=okL [.sl 3 (l.map Wnt.v) false]
def valR_e(r:Int):AV:=.int r
def valR_x(l:(List Wnt)):Ax Tryz.prog noS (Int):=
 (.callP (checkR_c l false)
(.ret (wErr false l)))
def valR_vc(l:(List Wnt))(r0:Int):Prop:=(valR_x l).vp valR_e r0
theorem valR_p(l:List Wnt)(ok:valR_a l):valR_vc l (wErr false l):=by
 dsimp only [valR_vc,valR_x,noS,Ax.vp,Ax.vc];simp only [vcU,rfU,List.length_map]
def valR_c(l:(List Wnt)):PC Tryz.prog:=⟨47,[(.s 3)],[.sl 3 (l.map Wnt.v) false],valR_e (wErr false l),PSpec.of_ok fun ok=>mxP_of (sh:=.k) (enc:=valR_e) (a:=(valR_x l).an) (valR_p l ok) (by kernel_rfl) (AV.pureB_ok rfl),fnB_ok (by kernel_rfl)⟩
def findR_a(l:(List Wnt))(group:Int):Prop:=okL [.sl 3 (l.map Wnt.v) false,.int group]
def findR_n0(l:(List Wnt))(group:Int)(t0:Int):NF:=⟨[(1,.k,.int group),(4,.k,.ref 0 0),(7,.k,.sl 3 (l.map Wnt.v) false),(8,.k,.int ((l.map Wnt.v).length:Int)),(9,.k,.int t0)],[.box (.agg [.int 0,.sl 0 [] true])]⟩
@[reducible] def findR_s:Nat→Type
 | 0=>Int
 | _=>Unit
def findR_e(r:Flt):AV:=Flt.v r
def findR_x(l:(List Wnt))(group:Int)(I0:Int→Prop)(m0:Int→Nat):Ax Tryz.prog findR_s (Flt):=
 (.loop 0 (findR_n0 l group) I0 m0 ((0):Int) [0] fun (t0:Int) b0 =>
(.br 17 (decide (t0<((l.map Wnt.v).length:Int))) (.el 17 Wnt.v l (fun R=>Rf (l.map Wnt.v) (ck (decide (0≤t0)) (ck (decide (t0<(l.length:Int)))
(∀x1,l[t0.toNat]?=some x1 →
(R x1))))) fun x1 =>
(.br 145 (x1.grp==group) (.ret ((⟨x1.mode,x1.srcs⟩:Flt)))
(.bk 0 b0 ((W (t0+1)):Int) [0])))
(.callP (Nothing_c )
(.ret ((⟨1,[]⟩:Flt))))))
def findR_vc(l:(List Wnt))(group:Int)(I0:Int→Prop)(m0:Int→Nat)(r0:Flt):Prop:=(findR_x l group I0 m0).vp findR_e r0
theorem findR_p(l:List Wnt)(g:Int)(ok:findR_a l g):∃I m,findR_vc l g I m (findW l g):=by
 simp only [findR_a,okU,Blk.ok,plainV,List.length_map] at ok
 refine ⟨fun t=>∃k:Nat,t=k∧k≤l.length∧∀x∈l.take k,decide (x.grp=g)=false,fun t=>l.length-t.toNat,?_⟩
 dsimp only [findR_vc,findR_x,findR_s,Ax.vp,Ax.vc];simp only [vcU,rfU,List.length_map]
 refine ⟨⟨0,rfl,by omega,by simp⟩,?_⟩
 rintro _ ⟨k,rfl,hk,h⟩
 simp only [Int.toNat_natCast]
 have h:∀x∈l.take k,decide (x.grp=g)=false:=fun x hx=>decide_eq_false (h x hx)
 refine ⟨fun h1=>⟨by omega,by omega,fun x hx=>⟨fun e=>?_,fun e=>?_⟩⟩,fun h1=>?_⟩
 ·rw [findW,find_at h hx (by simpa using e)]
 ·rw [W_succ (n:=l.length) (by omega) (by omega)]
  refine ⟨⟨k+1,rfl,by omega,?_⟩,by omega⟩
  rw [take_succ hx]
  intro z hz
  rcases List.mem_append.mp hz with hz|hz
  ·simpa using h z hz
  ·rw [List.mem_singleton] at hz;subst hz;simpa using e
 ·rw [List.take_of_length_le (by omega)] at h
  rw [findW,List.find?_eq_none.mpr fun x hx=>by rw [h x hx];simp]
def findR_c(l:(List Wnt))(group:Int):PC Tryz.prog:=⟨49,[(.s 3),.k],[.sl 3 (l.map Wnt.v) false,.int group],findR_e (findW l group),PSpec.of_ok fun ok=>(findR_p l group ok).elim fun I0 h=>h.elim fun m0 h=>mxP_of (sh:=(.a [.k,(.s 1)])) (enc:=findR_e) (a:=(findR_x l group I0 m0).an) h (by kernel_rfl) (AV.pureB_ok rfl),fnB_ok (by kernel_rfl)⟩
def chgsR_a(old:(List Wnt))(new:(List Wnt)):Prop:=okL [.sl 3 (old.map Wnt.v) false,.sl 3 (new.map Wnt.v) false]
def chgsR_n0(old:(List Wnt))(new:(List Wnt))(t0:Int×(List Wnt)):NF:=⟨[(0,.k,.sl 3 (old.map Wnt.v) false),(1,.k,.sl 3 (new.map Wnt.v) false),(8,.k,.vec 0),(9,.k,.int t0.1)],[.vec 3 (t0.2.map Wnt.v) (pureBL_map (fun _=>rfl) t0.2)]⟩
@[reducible] def chgsR_s:Nat→Type
 | 0=>Int×(List Wnt)
 | _=>Unit
def chgsR_e(r:(List Wnt)×Int):AV:=.tup [.sl 3 (r.1.map Wnt.v) false,.int r.2]
def chgsR_x(old:(List Wnt))(new:(List Wnt))(I0:(Int×(List Wnt))→Prop)(m0:(Int×(List Wnt))→Nat):Ax Tryz.prog chgsR_s ((List Wnt)×Int):=
 (.callP (valR_c old)
(.br 112 ((wErr false old) != 0) (.ret ([],wErr false old))
(.callP (valR_c new)
(.br 192 ((wErr false new) != 0) (.ret ([],wErr false new))
(.cmdL (.nilT 8 3) (.loop 0 (chgsR_n0 old new) I0 m0 (1,[]) [224] fun (t0:Int×(List Wnt)) b0 =>
(.br 33 (decide (t0.1≤99)) (.callP (findR_c new t0.1)
(.callP (findR_c old t0.1)
(.callP (FSame_c (findW new t0.1) (findW old t0.1))
(.br 209 (!(FSame (findW new t0.1) (findW old t0.1))) (.say (fun R=>Rf (α:=List AV) (t0.2.map Wnt.v) (Rf (α:=List AV) [.agg [.int t0.1,.int ((findW new t0.1).mode),.sl 1 (((findW new t0.1).srcs).map AV.int) false]]
(ck (decide (t0.2.length+1≤1048576))
R))) (.app 289 Wnt.v t0.2 [(⟨t0.1,(findW new t0.1).mode,(findW new t0.1).srcs⟩:Wnt)]
(.bk 0 b0 (W (t0.1+1),t0.2++[(⟨t0.1,(findW new t0.1).mode,(findW new t0.1).srcs⟩:Wnt)]) [289])))
(.bk 0 b0 (W (t0.1+1),t0.2) [0])))))
(.br 81 (decide (32<((t0.2.map Wnt.v).length:Int))) (.ret ([],3))
(.say (Rf (t0.2.map Wnt.v)) (.cmdL (.frzE 0 (t0.2.map Wnt.v) (pureBL_map (fun _=>rfl) t0.2)) (.ret (t0.2,0))))))))))))
def chgsR_vc(old:(List Wnt))(new:(List Wnt))(I0:(Int×(List Wnt))→Prop)(m0:(Int×(List Wnt))→Nat)(r0:(List Wnt)×Int):Prop:=(chgsR_x old new I0 m0).vp chgsR_e r0
theorem chgsR_p(a b:List Wnt)(ok:chgsR_a a b):∃I m,chgsR_vc a b I m (changes a b):=by
 refine ⟨fun t=>∃k:Nat,t=(((k+1:Nat):Int),chgsTo a b k)∧k≤99,fun t=>100-t.1.toNat,?_⟩
 dsimp only [chgsR_vc,chgsR_x,chgsR_s,Ax.vp,Ax.vc];simp only [vcU,rfU,List.length_map]
 by_cases h1:wErr false a=0
 case neg=>simp [changes,h1]
 by_cases h2:wErr false b=0
 case neg=>simp [changes,h1,h2]
 have e:changes a b=if 32<(chgsTo a b 99).length then ([],3) else (chgsTo a b 99,0):=by
  rw [changes,if_neg (not_not_intro h1),if_neg (not_not_intro h2)]
 refine ⟨fun c=>by simp [h1] at c,fun _=>⟨fun c=>by simp [h2] at c,fun _=>⟨⟨0,rfl,by omega⟩,?_⟩⟩⟩
 rintro _ ⟨k,rfl,hk⟩
 have hl:=chgsTo_len a b k
 refine ⟨fun c=>?_,fun c=>?_⟩
 ·have c:k<99:=by simp only at c;omega
  simp only [W_succ (k:=k+1) (n:=100) (by omega) (by omega)]
  refine ⟨fun d=>⟨by omega,⟨k+1,?_,by omega⟩,by omega⟩,fun d=>⟨⟨k+1,?_,by omega⟩,by omega⟩⟩
  ·rw [chgsTo,chgs1,if_neg (by simpa [FSame] using d)];rfl
  ·rw [chgsTo,chgs1,if_pos (by simpa [FSame] using d),List.append_nil]
 ·have c:k=99:=by simp only at c;omega
  subst c
  rw [e]
  simp only
  refine ⟨fun d=>by rw [if_pos (by omega)],fun d=>by rw [if_neg (by omega)]⟩
def chgsR_c(old:(List Wnt))(new:(List Wnt)):PC Tryz.prog:=⟨76,[(.s 3),(.s 3)],[.sl 3 (old.map Wnt.v) false,.sl 3 (new.map Wnt.v) false],chgsR_e (changes old new),PSpec.of_ok fun ok=>(chgsR_p old new ok).elim fun I0 h=>h.elim fun m0 h=>mxP_of (sh:=(.a [(.s 3),.k])) (enc:=chgsR_e) (a:=(chgsR_x old new I0 m0).an) h (by kernel_rfl) (AV.pureB_ok rfl),fnB_ok (by kernel_rfl)⟩
def wntF(f:Flt)(s:Int):Bool:=decide (fltErr f.mode f.srcs=0) && (decide (1≤s) && (decide (s∈f.srcs)==decide (f.mode=1)))
def wntF_a(f:Flt)(source:Int):Prop:=okL [.agg [.int f.mode,.sl 1 (f.srcs.map AV.int) false],.int source]
def wntF_e(r:Bool):AV:=.bool r
def wntF_x(f:Flt)(source:Int):Ax Tryz.prog noS (Bool):=
 (.callP (FVal_c f)
(.br 96 ((fltErr f.mode f.srcs)==0) (.br 160 (decide (1≤source)) (.callP (InI_c f.srcs source)
(.ret ((InI f.srcs source)==(f.mode==1))))
(.ret (false)))
(.ret (false))))
def wntF_vc(f:Flt)(source:Int)(r0:Bool):Prop:=(wntF_x f source).vp wntF_e r0
theorem wntF_p(f:Flt)(source:Int)(ok:wntF_a f source):wntF_vc f source (wntF f source):=by
 dsimp only [wntF_vc,wntF_x,noS,Ax.vp,Ax.vc];simp only [vcU,rfU,List.length_map]
 refine ⟨fun c=>?_,fun c=>?_⟩
 ·have c:fltErr f.mode f.srcs=0:=eq_of_beq c
  refine ⟨fun d=>?_,fun d=>?_⟩
  ·rw [wntF,decide_eq_true c,decide_eq_true d];rfl
  ·rw [wntF,decide_eq_false d];simp
 ·have c:¬fltErr f.mode f.srcs=0:=by simpa using c
  rw [wntF,decide_eq_false c];rfl
def wntF_c(f:Flt)(source:Int):PC Tryz.prog:=⟨48,[(.a [.k,(.s 1)]),.k],[.agg [.int f.mode,.sl 1 (f.srcs.map AV.int) false],.int source],wntF_e (wntF f source),PSpec.of_ok fun ok=>mxP_of (sh:=.k) (enc:=wntF_e) (a:=(wntF_x f source).an) (wntF_p f source ok) (by kernel_rfl) (AV.pureB_ok rfl),fnB_ok (by kernel_rfl)⟩
def frs(k:Nat):List Int:=(List.range k).map fun (i:Nat)=>(i:Int)+1
theorem frs_succ(k:Nat):frs (k+1)=frs k++[(k:Int)+1]:=by unfold frs;rw [List.range_succ,List.map_append];rfl
theorem frs_len(k:Nat):(frs k).length=k:=by unfold frs;simp
def ofF(w:List Bool)(g:Bool):Flt:=⟨if g=true then 2 else 1,(frs 99).filter fun s=>!(w.getD s.toNat false==g)⟩
def ofF_a(want:(List Bool))(greater:Bool):Prop:=okL [.agg (want.map AV.bool),.bool greater]
def ofF_n0(want:(List Bool))(greater:Bool)(t0:Int):NF:=⟨[(1,.k,.bool greater),(2,.k,.ref 0 0),(4,.k,.ref 1 0),(5,.k,.ref 2 0)],[.arr (want.map AV.bool) (pureBL_map (fun _=>rfl) want),.box (.agg [.int 0,.sl 0 [] true]),.box (.agg [.int t0,.sl 0 [] true])]⟩
def ofF_n1(want:(List Bool))(greater:Bool)(t0:Int)(t1:Int×(List Int)):NF:=⟨[(1,.k,.bool greater),(2,.k,.ref 0 0),(4,.k,.ref 1 0),(5,.k,.ref 2 0),(6,.k,.int t1.1)],[.arr (want.map AV.bool) (pureBL_map (fun _=>rfl) want),.box (.agg [.int 0,.sl 0 [] true]),.box (.agg [.int t0,.vec 3]),.vec 1 (t1.2.map AV.int) (pureBL_map (fun _=>rfl) t1.2)]⟩
@[reducible] def ofF_s:Nat→Type
 | 0=>Int
 | 1=>Int×(List Int)
 | _=>Unit
def ofF_e(r:Flt):AV:=Flt.v r
def ofF_x(want:(List Bool))(greater:Bool)(I0:Int→Prop)(I1:Int→(Int×(List Int))→Prop)(m1:Int→(Int×(List Int))→Nat):Ax Tryz.prog ofF_s (Flt):=
 (.pass (.pass (.join 0 (ofF_n0 want greater) (fun (t0:Int)=>I0 t0) (fun b0=>(.br 96 greater (.bk 0 b0 ((2):Int) [0,16,48])
(.bk 0 b0 ((1):Int) [0,16,48]))) fun (t0:Int) =>
(.cmdL (.nilB 2 1 1) (.loop 1 (ofF_n1 want greater t0) (I1 t0) (m1 t0) (1,[]) [0,1,2,19] fun (t1:Int×(List Int)) b1 =>
(.br 36 (decide (t1.1≤99)) (.say (ck (cond (decide (0≤t1.1)) (decide (t1.1<100)) false)) (.el 68 AV.bool want (fun R=>Rf (want.map AV.bool) (ck (decide ((0+(t1.1.toNat * 1))<want.length))
(∀x1,want[(0+(t1.1.toNat * 1))]?=some x1 →
(R x1)))) fun x1 =>
(.br 116 (!(x1==greater)) (.say (fun R=>Rf (α:=List AV) (t1.2.map AV.int) (Rf (α:=List AV) [.int t1.1]
(ck (decide (t1.2.length+1≤1048576))
R))) (.app 180 AV.int t1.2 [t1.1]
(.bk 1 b1 (W (t1.1+1),t1.2++[t1.1]) [0,1,2,180])))
(.bk 1 b1 (W (t1.1+1),t1.2) [0,1,2,3]))))
(.say (Rf (t1.2.map AV.int)) (.cmdL (.frzE 3 (t1.2.map AV.int) (pureBL_map (fun _=>rfl) t1.2)) (.ret ((⟨t0,t1.2⟩:Flt)))))))))))
def ofF_vc(want:(List Bool))(greater:Bool)(I0:Int→Prop)(I1:Int→(Int×(List Int))→Prop)(m1:Int→(Int×(List Int))→Nat)(r0:Flt):Prop:=(ofF_x want greater I0 I1 m1).vp ofF_e r0
theorem ofF_p(w:List Bool)(g:Bool)(hw:w.length=100)(ok:ofF_a w g):∃I0 I1 m1,ofF_vc w g I0 I1 m1 (ofF w g):=by
 refine ⟨fun t=>t=if g=true then 2 else 1,fun _ t=>∃k:Nat,t.1=((k+1:Nat):Int)∧k≤99∧t.2=(frs k).filter fun s=>!(w.getD s.toNat false==g),fun _ t=>100-t.1.toNat,?_⟩
 dsimp only [ofF_vc,ofF_x,ofF_s,Ax.vp,Ax.vc];simp only [vcU,rfU,List.length_map]
 refine ⟨⟨fun c=>by rw [if_pos c],fun c=>by rw [c];rfl⟩,?_⟩
 rintro t rfl
 refine ⟨⟨0,rfl,by omega,rfl⟩,?_⟩
 rintro ⟨i,out⟩ ⟨k,hi,hk,ho⟩
 simp only at hi ho ⊢
 subst hi
 refine ⟨fun c=>?_,fun c=>?_⟩
 ·have h1:(bif decide ((0:Int)≤((k+1:Nat):Int)) then decide ((((k+1:Nat):Int))<100) else false)=true:=by
   rw [decide_eq_true (show (0:Int)≤((k+1:Nat):Int) by omega),decide_eq_true (show ((k+1:Nat):Int)<100 by omega)];rfl
  refine ⟨h1,by omega,fun x hx=>?_⟩
  have hx:w.getD (((k+1:Nat):Int)).toNat false=x:=by
   rw [List.getD_eq_getElem?_getD,show (((k+1:Nat):Int)).toNat=0+(((k+1:Nat):Int)).toNat * 1 by omega,hx];rfl
  have hf:((frs (k+1)).filter fun s=>!(w.getD s.toNat false==g))=out++(if (!(x==g))=true then [((k+1:Nat):Int)] else []):=by
   rw [frs_succ,List.filter_append,←ho]
   have e:((k:Int)+1)=((k+1:Nat):Int):=by omega
   rw [e,List.filter_cons,List.filter_nil,hx]
  have hlen:out.length≤99:=by rw [ho];exact Nat.le_trans (List.length_filter_le _ _) (by rw [frs_len];omega)
  rw [W_succ (k:=k+1) (n:=101) (by omega) (by omega)]
  refine ⟨fun d=>⟨by omega,⟨k+1,rfl,by omega,?_⟩,by omega⟩,fun d=>⟨⟨k+1,rfl,by omega,?_⟩,by omega⟩⟩
  ·rw [hf,if_pos d]
  ·rw [hf,d];simp
 ·have:k=99:=by omega
  subst this
  rw [ofF,ho]
def ofF_c(want:(List Bool))(greater:Bool)(hw:want.length=100):PC Tryz.prog:=⟨120,[.k,.k],[.agg (want.map AV.bool),.bool greater],ofF_e (ofF want greater),PSpec.of_ok fun ok=>(ofF_p want greater hw ok).elim fun I0 h=>h.elim fun I1 h=>h.elim fun m1 h=>mxP_of (sh:=(.a [.k,(.s 1)])) (enc:=ofF_e) (a:=(ofF_x want greater I0 I1 m1).an) h (by kernel_rfl) (AV.pureB_ok rfl),fnB_ok (by kernel_rfl)⟩
def cmbB(both x y:Bool):Bool:=(x && y) || (!both && (x || y))
def wnB(Z:Int→Bool)(k:Nat):List Bool:=(List.range 100).map fun (j:Nat)=>decide (1≤j∧j≤k) && Z j
theorem wnB_len{Z:Int→Bool}{k:Nat}:(wnB Z k).length=100:=by unfold wnB;simp
theorem wnB_get{Z:Int→Bool}{k j:Nat}(h:j<100):(wnB Z k)[j]?=some (decide (1≤j∧j≤k) && Z j):=by
 unfold wnB
 rw [List.getElem?_map,List.getElem?_range h];rfl
theorem wnB_zero{Z:Int→Bool}:wnB Z 0=List.replicate 100 false:=by
 refine List.ext_getElem? fun j=>?_
 by_cases h:j<100
 ·rw [wnB_get h,decide_eq_false (by omega),List.getElem?_replicate,if_pos h];rfl
 ·rw [List.getElem?_eq_none (by rw [wnB_len];omega),List.getElem?_eq_none (by simp;omega)]
theorem wnB_set{Z:Int→Bool}{k:Nat}(h:k<99):(wnB Z k).set (k+1) (Z ((k+1:Nat):Int))=wnB Z (k+1):=by
 refine List.ext_getElem? fun j=>?_
 rw [List.getElem?_set,wnB_len]
 by_cases e:k+1=j
 ·subst e
  rw [if_pos rfl,if_pos (by omega),wnB_get (by omega),decide_eq_true (by omega)];rfl
 ·rw [if_neg e]
  by_cases hj:j<100
  ·rw [wnB_get hj,wnB_get hj]
   congr 2
   rw [decide_eq_decide];omega
  ·rw [List.getElem?_eq_none (by rw [wnB_len];omega),List.getElem?_eq_none (by rw [wnB_len];omega)]
def cmbZ(a b:Flt)(both:Bool)(s:Int):Bool:=cmbB both (wntF a s) (wntF b s)
def cmbF(a b:Flt)(both:Bool):Flt×Int:=
 if fltErr a.mode a.srcs≠0 then (⟨0,[]⟩,fltErr a.mode a.srcs) else if fltErr b.mode b.srcs≠0 then (⟨0,[]⟩,fltErr b.mode b.srcs)
 else (ofF (wnB (cmbZ a b both) 99) (cmbZ a b both 100),0)
def cmbF_a(a:Flt)(b:Flt)(both:Bool):Prop:=okL [.agg [.int a.mode,.sl 1 (a.srcs.map AV.int) false],.agg [.int b.mode,.sl 1 (b.srcs.map AV.int) false],.bool both]
def cmbF_n0(a:Flt)(b:Flt)(both:Bool)(t0:Int×(List Bool)×Bool):NF:=⟨[(2,.k,.bool both),(3,.k,.ref 0 0),(4,.k,.ref 1 0),(6,.k,.ref 2 0),(10,.k,.ref 3 0),(11,.k,.bool t0.2.2),(12,.k,.int t0.1)],[.box (.agg [.int a.mode,.sl 1 (a.srcs.map AV.int) false]),.box (.agg [.int b.mode,.sl 1 (b.srcs.map AV.int) false]),.box (.agg [.int 0,.sl 0 [] true]),.arr (t0.2.1.map AV.bool) (pureBL_map (fun _=>rfl) t0.2.1)]⟩
def cmbF_n1(a:Flt)(b:Flt)(both:Bool)(t0:Int×(List Bool)×Bool)(t1:Bool):NF:=⟨[(2,.k,.bool both),(3,.k,.ref 0 0),(4,.k,.ref 1 0),(6,.k,.ref 2 0),(10,.k,.ref 3 0),(11,.k,.bool t0.2.2),(12,.k,.int t0.1),(15,.k,.bool t1)],[.box (.agg [.int a.mode,.sl 1 (a.srcs.map AV.int) false]),.box (.agg [.int b.mode,.sl 1 (b.srcs.map AV.int) false]),.box (.agg [.int 0,.sl 0 [] true]),.arr (t0.2.1.map AV.bool) (pureBL_map (fun _=>rfl) t0.2.1)]⟩
@[reducible] def cmbF_s:Nat→Type
 | 0=>Int×(List Bool)×Bool
 | 1=>Bool
 | _=>Unit
def cmbF_e(r:Flt×Int):AV:=.tup [Flt.v r.1,.int r.2]
def cmbF_x(a:Flt)(b:Flt)(both:Bool)(I0:(Int×(List Bool)×Bool)→Prop)(m0:(Int×(List Bool)×Bool)→Nat)(I1:Int×(List Bool)×Bool→Bool→Prop):Ax Tryz.prog cmbF_s (Flt×Int):=
 (.callP (FVal_c a)
(.br 144 ((fltErr a.mode a.srcs) != 0) (.ret ((⟨0,[]⟩:Flt),fltErr a.mode a.srcs))
(.callP (FVal_c b)
(.br 224 ((fltErr b.mode b.srcs) != 0) (.ret ((⟨0,[]⟩:Flt),fltErr b.mode b.srcs))
(.loop 0 (cmbF_n0 a b both) I0 m0 (1,List.replicate 100 false,false) [0,16,32,224] fun (t0:Int×(List Bool)×Bool) b0 =>
(.br 36 (decide (t0.1≤100)) (.callP (wntF_c a t0.1)
(.callP (wntF_c b t0.1)
(.join 1 (cmbF_n1 a b both t0) (fun (t1:Bool)=>I1 t0 t1) (fun b1=>(.br 196 (wntF a t0.1) (.br 244 (wntF b t0.1) (.bk 1 b1 ((true):Bool) [0,1,2,3])
(.br 292 (!both) (.br 324 (wntF a t0.1) (.bk 1 b1 ((true):Bool) [0,1,2,3])
(.bk 1 b1 ((wntF b t0.1):Bool) [0,1,2,3]))
(.bk 1 b1 ((false):Bool) [0,1,2,3])))
(.br 292 (!both) (.br 324 (wntF a t0.1) (.bk 1 b1 ((true):Bool) [0,1,2,3])
(.bk 1 b1 ((wntF b t0.1):Bool) [0,1,2,3]))
(.bk 1 b1 ((false):Bool) [0,1,2,3])))) fun (t1:Bool) =>
(.br 36 (decide (t0.1≤99)) (.say (ck (cond (decide (0≤t0.1)) (decide (t0.1<100)) false)) (.st 84 AV.bool t0.2.1 (fun _=>t1) (fun R=>Rf (t0.2.1.map AV.bool) (ck (decide ((0+(t0.1.toNat * 1))<t0.2.1.length))
(∀y1,t0.2.1[(0+(t0.1.toNat * 1))]?=some y1→Rf (AV.bool t1)
((R y1))))) fun y1 =>
(.bk 0 b0 (W (t0.1+1),t0.2.1.set (0+(t0.1.toNat * 1)) t1,t0.2.2) [0,1,2,3])))
(.bk 0 b0 (W (t0.1+1),t0.2.1,t1) [0,1,2,3])))))
(.say (fun R=>Rf (t0.2.1.map AV.bool) (ck (decide (t0.2.1.length=100))
R)) (.sub 36 AV.bool t0.2.1 false
(.req 68 (t0.2.1.length=100) fun h2 =>
(.callA (ofF_c t0.2.1 t0.2.2 h2) (id (α:=pureL [.agg (t0.2.1.map AV.bool),.bool t0.2.2]) (pureBL_ok (by simp [pureBL,AV.pureB,pureBL_map (v:=AV.bool) (fun _=>rfl)])))
(.ret (ofF t0.2.1 t0.2.2,0))))))))))))
def cmbF_vc(a:Flt)(b:Flt)(both:Bool)(I0:(Int×(List Bool)×Bool)→Prop)(m0:(Int×(List Bool)×Bool)→Nat)(I1:Int×(List Bool)×Bool→Bool→Prop)(r0:Flt×Int):Prop:=(cmbF_x a b both I0 m0 I1).vp cmbF_e r0
theorem cmbF_p(a b:Flt)(both:Bool)(ok:cmbF_a a b both):∃I0 m0 I1,cmbF_vc a b both I0 m0 I1 (cmbF a b both):=by
 refine ⟨fun t=>∃k:Nat,t.1=((k+1:Nat):Int)∧k≤100∧t.2.1=wnB (cmbZ a b both) (min k 99)∧(k=100→t.2.2=cmbZ a b both 100),fun t=>101-t.1.toNat,fun s t=>t=cmbZ a b both s.1,?_⟩
 dsimp only [cmbF_vc,cmbF_x,cmbF_s,Ax.vp,Ax.vc];simp only [vcU,rfU,List.length_map]
 refine ⟨fun c=>?_,fun c=>⟨fun d=>?_,fun d=>⟨⟨0,rfl,by omega,wnB_zero.symm,by omega⟩,?_⟩⟩⟩
 ·rw [cmbF,if_pos (by simpa using c)]
 ·rw [cmbF,if_neg (by simpa using c),if_pos (by simpa using d)]
 rintro ⟨i,w,g⟩ ⟨k,hi,hk,hw,hg⟩
 simp only at hi hw hg ⊢
 subst hi
 refine ⟨fun h=>⟨?_,?_⟩,fun h=>?_⟩
 ·unfold cmbZ cmbB
  cases wntF a ((k+1:Nat):Int)<;>cases wntF b ((k+1:Nat):Int)<;>cases both<;>simp
 ·rintro z rfl
  have hb:w.length=100:=by rw [hw,wnB_len]
  refine ⟨fun h2=>⟨?_,by omega,fun y hy=>?_⟩,fun h2=>?_⟩
  ·rw [decide_eq_true (show (0:Int)≤((k+1:Nat):Int) by omega),decide_eq_true (show ((k+1:Nat):Int)<100 by omega)];rfl
  ·have e:0+(((k+1:Nat):Int)).toNat * 1=k+1:=by omega
   rw [e,W_succ (k:=k+1) (n:=102) (by omega) (by omega),hw,show min k 99=k by omega,wnB_set (by omega)]
   exact ⟨⟨k+1,rfl,by omega,by rw [show min (k+1) 99=k+1 by omega],by omega⟩,by omega⟩
  ·have e:k=99:=by omega
   subst e
   rw [W_succ (k:=99+1) (n:=102) (by omega) (by omega)]
   exact ⟨⟨100,rfl,by omega,hw,fun _=>rfl⟩,by omega⟩
 ·have e:k=100:=by omega
  subst e
  rw [cmbF,if_neg (by simpa using c),if_neg (by simpa using d),hg rfl,hw]
  exact ⟨wnB_len,wnB_len,rfl⟩
def cmbF_c(a:Flt)(b:Flt)(both:Bool):PC Tryz.prog:=⟨88,[(.a [.k,(.s 1)]),(.a [.k,(.s 1)]),.k],[.agg [.int a.mode,.sl 1 (a.srcs.map AV.int) false],.agg [.int b.mode,.sl 1 (b.srcs.map AV.int) false],.bool both],cmbF_e (cmbF a b both),PSpec.of_ok fun ok=>(cmbF_p a b both ok).elim fun I0 h=>h.elim fun m0 h=>h.elim fun I1 h=>mxP_of (sh:=(.a [(.a [.k,(.s 1)]),.k])) (enc:=cmbF_e) (a:=(cmbF_x a b both I0 m0 I1).an) h (by kernel_rfl) (AV.pureB_ok rfl),fnB_ok (by kernel_rfl)⟩
abbrev unF(a b:Flt):Flt×Int:=cmbF a b false
def unF_a(a:Flt)(b:Flt):Prop:=okL [.agg [.int a.mode,.sl 1 (a.srcs.map AV.int) false],.agg [.int b.mode,.sl 1 (b.srcs.map AV.int) false]]
def unF_e(r:Flt×Int):AV:=.tup [Flt.v r.1,.int r.2]
def unF_x(a:Flt)(b:Flt):Ax Tryz.prog noS (Flt×Int):=
 (.callP (cmbF_c a b false)
(.ret ((cmbF a b false).1,(cmbF a b false).2)))
def unF_vc(a:Flt)(b:Flt)(r0:Flt×Int):Prop:=(unF_x a b).vp unF_e r0
theorem unF_p(a b:Flt)(ok:unF_a a b):unF_vc a b (unF a b):=by
 dsimp only [unF_vc,unF_x,noS,Ax.vp,Ax.vc];simp only [vcU,rfU,List.length_map]
def unF_c(a:Flt)(b:Flt):PC Tryz.prog:=⟨46,[(.a [.k,(.s 1)]),(.a [.k,(.s 1)])],[.agg [.int a.mode,.sl 1 (a.srcs.map AV.int) false],.agg [.int b.mode,.sl 1 (b.srcs.map AV.int) false]],unF_e (unF a b),PSpec.of_ok fun ok=>mxP_of (sh:=(.a [(.a [.k,(.s 1)]),.k])) (enc:=unF_e) (a:=(unF_x a b).an) (unF_p a b ok) (by kernel_rfl) (AV.pureB_ok rfl),fnB_ok (by kernel_rfl)⟩
def bfrM(x:Mem)(g h:Int):Bool:=decide (x.grp<g) || (x.grp==g && decide (x.host<h))
def bfrM_a(x:Mem)(group:Int)(host:Int):Prop:=okL [.agg [.int x.host,.int x.grp,.int x.mode,.sl 1 (x.srcs.map AV.int) false,.int x.til],.int group,.int host]
def bfrM_e(r:Bool):AV:=.bool r
def bfrM_x(x:Mem)(group:Int)(host:Int):Ax Tryz.prog noS (Bool):=
 (.br 112 (decide (x.grp<group)) (.ret (true))
(.br 192 (x.grp==group) (.ret (decide (x.host<host)))
(.ret (false))))
def bfrM_vc(x:Mem)(group:Int)(host:Int)(r0:Bool):Prop:=(bfrM_x x group host).vp bfrM_e r0
theorem bfrM_p(x:Mem)(g h:Int)(ok:bfrM_a x g h):bfrM_vc x g h (bfrM x g h):=by
 dsimp only [bfrM_vc,bfrM_x,noS,Ax.vp,Ax.vc];simp only [vcU,rfU,List.length_map]
 refine ⟨fun c=>by simp [bfrM,c],fun c=>⟨fun d=>by simp [bfrM,c,d],fun d=>by simp [bfrM,c,d]⟩⟩
def bfrM_c(x:Mem)(group:Int)(host:Int):PC Tryz.prog:=⟨87,[(.a [.k,.k,.k,(.s 1),.k]),.k,.k],[.agg [.int x.host,.int x.grp,.int x.mode,.sl 1 (x.srcs.map AV.int) false,.int x.til],.int group,.int host],bfrM_e (bfrM x group host),PSpec.of_ok fun ok=>mxP_of (sh:=.k) (enc:=bfrM_e) (a:=(bfrM_x x group host).an) (bfrM_p x group host ok) (by kernel_rfl) (AV.pureB_ok rfl),fnB_ok (by kernel_rfl)⟩
def memRng(now:Int)(x:Mem):Prop:=(1≤x.host∧x.host≤99)∧(1≤x.grp∧x.grp≤99)∧now≤x.til∧x.til≤now+1000
instance (now:Int) (x:Mem):Decidable (memRng now x):=by unfold memRng;infer_instance
def memLs(x y:Mem):Prop:=bfrM x y.grp y.host=true
instance (x y:Mem):Decidable (memLs x y):=by unfold memLs;infer_instance
theorem memLs_tr(x y z:Mem)(h:memLs x y)(k:memLs y z):memLs x z:=by
 simp only [memLs,bfrM,Bool.or_eq_true,Bool.and_eq_true,decide_eq_true_eq,beq_iff_eq] at *
 omega
def memErr(m:Mems):Int:=
 if ¬(0≤m.now∧m.now≤1000000) then 2 else if 64<m.list.length then 3 else if ¬∀x∈m.list,memRng m.now x then 2
 else if orI (m.list.map fun x=>fltErr x.mode x.srcs)≠0 then orI (m.list.map fun x=>fltErr x.mode x.srcs)
 else if ∃x∈m.list,x.mode=1∧x.srcs=[] then 1 else if ¬m.list.Pairwise memLs then 25 else 0
def memV_a(m:Mems):Prop:=okL [.agg [.int m.now,.sl 5 (m.list.map Mem.v) false]]
def memV_n0(m:Mems)(t0:Bool):NF:=⟨[(1,.k,.ref 0 0),(18,.k,.bool t0)],[.box (.agg [.int m.now,.sl 5 (m.list.map Mem.v) false])]⟩
def memV_n1(m:Mems)(t1:Int):NF:=⟨[(1,.k,.ref 0 0),(24,.k,.sl 5 (m.list.map Mem.v) false),(25,.k,.int ((m.list.map Mem.v).length:Int)),(26,.k,.int t1)],[.box (.agg [.int m.now,.sl 5 (m.list.map Mem.v) false])]⟩
def memV_n2(m:Mems)(t1:Int)(t2:Bool):NF:=⟨[(1,.k,.ref 0 0),(24,.k,.sl 5 (m.list.map Mem.v) false),(25,.k,.int ((m.list.map Mem.v).length:Int)),(26,.k,.int t1),(62,.k,.bool t2)],[.box (.agg [.int m.now,.sl 5 (m.list.map Mem.v) false])]⟩
def memV_n3(m:Mems)(t3:Int):NF:=⟨[(1,.k,.ref 0 0),(65,.k,.sl 5 (m.list.map Mem.v) false),(66,.k,.int ((m.list.map Mem.v).length:Int)),(67,.k,.int t3)],[.box (.agg [.int m.now,.sl 5 (m.list.map Mem.v) false])]⟩
def memV_n4(m:Mems)(t4:Int):NF:=⟨[(1,.k,.ref 0 0),(79,.k,.sl 5 (m.list.map Mem.v) false),(80,.k,.int ((m.list.map Mem.v).length:Int)),(81,.k,.int t4)],[.box (.agg [.int m.now,.sl 5 (m.list.map Mem.v) false])]⟩
def memV_n5(m:Mems)(t5:Int):NF:=⟨[(1,.k,.ref 0 0),(10,.k,.int t5)],[.box (.agg [.int m.now,.sl 5 (m.list.map Mem.v) false])]⟩
@[reducible] def memV_s:Nat→Type
 | 0=>Bool
 | 1=>Int
 | 2=>Bool
 | 3=>Int
 | 4=>Int
 | 5=>Int
 | _=>Unit
def memV_e(r:Int):AV:=.int r
def memV_x(m:Mems)(I0:Bool→Prop)(I1:Bool→Int→Prop)(m1:Bool→Int→Nat)(I2:Bool→Int→Mem→Bool→Prop)(I3:Bool→Int→Int→Prop)(m3:Bool→Int→Int→Nat)(I4:Bool→Int→Int→Int→Prop)(m4:Bool→Int→Int→Int→Nat)(I5:Bool→Int→Int→Int→Int→Prop)(m5:Bool→Int→Int→Int→Int→Nat):Ax Tryz.prog memV_s (Int):=
 (.pass (.pass (.join 0 (memV_n0 m) (fun (t0:Bool)=>I0 t0) (fun b0=>(.br 96 (decide (m.now<0)) (.bk 0 b0 ((true):Bool) [0])
(.bk 0 b0 ((decide (1000000<m.now)):Bool) [0]))) fun (t0:Bool) =>
(.br 1 t0 (.ret (2))
(.br 65 (decide (64<((m.list.map Mem.v).length:Int))) (.ret (3))
(.loop 1 (memV_n1 m) (I1 t0) (m1 t0) ((0):Int) [0] fun (t1:Int) b1 =>
(.br 17 (decide (t1<((m.list.map Mem.v).length:Int))) (.el 17 Mem.v m.list (fun R=>Rf (m.list.map Mem.v) (ck (decide (0≤t1)) (ck (decide (t1<(m.list.length:Int)))
(∀x1,m.list[t1.toNat]?=some x1 →
(R x1))))) fun x1 =>
(.join 2 (memV_n2 m t1) (fun (t2:Bool)=>I2 t0 t1 x1 t2) (fun b2=>(.br 145 (decide (x1.host<1)) (.bk 2 b2 ((true):Bool) [0])
(.br 225 (decide (99<x1.host)) (.bk 2 b2 ((true):Bool) [0])
(.br 305 (decide (x1.grp<1)) (.bk 2 b2 ((true):Bool) [0])
(.br 385 (decide (99<x1.grp)) (.bk 2 b2 ((true):Bool) [0])
(.br 497 (decide (x1.til<m.now)) (.bk 2 b2 ((true):Bool) [0])
(.bk 2 b2 ((decide ((W (m.now+1000))<x1.til)):Bool) [0]))))))) fun (t2:Bool) =>
(.br 1 t2 (.ret (2))
(.bk 1 b1 ((W (t1+1)):Int) [0]))))
(.loop 3 (memV_n3 m) (I3 t0 t1) (m3 t0 t1) ((0):Int) [0] fun (t3:Int) b3 =>
(.br 17 (decide (t3<((m.list.map Mem.v).length:Int))) (.el 17 Mem.v m.list (fun R=>Rf (m.list.map Mem.v) (ck (decide (0≤t3)) (ck (decide (t3<(m.list.length:Int)))
(∀x2,m.list[t3.toNat]?=some x2 →
(R x2))))) fun x2 =>
(.callP (FVal_c (⟨x2.mode,x2.srcs⟩:Flt))
(.br 177 ((fltErr (⟨x2.mode,x2.srcs⟩:Flt).mode (⟨x2.mode,x2.srcs⟩:Flt).srcs) != 0) (.ret (fltErr (⟨x2.mode,x2.srcs⟩:Flt).mode (⟨x2.mode,x2.srcs⟩:Flt).srcs))
(.bk 3 b3 ((W (t3+1)):Int) [0]))))
(.loop 4 (memV_n4 m) (I4 t0 t1 t3) (m4 t0 t1 t3) ((0):Int) [0] fun (t4:Int) b4 =>
(.br 17 (decide (t4<((m.list.map Mem.v).length:Int))) (.el 17 Mem.v m.list (fun R=>Rf (m.list.map Mem.v) (ck (decide (0≤t4)) (ck (decide (t4<(m.list.length:Int)))
(∀x3,m.list[t4.toNat]?=some x3 →
(R x3))))) fun x3 =>
(.callP (Nothing_c )
(.callP (FSame_c (⟨x3.mode,x3.srcs⟩:Flt) (⟨1,[]⟩:Flt))
(.br 145 (FSame (⟨x3.mode,x3.srcs⟩:Flt) (⟨1,[]⟩:Flt)) (.ret (1))
(.bk 4 b4 ((W (t4+1)):Int) [0])))))
(.loop 5 (memV_n5 m) (I5 t0 t1 t3 t4) (m5 t0 t1 t3 t4) ((1):Int) [0] fun (t5:Int) b5 =>
(.br 81 (decide (t5<((m.list.map Mem.v).length:Int))) (.el 145 Mem.v m.list (fun R=>Rf (m.list.map Mem.v) (ck (decide (0≤(W (t5-1)))) (ck (decide ((W (t5-1))<(m.list.length:Int)))
(∀x4,m.list[(W (t5-1)).toNat]?=some x4 →
(R x4))))) fun x4 =>
(.el 225 Mem.v m.list (fun R=>Rf (m.list.map Mem.v) (ck (decide (0≤t5)) (ck (decide (t5<(m.list.length:Int)))
(∀x5,m.list[t5.toNat]?=some x5 →
(R x5))))) fun x5 =>
(.el 321 Mem.v m.list (fun R=>Rf (m.list.map Mem.v) (ck (decide (0≤t5)) (ck (decide (t5<(m.list.length:Int)))
(∀x6,m.list[t5.toNat]?=some x6 →
(R x6))))) fun x6 =>
(.callP (bfrM_c x4 x5.grp x6.host)
(.br 401 (!(bfrM x4 x5.grp x6.host)) (.ret (25))
(.bk 5 b5 ((W (t5+1)):Int) [0]))))))
(.ret (0)))))))))))))))
def memV_vc(m:Mems)(I0:Bool→Prop)(I1:Bool→Int→Prop)(m1:Bool→Int→Nat)(I2:Bool→Int→Mem→Bool→Prop)(I3:Bool→Int→Int→Prop)(m3:Bool→Int→Int→Nat)(I4:Bool→Int→Int→Int→Prop)(m4:Bool→Int→Int→Int→Nat)(I5:Bool→Int→Int→Int→Int→Prop)(m5:Bool→Int→Int→Int→Int→Nat)(r0:Int):Prop:=(memV_x m I0 I1 m1 I2 I3 m3 I4 m4 I5 m5).vp memV_e r0
theorem memV_p(m:Mems)(ok:memV_a m):∃I0 I1 m1 I2 I3 m3 I4 m4 I5 m5,memV_vc m I0 I1 m1 I2 I3 m3 I4 m4 I5 m5 (memErr m):=by
 refine ⟨fun b=>b=decide (¬(0≤m.now∧m.now≤1000000)),fun _=>ForI m.list (memRng m.now),fun _ t=>m.list.length-t.toNat,fun _ _ x b=>b=decide (¬memRng m.now x),
  fun _ _=>ForI m.list (fun x=>fltErr x.mode x.srcs=0),fun _ _ t=>m.list.length-t.toNat,fun _ _ _=>ForI m.list (fun x=>¬(x.mode=1∧x.srcs=[])),fun _ _ _ t=>m.list.length-t.toNat,
  fun _ _ _ _=>ForA m.list memLs,fun _ _ _ _ t=>m.list.length+1-t.toNat,?_⟩
 dsimp only [memV_vc,memV_x,memV_s,Ax.vp,Ax.vc];simp only [vcU,rfU,List.length_map]
 refine ⟨⟨fun c=>(decide_eq_true (by omega)).symm,fun c=>by rw [decide_eq_decide];omega⟩,?_⟩
 rintro _ rfl
 refine ⟨fun c=>?_,fun c=>⟨fun d=>?_,fun d=>⟨ForI.zero,?_⟩⟩⟩
 ·rw [memErr,if_pos (of_decide_eq_true c)]
 ·rw [memErr,if_neg (of_decide_eq_false c),if_pos (by omega)]
 have c:=Classical.not_not.mp (of_decide_eq_false c)
 have hl:m.list.length≤9223372036854775806:=by omega
 have d:¬64<m.list.length:=by omega
 intro t1 h1
 refine ⟨fun e=>⟨h1.idx,e,fun x hx=>⟨?_,?_⟩⟩,fun e=>⟨ForI.zero,?_⟩⟩
 ·have w:W (m.now+1000)=m.now+1000:=W_eq (by omega)
  rw [w]
  refine ⟨fun q=>(decide_eq_true (show ¬memRng m.now x from fun r=>by obtain ⟨⟨r,_⟩,_⟩:=r;omega)).symm,fun q1=>⟨fun q=>(decide_eq_true (show ¬memRng m.now x from fun r=>by obtain ⟨⟨_,r⟩,_⟩:=r;omega)).symm,fun q2=>⟨fun q=>(decide_eq_true (show ¬memRng m.now x from fun r=>by obtain ⟨_,⟨r,_⟩,_⟩:=r;omega)).symm,
   fun q3=>⟨fun q=>(decide_eq_true (show ¬memRng m.now x from fun r=>by obtain ⟨_,⟨_,r⟩,_⟩:=r;omega)).symm,fun q4=>⟨fun q=>(decide_eq_true (show ¬memRng m.now x from fun r=>by obtain ⟨_,_,r,_⟩:=r;omega)).symm,fun q5=>by rw [decide_eq_decide];unfold memRng;omega⟩⟩⟩⟩⟩
 ·rintro _ rfl
  refine ⟨fun q=>?_,fun q=>h1.step (by omega) hx (Classical.not_not.mp (of_decide_eq_false q))⟩
  rw [memErr,if_neg (not_not_intro c),if_neg d,if_pos fun r=>of_decide_eq_true q (r x (at_mem hx))]
 have g1:=h1.done e
 intro t2 h2
 refine ⟨fun e=>⟨h2.idx,e,fun x hx=>⟨fun q=>?_,fun q=>h2.step (by omega) hx (by simpa using q)⟩⟩,fun e=>⟨ForI.zero,?_⟩⟩
 ·have f:=orI_first h2 hx (by simpa using q)
  rw [memErr,if_neg (not_not_intro c),if_neg d,if_neg (not_not_intro g1),f,if_pos (by simpa using q)]
 have g2:=orI_zero (h2.done e)
 intro t3 h3
 refine ⟨fun e=>⟨h3.idx,e,fun x hx=>⟨fun q=>?_,fun q=>h3.step (by omega) hx (by simpa [FSame] using q)⟩⟩,fun e=>⟨ForA.one,?_⟩⟩
 ·rw [memErr,if_neg (not_not_intro c),if_neg d,if_neg (not_not_intro g1),if_neg (not_not_intro g2),if_pos ⟨x,at_mem hx,by simpa [FSame] using q⟩]
 have g3:¬∃x∈m.list,x.mode=1∧x.srcs=[]:=fun ⟨x,hx,q⟩=>h3.done e x hx q
 intro t4 h4
 refine ⟨fun e=>⟨(h4.idx (by omega) e).1.1,(h4.idx (by omega) e).1.2,fun x hx=>⟨(h4.idx (by omega) e).2,e,fun y hy=>⟨(h4.idx (by omega) e).2,e,fun y2 hy2=>?_⟩⟩⟩,fun e=>?_⟩
 ·rw [hy] at hy2;cases hy2
  refine ⟨fun q=>?_,fun q=>h4.step hl hx hy (by simpa [memLs] using q)⟩
  rw [memErr,if_neg (not_not_intro c),if_neg d,if_neg (not_not_intro g1),if_neg (not_not_intro g2),if_neg g3,if_pos (h4.bad hl hx hy (by simpa [memLs] using q))]
 ·rw [memErr,if_neg (not_not_intro c),if_neg d,if_neg (not_not_intro g1),if_neg (not_not_intro g2),if_neg g3,if_neg (not_not_intro (h4.done e memLs_tr))]
def memV_c(m:Mems):PC Tryz.prog:=⟨43,[(.a [.k,(.s 5)])],[.agg [.int m.now,.sl 5 (m.list.map Mem.v) false]],memV_e (memErr m),PSpec.of_ok fun ok=>(memV_p m ok).elim fun I0 h=>h.elim fun I1 h=>h.elim fun m1 h=>h.elim fun I2 h=>h.elim fun I3 h=>h.elim fun m3 h=>h.elim fun I4 h=>h.elim fun m4 h=>h.elim fun I5 h=>h.elim fun m5 h=>mxP_of (sh:=.k) (enc:=memV_e) (a:=(memV_x m I0 I1 m1 I2 I3 m3 I4 m4 I5 m5).an) h (by kernel_rfl) (AV.pureB_ok rfl),fnB_ok (by kernel_rfl)⟩
theorem memErr_zero{m:Mems}(h:memErr m=0):(0≤m.now∧m.now≤1000000)∧m.list.length≤64∧(∀x∈m.list,memRng m.now x)∧(∀x∈m.list,fltErr x.mode x.srcs=0)∧(∀x∈m.list,¬(x.mode=1∧x.srcs=[]))∧m.list.Pairwise memLs:=by
 unfold memErr at h
 split at h
 ·cases h
 rename_i h1
 split at h
 ·cases h
 rename_i h2
 split at h
 ·cases h
 rename_i h3
 split at h
 ·rename_i h4;exact absurd h h4
 rename_i h4
 split at h
 ·cases h
 rename_i h5
 split at h
 ·cases h
 rename_i h6
 refine ⟨Classical.not_not.mp h1,by omega,Classical.not_not.mp h3,fun x hx=>?_,fun x hx q=>h5 ⟨x,hx,q⟩,Classical.not_not.mp h6⟩
 refine Classical.byContradiction fun q=>h4 ?_
 have hf:(m.list.map fun x=>fltErr x.mode x.srcs).find? (· != 0)≠none:=by
  rw [Ne,List.find?_eq_none]
  exact fun hn=>hn _ (List.mem_map_of_mem hx) (by simpa using q)
 rw [orI]
 cases e:(m.list.map fun x=>fltErr x.mode x.srcs).find? (· != 0) with
 | none=>exact absurd e hf
 | some z =>
  have:=List.find?_some e
  simpa using this
theorem memErr_ok{m:Mems}(h1:0≤m.now∧m.now≤1000000)(h2:m.list.length≤64)(h3:∀x∈m.list,memRng m.now x)(h4:∀x∈m.list,fltErr x.mode x.srcs=0)(h5:∀x∈m.list,¬(x.mode=1∧x.srcs=[]))(h6:m.list.Pairwise memLs):memErr m=0:=by
 rw [memErr,if_neg (not_not_intro h1),if_neg (by omega),if_neg (not_not_intro h3),if_neg (not_not_intro (orI_zero h4)),if_neg (fun ⟨x,hx,q⟩=>h5 x hx q),if_neg (not_not_intro h6)]
def grpM(m:Mems):List Int:=if memErr m=0 then m.list.foldl (fun out x=>put out x.grp) [] else []
def grpM_a(m:Mems):Prop:=okL [.agg [.int m.now,.sl 5 (m.list.map Mem.v) false]]
def grpM_n0(m:Mems)(t0:(List Int)×Int):NF:=⟨[(3,(.s 1),.sl 1 (t0.1.map AV.int) false),(10,.k,.sl 5 (m.list.map Mem.v) false),(11,.k,.int ((m.list.map Mem.v).length:Int)),(12,.k,.int t0.2)],[]⟩
@[reducible] def grpM_s:Nat→Type
 | 0=>(List Int)×Int
 | _=>Unit
def grpM_e(r:(List Int)):AV:=.sl 1 (r.map AV.int) false
def grpM_x(m:Mems)(I0:((List Int)×Int)→Prop)(m0:((List Int)×Int)→Nat):Ax Tryz.prog grpM_s ((List Int)):=
 (.callP (memV_c m)
(.br 96 ((memErr m)==0) (.loop 0 (grpM_n0 m) I0 m0 ([],0) [] fun (t0:(List Int)×Int) b0 =>
(.br 16 (decide (t0.2<((m.list.map Mem.v).length:Int))) (.el 16 Mem.v m.list (fun R=>Rf (m.list.map Mem.v) (ck (decide (0≤t0.2)) (ck (decide (t0.2<(m.list.length:Int)))
(∀x1,m.list[t0.2.toNat]?=some x1 →
(R x1))))) fun x1 =>
(.req 128 (t0.1.length≤900000) fun h2 =>
(.callP (put_c t0.1 x1.grp h2)
(.bk 0 b0 (put t0.1 x1.grp,W (t0.2+1)) []))))
(.ret (t0.1))))
(.ret ([]))))
def grpM_vc(m:Mems)(I0:((List Int)×Int)→Prop)(m0:((List Int)×Int)→Nat)(r0:(List Int)):Prop:=(grpM_x m I0 m0).vp grpM_e r0
theorem grpM_p(m:Mems)(ok:grpM_a m):∃I0 m0,grpM_vc m I0 m0 (grpM m):=by
 refine ⟨fun t=>ForG m.list (fun out x=>put out x.grp) [] t.2 t.1,fun t=>m.list.length-t.2.toNat,?_⟩
 dsimp only [grpM_vc,grpM_x,grpM_s,Ax.vp,Ax.vc];simp only [vcU,rfU,List.length_map]
 refine ⟨fun c=>⟨ForG.zero,?_⟩,fun c=>?_⟩
 ·have c:memErr m=0:=eq_of_beq c
  have hl:=(memErr_zero c).2.1
  rintro ⟨out,i⟩ h
  simp only at h ⊢
  have hlen:=h.len (f:=List.length) (a:=0) (b:=1) (by simp) fun s x _=>put_length s x.grp
  refine ⟨fun d=>⟨h.idx,d,fun x hx=>⟨by omega,h.step (by omega) hx rfl⟩⟩,fun d=>?_⟩
  rw [grpM,if_pos c,←h.done d]
 ·rw [grpM,if_neg (by simpa using c)]
def grpM_c(m:Mems):PC Tryz.prog:=⟨44,[(.a [.k,(.s 5)])],[.agg [.int m.now,.sl 5 (m.list.map Mem.v) false]],grpM_e (grpM m),PSpec.of_ok fun ok=>(grpM_p m ok).elim fun I0 h=>h.elim fun m0 h=>mxP_of (sh:=(.s 1)) (enc:=grpM_e) (a:=(grpM_x m I0 m0).an) h (by kernel_rfl) (AV.pureB_ok rfl),fnB_ok (by kernel_rfl)⟩
def fltOf(m:Mems)(g:Int):Flt:=m.list.foldl (fun f x=>if x.grp=g then (unF f ⟨x.mode,x.srcs⟩).1 else f) ⟨1,[]⟩
def wMem(m:Mems)(g:Int):Wnt:=⟨g,(fltOf m g).mode,(fltOf m g).srcs⟩
def ofW(m:Mems):List Wnt×Int:=if memErr m≠0 then ([],memErr m) else if 32<(grpM m).length then ([],3) else ((grpM m).map (wMem m),0)
theorem grpM_len(m:Mems):(grpM m).length≤64:=by
 unfold grpM
 split
 ·rename_i c
  have hl:=(memErr_zero c).2.1
  have key:∀(l:List Mem) (s:List Int),(l.foldl (fun out x=>put out x.grp) s).length≤s.length+l.length:=by
   intro l
   induction l with
   | nil=>intro s;simp
   | cons x l ih=>intro s;have:=ih (put s x.grp);have:=put_length s x.grp;simp only [List.foldl_cons,List.length_cons];omega
  have:=key m.list []
  simp at this;omega
 ·simp
def ofW_a(m:Mems):Prop:=okL [.agg [.int m.now,.sl 5 (m.list.map Mem.v) false]]
def ofW_n0(m:Mems)(t0:Int×(List Wnt)):NF:=⟨[(1,.k,.ref 0 0),(5,.k,.vec 1),(17,.k,.sl 1 ((grpM m).map AV.int) false),(18,.k,.int (((grpM m).map AV.int).length:Int)),(19,.k,.int t0.1)],[.box (.agg [.int m.now,.sl 5 (m.list.map Mem.v) false]),.vec 3 (t0.2.map Wnt.v) (pureBL_map (fun _=>rfl) t0.2)]⟩
def ofW_n1(m:Mems)(t0:Int×(List Wnt))(x1:Int)(t1:Int×Flt):NF:=⟨[(1,.k,.ref 0 0),(5,.k,.vec 1),(7,.k,.int x1),(8,.k,.ref 2 0),(17,.k,.sl 1 ((grpM m).map AV.int) false),(18,.k,.int (((grpM m).map AV.int).length:Int)),(19,.k,.int t0.1),(25,.k,.sl 5 (m.list.map Mem.v) false),(26,.k,.int ((m.list.map Mem.v).length:Int)),(27,.k,.int t1.1)],[.box (.agg [.int m.now,.sl 5 (m.list.map Mem.v) false]),.vec 3 (t0.2.map Wnt.v) (pureBL_map (fun _=>rfl) t0.2),.box (.agg [.int t1.2.mode,.sl 1 (t1.2.srcs.map AV.int) false])]⟩
@[reducible] def ofW_s:Nat→Type
 | 0=>Int×(List Wnt)
 | 1=>Int×Flt
 | _=>Unit
def ofW_e(r:(List Wnt)×Int):AV:=.tup [.sl 3 (r.1.map Wnt.v) false,.int r.2]
def ofW_x(m:Mems)(I0:(Int×(List Wnt))→Prop)(m0:(Int×(List Wnt))→Nat)(I1:Int×(List Wnt)→Int→(Int×Flt)→Prop)(m1:Int×(List Wnt)→Int→(Int×Flt)→Nat):Ax Tryz.prog ofW_s ((List Wnt)×Int):=
 (.callP (memV_c m)
(.br 128 ((memErr m) != 0) (.ret ([],memErr m))
(.callP (grpM_c m)
(.cmdL (.nilT 5 3) (.loop 0 (ofW_n0 m) I0 m0 (0,[]) [0,208] fun (t0:Int×(List Wnt)) b0 =>
(.br 18 (decide (t0.1<(((grpM m).map AV.int).length:Int))) (.el 18 AV.int (grpM m) (fun R=>Rf ((grpM m).map AV.int) (ck (decide (0≤t0.1)) (ck (decide (t0.1<((grpM m).length:Int)))
(∀x1,(grpM m)[t0.1.toNat]?=some x1 →
(R x1))))) fun x1 =>
(.callP (Nothing_c )
(.loop 1 (ofW_n1 m t0 x1) (I1 t0 x1) (m1 t0 x1) (0,(⟨1,[]⟩:Flt)) [0,1,82] fun (t1:Int×Flt) b1 =>
(.br 19 (decide (t1.1<((m.list.map Mem.v).length:Int))) (.el 19 Mem.v m.list (fun R=>Rf (m.list.map Mem.v) (ck (decide (0≤t1.1)) (ck (decide (t1.1<(m.list.length:Int)))
(∀x2,m.list[t1.1.toNat]?=some x2 →
(R x2))))) fun x2 =>
(.br 147 (x2.grp==x1) (.callP (unF_c t1.2 (⟨x2.mode,x2.srcs⟩:Flt))
(.bk 1 b1 (W (t1.1+1),(unF t1.2 (⟨x2.mode,x2.srcs⟩:Flt)).1) [0,1,2]))
(.bk 1 b1 (W (t1.1+1),t1.2) [0,1,2])))
(.say (fun R=>Rf (α:=List AV) (t0.2.map Wnt.v) (Rf (α:=List AV) [.agg [.int x1,.int t1.2.mode,.sl 1 (t1.2.srcs.map AV.int) false]]
(ck (decide (t0.2.length+1≤1048576))
R))) (.app 99 Wnt.v t0.2 [(⟨x1,t1.2.mode,t1.2.srcs⟩:Wnt)]
(.bk 0 b0 (W (t0.1+1),t0.2++[(⟨x1,t1.2.mode,t1.2.srcs⟩:Wnt)]) [0,99])))))))
(.br 66 (decide (32<((t0.2.map Wnt.v).length:Int))) (.ret ([],3))
(.say (Rf (t0.2.map Wnt.v)) (.cmdL (.frzE 1 (t0.2.map Wnt.v) (pureBL_map (fun _=>rfl) t0.2)) (.ret (t0.2,0)))))))))))
def ofW_vc(m:Mems)(I0:(Int×(List Wnt))→Prop)(m0:(Int×(List Wnt))→Nat)(I1:Int×(List Wnt)→Int→(Int×Flt)→Prop)(m1:Int×(List Wnt)→Int→(Int×Flt)→Nat)(r0:(List Wnt)×Int):Prop:=(ofW_x m I0 m0 I1 m1).vp ofW_e r0
theorem ofW_p(m:Mems)(ok:ofW_a m):∃I0 m0 I1 m1,ofW_vc m I0 m0 I1 m1 (ofW m):=by
 refine ⟨fun t=>ForX (grpM m) (fun g=>[wMem m g]) t.1 t.2,fun t=>(grpM m).length-t.1.toNat,fun _ g t=>ForG m.list (fun f x=>if x.grp=g then (unF f ⟨x.mode,x.srcs⟩).1 else f) ⟨1,[]⟩ t.1 t.2,fun _ _ t=>m.list.length-t.1.toNat,?_⟩
 dsimp only [ofW_vc,ofW_x,ofW_s,Ax.vp,Ax.vc];simp only [vcU,rfU,List.length_map]
 refine ⟨fun c=>?_,fun c=>⟨ForX.zero,?_⟩⟩
 ·rw [ofW,if_pos (by simpa using c)]
 have c:memErr m=0:=by simpa using c
 have hl:=(memErr_zero c).2.1
 have hg:=grpM_len m
 rintro ⟨i,out⟩ h
 simp only at h ⊢
 have hlen:=h.len (b:=1) (by simp)
 refine ⟨fun d=>⟨h.idx,d,fun g hgx=>⟨ForG.zero,?_⟩⟩,fun d=>?_⟩
 ·rintro ⟨j,f⟩ k
  simp only at k ⊢
  refine ⟨fun e=>⟨k.idx,e,fun x hx=>⟨fun q=>k.step (by omega) hx ?_,fun q=>k.step (by omega) hx ?_⟩⟩,fun e=>⟨by omega,h.step (by omega) hgx ?_⟩⟩
  ·rw [if_pos (eq_of_beq q)]
  ·rw [if_neg (by simpa using q)]
  ·rw [wMem,fltOf,←k.done e]
 ·have e:=h.done d
  rw [flatMap_one] at e
  subst e
  rw [List.length_map,ofW,if_neg (not_not_intro c)]
  refine ⟨fun q=>by rw [if_pos (by omega)],fun q=>by rw [if_neg (by omega)]⟩
def ofW_c(m:Mems):PC Tryz.prog:=⟨12,[(.a [.k,(.s 5)])],[.agg [.int m.now,.sl 5 (m.list.map Mem.v) false]],ofW_e (ofW m),PSpec.of_ok fun ok=>(ofW_p m ok).elim fun I0 h=>h.elim fun m0 h=>h.elim fun I1 h=>h.elim fun m1 h=>mxP_of (sh:=(.a [(.s 3),.k])) (enc:=ofW_e) (a:=(ofW_x m I0 m0 I1 m1).an) h (by kernel_rfl) (AV.pureB_ok rfl),fnB_ok (by kernel_rfl)⟩
def wntW(l:List Wnt)(f:Flw):Bool:=decide (wErr false l=0) && wntF (findW l f.grp) f.src
def from1(f:Int→Int×List Int)(g:Int):List Wnt:=if f g=(1,[]) then [] else [⟨g,(f g).1,(f g).2⟩]
def fromF(f:Int→Int×List Int):Nat→List Wnt
 | 0=>[]
 | n+1=>fromF f n++from1 f (n+1)
def wantsOf(l:List Itm):List Wnt:=if itmsOk 1000000 l then fromF (told l) 99 else []
theorem mem_from1{f:Int→Int×List Int}{g:Int}{w:Wnt}:w∈from1 f g↔w.grp=g∧f w.grp=(w.mode,w.srcs)∧f w.grp≠(1,[]):=by
 unfold from1
 split
 ·rename_i e
  simp only [List.not_mem_nil,false_iff]
  rintro ⟨rfl,_,h⟩;exact h e
 ·rename_i e
  rw [List.mem_singleton]
  constructor
  ·rintro rfl;exact ⟨rfl,rfl,e⟩
  ·rintro ⟨rfl,h1,_⟩
   rw [h1]
theorem mem_fromF{f:Int→Int×List Int}{w:Wnt}:∀{n:Nat},w∈fromF f n↔(1≤w.grp∧w.grp≤n)∧f w.grp=(w.mode,w.srcs)∧f w.grp≠(1,[])
 | 0=>by simp only [fromF,List.not_mem_nil,false_iff];rintro ⟨h,_⟩;omega
 | n+1=>by
  rw [fromF,List.mem_append,mem_fromF (n:=n),mem_from1]
  constructor
  ·rintro (⟨h1,h2⟩|⟨h1,h2⟩)
   ·exact ⟨by omega,h2⟩
   ·exact ⟨by omega,h2⟩
  ·rintro ⟨h1,h2⟩
   by_cases e:w.grp=((n+1:Nat):Int)
   ·exact .inr ⟨by omega,h2⟩
   ·exact .inl ⟨by omega,h2⟩
theorem fromF_asc{f:Int→Int×List Int}:∀n:Nat,(fromF f n).Pairwise fun x y=>x.grp<y.grp
 | 0=>List.Pairwise.nil
 | n+1=>by
  refine List.pairwise_append.mpr ⟨fromF_asc n,?_,fun a ha b hb=>?_⟩
  ·unfold from1;split
   ·exact List.Pairwise.nil
   ·exact List.pairwise_singleton _ _
  ·have:=(mem_fromF.mp ha).1
   have:=(mem_from1.mp hb).1
   omega
theorem ascW_ext:∀{a b:List Wnt},a.Pairwise (fun x y=>x.grp<y.grp)→b.Pairwise (fun x y=>x.grp<y.grp)→(∀x,x∈a↔x∈b)→a=b:=by
 intro a
 induction a with
 | nil =>
  intro b _ _ h
  cases b with
  | nil=>rfl
  | cons y b=>exact absurd ((h y).mpr (by simp)) (by simp)
 | cons x a ih =>
  intro b ha hb h
  cases b with
  | nil=>exact absurd ((h x).mp (by simp)) (by simp)
  | cons y b =>
   rw [List.pairwise_cons] at ha hb
   have hxy:x=y:=by
    refine Classical.byContradiction fun hne=>?_
    have h1:x∈b:=(List.mem_cons.mp ((h x).mp (by simp))).resolve_left hne
    have h2:y∈a:=(List.mem_cons.mp ((h y).mpr (by simp))).resolve_left (Ne.symm hne)
    have:=ha.1 y h2
    have:=hb.1 x h1
    omega
   subst hxy
   rw [ih ha.2 hb.2 fun z=>?_]
   constructor
   ·intro hz
    refine (List.mem_cons.mp ((h z).mp (by simp [hz]))).resolve_left fun e=>?_
    subst e
    have:=ha.1 z hz
    omega
   ·intro hz
    refine (List.mem_cons.mp ((h z).mpr (by simp [hz]))).resolve_left fun e=>?_
    subst e
    have:=hb.1 z hz
    omega
theorem told_in{l:List Itm}(h:(l.map Itm.grp).Nodup){x:Itm}(hx:x∈l):told l x.grp=(x.mode,x.srcs):=by
 unfold told
 cases e:l.find? fun y=>decide (y.grp=x.grp) with
 | none=>rw [List.find?_eq_none] at e;exact absurd (e x hx) (by simp)
 | some y =>
  have h1:=List.mem_of_find?_eq_some e
  have h2:=List.find?_some e
  rw [Nodup.grp h h1 hx (by simpa using h2)]
theorem told_no{l:List Itm}{g:Int}(h:∀x∈l,x.grp≠g):told l g=(1,[]):=by
 unfold told
 rw [List.find?_eq_none.mpr (fun x hx=>by simpa using h x hx)]
theorem told_some{l:List Itm}{g:Int}(h:told l g≠(1,[])):∃x∈l,x.grp=g∧told l g=(x.mode,x.srcs):=by
 unfold told at h ⊢
 cases e:l.find? fun y=>decide (y.grp=g) with
 | none=>rw [e] at h;exact absurd rfl h
 | some y=>exact ⟨y,List.mem_of_find?_eq_some e,by simpa using List.find?_some e,rfl⟩
def find2(l:List Wnt)(g:Int):Int×List Int:=((findW l g).mode,(findW l g).srcs)
theorem findW_in{l:List Wnt}(h:l.Pairwise fun x y=>x.grp<y.grp){w:Wnt}(hw:w∈l):findW l w.grp=⟨w.mode,w.srcs⟩:=by
 unfold findW
 cases e:l.find? fun y=>decide (y.grp=w.grp) with
 | none=>rw [List.find?_eq_none] at e;exact absurd (e w hw) (by simp)
 | some y =>
  have h1:=List.mem_of_find?_eq_some e
  have h2:y.grp=w.grp:=by simpa using List.find?_some e
  have:y=w:=by
   obtain ⟨i,hi,rfl⟩:=List.mem_iff_getElem.mp h1
   obtain ⟨j,hj,rfl⟩:=List.mem_iff_getElem.mp hw
   rw [List.pairwise_iff_getElem] at h
   rcases Nat.lt_trichotomy i j with g|g|g
   ·have:=h i j hi hj g;omega
   ·subst g;rfl
   ·have:=h j i hj hi g;omega
  rw [this]
theorem findW_some{l:List Wnt}{g:Int}(h:findW l g≠⟨1,[]⟩):∃w∈l,w.grp=g∧findW l g=⟨w.mode,w.srcs⟩:=by
 unfold findW at h ⊢
 cases e:l.find? fun y=>decide (y.grp=g) with
 | none=>rw [e] at h;exact absurd rfl h
 | some y=>exact ⟨y,List.mem_of_find?_eq_some e,by simpa using List.find?_some e,rfl⟩
theorem find2_ne{l:List Wnt}{g:Int}:find2 l g≠(1,[])↔findW l g≠⟨1,[]⟩:=by
 unfold find2
 cases findW l g
 simp
theorem change_val{s:Spk}{c:List Wnt}(h:(change s c).2=0):spkOk s∧wErr true c=0∧¬1000000<(c.foldl chg1 (s.last,s.items)).1 ∧
  change s c=(⟨s.router,s.epoch,(c.foldl chg1 (s.last,s.items)).1,(c.foldl chg1 (s.last,s.items)).2,s.peers⟩,0):=by
 unfold change at h ⊢
 by_cases h1:spkOk s
 case neg=>rw [if_pos h1] at h;simp at h
 by_cases h2:wErr true c=0
 case neg=>rw [if_neg (not_not_intro h1),if_pos h2] at h;exact absurd h h2
 by_cases h3:1000000<(c.foldl chg1 (s.last,s.items)).1
 case pos=>rw [if_neg (not_not_intro h1),if_neg (not_not_intro h2),if_pos h3] at h;simp at h
 rw [if_neg (not_not_intro h1),if_neg (not_not_intro h2),if_neg h3]
 exact ⟨h1,h2,h3,rfl⟩
theorem change_spkOk{s:Spk}{c:List Wnt}(h:(change s c).2=0):spkOk (change s c).1:=by
 obtain ⟨h1,h2,h3,e⟩:=change_val h
 rw [e]
 obtain ⟨p1,p2,p3,p4,p5,p6,p7⟩:=h1
 obtain ⟨q1,q2,q3,q4⟩:=chg_ok p4 p3.1 (chgOk_of h2)
 refine ⟨p1,p2,⟨q4,by simp only;omega⟩,q1,p5,fun p hp=>?_,p7⟩
 obtain ⟨r1,r2,r3,r4⟩:=p6 p hp
 exact ⟨r1,r2,r3,r4.1,by have:=q2.le;simp only;omega⟩
theorem restart_val{s:Spk}{w:List Wnt}(h:(restart s w).2=0):spkOk s∧wErr false w=0∧s.epoch≠1000000 ∧
  restart s w=(⟨s.router,s.epoch+1,w.length,w.mapIdx wItm,s.peers.map fun p=>⟨p.router,0,0⟩⟩,0):=by
 unfold restart at h ⊢
 by_cases h1:spkOk s
 case neg=>rw [if_pos h1] at h;simp at h
 by_cases h2:wErr false w=0
 case neg=>rw [if_neg (not_not_intro h1),if_pos h2] at h;exact absurd h h2
 by_cases h3:s.epoch=1000000
 case pos=>rw [if_neg (not_not_intro h1),if_neg (not_not_intro h2),if_pos h3] at h;simp at h
 rw [if_neg (not_not_intro h1),if_neg (not_not_intro h2),if_neg h3]
 exact ⟨h1,h2,h3,rfl⟩
theorem restart_spkOk{s:Spk}{w:List Wnt}(h:(restart s w).2=0):spkOk (restart s w).1:=by
 obtain ⟨h1,h2,h3,e⟩:=restart_val h
 rw [e]
 obtain ⟨p1,p2,p3,p4,p5,p6,p7⟩:=h1
 obtain ⟨w1,_,_,_,w5⟩:=wErr_zero.mp h2
 refine ⟨p1,⟨by simp only;omega,by simp only;omega⟩,⟨by simp only;omega,by simp only;omega⟩,restart_items (chgOk_of h2) w5,by simpa using p5,fun q hq=>?_,?_⟩
 ·obtain ⟨q',hq',rfl⟩:=List.mem_map.mp hq
  obtain ⟨r1,r2,_,_⟩:=p6 q' hq'
  exact ⟨r1,r2,⟨by simp,by simp⟩,by simp,by simp⟩
 ·rw [List.pairwise_map];exact p7
end Go.Proofs.YthhpaedpnjdnbaaGreatDoor
