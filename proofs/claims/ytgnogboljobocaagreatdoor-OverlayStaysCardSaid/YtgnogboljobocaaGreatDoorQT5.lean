/- Texts joined: G5 G6 G7 G8 IH G9 G10. -/
import Derived.KernelRfl
import Derived.Test.YtgnogboljobocaaGreatDoorQT4
set_option linter.unusedVariables false
set_option linter.unusedSimpArgs false
namespace Go.Proofs.YtgnogboljobocaaGreatDoor
open Go Go.Am
def cmpP(p:Per)(r:Int):Int:=cmpI p.router r
def cmpP_a(p:Per)(r:Int):Prop:=okL [.agg [.int p.router,.int p.epoch,.int p.acked],.int r]
def cmpP_s:Nat→Type
 | _=>Unit
def cmpP_e(r:Int):AV:=.int r
def cmpP_vc(p:Per)(r:Int)(r0:Int):Prop:=
 Cl (cmpI_c p.router r)
 (Rp cmpP_e (cmpI p.router r) r0)
theorem cmpP_p(p:Per)(r:Int)(ok:cmpP_a p r):cmpP_vc p r (cmpP p r):=by
 simp only [cmpP_vc,vcU,rfU,List.length_map]
 rfl
def cmpP_c(p:Per)(r:Int):PC Tryz.prog:=⟨208,[.k,.k],[.agg [.int p.router,.int p.epoch,.int p.acked],.int r],cmpP_e (cmpP p r),PSpec.of_ok fun ok=>mxP_of (sh:=.k) (enc:=cmpP_e) (a:=((.callP (cmpI_c p.router r)
 (.ret (cmpI p.router r))):An Tryz.prog cmpP_s (Int))) (cmpP_p p r ok) (by kernel_rfl) (AV.pureB_ok rfl),fnB_ok (by kernel_rfl)⟩
def cmpH(p:Hrd)(r:Int):Int:=cmpI p.router r
def cmpH_a(h_:Hrd)(r:Int):Prop:=okL [.agg [.int h_.router,.int h_.epoch,.int h_.ver,.sl 4 (h_.items.map Itm.v) false],.int r]
def cmpH_s:Nat→Type
 | _=>Unit
def cmpH_e(r:Int):AV:=.int r
def cmpH_vc(h_:Hrd)(r:Int)(r0:Int):Prop:=
 Cl (cmpI_c h_.router r)
 (Rp cmpH_e (cmpI h_.router r) r0)
theorem cmpH_p(p:Hrd)(r:Int)(ok:cmpH_a p r):cmpH_vc p r (cmpH p r):=by
 simp only [cmpH_vc,vcU,rfU,List.length_map]
 rfl
def cmpH_c(h_:Hrd)(r:Int):PC Tryz.prog:=⟨200,[(.a [.k,.k,.k,(.s 4)]),.k],[.agg [.int h_.router,.int h_.epoch,.int h_.ver,.sl 4 (h_.items.map Itm.v) false],.int r],cmpH_e (cmpH h_ r),PSpec.of_ok fun ok=>mxP_of (sh:=.k) (enc:=cmpH_e) (a:=((.callP (cmpI_c h_.router r)
 (.ret (cmpI h_.router r))):An Tryz.prog cmpH_s (Int))) (cmpH_p h_ r ok) (by kernel_rfl) (AV.pureB_ok rfl),fnB_ok (by kernel_rfl)⟩
theorem half(i j:Nat)(h:i≤j)(hj:j≤1000000):W ((IntKind.u64.wrap (W ((i:Int)+j))).fdiv 2)=(((i+j) / 2:Nat):Int):=by
 have e1:W ((i:Int)+j)=((i+j:Nat):Int):=W_eq ⟨by omega,by omega⟩
 rw [e1]
 have e2:IntKind.u64.wrap ((i+j:Nat):Int)=((i+j:Nat):Int):=by simp [IntKind.wrap,IntKind.signed,IntKind.bits];omega
 rw [e2,show Int.fdiv ((i+j:Nat):Int) 2=(((i+j) / 2:Nat):Int) by rw [Int.fdiv_eq_ediv_of_nonneg _ (by omega)];rfl]
 exact W_eq ⟨by omega,by omega⟩
theorem idx_eq{α:Type}{key:α→Int}{l:List α}{r:Int}{i:Nat}(hi:i≤l.length)(h1:∀k x,k<i→l[k]?=some x→key x<r)(h2:∀k x,i≤k→l[k]?=some x→r≤key x) :
  l.findIdx (fun p=>!decide (key p<r))=i:=by
 by_cases e:i=l.length
 ·subst e
  rw [List.findIdx_eq_length]
  intro x hx
  obtain ⟨k,hk,rfl⟩:=List.mem_iff_getElem.mp hx
  have:=h1 k _ hk (List.getElem?_eq_getElem hk)
  simp [this]
 ·rw [List.findIdx_eq (by omega)]
  refine ⟨?_,fun j hj=>?_⟩
  ·have:=h2 i _ (Nat.le_refl _) (List.getElem?_eq_getElem (by omega))
   simp;omega
  ·have:=h1 j _ hj (List.getElem?_eq_getElem (by omega))
   simp [this]
theorem getD_some{α:Type}{l:List α}{i:Nat}{x d:α}(h:l[i]?=some x):l.getD i d=x:=by rw [List.getD,h];rfl
theorem cmp_lt(x y:Int):cmpI x y<0↔x<y:=by
 unfold cmpI;split
 ·simp_all
 ·split<;>simp_all
theorem cmp_eq(x y:Int):cmpI x y=0↔x=y:=by
 unfold cmpI;split
 ·simp;omega
 ·split
  ·simp;omega
  ·simp;omega
def bsP_a(x:(List Per))(target:Int):Prop:=okL [.sl 3 (x.map Per.v) false,.int target,.func 208 []]
def bsP_n0(x:(List Per))(target:Int)(t0:Int×Int):NF:=⟨[(0,.k,.sl 3 (x.map Per.v) false),(1,.k,.int target),(2,.k,.func 208 []),(8,.k,.int ((x.map Per.v).length:Int)),(9,.k,.int t0.1),(10,.k,.int t0.2)],[]⟩
def bsP_s:Nat→Type
 | 0=>Int×Int
 | _=>Unit
def bsP_e(r:Int×Bool):AV:=.tup [.int r.1,.bool r.2]
def bsP_vc(x:(List Per))(target:Int)(I0:(Int×Int)→Prop)(m0:(Int×Int)→Nat)(r0:Int×Bool):Prop:=
 Be (bsP_n0 x target) [] I0 (0,((x.map Per.v).length:Int))∧∀t0,I0 t0 →
 br (decide (t0.1<t0.2))
 (Rf (x.map Per.v) (ck (decide (0≤(W (Int.fdiv (IntKind.u64.wrap (W (t0.1+t0.2))) 2)))) (ck (decide ((W (Int.fdiv (IntKind.u64.wrap (W (t0.1+t0.2))) 2))<(x.length:Int)))
 (∀x1,x[(W (Int.fdiv (IntKind.u64.wrap (W (t0.1+t0.2))) 2)).toNat]?=some x1 →
 Cl (cmpP_c x1 target)
 (br (decide ((cmpP x1 target)<0))
 (Bk (bsP_n0 x target) [] I0 m0 (W ((W (Int.fdiv (IntKind.u64.wrap (W (t0.1+t0.2))) 2))+1),t0.2) t0)
 (Bk (bsP_n0 x target) [] I0 m0 (t0.1,W (Int.fdiv (IntKind.u64.wrap (W (t0.1+t0.2))) 2)) t0))))))
 (br (decide (t0.1<((x.map Per.v).length:Int)))
 (Rf (x.map Per.v) (ck (decide (0≤t0.1)) (ck (decide (t0.1<(x.length:Int)))
 (∀x2,x[t0.1.toNat]?=some x2 →
 Cl (cmpP_c x2 target)
 (Rp bsP_e (t0.1,(cmpP x2 target)==0) r0)))))
 (Rp bsP_e (t0.1,false) r0))
theorem bsP_p(l:List Per)(r:Int)(h:l.Pairwise fun x y=>x.router<y.router)(hl:l.length≤1000000)(ok:bsP_a l r):∃I m,bsP_vc l r I m ((posP l r:Int),decide (hitP l r)):=by
 simp only [bsP_a,okU,Blk.ok,plainV,List.length_map] at ok
 refine ⟨fun t=>∃i j:Nat,t=((i:Int),(j:Int))∧i≤j∧j≤l.length∧(∀k x,k<i→l[k]?=some x→x.router<r)∧(∀k x,j≤k→l[k]?=some x→r≤x.router),fun t=>(t.2-t.1).toNat,?_⟩
 simp only [bsP_vc,vcU,rfU,List.length_map]
 refine ⟨⟨0,l.length,rfl,by omega,by omega,fun k x hk=>by omega,fun k x hk hx=>by have:=lt_of_get hx;omega⟩,?_⟩
 rintro _ ⟨i,j,rfl,hij,hj,h1,h2⟩
 refine ⟨fun h3=>?_,fun h3=>?_⟩
 ·have h3:i<j:=by simpa using h3
  simp only [half i j hij (by omega),Int.toNat_natCast]
  refine ⟨by omega,by omega,fun x hx=>⟨fun e=>?_,fun e=>?_⟩⟩
  ·rw [cmpP,cmp_lt] at e
   rw [W_succ (n:=l.length) (by omega) (by omega)]
   refine ⟨⟨_,_,rfl,by omega,hj,fun k y hk hy=>?_,h2⟩,by omega⟩
   by_cases e':k=(i+j) / 2
   ·subst e';rw [hx] at hy;cases hy;exact e
   ·have:=pw_get h (show k<(i+j) / 2 by omega) hy hx;omega
  ·rw [cmpP,cmp_lt] at e
   refine ⟨⟨_,_,rfl,by omega,by omega,h1,fun k y hk hy=>?_⟩,by omega⟩
   by_cases e':k=(i+j) / 2
   ·subst e';rw [hx] at hy;cases hy;omega
   ·have:=pw_get h (show (i+j) / 2<k by omega) hx hy;omega
 ·have h3:i=j:=by simp at h3;omega
  subst h3
  have hp:posP l r=i:=idx_eq (key:=Per.router) hj h1 h2
  simp only [Int.toNat_natCast]
  refine ⟨fun h4=>⟨by omega,by omega,fun x hx=>?_⟩,fun h4=>?_⟩
  ·have e:hitP l r↔x.router=r:=by rw [hitP,hp,getD_some hx];exact ⟨fun h=>h.2,fun h=>⟨lt_of_get hx,h⟩⟩
   rw [hp]
   refine congrArg _ ?_
   rw [cmpP,Bool.eq_iff_iff,decide_eq_true_iff,e,beq_iff_eq,cmp_eq]
  ·rw [hp,decide_eq_false]
   rw [hitP,hp];intro h;omega
def bsP_c(x:(List Per))(target:Int)(h:x.Pairwise fun x y=>x.router<y.router)(hl:x.length≤1000000):PC Tryz.prog:=⟨207,[(.s 3),.k,.k],[.sl 3 (x.map Per.v) false,.int target,.func 208 []],bsP_e ((posP x target:Int),decide (hitP x target)),PSpec.of_ok fun ok=>(bsP_p x target h hl ok).elim fun I0 h=>h.elim fun m0 h=>mxP_of (sh:=.k) (enc:=bsP_e) (a:=((.loop 0 (bsP_n0 x target) (I0) (m0) ((0,((x.map Per.v).length:Int)):Int×Int) [] fun (t0:Int×Int) =>
 (.br 48 (.el 208 Per.v x fun x1 =>
 (.callP (cmpP_c x1 target)
 (.br 288 (.back 0 ((W ((W (Int.fdiv (IntKind.u64.wrap (W (t0.1+t0.2))) 2))+1),t0.2):Int×Int) [])
 (.back 0 ((t0.1,W (Int.fdiv (IntKind.u64.wrap (W (t0.1+t0.2))) 2)):Int×Int) []))))
 (.br 128 (.el 176 Per.v x fun x2 =>
 (.callP (cmpP_c x2 target)
 (.ret (t0.1,(cmpP x2 target)==0))))
 (.ret (t0.1,false))))):An Tryz.prog bsP_s (Int×Bool))) h (by kernel_rfl) (AV.pureB_ok rfl),fnB_ok (by kernel_rfl)⟩
def bsH_a(x:(List Hrd))(target:Int):Prop:=okL [.sl 4 (x.map Hrd.v) false,.int target,.func 200 []]
def bsH_n0(x:(List Hrd))(target:Int)(t0:Int×Int):NF:=⟨[(0,.k,.sl 4 (x.map Hrd.v) false),(1,.k,.int target),(2,.k,.func 200 []),(8,.k,.int ((x.map Hrd.v).length:Int)),(9,.k,.int t0.1),(10,.k,.int t0.2)],[]⟩
def bsH_s:Nat→Type
 | 0=>Int×Int
 | _=>Unit
def bsH_e(r:Int×Bool):AV:=.tup [.int r.1,.bool r.2]
def bsH_vc(x:(List Hrd))(target:Int)(I0:(Int×Int)→Prop)(m0:(Int×Int)→Nat)(r0:Int×Bool):Prop:=
 Be (bsH_n0 x target) [] I0 (0,((x.map Hrd.v).length:Int))∧∀t0,I0 t0 →
 br (decide (t0.1<t0.2))
 (Rf (x.map Hrd.v) (ck (decide (0≤(W (Int.fdiv (IntKind.u64.wrap (W (t0.1+t0.2))) 2)))) (ck (decide ((W (Int.fdiv (IntKind.u64.wrap (W (t0.1+t0.2))) 2))<(x.length:Int)))
 (∀x1,x[(W (Int.fdiv (IntKind.u64.wrap (W (t0.1+t0.2))) 2)).toNat]?=some x1 →
 Cl (cmpH_c x1 target)
 (br (decide ((cmpH x1 target)<0))
 (Bk (bsH_n0 x target) [] I0 m0 (W ((W (Int.fdiv (IntKind.u64.wrap (W (t0.1+t0.2))) 2))+1),t0.2) t0)
 (Bk (bsH_n0 x target) [] I0 m0 (t0.1,W (Int.fdiv (IntKind.u64.wrap (W (t0.1+t0.2))) 2)) t0))))))
 (br (decide (t0.1<((x.map Hrd.v).length:Int)))
 (Rf (x.map Hrd.v) (ck (decide (0≤t0.1)) (ck (decide (t0.1<(x.length:Int)))
 (∀x2,x[t0.1.toNat]?=some x2 →
 Cl (cmpH_c x2 target)
 (Rp bsH_e (t0.1,(cmpH x2 target)==0) r0)))))
 (Rp bsH_e (t0.1,false) r0))
theorem bsH_p(l:List Hrd)(r:Int)(h:l.Pairwise fun x y=>x.router<y.router)(hl:l.length≤1000000)(ok:bsH_a l r):∃I m,bsH_vc l r I m ((posH l r:Int),decide (hitH l r)):=by
 simp only [bsH_a,okU,Blk.ok,plainV,List.length_map] at ok
 refine ⟨fun t=>∃i j:Nat,t=((i:Int),(j:Int))∧i≤j∧j≤l.length∧(∀k x,k<i→l[k]?=some x→x.router<r)∧(∀k x,j≤k→l[k]?=some x→r≤x.router),fun t=>(t.2-t.1).toNat,?_⟩
 simp only [bsH_vc,vcU,rfU,List.length_map]
 refine ⟨⟨0,l.length,rfl,by omega,by omega,fun k x hk=>by omega,fun k x hk hx=>by have:=lt_of_get hx;omega⟩,?_⟩
 rintro _ ⟨i,j,rfl,hij,hj,h1,h2⟩
 refine ⟨fun h3=>?_,fun h3=>?_⟩
 ·have h3:i<j:=by simpa using h3
  simp only [half i j hij (by omega),Int.toNat_natCast]
  refine ⟨by omega,by omega,fun x hx=>⟨fun e=>?_,fun e=>?_⟩⟩
  ·rw [cmpH,cmp_lt] at e
   rw [W_succ (n:=l.length) (by omega) (by omega)]
   refine ⟨⟨_,_,rfl,by omega,hj,fun k y hk hy=>?_,h2⟩,by omega⟩
   by_cases e':k=(i+j) / 2
   ·subst e';rw [hx] at hy;cases hy;exact e
   ·have:=pw_get h (show k<(i+j) / 2 by omega) hy hx;omega
  ·rw [cmpH,cmp_lt] at e
   refine ⟨⟨_,_,rfl,by omega,by omega,h1,fun k y hk hy=>?_⟩,by omega⟩
   by_cases e':k=(i+j) / 2
   ·subst e';rw [hx] at hy;cases hy;omega
   ·have:=pw_get h (show (i+j) / 2<k by omega) hx hy;omega
 ·have h3:i=j:=by simp at h3;omega
  subst h3
  have hp:posH l r=i:=idx_eq (key:=Hrd.router) hj h1 h2
  simp only [Int.toNat_natCast]
  refine ⟨fun h4=>⟨by omega,by omega,fun x hx=>?_⟩,fun h4=>?_⟩
  ·have e:hitH l r↔x.router=r:=by rw [hitH,hp,getD_some hx];exact ⟨fun h=>h.2,fun h=>⟨lt_of_get hx,h⟩⟩
   rw [hp]
   refine congrArg _ ?_
   rw [cmpH,Bool.eq_iff_iff,decide_eq_true_iff,e,beq_iff_eq,cmp_eq]
  ·rw [hp,decide_eq_false]
   rw [hitH,hp];intro h;omega
def bsH_c(x:(List Hrd))(target:Int)(h:x.Pairwise fun x y=>x.router<y.router)(hl:x.length≤1000000):PC Tryz.prog:=⟨199,[(.s 4),.k,.k],[.sl 4 (x.map Hrd.v) false,.int target,.func 200 []],bsH_e ((posH x target:Int),decide (hitH x target)),PSpec.of_ok fun ok=>(bsH_p x target h hl ok).elim fun I0 h=>h.elim fun m0 h=>mxP_of (sh:=.k) (enc:=bsH_e) (a:=((.loop 0 (bsH_n0 x target) (I0) (m0) ((0,((x.map Hrd.v).length:Int)):Int×Int) [] fun (t0:Int×Int) =>
 (.br 48 (.el 208 Hrd.v x fun x1 =>
 (.callP (cmpH_c x1 target)
 (.br 288 (.back 0 ((W ((W (Int.fdiv (IntKind.u64.wrap (W (t0.1+t0.2))) 2))+1),t0.2):Int×Int) [])
 (.back 0 ((t0.1,W (Int.fdiv (IntKind.u64.wrap (W (t0.1+t0.2))) 2)):Int×Int) []))))
 (.br 128 (.el 176 Hrd.v x fun x2 =>
 (.callP (cmpH_c x2 target)
 (.ret (t0.1,(cmpH x2 target)==0))))
 (.ret (t0.1,false))))):An Tryz.prog bsH_s (Int×Bool))) h (by kernel_rfl) (AV.pureB_ok rfl),fnB_ok (by kernel_rfl)⟩
def peer_a(s:Spk)(router:Int):Prop:=okL [.agg [.int s.router,.int s.epoch,.int s.last,.sl 4 (s.items.map Itm.v) false,.sl 3 (s.peers.map Per.v) false],.int router]
def peer_s:Nat→Type
 | _=>Unit
def peer_e(r:Int×Bool):AV:=.tup [.int r.1,.bool r.2]
def peer_vc(s:Spk)(router:Int)(r0:Int×Bool):Prop:=
 ∃h1:s.peers.Pairwise fun x y=>x.router<y.router,
 ∃h2:s.peers.length≤1000000,
 Cl (bsP_c s.peers router h1 h2)
 (Rp peer_e ((posP s.peers router:Int),decide (hitP s.peers router)) r0)
theorem peer_p(s:Spk)(r:Int)(h:s.peers.Pairwise fun x y=>x.router<y.router)(hl:s.peers.length≤1000000)(ok:peer_a s r):peer_vc s r ((posP s.peers r:Int),decide (hitP s.peers r)):=by
 simp only [peer_vc,vcU,rfU,List.length_map]
 exact ⟨h,hl,trivial⟩
def peer_c(s:Spk)(router:Int)(h:s.peers.Pairwise fun x y=>x.router<y.router)(hl:s.peers.length≤1000000):PC Tryz.prog:=⟨148,[(.a [.k,.k,.k,(.s 4),(.s 3)]),.k],[.agg [.int s.router,.int s.epoch,.int s.last,.sl 4 (s.items.map Itm.v) false,.sl 3 (s.peers.map Per.v) false],.int router],peer_e ((posP s.peers router:Int),decide (hitP s.peers router)),PSpec.of_ok fun ok=>mxP_of (sh:=.k) (enc:=peer_e) (a:=((.req 96 (s.peers.Pairwise fun x y=>x.router<y.router) fun h1 =>
 (.req 96 (s.peers.length≤1000000) fun h2 =>
 (.callP (bsP_c s.peers router h1 h2)
 (.ret ((posP s.peers router:Int),decide (hitP s.peers router)))))):An Tryz.prog peer_s (Int×Bool))) (peer_p s router h hl ok) (by kernel_rfl) (AV.pureB_ok rfl),fnB_ok (by kernel_rfl)⟩
def heard_a(l:Lsn)(router:Int):Prop:=okL [.agg [.int l.router,.int l.epoch,.sl 4 (l.heard.map Hrd.v) false],.int router]
def heard_s:Nat→Type
 | _=>Unit
def heard_e(r:Int×Bool):AV:=.tup [.int r.1,.bool r.2]
def heard_vc(l:Lsn)(router:Int)(r0:Int×Bool):Prop:=
 ∃h1:l.heard.Pairwise fun x y=>x.router<y.router,
 ∃h2:l.heard.length≤1000000,
 Cl (bsH_c l.heard router h1 h2)
 (Rp heard_e ((posH l.heard router:Int),decide (hitH l.heard router)) r0)
theorem heard_p(l:Lsn)(r:Int)(h:l.heard.Pairwise fun x y=>x.router<y.router)(hl:l.heard.length≤1000000)(ok:heard_a l r):heard_vc l r ((posH l.heard r:Int),decide (hitH l.heard r)):=by
 simp only [heard_vc,vcU,rfU,List.length_map]
 exact ⟨h,hl,trivial⟩
def heard_c(l:Lsn)(router:Int)(h:l.heard.Pairwise fun x y=>x.router<y.router)(hl:l.heard.length≤1000000):PC Tryz.prog:=⟨134,[(.a [.k,.k,(.s 4)]),.k],[.agg [.int l.router,.int l.epoch,.sl 4 (l.heard.map Hrd.v) false],.int router],heard_e ((posH l.heard router:Int),decide (hitH l.heard router)),PSpec.of_ok fun ok=>mxP_of (sh:=.k) (enc:=heard_e) (a:=((.req 96 (l.heard.Pairwise fun x y=>x.router<y.router) fun h1 =>
 (.req 96 (l.heard.length≤1000000) fun h2 =>
 (.callP (bsH_c l.heard router h1 h2)
 (.ret ((posH l.heard router:Int),decide (hitH l.heard router)))))):An Tryz.prog heard_s (Int×Bool))) (heard_p l router h hl ok) (by kernel_rfl) (AV.pureB_ok rfl),fnB_ok (by kernel_rfl)⟩
def noF(f:Flt):Bool:=f.mode==1 && (f.srcs.length:Int)==0
def noF_a(f:Flt):Prop:=okL [.agg [.int f.mode,.sl 1 (f.srcs.map AV.int) false]]
def noF_s:Nat→Type
 | _=>Unit
def noF_e(r:Bool):AV:=.bool r
def noF_vc(f:Flt)(r0:Bool):Prop:=
 br (f.mode==1)
 (Rp noF_e (((f.srcs.map AV.int).length:Int)==0) r0)
 (Rp noF_e (false) r0)
theorem noF_p(f:Flt)(ok:noF_a f):noF_vc f (noF f):=by
 simp only [noF_vc,vcU,rfU,List.length_map]
 by_cases h:f.mode=1<;>simp [noF,h]
def noF_c(f:Flt):PC Tryz.prog:=⟨245,[(.a [.k,(.s 1)])],[.agg [.int f.mode,.sl 1 (f.srcs.map AV.int) false]],noF_e (noF f),PSpec.of_ok fun ok=>mxP_of (sh:=.k) (enc:=noF_e) (a:=((.br 96 (.ret (((f.srcs.map AV.int).length:Int)==0))
 (.ret (false))):An Tryz.prog noF_s (Bool))) (noF_p f ok) (by kernel_rfl) (AV.pureB_ok rfl),fnB_ok (by kernel_rfl)⟩
def checkW_a(l:(List Wnt))(changes:Bool):Prop:=okL [.sl 3 (l.map Wnt.v) false,.bool changes]
def checkW_n0(l:(List Wnt))(changes:Bool)(t0:Int):NF:=⟨[(0,.k,.sl 3 (l.map Wnt.v) false),(1,.k,.bool changes),(16,.k,.sl 3 (l.map Wnt.v) false),(17,.k,.int ((l.map Wnt.v).length:Int)),(18,.k,.int t0)],[]⟩
def checkW_n1(l:(List Wnt))(changes:Bool)(t0:Int)(t1:Int):NF:=⟨[(0,.k,.sl 3 (l.map Wnt.v) false),(1,.k,.bool changes),(31,.k,.sl 3 (l.map Wnt.v) false),(32,.k,.int ((l.map Wnt.v).length:Int)),(33,.k,.int t1)],[]⟩
def checkW_n2(l:(List Wnt))(changes:Bool)(t0:Int)(t1:Int)(t2:Int):NF:=⟨[(0,.k,.sl 3 (l.map Wnt.v) false),(1,.k,.bool changes),(44,.k,.sl 3 (l.map Wnt.v) false),(45,.k,.int ((l.map Wnt.v).length:Int)),(46,.k,.int t2)],[]⟩
def checkW_n3(l:(List Wnt))(changes:Bool)(t0:Int)(t1:Int)(t2:Int)(t3:Int):NF:=⟨[(0,.k,.sl 3 (l.map Wnt.v) false),(12,.k,.int t3)],[]⟩
def checkW_s:Nat→Type
 | 0=>Int
 | 1=>Int
 | 2=>Int
 | 3=>Int
 | _=>Unit
def checkW_e(r:Int):AV:=.int r
def checkW_vc(l:(List Wnt))(changes:Bool)(I0:Int→Prop)(m0:Int→Nat)(I1:Int→Int→Prop)(m1:Int→Int→Nat)(I2:Int→Int→Int→Prop)(m2:Int→Int→Int→Nat)(I3:Int→Int→Int→Int→Prop)(m3:Int→Int→Int→Int→Nat)(r0:Int):Prop:=
 br (decide (32<((l.map Wnt.v).length:Int)))
 (Rp checkW_e (3) r0)
 (Be (checkW_n0 l changes) [] I0 (0)∧∀t0,I0 t0 →
 br (decide (t0<((l.map Wnt.v).length:Int)))
 (Rf (l.map Wnt.v) (ck (decide (0≤t0)) (ck (decide (t0<(l.length:Int)))
 (∀x1,l[t0.toNat]?=some x1 →
 br (decide (x1.grp<1))
 (Rp checkW_e (2) r0)
 (br (decide (99<x1.grp))
 (Rp checkW_e (2) r0)
 (Bk (checkW_n0 l changes) [] I0 m0 (W (t0+1)) t0))))))
 (Be (checkW_n1 l changes t0) [] (I1 t0) (0)∧∀t1,I1 t0 t1 →
 br (decide (t1<((l.map Wnt.v).length:Int)))
 (Rf (l.map Wnt.v) (ck (decide (0≤t1)) (ck (decide (t1<(l.length:Int)))
 (∀x2,l[t1.toNat]?=some x2 →
 Cl (PVal_c (⟨x2.mode,x2.srcs⟩:Flt))
 (br ((fltErr (⟨x2.mode,x2.srcs⟩:Flt).mode (⟨x2.mode,x2.srcs⟩:Flt).srcs) != 0)
 (Rp checkW_e (fltErr (⟨x2.mode,x2.srcs⟩:Flt).mode (⟨x2.mode,x2.srcs⟩:Flt).srcs) r0)
 (Bk (checkW_n1 l changes t0) [] (I1 t0) (m1 t0) (W (t1+1)) t1))))))
 (Be (checkW_n2 l changes t0 t1) [] (I2 t0 t1) (0)∧∀t2,I2 t0 t1 t2 →
 br (decide (t2<((l.map Wnt.v).length:Int)))
 (Rf (l.map Wnt.v) (ck (decide (0≤t2)) (ck (decide (t2<(l.length:Int)))
 (∀x3,l[t2.toNat]?=some x3 →
 br (!changes)
 (Cl (noF_c (⟨x3.mode,x3.srcs⟩:Flt))
 (br (noF (⟨x3.mode,x3.srcs⟩:Flt))
 (Rp checkW_e (1) r0)
 (Bk (checkW_n2 l changes t0 t1) [] (I2 t0 t1) (m2 t0 t1) (W (t2+1)) t2)))
 (Bk (checkW_n2 l changes t0 t1) [] (I2 t0 t1) (m2 t0 t1) (W (t2+1)) t2)))))
 (Be (checkW_n3 l changes t0 t1 t2) [] (I3 t0 t1 t2) (1)∧∀t3,I3 t0 t1 t2 t3 →
 br (decide (t3<((l.map Wnt.v).length:Int)))
 (Rf (l.map Wnt.v) (ck (decide (0≤(W (t3-1)))) (ck (decide ((W (t3-1))<(l.length:Int)))
 (∀x4,l[(W (t3-1)).toNat]?=some x4 →
 Rf (l.map Wnt.v) (ck (decide (0≤t3)) (ck (decide (t3<(l.length:Int)))
 (∀x5,l[t3.toNat]?=some x5 →
 br (decide (x5.grp≤x4.grp))
 (Rp checkW_e (25) r0)
 (Bk (checkW_n3 l changes t0 t1 t2) [] (I3 t0 t1 t2) (m3 t0 t1 t2) (W (t3+1)) t3))))))))
 (Rp checkW_e (0) r0)))))
theorem orI_at{α:Type}{l:List α}{f:α→Int}{k:Nat}{x:α}(h:∀y∈l.take k,f y=0)(hx:l[k]?=some x)(hn:f x≠0):orI (l.map f)=f x:=by
 rw [orI,find_at (k:=k) (x:=f x)]
 ·rfl
 ·intro y hy
  rw [←List.map_take] at hy
  obtain ⟨z,hz,rfl⟩:=List.mem_map.mp hy
  simp [h z hz]
 ·rw [List.getElem?_map,hx];rfl
 ·simpa using hn
theorem orI_all{α:Type}{l:List α}{f:α→Int}(h:∀y∈l,f y=0):orI (l.map f)=0:=by
 rw [orI,List.find?_eq_none.mpr];· rfl
 intro x hx;obtain ⟨z,hz,rfl⟩:=List.mem_map.mp hx;simp [h z hz]
theorem all_take{α:Type}{P:α→Prop}{l:List α}{k:Nat}{x:α}(h:∀y∈l.take k,P y)(hx:l[k]?=some x)(hp:P x):∀y∈l.take (k+1),P y:=by
 rw [take_succ hx]
 intro z hz
 rcases List.mem_append.mp hz with hz|hz
 ·exact h z hz
 ·rw [List.mem_singleton] at hz;subst hz;exact hp
theorem checkW_p(l:List Wnt)(chg:Bool)(ok:checkW_a l chg):∃I0 m0 I1 m1 I2 m2 I3 m3,checkW_vc l chg I0 m0 I1 m1 I2 m2 I3 m3 (wErr chg l):=by
 let R:Prop:=∀w∈l,1≤w.grp∧w.grp≤99
 let F:Prop:=∀w∈l,fltErr w.mode w.srcs=0
 let N:Prop:=chg=false→∀w∈l,¬isNoW w
 refine ⟨fun t=>∃k:Nat,t=k∧k≤l.length∧∀w∈l.take k,1≤w.grp∧w.grp≤99,fun t=>l.length-t.toNat,
  fun _ t=>R∧∃k:Nat,t=k∧k≤l.length∧∀w∈l.take k,fltErr w.mode w.srcs=0,fun _ t=>l.length-t.toNat,
  fun _ _ t=>R∧F∧∃k:Nat,t=k∧k≤l.length∧∀w∈l.take k,chg=false→¬isNoW w,fun _ _ t=>l.length-t.toNat,
  fun _ _ _ t=>R∧F∧N∧∃k:Nat,t=k∧1≤k∧k≤l.length+1∧∀j x y,j+1<k→l[j]?=some x→l[j+1]?=some y→x.grp<y.grp,fun _ _ _ t=>l.length+1-t.toNat,?_⟩
 simp only [checkW_vc,vcU,rfU,List.length_map]
 have hno:∀x:Wnt,noF ⟨x.mode,x.srcs⟩=true↔isNoW x:=fun x=>by simp [noF,isNoW]
 refine ⟨fun e=>by rw [wErr,if_pos (by omega)],fun e0=>⟨⟨0,rfl,by omega,by simp⟩,?_⟩⟩
 have e0:¬32<l.length:=by omega
 rintro _ ⟨k,rfl,hk,h⟩
 simp only [Int.toNat_natCast]
 refine ⟨fun h1=>⟨by omega,by omega,fun x hx=>?_⟩,fun h1=>?_⟩
 ·have bad:¬(1≤x.grp∧x.grp≤99)→2=wErr chg l:=fun h=>by
   rw [wErr,if_neg e0,if_pos fun h'=>h (h' x (mem_of_get hx))]
  refine ⟨fun e=>bad (by omega),fun e1=>⟨fun e=>bad (by omega),fun e2=>?_⟩⟩
  rw [W_succ (n:=l.length) (by omega) (by omega)]
  exact ⟨⟨k+1,rfl,by omega,all_take h hx ⟨by omega,by omega⟩⟩,by omega⟩
 rw [List.take_of_length_le (by omega)] at h
 have hR:R:=h
 have w1:wErr chg l=if wFErrs l≠0 then wFErrs l else if chg=false∧∃w∈l,isNoW w then 1 else if ¬(l.Pairwise fun x y=>x.grp<y.grp) then 25 else 0:=by
  rw [wErr,if_neg e0,if_neg (fun h=>h hR)]
 clear h h1 hk k
 refine ⟨⟨hR,0,rfl,by omega,by simp⟩,?_⟩
 rintro _ ⟨-,k,rfl,hk,h⟩
 simp only [Int.toNat_natCast]
 refine ⟨fun h1=>⟨by omega,by omega,fun x hx=>⟨fun e=>?_,fun e=>?_⟩⟩,fun h1=>?_⟩
 ·have e:fltErr x.mode x.srcs≠0:=by simpa using e
  have:wFErrs l=fltErr x.mode x.srcs:=orI_at (f:=fun x:Wnt=>fltErr x.mode x.srcs) h hx e
  rw [w1,this,if_pos e]
 ·rw [W_succ (n:=l.length) (by omega) (by omega)]
  exact ⟨⟨hR,k+1,rfl,by omega,all_take h hx (by simpa using e)⟩,by omega⟩
 rw [List.take_of_length_le (by omega)] at h
 have hF:F:=h
 have w2:wErr chg l=if chg=false∧∃w∈l,isNoW w then 1 else if ¬(l.Pairwise fun x y=>x.grp<y.grp) then 25 else 0:=by
  rw [w1,if_neg (fun hh=>hh (orI_all hF))]
 clear h h1 hk k
 refine ⟨⟨hR,hF,0,rfl,by omega,by simp⟩,?_⟩
 rintro _ ⟨-,-,k,rfl,hk,h⟩
 simp only [Int.toNat_natCast]
 refine ⟨fun h1=>⟨by omega,by omega,fun x hx=>?_⟩,fun h1=>?_⟩
 ·have step:(chg=false→¬isNoW x)→(R∧F∧∃k':Nat,W ((k:Int)+1)=k'∧k'≤l.length∧∀w∈l.take k',chg=false→¬isNoW w)∧l.length-(W ((k:Int)+1)).toNat<l.length-k:=by
   intro hs
   rw [W_succ (n:=l.length) (by omega) (by omega)]
   exact ⟨⟨hR,hF,k+1,rfl,by omega,all_take h hx hs⟩,by omega⟩
  refine ⟨fun e=>⟨fun e2=>?_,fun e2=>step fun _ hn=>?_⟩,fun e=>step fun hc=>?_⟩
  ·rw [w2,if_pos ⟨by simpa using e,x,mem_of_get hx,(hno x).mp e2⟩]
  ·rw [(hno x).mpr hn] at e2;cases e2
  ·simp [hc] at e
 rw [List.take_of_length_le (by omega)] at h
 have hN:N:=fun hc w hw=>h w hw hc
 have w3:wErr chg l=if ¬(l.Pairwise fun x y=>x.grp<y.grp) then 25 else 0:=by
  rw [w2,if_neg (fun ⟨hc,w,hw,hn⟩=>hN hc w hw hn)]
 clear h h1 hk k
 refine ⟨⟨hR,hF,hN,1,rfl,by omega,by omega,fun j x y hj=>by omega⟩,?_⟩
 rintro _ ⟨-,-,-,k,rfl,hk1,hk,h⟩
 refine ⟨fun h1=>?_,fun h1=>?_⟩
 ·rw [W_pred (by omega) hk1]
  simp only [Int.toNat_natCast]
  refine ⟨by omega,by omega,fun x hx=>⟨by omega,by omega,fun y hy=>⟨fun e=>?_,fun e=>?_⟩⟩⟩
  ·rw [w3,if_pos]
   intro hp
   have:x.grp<y.grp:=pw_get hp (show k-1<k by omega) hx hy
   omega
  ·rw [W_succ (n:=l.length) (by omega) (by omega)]
   refine ⟨⟨hR,hF,hN,k+1,rfl,by omega,by omega,fun j x' y' hj hx' hy'=>?_⟩,by omega⟩
   by_cases e':j+1=k
   ·subst e'
    rw [show j+1-1=j by omega,hx'] at hx;cases hx
    rw [hy'] at hy;cases hy;omega
   ·exact h j x' y' (by omega) hx' hy'
 ·rw [w3,if_neg]
  exact fun hh=>hh (pw_adj fun j x y hx hy=>h j x y (by have:=lt_of_get hy;omega) hx hy)
def checkW_c(l:(List Wnt))(changes:Bool):PC Tryz.prog:=⟨230,[(.s 3),.k],[.sl 3 (l.map Wnt.v) false,.bool changes],checkW_e (wErr changes l),PSpec.of_ok fun ok=>(checkW_p l changes ok).elim fun I0 h=>h.elim fun m0 h=>h.elim fun I1 h=>h.elim fun m1 h=>h.elim fun I2 h=>h.elim fun m2 h=>h.elim fun I3 h=>h.elim fun m3 h=>mxP_of (sh:=.k) (enc:=checkW_e) (a:=((.br 64 (.ret (3))
 (.loop 0 (checkW_n0 l changes) (I0) (m0) ((0):Int) [] fun (t0:Int) =>
 (.br 16 (.el 16 Wnt.v l fun x1 =>
 (.br 144 (.ret (2))
 (.br 208 (.ret (2))
 (.back 0 ((W (t0+1)):Int) []))))
 (.loop 1 (checkW_n1 l changes t0) (I1 t0) (m1 t0) ((0):Int) [] fun (t1:Int) =>
 (.br 16 (.el 16 Wnt.v l fun x2 =>
 (.callP (PVal_c (⟨x2.mode,x2.srcs⟩:Flt))
 (.br 176 (.ret (fltErr (⟨x2.mode,x2.srcs⟩:Flt).mode (⟨x2.mode,x2.srcs⟩:Flt).srcs))
 (.back 1 ((W (t1+1)):Int) []))))
 (.loop 2 (checkW_n2 l changes t0 t1) (I2 t0 t1) (m2 t0 t1) ((0):Int) [] fun (t2:Int) =>
 (.br 16 (.el 16 Wnt.v l fun x3 =>
 (.br 128 (.callP (noF_c (⟨x3.mode,x3.srcs⟩:Flt))
 (.br 192 (.ret (1))
 (.back 2 ((W (t2+1)):Int) [])))
 (.back 2 ((W (t2+1)):Int) [])))
 (.loop 3 (checkW_n3 l changes t0 t1 t2) (I3 t0 t1 t2) (m3 t0 t1 t2) ((1):Int) [] fun (t3:Int) =>
 (.br 64 (.el 112 Wnt.v l fun x4 =>
 (.el 192 Wnt.v l fun x5 =>
 (.br 256 (.ret (25))
 (.back 3 ((W (t3+1)):Int) []))))
 (.ret (0))))))))))):An Tryz.prog checkW_s (Int))) h (by kernel_rfl) (AV.pureB_ok rfl),fnB_ok (by kernel_rfl)⟩
def valW_a(l:(List Wnt)):Prop:=okL [.sl 3 (l.map Wnt.v) false]
def valW_s:Nat→Type
 | _=>Unit
def valW_e(r:Int):AV:=.int r
def valW_vc(l:(List Wnt))(r0:Int):Prop:=
 Cl (checkW_c l false)
 (Rp valW_e (wErr false l) r0)
theorem valW_p(l:List Wnt)(ok:valW_a l):valW_vc l (wErr false l):=by
 simp only [valW_vc,vcU,rfU,List.length_map]
def valW_c(l:(List Wnt)):PC Tryz.prog:=⟨181,[(.s 3)],[.sl 3 (l.map Wnt.v) false],valW_e (wErr false l),PSpec.of_ok fun ok=>mxP_of (sh:=.k) (enc:=valW_e) (a:=((.callP (checkW_c l false)
 (.ret (wErr false l))):An Tryz.prog valW_s (Int))) (valW_p l ok) (by kernel_rfl) (AV.pureB_ok rfl),fnB_ok (by kernel_rfl)⟩
def copiedW_a(w:Wnt):Prop:=okL [.agg [.int w.grp,.int w.mode,.sl 1 (w.srcs.map AV.int) false]]
def copiedW_s:Nat→Type
 | _=>Unit
def copiedW_e(r:Wnt):AV:=Wnt.v r
def copiedW_vc(w:Wnt)(r0:Wnt):Prop:=
 ∃h1:w.srcs.length≤1000000,
 Cl (cloneI_c w.srcs h1)
 (Rp copiedW_e (w) r0)
theorem copiedW_p(w:Wnt)(h:w.srcs.length≤1000000)(ok:copiedW_a w):copiedW_vc w w:=by
 simp only [copiedW_vc,vcU,rfU,List.length_map]
 exact ⟨h,trivial⟩
def copiedW_c(w:Wnt)(h:w.srcs.length≤1000000):PC Tryz.prog:=⟨225,[(.a [.k,.k,(.s 1)])],[.agg [.int w.grp,.int w.mode,.sl 1 (w.srcs.map AV.int) false]],copiedW_e w,PSpec.of_ok fun ok=>mxP_of (sh:=(.a [.k,.k,(.s 1)])) (enc:=copiedW_e) (a:=((.req 80 (w.srcs.length≤1000000) fun h1 =>
 (.callP (cloneI_c w.srcs h1)
 (.ret (w)))):An Tryz.prog copiedW_s (Wnt))) (copiedW_p w h ok) (by kernel_rfl) (AV.pureB_ok rfl),fnB_ok (by kernel_rfl)⟩
structure Bnd where
  lo:Int
  hi:Int
structure Frm where
  l0:Int
  h0:Int
  l1:Int
  h1:Int
  l2:Int
  h2:Int
  l3:Int
  h3:Int
  l4:Int
  h4:Int
def Frm.v(b:Frm):AV:=.agg [.int b.l0,.int b.h0,.int b.l1,.int b.h1,.int b.l2,.int b.h2,.int b.l3,.int b.h3,.int b.l4,.int b.h4]
def hasB(b:Bnd)(n:Int):Bool:=decide (b.lo≤n) && decide (n≤b.hi)
def hasB_a(b:Bnd)(n:Int):Prop:=okL [.agg [.int b.lo,.int b.hi],.int n]
def hasB_s:Nat→Type
 | _=>Unit
def hasB_e(r:Bool):AV:=.bool r
def hasB_vc(b:Bnd)(n:Int)(r0:Bool):Prop:=
 br (decide (b.lo≤n))
 (Rp hasB_e (decide (n≤b.hi)) r0)
 (Rp hasB_e (false) r0)
theorem hasB_p(b:Bnd)(n:Int)(ok:hasB_a b n):hasB_vc b n (hasB b n):=by
 simp only [hasB_vc,vcU,rfU,List.length_map]
 by_cases h:b.lo≤n<;>simp [hasB,h]
def hasB_c(b:Bnd)(n:Int):PC Tryz.prog:=⟨202,[.k,.k],[.agg [.int b.lo,.int b.hi],.int n],hasB_e (hasB b n),PSpec.of_ok fun ok=>mxP_of (sh:=.k) (enc:=hasB_e) (a:=((.br 112 (.ret (decide (n≤b.hi)))
 (.ret (false))):An Tryz.prog hasB_s (Bool))) (hasB_p b n ok) (by kernel_rfl) (AV.pureB_ok rfl),fnB_ok (by kernel_rfl)⟩
def formsF(s:Sig):Frm×Bool:=
 if s.kind=1 then (⟨1,1000000,0,1000000,0,0,0,0,0,0⟩,true)
 else if s.kind=2 then (⟨1,1000000,1,1000000,0,W (s.ver-1),0,0,1,99⟩,true)
 else if s.kind=3 then (⟨0,1000000,0,1000000,0,0,1,1000000,0,0⟩,true)
 else (⟨0,0,0,0,0,0,0,0,0,0⟩,false)
def forms_a(s:Sig):Prop:=okL [.agg [.int s.kind,.int s.src,.int s.dst,.int s.epoch,.int s.ver,.int s.prev,.int s.pep,.int s.grp,.int s.mode,.sl 1 (s.srcs.map AV.int) false]]
def forms_s:Nat→Type
 | _=>Unit
def forms_e(r:Frm×Bool):AV:=.tup [Frm.v r.1,.bool r.2]
def forms_vc(s:Sig)(r0:Frm×Bool):Prop:=
 br (s.kind==1)
 (Rp forms_e ((⟨1,1000000,0,1000000,0,0,0,0,0,0⟩:Frm),true) r0)
 (br (s.kind==2)
 (Rp forms_e ((⟨1,1000000,1,1000000,0,W (s.ver-1),0,0,1,99⟩:Frm),true) r0)
 (br (s.kind==3)
 (Rp forms_e ((⟨0,1000000,0,1000000,0,0,1,1000000,0,0⟩:Frm),true) r0)
 (Rp forms_e ((⟨0,0,0,0,0,0,0,0,0,0⟩:Frm),false) r0)))
theorem forms_p(s:Sig)(ok:forms_a s):forms_vc s (formsF s):=by
 simp only [forms_vc,vcU,rfU,List.length_map]
 refine ⟨fun e=>?_,fun e=>⟨fun e2=>?_,fun e2=>⟨fun e3=>?_,fun e3=>?_⟩⟩⟩
 all_goals simp at *
 all_goals simp [formsF, *]
def forms_c(s:Sig):PC Tryz.prog:=⟨201,[(.a [.k,.k,.k,.k,.k,.k,.k,.k,.k,(.s 1)])],[.agg [.int s.kind,.int s.src,.int s.dst,.int s.epoch,.int s.ver,.int s.prev,.int s.pep,.int s.grp,.int s.mode,.sl 1 (s.srcs.map AV.int) false]],forms_e (formsF s),PSpec.of_ok fun ok=>mxP_of (sh:=.k) (enc:=forms_e) (a:=((.br 112 (.ret ((⟨1,1000000,0,1000000,0,0,0,0,0,0⟩:Frm),true))
 (.br 144 (.ret ((⟨1,1000000,1,1000000,0,W (s.ver-1),0,0,1,99⟩:Frm),true))
 (.br 176 (.ret ((⟨0,1000000,0,1000000,0,0,1,1000000,0,0⟩:Frm),true))
 (.ret ((⟨0,0,0,0,0,0,0,0,0,0⟩:Frm),false))))):An Tryz.prog forms_s (Frm×Bool))) (forms_p s ok) (by kernel_rfl) (AV.pureB_ok rfl),fnB_ok (by kernel_rfl)⟩
theorem hasB_iff{b:Bnd}{n:Int}:hasB b n=true↔b.lo≤n∧n≤b.hi:=by simp [hasB]
def numL(s:Sig):List Int:=[s.epoch,s.ver,s.prev,s.pep,s.grp]
def bndL(f:Frm):List Bnd:=[⟨f.l0,f.h0⟩,⟨f.l1,f.h1⟩,⟨f.l2,f.h2⟩,⟨f.l3,f.h3⟩,⟨f.l4,f.h4⟩]
theorem five{p:Int→Bnd→Prop}{s:Sig}{f:Frm}:(∀(j:Nat) x b,(numL s)[j]?=some x→(bndL f)[j]?=some b→p x b)↔p s.epoch ⟨f.l0,f.h0⟩∧p s.ver ⟨f.l1,f.h1⟩∧p s.prev ⟨f.l2,f.h2⟩∧p s.pep ⟨f.l3,f.h3⟩∧p s.grp ⟨f.l4,f.h4⟩:=by
 refine ⟨fun h=>⟨h 0 _ _ rfl rfl,h 1 _ _ rfl rfl,h 2 _ _ rfl rfl,h 3 _ _ rfl rfl,h 4 _ _ rfl rfl⟩,fun ⟨h0,h1,h2,h3,h4⟩ j x b hx hb=>?_⟩
 rcases j with _|_|_|_|_|j<;>simp [numL,bndL] at hx hb<;>subst hx hb<;>assumption
theorem nums_iff{s:Sig}(hv:-9223372036854775808≤s.ver∧s.ver≤9223372036854775807)(hk:(formsF s).2=true) :
  sigNums s↔∀(j:Nat) x b,(numL s)[j]?=some x→(bndL (formsF s).1)[j]?=some b→hasB b x=true:=by
 rw [five (p:=fun x b=>hasB b x=true)]
 simp only [hasB_iff]
 by_cases e1:s.kind=1
 ·simp [formsF,sigNums,e1];omega
 ·by_cases e2:s.kind=2
  ·simp only [formsF,sigNums,if_neg e1,if_pos e2]
   constructor
   ·rintro ⟨h0,h1,h2,h3,h4⟩
    rw [W_eq (by omega)];omega
   ·rintro ⟨h0,h1,h2,h3,h4⟩
    rw [W_eq (by omega)] at h2;omega
  ·by_cases e3:s.kind=3
   ·simp [formsF,sigNums,e3];omega
   ·simp [formsF,e1,e2,e3] at hk
theorem forms_iff{s:Sig}:(formsF s).2=true↔s.kind=1∨s.kind=2∨s.kind=3:=by
 by_cases e1:s.kind=1
 ·simp [formsF,e1]
 ·by_cases e2:s.kind=2
  ·simp [formsF,e2]
  ·by_cases e3:s.kind=3<;>simp [formsF,e1,e2,e3]
def sigV_a(s:Sig):Prop:=okL [.agg [.int s.kind,.int s.src,.int s.dst,.int s.epoch,.int s.ver,.int s.prev,.int s.pep,.int s.grp,.int s.mode,.sl 1 (s.srcs.map AV.int) false]]
def sigV_n0(s:Sig)(t0:Int):NF:=⟨[(1,.k,.ref 0 0),(3,.k,.ref 1 0),(45,.k,.agg [.int s.epoch,.int s.ver,.int s.prev,.int s.pep,.int s.grp]),(46,.k,.int t0)],[.box (.agg [.int s.kind,.int s.src,.int s.dst,.int s.epoch,.int s.ver,.int s.prev,.int s.pep,.int s.grp,.int s.mode,.sl 1 (s.srcs.map AV.int) false]),.box (.agg [.int (((formsF s).1).l0),.int (((formsF s).1).h0),.int (((formsF s).1).l1),.int (((formsF s).1).h1),.int (((formsF s).1).l2),.int (((formsF s).1).h2),.int (((formsF s).1).l3),.int (((formsF s).1).h3),.int (((formsF s).1).l4),.int (((formsF s).1).h4)])]⟩
def sigV_s:Nat→Type
 | 0=>Int
 | _=>Unit
def sigV_e(r:Int):AV:=.int r
def sigV_vc(s:Sig)(I0:Int→Prop)(m0:Int→Nat)(r0:Int):Prop:=
 Cl (forms_c s)
 (br (!((formsF s).2))
 (Rp sigV_e (1) r0)
 (Cl (hasB_c (⟨1,99⟩:Bnd) s.src)
 (br (!(hasB (⟨1,99⟩:Bnd) s.src))
 (Rp sigV_e (2) r0)
 (Cl (hasB_c (⟨1,99⟩:Bnd) s.dst)
 (br (!(hasB (⟨1,99⟩:Bnd) s.dst))
 (Rp sigV_e (2) r0)
 (br (s.src==s.dst)
 (Rp sigV_e (2) r0)
 (Be (sigV_n0 s) [0,112] I0 (0)∧∀t0,I0 t0 →
 br (decide (t0<5))
 (Rf (([s.epoch,s.ver,s.prev,s.pep,s.grp]:List Int).map AV.int) (ck (decide (0≤t0)) (ck (decide (t0<5)) (ck (decide (t0.toNat<([s.epoch,s.ver,s.prev,s.pep,s.grp]:List Int).length))
 (∀x1,([s.epoch,s.ver,s.prev,s.pep,s.grp]:List Int)[t0.toNat]?=some x1 →
 ck (cond (decide (0≤t0)) (decide (t0<5)) false)
 (Rf (α:=List AV) ([.int (((formsF s).1).l0),.int (((formsF s).1).h0),.int (((formsF s).1).l1),.int (((formsF s).1).h1),.int (((formsF s).1).l2),.int (((formsF s).1).h2),.int (((formsF s).1).l3),.int (((formsF s).1).h3),.int (((formsF s).1).l4),.int (((formsF s).1).h4)]) (((0+(t0.toNat * 2))=t0.toNat * 2)∧(ck (decide (t0.toNat<[(⟨((formsF s).1).l0,((formsF s).1).h0⟩:Bnd),(⟨((formsF s).1).l1,((formsF s).1).h1⟩:Bnd),(⟨((formsF s).1).l2,((formsF s).1).h2⟩:Bnd),(⟨((formsF s).1).l3,((formsF s).1).h3⟩:Bnd),(⟨((formsF s).1).l4,((formsF s).1).h4⟩:Bnd)].length))
 (∀x2,[(⟨((formsF s).1).l0,((formsF s).1).h0⟩:Bnd),(⟨((formsF s).1).l1,((formsF s).1).h1⟩:Bnd),(⟨((formsF s).1).l2,((formsF s).1).h2⟩:Bnd),(⟨((formsF s).1).l3,((formsF s).1).h3⟩:Bnd),(⟨((formsF s).1).l4,((formsF s).1).h4⟩:Bnd)][t0.toNat]?=some x2 →
 Cl (hasB_c x2 x1)
 (br (!(hasB x2 x1))
 (Rp sigV_e (2) r0)
 (Bk (sigV_n0 s) [0,1] I0 m0 (W (t0+1)) t0)))))))))))
 (br (s.kind==2)
 (Cl (PVal_c (⟨s.mode,s.srcs⟩:Flt))
 (Rp sigV_e (fltErr (⟨s.mode,s.srcs⟩:Flt).mode (⟨s.mode,s.srcs⟩:Flt).srcs) r0))
 (br (s.mode != 0)
 (Rp sigV_e (1) r0)
 (br (decide (0<((s.srcs.map AV.int).length:Int)))
 (Rp sigV_e (1) r0)
 (Rp sigV_e (0) r0)))))))))))
theorem sigV_p(s:Sig)(ok:sigV_a s):∃I m,sigV_vc s I m (sigErr s):=by
 simp only [sigV_a,okU,Blk.ok,plainV,List.length_map] at ok
 refine ⟨fun t=>∃k:Nat,t=k∧k≤5∧∀(j:Nat) x b,j<k→(numL s)[j]?=some x→(bndL (formsF s).1)[j]?=some b→hasB b x=true,fun t=>5-t.toNat,?_⟩
 simp only [sigV_vc,vcU,rfU,List.length_map]
 have hv:-9223372036854775808≤s.ver∧s.ver≤9223372036854775807:=ok.2.2.2.2.1
 refine ⟨fun e=>?_,fun e0=>?_⟩
 ·rw [sigErr,if_pos (fun h=>by rw [forms_iff.mpr h] at e;cases e)]
 have e0:(formsF s).2=true:=by simpa using e0
 have hk:=forms_iff.mp e0
 have bad:¬(sigEnds s∧sigNums s)→2=sigErr s:=fun h=>by rw [sigErr,if_neg (fun h=>h hk),if_pos h]
 refine ⟨fun e=>bad fun h=>?_,fun e1=>⟨fun e=>bad fun h=>?_,fun e2=>⟨fun e=>bad fun h=>?_,fun e3=>?_⟩⟩⟩
 ·have:=h.1.1;rw [hasB_iff.mpr this] at e;cases e
 ·have:=h.1.2.1;rw [hasB_iff.mpr this] at e;cases e
 ·have:=h.1.2.2;simp at e;exact this e
 have e1:=hasB_iff.mp (Bool.not_eq_false' .. ▸ e1:hasB ⟨1,99⟩ s.src=true)
 have e2:=hasB_iff.mp (Bool.not_eq_false' .. ▸ e2:hasB ⟨1,99⟩ s.dst=true)
 have hE:sigEnds s:=⟨e1,e2,by simpa using e3⟩
 refine ⟨⟨0,rfl,by omega,fun j x b hj=>by omega⟩,?_⟩
 rintro _ ⟨k,rfl,hk5,h⟩
 simp only [Int.toNat_natCast]
 refine ⟨fun h1=>⟨by omega,by omega,by simp;omega,fun x hx=>⟨by simp;omega,by omega,by simp;omega,fun b hb=>⟨fun e=>bad fun hs=>?_,fun e=>?_⟩⟩⟩,fun h1=>?_⟩
 ·have:=(nums_iff hv e0).mp hs.2 k x b hx hb
  rw [this] at e;cases e
 ·have e:hasB b x=true:=by simpa using e
  rw [W_succ (n:=5) (by omega) (by omega)]
  refine ⟨⟨k+1,rfl,by omega,fun j y c hj hy hc=>?_⟩,by omega⟩
  by_cases e':j=k
  ·subst e'
   have hy:=hy.symm.trans hx
   have hc:=hc.symm.trans hb
   cases hy;cases hc;exact e
  ·exact h j y c (by omega) hy hc
 have hN:sigNums s:=(nums_iff hv e0).mpr fun j x b hx hb=>h j x b (by have:=lt_of_get hx;simp [numL] at this;omega) hx hb
 have fin:sigErr s=if s.kind=2 then fltErr s.mode s.srcs else if s.mode≠0∨s.srcs≠[] then 1 else 0:=by
  rw [sigErr,if_neg (fun h=>h hk),if_neg (fun h=>h ⟨hE,hN⟩)]
 rw [fin]
 refine ⟨fun e=>by rw [if_pos (by simpa using e)],fun e=>?_⟩
 have e:¬s.kind=2:=by simpa using e
 rw [if_neg e]
 refine ⟨fun e=>by rw [if_pos (.inl (by simpa using e))],fun e1=>⟨fun e=>?_,fun e=>?_⟩⟩
 ·rw [if_pos (.inr fun h=>by rw [h] at e;simp at e)]
 ·rw [if_neg]
  rintro (h|h)
  ·exact h (by simpa using e1)
  ·exact h (List.eq_nil_of_length_eq_zero (by omega))
def sigV_c(s:Sig):PC Tryz.prog:=⟨142,[(.a [.k,.k,.k,.k,.k,.k,.k,.k,.k,(.s 1)])],[.agg [.int s.kind,.int s.src,.int s.dst,.int s.epoch,.int s.ver,.int s.prev,.int s.pep,.int s.grp,.int s.mode,.sl 1 (s.srcs.map AV.int) false]],sigV_e (sigErr s),PSpec.of_ok fun ok=>(sigV_p s ok).elim fun I0 h=>h.elim fun m0 h=>mxP_of (sh:=.k) (enc:=sigV_e) (a:=((.callP (forms_c s)
 (.br 192 (.ret (1))
 (.callP (hasB_c (⟨1,99⟩:Bnd) s.src)
 (.br 336 (.ret (2))
 (.callP (hasB_c (⟨1,99⟩:Bnd) s.dst)
 (.br 448 (.ret (2))
 (.br 544 (.ret (2))
 (.loop 0 (sigV_n0 s) (I0) (m0) ((0):Int) [0,112] fun (t0:Int) =>
 (.br 18 (.el 34 AV.int ([s.epoch,s.ver,s.prev,s.pep,s.grp]:List Int) fun x1 =>
 (.elA 114 (fun x:Bnd=>[.int x.lo,.int x.hi]) [(⟨((formsF s).1).l0,((formsF s).1).h0⟩:Bnd),(⟨((formsF s).1).l1,((formsF s).1).h1⟩:Bnd),(⟨((formsF s).1).l2,((formsF s).1).h2⟩:Bnd),(⟨((formsF s).1).l3,((formsF s).1).h3⟩:Bnd),(⟨((formsF s).1).l4,((formsF s).1).h4⟩:Bnd)] (t0.toNat) 2 (fun _=>rfl) fun x2 =>
 (.callP (hasB_c x2 x1)
 (.br 178 (.ret (2))
 (.back 0 ((W (t0+1)):Int) [0,1])))))
 (.br 66 (.callP (PVal_c (⟨s.mode,s.srcs⟩:Flt))
 (.ret (fltErr (⟨s.mode,s.srcs⟩:Flt).mode (⟨s.mode,s.srcs⟩:Flt).srcs)))
 (.br 146 (.ret (1))
 (.br 242 (.ret (1))
 (.ret (0)))))))))))))):An Tryz.prog sigV_s (Int))) h (by kernel_rfl) (AV.pureB_ok rfl),fnB_ok (by kernel_rfl)⟩
theorem errIf_pos{p:Prop}[Decidable p](h:p):errIf p=0:=if_pos h
theorem valS_t{s:Spk}:(valS s != 0)=true↔¬spkOk s:=by
 by_cases h:spkOk s<;>simp [valS,errIf,h]
theorem valS_f{s:Spk}:(valS s != 0)=false↔spkOk s:=by
 by_cases h:spkOk s<;>simp [valS,errIf,h]
theorem valL_t{s:Lsn}:(valL s != 0)=true↔¬lsnOk s:=by
 by_cases h:lsnOk s<;>simp [valL,errIf,h]
theorem valL_f{s:Lsn}:(valL s != 0)=false↔lsnOk s:=by
 by_cases h:lsnOk s<;>simp [valL,errIf,h]
theorem pureBLs_one{es:List AV}(h:pureBL es=true):pureBLs [es]=true:=by rw [pureBLs,h];rfl
theorem srcs_len{m:Int}{l:List Int}(h:fltErr m l=0):l.length≤99:=by
 unfold fltErr at h
 split at h
 ·cases h
 split at h
 ·cases h
 rename_i hr
 split at h
 ·cases h
 rename_i ha
 have hr:=Classical.not_not.mp hr
 have ha:=Classical.not_not.mp ha
 have hp:l.Pairwise fun x y=>id x<id y:=pw_adj (key:=id) fun j x y hx hy=>ascI_iff.mp ha j x y hx hy
 exact nodup_len 99 l (hp.imp fun h=>Int.ne_of_lt h) fun x hx=>by have:=hr x hx;omega
theorem okItms_of{n:Int}{l:List Itm}(h:itmsOk n l):okItms l:=⟨by have:=itms_len h;omega,fun x hx=>by have:=srcs_len (h.1 x hx).2.2;omega⟩
theorem set_same{α:Type}{l:List α}{i:Nat}{x:α}(h:l[i]?=some x):l.set i x=l:=by
 have hi:=lt_of_get h
 rw [List.getElem?_eq_getElem hi] at h
 rw [←Option.some.inj h];exact List.set_getElem_self hi
theorem orI_two(a b:Int):orI [a,b]=if a≠0 then a else b:=by
 by_cases h:a=0
 ·by_cases h2:b=0<;>simp [orI,h,h2]
 ·simp [orI,h]
theorem without_zero{n:Int}{l:List Itm}(h:itmsOk n l):Go.Proofs.YtgnogboljobocaaGreatDoor.without 0 l=l:=by
 rw [Go.Proofs.YtgnogboljobocaaGreatDoor.without,List.filter_eq_self]
 intro x hx
 have:=(h.1 x hx).2.1
 simp;omega
def new_a(router:Int)(epoch:Int)(peers:(List Int)):Prop:=okL [.int router,.int epoch,.sl 1 (peers.map AV.int) false]
def new_s:Nat→Type
 | _=>Unit
def new_e(r:Spk×Int):AV:=.tup [Spk.v r.1,.int r.2]
def new_vc(router:Int)(epoch:Int)(peers:(List Int))(r0:Spk×Int):Prop:=
 ∃h1:peers.length≤1000000,
 Ch (fresh_h peers h1) [] 80
 (Cl (valS_c (⟨router,epoch,0,[],fresh peers⟩:Spk))
 (ck (pureBLs [((fresh peers).map Per.v)])
 (br ((valS (⟨router,epoch,0,[],fresh peers⟩:Spk)) != 0)
 (Rp new_e ((⟨0,0,0,[],[]⟩:Spk),1) r0)
 (Rf ((fresh peers).map Per.v) (Rp new_e ((⟨router,epoch,0,[],fresh peers⟩:Spk),0) r0)))))
theorem new_p(r k:Int)(p:List Int)(h:p.length≤1000000)(ok:new_a r k p):new_vc r k p (new r k p):=by
 simp only [new_vc,vcU,rfU,List.length_map]
 refine ⟨h,pureBLs_one (pureBL_map (fun _=>rfl) _),fun e=>?_,fun e=>?_⟩
 ·have e:=valS_t.mp e
  exact (if_neg e).symm
 ·have e:=valS_f.mp e
  exact (if_pos e).symm
def new_c(router:Int)(epoch:Int)(peers:(List Int))(h:peers.length≤1000000):PC Tryz.prog:=⟨118,[.k,.k,(.s 1)],[.int router,.int epoch,.sl 1 (peers.map AV.int) false],new_e (Go.Proofs.YtgnogboljobocaaGreatDoor.new router epoch peers),PSpec.of_ok fun ok=>mxP_of (sh:=(.a [(.a [.k,.k,.k,(.s 4),(.s 3)]),.k])) (enc:=new_e) (a:=((.req 80 (peers.length≤1000000) fun h1 =>
 (.callH [] (fresh_h peers h1)
 (.callP (valS_c (⟨router,epoch,0,[],fresh peers⟩:Spk))
 (.br 192 (.ret ((⟨0,0,0,[],[]⟩:Spk),1))
 (.cmdL (.frzE 80 ((fresh peers).map Per.v) (pureBL_map (fun _=>rfl) (fresh peers))) (.ret ((⟨router,epoch,0,[],fresh peers⟩:Spk),0))))))):An Tryz.prog new_s (Spk×Int))) (new_p router epoch peers h ok) (by kernel_rfl) (AV.pureB_ok rfl),fnB_ok (by kernel_rfl)⟩
def sendF_a(s:Spk)(to_:Int):Prop:=okL [.agg [.int s.router,.int s.epoch,.int s.last,.sl 4 (s.items.map Itm.v) false,.sl 3 (s.peers.map Per.v) false],.int to_]
def sendF_n0(s:Spk)(to_:Int)(t0:Int×Int×(List Sig)):NF:=⟨[(1,.k,.int to_),(2,.k,.ref 0 0),(7,.k,.int (posP s.peers to_:Int)),(9,.k,.vec 1),(10,.k,.int t0.1),(36,.k,.sl 4 (s.items.map Itm.v) false),(37,.k,.int ((s.items.map Itm.v).length:Int)),(38,.k,.int t0.2.1)],[.box (.agg [.int s.router,.int s.epoch,.int s.last,.sl 4 (s.items.map Itm.v) false,.sl 3 (s.peers.map Per.v) false]),.vec 10 (t0.2.2.map Sig.v) (pureBL_map (fun _=>rfl) t0.2.2)]⟩
def sendF_s:Nat→Type
 | 0=>Int×Int×(List Sig)
 | _=>Unit
def sendF_e(r:(List Sig)×Int):AV:=.tup [.sl 10 (r.1.map Sig.v) false,.int r.2]
def sendF_vc(s:Spk)(to_:Int)(I0:(Int×Int×(List Sig))→Prop)(m0:(Int×Int×(List Sig))→Nat)(r0:(List Sig)×Int):Prop:=
 Cl (valS_c s)
 (br ((valS s) != 0)
 (Rp sendF_e ([],valS s) r0)
 (∃h1:s.peers.Pairwise fun x y=>x.router<y.router,
 ∃h2:s.peers.length≤1000000,
 Cl (peer_c s to_ h1 h2)
 (br (!(decide (hitP s.peers to_)))
 (Rp sendF_e ([],4) r0)
 (Be (sendF_n0 s to_) [0,416] I0 (0,0,[(⟨1,s.router,to_,s.epoch,s.last,0,0,0,0,[]⟩:Sig)])∧∀t0,I0 t0 →
 br (decide (t0.2.1<((s.items.map Itm.v).length:Int)))
 (Rf (s.items.map Itm.v) (ck (decide (0≤t0.2.1)) (ck (decide (t0.2.1<(s.items.length:Int)))
 (∀x3,s.items[t0.2.1.toNat]?=some x3 →
 Rf (s.peers.map Per.v) (ck (decide (0≤(posP s.peers to_:Int))) (ck (decide ((posP s.peers to_:Int)<(s.peers.length:Int)))
 (∀x4,s.peers[(posP s.peers to_:Int).toNat]?=some x4 →
 br (decide (x4.acked<x3.ver))
 (∃h5:(⟨x3.mode,x3.srcs⟩:Flt).srcs.length≤1000000,
 Cl (filtered_c (⟨x3.mode,x3.srcs⟩:Flt) h5)
 (Rf (α:=List AV) (t0.2.2.map Sig.v) (Rf (α:=List AV) [.agg [.int 2,.int s.router,.int to_,.int s.epoch,.int x3.ver,.int t0.1,.int 0,.int x3.grp,.int x3.mode,.sl 1 (x3.srcs.map AV.int) false]]
 (ck (decide (t0.2.2.length+1≤1000000))
 (Bk (sendF_n0 s to_) [0,482] I0 m0 (x3.ver,W (t0.2.1+1),t0.2.2++[(⟨2,s.router,to_,s.epoch,x3.ver,t0.1,0,x3.grp,x3.mode,x3.srcs⟩:Sig)]) t0)))))
 (Bk (sendF_n0 s to_) [0,1] I0 m0 (x3.ver,W (t0.2.1+1),t0.2.2) t0))))))))
 (Rf (t0.2.2.map Sig.v) (Rp sendF_e (t0.2.2,0) r0))))))
theorem sendF_p(s:Spk)(r:Int)(ok:sendF_a s r):∃I0 m0,sendF_vc s r I0 m0 (send s r):=by
 simp only [sendF_a,okU,Blk.ok,plainV,List.length_map] at ok
 let ak:=(s.peers.getD (posP s.peers r) ⟨0,0,0⟩).acked
 refine ⟨fun t=>∃k:Nat,t.2.1=k∧k≤s.items.length∧t.2.2.length≤k+1∧hello s r::sendFrom s r ak 0 s.items=t.2.2++sendFrom s r ak t.1 (s.items.drop k),fun t=>s.items.length-t.2.1.toNat,?_⟩
 simp only [sendF_vc,vcU,rfU,List.length_map]
 by_cases hs:spkOk s
 case neg=>simp [send,valS,errIf,hs]
 refine ⟨fun e=>by simp [valS,errIf,hs] at e,fun _=>⟨hs.2.2.2.2.2.2,by have:=hs.2.2.2.2.1;omega,fun e=>?_,fun e=>?_⟩⟩
 ·have e:¬hitP s.peers r:=by simpa using e
  rw [send,if_neg (not_not_intro hs),if_pos e]
 have e:hitP s.peers r:=by simpa using e
 have fin:send s r=(hello s r::sendFrom s r ak 0 s.items,0):=by rw [send,if_neg (not_not_intro hs),if_neg (not_not_intro e)]
 have hil:=itms_len hs.2.2.2.1
 refine ⟨⟨0,rfl,by omega,by simp,rfl⟩,?_⟩
 rintro ⟨prev,_,acc⟩ ⟨k,rfl,hk,hal,h⟩
 simp only [Int.toNat_natCast] at *
 refine ⟨fun h1=>⟨by omega,by omega,fun x hx=>⟨by omega,by have:=e.1;omega,fun y hy=>?_⟩⟩,fun h1=>?_⟩
 ·have hy:ak=y.acked:=by show (s.peers.getD (posP s.peers r) ⟨0,0,0⟩).acked=_;rw [getD_some hy]
  have hd:s.items.drop k=x::s.items.drop (k+1):=by
   have hkl:=lt_of_get hx
   rw [List.drop_eq_getElem_cons hkl]
   rw [List.getElem?_eq_getElem hkl] at hx;rw [Option.some.inj hx]
  rw [hd,sendFrom] at h
  rw [W_succ (n:=s.items.length) (by omega) (by omega)]
  have hsl:=srcs_len (hs.2.2.2.1.1 x (mem_of_get hx)).2.2
  refine ⟨fun e3=>⟨by show x.srcs.length≤_;omega,by omega,⟨k+1,rfl,by omega,by simp;omega,?_⟩,by omega⟩,fun e3=>⟨⟨k+1,rfl,by omega,by omega,?_⟩,by omega⟩⟩
  ·rw [h,if_pos (by omega)];simp [upd1]
  ·rw [h,if_neg (by omega)];simp
 ·rw [List.drop_eq_nil_of_le (by omega),sendFrom,List.append_nil] at h
  rw [fin,h]
def send_c(s:Spk)(to_:Int):PC Tryz.prog:=⟨61,[(.a [.k,.k,.k,(.s 4),(.s 3)]),.k],[.agg [.int s.router,.int s.epoch,.int s.last,.sl 4 (s.items.map Itm.v) false,.sl 3 (s.peers.map Per.v) false],.int to_],sendF_e (send s to_),PSpec.of_ok fun ok=>(sendF_p s to_ ok).elim fun I0 h=>h.elim fun m0 h=>mxP_of (sh:=(.a [(.s 10),.k])) (enc:=sendF_e) (a:=((.callP (valS_c s)
 (.br 128 (.ret ([],valS s))
 (.req 160 (s.peers.Pairwise fun x y=>x.router<y.router) fun h1 =>
 (.req 160 (s.peers.length≤1000000) fun h2 =>
 (.callP (peer_c s to_ h1 h2)
 (.br 288 (.ret ([],4))
 (.own 416 (.cmdL (.wkB 416 (.a [.k,.k,.k,.k,.k,.k,.k,.k,.k,(.s 1)])) (.loop 0 (sendF_n0 s to_) (I0) (m0) ((0,0,[(⟨1,s.router,to_,s.epoch,s.last,0,0,0,0,[]⟩:Sig)]):Int×Int×(List Sig)) [0,416] fun (t0:Int×Int×(List Sig)) =>
 (.br 18 (.el 18 Itm.v s.items fun x3 =>
 (.el 162 Per.v s.peers fun x4 =>
 (.br 226 (.req 434 ((⟨x3.mode,x3.srcs⟩:Flt).srcs.length≤1000000) fun h5 =>
 (.callP (filtered_c (⟨x3.mode,x3.srcs⟩:Flt) h5)
 (.app 482 Sig.v t0.2.2 [(⟨2,s.router,to_,s.epoch,x3.ver,t0.1,0,x3.grp,x3.mode,x3.srcs⟩:Sig)]
 (.back 0 ((x3.ver,W (t0.2.1+1),t0.2.2++[(⟨2,s.router,to_,s.epoch,x3.ver,t0.1,0,x3.grp,x3.mode,x3.srcs⟩:Sig)]):Int×Int×(List Sig)) [0,482]))))
 (.back 0 ((x3.ver,W (t0.2.1+1),t0.2.2):Int×Int×(List Sig)) [0,1]))))
 (.cmdL (.frzE 1 (t0.2.2.map Sig.v) (pureBL_map (fun _=>rfl) t0.2.2)) (.ret (t0.2.2,0))))))))))))):An Tryz.prog sendF_s ((List Sig)×Int))) h (by kernel_rfl) (AV.pureB_ok rfl),fnB_ok (by kernel_rfl)⟩
def ackF_a(s:Spk)(x:Sig):Prop:=okL [.agg [.int s.router,.int s.epoch,.int s.last,.sl 4 (s.items.map Itm.v) false,.sl 3 (s.peers.map Per.v) false],.agg [.int x.kind,.int x.src,.int x.dst,.int x.epoch,.int x.ver,.int x.prev,.int x.pep,.int x.grp,.int x.mode,.sl 1 (x.srcs.map AV.int) false]]
def ackF_n0(s:Spk)(x:Sig)(t0:Int):NF:=⟨[(2,.k,.ref 0 0),(3,.k,.ref 3 0),(4,.k,.ref 4 0),(7,.k,.int (posP s.peers x.src:Int)),(9,.k,.int t0)],[.box (.agg [.int s.router,.int s.epoch,.int s.last,.vec 1,.vec 2]),.vec 4 ((without 0 s.items).map Itm.v) (pureBL_map (fun _=>rfl) (without 0 s.items)),.vec 3 (s.peers.map Per.v) (pureBL_map (fun _=>rfl) s.peers),.box (.agg [.int x.kind,.int x.src,.int x.dst,.int x.epoch,.int x.ver,.int x.prev,.int x.pep,.int x.grp,.int x.mode,.sl 1 (x.srcs.map AV.int) false]),.box (.agg [.int 0,.int 0,.int 0,.sl 0 [] true,.sl 0 [] true])]⟩
def ackF_s:Nat→Type
 | 0=>Int
 | _=>Unit
def ackF_e(r:Spk×Int):AV:=.tup [Spk.v r.1,.int r.2]
def ackF_vc(s:Spk)(x:Sig)(r0:Spk×Int):Prop:=
 Cl (valS_c s)
 (Cl (sigV_c x)
 (Cl (orI_c [valS s,sigErr x])
 (br ((orI [valS s,sigErr x]) != 0)
 (Rp ackF_e ((⟨0,0,0,[],[]⟩:Spk),orI [valS s,sigErr x]) r0)
 (br (x.kind != 3)
 (Rp ackF_e ((⟨0,0,0,[],[]⟩:Spk),1) r0)
 (br (x.dst != s.router)
 (Rp ackF_e ((⟨0,0,0,[],[]⟩:Spk),1) r0)
 (∃h1:s.peers.Pairwise fun x y=>x.router<y.router,
 ∃h2:s.peers.length≤1000000,
 Cl (peer_c s x.src h1 h2)
 (br (!(decide (hitP s.peers x.src)))
 (Rp ackF_e ((⟨0,0,0,[],[]⟩:Spk),4) r0)
 (∃h3:okItms s.items,
 Ch (copied_h s.items 0 h3) [] 576
 (∃h4:s.peers.length≤1000000,
 Ch (cloneP_h s.peers h4) [] 624
 ((br (x.epoch==s.epoch)
 (br (decide (x.ver≤s.last))
 (Nf (ackF_n0 s x (x.ver)) [0,576,624,16,32] (((x.ver):Int)=((bif (x.epoch==s.epoch) then (bif (decide (x.ver≤s.last)) then (x.ver) else (0)) else (0)):Int)))
 (Nf (ackF_n0 s x (0)) [0,576,624,16,32] (((0):Int)=((bif (x.epoch==s.epoch) then (bif (decide (x.ver≤s.last)) then (x.ver) else (0)) else (0)):Int))))
 (Nf (ackF_n0 s x (0)) [0,576,624,16,32] (((0):Int)=((bif (x.epoch==s.epoch) then (bif (decide (x.ver≤s.last)) then (x.ver) else (0)) else (0)):Int))))∧∀t0:Int,t0=((bif (x.epoch==s.epoch) then (bif (decide (x.ver≤s.last)) then (x.ver) else (0)) else (0)):Int) →
 ck (cond (decide (0≤(posP s.peers x.src:Int))) (decide ((posP s.peers x.src:Int)<((s.peers.map Per.v).length:Int))) false)
 (Rf (s.peers.map Per.v) (ck (decide ((posP s.peers x.src:Int).toNat<s.peers.length))
 (∀x5,s.peers[(posP s.peers x.src:Int).toNat]?=some x5 →
 br (decide (x5.epoch<x.pep))
 (Rf (s.peers.map Per.v) (ck (decide ((posP s.peers x.src:Int).toNat<s.peers.length))
 (∀y6,s.peers[(posP s.peers x.src:Int).toNat]?=some y6→Rf (Per.v (⟨y6.router,x.pep,y6.acked⟩:Per))
 (Rf ((s.peers.set ((posP s.peers x.src:Int).toNat) (⟨y6.router,x.pep,y6.acked⟩:Per)).map Per.v) (ck (decide ((posP s.peers x.src:Int).toNat<(s.peers.set ((posP s.peers x.src:Int).toNat) (⟨y6.router,x.pep,y6.acked⟩:Per)).length))
 (∀y7,(s.peers.set ((posP s.peers x.src:Int).toNat) (⟨y6.router,x.pep,y6.acked⟩:Per))[(posP s.peers x.src:Int).toNat]?=some y7→Rf (Per.v (⟨y7.router,y7.epoch,t0⟩:Per))
 (Rf (((s.peers.set ((posP s.peers x.src:Int).toNat) (⟨y6.router,x.pep,y6.acked⟩:Per)).set ((posP s.peers x.src:Int).toNat) (⟨y7.router,y7.epoch,t0⟩:Per)).map Per.v) (Rf ((without 0 s.items).map Itm.v) (Rp ackF_e ((⟨s.router,s.epoch,s.last,without 0 s.items,(s.peers.set ((posP s.peers x.src:Int).toNat) (⟨y6.router,x.pep,y6.acked⟩:Per)).set ((posP s.peers x.src:Int).toNat) (⟨y7.router,y7.epoch,t0⟩:Per)⟩:Spk),0) r0)))))))))
 (Rf (s.peers.map Per.v) (ck (decide ((posP s.peers x.src:Int).toNat<s.peers.length))
 (∀x8,s.peers[(posP s.peers x.src:Int).toNat]?=some x8 →
 br (x.pep==x8.epoch)
 (Rf (s.peers.map Per.v) (ck (decide ((posP s.peers x.src:Int).toNat<s.peers.length))
 (∀x9,s.peers[(posP s.peers x.src:Int).toNat]?=some x9 →
 Rf (s.peers.map Per.v) (ck (decide ((posP s.peers x.src:Int).toNat<s.peers.length))
 (∀y10,s.peers[(posP s.peers x.src:Int).toNat]?=some y10→Rf (Per.v (⟨y10.router,y10.epoch,maxI x9.acked t0⟩:Per))
 (Rf ((s.peers.set ((posP s.peers x.src:Int).toNat) (⟨y10.router,y10.epoch,maxI x9.acked t0⟩:Per)).map Per.v) (Rf ((without 0 s.items).map Itm.v) (Rp ackF_e ((⟨s.router,s.epoch,s.last,without 0 s.items,s.peers.set ((posP s.peers x.src:Int).toNat) (⟨y10.router,y10.epoch,maxI x9.acked t0⟩:Per)⟩:Spk),0) r0))))))))
 (Rf (s.peers.map Per.v) (Rf ((without 0 s.items).map Itm.v) (Rp ackF_e ((⟨s.router,s.epoch,s.last,without 0 s.items,s.peers⟩:Spk),0) r0)))))))))))))))))))
theorem ackF_p(s:Spk)(x:Sig)(ok:ackF_a s x):ackF_vc s x (ack s x):=by
 simp only [ackF_a,okU,Blk.ok,plainV,List.length_map] at ok
 simp only [ackF_vc,vcU,rfU,List.length_map]
 rw [orI_two]
 by_cases hs:spkOk s
 case neg=>simp [ack,valS,errIf,hs,spk0]
 rw [show valS s=0 from errIf_pos hs,if_neg (by simp)]
 by_cases hx:sigErr x=0
 case neg=>simp [ack,hs,hx,spk0]
 refine ⟨fun e=>by simp [hx] at e,fun _=>⟨fun e=>?_,fun e1=>⟨fun e=>?_,fun e2=>?_⟩⟩⟩
 ·have e:x.kind≠3:=by simpa using e
  rw [ack,if_neg (not_not_intro hs),if_neg (not_not_intro hx),if_pos (.inl e)];rfl
 ·have e:x.dst≠s.router:=by simpa using e
  rw [ack,if_neg (not_not_intro hs),if_neg (not_not_intro hx),if_pos (.inr e)];rfl
 have e1:x.kind=3:=by simpa using e1
 have e2:x.dst=s.router:=by simpa using e2
 refine ⟨hs.2.2.2.2.2.2,by have:=hs.2.2.2.2.1;omega,fun e=>?_,fun e=>?_⟩
 ·have e:¬hitP s.peers x.src:=by simpa using e
  rw [ack,if_neg (not_not_intro hs),if_neg (not_not_intro hx),if_neg (by simp [e1,e2]),if_pos e];rfl
 have e:hitP s.peers x.src:=by simpa using e
 have fin:ack s x=(⟨s.router,s.epoch,s.last,s.items,s.peers.set (posP s.peers x.src) (ackP s x (s.peers.getD (posP s.peers x.src) ⟨0,0,0⟩))⟩,0):=by
  rw [ack,if_neg (not_not_intro hs),if_neg (not_not_intro hx),if_neg (by simp [e1,e2]),if_neg (not_not_intro e)]
 refine ⟨okItms_of hs.2.2.2.1,by have:=hs.2.2.2.2.1;omega,⟨fun a=>⟨fun b=>by simp [a,b],fun b=>by simp [a,b]⟩,fun a=>by simp [a]⟩,?_⟩
 rintro _ rfl
 have hv:(bif x.epoch==s.epoch then bif decide (x.ver≤s.last) then x.ver else 0 else 0)=ackV s x:=by
  cases a:x.epoch==s.epoch with
  | true=>cases b:decide (x.ver≤s.last) with
   | true=>rw [ackV,if_pos ⟨by simpa using a,by simpa using b⟩];rfl
   | false=>rw [ackV,if_neg (fun h=>by simp [h.2] at b)];rfl
  | false=>rw [ackV,if_neg (fun h=>by simp [h.1] at a)];rfl
 rw [hv,without_zero hs.2.2.2.1]
 have hi:=e.1
 simp only [Int.toNat_natCast]
 refine ⟨by simp;omega,hi,fun p hp=>?_⟩
 rw [getD_some hp] at fin
 refine ⟨fun a=>⟨hi,fun p2 hp2=>?_⟩,fun a=>⟨hi,fun p2 hp2=>⟨fun b=>⟨hi,fun p3 hp3=>⟨hi,fun p4 hp4=>?_⟩⟩,fun b=>?_⟩⟩⟩
 ·cases hp.symm.trans hp2
  refine ⟨by simpa using hi,fun q hq=>?_⟩
  rw [List.getElem?_set_self hi] at hq
  cases hq
  rw [fin,ackP,if_pos a,List.set_set]
 ·cases hp.symm.trans hp2
  cases hp.symm.trans hp3
  cases hp.symm.trans hp4
  rw [fin,ackP,if_neg a,if_pos (by simpa using b)]
 ·cases hp.symm.trans hp2
  rw [fin,ackP,if_neg a,if_neg (by simpa using b)]
  rw [set_same hp]
def ack_c(s:Spk)(x:Sig):PC Tryz.prog:=⟨57,[(.a [.k,.k,.k,(.s 4),(.s 3)]),(.a [.k,.k,.k,.k,.k,.k,.k,.k,.k,(.s 1)])],[.agg [.int s.router,.int s.epoch,.int s.last,.sl 4 (s.items.map Itm.v) false,.sl 3 (s.peers.map Per.v) false],.agg [.int x.kind,.int x.src,.int x.dst,.int x.epoch,.int x.ver,.int x.prev,.int x.pep,.int x.grp,.int x.mode,.sl 1 (x.srcs.map AV.int) false]],ackF_e (ack s x),PSpec.of_ok fun ok=>mxP_of (sh:=(.a [(.a [.k,.k,.k,(.s 4),(.s 3)]),.k])) (enc:=ackF_e) (a:=((.callP (valS_c s)
 (.callP (sigV_c x)
 (.callP (orI_c [valS s,sigErr x])
 (.br 208 (.ret ((⟨0,0,0,[],[]⟩:Spk),orI [valS s,sigErr x]))
 (.br 272 (.ret ((⟨0,0,0,[],[]⟩:Spk),1))
 (.br 368 (.ret ((⟨0,0,0,[],[]⟩:Spk),1))
 (.req 416 (s.peers.Pairwise fun x y=>x.router<y.router) fun h1 =>
 (.req 416 (s.peers.length≤1000000) fun h2 =>
 (.callP (peer_c s x.src h1 h2)
 (.br 544 (.ret ((⟨0,0,0,[],[]⟩:Spk),4))
 (.req 576 (okItms s.items) fun h3 =>
 (.callH [] (copied_h s.items 0 h3)
 (.req 624 (s.peers.length≤1000000) fun h4 =>
 (.callH [] (cloneP_h s.peers h4)
 (.pass (.join 0 (ackF_n0 s x) (fun t0=>t0=((bif (x.epoch==s.epoch) then (bif (decide (x.ver≤s.last)) then (x.ver) else (0)) else (0)):Int)) (.br 816 (.br 912 (.back 0 ((x.ver):Int) [0,576,624,16,32])
 (.back 0 ((0):Int) [0,576,624,16,32]))
 (.back 0 ((0):Int) [0,576,624,16,32])) fun (t0:Int) =>
 (.el 165 Per.v s.peers fun x5 =>
 (.br 213 (.st 325 Per.v s.peers (fun y6=>(⟨y6.router,x.pep,y6.acked⟩:Per)) fun y6 =>
 (.st 373 Per.v (s.peers.set ((posP s.peers x.src:Int).toNat) (⟨y6.router,x.pep,y6.acked⟩:Per)) (fun y7=>(⟨y7.router,y7.epoch,t0⟩:Per)) fun y7 =>
 (.cmdL (.frzE 2 (((s.peers.set ((posP s.peers x.src:Int).toNat) (⟨y6.router,x.pep,y6.acked⟩:Per)).set ((posP s.peers x.src:Int).toNat) (⟨y7.router,y7.epoch,t0⟩:Per)).map Per.v) (pureBL_map (fun _=>rfl) ((s.peers.set ((posP s.peers x.src:Int).toNat) (⟨y6.router,x.pep,y6.acked⟩:Per)).set ((posP s.peers x.src:Int).toNat) (⟨y7.router,y7.epoch,t0⟩:Per)))) (.cmdL (.frzE 1 ((without 0 s.items).map Itm.v) (pureBL_map (fun _=>rfl) (without 0 s.items))) (.ret ((⟨s.router,s.epoch,s.last,without 0 s.items,(s.peers.set ((posP s.peers x.src:Int).toNat) (⟨y6.router,x.pep,y6.acked⟩:Per)).set ((posP s.peers x.src:Int).toNat) (⟨y7.router,y7.epoch,t0⟩:Per)⟩:Spk),0))))))
 (.el 293 Per.v s.peers fun x8 =>
 (.br 341 (.el 405 Per.v s.peers fun x9 =>
 (.st 485 Per.v s.peers (fun y10=>(⟨y10.router,y10.epoch,maxI x9.acked t0⟩:Per)) fun y10 =>
 (.cmdL (.frzE 2 ((s.peers.set ((posP s.peers x.src:Int).toNat) (⟨y10.router,y10.epoch,maxI x9.acked t0⟩:Per)).map Per.v) (pureBL_map (fun _=>rfl) (s.peers.set ((posP s.peers x.src:Int).toNat) (⟨y10.router,y10.epoch,maxI x9.acked t0⟩:Per)))) (.cmdL (.frzE 1 ((without 0 s.items).map Itm.v) (pureBL_map (fun _=>rfl) (without 0 s.items))) (.ret ((⟨s.router,s.epoch,s.last,without 0 s.items,s.peers.set ((posP s.peers x.src:Int).toNat) (⟨y10.router,y10.epoch,maxI x9.acked t0⟩:Per)⟩:Spk),0))))))
 (.cmdL (.frzE 2 (s.peers.map Per.v) (pureBL_map (fun _=>rfl) s.peers)) (.cmdL (.frzE 1 ((without 0 s.items).map Itm.v) (pureBL_map (fun _=>rfl) (without 0 s.items))) (.ret ((⟨s.router,s.epoch,s.last,without 0 s.items,s.peers⟩:Spk),0)))))))))))))))))))))))):An Tryz.prog ackF_s (Spk×Int))) (ackF_p s x ok) (by kernel_rfl) (AV.pureB_ok rfl),fnB_ok (by kernel_rfl)⟩
theorem Itm.eq_iff{x y:Itm}:x=y↔x.ver=y.ver∧x.grp=y.grp∧x.mode=y.mode∧x.srcs=y.srcs:=by
 cases x;cases y;simp
def agreeI_a(x:Itm)(y:Itm):Prop:=okL [.agg [.int x.ver,.int x.grp,.int x.mode,.sl 1 (x.srcs.map AV.int) false],.agg [.int y.ver,.int y.grp,.int y.mode,.sl 1 (y.srcs.map AV.int) false]]
def agreeI_s:Nat→Type
 | _=>Unit
def agreeI_e(r:Bool):AV:=.bool r
def agreeI_vc(x:Itm)(y:Itm)(r0:Bool):Prop:=
 br (x.ver==y.ver)
 (br (x.grp==y.grp)
 (Cl (PSame_c (⟨x.mode,x.srcs⟩:Flt) (⟨y.mode,y.srcs⟩:Flt))
 (Rp agreeI_e (PSame (⟨x.mode,x.srcs⟩:Flt) (⟨y.mode,y.srcs⟩:Flt)) r0))
 (Rp agreeI_e (false) r0))
 (Rp agreeI_e (false) r0)
theorem agreeI_p(x y:Itm)(ok:agreeI_a x y):agreeI_vc x y (decide (x=y)):=by
 simp only [agreeI_vc,vcU,rfU,List.length_map]
 refine ⟨fun e=>⟨fun e2=>?_,fun e2=>(decide_eq_false fun h=>?_).symm⟩,fun e=>(decide_eq_false fun h=>?_).symm⟩
 ·have e:x.ver=y.ver:=by simpa using e
  have e2:x.grp=y.grp:=by simpa using e2
  show decide ((⟨x.mode,x.srcs⟩:Flt)=⟨y.mode,y.srcs⟩)=_
  exact decide_eq_decide.mpr (by rw [flt_eq,Itm.eq_iff];exact ⟨fun h=>⟨e,e2,h⟩,fun h=>h.2.2⟩)
 ·subst h;simp at e2
 ·subst h;simp at e
def agreeI_c(x:Itm)(y:Itm):PC Tryz.prog:=⟨136,[(.a [.k,.k,.k,(.s 1)]),(.a [.k,.k,.k,(.s 1)])],[.agg [.int x.ver,.int x.grp,.int x.mode,.sl 1 (x.srcs.map AV.int) false],.agg [.int y.ver,.int y.grp,.int y.mode,.sl 1 (y.srcs.map AV.int) false]],agreeI_e (decide (x=y)),PSpec.of_ok fun ok=>mxP_of (sh:=.k) (enc:=agreeI_e) (a:=((.br 144 (.br 256 (.callP (PSame_c (⟨x.mode,x.srcs⟩:Flt) (⟨y.mode,y.srcs⟩:Flt))
 (.ret (PSame (⟨x.mode,x.srcs⟩:Flt) (⟨y.mode,y.srcs⟩:Flt))))
 (.ret (false)))
 (.ret (false))):An Tryz.prog agreeI_s (Bool))) (agreeI_p x y ok) (by kernel_rfl) (AV.pureB_ok rfl),fnB_ok (by kernel_rfl)⟩
def eqF_a(s1:(List Itm))(s2:(List Itm)):Prop:=okL [.sl 4 (s1.map Itm.v) false,.sl 4 (s2.map Itm.v) false,.func 136 []]
def eqF_n0(s1:(List Itm))(s2:(List Itm))(t0:Int):NF:=⟨[(1,.k,.sl 4 (s2.map Itm.v) false),(2,.k,.func 136 []),(15,.k,.sl 4 (s1.map Itm.v) false),(16,.k,.int ((s1.map Itm.v).length:Int)),(17,.k,.int t0)],[]⟩
def eqF_s:Nat→Type
 | 0=>Int
 | _=>Unit
def eqF_e(r:Bool):AV:=.bool r
def eqF_vc(s1:(List Itm))(s2:(List Itm))(I0:Int→Prop)(m0:Int→Nat)(r0:Bool):Prop:=
 br (((s1.map Itm.v).length:Int) != ((s2.map Itm.v).length:Int))
 (Rp eqF_e (false) r0)
 (Be (eqF_n0 s1 s2) [] I0 (0)∧∀t0,I0 t0 →
 br (decide (t0<((s1.map Itm.v).length:Int)))
 (Rf (s1.map Itm.v) (ck (decide (0≤t0)) (ck (decide (t0<(s1.length:Int)))
 (∀x1,s1[t0.toNat]?=some x1 →
 Rf (s2.map Itm.v) (ck (decide (0≤t0)) (ck (decide (t0<(s2.length:Int)))
 (∀x2,s2[t0.toNat]?=some x2 →
 Cl (agreeI_c x1 x2)
 (br (!(decide (x1=x2)))
 (Rp eqF_e (false) r0)
 (Bk (eqF_n0 s1 s2) [] I0 m0 (W (t0+1)) t0)))))))))
 (Rp eqF_e (true) r0))
theorem eqF_p(a b:List Itm)(ok:eqF_a a b):∃I m,eqF_vc a b I m (decide (a=b)):=by
 simp only [eqF_a,okU,Blk.ok,plainV,List.length_map] at ok
 refine ⟨fun t=>∃k:Nat,t=k∧k≤a.length∧a.take k=b.take k,fun t=>a.length-t.toNat,?_⟩
 simp only [eqF_vc,vcU,rfU,List.length_map]
 refine ⟨fun e=>(decide_eq_false fun h=>by subst h;simp at e).symm,fun e=>⟨⟨0,rfl,by omega,rfl⟩,?_⟩⟩
 have e:a.length=b.length:=by simp at e;omega
 rintro _ ⟨k,rfl,hk,h⟩
 simp only [Int.toNat_natCast]
 refine ⟨fun h1=>⟨by omega,by omega,fun x hx=>⟨by omega,by omega,fun y hy=>⟨fun e2=>?_,fun e2=>?_⟩⟩⟩,fun h1=>?_⟩
 ·refine (decide_eq_false fun hh=>?_).symm
  subst hh
  cases hx.symm.trans hy
  simp at e2
 ·have e2:x=y:=by simpa using e2
  subst e2
  rw [W_succ (n:=a.length) (by omega) (by omega)]
  exact ⟨⟨k+1,rfl,by omega,by rw [take_succ hx,take_succ hy,h]⟩,by omega⟩
 ·rw [List.take_of_length_le (by omega),List.take_of_length_le (by omega)] at h
  exact (decide_eq_true h).symm
def eqF_c(s1:(List Itm))(s2:(List Itm)):PC Tryz.prog:=⟨135,[(.s 4),(.s 4),.k],[.sl 4 (s1.map Itm.v) false,.sl 4 (s2.map Itm.v) false,.func 136 []],eqF_e (decide (s1=s2)),PSpec.of_ok fun ok=>(eqF_p s1 s2 ok).elim fun I0 h=>h.elim fun m0 h=>mxP_of (sh:=.k) (enc:=eqF_e) (a:=((.br 96 (.ret (false))
 (.loop 0 (eqF_n0 s1 s2) (I0) (m0) ((0):Int) [] fun (t0:Int) =>
 (.br 16 (.el 32 Itm.v s1 fun x1 =>
 (.el 144 Itm.v s2 fun x2 =>
 (.callP (agreeI_c x1 x2)
 (.br 288 (.ret (false))
 (.back 0 ((W (t0+1)):Int) [])))))
 (.ret (true))))):An Tryz.prog eqF_s (Bool))) h (by kernel_rfl) (AV.pureB_ok rfl),fnB_ok (by kernel_rfl)⟩
def agreeF_a(s:Spk)(l:Lsn):Prop:=okL [.agg [.int s.router,.int s.epoch,.int s.last,.sl 4 (s.items.map Itm.v) false,.sl 3 (s.peers.map Per.v) false],.agg [.int l.router,.int l.epoch,.sl 4 (l.heard.map Hrd.v) false]]
def agreeF_s:Nat→Type
 | _=>Unit
def agreeF_e(r:Bool):AV:=.bool r
def agreeF_vc(s:Spk)(l:Lsn)(r0:Bool):Prop:=
 Cl (valS_c s)
 (br ((valS s) != 0)
 (Rp agreeF_e (false) r0)
 (Cl (valL_c l)
 (br ((valL l) != 0)
 (Rp agreeF_e (false) r0)
 (∃h1:l.heard.Pairwise fun x y=>x.router<y.router,
 ∃h2:l.heard.length≤1000000,
 Cl (heard_c l s.router h1 h2)
 (br (decide (hitH l.heard s.router))
 (Rf (l.heard.map Hrd.v) (ck (decide (0≤(posH l.heard s.router:Int))) (ck (decide ((posH l.heard s.router:Int)<(l.heard.length:Int)))
 (∀x3,l.heard[(posH l.heard s.router:Int).toNat]?=some x3 →
 br (x3.epoch==s.epoch)
 (Rf (l.heard.map Hrd.v) (ck (decide (0≤(posH l.heard s.router:Int))) (ck (decide ((posH l.heard s.router:Int)<(l.heard.length:Int)))
 (∀x4,l.heard[(posH l.heard s.router:Int).toNat]?=some x4 →
 br (x4.ver==s.last)
 (Rf (l.heard.map Hrd.v) (ck (decide (0≤(posH l.heard s.router:Int))) (ck (decide ((posH l.heard s.router:Int)<(l.heard.length:Int)))
 (∀x5,l.heard[(posH l.heard s.router:Int).toNat]?=some x5 →
 Cl (eqF_c x5.items s.items)
 (Rp agreeF_e (decide (x5.items=s.items)) r0)))))
 (Rp agreeF_e (false) r0)))))
 (Rp agreeF_e (false) r0)))))
 (Rp agreeF_e (false) r0))))))
theorem agreeF_p(s:Spk)(l:Lsn)(ok:agreeF_a s l):agreeF_vc s l (decide (agree s l)):=by
 simp only [agreeF_vc,vcU,rfU,List.length_map]
 refine ⟨fun e=>(decide_eq_false fun h=>valS_t.mp e h.1).symm,fun e1=>⟨fun e=>(decide_eq_false fun h=>valL_t.mp e h.2.1).symm,fun e2=>?_⟩⟩
 have e1:=valS_f.mp e1
 have e2:=valL_f.mp e2
 refine ⟨e2.2.2.2.2,by have:=e2.2.2.1;omega,fun h=>?_,fun h=>(decide_eq_false fun h'=>h h'.2.2.1).symm⟩
 have hi:=h.1
 simp only [Int.toNat_natCast]
 refine ⟨by omega,by omega,fun x hx=>?_⟩
 have ha:atH l.heard s.router=x:=getD_some hx
 refine ⟨fun e3=>⟨by omega,by omega,fun y hy=>?_⟩,fun e3=>(decide_eq_false fun h'=>?_).symm⟩
 ·cases hx.symm.trans hy
  refine ⟨fun e4=>⟨by omega,by omega,fun z hz=>?_⟩,fun e4=>(decide_eq_false fun h'=>?_).symm⟩
  ·cases hx.symm.trans hz
   refine decide_eq_decide.mpr ⟨fun q=>⟨e1,e2,h,?_,?_,?_⟩,fun q=>?_⟩
   ·rw [ha];simpa using e3
   ·rw [ha];simpa using e4
   ·rw [ha];exact q
   ·have:=q.2.2.2.2.2;rw [ha] at this;exact this
  ·have:=h'.2.2.2.2.1;rw [ha] at this;simp [this] at e4
 ·have:=h'.2.2.2.1;rw [ha] at this;simp [this] at e3
def agree_c(s:Spk)(l:Lsn):PC Tryz.prog:=⟨48,[(.a [.k,.k,.k,(.s 4),(.s 3)]),(.a [.k,.k,(.s 4)])],[.agg [.int s.router,.int s.epoch,.int s.last,.sl 4 (s.items.map Itm.v) false,.sl 3 (s.peers.map Per.v) false],.agg [.int l.router,.int l.epoch,.sl 4 (l.heard.map Hrd.v) false]],agreeF_e (decide (agree s l)),PSpec.of_ok fun ok=>mxP_of (sh:=.k) (enc:=agreeF_e) (a:=((.callP (valS_c s)
 (.br 112 (.ret (false))
 (.callP (valL_c l)
 (.br 176 (.ret (false))
 (.req 224 (l.heard.Pairwise fun x y=>x.router<y.router) fun h1 =>
 (.req 224 (l.heard.length≤1000000) fun h2 =>
 (.callP (heard_c l s.router h1 h2)
 (.br 352 (.el 400 Hrd.v l.heard fun x3 =>
 (.br 528 (.el 576 Hrd.v l.heard fun x4 =>
 (.br 704 (.el 752 Hrd.v l.heard fun x5 =>
 (.callP (eqF_c x5.items s.items)
 (.ret (decide (x5.items=s.items)))))
 (.ret (false))))
 (.ret (false))))
 (.ret (false)))))))))):An Tryz.prog agreeF_s (Bool))) (agreeF_p s l ok) (by kernel_rfl) (AV.pureB_ok rfl),fnB_ok (by kernel_rfl)⟩
theorem fin_weak{k n:Nat}{res:List AR}{r:AV}{h':List (Option Blk)}{s s1:S3}(hw:Weak k n s s1)(h:fin k n res r h' .ret s1):fin k n res r h' .ret s:=by
 obtain ⟨s',g1,g2⟩:=h
 exact ⟨s',hw.trans g1,g2⟩
theorem pureL_append{xs ys:List AV}(h:pureL xs)(h':pureL ys):pureL (xs++ys):=by
 rw [pureL_iff] at *
 intro x hx
 rcases List.mem_append.mp hx with hx|hx
 ·exact h x hx
 ·exact h' x hx
theorem pureL_take{xs:List AV}(h:pureL xs)(n:Nat):pureL (xs.take n):=by
 rw [pureL_iff] at *;exact fun x hx=>h x (List.mem_of_mem_take hx)
theorem pureL_drop{xs:List AV}(h:pureL xs)(n:Nat):pureL (xs.drop n):=by
 rw [pureL_iff] at *;exact fun x hx=>h x (List.mem_of_mem_drop hx)
theorem pureL_insAt{es:List AV}{x:AV}(h:pureL es)(hx:x.pure)(i:Nat):pureL (insAt es i x):=pureL_append (pureL_append (pureL_take h i) ⟨hx,trivial⟩) (pureL_drop h i)
theorem vec_ren{k m:Nat}{es:List AV}{π:Nat→Nat}(h:pureL es):(Blk.vec k es).ren π=.vec k es∧(Blk.vec k es).bel m:=⟨by rw [Blk.ren,renL_pure _ h],belL_pure h⟩
def cf144:AF:=
 ⟨95,3,[.tmp 6],
 .seq (.reg [⟨(some 6),.move (.c (.sl 0 [] true)),none⟩])
 (.seq (.reg [⟨(some 10),.move (.t 0),none⟩,⟨(some 11),.move (.t 1),none⟩,⟨(some 12),.slice 4 (.t 10) (some (.t 11)) none none,none⟩])
 (.seq (.reg [⟨(some 13),.move (.t 2),none⟩,⟨(some 14),.len (.t 13),none⟩,⟨(some 7),.move (.t 14),none⟩])
 (.seq (.seq (.reg [⟨(some 15),.move (.t 7),none⟩,⟨(some 16),.bin .eql (.t 15) (.c (.val (.int .i64 0))),none⟩])
 (.cond (.t 16) (.seq (.reg [⟨(some 17),.move (.t 0),none⟩,⟨(some 6),.move (.t 17),none⟩])
 (.ret)) (.skip)))
 (.seq (.reg [⟨(some 18),.move (.t 0),none⟩,⟨(some 19),.len (.t 18),none⟩,⟨(some 8),.move (.t 19),none⟩])
 (.seq (.seq (.reg [⟨(some 20),.move (.t 1),none⟩,⟨(some 21),.move (.t 8),none⟩,⟨(some 22),.bin .eql (.t 20) (.t 21),none⟩])
 (.cond (.t 22) (.seq (.reg [⟨(some 23),.move (.t 0),none⟩,⟨(some 24),.move (.t 2),none⟩,⟨(some 25),.append 4 48 (.t 23) (.t 24),none⟩,⟨(some 6),.move (.t 25),none⟩])
 (.ret)) (.skip)))
 (.seq (.seq (.reg [⟨(some 26),.move (.t 8),none⟩,⟨(some 27),.move (.t 7),none⟩,⟨(some 28),.bin .add (.t 26) (.t 27),none⟩,⟨(some 29),.move (.t 0),none⟩,⟨(some 30),.cap (.t 29),none⟩,⟨(some 31),.bin .gtr (.t 28) (.t 30),none⟩])
 (.cond (.t 31) (.seq (.reg [⟨(some 32),.move (.t 0),none⟩,⟨(some 33),.move (.t 1),none⟩,⟨(some 34),.slice 4 (.t 32) none (some (.t 33)) none,none⟩,⟨(some 35),.move (.t 8),none⟩,⟨(some 36),.move (.t 7),none⟩,⟨(some 37),.bin .add (.t 35) (.t 36),none⟩,⟨(some 38),.move (.t 1),none⟩,⟨(some 39),.bin .sub (.t 37) (.t 38),none⟩,⟨(some 40),.appendZ 4 48 ((.agg [(.val (.int .i64 0)),(.val (.int .i64 0)),(.val (.int .i64 0)),(.sl 0 [] true)])) (.t 34) (.t 39),none⟩,⟨(some 9),.move (.t 40),none⟩])
 (.seq (.reg [⟨(some 41),.move (.t 9),none⟩,⟨(some 42),.move (.t 1),none⟩,⟨(some 43),.slice 4 (.t 41) (some (.t 42)) none none,none⟩,⟨(some 44),.move (.t 2),none⟩,⟨(some 45),.copy 4 (.t 43) (.t 44),none⟩])
 (.seq (.dreg [⟨(some 46),.move (.t 9),none⟩,⟨(some 47),.move (.t 1),none⟩,⟨(some 48),.move (.t 7),none⟩,⟨(some 49),.bin .add (.t 47) (.t 48),none⟩,⟨(some 50),.slice 4 (.t 46) (some (.t 49)) none none,none⟩,⟨(some 51),.move (.t 0),none⟩,⟨(some 52),.move (.t 1),none⟩,⟨(some 53),.slice 4 (.t 51) (some (.t 52)) none none,none⟩,⟨(some 54),.copy 4 (.t 50) (.t 53),none⟩] [(4,7)])
 (.seq (.reg [⟨(some 55),.move (.t 9),none⟩,⟨(some 6),.move (.t 55),none⟩])
 (.ret))))) (.skip)))
 (.seq (.reg [⟨(some 56),.move (.t 0),none⟩,⟨(some 57),.move (.t 8),none⟩,⟨(some 58),.move (.t 7),none⟩,⟨(some 59),.bin .add (.t 57) (.t 58),none⟩,⟨(some 60),.slice 4 (.t 56) none (some (.t 59)) none,none⟩,⟨(some 0),.move (.t 60),none⟩])
 (.seq (.seq (.reg [⟨(some 61),.move (.t 2),none⟩,⟨(some 62),.move (.t 0),none⟩,⟨(some 63),.move (.t 1),none⟩,⟨(some 64),.move (.t 7),none⟩,⟨(some 65),.bin .add (.t 63) (.t 64),none⟩,⟨(some 66),.slice 4 (.t 62) (some (.t 65)) none none,none⟩,⟨(some 67),.call (.c (.func 203 [])) [(.t 61),(.t 66)],none⟩,⟨(some 68),.un .not (.t 67),none⟩])
 (.cond (.t 68) (.seq (.dreg [⟨(some 69),.move (.t 0),none⟩,⟨(some 70),.move (.t 1),none⟩,⟨(some 71),.move (.t 7),none⟩,⟨(some 72),.bin .add (.t 70) (.t 71),none⟩,⟨(some 73),.slice 4 (.t 69) (some (.t 72)) none none,none⟩,⟨(some 74),.move (.t 0),none⟩,⟨(some 75),.move (.t 1),none⟩,⟨(some 76),.slice 4 (.t 74) (some (.t 75)) none none,none⟩,⟨(some 77),.copy 4 (.t 73) (.t 76),none⟩] [(4,7)])
 (.seq (.reg [⟨(some 78),.move (.t 0),none⟩,⟨(some 79),.move (.t 1),none⟩,⟨(some 80),.slice 4 (.t 78) (some (.t 79)) none none,none⟩,⟨(some 81),.move (.t 2),none⟩,⟨(some 82),.copy 4 (.t 80) (.t 81),none⟩])
 (.seq (.reg [⟨(some 83),.move (.t 0),none⟩,⟨(some 6),.move (.t 83),none⟩])
 (.ret)))) (.skip)))
 (.seq (.reg [⟨(some 84),.move (.t 0),none⟩,⟨(some 85),.move (.t 8),none⟩,⟨(some 86),.slice 4 (.t 84) (some (.t 85)) none none,none⟩,⟨(some 87),.move (.t 2),none⟩,⟨(some 88),.copy 4 (.t 86) (.t 87),none⟩])
 (.seq (.reg [⟨(some 89),.move (.t 0),none⟩,⟨(some 90),.move (.t 1),none⟩,⟨(some 91),.slice 4 (.t 89) (some (.t 90)) none none,none⟩,⟨(some 92),.move (.t 7),none⟩,⟨(some 93),.call (.c (.func 204 [])) [(.t 91),(.t 92)],none⟩])
 (.seq (.reg [⟨(some 94),.move (.t 0),none⟩,⟨(some 6),.move (.t 94),none⟩])
 (.ret))))))))))))⟩
theorem cf144_ok:cFunc Tryz.prog Tryz.f144=some cf144:=by kernel_rfl
theorem overlaps_noneH : (Tryz.f203.name == "runtime.NumGoroutine") = false ∧ Tryz.f203.body.isNone = true := ⟨by kernel_rfl, by kernel_rfl⟩
theorem overlaps_nextH:Extern.findNext Tryz.f203=none:=by kernel_rfl
theorem overlaps_findH:Extern.find Tryz.f203=some (Extern.SlicesOverlaps.overlaps #[91,91] #[4]):=by kernel_rfl
theorem overlaps_sizeH:sizeOf? Tryz.prog 112=some 4:=by kernel_rfl
theorem overlaps_tyH:Program.underlying Tryz.prog 91=some (.slice 112):=by kernel_rfl
theorem Insert_rowH(es:List AV)(x:AV)(i cap:Nat)(hi:i≤es.length)(hx:x.solid=true)(h1:es.length≤cap)(h2:cap≤maxLen)(hs:es.length≤1000000)(hp:pureL es∧x.pure) :
  HSpec Tryz.prog 144 [.vec 0,.int i,.vec 1] [.row 4 es es.length cap,.vec 4 [x]] (.vec 2) [none,none,some (.vec 4 (insAt es i x))]:=by
 have hml:=maxLen_eq
 refine HSpec.walk Tryz.func144 cf144_ok (by simp [cf144]) ?_
 unfold cf144
 simp only [initT,initH,List.length_cons,List.length_nil]
 refine AWP.seq' ?_
 refine AWP.reg' fun K hK=>?_
 try simp only [stepS,stepD,stepM,eq_self,implies_true,forall_eq_or_imp,forall_eq,Nat.reduceEqDiff,↓reduceIte,Nat.reduceAdd,Nat.reduceLeDiff,Nat.reduceSub,Nat.reduceMul,Nat.reduceLT,Int.reduceBEq,Int.reduceBNe,Int.reduceToNat,Int.reduceLT,Int.reduceLE,Int.reduceAdd,Int.reduceSub,Int.reduceMul,reduceCtorEq]
 refine hK _ _ _ ?_
 clear hK K
 refine AWP.seq' ?_
 refine AWP.reg' fun K hK=>?_
 try simp only [stepS,stepD,stepM,eq_self,implies_true,forall_eq_or_imp,forall_eq,Nat.reduceEqDiff,↓reduceIte,Nat.reduceAdd,Nat.reduceLeDiff,Nat.reduceSub,Nat.reduceMul,Nat.reduceLT,Int.reduceBEq,Int.reduceBNe,Int.reduceToNat,Int.reduceLT,Int.reduceLE,Int.reduceAdd,Int.reduceSub,Int.reduceMul,reduceCtorEq]
 repeat (refine And.intro (by omega) ?_)
 refine hK _ _ _ ?_
 clear hK K
 refine AWP.seq' ?_
 refine AWP.reg' fun K hK=>?_
 try simp only [stepS,stepD,stepM,eq_self,implies_true,forall_eq_or_imp,forall_eq,Nat.reduceEqDiff,↓reduceIte,Nat.reduceAdd,Nat.reduceLeDiff,Nat.reduceSub,Nat.reduceMul,Nat.reduceLT,Int.reduceBEq,Int.reduceBNe,Int.reduceToNat,Int.reduceLT,Int.reduceLE,Int.reduceAdd,Int.reduceSub,Int.reduceMul,reduceCtorEq]
 refine hK _ _ _ ?_
 clear hK K
 refine AWP.seq' (AWP.seq' ?_)
 refine AWP.reg' fun K hK=>?_
 try simp only [stepS,stepD,stepM,eq_self,implies_true,forall_eq_or_imp,forall_eq,Nat.reduceEqDiff,↓reduceIte,Nat.reduceAdd,Nat.reduceLeDiff,Nat.reduceSub,Nat.reduceMul,Nat.reduceLT,Int.reduceBEq,Int.reduceBNe,Int.reduceToNat,Int.reduceLT,Int.reduceLE,Int.reduceAdd,Int.reduceSub,Int.reduceMul,reduceCtorEq]
 refine hK _ _ _ ?_
 clear hK K
 refine AWP.cond (b:=false) rfl (fun h=>by cases h) (fun _=>?_)
 refine AWP.skip ?_
 refine AWP.seq' ?_
 refine AWP.reg' fun K hK=>?_
 try simp only [stepS,stepD,stepM,eq_self,implies_true,forall_eq_or_imp,forall_eq,Nat.reduceEqDiff,↓reduceIte,Nat.reduceAdd,Nat.reduceLeDiff,Nat.reduceSub,Nat.reduceMul,Nat.reduceLT,Int.reduceBEq,Int.reduceBNe,Int.reduceToNat,Int.reduceLT,Int.reduceLE,Int.reduceAdd,Int.reduceSub,Int.reduceMul,reduceCtorEq]
 refine hK _ _ _ ?_
 clear hK K
 refine AWP.seq' (AWP.seq' ?_)
 refine AWP.reg' fun K hK=>?_
 try simp only [stepS,stepD,stepM,eq_self,implies_true,forall_eq_or_imp,forall_eq,Nat.reduceEqDiff,↓reduceIte,Nat.reduceAdd,Nat.reduceLeDiff,Nat.reduceSub,Nat.reduceMul,Nat.reduceLT,Int.reduceBEq,Int.reduceBNe,Int.reduceToNat,Int.reduceLT,Int.reduceLE,Int.reduceAdd,Int.reduceSub,Int.reduceMul,reduceCtorEq]
 refine hK _ _ _ ?_
 clear hK K
 refine AWP.cond (b:=((i:Int)==(es.length:Int))) rfl (fun h=>?_) (fun h=>?_)
 ·have h:i=es.length:=by have:=eq_of_beq h;omega
  refine AWP.seq' ?_
  refine AWP.reg' fun K hK=>?_
  try simp only [stepS,stepD,stepM,eq_self,implies_true,forall_eq_or_imp,forall_eq,Nat.reduceEqDiff,↓reduceIte,Nat.reduceAdd,Nat.reduceLeDiff,Nat.reduceSub,Nat.reduceMul,Nat.reduceLT,Int.reduceBEq,Int.reduceBNe,Int.reduceToNat,Int.reduceLT,Int.reduceLE,Int.reduceAdd,Int.reduceSub,Int.reduceMul,reduceCtorEq,appendA,srcA]
  repeat (refine And.intro (by omega) ?_)
  refine hK _ _ _ ?_
  clear hK K
  refine AWP.ret (fin_ren [0,1,274] [(6,.vec 2)] rfl rfl ?_ ?_ rfl (by simp) ?_ (by simp))
  ·simp only [List.mem_singleton,forall_eq]
   exact ⟨rfl,show (2:Nat)<3 by omega⟩
  ·refine ⟨⟨?_,?_⟩,trivial⟩
   ·rw [(vec_ren (m:=0) (pureL_insAt hp.1 hp.2 i)).1]
    show some (Blk.vec 4 (es++[x]))=_
    rw [insAt,h,List.take_length,List.drop_length,List.append_nil]
   ·exact (vec_ren (π:=id) (pureL_insAt hp.1 hp.2 i)).2
  ·intro b hb
   match b,hb with
   | 0,_=>rfl
   | 1,_=>rfl
 have h:¬i=es.length:=by intro e;subst e;simp at h
 refine AWP.skip ?_
 refine AWP.seq' (AWP.seq' ?_)
 have w1:IntKind.i64.wrap ((es.length:Int)+1)=es.length+1:=wrap64 (by omega)
 refine AWP.reg' fun K hK=>?_
 try simp only [stepS,stepD,stepM,eq_self,implies_true,forall_eq_or_imp,forall_eq,Nat.reduceEqDiff,↓reduceIte,Nat.reduceAdd,Nat.reduceLeDiff,Nat.reduceSub,Nat.reduceMul,Nat.reduceLT,Int.reduceBEq,Int.reduceBNe,Int.reduceToNat,Int.reduceLT,Int.reduceLE,Int.reduceAdd,Int.reduceSub,Int.reduceMul,reduceCtorEq,w1]
 refine hK _ _ _ ?_
 clear hK K
 refine AWP.cond (b:=decide ((cap:Int)<(es.length:Int)+1)) rfl (fun h3=>?_) (fun h3=>?_)
 ·have h3:cap=es.length:=by have:=of_decide_eq_true h3;omega
  refine AWP.seq' ?_
  have w2:IntKind.i64.wrap ((es.length:Int)+1-i)=es.length+1-i:=wrap64 (by omega)
  have hlt:¬((es.length:Int)<(i:Int)):=by omega
  refine AWP.reg' fun K hK=>?_
  try simp only [stepS,stepD,stepM,eq_self,implies_true,forall_eq_or_imp,forall_eq,Nat.reduceEqDiff,↓reduceIte,Nat.reduceAdd,Nat.reduceLeDiff,Nat.reduceSub,Nat.reduceMul,Nat.reduceLT,Int.reduceBEq,Int.reduceBNe,Int.reduceToNat,Int.reduceLT,Int.reduceLE,Int.reduceAdd,Int.reduceSub,Int.reduceMul,reduceCtorEq,w1,w2,appendZA,Int.toNat_natCast,hlt]
  repeat (refine And.intro (by omega) ?_)
  refine hK _ _ _ ?_
  clear hK K
  have hn:((es.length:Int)+1-i).toNat=es.length+1-i:=by omega
  rw [hn]
  generalize hL:es.take i++List.replicate (es.length+1-i) (AV.agg [AV.val (Value.int IntKind.i64 0),AV.val (Value.int IntKind.i64 0),AV.val (Value.int IntKind.i64 0),AV.sl 0 [] true])=L
  have hLl:L.length=es.length+1:=by rw [←hL];simp;omega
  refine AWP.seq' ?_
  have hpos:0<es.length+1:=by omega
  have hsub:(((es.length+1:Nat):Int)-(i:Int)).toNat=es.length+1-i:=by omega
  have hmin:Nat.min 1 (es.length+1-i)=1:=Nat.min_eq_left (by omega)
  refine AWP.reg' fun K hK=>?_
  try simp only [stepS,stepD,stepM,eq_self,implies_true,forall_eq_or_imp,forall_eq,Nat.reduceEqDiff,↓reduceIte,Nat.reduceAdd,Nat.reduceLeDiff,Nat.reduceSub,Nat.reduceMul,Nat.reduceLT,Int.reduceBEq,Int.reduceBNe,Int.reduceToNat,Int.reduceLT,Int.reduceLE,Int.reduceAdd,Int.reduceSub,Int.reduceMul,reduceCtorEq,hLl,copyA,srcP,srcA,Int.toNat_natCast,hpos,hsub,hmin]
  repeat (refine And.intro (by omega) ?_)
  refine hK _ _ _ ?_
  clear hK K
  have ht1:List.take 1 [x]=[x]:=rfl
  have w3:IntKind.i64.wrap ((i:Int)+1)=i+1:=wrap64 (by omega)
  generalize hM:over L i [x]=M
  have hMl:M.length=es.length+1:=by rw [←hM,over_length (by omega),Nat.max_def];split<;>simp at *<;>omega
  refine AWP.seq' ?_
  have ha:((es.length:Int)-(i:Int)).toNat=es.length-i:=by omega
  have hb:(((es.length+1:Nat):Int)-((i:Int)+1)).toNat=es.length-i:=by omega
  have hc:((i:Int)+1).toNat=i+1:=by omega
  have hd:Nat.min (es.length-i) (es.length-i)=es.length-i:=Nat.min_self _
  have he:(es.drop i).take (es.length-i)=es.drop i:=List.take_of_length_le (by simp)
  have hf:(es.drop i).length=es.length-i:=List.length_drop ..
  refine AWP.dreg' fun K hK=>?_
  try simp only [stepS,stepD,stepM,eq_self,implies_true,forall_eq_or_imp,forall_eq,Nat.reduceEqDiff,↓reduceIte,Nat.reduceAdd,Nat.reduceLeDiff,Nat.reduceSub,Nat.reduceMul,Nat.reduceLT,Int.reduceBEq,Int.reduceBNe,Int.reduceToNat,Int.reduceLT,Int.reduceLE,Int.reduceAdd,Int.reduceSub,Int.reduceMul,reduceCtorEq,hMl,copyA,srcP,srcA,Int.toNat_natCast,hpos,w3,ha,hb,hc,hd,he,hf]
  repeat (refine And.intro (by omega) ?_)
  refine ⟨by rfl,hK _ _ _ ?_⟩
  clear hK K
  refine AWP.seq' ?_
  refine AWP.reg' fun K hK=>?_
  try simp only [stepS,stepD,stepM,eq_self,implies_true,forall_eq_or_imp,forall_eq,Nat.reduceEqDiff,↓reduceIte,Nat.reduceAdd,Nat.reduceLeDiff,Nat.reduceSub,Nat.reduceMul,Nat.reduceLT,Int.reduceBEq,Int.reduceBNe,Int.reduceToNat,Int.reduceLT,Int.reduceLE,Int.reduceAdd,Int.reduceSub,Int.reduceMul,reduceCtorEq]
  refine hK _ _ _ ?_
  clear hK K
  have hfin:over M (i+1) (es.drop i)=insAt es i x:=by
   have hLi:L.take i=es.take i:=by
    rw [←hL,List.take_append_of_le_length (by simp;omega),List.take_take,Nat.min_self]
   have hMi:M.take (i+1)=es.take i++[x]:=by
    have e1:(es.take i++[x]).length=i+1:=by simp;omega
    rw [←hM,over,hLi,←e1]
    exact List.take_left
   have hMd:M.drop (i+1+(es.drop i).length)=[]:=List.drop_of_length_le (by rw [hMl,hf];omega)
   unfold over insAt
   rw [hMi,hMd,List.append_nil]
  refine AWP.ret (fin_ren [0,1,466] [(6,.vec 2)] rfl rfl ?_ ?_ rfl (by simp) ?_ (by simp))
  ·simp only [List.mem_singleton,forall_eq]
   exact ⟨rfl,show (2:Nat)<3 by omega⟩
  ·refine ⟨⟨?_,?_⟩,trivial⟩
   ·rw [(vec_ren (m:=0) (pureL_insAt hp.1 hp.2 i)).1,←hfin]
    rfl
   ·exact (vec_ren (π:=id) (pureL_insAt hp.1 hp.2 i)).2
  ·intro b hb
   match b,hb with
   | 0,_=>rfl
   | 1,_=>rfl
 have h3:es.length+1≤cap:=by have:=of_decide_eq_false h3;omega
 refine AWP.skip ?_
 refine AWP.seq' ?_
 have hgt:((es.length:Int)<(es.length:Int)+1):=by omega
 refine AWP.reg' fun K hK=>?_
 try simp only [stepS,stepD,stepM,eq_self,implies_true,forall_eq_or_imp,forall_eq,Nat.reduceEqDiff,↓reduceIte,Nat.reduceAdd,Nat.reduceLeDiff,Nat.reduceSub,Nat.reduceMul,Nat.reduceLT,Int.reduceBEq,Int.reduceBNe,Int.reduceToNat,Int.reduceLT,Int.reduceLE,Int.reduceAdd,Int.reduceSub,Int.reduceMul,reduceCtorEq,w1,hgt]
 repeat (refine And.intro (by omega) ?_)
 refine hK _ _ _ ?_
 clear hK K
 have w3:IntKind.i64.wrap ((i:Int)+1)=i+1:=wrap64 (by omega)
 refine AWP.seq' (AWP.seq' ?_)
 have hn1:((es.length:Int)+1).toNat=es.length+1:=by omega
 refine AWP.reg' fun K hK=>?_
 try simp only [stepS,stepD,stepM,eq_self,implies_true,forall_eq_or_imp,forall_eq,Nat.reduceEqDiff,↓reduceIte,Nat.reduceAdd,Nat.reduceLeDiff,Nat.reduceSub,Nat.reduceMul,Nat.reduceLT,Int.reduceBEq,Int.reduceBNe,Int.reduceToNat,Int.reduceLT,Int.reduceLE,Int.reduceAdd,Int.reduceSub,Int.reduceMul,reduceCtorEq,w3,Int.toNat_natCast,hn1]
 repeat (refine And.intro (by omega) ?_)
 refine evT_ext rfl rfl (ext_overlaps Tryz.func203 overlaps_noneH.1 overlaps_noneH.2 overlaps_nextH overlaps_findH overlaps_tyH overlaps_sizeH (by omega) rfl rfl (by omega) (by simp) (by omega)) ?_
 try simp only [stepS,stepD,stepM,eq_self,implies_true,forall_eq_or_imp,forall_eq,Nat.reduceEqDiff,↓reduceIte,Nat.reduceAdd,Nat.reduceLeDiff,Nat.reduceSub,Nat.reduceMul,Nat.reduceLT,Int.reduceBEq,Int.reduceBNe,Int.reduceToNat,Int.reduceLT,Int.reduceLE,Int.reduceAdd,Int.reduceSub,Int.reduceMul,reduceCtorEq,w3]
 refine hK _ _ _ ?_
 clear hK K
 refine AWP.cond (b:=true) rfl (fun _=>?_) (fun h=>by cases h)
 refine AWP.seq' ?_
 have hb:(((es.length+1:Nat):Int)-((i:Int)+1)).toNat=es.length-i:=by omega
 have hc:((i:Int)+1).toNat=i+1:=by omega
 have hsub:(((es.length+1:Nat):Int)-(i:Int)).toNat=es.length+1-i:=by omega
 have hd:Nat.min (es.length+1-i) (es.length-i)=es.length-i:=Nat.min_eq_right (by omega)
 have he:(es.drop i).take (es.length+1-i)=es.drop i:=List.take_of_length_le (by simp;omega)
 have he2:(es.drop i).take (es.length-i)=es.drop i:=List.take_of_length_le (by simp)
 have hf:(es.drop i).length=es.length-i:=List.length_drop ..
 refine AWP.dreg' fun K hK=>?_
 try simp only [stepS,stepD,stepM,eq_self,implies_true,forall_eq_or_imp,forall_eq,Nat.reduceEqDiff,↓reduceIte,Nat.reduceAdd,Nat.reduceLeDiff,Nat.reduceSub,Nat.reduceMul,Nat.reduceLT,Int.reduceBEq,Int.reduceBNe,Int.reduceToNat,Int.reduceLT,Int.reduceLE,Int.reduceAdd,Int.reduceSub,Int.reduceMul,reduceCtorEq,w3,copyA,srcP,srcA,Int.toNat_natCast,hb,hc,hsub,hd,he,he2,hf]
 repeat (refine And.intro (by omega) ?_)
 refine ⟨by rfl,hK _ _ _ ?_⟩
 clear hK K
 have hMl:(over es (i+1) (es.drop i)).length=es.length+1:=by simp [over];omega
 have hMt:(over es (i+1) (es.drop i)).take i=es.take i:=by
  unfold over
  rw [List.append_assoc,List.take_append_of_le_length (by simp;omega),List.take_take,Nat.min_eq_left (by omega)]
 have hMd:(over es (i+1) (es.drop i)).drop (i+1)=es.drop i:=by
  unfold over
  have e1:(es.take (i+1)).length=i+1:=by simp;omega
  have e2:es.drop (i+1+(es.drop i).length)=[]:=List.drop_of_length_le (by simp;omega)
  rw [e2,List.append_nil]
  have e3:=List.drop_left (l₁:=es.take (i+1)) (l₂:=es.drop i)
  rw [e1] at e3;exact e3
 generalize hM:over es (i+1) (es.drop i)=M at *
 refine AWP.seq' ?_
 have hsub:(((es.length+1:Nat):Int)-(i:Int)).toNat=es.length+1-i:=by omega
 have hmin:Nat.min 1 (es.length+1-i)=1:=Nat.min_eq_left (by omega)
 have ht1:List.take 1 [x]=[x]:=rfl
 refine AWP.reg' fun K hK=>?_
 try simp only [stepS,stepD,stepM,eq_self,implies_true,forall_eq_or_imp,forall_eq,Nat.reduceEqDiff,↓reduceIte,Nat.reduceAdd,Nat.reduceLeDiff,Nat.reduceSub,Nat.reduceMul,Nat.reduceLT,Int.reduceBEq,Int.reduceBNe,Int.reduceToNat,Int.reduceLT,Int.reduceLE,Int.reduceAdd,Int.reduceSub,Int.reduceMul,reduceCtorEq,hMl,copyA,srcP,srcA,Int.toNat_natCast,hsub,hmin]
 repeat (refine And.intro (by omega) ?_)
 refine hK _ _ _ ?_
 clear hK K
 refine AWP.seq' ?_
 refine AWP.reg' fun K hK=>?_
 try simp only [stepS,stepD,stepM,eq_self,implies_true,forall_eq_or_imp,forall_eq,Nat.reduceEqDiff,↓reduceIte,Nat.reduceAdd,Nat.reduceLeDiff,Nat.reduceSub,Nat.reduceMul,Nat.reduceLT,Int.reduceBEq,Int.reduceBNe,Int.reduceToNat,Int.reduceLT,Int.reduceLE,Int.reduceAdd,Int.reduceSub,Int.reduceMul,reduceCtorEq]
 refine hK _ _ _ ?_
 clear hK K
 have hfin:over M i [x]=insAt es i x:=by
  unfold over insAt
  rw [hMt,show i+[x].length=i+1 from rfl,hMd]
 have hfl:(insAt es i x).length=es.length+1:=by unfold insAt;simp;omega
 rw [hfin]
 refine AWP.ret (fin_weak (Weak.row (b:=402) (cap:=cap) (k:=4) (es:=insAt es i x) (by rw [hfl];rfl)) (fin_ren [0,1,402] [(6,.vec 2)] rfl rfl ?_ ?_ rfl (by simp) ?_ (by simp)))
 ·simp only [List.mem_singleton,forall_eq]
  exact ⟨rfl,show (2:Nat)<3 by omega⟩
 ·refine ⟨⟨?_,?_⟩,trivial⟩
  ·rw [(vec_ren (m:=0) (pureL_insAt hp.1 hp.2 i)).1]
   rfl
  ·exact (vec_ren (π:=id) (pureL_insAt hp.1 hp.2 i)).2
 ·intro b hb
  match b,hb with
  | 0,_=>rfl
  | 1,_=>rfl
theorem Insert_nilH(x:AV)(hx:x.solid=true)(hp:x.pure) :
  HSpec Tryz.prog 144 [.vec 0,.int 0,.vec 1] [.vec 4 [],.vec 4 [x]] (.vec 2) [none,none,some (.vec 4 [x])]:=by
 have hml:=maxLen_eq
 refine HSpec.walk Tryz.func144 cf144_ok (by simp [cf144]) ?_
 unfold cf144
 simp only [initT,initH,List.length_cons,List.length_nil]
 refine AWP.seq' ?_
 refine AWP.reg' fun K hK=>?_
 try simp only [stepS,stepD,stepM,eq_self,implies_true,forall_eq_or_imp,forall_eq,Nat.reduceEqDiff,↓reduceIte,Nat.reduceAdd,Nat.reduceLeDiff,Nat.reduceSub,Nat.reduceMul,Nat.reduceLT,Int.reduceBEq,Int.reduceBNe,Int.reduceToNat,Int.reduceLT,Int.reduceLE,Int.reduceAdd,Int.reduceSub,Int.reduceMul,reduceCtorEq]
 refine hK _ _ _ ?_
 clear hK K
 refine AWP.seq' ?_
 refine AWP.reg' fun K hK=>?_
 try simp only [stepS,stepD,stepM,eq_self,implies_true,forall_eq_or_imp,forall_eq,Nat.reduceEqDiff,↓reduceIte,Nat.reduceAdd,Nat.reduceLeDiff,Nat.reduceSub,Nat.reduceMul,Nat.reduceLT,Int.reduceBEq,Int.reduceBNe,Int.reduceToNat,Int.reduceLT,Int.reduceLE,Int.reduceAdd,Int.reduceSub,Int.reduceMul,reduceCtorEq]
 refine hK _ _ _ ?_
 clear hK K
 refine AWP.seq' ?_
 refine AWP.reg' fun K hK=>?_
 try simp only [stepS,stepD,stepM,eq_self,implies_true,forall_eq_or_imp,forall_eq,Nat.reduceEqDiff,↓reduceIte,Nat.reduceAdd,Nat.reduceLeDiff,Nat.reduceSub,Nat.reduceMul,Nat.reduceLT,Int.reduceBEq,Int.reduceBNe,Int.reduceToNat,Int.reduceLT,Int.reduceLE,Int.reduceAdd,Int.reduceSub,Int.reduceMul,reduceCtorEq]
 refine hK _ _ _ ?_
 clear hK K
 refine AWP.seq' (AWP.seq' ?_)
 refine AWP.reg' fun K hK=>?_
 try simp only [stepS,stepD,stepM,eq_self,implies_true,forall_eq_or_imp,forall_eq,Nat.reduceEqDiff,↓reduceIte,Nat.reduceAdd,Nat.reduceLeDiff,Nat.reduceSub,Nat.reduceMul,Nat.reduceLT,Int.reduceBEq,Int.reduceBNe,Int.reduceToNat,Int.reduceLT,Int.reduceLE,Int.reduceAdd,Int.reduceSub,Int.reduceMul,reduceCtorEq]
 refine hK _ _ _ ?_
 clear hK K
 refine AWP.cond (b:=false) rfl (fun h=>by cases h) (fun _=>?_)
 refine AWP.skip ?_
 refine AWP.seq' ?_
 refine AWP.reg' fun K hK=>?_
 try simp only [stepS,stepD,stepM,eq_self,implies_true,forall_eq_or_imp,forall_eq,Nat.reduceEqDiff,↓reduceIte,Nat.reduceAdd,Nat.reduceLeDiff,Nat.reduceSub,Nat.reduceMul,Nat.reduceLT,Int.reduceBEq,Int.reduceBNe,Int.reduceToNat,Int.reduceLT,Int.reduceLE,Int.reduceAdd,Int.reduceSub,Int.reduceMul,reduceCtorEq]
 refine hK _ _ _ ?_
 clear hK K
 refine AWP.seq' (AWP.seq' ?_)
 refine AWP.reg' fun K hK=>?_
 try simp only [stepS,stepD,stepM,eq_self,implies_true,forall_eq_or_imp,forall_eq,Nat.reduceEqDiff,↓reduceIte,Nat.reduceAdd,Nat.reduceLeDiff,Nat.reduceSub,Nat.reduceMul,Nat.reduceLT,Int.reduceBEq,Int.reduceBNe,Int.reduceToNat,Int.reduceLT,Int.reduceLE,Int.reduceAdd,Int.reduceSub,Int.reduceMul,reduceCtorEq]
 refine hK _ _ _ ?_
 clear hK K
 refine AWP.cond (b:=true) rfl (fun h=>?_) (fun h=>by cases h)
 refine AWP.seq' ?_
 refine AWP.reg' fun K hK=>?_
 try simp only [stepS,stepD,stepM,eq_self,implies_true,forall_eq_or_imp,forall_eq,Nat.reduceEqDiff,↓reduceIte,Nat.reduceAdd,Nat.reduceLeDiff,Nat.reduceSub,Nat.reduceMul,Nat.reduceLT,Int.reduceBEq,Int.reduceBNe,Int.reduceToNat,Int.reduceLT,Int.reduceLE,Int.reduceAdd,Int.reduceSub,Int.reduceMul,reduceCtorEq,appendA,srcA]
 repeat (refine And.intro (by omega) ?_)
 refine hK _ _ _ ?_
 clear hK K
 refine AWP.ret (fin_ren [0,1,274] [(6,.vec 2)] rfl rfl ?_ ?_ rfl (by simp) ?_ (by simp))
 ·simp only [List.mem_singleton,forall_eq]
  exact ⟨rfl,show (2:Nat)<3 by omega⟩
 ·have hp':pureL [x]:=⟨hp,trivial⟩
  refine ⟨⟨?_,?_⟩,trivial⟩
  ·rw [(vec_ren (m:=0) hp').1]
   rfl
  ·exact (vec_ren (π:=id) hp').2
 ·intro b hb
  match b,hb with
  | 0,_=>rfl
  | 1,_=>rfl
theorem Insert_specH(es:List AV)(x:AV)(i:Nat)(hi:i≤es.length)(hx:x.solid=true)(hs:es.length≤1000000)(hp:pureL es∧x.pure) :
  HSpec Tryz.prog 144 [.vec 0,.int i,.vec 1] [.vec 4 es,.vec 4 [x]] (.vec 2) [none,none,some (.vec 4 (insAt es i x))]:=by
 refine HSpec.of_row (fun cap h1 h2=>Insert_rowH es x i cap hi hx h1 h2 hs hp) (fun h=>?_)
 subst h
 have:i=0:=by simpa using hi
 subst this
 exact Insert_nilH x hx hp.2
theorem Insert_fnH:FnOk Tryz.prog 144:=fnB_ok (by kernel_rfl)
theorem BlkOk.mapSub{w:World}{A:Nat→Prop}{μ:Mu}{hd:Hd}{k:Nat}{es:List AV}{f:AV→AV}(h:∀x,Sub x (f x))(hy:∀x∈es.map f,x.solid=true)(q:BlkOk w A μ hd (.vec k es)):BlkOk w A μ hd (.vec k (es.map f)):=by
 obtain ⟨q2,q3⟩:=q
 refine ⟨q2,?_⟩
 rcases q3 with ⟨rfl,q⟩|⟨a1,a2,a3,a4,C,ty,vs,a5,a6,a7,a8⟩
 ·exact .inl ⟨rfl,q⟩
 ·exact .inr ⟨a1,by rw [List.length_map];exact a2,a3,a4,C,ty,vs,a5,RVL.mapSub h a6,hy,a8⟩
theorem HSpec.subH{P:Program}{f:FuncId}{args:List AV}{hs1 hs2:List Blk}{r:AV}{h':List (Option Blk)}(hl:hs1.length=hs2.length)
  (hsub:∀(i:Nat) x y,hs1[i]?=some x→hs2[i]?=some y→∀w A μ hd,BlkOk w A μ hd x→BlkOk w A μ hd y) (h:HSpec P f args hs2 r h'):HSpec P f args hs1 r h':=by
 intro w A μ cargs g1 g2 g3
 have to:∀b x,hpOf (hs2.map some) b=some x→∃y,hpOf (hs1.map some) b=some y∧∀hd,BlkOk w A μ hd y→BlkOk w A μ hd x:=by
  intro b x hx
  rw [hpOf_some] at hx
  have hb:=lt_of_get hx
  exact ⟨hs1[b],hpOf_some.mpr (List.getElem?_eq_getElem (by omega)),fun hd q=>hsub b _ x (List.getElem?_eq_getElem (by omega)) hx w A μ hd q⟩
 have own':ownOf μ (hpOf (hs2.map some))=ownOf μ (hpOf (hs1.map some)):=by
  funext b
  refine propext ⟨?_,?_⟩
  ·rintro ⟨i,x,hd',a1,a2,a3,a4⟩
   obtain ⟨y,b1,_⟩:=to i x a1
   exact ⟨i,y,hd',b1,a2,a3,a4⟩
  ·rintro ⟨i,x,hd',a1,a2,a3,a4⟩
   rw [hpOf_some] at a1
   have hi:=lt_of_get a1
   exact ⟨i,hs2[i],hd',hpOf_some.mpr (List.getElem?_eq_getElem (by omega)),a2,a3,a4⟩
 have:=h w A μ cargs ⟨fun b x hx=>?_,fun b b' x x' hd1 hd2 hx hx'=>?_,g1.lt⟩ (by rw [←hl];exact g2) g3
 ·rw [own'] at this;exact this
 ·obtain ⟨y,b1,b2⟩:=to b x hx
  obtain ⟨hd',c1,c2,c3⟩:=g1.blk b y b1
  exact ⟨hd',c1,b2 hd' c2,c3⟩
 ·obtain ⟨y,b1,_⟩:=to b x hx
  obtain ⟨y',b1',_⟩:=to b' x' hx'
  exact g1.inj b b' y y' hd1 hd2 b1 b1'
theorem insAt_map{α β:Type}(f:α→β)(l:List α)(i:Nat)(x:α):insAt (l.map f) i (f x)=(insAt l i x).map f:=by
 simp [insAt]
def insH_h(l:List Hrd)(r:Int)(i:Nat)(hi:i≤l.length)(hl:l.length≤1000000):HC Tryz.prog:=
 ⟨144,[.k,.k,.k],[.vec 0,.int i,.vec 1],[.vec 4 (l.map Hrd.v),.vec 4 [.agg [.int r,.int 0,.int 0,.sl 0 [] true]]],.vec 2,[none,none,some (.vec 4 ((insAt l i ⟨r,0,0,[]⟩).map Hrd.v))],by
  have h:=Insert_specH (l.map Hrd.v) (Hrd.v ⟨r,0,0,[]⟩) i (by simpa using hi) rfl (by simpa using hl) ⟨pureBL_ok (pureBL_map (fun _=>rfl) l),AV.pureB_ok rfl⟩
  rw [insAt_map] at h
  refine HSpec.subH (hs2:=[.vec 4 (l.map Hrd.v),.vec 4 [Hrd.v ⟨r,0,0,[]⟩]]) rfl (fun j x y hx hy w A μ hd q=>?_) h
  rcases j with _|_|j
  ·cases hx;cases hy;exact q
  ·cases hx;cases hy;exact BlkOk.mapSub (f:=fitA (.a [.k,.k,.k,.s 4])) (fitA_sub _) (by intro x hx;simp only [List.map_cons,List.map_nil,List.mem_singleton] at hx;subst hx;rfl) q
  ·simp at hx,Insert_fnH,HcOk.of (by simp [hcB,belBL,AV.belB,allB,okBk,okBkO,pureBL_map (v:=Hrd.v) (fun _=>rfl),pureBL,AV.pureB])⟩
def hearF_a(l:Lsn)(x:Sig):Prop:=okL [.agg [.int l.router,.int l.epoch,.sl 4 (l.heard.map Hrd.v) false],.agg [.int x.kind,.int x.src,.int x.dst,.int x.epoch,.int x.ver,.int x.prev,.int x.pep,.int x.grp,.int x.mode,.sl 1 (x.srcs.map AV.int) false]]
def hearF_n0(l:Lsn)(x:Sig)(t0:Unit):NF:=⟨[(2,.k,.ref 0 0),(3,.k,.ref 1 0),(4,.k,.ref 2 0),(5,.k,.ref 3 0),(8,.k,.int (posH l.heard x.src:Int)),(9,.k,.bool (decide (hitH l.heard x.src)))],[.box (.agg [.int l.router,.int l.epoch,.sl 4 (l.heard.map Hrd.v) false]),.box (.agg [.int x.kind,.int x.src,.int x.dst,.int x.epoch,.int x.ver,.int x.prev,.int x.pep,.int x.grp,.int x.mode,.sl 1 (x.srcs.map AV.int) false]),.box (.agg [.int 0,.int 0,.sl 0 [] true]),.box (.agg [.int 0,.int 0,.int 0,.int 0,.int 0,.int 0,.int 0,.int 0,.int 0,.sl 0 [] true])]⟩
def hearF_n1(l:Lsn)(x:Sig)(t0:Unit)(t1:Int×(List Hrd)):NF:=⟨[(2,.k,.ref 0 0),(3,.k,.ref 1 0),(4,.k,.ref 2 0),(5,.k,.ref 3 0),(8,.k,.int (posH l.heard x.src:Int)),(9,.k,.bool (decide (hitH l.heard x.src))),(10,.k,.ref 4 0),(60,.k,.sl 4 (l.heard.map Hrd.v) false),(61,.k,.int ((l.heard.map Hrd.v).length:Int)),(62,.k,.int t1.1)],[.box (.agg [.int l.router,.int l.epoch,.sl 4 (l.heard.map Hrd.v) false]),.box (.agg [.int x.kind,.int x.src,.int x.dst,.int x.epoch,.int x.ver,.int x.prev,.int x.pep,.int x.grp,.int x.mode,.sl 1 (x.srcs.map AV.int) false]),.box (.agg [.int 0,.int 0,.sl 0 [] true]),.box (.agg [.int 0,.int 0,.int 0,.int 0,.int 0,.int 0,.int 0,.int 0,.int 0,.sl 0 [] true]),.box (.agg [.int l.router,.int l.epoch,.vec 5]),.vec 4 (t1.2.map Hrd.v) (pureBL_map (fun _=>rfl) t1.2)]⟩
def hearF_n2(l:Lsn)(x:Sig)(t0:Unit)(t1:Int×(List Hrd))(t2:(List Hrd)):NF:=⟨[(2,.k,.ref 0 0),(3,.k,.ref 1 0),(4,.k,.ref 2 0),(5,.k,.ref 3 0),(8,.k,.int (posH l.heard x.src:Int)),(10,.k,.ref 4 0)],[.box (.agg [.int l.router,.int l.epoch,.sl 4 (l.heard.map Hrd.v) false]),.box (.agg [.int x.kind,.int x.src,.int x.dst,.int x.epoch,.int x.ver,.int x.prev,.int x.pep,.int x.grp,.int x.mode,.sl 1 (x.srcs.map AV.int) false]),.box (.agg [.int 0,.int 0,.sl 0 [] true]),.box (.agg [.int 0,.int 0,.int 0,.int 0,.int 0,.int 0,.int 0,.int 0,.int 0,.sl 0 [] true]),.box (.agg [.int l.router,.int l.epoch,.vec 5]),.vec 4 (t2.map Hrd.v) (pureBL_map (fun _=>rfl) t2)]⟩
def hearF_n3(l:Lsn)(x:Sig)(t0:Unit)(t1:Int×(List Hrd))(t2:(List Hrd))(t3:(List Hrd)):NF:=⟨[(2,.k,.ref 0 0),(3,.k,.ref 1 0),(4,.k,.ref 2 0),(5,.k,.ref 3 0),(10,.k,.ref 4 0),(13,.k,.eref 5 ((posH l.heard x.src:Int).toNat) 0)],[.box (.agg [.int l.router,.int l.epoch,.sl 4 (l.heard.map Hrd.v) false]),.box (.agg [.int x.kind,.int x.src,.int x.dst,.int x.epoch,.int x.ver,.int x.prev,.int x.pep,.int x.grp,.int x.mode,.sl 1 (x.srcs.map AV.int) false]),.box (.agg [.int 0,.int 0,.sl 0 [] true]),.box (.agg [.int 0,.int 0,.int 0,.int 0,.int 0,.int 0,.int 0,.int 0,.int 0,.sl 0 [] true]),.box (.agg [.int l.router,.int l.epoch,.vec 5]),.vec 4 (t3.map Hrd.v) (pureBL_map (fun _=>rfl) t3)]⟩
def hearF_n4(l:Lsn)(x:Sig)(t0:Unit)(t1:Int×(List Hrd))(t2:(List Hrd))(t3:(List Hrd))(t4:(List Hrd)):NF:=⟨[(2,.k,.ref 0 0),(3,.k,.ref 1 0),(4,.k,.ref 2 0),(5,.k,.ref 3 0),(10,.k,.ref 4 0),(13,.k,.eref 5 ((posH l.heard x.src:Int).toNat) 0)],[.box (.agg [.int l.router,.int l.epoch,.sl 4 (l.heard.map Hrd.v) false]),.box (.agg [.int x.kind,.int x.src,.int x.dst,.int x.epoch,.int x.ver,.int x.prev,.int x.pep,.int x.grp,.int x.mode,.sl 1 (x.srcs.map AV.int) false]),.box (.agg [.int 0,.int 0,.sl 0 [] true]),.box (.agg [.int 0,.int 0,.int 0,.int 0,.int 0,.int 0,.int 0,.int 0,.int 0,.sl 0 [] true]),.box (.agg [.int l.router,.int l.epoch,.vec 5]),.vec 4 (t4.map Hrd.v) (pureBL_map (fun _=>rfl) t4)]⟩
def hearF_s:Nat→Type
 | 0=>Unit
 | 1=>Int×(List Hrd)
 | 2=>(List Hrd)
 | 3=>(List Hrd)
 | 4=>(List Hrd)
 | _=>Unit
def hearF_e(r:Lsn×Sig×Int):AV:=.tup [Lsn.v r.1,Sig.v r.2.1,.int r.2.2]
def hearF_vc(l:Lsn)(x:Sig)(I1:Unit→(Int×(List Hrd))→Prop)(m1:Unit→(Int×(List Hrd))→Nat)(r0:Lsn×Sig×Int):Prop:=
 Cl (valL_c l)
 (Cl (sigV_c x)
 (Cl (orI_c [valL l,sigErr x])
 (br ((orI [valL l,sigErr x]) != 0)
 (Rp hearF_e ((⟨0,0,[]⟩:Lsn),(⟨0,0,0,0,0,0,0,0,0,[]⟩:Sig),orI [valL l,sigErr x]) r0)
 (br (x.kind==3)
 (Rp hearF_e ((⟨0,0,[]⟩:Lsn),(⟨0,0,0,0,0,0,0,0,0,[]⟩:Sig),1) r0)
 (br (x.dst != l.router)
 (Rp hearF_e ((⟨0,0,[]⟩:Lsn),(⟨0,0,0,0,0,0,0,0,0,[]⟩:Sig),1) r0)
 (∃h1:l.heard.Pairwise fun x y=>x.router<y.router,
 ∃h2:l.heard.length≤1000000,
 Cl (heard_c l x.src h1 h2)
 ((br (!(decide (hitH l.heard x.src)))
 (br (((l.heard.map Hrd.v).length:Int)==12)
 (Rp hearF_e ((⟨0,0,[]⟩:Lsn),(⟨0,0,0,0,0,0,0,0,0,[]⟩:Sig),3) r0)
 (Nf (hearF_n0 l x (())) [0,16,32,48] ((bif (!(decide (hitH l.heard x.src))) then (bif (((l.heard.map Hrd.v).length:Int)==12) then false else true) else true)=true)))
 (Nf (hearF_n0 l x (())) [0,16,32,48] ((bif (!(decide (hitH l.heard x.src))) then (bif (((l.heard.map Hrd.v).length:Int)==12) then false else true) else true)=true)))∧∀t0:Unit,(bif (!(decide (hitH l.heard x.src))) then (bif (((l.heard.map Hrd.v).length:Int)==12) then false else true) else true)=true →
 Be (hearF_n1 l x t0) [0,1,2,3,84,180] (I1 t0) (0,[])∧∀t1,I1 t0 t1 →
 br (decide (t1.1<((l.heard.map Hrd.v).length:Int)))
 (Rf (l.heard.map Hrd.v) (ck (decide (0≤t1.1)) (ck (decide (t1.1<(l.heard.length:Int)))
 (∀x3,l.heard[t1.1.toNat]?=some x3 →
 ∃h4:okItms x3.items,
 Ch (copied_h x3.items 0 h4) [] 118
 (Rf ((without 0 x3.items).map Itm.v) (Rf (α:=List AV) (t1.2.map Hrd.v) (Rf (α:=List AV) [.agg [.int x3.router,.int x3.epoch,.int x3.ver,.sl 4 ((without 0 x3.items).map Itm.v) false]]
 (ck (decide (t1.2.length+1≤1000000))
 (Bk (hearF_n1 l x t0) [0,1,2,3,4,230] (I1 t0) (m1 t0) (W (t1.1+1),t1.2++[(⟨x3.router,x3.epoch,x3.ver,without 0 x3.items⟩:Hrd)]) t1)))))))))
 ((br (!(decide (hitH l.heard x.src)))
 (∃h5:(posH l.heard x.src)≤t1.2.length,
 ∃h6:t1.2.length≤1000000,
 Ch (insH_h t1.2 x.src (posH l.heard x.src) h5 h6) [5,150] 166
 (Nf (hearF_n2 l x t0 t1 (insAt t1.2 (posH l.heard x.src) (⟨x.src,0,0,[]⟩:Hrd))) [0,1,2,3,4,166] (((insAt t1.2 (posH l.heard x.src) (⟨x.src,0,0,[]⟩:Hrd)):(List Hrd))=((bif (!(decide (hitH l.heard x.src))) then (insAt t1.2 (posH l.heard x.src) (⟨x.src,0,0,[]⟩:Hrd)) else (t1.2)):(List Hrd)))))
 (Nf (hearF_n2 l x t0 t1 (t1.2)) [0,1,2,3,4,5] (((t1.2):(List Hrd))=((bif (!(decide (hitH l.heard x.src))) then (insAt t1.2 (posH l.heard x.src) (⟨x.src,0,0,[]⟩:Hrd)) else (t1.2)):(List Hrd)))))∧∀t2:(List Hrd),t2=((bif (!(decide (hitH l.heard x.src))) then (insAt t1.2 (posH l.heard x.src) (⟨x.src,0,0,[]⟩:Hrd)) else (t1.2)):(List Hrd)) →
 ck (cond (decide (0≤(posH l.heard x.src:Int))) (decide ((posH l.heard x.src:Int)<((t2.map Hrd.v).length:Int))) false)
 ((Rf (t2.map Hrd.v) (ck (decide ((posH l.heard x.src:Int).toNat<t2.length))
 (∀x7,t2[(posH l.heard x.src:Int).toNat]?=some x7 →
 br (decide (x7.epoch<x.epoch))
 (Rf (t2.map Hrd.v) (ck (decide ((posH l.heard x.src:Int).toNat<t2.length))
 (∀y8,t2[(posH l.heard x.src:Int).toNat]?=some y8 →
 (Rf (α:=List AV) ((t2.map Hrd.v).set ((posH l.heard x.src:Int).toNat) (.agg [.int x.src,.int x.epoch,.int 0,.sl 0 [] true])) (Rf (Hrd.v (⟨x.src,x.epoch,0,[]⟩:Hrd))
 (Nf (hearF_n3 l x t0 t1 t2 (t2.set ((posH l.heard x.src:Int).toNat) (⟨x.src,x.epoch,0,[]⟩:Hrd))) [0,1,2,3,4,5] ((∃x7':Hrd,t2[(posH l.heard x.src:Int).toNat]?=some x7'∧(decide (x7'.epoch<x.epoch))=true∧∃y8':Hrd,t2[(posH l.heard x.src:Int).toNat]?=some y8'∧((t2.set ((posH l.heard x.src:Int).toNat) (⟨x.src,x.epoch,0,[]⟩:Hrd)):(List Hrd))=((t2.set ((posH l.heard x.src:Int).toNat) (⟨x.src,x.epoch,0,[]⟩:Hrd)):(List Hrd)))∨(∃x7':Hrd,t2[(posH l.heard x.src:Int).toNat]?=some x7'∧(decide (x7'.epoch<x.epoch))=false∧((t2.set ((posH l.heard x.src:Int).toNat) (⟨x.src,x.epoch,0,[]⟩:Hrd)):(List Hrd))=((t2):(List Hrd))))))))))
 (Nf (hearF_n3 l x t0 t1 t2 (t2)) [0,1,2,3,4,5] ((∃x7':Hrd,t2[(posH l.heard x.src:Int).toNat]?=some x7'∧(decide (x7'.epoch<x.epoch))=true∧∃y8':Hrd,t2[(posH l.heard x.src:Int).toNat]?=some y8'∧((t2):(List Hrd))=((t2.set ((posH l.heard x.src:Int).toNat) (⟨x.src,x.epoch,0,[]⟩:Hrd)):(List Hrd)))∨(∃x7':Hrd,t2[(posH l.heard x.src:Int).toNat]?=some x7'∧(decide (x7'.epoch<x.epoch))=false∧((t2):(List Hrd))=((t2):(List Hrd))))))))∧∀t3:(List Hrd),(∃x7':Hrd,t2[(posH l.heard x.src:Int).toNat]?=some x7'∧(decide (x7'.epoch<x.epoch))=true∧∃y8':Hrd,t2[(posH l.heard x.src:Int).toNat]?=some y8'∧t3=((t2.set ((posH l.heard x.src:Int).toNat) (⟨x.src,x.epoch,0,[]⟩:Hrd)):(List Hrd)))∨(∃x7':Hrd,t2[(posH l.heard x.src:Int).toNat]?=some x7'∧(decide (x7'.epoch<x.epoch))=false∧t3=((t2):(List Hrd))) →
 (br (x.kind==2)
 (Rf (t3.map Hrd.v) (ck (decide ((posH l.heard x.src:Int).toNat<t3.length))
 (∀x9,t3[(posH l.heard x.src:Int).toNat]?=some x9 →
 br (x.epoch==x9.epoch)
 (Rf (t3.map Hrd.v) (ck (decide ((posH l.heard x.src:Int).toNat<t3.length))
 (∀x10,t3[(posH l.heard x.src:Int).toNat]?=some x10 →
 br (decide (x.prev≤x10.ver))
 (Rf (t3.map Hrd.v) (ck (decide ((posH l.heard x.src:Int).toNat<t3.length))
 (∀x11,t3[(posH l.heard x.src:Int).toNat]?=some x11 →
 br (decide (x11.ver<x.ver))
 (Rf (t3.map Hrd.v) (ck (decide ((posH l.heard x.src:Int).toNat<t3.length))
 (∀x12,t3[(posH l.heard x.src:Int).toNat]?=some x12 →
 ∃h13:okItms x12.items,
 Ch (copied_h x12.items x.grp h13) [] 598
 (∃h14:(⟨x.mode,x.srcs⟩:Flt).srcs.length≤1000000,
 Cl (filtered_c (⟨x.mode,x.srcs⟩:Flt) h14)
 (Rf (α:=List AV) ((without x.grp x12.items).map Itm.v) (Rf (α:=List AV) [.agg [.int x.ver,.int x.grp,.int x.mode,.sl 1 (x.srcs.map AV.int) false]]
 (ck (decide ((without x.grp x12.items).length+1≤1000000))
 (Rf (t3.map Hrd.v) (ck (decide ((posH l.heard x.src:Int).toNat<t3.length))
 (∀y15,t3[(posH l.heard x.src:Int).toNat]?=some y15 →
 (Rf (α:=List AV) (((without x.grp x12.items)++[(⟨x.ver,x.grp,x.mode,x.srcs⟩:Itm)]).map Itm.v) (Rf (α:=List AV) ((t3.map Hrd.v).set ((posH l.heard x.src:Int).toNat) (.agg [.int y15.router,.int y15.epoch,.int y15.ver,.vec 758])) (Rf (Hrd.v (⟨y15.router,y15.epoch,y15.ver,(without x.grp x12.items)++[(⟨x.ver,x.grp,x.mode,x.srcs⟩:Itm)]⟩:Hrd))
 (Rf ((t3.set ((posH l.heard x.src:Int).toNat) (⟨y15.router,y15.epoch,y15.ver,(without x.grp x12.items)++[(⟨x.ver,x.grp,x.mode,x.srcs⟩:Itm)]⟩:Hrd)).map Hrd.v) (ck (decide ((posH l.heard x.src:Int).toNat<(t3.set ((posH l.heard x.src:Int).toNat) (⟨y15.router,y15.epoch,y15.ver,(without x.grp x12.items)++[(⟨x.ver,x.grp,x.mode,x.srcs⟩:Itm)]⟩:Hrd)).length))
 (∀y16,(t3.set ((posH l.heard x.src:Int).toNat) (⟨y15.router,y15.epoch,y15.ver,(without x.grp x12.items)++[(⟨x.ver,x.grp,x.mode,x.srcs⟩:Itm)]⟩:Hrd))[(posH l.heard x.src:Int).toNat]?=some y16→Rf (Hrd.v (⟨y16.router,y16.epoch,x.ver,y16.items⟩:Hrd))
 (Nf (hearF_n4 l x t0 t1 t2 t3 ((t3.set ((posH l.heard x.src:Int).toNat) (⟨y15.router,y15.epoch,y15.ver,(without x.grp x12.items)++[(⟨x.ver,x.grp,x.mode,x.srcs⟩:Itm)]⟩:Hrd)).set ((posH l.heard x.src:Int).toNat) (⟨y16.router,y16.epoch,x.ver,y16.items⟩:Hrd))) [0,1,2,3,4,5] (((x.kind==2)=true∧∃x9':Hrd,t3[(posH l.heard x.src:Int).toNat]?=some x9'∧(x.epoch==x9'.epoch)=true∧∃x10':Hrd,t3[(posH l.heard x.src:Int).toNat]?=some x10'∧(decide (x.prev≤x10'.ver))=true∧∃x11':Hrd,t3[(posH l.heard x.src:Int).toNat]?=some x11'∧(decide (x11'.ver<x.ver))=true∧∃x12':Hrd,t3[(posH l.heard x.src:Int).toNat]?=some x12'∧∃y15':Hrd,t3[(posH l.heard x.src:Int).toNat]?=some y15'∧∃y16':Hrd,(t3.set ((posH l.heard x.src:Int).toNat) (⟨y15'.router,y15'.epoch,y15'.ver,(without x.grp x12'.items)++[(⟨x.ver,x.grp,x.mode,x.srcs⟩:Itm)]⟩:Hrd))[(posH l.heard x.src:Int).toNat]?=some y16'∧(((t3.set ((posH l.heard x.src:Int).toNat) (⟨y15.router,y15.epoch,y15.ver,(without x.grp x12.items)++[(⟨x.ver,x.grp,x.mode,x.srcs⟩:Itm)]⟩:Hrd)).set ((posH l.heard x.src:Int).toNat) (⟨y16.router,y16.epoch,x.ver,y16.items⟩:Hrd)):(List Hrd))=(((t3.set ((posH l.heard x.src:Int).toNat) (⟨y15'.router,y15'.epoch,y15'.ver,(without x.grp x12'.items)++[(⟨x.ver,x.grp,x.mode,x.srcs⟩:Itm)]⟩:Hrd)).set ((posH l.heard x.src:Int).toNat) (⟨y16'.router,y16'.epoch,x.ver,y16'.items⟩:Hrd)):(List Hrd)))∨((x.kind==2)=true∧∃x9':Hrd,t3[(posH l.heard x.src:Int).toNat]?=some x9'∧(x.epoch==x9'.epoch)=true∧∃x10':Hrd,t3[(posH l.heard x.src:Int).toNat]?=some x10'∧(decide (x.prev≤x10'.ver))=true∧∃x11':Hrd,t3[(posH l.heard x.src:Int).toNat]?=some x11'∧(decide (x11'.ver<x.ver))=false∧(((t3.set ((posH l.heard x.src:Int).toNat) (⟨y15.router,y15.epoch,y15.ver,(without x.grp x12.items)++[(⟨x.ver,x.grp,x.mode,x.srcs⟩:Itm)]⟩:Hrd)).set ((posH l.heard x.src:Int).toNat) (⟨y16.router,y16.epoch,x.ver,y16.items⟩:Hrd)):(List Hrd))=((t3):(List Hrd)))∨((x.kind==2)=true∧∃x9':Hrd,t3[(posH l.heard x.src:Int).toNat]?=some x9'∧(x.epoch==x9'.epoch)=true∧∃x10':Hrd,t3[(posH l.heard x.src:Int).toNat]?=some x10'∧(decide (x.prev≤x10'.ver))=false∧(((t3.set ((posH l.heard x.src:Int).toNat) (⟨y15.router,y15.epoch,y15.ver,(without x.grp x12.items)++[(⟨x.ver,x.grp,x.mode,x.srcs⟩:Itm)]⟩:Hrd)).set ((posH l.heard x.src:Int).toNat) (⟨y16.router,y16.epoch,x.ver,y16.items⟩:Hrd)):(List Hrd))=((t3):(List Hrd)))∨((x.kind==2)=true∧∃x9':Hrd,t3[(posH l.heard x.src:Int).toNat]?=some x9'∧(x.epoch==x9'.epoch)=false∧(((t3.set ((posH l.heard x.src:Int).toNat) (⟨y15.router,y15.epoch,y15.ver,(without x.grp x12.items)++[(⟨x.ver,x.grp,x.mode,x.srcs⟩:Itm)]⟩:Hrd)).set ((posH l.heard x.src:Int).toNat) (⟨y16.router,y16.epoch,x.ver,y16.items⟩:Hrd)):(List Hrd))=((t3):(List Hrd)))∨((x.kind==2)=false∧(((t3.set ((posH l.heard x.src:Int).toNat) (⟨y15.router,y15.epoch,y15.ver,(without x.grp x12.items)++[(⟨x.ver,x.grp,x.mode,x.srcs⟩:Itm)]⟩:Hrd)).set ((posH l.heard x.src:Int).toNat) (⟨y16.router,y16.epoch,x.ver,y16.items⟩:Hrd)):(List Hrd))=((t3):(List Hrd)))))))))))))))))))))
 (Nf (hearF_n4 l x t0 t1 t2 t3 (t3)) [0,1,2,3,4,5] (((x.kind==2)=true∧∃x9':Hrd,t3[(posH l.heard x.src:Int).toNat]?=some x9'∧(x.epoch==x9'.epoch)=true∧∃x10':Hrd,t3[(posH l.heard x.src:Int).toNat]?=some x10'∧(decide (x.prev≤x10'.ver))=true∧∃x11':Hrd,t3[(posH l.heard x.src:Int).toNat]?=some x11'∧(decide (x11'.ver<x.ver))=true∧∃x12':Hrd,t3[(posH l.heard x.src:Int).toNat]?=some x12'∧∃y15':Hrd,t3[(posH l.heard x.src:Int).toNat]?=some y15'∧∃y16':Hrd,(t3.set ((posH l.heard x.src:Int).toNat) (⟨y15'.router,y15'.epoch,y15'.ver,(without x.grp x12'.items)++[(⟨x.ver,x.grp,x.mode,x.srcs⟩:Itm)]⟩:Hrd))[(posH l.heard x.src:Int).toNat]?=some y16'∧((t3):(List Hrd))=(((t3.set ((posH l.heard x.src:Int).toNat) (⟨y15'.router,y15'.epoch,y15'.ver,(without x.grp x12'.items)++[(⟨x.ver,x.grp,x.mode,x.srcs⟩:Itm)]⟩:Hrd)).set ((posH l.heard x.src:Int).toNat) (⟨y16'.router,y16'.epoch,x.ver,y16'.items⟩:Hrd)):(List Hrd)))∨((x.kind==2)=true∧∃x9':Hrd,t3[(posH l.heard x.src:Int).toNat]?=some x9'∧(x.epoch==x9'.epoch)=true∧∃x10':Hrd,t3[(posH l.heard x.src:Int).toNat]?=some x10'∧(decide (x.prev≤x10'.ver))=true∧∃x11':Hrd,t3[(posH l.heard x.src:Int).toNat]?=some x11'∧(decide (x11'.ver<x.ver))=false∧((t3):(List Hrd))=((t3):(List Hrd)))∨((x.kind==2)=true∧∃x9':Hrd,t3[(posH l.heard x.src:Int).toNat]?=some x9'∧(x.epoch==x9'.epoch)=true∧∃x10':Hrd,t3[(posH l.heard x.src:Int).toNat]?=some x10'∧(decide (x.prev≤x10'.ver))=false∧((t3):(List Hrd))=((t3):(List Hrd)))∨((x.kind==2)=true∧∃x9':Hrd,t3[(posH l.heard x.src:Int).toNat]?=some x9'∧(x.epoch==x9'.epoch)=false∧((t3):(List Hrd))=((t3):(List Hrd)))∨((x.kind==2)=false∧((t3):(List Hrd))=((t3):(List Hrd))))))))
 (Nf (hearF_n4 l x t0 t1 t2 t3 (t3)) [0,1,2,3,4,5] (((x.kind==2)=true∧∃x9':Hrd,t3[(posH l.heard x.src:Int).toNat]?=some x9'∧(x.epoch==x9'.epoch)=true∧∃x10':Hrd,t3[(posH l.heard x.src:Int).toNat]?=some x10'∧(decide (x.prev≤x10'.ver))=true∧∃x11':Hrd,t3[(posH l.heard x.src:Int).toNat]?=some x11'∧(decide (x11'.ver<x.ver))=true∧∃x12':Hrd,t3[(posH l.heard x.src:Int).toNat]?=some x12'∧∃y15':Hrd,t3[(posH l.heard x.src:Int).toNat]?=some y15'∧∃y16':Hrd,(t3.set ((posH l.heard x.src:Int).toNat) (⟨y15'.router,y15'.epoch,y15'.ver,(without x.grp x12'.items)++[(⟨x.ver,x.grp,x.mode,x.srcs⟩:Itm)]⟩:Hrd))[(posH l.heard x.src:Int).toNat]?=some y16'∧((t3):(List Hrd))=(((t3.set ((posH l.heard x.src:Int).toNat) (⟨y15'.router,y15'.epoch,y15'.ver,(without x.grp x12'.items)++[(⟨x.ver,x.grp,x.mode,x.srcs⟩:Itm)]⟩:Hrd)).set ((posH l.heard x.src:Int).toNat) (⟨y16'.router,y16'.epoch,x.ver,y16'.items⟩:Hrd)):(List Hrd)))∨((x.kind==2)=true∧∃x9':Hrd,t3[(posH l.heard x.src:Int).toNat]?=some x9'∧(x.epoch==x9'.epoch)=true∧∃x10':Hrd,t3[(posH l.heard x.src:Int).toNat]?=some x10'∧(decide (x.prev≤x10'.ver))=true∧∃x11':Hrd,t3[(posH l.heard x.src:Int).toNat]?=some x11'∧(decide (x11'.ver<x.ver))=false∧((t3):(List Hrd))=((t3):(List Hrd)))∨((x.kind==2)=true∧∃x9':Hrd,t3[(posH l.heard x.src:Int).toNat]?=some x9'∧(x.epoch==x9'.epoch)=true∧∃x10':Hrd,t3[(posH l.heard x.src:Int).toNat]?=some x10'∧(decide (x.prev≤x10'.ver))=false∧((t3):(List Hrd))=((t3):(List Hrd)))∨((x.kind==2)=true∧∃x9':Hrd,t3[(posH l.heard x.src:Int).toNat]?=some x9'∧(x.epoch==x9'.epoch)=false∧((t3):(List Hrd))=((t3):(List Hrd)))∨((x.kind==2)=false∧((t3):(List Hrd))=((t3):(List Hrd))))))))
 (Nf (hearF_n4 l x t0 t1 t2 t3 (t3)) [0,1,2,3,4,5] (((x.kind==2)=true∧∃x9':Hrd,t3[(posH l.heard x.src:Int).toNat]?=some x9'∧(x.epoch==x9'.epoch)=true∧∃x10':Hrd,t3[(posH l.heard x.src:Int).toNat]?=some x10'∧(decide (x.prev≤x10'.ver))=true∧∃x11':Hrd,t3[(posH l.heard x.src:Int).toNat]?=some x11'∧(decide (x11'.ver<x.ver))=true∧∃x12':Hrd,t3[(posH l.heard x.src:Int).toNat]?=some x12'∧∃y15':Hrd,t3[(posH l.heard x.src:Int).toNat]?=some y15'∧∃y16':Hrd,(t3.set ((posH l.heard x.src:Int).toNat) (⟨y15'.router,y15'.epoch,y15'.ver,(without x.grp x12'.items)++[(⟨x.ver,x.grp,x.mode,x.srcs⟩:Itm)]⟩:Hrd))[(posH l.heard x.src:Int).toNat]?=some y16'∧((t3):(List Hrd))=(((t3.set ((posH l.heard x.src:Int).toNat) (⟨y15'.router,y15'.epoch,y15'.ver,(without x.grp x12'.items)++[(⟨x.ver,x.grp,x.mode,x.srcs⟩:Itm)]⟩:Hrd)).set ((posH l.heard x.src:Int).toNat) (⟨y16'.router,y16'.epoch,x.ver,y16'.items⟩:Hrd)):(List Hrd)))∨((x.kind==2)=true∧∃x9':Hrd,t3[(posH l.heard x.src:Int).toNat]?=some x9'∧(x.epoch==x9'.epoch)=true∧∃x10':Hrd,t3[(posH l.heard x.src:Int).toNat]?=some x10'∧(decide (x.prev≤x10'.ver))=true∧∃x11':Hrd,t3[(posH l.heard x.src:Int).toNat]?=some x11'∧(decide (x11'.ver<x.ver))=false∧((t3):(List Hrd))=((t3):(List Hrd)))∨((x.kind==2)=true∧∃x9':Hrd,t3[(posH l.heard x.src:Int).toNat]?=some x9'∧(x.epoch==x9'.epoch)=true∧∃x10':Hrd,t3[(posH l.heard x.src:Int).toNat]?=some x10'∧(decide (x.prev≤x10'.ver))=false∧((t3):(List Hrd))=((t3):(List Hrd)))∨((x.kind==2)=true∧∃x9':Hrd,t3[(posH l.heard x.src:Int).toNat]?=some x9'∧(x.epoch==x9'.epoch)=false∧((t3):(List Hrd))=((t3):(List Hrd)))∨((x.kind==2)=false∧((t3):(List Hrd))=((t3):(List Hrd))))))))
 (Nf (hearF_n4 l x t0 t1 t2 t3 (t3)) [0,1,2,3,4,5] (((x.kind==2)=true∧∃x9':Hrd,t3[(posH l.heard x.src:Int).toNat]?=some x9'∧(x.epoch==x9'.epoch)=true∧∃x10':Hrd,t3[(posH l.heard x.src:Int).toNat]?=some x10'∧(decide (x.prev≤x10'.ver))=true∧∃x11':Hrd,t3[(posH l.heard x.src:Int).toNat]?=some x11'∧(decide (x11'.ver<x.ver))=true∧∃x12':Hrd,t3[(posH l.heard x.src:Int).toNat]?=some x12'∧∃y15':Hrd,t3[(posH l.heard x.src:Int).toNat]?=some y15'∧∃y16':Hrd,(t3.set ((posH l.heard x.src:Int).toNat) (⟨y15'.router,y15'.epoch,y15'.ver,(without x.grp x12'.items)++[(⟨x.ver,x.grp,x.mode,x.srcs⟩:Itm)]⟩:Hrd))[(posH l.heard x.src:Int).toNat]?=some y16'∧((t3):(List Hrd))=(((t3.set ((posH l.heard x.src:Int).toNat) (⟨y15'.router,y15'.epoch,y15'.ver,(without x.grp x12'.items)++[(⟨x.ver,x.grp,x.mode,x.srcs⟩:Itm)]⟩:Hrd)).set ((posH l.heard x.src:Int).toNat) (⟨y16'.router,y16'.epoch,x.ver,y16'.items⟩:Hrd)):(List Hrd)))∨((x.kind==2)=true∧∃x9':Hrd,t3[(posH l.heard x.src:Int).toNat]?=some x9'∧(x.epoch==x9'.epoch)=true∧∃x10':Hrd,t3[(posH l.heard x.src:Int).toNat]?=some x10'∧(decide (x.prev≤x10'.ver))=true∧∃x11':Hrd,t3[(posH l.heard x.src:Int).toNat]?=some x11'∧(decide (x11'.ver<x.ver))=false∧((t3):(List Hrd))=((t3):(List Hrd)))∨((x.kind==2)=true∧∃x9':Hrd,t3[(posH l.heard x.src:Int).toNat]?=some x9'∧(x.epoch==x9'.epoch)=true∧∃x10':Hrd,t3[(posH l.heard x.src:Int).toNat]?=some x10'∧(decide (x.prev≤x10'.ver))=false∧((t3):(List Hrd))=((t3):(List Hrd)))∨((x.kind==2)=true∧∃x9':Hrd,t3[(posH l.heard x.src:Int).toNat]?=some x9'∧(x.epoch==x9'.epoch)=false∧((t3):(List Hrd))=((t3):(List Hrd)))∨((x.kind==2)=false∧((t3):(List Hrd))=((t3):(List Hrd))))))∧∀t4:(List Hrd),((x.kind==2)=true∧∃x9':Hrd,t3[(posH l.heard x.src:Int).toNat]?=some x9'∧(x.epoch==x9'.epoch)=true∧∃x10':Hrd,t3[(posH l.heard x.src:Int).toNat]?=some x10'∧(decide (x.prev≤x10'.ver))=true∧∃x11':Hrd,t3[(posH l.heard x.src:Int).toNat]?=some x11'∧(decide (x11'.ver<x.ver))=true∧∃x12':Hrd,t3[(posH l.heard x.src:Int).toNat]?=some x12'∧∃y15':Hrd,t3[(posH l.heard x.src:Int).toNat]?=some y15'∧∃y16':Hrd,(t3.set ((posH l.heard x.src:Int).toNat) (⟨y15'.router,y15'.epoch,y15'.ver,(without x.grp x12'.items)++[(⟨x.ver,x.grp,x.mode,x.srcs⟩:Itm)]⟩:Hrd))[(posH l.heard x.src:Int).toNat]?=some y16'∧t4=(((t3.set ((posH l.heard x.src:Int).toNat) (⟨y15'.router,y15'.epoch,y15'.ver,(without x.grp x12'.items)++[(⟨x.ver,x.grp,x.mode,x.srcs⟩:Itm)]⟩:Hrd)).set ((posH l.heard x.src:Int).toNat) (⟨y16'.router,y16'.epoch,x.ver,y16'.items⟩:Hrd)):(List Hrd)))∨((x.kind==2)=true∧∃x9':Hrd,t3[(posH l.heard x.src:Int).toNat]?=some x9'∧(x.epoch==x9'.epoch)=true∧∃x10':Hrd,t3[(posH l.heard x.src:Int).toNat]?=some x10'∧(decide (x.prev≤x10'.ver))=true∧∃x11':Hrd,t3[(posH l.heard x.src:Int).toNat]?=some x11'∧(decide (x11'.ver<x.ver))=false∧t4=((t3):(List Hrd)))∨((x.kind==2)=true∧∃x9':Hrd,t3[(posH l.heard x.src:Int).toNat]?=some x9'∧(x.epoch==x9'.epoch)=true∧∃x10':Hrd,t3[(posH l.heard x.src:Int).toNat]?=some x10'∧(decide (x.prev≤x10'.ver))=false∧t4=((t3):(List Hrd)))∨((x.kind==2)=true∧∃x9':Hrd,t3[(posH l.heard x.src:Int).toNat]?=some x9'∧(x.epoch==x9'.epoch)=false∧t4=((t3):(List Hrd)))∨((x.kind==2)=false∧t4=((t3):(List Hrd))) →
 Rf (t4.map Hrd.v) (ck (decide ((posH l.heard x.src:Int).toNat<t4.length))
 (∀x17,t4[(posH l.heard x.src:Int).toNat]?=some x17 →
 Rf (t4.map Hrd.v) (ck (decide ((posH l.heard x.src:Int).toNat<t4.length))
 (∀x18,t4[(posH l.heard x.src:Int).toNat]?=some x18 →
 Rf (t4.map Hrd.v) (Rp hearF_e ((⟨l.router,l.epoch,t4⟩:Lsn),(⟨3,l.router,x.src,x17.epoch,x18.ver,0,l.epoch,0,0,[]⟩:Sig),0) r0))))))))))))))
theorem hearF_p(l:Lsn)(x:Sig)(ok:hearF_a l x):∃I m,hearF_vc l x I m ((hear l x).1.1,(hear l x).1.2,(hear l x).2):=by
 simp only [hearF_a,okU,Blk.ok,plainV,List.length_map] at ok
 refine ⟨fun _ t=>∃k:Nat,t=((k:Int),l.heard.take k)∧k≤l.heard.length,fun _ t=>l.heard.length-t.1.toNat,?_⟩
 simp only [hearF_vc,vcU,rfU,List.length_map]
 rw [orI_two]
 by_cases hs:lsnOk l
 case neg=>simp [hear,valL,errIf,hs,lsn0,sig0]
 rw [show valL l=0 from errIf_pos hs,if_neg (by simp)]
 by_cases hx:sigErr x=0
 case neg=>simp [hear,hs,hx,lsn0,sig0]
 refine ⟨fun e=>by simp [hx] at e,fun _=>⟨fun e=>?_,fun e1=>⟨fun e=>?_,fun e2=>?_⟩⟩⟩
 ·have e:x.kind=3:=by simpa using e
  rw [hear,if_neg (not_not_intro hs),if_neg (not_not_intro hx),if_pos (.inl e)];rfl
 ·have e:x.dst≠l.router:=by simpa using e
  rw [hear,if_neg (not_not_intro hs),if_neg (not_not_intro hx),if_pos (.inr e)];rfl
 have e1:x.kind≠3:=by simpa using e1
 have e2:x.dst=l.router:=by simpa using e2
 have hlen:=hs.2.2.1
 have hear1_:hear l x=if ¬hitH l.heard x.src∧l.heard.length=12 then ((lsn0,sig0),3)
   else ((⟨l.router,l.epoch,(base l.heard x.src).set (posH l.heard x.src) (hearH l.heard x)⟩,⟨3,l.router,x.src,(hearH l.heard x).epoch,(hearH l.heard x).ver,0,l.epoch,0,0,[]⟩),0):=by
  rw [hear,if_neg (not_not_intro hs),if_neg (not_not_intro hx),if_neg (by rintro (h|h);exact e1 h;exact h e2)]
 refine ⟨hs.2.2.2.2,by omega,⟨fun a=>⟨fun b=>?_,fun b=>by simp [a,b]⟩,fun a=>by simp [a]⟩,?_⟩
 ·have a:¬hitH l.heard x.src:=by simpa using a
  have b:l.heard.length=12:=by simp at b;omega
  rw [hear1_,if_pos ⟨a,b⟩];rfl
 rintro _ hc
 have hc:¬(¬hitH l.heard x.src∧l.heard.length=12):=by
  rintro ⟨a,b⟩
  simp [a,b] at hc
 refine ⟨⟨0,by simp,by omega⟩,?_⟩
 rintro _ ⟨k,rfl,hk⟩
 refine ⟨fun h1=>⟨by omega,by omega,fun y hy=>?_⟩,fun h1=>?_⟩
 ·simp only [Int.toNat_natCast] at hy ⊢
  have hi:=(hs.2.2.2.1 y (mem_of_get hy)).2.2.2.2
  refine ⟨okItms_of hi,by simp;omega,?_⟩
  rw [W_succ (n:=l.heard.length) (by omega) (by omega),without_zero hi]
  exact ⟨⟨k+1,by rw [take_succ hy],by omega⟩,by simp;omega⟩
 rw [List.take_of_length_le (by omega)]
 have hb:(bif !decide (hitH l.heard x.src) then insAt l.heard (posH l.heard x.src) (⟨x.src,0,0,[]⟩:Hrd) else l.heard)=base l.heard x.src:=by
  by_cases a:hitH l.heard x.src<;>simp [base,a]
 have hpl:posH l.heard x.src≤l.heard.length:=List.findIdx_le_length
 simp only [hb,Int.toNat_natCast]
 refine ⟨⟨fun a=>⟨hpl,by omega,?_⟩,fun a=>?_⟩,?_⟩
 ·have a:¬hitH l.heard x.src:=by simpa using a
  rw [base,if_neg a]
 ·have a:hitH l.heard x.src:=by simpa using a
  rw [base,if_pos a]
 rintro _ rfl
 have hp:posH l.heard x.src<(base l.heard x.src).length:=by
  by_cases a:hitH l.heard x.src
  ·rw [base,if_pos a];exact a.1
  ·rw [base,if_neg a];simp [insAt];omega
 have fin:=hear1_
 rw [if_neg hc] at fin
 clear hear1_
 have hbi:∀h∈base l.heard x.src,okItms h.items:=by
  intro h hh
  by_cases a:hitH l.heard x.src
  ·rw [base,if_pos a] at hh
   exact okItms_of (hs.2.2.2.1 h hh).2.2.2.2
  ·rw [base,if_neg a,insAt] at hh
   simp only [List.append_assoc,List.mem_append,List.mem_singleton] at hh
   rcases hh with hh|rfl|hh
   ·exact okItms_of (hs.2.2.2.1 h (List.mem_of_mem_take hh)).2.2.2.2
   ·exact ⟨by simp,by simp⟩
   ·exact okItms_of (hs.2.2.2.1 h (List.mem_of_mem_drop hh)).2.2.2.2
 rw [hearH] at fin
 generalize base l.heard x.src=B at *
 generalize posH l.heard x.src=p at *
 obtain ⟨g,hg⟩:∃g,B[p]?=some g:=⟨B[p],List.getElem?_eq_getElem hp⟩
 have hgi:=hbi g (mem_of_get hg)
 rw [getD_some hg] at fin
 simp only [hg,Option.some.injEq,forall_eq',exists_eq_left',and_true,exists_const,forall_const]
 refine ⟨by simp;omega,⟨hp,fun a=>⟨hp,?_⟩,fun a=>?_⟩,?_⟩
 ·exact .inl ⟨a,g,rfl⟩
 ·exact .inr a
 intro t3 h3
 have h3:t3=B.set p (hear0 g x):=by
  rcases h3 with ⟨a,_,_,rfl⟩|⟨a,rfl⟩
  ·rw [hear0,if_pos a]
  ·rw [hear0,if_neg a,set_same hg]
 subst h3
 have h0i:okItms (hear0 g x).items:=by
  rw [hear0];split
  ·exact ⟨by simp,by simp⟩
  ·exact hgi
 clear h1 hb hbi hk
 generalize hear0 g x=h0 at *
 have hgS:∀y,(B.set p y)[p]?=some y:=fun y=>List.getElem?_set_self hp
 simp only [hgS,List.set_set,List.length_set,Option.some.injEq,forall_eq',exists_eq_left',and_true,exists_const,forall_const]
 have hln:∀g,(Go.Proofs.YtgnogboljobocaaGreatDoor.without g h0.items).length≤900000:=fun g=>Nat.le_trans (List.length_filter_le _ _) h0i.1
 have hsl:x.kind=2→x.srcs.length≤1000000:=fun K=>by
  have:=(sig_told hx e1).2.2 K
  have:=srcs_len this.2.2
  omega
 have hd:hear1 h0 x=if (x.kind==2)=true∧(x.epoch==h0.epoch)=true∧x.prev≤h0.ver∧h0.ver<x.ver then ⟨h0.router,h0.epoch,x.ver,put1 h0.items (sigItm x)⟩ else h0:=by
  rw [hear1];simp only [beq_iff_eq]
 rw [hd] at fin
 rw [fin]
 have hw:=hln x.grp
 have hsl:(x.kind==2)=true→x.srcs.length≤1000000:=fun K=>hsl (by simpa using K)
 clear fin hd hg hgi h3 hc hs
 cases kb:x.kind==2
 ·simp [hp]
 cases eb:x.epoch==h0.epoch
 ·simp [hp]
 by_cases P:x.prev≤h0.ver
 ·by_cases V:h0.ver<x.ver
  ·simp [hp,P,V,h0i,hsl kb,put1,sigItm]
   omega
  ·simp [hp,P,V]
 ·simp [hp,P]
def hear_c(l:Lsn)(x:Sig):PC Tryz.prog:=⟨53,[(.a [.k,.k,(.s 4)]),(.a [.k,.k,.k,.k,.k,.k,.k,.k,.k,(.s 1)])],[.agg [.int l.router,.int l.epoch,.sl 4 (l.heard.map Hrd.v) false],.agg [.int x.kind,.int x.src,.int x.dst,.int x.epoch,.int x.ver,.int x.prev,.int x.pep,.int x.grp,.int x.mode,.sl 1 (x.srcs.map AV.int) false]],hearF_e ((hear l x).1.1,(hear l x).1.2,(hear l x).2),PSpec.of_ok fun ok=>(hearF_p l x ok).elim fun I1 h=>h.elim fun m1 h=>mxP_of (sh:=(.a [(.a [.k,.k,(.s 4)]),(.a [.k,.k,.k,.k,.k,.k,.k,.k,.k,(.s 1)]),.k])) (enc:=hearF_e) (a:=((.callP (valL_c l)
 (.callP (sigV_c x)
 (.callP (orI_c [valL l,sigErr x])
 (.br 224 (.ret ((⟨0,0,[]⟩:Lsn),(⟨0,0,0,0,0,0,0,0,0,[]⟩:Sig),orI [valL l,sigErr x]))
 (.br 288 (.ret ((⟨0,0,[]⟩:Lsn),(⟨0,0,0,0,0,0,0,0,0,[]⟩:Sig),1))
 (.br 384 (.ret ((⟨0,0,[]⟩:Lsn),(⟨0,0,0,0,0,0,0,0,0,[]⟩:Sig),1))
 (.req 432 (l.heard.Pairwise fun x y=>x.router<y.router) fun h1 =>
 (.req 432 (l.heard.length≤1000000) fun h2 =>
 (.callP (heard_c l x.src h1 h2)
 (.join 0 (hearF_n0 l x) (fun t0=>(bif (!(decide (hitH l.heard x.src))) then (bif (((l.heard.map Hrd.v).length:Int)==12) then false else true) else true)=true) (.br 576 (.br 656 (.ret ((⟨0,0,[]⟩:Lsn),(⟨0,0,0,0,0,0,0,0,0,[]⟩:Sig),3))
 (.back 0 ((()):Unit) [0,16,32,48]))
 (.back 0 ((()):Unit) [0,16,32,48])) fun (t0:Unit) =>
 (.cmdL (.nilB 84 2 4) (.loop 1 (hearF_n1 l x t0) (I1 t0) (m1 t0) ((0,[]):Int×(List Hrd)) [0,1,2,3,84,180] fun (t1:Int×(List Hrd)) =>
 (.br 22 (.el 22 Hrd.v l.heard fun x3 =>
 (.req 118 (okItms x3.items) fun h4 =>
 (.callH [] (copied_h x3.items 0 h4)
 (.cmd (.frzE 118 ((without 0 x3.items).map Itm.v) (pureBL_map (fun _=>rfl) (without 0 x3.items))) (.app 230 Hrd.v t1.2 [(⟨x3.router,x3.epoch,x3.ver,without 0 x3.items⟩:Hrd)]
 (.back 1 ((W (t1.1+1),t1.2++[(⟨x3.router,x3.epoch,x3.ver,without 0 x3.items⟩:Hrd)]):Int×(List Hrd)) [0,1,2,3,4,230]))))))
 (.join 2 (hearF_n2 l x t0 t1) (fun t2=>t2=((bif (!(decide (hitH l.heard x.src))) then (insAt t1.2 (posH l.heard x.src) (⟨x.src,0,0,[]⟩:Hrd)) else (t1.2)):(List Hrd))) (.br 54 (.own 150 (.req 166 ((posH l.heard x.src)≤t1.2.length) fun h5 =>
 (.req 166 (t1.2.length≤1000000) fun h6 =>
 (.callH [5,150] (insH_h t1.2 x.src (posH l.heard x.src) h5 h6)
 (.back 2 ((insAt t1.2 (posH l.heard x.src) (⟨x.src,0,0,[]⟩:Hrd)):(List Hrd)) [0,1,2,3,4,166])))))
 (.back 2 ((t1.2):(List Hrd)) [0,1,2,3,4,5])) fun (t2:(List Hrd)) =>
 (.pass (.join 3 (hearF_n3 l x t0 t1 t2) (fun t3=>(∃x7':Hrd,t2[(posH l.heard x.src:Int).toNat]?=some x7'∧(decide (x7'.epoch<x.epoch))=true∧∃y8':Hrd,t2[(posH l.heard x.src:Int).toNat]?=some y8'∧t3=((t2.set ((posH l.heard x.src:Int).toNat) (⟨x.src,x.epoch,0,[]⟩:Hrd)):(List Hrd)))∨(∃x7':Hrd,t2[(posH l.heard x.src:Int).toNat]?=some x7'∧(decide (x7'.epoch<x.epoch))=false∧t3=((t2):(List Hrd)))) (.el 166 Hrd.v t2 fun x7 =>
 (.br 198 (.stI 310 Hrd.v t2 fun y8 =>
 (.cmd (.wkS 5 ((posH l.heard x.src:Int).toNat) (.a [.k,.k,.k,(.s 4)]) Hrd.v t2 (.agg [.int x.src,.int x.epoch,.int 0,.sl 0 [] true]) (⟨x.src,x.epoch,0,[]⟩:Hrd)) (.back 3 ((t2.set ((posH l.heard x.src:Int).toNat) (⟨x.src,x.epoch,0,[]⟩:Hrd)):(List Hrd)) [0,1,2,3,4,5])))
 (.back 3 ((t2):(List Hrd)) [0,1,2,3,4,5]))) fun (t3:(List Hrd)) =>
 (.join 4 (hearF_n4 l x t0 t1 t2 t3) (fun t4=>((x.kind==2)=true∧∃x9':Hrd,t3[(posH l.heard x.src:Int).toNat]?=some x9'∧(x.epoch==x9'.epoch)=true∧∃x10':Hrd,t3[(posH l.heard x.src:Int).toNat]?=some x10'∧(decide (x.prev≤x10'.ver))=true∧∃x11':Hrd,t3[(posH l.heard x.src:Int).toNat]?=some x11'∧(decide (x11'.ver<x.ver))=true∧∃x12':Hrd,t3[(posH l.heard x.src:Int).toNat]?=some x12'∧∃y15':Hrd,t3[(posH l.heard x.src:Int).toNat]?=some y15'∧∃y16':Hrd,(t3.set ((posH l.heard x.src:Int).toNat) (⟨y15'.router,y15'.epoch,y15'.ver,(without x.grp x12'.items)++[(⟨x.ver,x.grp,x.mode,x.srcs⟩:Itm)]⟩:Hrd))[(posH l.heard x.src:Int).toNat]?=some y16'∧t4=(((t3.set ((posH l.heard x.src:Int).toNat) (⟨y15'.router,y15'.epoch,y15'.ver,(without x.grp x12'.items)++[(⟨x.ver,x.grp,x.mode,x.srcs⟩:Itm)]⟩:Hrd)).set ((posH l.heard x.src:Int).toNat) (⟨y16'.router,y16'.epoch,x.ver,y16'.items⟩:Hrd)):(List Hrd)))∨((x.kind==2)=true∧∃x9':Hrd,t3[(posH l.heard x.src:Int).toNat]?=some x9'∧(x.epoch==x9'.epoch)=true∧∃x10':Hrd,t3[(posH l.heard x.src:Int).toNat]?=some x10'∧(decide (x.prev≤x10'.ver))=true∧∃x11':Hrd,t3[(posH l.heard x.src:Int).toNat]?=some x11'∧(decide (x11'.ver<x.ver))=false∧t4=((t3):(List Hrd)))∨((x.kind==2)=true∧∃x9':Hrd,t3[(posH l.heard x.src:Int).toNat]?=some x9'∧(x.epoch==x9'.epoch)=true∧∃x10':Hrd,t3[(posH l.heard x.src:Int).toNat]?=some x10'∧(decide (x.prev≤x10'.ver))=false∧t4=((t3):(List Hrd)))∨((x.kind==2)=true∧∃x9':Hrd,t3[(posH l.heard x.src:Int).toNat]?=some x9'∧(x.epoch==x9'.epoch)=false∧t4=((t3):(List Hrd)))∨((x.kind==2)=false∧t4=((t3):(List Hrd)))) (.br 70 (.el 150 Hrd.v t3 fun x9 =>
 (.br 214 (.el 294 Hrd.v t3 fun x10 =>
 (.br 358 (.el 406 Hrd.v t3 fun x11 =>
 (.br 486 (.el 550 Hrd.v t3 fun x12 =>
 (.req 598 (okItms x12.items) fun h13 =>
 (.callH [] (copied_h x12.items x.grp h13)
 (.req 710 ((⟨x.mode,x.srcs⟩:Flt).srcs.length≤1000000) fun h14 =>
 (.callP (filtered_c (⟨x.mode,x.srcs⟩:Flt) h14)
 (.app 758 Itm.v (without x.grp x12.items) [(⟨x.ver,x.grp,x.mode,x.srcs⟩:Itm)]
 (.stI 806 Hrd.v t3 fun y15 =>
 (.cmd (.frzV 758 5 ((posH l.heard x.src:Int).toNat) Hrd.v t3 (.agg [.int y15.router,.int y15.epoch,.int y15.ver,.vec 758]) (⟨y15.router,y15.epoch,y15.ver,(without x.grp x12.items)++[(⟨x.ver,x.grp,x.mode,x.srcs⟩:Itm)]⟩:Hrd) (((without x.grp x12.items)++[(⟨x.ver,x.grp,x.mode,x.srcs⟩:Itm)]).map Itm.v) (pureBL_map (fun _=>rfl) ((without x.grp x12.items)++[(⟨x.ver,x.grp,x.mode,x.srcs⟩:Itm)]))) (.st 902 Hrd.v (t3.set ((posH l.heard x.src:Int).toNat) (⟨y15.router,y15.epoch,y15.ver,(without x.grp x12.items)++[(⟨x.ver,x.grp,x.mode,x.srcs⟩:Itm)]⟩:Hrd)) (fun y16=>(⟨y16.router,y16.epoch,x.ver,y16.items⟩:Hrd)) fun y16 =>
 (.back 4 (((t3.set ((posH l.heard x.src:Int).toNat) (⟨y15.router,y15.epoch,y15.ver,(without x.grp x12.items)++[(⟨x.ver,x.grp,x.mode,x.srcs⟩:Itm)]⟩:Hrd)).set ((posH l.heard x.src:Int).toNat) (⟨y16.router,y16.epoch,x.ver,y16.items⟩:Hrd)):(List Hrd)) [0,1,2,3,4,5]))))))))))
 (.back 4 ((t3):(List Hrd)) [0,1,2,3,4,5])))
 (.back 4 ((t3):(List Hrd)) [0,1,2,3,4,5])))
 (.back 4 ((t3):(List Hrd)) [0,1,2,3,4,5])))
 (.back 4 ((t3):(List Hrd)) [0,1,2,3,4,5])) fun (t4:(List Hrd)) =>
 (.el 134 Hrd.v t4 fun x17 =>
 (.el 198 Hrd.v t4 fun x18 =>
 (.cmdL (.frzE 5 (t4.map Hrd.v) (pureBL_map (fun _=>rfl) t4)) (.ret ((⟨l.router,l.epoch,t4⟩:Lsn),(⟨3,l.router,x.src,x17.epoch,x18.ver,0,l.epoch,0,0,[]⟩:Sig),0)))))))))))))))))))))):An Tryz.prog hearF_s (Lsn×Sig×Int))) h (by kernel_rfl) (AV.pureB_ok rfl),fnB_ok (by kernel_rfl)⟩
def wantsTF_a(L:(List Int))(p:Nat):Prop:=okL [.ref 0 0]∧(.box (.agg [.sl 1 (L.map AV.int) false,.int ((p:Nat):Int)]):Blk).ok
def wantsTF_n0(L:(List Int))(p:Nat)(t0:Int×Nat×(List Wnt)):NF:=⟨[(0,.k,.ref 0 0),(3,.k,.vec 1),(4,.k,.int t0.1)],[.box (.agg [.sl 1 (L.map AV.int) false,.int ((t0.2.1:Nat):Int)]),.vec 3 (t0.2.2.map Wnt.v) (pureBL_map (fun _=>rfl) t0.2.2)]⟩
def wantsTF_s:Nat→Type
 | 0=>Int×Nat×(List Wnt)
 | _=>Unit
def wantsTF_e(r:Tap×(List Wnt)):AV:=.sl 3 (r.2.map Wnt.v) false
def wantsTF_b(r:Tap×(List Wnt)):List (Option Blk):=[some (.box (.agg [.sl 1 (r.1.L.map AV.int) false,.int ((r.1.p:Nat):Int)]))]
def wantsTF_vc(L:(List Int))(p:Nat)(I0:(Int×Nat×(List Wnt))→Prop)(m0:(Int×Nat×(List Wnt))→Nat)(r0:Tap×(List Wnt)):Prop:=
 Be (wantsTF_n0 L p) [0,49] I0 (1,p,[])∧∀t0,I0 t0 →
 br (decide (t0.1≤6))
 (Ch (filterT_h L t0.2.1) [0] 50
 (Ch (N_h L ((filterT L t0.2.1).2) 2) [0] 114
 (br ((Mod (rawV L ((filterT L t0.2.1).2)) 2)==0)
 (br (((filterT L t0.2.1).1).mode==2)
 (Rf (α:=List AV) (t0.2.2.map Wnt.v) (Rf (α:=List AV) [.agg [.int t0.1,.int (((filterT L t0.2.1).1).mode),.sl 1 ((((filterT L t0.2.1).1).srcs).map AV.int) false]]
 (ck (decide (t0.2.2.length+1≤1000000))
 (Bk (wantsTF_n0 L p) [0,402] I0 m0 (W (t0.1+1),rawP L ((filterT L t0.2.1).2),t0.2.2++[(⟨t0.1,((filterT L t0.2.1).1).mode,((filterT L t0.2.1).1).srcs⟩:Wnt)]) t0))))
 (br (decide (0<(((((filterT L t0.2.1).1).srcs).map AV.int).length:Int)))
 (Rf (α:=List AV) (t0.2.2.map Wnt.v) (Rf (α:=List AV) [.agg [.int t0.1,.int (((filterT L t0.2.1).1).mode),.sl 1 ((((filterT L t0.2.1).1).srcs).map AV.int) false]]
 (ck (decide (t0.2.2.length+1≤1000000))
 (Bk (wantsTF_n0 L p) [0,402] I0 m0 (W (t0.1+1),rawP L ((filterT L t0.2.1).2),t0.2.2++[(⟨t0.1,((filterT L t0.2.1).1).mode,((filterT L t0.2.1).1).srcs⟩:Wnt)]) t0))))
 (Bk (wantsTF_n0 L p) [0,1] I0 m0 (W (t0.1+1),rawP L ((filterT L t0.2.1).2),t0.2.2) t0)))
 (Bk (wantsTF_n0 L p) [0,1] I0 m0 (W (t0.1+1),rawP L ((filterT L t0.2.1).2),t0.2.2) t0))))
 (Rf (t0.2.2.map Wnt.v) (Qt ⟨[(2,.k,.sl 3 (t0.2.2.map Wnt.v) false)],[.box (.agg [.sl 1 (L.map AV.int) false,.int ((t0.2.1:Nat):Int)])]⟩ [0] wantsTF_e wantsTF_b ((⟨L,t0.2.1⟩:Tap),t0.2.2) r0))
theorem wantsTF_p(L:List Int)(p:Nat)(ok:wantsTF_a L p):∃I m,wantsTF_vc L p I m (⟨L,(wantsT L p).2⟩,(wantsT L p).1):=by
 refine ⟨fun t=>∃k:Nat,t.1=((k+1:Nat):Int)∧k≤6∧wantsL L (6-k) t.1 t.2.2 t.2.1=wantsT L p∧t.2.2.length≤k,fun t=>7-t.1.toNat,?_⟩
 simp only [wantsTF_vc,vcU,rfU,List.length_map]
 refine ⟨⟨0,rfl,by omega,rfl,by simp⟩,?_⟩
 rintro ⟨_,q,out⟩ ⟨k,rfl,hk,h,hl⟩
 simp only at h hl
 refine ⟨fun h1=>?_,fun h1=>?_⟩
 ·have h1:k<6:=by simp only at h1;omega
  rw [show 6-k=(6-(k+1))+1 by omega,wantsL] at h
  simp only [W_succ (k:=k+1) (n:=7) (by omega) (by omega)]
  have hg:((k+1:Nat):Int)+1=((k+1+1:Nat):Int):=by omega
  rw [hg] at h
  have put:Mod (rawV L (filterT L q).2) 2=0∧((filterT L q).1.mode=2∨(filterT L q).1.srcs≠[]) →
    wNew L q ((k+1:Nat):Int) out=out++[⟨((k+1:Nat):Int),(filterT L q).1.mode,(filterT L q).1.srcs⟩]:=fun c=>by rw [wNew,if_pos c]
  have no:¬(Mod (rawV L (filterT L q).2) 2=0∧((filterT L q).1.mode=2∨(filterT L q).1.srcs≠[]))→wNew L q ((k+1:Nat):Int) out=out:=fun c=>by rw [wNew,if_neg c]
  refine ⟨fun c1=>⟨fun c2=>⟨by omega,⟨k+1,rfl,by omega,?_,by simp;omega⟩,by omega⟩,fun c2=>⟨fun c3=>⟨by omega,⟨k+1,rfl,by omega,?_,by simp;omega⟩,by omega⟩,fun c3=>⟨⟨k+1,rfl,by omega,?_,by omega⟩,by omega⟩⟩⟩,fun c1=>⟨⟨k+1,rfl,by omega,?_,by omega⟩,by omega⟩⟩
  ·rw [put ⟨by simpa using c1,.inl (by simpa using c2)⟩] at h;exact h
  ·rw [put ⟨by simpa using c1,.inr (fun e=>by rw [e] at c3;simp at c3)⟩] at h;exact h
  ·rw [no (fun ⟨_,e⟩=>by
    rcases e with e|e
    ·simp [e] at c2
    ·exact e (List.eq_nil_of_length_eq_zero (by omega)))] at h;exact h
  ·rw [no (fun ⟨e,_⟩=>by simp [e] at c1)] at h;exact h
 ·have h1:k=6:=by simp only at h1;omega
  subst h1
  rw [←h];rfl
def wantsT_h(L:(List Int))(p:Nat):HC Tryz.prog:=⟨76,[.k],[.ref 0 0],[.box (.agg [.sl 1 (L.map AV.int) false,.int ((p:Nat):Int)])],wantsTF_e (⟨L,(wantsT L p).2⟩,(wantsT L p).1),wantsTF_b (⟨L,(wantsT L p).2⟩,(wantsT L p).1),HSpec.of_okh fun ok ok2=>have ok:wantsTF_a L p:=⟨ok,ok2 _ (by simp)⟩;(wantsTF_p L p ok).elim fun I0 h=>h.elim fun m0 h=>mxH_of (sh:=(.s 3)) (enc:=wantsTF_e) (hB:=wantsTF_b) (a:=((.cmdL (.nilT 3 3) (.loop 0 (wantsTF_n0 L p) (I0) (m0) ((1,p,[]):Int×Nat×(List Wnt)) [0,49] fun (t0:Int×Nat×(List Wnt)) =>
 (.br 34 (.callH [0] (filterT_h L t0.2.1)
 (.callH [0] (N_h L ((filterT L t0.2.1).2) 2)
 (.br 162 (.br 226 (.app 402 Wnt.v t0.2.2 [(⟨t0.1,((filterT L t0.2.1).1).mode,((filterT L t0.2.1).1).srcs⟩:Wnt)]
 (.back 0 ((W (t0.1+1),rawP L ((filterT L t0.2.1).2),t0.2.2++[(⟨t0.1,((filterT L t0.2.1).1).mode,((filterT L t0.2.1).1).srcs⟩:Wnt)]):Int×Nat×(List Wnt)) [0,402]))
 (.br 322 (.app 402 Wnt.v t0.2.2 [(⟨t0.1,((filterT L t0.2.1).1).mode,((filterT L t0.2.1).1).srcs⟩:Wnt)]
 (.back 0 ((W (t0.1+1),rawP L ((filterT L t0.2.1).2),t0.2.2++[(⟨t0.1,((filterT L t0.2.1).1).mode,((filterT L t0.2.1).1).srcs⟩:Wnt)]):Int×Nat×(List Wnt)) [0,402]))
 (.back 0 ((W (t0.1+1),rawP L ((filterT L t0.2.1).2),t0.2.2):Int×Nat×(List Wnt)) [0,1])))
 (.back 0 ((W (t0.1+1),rawP L ((filterT L t0.2.1).2),t0.2.2):Int×Nat×(List Wnt)) [0,1]))))
 (.cmdL (.frzE 1 (t0.2.2.map Wnt.v) (pureBL_map (fun _=>rfl) t0.2.2)) (.retH ((⟨L,t0.2.1⟩:Tap),t0.2.2) ⟨[(2,.k,.sl 3 (t0.2.2.map Wnt.v) false)],[.box (.agg [.sl 1 (L.map AV.int) false,.int ((t0.2.1:Nat):Int)])]⟩ [0]))))):An Tryz.prog wantsTF_s (Tap×(List Wnt)))) h (by kernel_rfl),fnB_ok (by kernel_rfl),HcOk.of (by simp [hcB,belBL,AV.belB,allB,okBk,okBkO,wantsTF_e,wantsTF_b,pureBL_map (v:=AV.int) (fun _=>rfl)])⟩
def checkR_a(l:(List Wnt))(changes:Bool):Prop:=okL [.sl 3 (l.map Wnt.v) false,.bool changes]
def checkR_n0(l:(List Wnt))(changes:Bool)(t0:Int):NF:=⟨[(0,.k,.sl 3 (l.map Wnt.v) false),(1,.k,.bool changes),(16,.k,.sl 3 (l.map Wnt.v) false),(17,.k,.int ((l.map Wnt.v).length:Int)),(18,.k,.int t0)],[]⟩
def checkR_n1(l:(List Wnt))(changes:Bool)(t0:Int)(t1:Int):NF:=⟨[(0,.k,.sl 3 (l.map Wnt.v) false),(1,.k,.bool changes),(31,.k,.sl 3 (l.map Wnt.v) false),(32,.k,.int ((l.map Wnt.v).length:Int)),(33,.k,.int t1)],[]⟩
def checkR_n2(l:(List Wnt))(changes:Bool)(t0:Int)(t1:Int)(t2:Int):NF:=⟨[(0,.k,.sl 3 (l.map Wnt.v) false),(1,.k,.bool changes),(44,.k,.sl 3 (l.map Wnt.v) false),(45,.k,.int ((l.map Wnt.v).length:Int)),(46,.k,.int t2)],[]⟩
def checkR_n3(l:(List Wnt))(changes:Bool)(t0:Int)(t1:Int)(t2:Int)(t3:Int):NF:=⟨[(0,.k,.sl 3 (l.map Wnt.v) false),(12,.k,.int t3)],[]⟩
def checkR_s:Nat→Type
 | 0=>Int
 | 1=>Int
 | 2=>Int
 | 3=>Int
 | _=>Unit
def checkR_e(r:Int):AV:=.int r
def checkR_vc(l:(List Wnt))(changes:Bool)(I0:Int→Prop)(m0:Int→Nat)(I1:Int→Int→Prop)(m1:Int→Int→Nat)(I2:Int→Int→Int→Prop)(m2:Int→Int→Int→Nat)(I3:Int→Int→Int→Int→Prop)(m3:Int→Int→Int→Int→Nat)(r0:Int):Prop:=
 br (decide (32<((l.map Wnt.v).length:Int)))
 (Rp checkR_e (3) r0)
 (Be (checkR_n0 l changes) [] I0 (0)∧∀t0,I0 t0 →
 br (decide (t0<((l.map Wnt.v).length:Int)))
 (Rf (l.map Wnt.v) (ck (decide (0≤t0)) (ck (decide (t0<(l.length:Int)))
 (∀x1,l[t0.toNat]?=some x1 →
 br (decide (x1.grp<1))
 (Rp checkR_e (2) r0)
 (br (decide (99<x1.grp))
 (Rp checkR_e (2) r0)
 (Bk (checkR_n0 l changes) [] I0 m0 (W (t0+1)) t0))))))
 (Be (checkR_n1 l changes t0) [] (I1 t0) (0)∧∀t1,I1 t0 t1 →
 br (decide (t1<((l.map Wnt.v).length:Int)))
 (Rf (l.map Wnt.v) (ck (decide (0≤t1)) (ck (decide (t1<(l.length:Int)))
 (∀x2,l[t1.toNat]?=some x2 →
 Cl (FVal_c (⟨x2.mode,x2.srcs⟩:Flt))
 (br ((fltErr (⟨x2.mode,x2.srcs⟩:Flt).mode (⟨x2.mode,x2.srcs⟩:Flt).srcs) != 0)
 (Rp checkR_e (fltErr (⟨x2.mode,x2.srcs⟩:Flt).mode (⟨x2.mode,x2.srcs⟩:Flt).srcs) r0)
 (Bk (checkR_n1 l changes t0) [] (I1 t0) (m1 t0) (W (t1+1)) t1))))))
 (Be (checkR_n2 l changes t0 t1) [] (I2 t0 t1) (0)∧∀t2,I2 t0 t1 t2 →
 br (decide (t2<((l.map Wnt.v).length:Int)))
 (Rf (l.map Wnt.v) (ck (decide (0≤t2)) (ck (decide (t2<(l.length:Int)))
 (∀x3,l[t2.toNat]?=some x3 →
 br (!changes)
 (Cl (Nothing_c )
 (Cl (FSame_c (⟨x3.mode,x3.srcs⟩:Flt) (⟨1,[]⟩:Flt))
 (br (FSame (⟨x3.mode,x3.srcs⟩:Flt) (⟨1,[]⟩:Flt))
 (Rp checkR_e (1) r0)
 (Bk (checkR_n2 l changes t0 t1) [] (I2 t0 t1) (m2 t0 t1) (W (t2+1)) t2))))
 (Bk (checkR_n2 l changes t0 t1) [] (I2 t0 t1) (m2 t0 t1) (W (t2+1)) t2)))))
 (Be (checkR_n3 l changes t0 t1 t2) [] (I3 t0 t1 t2) (1)∧∀t3,I3 t0 t1 t2 t3 →
 br (decide (t3<((l.map Wnt.v).length:Int)))
 (Rf (l.map Wnt.v) (ck (decide (0≤(W (t3-1)))) (ck (decide ((W (t3-1))<(l.length:Int)))
 (∀x4,l[(W (t3-1)).toNat]?=some x4 →
 Rf (l.map Wnt.v) (ck (decide (0≤t3)) (ck (decide (t3<(l.length:Int)))
 (∀x5,l[t3.toNat]?=some x5 →
 br (decide (x5.grp≤x4.grp))
 (Rp checkR_e (25) r0)
 (Bk (checkR_n3 l changes t0 t1 t2) [] (I3 t0 t1 t2) (m3 t0 t1 t2) (W (t3+1)) t3))))))))
 (Rp checkR_e (0) r0)))))
theorem checkR_p(l:List Wnt)(chg:Bool)(ok:checkR_a l chg):∃I0 m0 I1 m1 I2 m2 I3 m3,checkR_vc l chg I0 m0 I1 m1 I2 m2 I3 m3 (wErr chg l):=by
 let R:Prop:=∀w∈l,1≤w.grp∧w.grp≤99
 let F:Prop:=∀w∈l,fltErr w.mode w.srcs=0
 let N:Prop:=chg=false→∀w∈l,¬isNoW w
 refine ⟨fun t=>∃k:Nat,t=k∧k≤l.length∧∀w∈l.take k,1≤w.grp∧w.grp≤99,fun t=>l.length-t.toNat,
  fun _ t=>R∧∃k:Nat,t=k∧k≤l.length∧∀w∈l.take k,fltErr w.mode w.srcs=0,fun _ t=>l.length-t.toNat,
  fun _ _ t=>R∧F∧∃k:Nat,t=k∧k≤l.length∧∀w∈l.take k,chg=false→¬isNoW w,fun _ _ t=>l.length-t.toNat,
  fun _ _ _ t=>R∧F∧N∧∃k:Nat,t=k∧1≤k∧k≤l.length+1∧∀j x y,j+1<k→l[j]?=some x→l[j+1]?=some y→x.grp<y.grp,fun _ _ _ t=>l.length+1-t.toNat,?_⟩
 simp only [checkR_vc,vcU,rfU,List.length_map]
 have hno:∀x:Wnt,FSame ⟨x.mode,x.srcs⟩ ⟨1,[]⟩=true↔isNoW x:=fun x=>by simp [FSame,isNoW]
 refine ⟨fun e=>by rw [wErr,if_pos (by omega)],fun e0=>⟨⟨0,rfl,by omega,by simp⟩,?_⟩⟩
 have e0:¬32<l.length:=by omega
 rintro _ ⟨k,rfl,hk,h⟩
 simp only [Int.toNat_natCast]
 refine ⟨fun h1=>⟨by omega,by omega,fun x hx=>?_⟩,fun h1=>?_⟩
 ·have bad:¬(1≤x.grp∧x.grp≤99)→2=wErr chg l:=fun h=>by
   rw [wErr,if_neg e0,if_pos fun h'=>h (h' x (mem_of_get hx))]
  refine ⟨fun e=>bad (by omega),fun e1=>⟨fun e=>bad (by omega),fun e2=>?_⟩⟩
  rw [W_succ (n:=l.length) (by omega) (by omega)]
  exact ⟨⟨k+1,rfl,by omega,all_take h hx ⟨by omega,by omega⟩⟩,by omega⟩
 rw [List.take_of_length_le (by omega)] at h
 have hR:R:=h
 have w1:wErr chg l=if wFErrs l≠0 then wFErrs l else if chg=false∧∃w∈l,isNoW w then 1 else if ¬(l.Pairwise fun x y=>x.grp<y.grp) then 25 else 0:=by
  rw [wErr,if_neg e0,if_neg (fun h=>h hR)]
 clear h h1 hk k
 refine ⟨⟨hR,0,rfl,by omega,by simp⟩,?_⟩
 rintro _ ⟨-,k,rfl,hk,h⟩
 simp only [Int.toNat_natCast]
 refine ⟨fun h1=>⟨by omega,by omega,fun x hx=>⟨fun e=>?_,fun e=>?_⟩⟩,fun h1=>?_⟩
 ·have e:fltErr x.mode x.srcs≠0:=by simpa using e
  have:wFErrs l=fltErr x.mode x.srcs:=orI_at (f:=fun x:Wnt=>fltErr x.mode x.srcs) h hx e
  rw [w1,this,if_pos e]
 ·rw [W_succ (n:=l.length) (by omega) (by omega)]
  exact ⟨⟨hR,k+1,rfl,by omega,all_take h hx (by simpa using e)⟩,by omega⟩
 rw [List.take_of_length_le (by omega)] at h
 have hF:F:=h
 have w2:wErr chg l=if chg=false∧∃w∈l,isNoW w then 1 else if ¬(l.Pairwise fun x y=>x.grp<y.grp) then 25 else 0:=by
  rw [w1,if_neg (fun hh=>hh (orI_all hF))]
 clear h h1 hk k
 refine ⟨⟨hR,hF,0,rfl,by omega,by simp⟩,?_⟩
 rintro _ ⟨-,-,k,rfl,hk,h⟩
 simp only [Int.toNat_natCast]
 refine ⟨fun h1=>⟨by omega,by omega,fun x hx=>?_⟩,fun h1=>?_⟩
 ·have step:(chg=false→¬isNoW x)→(R∧F∧∃k':Nat,W ((k:Int)+1)=k'∧k'≤l.length∧∀w∈l.take k',chg=false→¬isNoW w)∧l.length-(W ((k:Int)+1)).toNat<l.length-k:=by
   intro hs
   rw [W_succ (n:=l.length) (by omega) (by omega)]
   exact ⟨⟨hR,hF,k+1,rfl,by omega,all_take h hx hs⟩,by omega⟩
  refine ⟨fun e=>⟨fun e2=>?_,fun e2=>step fun _ hn=>?_⟩,fun e=>step fun hc=>?_⟩
  ·rw [w2,if_pos ⟨by simpa using e,x,mem_of_get hx,(hno x).mp e2⟩]
  ·rw [(hno x).mpr hn] at e2;cases e2
  ·simp [hc] at e
 rw [List.take_of_length_le (by omega)] at h
 have hN:N:=fun hc w hw=>h w hw hc
 have w3:wErr chg l=if ¬(l.Pairwise fun x y=>x.grp<y.grp) then 25 else 0:=by
  rw [w2,if_neg (fun ⟨hc,w,hw,hn⟩=>hN hc w hw hn)]
 clear h h1 hk k
 refine ⟨⟨hR,hF,hN,1,rfl,by omega,by omega,fun j x y hj=>by omega⟩,?_⟩
 rintro _ ⟨-,-,-,k,rfl,hk1,hk,h⟩
 refine ⟨fun h1=>?_,fun h1=>?_⟩
 ·rw [W_pred (by omega) hk1]
  simp only [Int.toNat_natCast]
  refine ⟨by omega,by omega,fun x hx=>⟨by omega,by omega,fun y hy=>⟨fun e=>?_,fun e=>?_⟩⟩⟩
  ·rw [w3,if_pos]
   intro hp
   have:x.grp<y.grp:=pw_get hp (show k-1<k by omega) hx hy
   omega
  ·rw [W_succ (n:=l.length) (by omega) (by omega)]
   refine ⟨⟨hR,hF,hN,k+1,rfl,by omega,by omega,fun j x' y' hj hx' hy'=>?_⟩,by omega⟩
   by_cases e':j+1=k
   ·subst e'
    rw [show j+1-1=j by omega,hx'] at hx;cases hx
    rw [hy'] at hy;cases hy;omega
   ·exact h j x' y' (by omega) hx' hy'
 ·rw [w3,if_neg]
  exact fun hh=>hh (pw_adj fun j x y hx hy=>h j x y (by have:=lt_of_get hy;omega) hx hy)
def checkR_c(l:(List Wnt))(changes:Bool):PC Tryz.prog:=⟨176,[(.s 3),.k],[.sl 3 (l.map Wnt.v) false,.bool changes],checkR_e (wErr changes l),PSpec.of_ok fun ok=>(checkR_p l changes ok).elim fun I0 h=>h.elim fun m0 h=>h.elim fun I1 h=>h.elim fun m1 h=>h.elim fun I2 h=>h.elim fun m2 h=>h.elim fun I3 h=>h.elim fun m3 h=>mxP_of (sh:=.k) (enc:=checkR_e) (a:=((.br 64 (.ret (3))
 (.loop 0 (checkR_n0 l changes) (I0) (m0) ((0):Int) [] fun (t0:Int) =>
 (.br 16 (.el 16 Wnt.v l fun x1 =>
 (.br 144 (.ret (2))
 (.br 208 (.ret (2))
 (.back 0 ((W (t0+1)):Int) []))))
 (.loop 1 (checkR_n1 l changes t0) (I1 t0) (m1 t0) ((0):Int) [] fun (t1:Int) =>
 (.br 16 (.el 16 Wnt.v l fun x2 =>
 (.callP (FVal_c (⟨x2.mode,x2.srcs⟩:Flt))
 (.br 176 (.ret (fltErr (⟨x2.mode,x2.srcs⟩:Flt).mode (⟨x2.mode,x2.srcs⟩:Flt).srcs))
 (.back 1 ((W (t1+1)):Int) []))))
 (.loop 2 (checkR_n2 l changes t0 t1) (I2 t0 t1) (m2 t0 t1) ((0):Int) [] fun (t2:Int) =>
 (.br 16 (.el 16 Wnt.v l fun x3 =>
 (.br 128 (.callP (Nothing_c )
 (.callP (FSame_c (⟨x3.mode,x3.srcs⟩:Flt) (⟨1,[]⟩:Flt))
 (.br 208 (.ret (1))
 (.back 2 ((W (t2+1)):Int) []))))
 (.back 2 ((W (t2+1)):Int) [])))
 (.loop 3 (checkR_n3 l changes t0 t1 t2) (I3 t0 t1 t2) (m3 t0 t1 t2) ((1):Int) [] fun (t3:Int) =>
 (.br 64 (.el 112 Wnt.v l fun x4 =>
 (.el 192 Wnt.v l fun x5 =>
 (.br 256 (.ret (25))
 (.back 3 ((W (t3+1)):Int) []))))
 (.ret (0))))))))))):An Tryz.prog checkR_s (Int))) h (by kernel_rfl) (AV.pureB_ok rfl),fnB_ok (by kernel_rfl)⟩
def valR_a(l:(List Wnt)):Prop:=okL [.sl 3 (l.map Wnt.v) false]
def valR_s:Nat→Type
 | _=>Unit
def valR_e(r:Int):AV:=.int r
def valR_vc(l:(List Wnt))(r0:Int):Prop:=
 Cl (checkR_c l false)
 (Rp valR_e (wErr false l) r0)
theorem valR_p(l:List Wnt)(ok:valR_a l):valR_vc l (wErr false l):=by
 simp only [valR_vc,vcU,rfU,List.length_map]
def valR_c(l:(List Wnt)):PC Tryz.prog:=⟨96,[(.s 3)],[.sl 3 (l.map Wnt.v) false],valR_e (wErr false l),PSpec.of_ok fun ok=>mxP_of (sh:=.k) (enc:=valR_e) (a:=((.callP (checkR_c l false)
 (.ret (wErr false l))):An Tryz.prog valR_s (Int))) (valR_p l ok) (by kernel_rfl) (AV.pureB_ok rfl),fnB_ok (by kernel_rfl)⟩
def findR_a(l:(List Wnt))(group:Int):Prop:=okL [.sl 3 (l.map Wnt.v) false,.int group]
def findR_n0(l:(List Wnt))(group:Int)(t0:Int):NF:=⟨[(1,.k,.int group),(4,.k,.ref 0 0),(7,.k,.sl 3 (l.map Wnt.v) false),(8,.k,.int ((l.map Wnt.v).length:Int)),(9,.k,.int t0)],[.box (.agg [.int 0,.sl 0 [] true])]⟩
def findR_s:Nat→Type
 | 0=>Int
 | _=>Unit
def findR_e(r:Flt):AV:=Flt.v r
def findR_vc(l:(List Wnt))(group:Int)(I0:Int→Prop)(m0:Int→Nat)(r0:Flt):Prop:=
 Be (findR_n0 l group) [0] I0 (0)∧∀t0,I0 t0 →
 br (decide (t0<((l.map Wnt.v).length:Int)))
 (Rf (l.map Wnt.v) (ck (decide (0≤t0)) (ck (decide (t0<(l.length:Int)))
 (∀x1,l[t0.toNat]?=some x1 →
 br (x1.grp==group)
 (Rp findR_e ((⟨x1.mode,x1.srcs⟩:Flt)) r0)
 (Bk (findR_n0 l group) [0] I0 m0 (W (t0+1)) t0)))))
 (Cl (Nothing_c )
 (Rp findR_e ((⟨1,[]⟩:Flt)) r0))
theorem findR_p(l:List Wnt)(g:Int)(ok:findR_a l g):∃I m,findR_vc l g I m (findW l g):=by
 simp only [findR_a,okU,Blk.ok,plainV,List.length_map] at ok
 refine ⟨fun t=>∃k:Nat,t=k∧k≤l.length∧∀x∈l.take k,decide (x.grp=g)=false,fun t=>l.length-t.toNat,?_⟩
 simp only [findR_vc,vcU,rfU,List.length_map]
 refine ⟨⟨0,rfl,by omega,by simp⟩,?_⟩
 rintro _ ⟨k,rfl,hk,h⟩
 simp only [Int.toNat_natCast]
 have h:∀x∈l.take k,decide (x.grp=g)=false:=fun x hx=>decide_eq_false (h x hx)
 refine ⟨fun h1=>⟨by omega,by omega,fun x hx=>⟨fun e=>?_,fun e=>?_⟩⟩,fun h1=>?_⟩
 ·rw [findW,find_at h hx (by simpa using e)]
 ·rw [W_succ (n:=l.length) (by omega) (by omega)]
  refine ⟨⟨k+1,rfl,by omega,?_⟩,by omega⟩
  rw [take_succ hx]
  intro z hz
  rcases List.mem_append.mp hz with hz|hz
  ·simpa using h z hz
  ·rw [List.mem_singleton] at hz;subst hz;simpa using e
 ·rw [List.take_of_length_le (by omega)] at h
  rw [findW,List.find?_eq_none.mpr fun x hx=>by rw [h x hx];simp]
def findR_c(l:(List Wnt))(group:Int):PC Tryz.prog:=⟨98,[(.s 3),.k],[.sl 3 (l.map Wnt.v) false,.int group],findR_e (findW l group),PSpec.of_ok fun ok=>(findR_p l group ok).elim fun I0 h=>h.elim fun m0 h=>mxP_of (sh:=(.a [.k,(.s 1)])) (enc:=findR_e) (a:=((.loop 0 (findR_n0 l group) (I0) (m0) ((0):Int) [0] fun (t0:Int) =>
 (.br 17 (.el 17 Wnt.v l fun x1 =>
 (.br 145 (.ret ((⟨x1.mode,x1.srcs⟩:Flt)))
 (.back 0 ((W (t0+1)):Int) [0])))
 (.callP (Nothing_c )
 (.ret ((⟨1,[]⟩:Flt)))))):An Tryz.prog findR_s (Flt))) h (by kernel_rfl) (AV.pureB_ok rfl),fnB_ok (by kernel_rfl)⟩
def chgsR_a(old:(List Wnt))(new:(List Wnt)):Prop:=okL [.sl 3 (old.map Wnt.v) false,.sl 3 (new.map Wnt.v) false]
def chgsR_n0(old:(List Wnt))(new:(List Wnt))(t0:Int×(List Wnt)):NF:=⟨[(0,.k,.sl 3 (old.map Wnt.v) false),(1,.k,.sl 3 (new.map Wnt.v) false),(8,.k,.vec 0),(9,.k,.int t0.1)],[.vec 3 (t0.2.map Wnt.v) (pureBL_map (fun _=>rfl) t0.2)]⟩
def chgsR_s:Nat→Type
 | 0=>Int×(List Wnt)
 | _=>Unit
def chgsR_e(r:(List Wnt)×Int):AV:=.tup [.sl 3 (r.1.map Wnt.v) false,.int r.2]
def chgsR_vc(old:(List Wnt))(new:(List Wnt))(I0:(Int×(List Wnt))→Prop)(m0:(Int×(List Wnt))→Nat)(r0:(List Wnt)×Int):Prop:=
 Cl (valR_c old)
 (br ((wErr false old) != 0)
 (Rp chgsR_e ([],wErr false old) r0)
 (Cl (valR_c new)
 (br ((wErr false new) != 0)
 (Rp chgsR_e ([],wErr false new) r0)
 (Be (chgsR_n0 old new) [224] I0 (1,[])∧∀t0,I0 t0 →
 br (decide (t0.1≤99))
 (Cl (findR_c new t0.1)
 (Cl (findR_c old t0.1)
 (Cl (FSame_c (findW new t0.1) (findW old t0.1))
 (br (!(FSame (findW new t0.1) (findW old t0.1)))
 (Rf (α:=List AV) (t0.2.map Wnt.v) (Rf (α:=List AV) [.agg [.int t0.1,.int ((findW new t0.1).mode),.sl 1 (((findW new t0.1).srcs).map AV.int) false]]
 (ck (decide (t0.2.length+1≤1000000))
 (Bk (chgsR_n0 old new) [289] I0 m0 (W (t0.1+1),t0.2++[(⟨t0.1,(findW new t0.1).mode,(findW new t0.1).srcs⟩:Wnt)]) t0))))
 (Bk (chgsR_n0 old new) [0] I0 m0 (W (t0.1+1),t0.2) t0)))))
 (br (decide (32<((t0.2.map Wnt.v).length:Int)))
 (Rp chgsR_e ([],3) r0)
 (Rf (t0.2.map Wnt.v) (Rp chgsR_e (t0.2,0) r0)))))))
theorem chgsR_p(a b:List Wnt)(ok:chgsR_a a b):∃I m,chgsR_vc a b I m (changes a b):=by
 refine ⟨fun t=>∃k:Nat,t=(((k+1:Nat):Int),chgsTo a b k)∧k≤99,fun t=>100-t.1.toNat,?_⟩
 simp only [chgsR_vc,vcU,rfU,List.length_map]
 by_cases h1:wErr false a=0
 case neg=>simp [changes,h1]
 by_cases h2:wErr false b=0
 case neg=>simp [changes,h1,h2]
 have e:changes a b=if 32<(chgsTo a b 99).length then ([],3) else (chgsTo a b 99,0):=by
  rw [changes,if_neg (not_not_intro h1),if_neg (not_not_intro h2)]
 refine ⟨fun c=>by simp [h1] at c,fun _=>⟨fun c=>by simp [h2] at c,fun _=>⟨⟨0,rfl,by omega⟩,?_⟩⟩⟩
 rintro _ ⟨k,rfl,hk⟩
 have hl:=chgsTo_len a b k
 refine ⟨fun c=>?_,fun c=>?_⟩
 ·have c:k<99:=by simp only at c;omega
  simp only [W_succ (k:=k+1) (n:=100) (by omega) (by omega)]
  refine ⟨fun d=>⟨by omega,⟨k+1,?_,by omega⟩,by omega⟩,fun d=>⟨⟨k+1,?_,by omega⟩,by omega⟩⟩
  ·rw [chgsTo,chgs1,if_neg (by simpa [FSame] using d)];rfl
  ·rw [chgsTo,chgs1,if_pos (by simpa [FSame] using d),List.append_nil]
 ·have c:k=99:=by simp only at c;omega
  subst c
  rw [e]
  simp only
  refine ⟨fun d=>by rw [if_pos (by omega)],fun d=>by rw [if_neg (by omega)]⟩
def chgsR_c(old:(List Wnt))(new:(List Wnt)):PC Tryz.prog:=⟨167,[(.s 3),(.s 3)],[.sl 3 (old.map Wnt.v) false,.sl 3 (new.map Wnt.v) false],chgsR_e (changes old new),PSpec.of_ok fun ok=>(chgsR_p old new ok).elim fun I0 h=>h.elim fun m0 h=>mxP_of (sh:=(.a [(.s 3),.k])) (enc:=chgsR_e) (a:=((.callP (valR_c old)
 (.br 112 (.ret ([],wErr false old))
 (.callP (valR_c new)
 (.br 192 (.ret ([],wErr false new))
 (.cmdL (.nilT 8 3) (.loop 0 (chgsR_n0 old new) (I0) (m0) ((1,[]):Int×(List Wnt)) [224] fun (t0:Int×(List Wnt)) =>
 (.br 33 (.callP (findR_c new t0.1)
 (.callP (findR_c old t0.1)
 (.callP (FSame_c (findW new t0.1) (findW old t0.1))
 (.br 209 (.app 289 Wnt.v t0.2 [(⟨t0.1,(findW new t0.1).mode,(findW new t0.1).srcs⟩:Wnt)]
 (.back 0 ((W (t0.1+1),t0.2++[(⟨t0.1,(findW new t0.1).mode,(findW new t0.1).srcs⟩:Wnt)]):Int×(List Wnt)) [289]))
 (.back 0 ((W (t0.1+1),t0.2):Int×(List Wnt)) [0])))))
 (.br 81 (.ret ([],3))
 (.cmdL (.frzE 0 (t0.2.map Wnt.v) (pureBL_map (fun _=>rfl) t0.2)) (.ret (t0.2,0))))))))))):An Tryz.prog chgsR_s ((List Wnt)×Int))) h (by kernel_rfl) (AV.pureB_ok rfl),fnB_ok (by kernel_rfl)⟩
def sameI_a(a:(List Itm))(b:(List Itm)):Prop:=okL [.sl 4 (a.map Itm.v) false,.sl 4 (b.map Itm.v) false]
def sameI_n0(a:(List Itm))(b:(List Itm))(t0:Int):NF:=⟨[(0,.k,.sl 4 (a.map Itm.v) false),(1,.k,.sl 4 (b.map Itm.v) false),(5,.k,.int t0)],[]⟩
def sameI_s:Nat→Type
 | 0=>Int
 | _=>Unit
def sameI_e(r:Bool):AV:=.bool r
def sameI_vc(a:(List Itm))(b:(List Itm))(I0:Int→Prop)(m0:Int→Nat)(r0:Bool):Prop:=
 br (((a.map Itm.v).length:Int) != ((b.map Itm.v).length:Int))
 (Rp sameI_e (false) r0)
 (Be (sameI_n0 a b) [] I0 (0)∧∀t0,I0 t0 →
 br (decide (t0<((a.map Itm.v).length:Int)))
 (Rf (a.map Itm.v) (ck (decide (0≤t0)) (ck (decide (t0<(a.length:Int)))
 (∀x1,a[t0.toNat]?=some x1 →
 Rf (b.map Itm.v) (ck (decide (0≤t0)) (ck (decide (t0<(b.length:Int)))
 (∀x2,b[t0.toNat]?=some x2 →
 br (x1.ver != x2.ver)
 (Rp sameI_e (false) r0)
 (Rf (a.map Itm.v) (ck (decide (0≤t0)) (ck (decide (t0<(a.length:Int)))
 (∀x3,a[t0.toNat]?=some x3 →
 Rf (b.map Itm.v) (ck (decide (0≤t0)) (ck (decide (t0<(b.length:Int)))
 (∀x4,b[t0.toNat]?=some x4 →
 br (x3.grp != x4.grp)
 (Rp sameI_e (false) r0)
 (Rf (a.map Itm.v) (ck (decide (0≤t0)) (ck (decide (t0<(a.length:Int)))
 (∀x5,a[t0.toNat]?=some x5 →
 Rf (b.map Itm.v) (ck (decide (0≤t0)) (ck (decide (t0<(b.length:Int)))
 (∀x6,b[t0.toNat]?=some x6 →
 Cl (FSame_c (⟨x5.mode,x5.srcs⟩:Flt) (⟨x6.mode,x6.srcs⟩:Flt))
 (br (!(FSame (⟨x5.mode,x5.srcs⟩:Flt) (⟨x6.mode,x6.srcs⟩:Flt)))
 (Rp sameI_e (false) r0)
 (Bk (sameI_n0 a b) [] I0 m0 (W (t0+1)) t0)))))))))))))))))))))))
 (Rp sameI_e (true) r0))
theorem sameI_p(a b:List Itm)(ok:sameI_a a b):∃I m,sameI_vc a b I m (decide (a=b)):=by
 simp only [sameI_a,okU,Blk.ok,plainV,List.length_map] at ok
 refine ⟨fun t=>∃k:Nat,t=k∧k≤a.length∧a.take k=b.take k,fun t=>a.length-t.toNat,?_⟩
 simp only [sameI_vc,vcU,rfU,List.length_map]
 refine ⟨fun e=>(decide_eq_false fun h=>by subst h;simp at e).symm,fun e=>⟨⟨0,rfl,by omega,rfl⟩,?_⟩⟩
 have e:a.length=b.length:=by simp at e;omega
 rintro _ ⟨k,rfl,hk,h⟩
 simp only [Int.toNat_natCast]
 refine ⟨fun h1=>⟨by omega,by omega,fun x hx=>⟨by omega,by omega,fun y hy=>?_⟩⟩,fun h1=>?_⟩
 ·have bad:x≠y→false=decide (a=b):=fun hne=>(decide_eq_false fun hh=>by
   subst hh
   cases hx.symm.trans hy
   exact hne rfl).symm
  refine ⟨fun c=>bad fun q=>by subst q;simp at c,fun c=>⟨by omega,by omega,fun x2 hx2=>⟨by omega,by omega,fun y2 hy2=>?_⟩⟩⟩
  cases hx.symm.trans hx2
  cases hy.symm.trans hy2
  refine ⟨fun c2=>bad fun q=>by subst q;simp at c2,fun c2=>⟨by omega,by omega,fun x3 hx3=>⟨by omega,by omega,fun y3 hy3=>?_⟩⟩⟩
  cases hx.symm.trans hx3
  cases hy.symm.trans hy3
  refine ⟨fun c3=>bad fun q=>by subst q;simp [FSame] at c3,fun c3=>?_⟩
  have q:x=y:=by
   rw [Itm.eq_iff]
   have c3:FSame ⟨x.mode,x.srcs⟩ ⟨y.mode,y.srcs⟩=true:=by simpa using c3
   have c3:=flt_eq.mp (of_decide_eq_true c3)
   exact ⟨by simpa using c,by simpa using c2,c3⟩
  subst q
  rw [W_succ (n:=a.length) (by omega) (by omega)]
  exact ⟨⟨k+1,rfl,by omega,by rw [take_succ hx,take_succ hy,h]⟩,by omega⟩
 ·rw [List.take_of_length_le (by omega),List.take_of_length_le (by omega)] at h
  exact (decide_eq_true h).symm
def sameI_c(a:(List Itm))(b:(List Itm)):PC Tryz.prog:=⟨139,[(.s 4),(.s 4)],[.sl 4 (a.map Itm.v) false,.sl 4 (b.map Itm.v) false],sameI_e (decide (a=b)),PSpec.of_ok fun ok=>(sameI_p a b ok).elim fun I0 h=>h.elim fun m0 h=>mxP_of (sh:=.k) (enc:=sameI_e) (a:=((.br 96 (.ret (false))
 (.loop 0 (sameI_n0 a b) (I0) (m0) ((0):Int) [] fun (t0:Int) =>
 (.br 64 (.el 96 Itm.v a fun x1 =>
 (.el 176 Itm.v b fun x2 =>
 (.br 256 (.ret (false))
 (.el 288 Itm.v a fun x3 =>
 (.el 368 Itm.v b fun x4 =>
 (.br 464 (.ret (false))
 (.el 496 Itm.v a fun x5 =>
 (.el 576 Itm.v b fun x6 =>
 (.callP (FSame_c (⟨x5.mode,x5.srcs⟩:Flt) (⟨x6.mode,x6.srcs⟩:Flt))
 (.br 672 (.ret (false))
 (.back 0 ((W (t0+1)):Int) [])))))))))))
 (.ret (true))))):An Tryz.prog sameI_s (Bool))) h (by kernel_rfl) (AV.pureB_ok rfl),fnB_ok (by kernel_rfl)⟩
end Go.Proofs.YtgnogboljobocaaGreatDoor
