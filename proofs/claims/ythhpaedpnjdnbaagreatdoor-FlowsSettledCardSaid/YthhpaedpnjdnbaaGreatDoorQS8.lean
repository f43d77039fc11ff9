/- Texts joined: G20 G21 G22 G30 G31 G32 U16 G33 G34 G35 G36 G41 G37 G38. -/
import Derived.Test.YthhpaedpnjdnbaaGreatDoorQS7
set_option linter.unusedVariables false
set_option linter.unusedSimpArgs false
namespace Go.Proofs.YthhpaedpnjdnbaaGreatDoor
open Go Go.Am
def inR5(x lo hi:Int):Bool:=decide (lo≤x∧x≤hi)
def inR5_a(x:Int)(lo:Int)(hi:Int):Prop:=okL [.int x,.int lo,.int hi]
def inR5_e(r:Bool):AV:=.bool r
def inR5_x(x:Int)(lo:Int)(hi:Int):Ax Tryz.prog noS (Bool):=
 (.br 80 (decide (lo≤x)) (.ret (decide (x≤hi)))
(.ret (false)))
def inR5_vc(x:Int)(lo:Int)(hi:Int)(r0:Bool):Prop:=(inR5_x x lo hi).vp inR5_e r0
theorem inR5_p(x lo hi:Int)(ok:inR5_a x lo hi):inR5_vc x lo hi (inR5 x lo hi):=by
 dsimp only [inR5_vc,inR5_x,noS,Ax.vp,Ax.vc];simp only [vcU,rfU,List.length_map]
 refine ⟨fun h=>decide_eq_decide.mpr ⟨fun q=>⟨h,q⟩,fun q=>q.2⟩,fun h=>(decide_eq_false fun q=>h q.1).symm⟩
def inR5_c(x:Int)(lo:Int)(hi:Int):PC Tryz.prog:=⟨150,[.k,.k,.k],[.int x,.int lo,.int hi],inR5_e (inR5 x lo hi),PSpec.of_ok fun ok=>mxP_of (sh:=.k) (enc:=inR5_e) (a:=(inR5_x x lo hi).an) (inR5_p x lo hi ok) (by kernel_rfl) (AV.pureB_ok rfl),fnB_ok (by kernel_rfl)⟩
theorem nodec{p:Prop}[Decidable p](h:¬p):false=decide p:=(decide_eq_false h).symm
def sigVR_a(s:Sig):Prop:=okL [.agg [.int s.kind,.int s.src,.int s.dst,.int s.epoch,.int s.ver,.int s.prev,.int s.pep,.int s.grp,.int s.mode,.sl 1 (s.srcs.map AV.int) false]]
def sigVR_n0(s:Sig)(t0:Bool):NF:=⟨[(1,.k,.ref 0 0),(3,.k,.bool t0)],[.box (.agg [.int s.kind,.int s.src,.int s.dst,.int s.epoch,.int s.ver,.int s.prev,.int s.pep,.int s.grp,.int s.mode,.sl 1 (s.srcs.map AV.int) false])]⟩
def sigVR_n1(t1:Bool):NF:=⟨[(126,.k,.bool t1)],[]⟩
@[reducible] def sigVR_s:Nat→Type
 | 0=>Bool
 | 1=>Bool
 | _=>Unit
def sigVR_e(r:Int):AV:=.int r
def sigVR_x(s:Sig)(I0:Bool→Prop)(I1:Bool→Bool→Prop):Ax Tryz.prog sigVR_s (Int):=
 (.pass (.join2 0 (sigVR_n0 s) (fun (t0:Bool)=>I0 t0) (fun b0=>(.callP (inR5_c s.src 1 99)
(.br 96 (inR5 s.src 1 99) (.callP (inR5_c s.dst 1 99)
(.br 176 (inR5 s.dst 1 99) (.br 352 (s.kind==1) (.br 384 (s.src != s.dst) (.callP (inR5_c s.epoch 1 1000000)
(.br 464 (inR5 s.epoch 1 1000000) (.callP (inR5_c s.ver 0 1000000)
(.br 544 (inR5 s.ver 0 1000000) (.br 624 (s.prev==0) (.br 704 (s.pep==0) (.bk 0 b0 ((s.grp==0):Bool) [0])
(.bk 0 b0 ((false):Bool) [0]))
(.bk 0 b0 ((false):Bool) [0]))
(.bk 0 b0 ((false):Bool) [0])))
(.bk 0 b0 ((false):Bool) [0])))
(.bk 0 b0 ((false):Bool) [0]))
(.br 384 (s.kind==2) (.br 416 (s.src != s.dst) (.callP (inR5_c s.epoch 1 1000000)
(.br 496 (inR5 s.epoch 1 1000000) (.callP (inR5_c s.ver 1 1000000)
(.br 576 (inR5 s.ver 1 1000000) (.callP (inR5_c s.prev 0 (W (s.ver-1)))
(.br 704 (inR5 s.prev 0 (W (s.ver-1))) (.br 784 (s.pep==0) (.callP (inR5_c s.grp 1 99)
(.bk 0 b0 ((inR5 s.grp 1 99):Bool) [0]))
(.bk 0 b0 ((false):Bool) [0]))
(.bk 0 b0 ((false):Bool) [0])))
(.bk 0 b0 ((false):Bool) [0])))
(.bk 0 b0 ((false):Bool) [0])))
(.bk 0 b0 ((false):Bool) [0]))
(.br 416 (s.kind==3) (.br 448 (s.src != s.dst) (.callP (inR5_c s.epoch 0 1000000)
(.br 528 (inR5 s.epoch 0 1000000) (.callP (inR5_c s.ver 0 1000000)
(.br 608 (inR5 s.ver 0 1000000) (.br 688 (s.prev==0) (.callP (inR5_c s.pep 1 1000000)
(.br 768 (inR5 s.pep 1 1000000) (.bk 0 b0 ((s.grp==0):Bool) [0])
(.bk 0 b0 ((false):Bool) [0])))
(.bk 0 b0 ((false):Bool) [0]))
(.bk 0 b0 ((false):Bool) [0])))
(.bk 0 b0 ((false):Bool) [0])))
(.bk 0 b0 ((false):Bool) [0]))
(.ret (1)))))
(.br 352 (s.kind==1) (.bk 0 b0 ((false):Bool) [0])
(.br 384 (s.kind==2) (.bk 0 b0 ((false):Bool) [0])
(.br 416 (s.kind==3) (.bk 0 b0 ((false):Bool) [0])
(.ret (1)))))))
(.br 352 (s.kind==1) (.bk 0 b0 ((false):Bool) [0])
(.br 384 (s.kind==2) (.bk 0 b0 ((false):Bool) [0])
(.br 416 (s.kind==3) (.bk 0 b0 ((false):Bool) [0])
(.ret (1)))))))) fun (t0:Bool) =>
(.br 33 (!t0) (.ret (2))
(.br 81 (s.kind==2) (.callP (FVal_c (⟨s.mode,s.srcs⟩:Flt))
(.ret (fltErr (⟨s.mode,s.srcs⟩:Flt).mode (⟨s.mode,s.srcs⟩:Flt).srcs)))
(.pass (.join 1 (sigVR_n1) (fun (t1:Bool)=>I1 t0 t1) (fun b1=>(.br 161 (s.mode != 0) (.bk 1 b1 ((true):Bool) [])
(.bk 1 b1 ((decide (0<((s.srcs.map AV.int).length:Int))):Bool) []))) fun (t1:Bool) =>
(.br 0 t1 (.ret (1))
(.ret (0)))))))))
def sigVR_vc(s:Sig)(I0:Bool→Prop)(I1:Bool→Bool→Prop)(r0:Int):Prop:=(sigVR_x s I0 I1).vp sigVR_e r0
theorem sigVR_p(s:Sig)(ok:sigVR_a s):∃I0 I1,sigVR_vc s I0 I1 (sigErr s):=by
 simp only [sigVR_a,okU,Blk.ok,plainV,List.length_map] at ok
 refine ⟨fun b=>(s.kind=1∨s.kind=2∨s.kind=3)∧(b=true↔sigEnds s∧sigNums s),fun b c=>c=true↔s.mode≠0∨s.srcs≠[],?_⟩
 dsimp only [sigVR_vc,sigVR_x,sigVR_s,Ax.vp,Ax.vc];simp only [vcU,rfU,List.length_map]
 have hv:s.kind=2→1≤s.ver→s.ver≤1000000→W (s.ver-1)=s.ver-1:=fun _ h1 h2=>W_eq (by omega)
 simp only [inR5,decide_eq_true_iff,decide_eq_false_iff_not,beq_iff_eq,beq_eq_false_iff_ne,bne_iff_ne,bne_eq_false_iff_eq,ne_eq,Bool.false_eq_true,false_iff,Int.natCast_pos,List.length_pos_iff]
 have hk:∀{A B C:Prop},(s.kind=1→A)→(s.kind≠1→s.kind=2→B)→(s.kind≠1→s.kind≠2→s.kind=3→C)→(s.kind=1→A)∧(¬s.kind=1→(s.kind=2→B)∧(¬s.kind=2→(s.kind=3→C)∧(¬s.kind=3→True))):=fun a b c=>⟨a,fun n=>⟨b n,fun m=>⟨c n m,fun _=>trivial⟩⟩⟩
 have n1:s.kind=1→(sigNums s↔(1≤s.epoch∧s.epoch≤1000000)∧(0≤s.ver∧s.ver≤1000000)∧s.prev=0∧s.pep=0∧s.grp=0):=fun e=>by unfold sigNums;rw [if_pos e]
 have n2:s.kind=2→(sigNums s↔(1≤s.epoch∧s.epoch≤1000000)∧(1≤s.ver∧s.ver≤1000000)∧(0≤s.prev∧s.prev≤s.ver-1)∧s.pep=0∧(1≤s.grp∧s.grp≤99)):=fun e=>by unfold sigNums;rw [if_neg (by omega),if_pos e]
 have n3:s.kind=3→(sigNums s↔(0≤s.epoch∧s.epoch≤1000000)∧(0≤s.ver∧s.ver≤1000000)∧s.prev=0∧(1≤s.pep∧s.pep≤1000000)∧s.grp=0):=fun e=>by unfold sigNums;rw [if_neg (by omega),if_neg (by omega)]
 have en:sigEnds s↔(1≤s.src∧s.src≤99)∧(1≤s.dst∧s.dst≤99)∧s.src≠s.dst:=Iff.rfl
 have hw:W (s.ver-1)=s.ver-1∨¬1≤s.ver:=by
  by_cases h:1≤s.ver
  ·exact .inl (W_eq (by omega))
  ·exact .inr h
 generalize W (s.ver-1)=w at *
 clear hv
 generalize hN:sigNums s=N at *
 rw [en]
 refine ⟨?_,fun b hb=>⟨fun e=>?_,fun e=>⟨fun k=>?_,fun k=>⟨⟨fun m=>?_,fun m=>?_⟩,fun c hc=>⟨fun e2=>?_,fun e2=>?_⟩⟩⟩⟩⟩
 ·refine ⟨fun a1=>⟨fun a2=>⟨fun k=>?_,fun k=>⟨fun k2=>?_,fun k2=>⟨fun k3=>?_,fun k3=>?_⟩⟩⟩,fun a2=>⟨fun k=>?_,fun k=>⟨fun k2=>?_,fun k2=>⟨fun k3=>?_,fun k3=>?_⟩⟩⟩⟩,fun a1=>⟨fun k=>?_,fun k=>⟨fun k2=>?_,fun k2=>⟨fun k3=>?_,fun k3=>?_⟩⟩⟩⟩
  all_goals first
   | (simp only [n1 k];omega)
   | (simp only [n2 k2];omega)
   | (simp only [n3 k3];omega)
   | (unfold sigErr;rw [if_pos (by omega)])
 ·have e:b=false:=by simpa using e
  subst e
  unfold sigErr
  rw [if_neg (by omega),if_pos]
  rintro ⟨q1,q2⟩
  exact Bool.noConfusion (hb.2.mpr ⟨q1,hN ▸ q2⟩)
 ·have q:=hb.2.mp (by simpa using e)
  unfold sigErr
  rw [if_neg (by omega),if_neg (not_not_intro ⟨q.1,hN ▸ q.2⟩),if_pos k]
 ·exact ⟨fun _=>.inl m,fun _=>trivial⟩
 ·exact ⟨fun q=>.inr q,fun q=>q.resolve_left fun z=>z m⟩
 ·have q:=hb.2.mp (by simpa using e)
  unfold sigErr
  rw [if_neg (by omega),if_neg (not_not_intro ⟨q.1,hN ▸ q.2⟩),if_neg k,if_pos (hc.mp e2)]
 ·have q:=hb.2.mp (by simpa using e)
  unfold sigErr
  rw [if_neg (by omega),if_neg (not_not_intro ⟨q.1,hN ▸ q.2⟩),if_neg k,if_neg]
  intro z
  have:=hc.mpr z
  rw [e2] at this;cases this
def sigVR_c(s:Sig):PC Tryz.prog:=⟨107,[(.a [.k,.k,.k,.k,.k,.k,.k,.k,.k,(.s 1)])],[.agg [.int s.kind,.int s.src,.int s.dst,.int s.epoch,.int s.ver,.int s.prev,.int s.pep,.int s.grp,.int s.mode,.sl 1 (s.srcs.map AV.int) false]],sigVR_e (sigErr s),PSpec.of_ok fun ok=>(sigVR_p s ok).elim fun I0 h=>h.elim fun I1 h=>mxP_of (sh:=.k) (enc:=sigVR_e) (a:=(sigVR_x s I0 I1).an) h (by kernel_rfl) (AV.pureB_ok rfl),fnB_ok (by kernel_rfl)⟩
def hasR(l:List Wnt)(g:Int):Bool:=decide (∃w∈l,w.grp=g)
def hasR_a(l:(List Wnt))(group:Int):Prop:=okL [.sl 3 (l.map Wnt.v) false,.int group]
def hasR_n0(l:(List Wnt))(group:Int)(t0:Int):NF:=⟨[(1,.k,.int group),(7,.k,.sl 3 (l.map Wnt.v) false),(8,.k,.int ((l.map Wnt.v).length:Int)),(9,.k,.int t0)],[]⟩
@[reducible] def hasR_s:Nat→Type
 | 0=>Int
 | _=>Unit
def hasR_e(r:Bool):AV:=.bool r
def hasR_x(l:(List Wnt))(group:Int)(I0:Int→Prop)(m0:Int→Nat):Ax Tryz.prog hasR_s (Bool):=
 (.loop 0 (hasR_n0 l group) I0 m0 ((0):Int) [] fun (t0:Int) b0 =>
(.br 16 (decide (t0<((l.map Wnt.v).length:Int))) (.el 16 Wnt.v l (fun R=>Rf (l.map Wnt.v) (ck (decide (0≤t0)) (ck (decide (t0<(l.length:Int)))
(∀x1,l[t0.toNat]?=some x1 →
(R x1))))) fun x1 =>
(.br 144 (x1.grp==group) (.ret (true))
(.bk 0 b0 ((W (t0+1)):Int) [])))
(.ret (false))))
def hasR_vc(l:(List Wnt))(group:Int)(I0:Int→Prop)(m0:Int→Nat)(r0:Bool):Prop:=(hasR_x l group I0 m0).vp hasR_e r0
theorem hasR_p(l:List Wnt)(g:Int)(ok:hasR_a l g):∃I m,hasR_vc l g I m (hasR l g):=by
 simp only [hasR_a,okU,Blk.ok,plainV,List.length_map] at ok
 refine ⟨fun t=>∃k:Nat,t=k∧k≤l.length∧∀x∈l.take k,x.grp≠g,fun t=>l.length-t.toNat,?_⟩
 dsimp only [hasR_vc,hasR_x,hasR_s,Ax.vp,Ax.vc];simp only [vcU,rfU,List.length_map]
 have hle:l.length≤9223372036854775807:=ok.1.1
 refine ⟨⟨0,rfl,by omega,by simp⟩,?_⟩
 rintro _ ⟨k,rfl,hk,hI⟩
 simp only [Int.toNat_natCast]
 refine ⟨fun h1=>⟨by omega,by omega,fun x hx=>⟨fun e=>?_,fun e=>?_⟩⟩,fun h1=>?_⟩
 ·exact (decide_eq_true ⟨x,mem_of_get hx,by simpa using e⟩).symm
 ·rw [W_succ (n:=l.length) (by omega) (by omega)]
  exact ⟨⟨k+1,rfl,by omega,(mem_take_succ hx).mpr ⟨hI,by simpa using e⟩⟩,by omega⟩
 ·rw [List.take_of_length_le (by omega)] at hI
  exact nodec fun ⟨w,hw,e⟩=>hI w hw e
def hasR_c(l:(List Wnt))(group:Int):PC Tryz.prog:=⟨157,[(.s 3),.k],[.sl 3 (l.map Wnt.v) false,.int group],hasR_e (hasR l group),PSpec.of_ok fun ok=>(hasR_p l group ok).elim fun I0 h=>h.elim fun m0 h=>mxP_of (sh:=.k) (enc:=hasR_e) (a:=(hasR_x l group I0 m0).an) h (by kernel_rfl) (AV.pureB_ok rfl),fnB_ok (by kernel_rfl)⟩
def appF(old c:List Wnt)(g:Int):Int×List Int:=if hasR c g=true then find2 c g else find2 old g
def applyG(old c:List Wnt):List Wnt×Int:=
 if wErr false old≠0 then ([],wErr false old) else if wErr true c≠0 then ([],wErr true c) else limitW (fromF (appF old c) 99)
theorem fromF_len{f:Int→Int×List Int}:∀n:Nat,(fromF f n).length≤n
 | 0=>Nat.le_refl _
 | n+1=>by
  rw [fromF,List.length_append]
  have:=fromF_len (f:=f) n
  unfold from1
  split<;>simp<;>omega
def applyR_a(old:(List Wnt))(changes:(List Wnt)):Prop:=okL [.sl 3 (old.map Wnt.v) false,.sl 3 (changes.map Wnt.v) false]
def applyR_n0(old:(List Wnt))(changes:(List Wnt))(t0:Int×(List Wnt)):NF:=⟨[(0,.k,.sl 3 (old.map Wnt.v) false),(1,.k,.sl 3 (changes.map Wnt.v) false),(8,.k,.vec 0),(9,.k,.int t0.1)],[.vec 3 (t0.2.map Wnt.v) (pureBL_map (fun _=>rfl) t0.2)]⟩
def applyR_n1(old:(List Wnt))(changes:(List Wnt))(t0:Int×(List Wnt))(t1:Flt):NF:=⟨[(0,.k,.sl 3 (old.map Wnt.v) false),(1,.k,.sl 3 (changes.map Wnt.v) false),(8,.k,.vec 0),(9,.k,.int t0.1),(10,.k,.ref 1 0)],[.vec 3 (t0.2.map Wnt.v) (pureBL_map (fun _=>rfl) t0.2),.box (.agg [.int t1.mode,.sl 1 (t1.srcs.map AV.int) false])]⟩
@[reducible] def applyR_s:Nat→Type
 | 0=>Int×(List Wnt)
 | 1=>Flt
 | _=>Unit
def applyR_e(r:(List Wnt)×Int):AV:=.tup [.sl 3 (r.1.map Wnt.v) false,.int r.2]
def applyR_x(old:(List Wnt))(changes:(List Wnt))(I0:(Int×(List Wnt))→Prop)(m0:(Int×(List Wnt))→Nat)(I1:Int×(List Wnt)→Flt→Prop):Ax Tryz.prog applyR_s ((List Wnt)×Int):=
 (.callP (valR_c old)
(.br 112 ((wErr false old) != 0) (.ret ([],wErr false old))
(.callP (checkR_c changes true)
(.br 192 ((wErr true changes) != 0) (.ret ([],wErr true changes))
(.cmdL (.nilT 8 3) (.loop 0 (applyR_n0 old changes) I0 m0 (1,[]) [224] fun (t0:Int×(List Wnt)) b0 =>
(.br 33 (decide (t0.1≤99)) (.callP (findR_c old t0.1)
(.join 1 (applyR_n1 old changes t0) (fun (t1:Flt)=>I1 t0 t1) (fun b1=>(.callP (hasR_c changes t0.1)
(.br 161 (hasR changes t0.1) (.callP (findR_c changes t0.1)
(.bk 1 b1 ((findW changes t0.1):Flt) [0,81]))
(.bk 1 b1 ((findW old t0.1):Flt) [0,81])))) fun (t1:Flt) =>
(.callP (Nothing_c )
(.callP (FSame_c t1 (⟨1,[]⟩:Flt))
(.br 66 (!(FSame t1 (⟨1,[]⟩:Flt))) (.say (fun R=>Rf (α:=List AV) (t0.2.map Wnt.v) (Rf (α:=List AV) [.agg [.int t0.1,.int t1.mode,.sl 1 (t1.srcs.map AV.int) false]]
(ck (decide (t0.2.length+1≤1048576))
R))) (.app 146 Wnt.v t0.2 [(⟨t0.1,t1.mode,t1.srcs⟩:Wnt)]
(.bk 0 b0 (W (t0.1+1),t0.2++[(⟨t0.1,t1.mode,t1.srcs⟩:Wnt)]) [146])))
(.bk 0 b0 (W (t0.1+1),t0.2) [0]))))))
(.br 81 (decide (32<((t0.2.map Wnt.v).length:Int))) (.ret ([],3))
(.say (Rf (t0.2.map Wnt.v)) (.cmdL (.frzE 0 (t0.2.map Wnt.v) (pureBL_map (fun _=>rfl) t0.2)) (.ret (t0.2,0))))))))))))
def applyR_vc(old:(List Wnt))(changes:(List Wnt))(I0:(Int×(List Wnt))→Prop)(m0:(Int×(List Wnt))→Nat)(I1:Int×(List Wnt)→Flt→Prop)(r0:(List Wnt)×Int):Prop:=(applyR_x old changes I0 m0 I1).vp applyR_e r0
theorem applyR_p(old c:List Wnt)(ok:applyR_a old c):∃I0 m0 I1,applyR_vc old c I0 m0 I1 (applyG old c):=by
 refine ⟨fun t=>∃k:Nat,t.1=(k:Int)+1∧k≤99∧t.2=fromF (appF old c) k,fun t=>100-t.1.toNat,fun t f=>(f.mode,f.srcs)=appF old c t.1,?_⟩
 dsimp only [applyR_vc,applyR_x,applyR_s,Ax.vp,Ax.vc];simp only [vcU,rfU,List.length_map]
 unfold applyG
 refine ⟨fun h=>by rw [if_pos (by simpa using h)],fun h=>⟨fun h2=>?_,fun h2=>⟨⟨0,rfl,by omega,rfl⟩,?_⟩⟩⟩
 ·rw [if_neg (by simpa using h),if_pos (by simpa using h2)]
 ·rw [if_neg (by simpa using h),if_neg (by simpa using h2)]
  rintro ⟨_,_⟩ ⟨k,rfl,hk,rfl⟩
  have hlen:=fromF_len (f:=appF old c) k
  simp only
  have hw:(k:Int)+1≤99→W ((k:Int)+1+1)=((k+1:Nat):Int)+1:=fun _=>by rw [W_eq (by omega)];omega
  refine ⟨fun h1=>⟨⟨fun q=>?_,fun q=>?_⟩,fun f hf=>⟨fun q=>⟨by omega,?_⟩,fun q=>?_⟩⟩,fun h1=>⟨fun q=>?_,fun q=>?_⟩⟩
  ·unfold appF;rw [if_pos q];rfl
  ·unfold appF;rw [if_neg (by simp [q])];rfl
  ·rw [hw h1]
   refine ⟨⟨k+1,rfl,by omega,?_⟩,by omega⟩
   rw [fromF,from1,if_neg]
   ·rw [←hf]
   ·rw [←hf]
    intro e
    simp only [Prod.mk.injEq] at e
    simp [FSame,flt_eq,e.1,e.2] at q
  ·rw [hw h1]
   refine ⟨⟨k+1,rfl,by omega,?_⟩,by omega⟩
   have e:f=⟨1,[]⟩:=by simpa [FSame] using q
   rw [fromF,from1,if_pos,List.append_nil]
   rw [←hf,e]
  ·have:k=99:=by omega
   subst this
   unfold limitW
   rw [if_pos (by omega)]
  ·have:k=99:=by omega
   subst this
   unfold limitW
   rw [if_neg (by omega)]
def applyR_c(old:(List Wnt))(changes:(List Wnt)):PC Tryz.prog:=⟨117,[(.s 3),(.s 3)],[.sl 3 (old.map Wnt.v) false,.sl 3 (changes.map Wnt.v) false],applyR_e (applyG old changes),PSpec.of_ok fun ok=>(applyR_p old changes ok).elim fun I0 h=>h.elim fun m0 h=>h.elim fun I1 h=>mxP_of (sh:=(.a [(.s 3),.k])) (enc:=applyR_e) (a:=(applyR_x old changes I0 m0 I1).an) h (by kernel_rfl) (AV.pureB_ok rfl),fnB_ok (by kernel_rfl)⟩
theorem find2_nil(g:Int):find2 [] g=(1,[]):=rfl
theorem applyG_err(c:List Wnt):(applyG [] c).2=wErr true c:=by
 unfold applyG
 rw [if_neg (by decide)]
 split
 ·rfl
 ·rename_i h
  have h:wErr true c=0:=by omega
  obtain ⟨h1,h2,h3,h4,h5⟩:=wErr_zero.mp h
  have e:fromF (appF [] c) 99=c.filter fun w=>decide (¬isNoW w):=by
   refine ascW_ext (fromF_asc 99) (h5.filter _) fun w=>?_
   rw [mem_fromF,List.mem_filter]
   simp only [decide_eq_true_iff]
   constructor
   ·rintro ⟨q1,q2,q3⟩
    unfold appF at q2 q3
    by_cases hh:hasR c w.grp=true
    ·rw [if_pos hh] at q2 q3
     obtain ⟨y,hy,e1,e2⟩:=findW_some (find2_ne.mp q3)
     have e3:find2 c w.grp=(y.mode,y.srcs):=by unfold find2;rw [e2]
     rw [q2] at e3 q3
     simp only [Prod.mk.injEq] at e3
     have:y=w:=by rw [Wnt.eq_iff];exact ⟨e1,e3.1.symm,e3.2.symm⟩
     subst this
     exact ⟨hy,fun hn=>q3 (by rw [hn.1,hn.2])⟩
    ·rw [if_neg hh,find2_nil] at q3;exact absurd rfl q3
   ·rintro ⟨q1,q2⟩
    have hh:hasR c w.grp=true:=decide_eq_true ⟨w,q1,rfl⟩
    have e1:appF [] c w.grp=(w.mode,w.srcs):=by
     unfold appF
     rw [if_pos hh]
     unfold find2
     rw [findW_in h5 q1]
    refine ⟨h2 w q1,e1,?_⟩
    rw [e1]
    intro e
    simp only [Prod.mk.injEq] at e
    exact q2 e
  have hl:(fromF (appF [] c) 99).length≤32:=by
   rw [e]
   exact Nat.le_trans (List.length_filter_le _ _) h1
  unfold limitW
  rw [if_neg (by omega),h]
theorem chg_take_len{s:Spk}(hs:spkOk s){c:List Wnt}(hc:wErr true c=0)(j:Nat):((c.take j).foldl chg1 (s.last,s.items)).2.length≤99∧0≤((c.take j).foldl chg1 (s.last,s.items)).1∧((c.take j).foldl chg1 (s.last,s.items)).1≤s.last+32:=by
 have ho:=chgOk_of hc
 obtain ⟨q1,q2,q3,q4⟩:=chg_ok (c:=c.take j) hs.2.2.2.1 hs.2.2.1.1 fun w hw=>ho w (List.mem_of_mem_take hw)
 refine ⟨itms_len q1,q4,?_⟩
 have:=(wErr_zero.mp hc).1
 rw [List.length_take] at q3
 omega
def changeR_a(s:Spk)(changes:(List Wnt)):Prop:=okL [.agg [.int s.router,.int s.epoch,.int s.last,.sl 4 (s.items.map Itm.v) false,.sl 3 (s.peers.map Per.v) false],.sl 3 (changes.map Wnt.v) false]
def changeR_n0(changes:(List Wnt))(t0:Int×Spk):NF:=⟨[(4,.k,.ref 0 0),(9,.k,.ref 1 0),(38,.k,.sl 3 (changes.map Wnt.v) false),(39,.k,.int ((changes.map Wnt.v).length:Int)),(40,.k,.int t0.1)],[.box (.agg [.int 0,.int 0,.int 0,.sl 0 [] true,.sl 0 [] true]),.box (.agg [.int t0.2.router,.int t0.2.epoch,.int t0.2.last,.sl 4 (t0.2.items.map Itm.v) false,.sl 3 (t0.2.peers.map Per.v) false])]⟩
@[reducible] def changeR_s:Nat→Type
 | 0=>Int×Spk
 | _=>Unit
def changeR_e(r:Spk×Int):AV:=.tup [Spk.v r.1,.int r.2]
def changeR_x(s:Spk)(changes:(List Wnt))(I0:(Int×Spk)→Prop)(m0:(Int×Spk)→Nat):Ax Tryz.prog changeR_s (Spk×Int):=
 (.callP (valR6_c s)
(.br 128 ((valS s) != 0) (.ret ((⟨0,0,0,[],[]⟩:Spk),valS s))
(.callP (applyR_c [] changes)
(.br 272 (((applyG [] changes).2) != 0) (.ret ((⟨0,0,0,[],[]⟩:Spk),(applyG [] changes).2))
(.say (fun R=>Rf (α:=List AV) [] (Rf (α:=List AV) (s.peers.map Per.v)
(ck (decide (0+s.peers.length≤1048576))
R))) (.app 368 Per.v [] s.peers
(.say (fun R=>Rf (α:=List AV) [] (Rf (α:=List AV) (s.items.map Itm.v)
(ck (decide (0+s.items.length≤1048576))
R))) (.app 464 Itm.v [] s.items
(.say (Rf (s.items.map Itm.v)) (.cmd (.frzE 464 (s.items.map Itm.v) (pureBL_map (fun _=>rfl) s.items)) (.say (Rf (s.peers.map Per.v)) (.cmd (.frzE 368 (s.peers.map Per.v) (pureBL_map (fun _=>rfl) s.peers)) (.loop 0 (changeR_n0 changes) I0 m0 (0,s) [16,288] fun (t0:Int×Spk) b0 =>
(.br 18 (decide (t0.1<((changes.map Wnt.v).length:Int))) (.el 18 Wnt.v changes (fun R=>Rf (changes.map Wnt.v) (ck (decide (0≤t0.1)) (ck (decide (t0.1<(changes.length:Int)))
(∀x1,changes[t0.1.toNat]?=some x1 →
(R x1))))) fun x1 =>
(.callP (findI_c t0.2.items x1.grp)
(.callP (FSame_c (⟨(told t0.2.items x1.grp).1,(told t0.2.items x1.grp).2⟩:Flt) (⟨x1.mode,x1.srcs⟩:Flt))
(.br 210 (FSame (⟨(told t0.2.items x1.grp).1,(told t0.2.items x1.grp).2⟩:Flt) (⟨x1.mode,x1.srcs⟩:Flt)) (.bk 0 b0 (W (t0.1+1),t0.2) [0,1])
(.req 434 (t0.2.items.length≤999999) fun h2 =>
(.callP (putR_c t0.2.items (⟨W (t0.2.last+1),x1.grp,x1.mode,x1.srcs⟩:Itm) h2)
(.bk 0 b0 (W (t0.1+1),(⟨t0.2.router,t0.2.epoch,W (t0.2.last+1),put1 t0.2.items (⟨W (t0.2.last+1),x1.grp,x1.mode,x1.srcs⟩:Itm),t0.2.peers⟩:Spk)) [0,1])))))))
(.br 66 (decide (1000000<t0.2.last)) (.ret ((⟨0,0,0,[],[]⟩:Spk),3))
(.ret (t0.2,0)))))))))))))))))
def changeR_vc(s:Spk)(changes:(List Wnt))(I0:(Int×Spk)→Prop)(m0:(Int×Spk)→Nat)(r0:Spk×Int):Prop:=(changeR_x s changes I0 m0).vp changeR_e r0
theorem changeR_p(s:Spk)(c:List Wnt)(ok:changeR_a s c):∃I m,changeR_vc s c I m (change s c):=by
 refine ⟨fun t=>∃j:Nat,t.1=j∧j≤c.length∧t.2=⟨s.router,s.epoch,((c.take j).foldl chg1 (s.last,s.items)).1,((c.take j).foldl chg1 (s.last,s.items)).2,s.peers⟩,fun t=>c.length-t.1.toNat,?_⟩
 dsimp only [changeR_vc,changeR_x,changeR_s,Ax.vp,Ax.vc];simp only [vcU,rfU,List.length_map]
 have hv:valS s=if spkOk s then 0 else 1:=rfl
 rw [hv,applyG_err]
 unfold change
 by_cases h1:spkOk s
 case neg=>rw [if_neg h1,if_pos h1];simp [spk0]
 rw [if_pos h1,if_neg (not_not_intro h1)]
 refine ⟨fun q=>by simp at q,fun _=>⟨fun h2=>?_,fun h2=>?_⟩⟩
 ·have h2:wErr true c≠0:=by simpa using h2
  rw [if_pos h2];rfl
 have h2:wErr true c=0:=by simpa using h2
 rw [if_neg (not_not_intro h2)]
 have hp:=h1.2.2.2.2.1
 have hi:=itms_len h1.2.2.2.1
 have hl:=h1.2.2.1
 have hcl:=(wErr_zero.mp h2).1
 refine ⟨by omega,by omega,⟨0,rfl,by omega,rfl⟩,?_⟩
 rintro ⟨_,_⟩ ⟨j,rfl,hj,rfl⟩
 obtain ⟨b1,b2,b3⟩:=chg_take_len h1 h2 j
 simp only [Int.toNat_natCast]
 refine ⟨fun h3=>⟨by omega,by omega,fun x hx=>?_⟩,fun h3=>?_⟩
 ·rw [W_succ (n:=c.length) (by omega) (by omega)]
  have e:(c.take (j+1)).foldl chg1 (s.last,s.items)=chg1 ((c.take j).foldl chg1 (s.last,s.items)) x:=by rw [take_succ hx,List.foldl_append];rfl
  generalize (c.take j).foldl chg1 (s.last,s.items)=u at *
  refine ⟨fun q=>⟨⟨j+1,rfl,by omega,?_⟩,by omega⟩,fun q=>⟨by omega,⟨j+1,rfl,by omega,?_⟩,by omega⟩⟩
  ·rw [e,chg1,if_pos]
   have q:(told u.2 x.grp).1=x.mode∧(told u.2 x.grp).2=x.srcs:=by simpa [FSame,flt_eq] using q
   rw [←q.1,←q.2]
  ·rw [e,chg1,if_neg,W_eq (by omega)]
   intro z
   have z1:=congrArg Prod.fst z
   have z2:=congrArg Prod.snd z
   simp [FSame,flt_eq] at q z1 z2
   exact q z1 z2
 ·rw [List.take_of_length_le (by omega)]
  refine ⟨fun q=>?_,fun q=>?_⟩
  ·rw [if_pos q];rfl
  ·rw [if_neg q]
def changeR_c(s:Spk)(changes:(List Wnt)):PC Tryz.prog:=⟨78,[(.a [.k,.k,.k,(.s 4),(.s 3)]),(.s 3)],[.agg [.int s.router,.int s.epoch,.int s.last,.sl 4 (s.items.map Itm.v) false,.sl 3 (s.peers.map Per.v) false],.sl 3 (changes.map Wnt.v) false],changeR_e (change s changes),PSpec.of_ok fun ok=>(changeR_p s changes ok).elim fun I0 h=>h.elim fun m0 h=>mxP_of (sh:=(.a [(.a [.k,.k,.k,(.s 4),(.s 3)]),.k])) (enc:=changeR_e) (a:=(changeR_x s changes I0 m0).an) h (by kernel_rfl) (AV.pureB_ok rfl),fnB_ok (by kernel_rfl)⟩
def wantsR_a(l:(List Itm)):Prop:=okL [.sl 4 (l.map Itm.v) false]
def wantsR_n0(l:(List Itm))(t0:Int×(List Wnt)):NF:=⟨[(0,.k,.sl 4 (l.map Itm.v) false),(3,.k,.vec 0),(4,.k,.int t0.1)],[.vec 3 (t0.2.map Wnt.v) (pureBL_map (fun _=>rfl) t0.2)]⟩
@[reducible] def wantsR_s:Nat→Type
 | 0=>Int×(List Wnt)
 | _=>Unit
def wantsR_e(r:(List Wnt)):AV:=.sl 3 (r.map Wnt.v) false
def wantsR_x(l:(List Itm))(I0:(Int×(List Wnt))→Prop)(m0:(Int×(List Wnt))→Nat):Ax Tryz.prog wantsR_s ((List Wnt)):=
 (.callP (itemsR_c l 1000000)
(.br 64 (!(itemsB l 1000000)) (.ret ([]))
(.cmdL (.nilT 3 3) (.loop 0 (wantsR_n0 l) I0 m0 (1,[]) [96] fun (t0:Int×(List Wnt)) b0 =>
(.br 33 (decide (t0.1≤99)) (.callP (findI_c l t0.1)
(.callP (Nothing_c )
(.callP (FSame_c (⟨(told l t0.1).1,(told l t0.1).2⟩:Flt) (⟨1,[]⟩:Flt))
(.br 177 (!(FSame (⟨(told l t0.1).1,(told l t0.1).2⟩:Flt) (⟨1,[]⟩:Flt))) (.say (fun R=>Rf (α:=List AV) (t0.2.map Wnt.v) (Rf (α:=List AV) [.agg [.int t0.1,.int ((told l t0.1).1),.sl 1 (((told l t0.1).2).map AV.int) false]]
(ck (decide (t0.2.length+1≤1048576))
R))) (.app 257 Wnt.v t0.2 [(⟨t0.1,(told l t0.1).1,(told l t0.1).2⟩:Wnt)]
(.bk 0 b0 (W (t0.1+1),t0.2++[(⟨t0.1,(told l t0.1).1,(told l t0.1).2⟩:Wnt)]) [257])))
(.bk 0 b0 (W (t0.1+1),t0.2) [0])))))
(.say (Rf (t0.2.map Wnt.v)) (.cmdL (.frzE 0 (t0.2.map Wnt.v) (pureBL_map (fun _=>rfl) t0.2)) (.ret (t0.2)))))))))
def wantsR_vc(l:(List Itm))(I0:(Int×(List Wnt))→Prop)(m0:(Int×(List Wnt))→Nat)(r0:(List Wnt)):Prop:=(wantsR_x l I0 m0).vp wantsR_e r0
theorem wantsR_p(l:List Itm)(ok:wantsR_a l):∃I m,wantsR_vc l I m (wantsOf l):=by
 refine ⟨fun t=>∃k:Nat,t.1=(k:Int)+1∧k≤99∧t.2=fromF (told l) k,fun t=>100-t.1.toNat,?_⟩
 dsimp only [wantsR_vc,wantsR_x,wantsR_s,Ax.vp,Ax.vc];simp only [vcU,rfU,List.length_map]
 simp only [itemsB,Bool.not_eq_true',decide_eq_false_iff_not,Bool.not_eq_false',decide_eq_true_iff]
 refine ⟨fun h=>by rw [wantsOf,if_neg h],fun h=>⟨⟨0,rfl,by omega,rfl⟩,?_⟩⟩
 rintro ⟨_,_⟩ ⟨k,rfl,hk,rfl⟩
 have hlen:=fromF_len (f:=told l) k
 simp only
 have hw:(k:Int)+1≤99→W ((k:Int)+1+1)=((k+1:Nat):Int)+1:=fun _=>by rw [W_eq (by omega)];omega
 refine ⟨fun h1=>⟨fun q=>⟨by omega,?_⟩,fun q=>?_⟩,fun h1=>?_⟩
 ·rw [hw h1]
  refine ⟨⟨k+1,rfl,by omega,?_⟩,by omega⟩
  rw [fromF,from1,if_neg]
  intro e
  have e1:=congrArg Prod.fst e
  have e2:=congrArg Prod.snd e
  simp only at e1 e2
  simp [FSame,flt_eq,e1,e2] at q
 ·rw [hw h1]
  refine ⟨⟨k+1,rfl,by omega,?_⟩,by omega⟩
  have e:(told l ((k:Int)+1)).1=1∧(told l ((k:Int)+1)).2=[]:=by simpa [FSame,flt_eq] using q
  rw [fromF,from1,if_pos,List.append_nil]
  exact Prod.ext e.1 e.2
 ·have:k=99:=by omega
  subst this
  rw [wantsOf,if_pos h]
def wantsR_c(l:(List Itm)):PC Tryz.prog:=⟨77,[(.s 4)],[.sl 4 (l.map Itm.v) false],wantsR_e (wantsOf l),PSpec.of_ok fun ok=>(wantsR_p l ok).elim fun I0 h=>h.elim fun m0 h=>mxP_of (sh:=(.s 3)) (enc:=wantsR_e) (a:=(wantsR_x l I0 m0).an) h (by kernel_rfl) (AV.pureB_ok rfl),fnB_ok (by kernel_rfl)⟩
def idxP(l:List Per)(r:Int):Int:=match l.findIdx? fun p=>decide (p.router=r) with
 | some i=>i
 | none=>-1
theorem idxP_some{l:List Per}{r:Int}{i:Nat}{x:Per}(hx:l[i]?=some x)(h:x.router=r)(hb:∀y∈l.take i,y.router≠r):idxP l r=i:=by
 obtain ⟨hi,hxi⟩:=List.getElem?_eq_some_iff.mp hx
 have:l.findIdx? (fun p=>decide (p.router=r))=some i:=by
  rw [List.findIdx?_eq_some_iff_getElem]
  refine ⟨hi,by rw [hxi];simpa using h,fun j hj=>?_⟩
  have:=hb l[j] (List.mem_of_getElem? (i:=j) (by rw [List.getElem?_take,if_pos hj,List.getElem?_eq_getElem (by omega)]))
  simpa using this
 unfold idxP;rw [this]
theorem idxP_none{l:List Per}{r:Int}(hb:∀y∈l,y.router≠r):idxP l r=-1:=by
 have:l.findIdx? (fun p=>decide (p.router=r))=none:=by
  rw [List.findIdx?_eq_none_iff]
  intro x hx;simpa using hb x hx
 unfold idxP;rw [this]
def peerR_a(s:Spk)(router:Int):Prop:=okL [.agg [.int s.router,.int s.epoch,.int s.last,.sl 4 (s.items.map Itm.v) false,.sl 3 (s.peers.map Per.v) false],.int router]
def peerR_n0(s:Spk)(router:Int)(t0:Int):NF:=⟨[(1,.k,.int router),(8,.k,.sl 3 (s.peers.map Per.v) false),(9,.k,.int ((s.peers.map Per.v).length:Int)),(10,.k,.int t0)],[]⟩
@[reducible] def peerR_s:Nat→Type
 | 0=>Int
 | _=>Unit
def peerR_e(r:Int):AV:=.int r
def peerR_x(s:Spk)(router:Int)(I0:Int→Prop)(m0:Int→Nat):Ax Tryz.prog peerR_s (Int):=
 (.loop 0 (peerR_n0 s router) I0 m0 ((0):Int) [] fun (t0:Int) b0 =>
(.br 16 (decide (t0<((s.peers.map Per.v).length:Int))) (.el 32 Per.v s.peers (fun R=>Rf (s.peers.map Per.v) (ck (decide (0≤t0)) (ck (decide (t0<(s.peers.length:Int)))
(∀x1,s.peers[t0.toNat]?=some x1 →
(R x1))))) fun x1 =>
(.br 176 (x1.router==router) (.ret (t0))
(.bk 0 b0 ((W (t0+1)):Int) [])))
(.ret (-1))))
def peerR_vc(s:Spk)(router:Int)(I0:Int→Prop)(m0:Int→Nat)(r0:Int):Prop:=(peerR_x s router I0 m0).vp peerR_e r0
theorem peerR_p(s:Spk)(r:Int)(ok:peerR_a s r):∃I m,peerR_vc s r I m (idxP s.peers r):=by
 unfold peerR_a at ok
 refine ⟨fun t=>∃k:Nat,t=k∧k≤s.peers.length∧∀x∈s.peers.take k,x.router≠r,fun t=>s.peers.length-t.toNat,?_⟩
 dsimp only [peerR_vc,peerR_x,peerR_s,Ax.vp,Ax.vc];simp only [vcU,rfU,List.length_map]
 have hle:s.peers.length≤9223372036854775807:=by
  have h:=ok
  simp only [Spk.v,pers,AV.ok,okL,List.length_map,maxLen_eq] at h
  omega
 refine ⟨⟨0,rfl,by omega,by simp⟩,?_⟩
 rintro _ ⟨k,rfl,hk,hI⟩
 simp only [Int.toNat_natCast]
 refine ⟨fun h1=>⟨by omega,by omega,fun x hx=>⟨fun e=>?_,fun e=>?_⟩⟩,fun h1=>?_⟩
 ·rw [idxP_some hx (by simpa using e) hI]
 ·rw [W_succ (n:=s.peers.length) (by omega) (by omega)]
  exact ⟨⟨k+1,rfl,by omega,(mem_take_succ hx).mpr ⟨hI,by simpa using e⟩⟩,by omega⟩
 ·rw [List.take_of_length_le (by omega)] at hI
  rw [idxP_none hI]
def peerR_c(s:Spk)(router:Int):PC Tryz.prog:=⟨108,[(.a [.k,.k,.k,(.s 4),(.s 3)]),.k],[.agg [.int s.router,.int s.epoch,.int s.last,.sl 4 (s.items.map Itm.v) false,.sl 3 (s.peers.map Per.v) false],.int router],peerR_e (idxP s.peers router),PSpec.of_ok fun ok=>(peerR_p s router ok).elim fun I0 h=>h.elim fun m0 h=>mxP_of (sh:=.k) (enc:=peerR_e) (a:=(peerR_x s router I0 m0).an) h (by kernel_rfl) (AV.pureB_ok rfl),fnB_ok (by kernel_rfl)⟩
theorem idxP_asc{l:List Per}{r:Int}(ho:l.Pairwise fun x y=>x.router<y.router):idxP l r=if hitP l r then (posP l r:Int) else -1:=by
 by_cases h:hitP l r
 ·rw [if_pos h]
  have h1:l[posP l r]?=some (l[posP l r]'h.1):=List.getElem?_eq_getElem h.1
  have h2:(l[posP l r]'h.1).router=r:=by
   have:=h.2
   rw [List.getD_eq_getElem?_getD,h1] at this
   exact this
  refine idxP_some h1 h2 fun y hy=>?_
  obtain ⟨i,hi,rfl⟩:=List.getElem_of_mem hy
  rw [List.length_take] at hi
  rw [List.getElem_take]
  have:=posK_lt (key:=Per.router) (l:=l) (r:=r) (i:=i) (show i<posP l r by omega) (by omega)
  omega
 ·rw [if_neg h]
  exact idxP_none fun y hy e=>h ((hitP_iff ho).mpr ⟨y,hy,e⟩)
def sendR_a(s:Spk)(router:Int):Prop:=okL [.agg [.int s.router,.int s.epoch,.int s.last,.sl 4 (s.items.map Itm.v) false,.sl 3 (s.peers.map Per.v) false],.int router]
def sendR_n0(s:Spk)(router:Int)(t0:Int×Int×(List Sig)):NF:=⟨[(1,.k,.int router),(2,.k,.ref 0 0),(7,.k,.int (idxP s.peers router)),(8,.k,.vec 1),(9,.k,.int t0.1),(32,.k,.sl 4 (s.items.map Itm.v) false),(33,.k,.int ((s.items.map Itm.v).length:Int)),(34,.k,.int t0.2.1)],[.box (.agg [.int s.router,.int s.epoch,.int s.last,.sl 4 (s.items.map Itm.v) false,.sl 3 (s.peers.map Per.v) false]),.vec 10 (t0.2.2.map Sig.v) (pureBL_map (fun _=>rfl) t0.2.2)]⟩
@[reducible] def sendR_s:Nat→Type
 | 0=>Int×Int×(List Sig)
 | _=>Unit
def sendR_e(r:(List Sig)×Int):AV:=.tup [.sl 10 (r.1.map Sig.v) false,.int r.2]
def sendR_x(s:Spk)(router:Int)(I0:(Int×Int×(List Sig))→Prop)(m0:(Int×Int×(List Sig))→Nat):Ax Tryz.prog sendR_s ((List Sig)×Int):=
 (.callP (valR6_c s)
(.br 128 ((valS s) != 0) (.ret ([],valS s))
(.callP (peerR_c s router)
(.br 224 (decide ((idxP s.peers router)<0)) (.ret ([],4))
(.own 352 (.cmdL (.wkB 352 (.a [.k,.k,.k,.k,.k,.k,.k,.k,.k,(.s 1)])) (.loop 0 (sendR_n0 s router) I0 m0 (0,0,[(⟨1,s.router,router,s.epoch,s.last,0,0,0,0,[]⟩:Sig)]) [0,352] fun (t0:Int×Int×(List Sig)) b0 =>
(.br 18 (decide (t0.2.1<((s.items.map Itm.v).length:Int))) (.el 18 Itm.v s.items (fun R=>Rf (s.items.map Itm.v) (ck (decide (0≤t0.2.1)) (ck (decide (t0.2.1<(s.items.length:Int)))
(∀x1,s.items[t0.2.1.toNat]?=some x1 →
(R x1))))) fun x1 =>
(.el 162 Per.v s.peers (fun R=>Rf (s.peers.map Per.v) (ck (decide (0≤(idxP s.peers router))) (ck (decide ((idxP s.peers router)<(s.peers.length:Int)))
(∀x2,s.peers[(idxP s.peers router).toNat]?=some x2 →
(R x2))))) fun x2 =>
(.br 226 (decide (x2.acked<x1.ver)) (.own 450 (.say (fun R=>Rf (α:=List AV) (t0.2.2.map Sig.v) (Rf (α:=List AV) [.agg [.int 2,.int s.router,.int router,.int s.epoch,.int x1.ver,.int t0.1,.int 0,.int x1.grp,.int x1.mode,.sl 1 (x1.srcs.map AV.int) false]]
(ck (decide (t0.2.2.length+1≤1048576))
R))) (.app 466 Sig.v t0.2.2 [(⟨2,s.router,router,s.epoch,x1.ver,t0.1,0,x1.grp,x1.mode,x1.srcs⟩:Sig)]
(.bk 0 b0 (x1.ver,W (t0.2.1+1),t0.2.2++[(⟨2,s.router,router,s.epoch,x1.ver,t0.1,0,x1.grp,x1.mode,x1.srcs⟩:Sig)]) [0,466]))))
(.bk 0 b0 (x1.ver,W (t0.2.1+1),t0.2.2) [0,1]))))
(.say (Rf (t0.2.2.map Sig.v)) (.cmdL (.frzE 1 (t0.2.2.map Sig.v) (pureBL_map (fun _=>rfl) t0.2.2)) (.ret (t0.2.2,0))))))))))))
def sendR_vc(s:Spk)(router:Int)(I0:(Int×Int×(List Sig))→Prop)(m0:(Int×Int×(List Sig))→Nat)(r0:(List Sig)×Int):Prop:=(sendR_x s router I0 m0).vp sendR_e r0
theorem sendR_p(s:Spk)(r:Int)(ok:sendR_a s r):∃I0 m0,sendR_vc s r I0 m0 (send s r):=by
 let ak:=(s.peers.getD (posP s.peers r) ⟨0,0,0⟩).acked
 refine ⟨fun t=>∃k:Nat,t.2.1=k∧k≤s.items.length∧t.2.2.length≤k+1∧hello s r::sendFrom s r ak 0 s.items=t.2.2++sendFrom s r ak t.1 (s.items.drop k),fun t=>s.items.length-t.2.1.toNat,?_⟩
 dsimp only [sendR_vc,sendR_x,sendR_s,Ax.vp,Ax.vc];simp only [vcU,rfU,List.length_map]
 have hv:valS s=if spkOk s then 0 else 1:=rfl
 rw [hv]
 by_cases hs:spkOk s
 case neg=>simp [send,hs]
 rw [if_pos hs,idxP_asc hs.2.2.2.2.2.2]
 refine ⟨fun e=>by simp at e,fun _=>⟨fun e=>?_,fun e=>?_⟩⟩
 ·rw [send,if_neg (not_not_intro hs),if_pos]
  intro q;rw [if_pos q] at e;omega
 have e:hitP s.peers r:=by
  refine Classical.byContradiction fun q=>e ?_
  rw [if_neg q];omega
 rw [if_pos e,Int.toNat_natCast]
 have fin:send s r=(hello s r::sendFrom s r ak 0 s.items,0):=by rw [send,if_neg (not_not_intro hs),if_neg (not_not_intro e)]
 have hil:=itms_len hs.2.2.2.1
 refine ⟨⟨0,rfl,by omega,by simp,rfl⟩,?_⟩
 rintro ⟨prev,_,acc⟩ ⟨k,rfl,hk,hal,h⟩
 simp only [Int.toNat_natCast] at *
 refine ⟨fun h1=>⟨by omega,by omega,fun x hx=>⟨by omega,by have:=e.1;omega,fun y hy=>?_⟩⟩,fun h1=>?_⟩
 ·have hy:ak=y.acked:=by show (s.peers.getD (posP s.peers r) ⟨0,0,0⟩).acked=_;rw [getD_some hy]
  have hd:s.items.drop k=x::s.items.drop (k+1):=by
   have hkl:=lt_of_get hx
   rw [List.drop_eq_getElem_cons hkl]
   rw [List.getElem?_eq_getElem hkl] at hx;rw [Option.some.inj hx]
  rw [hd,sendFrom] at h
  rw [W_succ (n:=s.items.length) (by omega) (by omega)]
  refine ⟨fun e3=>⟨by omega,⟨k+1,rfl,by omega,by simp;omega,?_⟩,by omega⟩,fun e3=>⟨⟨k+1,rfl,by omega,by omega,?_⟩,by omega⟩⟩
  ·rw [h,if_pos (by omega)];simp [upd1]
  ·rw [h,if_neg (by omega)];simp
 ·rw [List.drop_eq_nil_of_le (by omega),sendFrom,List.append_nil] at h
  rw [fin,h]
def sendR_c(s:Spk)(router:Int):PC Tryz.prog:=⟨64,[(.a [.k,.k,.k,(.s 4),(.s 3)]),.k],[.agg [.int s.router,.int s.epoch,.int s.last,.sl 4 (s.items.map Itm.v) false,.sl 3 (s.peers.map Per.v) false],.int router],sendR_e (send s router),PSpec.of_ok fun ok=>(sendR_p s router ok).elim fun I0 h=>h.elim fun m0 h=>mxP_of (sh:=(.a [(.s 10),.k])) (enc:=sendR_e) (a:=(sendR_x s router I0 m0).an) h (by kernel_rfl) (AV.pureB_ok rfl),fnB_ok (by kernel_rfl)⟩
def ackR_a(s:Spk)(x:Sig):Prop:=okL [.agg [.int s.router,.int s.epoch,.int s.last,.sl 4 (s.items.map Itm.v) false,.sl 3 (s.peers.map Per.v) false],.agg [.int x.kind,.int x.src,.int x.dst,.int x.epoch,.int x.ver,.int x.prev,.int x.pep,.int x.grp,.int x.mode,.sl 1 (x.srcs.map AV.int) false]]
def ackR_n0(s:Spk)(x:Sig)(t0:Bool):NF:=⟨[(2,.k,.ref 0 0),(3,.k,.ref 1 0),(4,.k,.ref 2 0),(33,.k,.bool t0)],[.box (.agg [.int s.router,.int s.epoch,.int s.last,.sl 4 (s.items.map Itm.v) false,.sl 3 (s.peers.map Per.v) false]),.box (.agg [.int x.kind,.int x.src,.int x.dst,.int x.epoch,.int x.ver,.int x.prev,.int x.pep,.int x.grp,.int x.mode,.sl 1 (x.srcs.map AV.int) false]),.box (.agg [.int 0,.int 0,.int 0,.sl 0 [] true,.sl 0 [] true])]⟩
def ackR_n1(s:Spk)(x:Sig)(t1:Int):NF:=⟨[(2,.k,.ref 0 0),(3,.k,.ref 1 0),(4,.k,.ref 2 0),(8,.k,.int (idxP s.peers x.src)),(9,.k,.int t1)],[.box (.agg [.int s.router,.int s.epoch,.int s.last,.sl 4 (s.items.map Itm.v) false,.sl 3 (s.peers.map Per.v) false]),.box (.agg [.int x.kind,.int x.src,.int x.dst,.int x.epoch,.int x.ver,.int x.prev,.int x.pep,.int x.grp,.int x.mode,.sl 1 (x.srcs.map AV.int) false]),.box (.agg [.int 0,.int 0,.int 0,.sl 0 [] true,.sl 0 [] true])]⟩
def ackR_n2(s:Spk)(x:Sig)(t2:Bool):NF:=⟨[(2,.k,.ref 0 0),(3,.k,.ref 1 0),(4,.k,.ref 2 0),(8,.k,.int (idxP s.peers x.src)),(9,.k,.int 0),(53,.k,.bool t2)],[.box (.agg [.int s.router,.int s.epoch,.int s.last,.sl 4 (s.items.map Itm.v) false,.sl 3 (s.peers.map Per.v) false]),.box (.agg [.int x.kind,.int x.src,.int x.dst,.int x.epoch,.int x.ver,.int x.prev,.int x.pep,.int x.grp,.int x.mode,.sl 1 (x.srcs.map AV.int) false]),.box (.agg [.int 0,.int 0,.int 0,.sl 0 [] true,.sl 0 [] true])]⟩
@[reducible] def ackR_s:Nat→Type
 | 0=>Bool
 | 1=>Int
 | 2=>Bool
 | _=>Unit
def ackR_e(r:Spk×Int):AV:=.tup [Spk.v r.1,.int r.2]
def ackR_x(s:Spk)(x:Sig)(I0:Bool→Prop)(I1:Bool→Int→Prop)(I2:Bool→Bool→Prop):Ax Tryz.prog ackR_s (Spk×Int):=
 (.callP (valR6_c s)
(.br 144 ((valS s) != 0) (.ret ((⟨0,0,0,[],[]⟩:Spk),valS s))
(.callP (sigVR_c x)
(.br 224 ((sigErr x) != 0) (.ret ((⟨0,0,0,[],[]⟩:Spk),sigErr x))
(.pass (.join 0 (ackR_n0 s x) (fun (t0:Bool)=>I0 t0) (fun b0=>(.br 288 (x.kind != 3) (.bk 0 b0 ((true):Bool) [0,16,32])
(.bk 0 b0 ((x.dst != s.router):Bool) [0,16,32]))) fun (t0:Bool) =>
(.br 3 t0 (.ret ((⟨0,0,0,[],[]⟩:Spk),1))
(.callP (peerR_c s x.src)
(.br 115 (decide ((idxP s.peers x.src)<0)) (.ret ((⟨0,0,0,[],[]⟩:Spk),4))
(.pass (.join 1 (ackR_n1 s x) (fun (t1:Int)=>I1 t0 t1) (fun b1=>(.join 2 (ackR_n2 s x) (fun (t2:Bool)=>I2 t0 t2) (fun b2=>(.br 227 (x.epoch==s.epoch) (.bk 2 b2 ((decide (x.ver≤s.last)):Bool) [0,1,2])
(.bk 2 b2 ((false):Bool) [0,1,2]))) fun (t2:Bool) =>
(.br 3 t2 (.bk 1 b1 ((x.ver):Int) [0,1,2])
(.bk 1 b1 ((0):Int) [0,1,2])))) fun (t1:Int) =>
(.say (fun R=>Rf (α:=List AV) [] (Rf (α:=List AV) (s.peers.map Per.v)
(ck (decide (0+s.peers.length≤1048576))
R))) (.app 99 Per.v [] s.peers
(.say (ck (cond (decide (0≤(idxP s.peers x.src))) (decide ((idxP s.peers x.src)<((s.peers.map Per.v).length:Int))) false)) (.el 307 Per.v s.peers (fun R=>Rf (s.peers.map Per.v) (ck (decide ((idxP s.peers x.src).toNat<s.peers.length))
(∀x1,s.peers[(idxP s.peers x.src).toNat]?=some x1 →
(R x1)))) fun x1 =>
(.br 355 (decide (x1.epoch<x.pep)) (.st 467 Per.v s.peers (fun y2=>(⟨y2.router,x.pep,y2.acked⟩:Per)) (fun R=>Rf (s.peers.map Per.v) (ck (decide ((idxP s.peers x.src).toNat<s.peers.length))
(∀y2,s.peers[(idxP s.peers x.src).toNat]?=some y2→Rf (Per.v (⟨y2.router,x.pep,y2.acked⟩:Per))
((R y2))))) fun y2 =>
(.st 515 Per.v (s.peers.set ((idxP s.peers x.src).toNat) (⟨y2.router,x.pep,y2.acked⟩:Per)) (fun y3=>(⟨y3.router,y3.epoch,t1⟩:Per)) (fun R=>Rf ((s.peers.set ((idxP s.peers x.src).toNat) (⟨y2.router,x.pep,y2.acked⟩:Per)).map Per.v) (ck (decide ((idxP s.peers x.src).toNat<(s.peers.set ((idxP s.peers x.src).toNat) (⟨y2.router,x.pep,y2.acked⟩:Per)).length))
(∀y3,(s.peers.set ((idxP s.peers x.src).toNat) (⟨y2.router,x.pep,y2.acked⟩:Per))[(idxP s.peers x.src).toNat]?=some y3→Rf (Per.v (⟨y3.router,y3.epoch,t1⟩:Per))
((R y3))))) fun y3 =>
(.say (Rf (((s.peers.set ((idxP s.peers x.src).toNat) (⟨y2.router,x.pep,y2.acked⟩:Per)).set ((idxP s.peers x.src).toNat) (⟨y3.router,y3.epoch,t1⟩:Per)).map Per.v)) (.cmdL (.frzE 99 (((s.peers.set ((idxP s.peers x.src).toNat) (⟨y2.router,x.pep,y2.acked⟩:Per)).set ((idxP s.peers x.src).toNat) (⟨y3.router,y3.epoch,t1⟩:Per)).map Per.v) (pureBL_map (fun _=>rfl) ((s.peers.set ((idxP s.peers x.src).toNat) (⟨y2.router,x.pep,y2.acked⟩:Per)).set ((idxP s.peers x.src).toNat) (⟨y3.router,y3.epoch,t1⟩:Per)))) (.ret ((⟨s.router,s.epoch,s.last,s.items,(s.peers.set ((idxP s.peers x.src).toNat) (⟨y2.router,x.pep,y2.acked⟩:Per)).set ((idxP s.peers x.src).toNat) (⟨y3.router,y3.epoch,t1⟩:Per)⟩:Spk),0))))))
(.el 435 Per.v s.peers (fun R=>Rf (s.peers.map Per.v) (ck (decide ((idxP s.peers x.src).toNat<s.peers.length))
(∀x4,s.peers[(idxP s.peers x.src).toNat]?=some x4 →
(R x4)))) fun x4 =>
(.br 483 (x.pep==x4.epoch) (.el 547 Per.v s.peers (fun R=>Rf (s.peers.map Per.v) (ck (decide ((idxP s.peers x.src).toNat<s.peers.length))
(∀x5,s.peers[(idxP s.peers x.src).toNat]?=some x5 →
(R x5)))) fun x5 =>
(.st 627 Per.v s.peers (fun y6=>(⟨y6.router,y6.epoch,maxI x5.acked t1⟩:Per)) (fun R=>Rf (s.peers.map Per.v) (ck (decide ((idxP s.peers x.src).toNat<s.peers.length))
(∀y6,s.peers[(idxP s.peers x.src).toNat]?=some y6→Rf (Per.v (⟨y6.router,y6.epoch,maxI x5.acked t1⟩:Per))
((R y6))))) fun y6 =>
(.say (Rf ((s.peers.set ((idxP s.peers x.src).toNat) (⟨y6.router,y6.epoch,maxI x5.acked t1⟩:Per)).map Per.v)) (.cmdL (.frzE 99 ((s.peers.set ((idxP s.peers x.src).toNat) (⟨y6.router,y6.epoch,maxI x5.acked t1⟩:Per)).map Per.v) (pureBL_map (fun _=>rfl) (s.peers.set ((idxP s.peers x.src).toNat) (⟨y6.router,y6.epoch,maxI x5.acked t1⟩:Per)))) (.ret ((⟨s.router,s.epoch,s.last,s.items,s.peers.set ((idxP s.peers x.src).toNat) (⟨y6.router,y6.epoch,maxI x5.acked t1⟩:Per)⟩:Spk),0))))))
(.say (Rf (s.peers.map Per.v)) (.cmdL (.frzE 99 (s.peers.map Per.v) (pureBL_map (fun _=>rfl) s.peers)) (.ret (s,0))))))))))))))))))))))
def ackR_vc(s:Spk)(x:Sig)(I0:Bool→Prop)(I1:Bool→Int→Prop)(I2:Bool→Bool→Prop)(r0:Spk×Int):Prop:=(ackR_x s x I0 I1 I2).vp ackR_e r0
theorem ackR_p(s:Spk)(x:Sig)(ok:ackR_a s x):∃I0 I1 I2,ackR_vc s x I0 I1 I2 (ack s x):=by
 refine ⟨fun b=>b=decide (x.kind≠3∨x.dst≠s.router),fun b v=>v=ackV s x,fun b c=>c=decide (x.epoch=s.epoch∧x.ver≤s.last),?_⟩
 dsimp only [ackR_vc,ackR_x,ackR_s,Ax.vp,Ax.vc];simp only [vcU,rfU,List.length_map]
 have hv:valS s=if spkOk s then 0 else 1:=rfl
 rw [hv]
 unfold ack
 by_cases hs:spkOk s
 case neg=>rw [if_neg hs,if_pos hs];simp [spk0]
 rw [if_pos hs,if_neg (not_not_intro hs),idxP_asc hs.2.2.2.2.2.2]
 refine ⟨fun e=>by simp at e,fun _=>⟨fun e=>?_,fun e=>⟨⟨fun k=>?_,fun k=>?_⟩,fun b hb=>⟨fun c=>?_,fun c=>?_⟩⟩⟩⟩
 ·rw [if_pos (by simpa using e)];rfl
 ·exact (decide_eq_true (.inl (by simpa using k))).symm
 ·have k:x.kind=3:=by simpa using k
  by_cases q:x.dst=s.router<;>simp [q,k]
 ·subst hb
  have e0:¬sigErr x≠0:=by simpa using e
  rw [if_neg e0,if_pos (by simpa using c)];rfl
 ·subst hb
  have c:¬(x.kind≠3∨x.dst≠s.router):=by simpa using c
  have e0:¬sigErr x≠0:=by simpa using e
  rw [if_neg e0,if_neg c]
  by_cases hit:hitP s.peers x.src
  case neg =>
   rw [if_neg hit,if_pos hit]
   exact ⟨fun _=>rfl,fun q=>by omega⟩
  rw [if_pos hit,if_neg (not_not_intro hit),Int.toNat_natCast]
  have hp:=hit.1
  have hpl:=hs.2.2.2.2.1
  refine ⟨fun q=>by omega,fun _=>⟨⟨⟨fun k=>?_,fun k=>?_⟩,fun b2 hb2=>⟨fun q=>?_,fun q=>?_⟩⟩,?_⟩⟩
  ·have k:x.epoch=s.epoch:=by simpa using k
   simp [k]
  ·have k:¬x.epoch=s.epoch:=by simpa using k
   simp [k]
  ·subst hb2
   unfold ackV;rw [if_pos (by simpa using q)]
  ·subst hb2
   unfold ackV;rw [if_neg (by simpa using q)]
  ·rintro _ rfl
   have hat:∀y,s.peers[posP s.peers x.src]?=some y→s.peers.getD (posP s.peers x.src) ⟨0,0,0⟩=y:=fun y hy=>by rw [List.getD_eq_getElem?_getD,hy];rfl
   refine ⟨by omega,by rw [decide_eq_true (by omega),decide_eq_true (by omega)];rfl,hp,fun y hy=>⟨fun q=>⟨hp,fun y2 hy2=>⟨by simpa using hp,fun y3 hy3=>?_⟩⟩,fun q=>⟨hp,fun y4 hy4=>⟨fun q2=>⟨hp,fun y5 hy5=>⟨hp,fun y6 hy6=>?_⟩⟩,fun q2=>?_⟩⟩⟩⟩
   ·rw [hy] at hy2;cases hy2
    rw [List.getElem?_set_self hp] at hy3
    cases hy3
    rw [hat _ hy,List.set_set]
    unfold ackP
    rw [if_pos q]
   ·rw [hy] at hy4 hy5 hy6;cases hy4;cases hy5;cases hy6
    rw [hat _ hy]
    unfold ackP
    rw [if_neg q,if_pos (by simpa using q2)]
   ·rw [hy] at hy4;cases hy4
    rw [hat _ hy]
    unfold ackP
    rw [if_neg q,if_neg (by simpa using q2)]
    have:s.peers.set (posP s.peers x.src) y=s.peers:=by
     refine List.ext_getElem (by simp) fun j h1 h2=>?_
     rw [List.getElem_set]
     split
     ·rename_i e';subst e'
      exact ((List.getElem?_eq_some_iff.mp hy).2).symm
     ·rfl
    rw [this]
def ackR_c(s:Spk)(x:Sig):PC Tryz.prog:=⟨62,[(.a [.k,.k,.k,(.s 4),(.s 3)]),(.a [.k,.k,.k,.k,.k,.k,.k,.k,.k,(.s 1)])],[.agg [.int s.router,.int s.epoch,.int s.last,.sl 4 (s.items.map Itm.v) false,.sl 3 (s.peers.map Per.v) false],.agg [.int x.kind,.int x.src,.int x.dst,.int x.epoch,.int x.ver,.int x.prev,.int x.pep,.int x.grp,.int x.mode,.sl 1 (x.srcs.map AV.int) false]],ackR_e (ack s x),PSpec.of_ok fun ok=>(ackR_p s x ok).elim fun I0 h=>h.elim fun I1 h=>h.elim fun I2 h=>mxP_of (sh:=(.a [(.a [.k,.k,.k,(.s 4),(.s 3)]),.k])) (enc:=ackR_e) (a:=(ackR_x s x I0 I1 I2).an) h (by kernel_rfl) (AV.pureB_ok rfl),fnB_ok (by kernel_rfl)⟩
def bld(l:List Hrd)(r:Int)(h:Hrd)(k:Nat):List Hrd:=l.take (min k (posH l r))++((if posH l r<k then [h] else [])++((l.take k).drop (posH l r)).filter fun y=>decide (y.router≠r))
theorem bld_succ{l:List Hrd}{r:Int}{h x:Hrd}{k:Nat}(ho:l.Pairwise fun x y=>x.router<y.router)(hx:l[k]?=some x) :
  (posH l r=k↔¬posH l r<k∧r≤x.router)∧bld l r h (k+1)=bld l r h k++((if posH l r=k then [h] else [])++if x.router≠r then [x] else []):=by
 obtain ⟨hk,hxk⟩:=List.getElem?_eq_some_iff.mp hx
 have hlt:k<posH l r→x.router<r:=fun q=>by have:=posK_lt (key:=Hrd.router) (l:=l) (r:=r) q hk;rw [hxk] at this;exact this
 have hge:posH l r≤k→r≤x.router:=fun q=>by have:=posK_ge (key:=Hrd.router) (r:=r) ho hk q;rw [hxk] at this;exact this
 refine ⟨⟨fun e=>⟨by omega,hge (by omega)⟩,fun ⟨e1,e2⟩=>?_⟩,?_⟩
 ·rcases Nat.lt_or_ge k (posH l r) with q|q
  ·have:=hlt q;omega
  ·omega
 unfold bld
 rw [take_succ hx]
 rcases Nat.lt_trichotomy k (posH l r) with q|q|q
 ·have h1:=hlt q
  rw [if_neg (by omega),if_neg (by omega),if_neg (by omega),if_pos (by omega),Nat.min_eq_left (by omega),Nat.min_eq_left (by omega)]
  rw [List.drop_eq_nil_of_le (by simp;omega),List.drop_eq_nil_of_le (by simp;omega),take_succ hx]
  simp
 ·rw [if_pos (by omega),if_neg (by omega),if_pos q.symm,Nat.min_eq_right (by omega),Nat.min_eq_left (by omega),←q]
  rw [List.drop_append_of_le_length (by simp;omega),List.drop_eq_nil_of_le (by simp;omega)]
  by_cases e:x.router=r<;>simp [e]
 ·rw [if_pos (by omega),if_pos (by omega),if_neg (by omega),Nat.min_eq_right (by omega),Nat.min_eq_right (by omega)]
  rw [List.drop_append_of_le_length (by simp;omega),List.filter_append]
  by_cases e:x.router=r<;>simp [e]
theorem bld_len{l:List Hrd}{r:Int}{h:Hrd}{k:Nat}:(bld l r h k).length≤l.length+l.length+1:=by
 unfold bld
 have:=List.length_filter_le (fun y:Hrd=>decide (y.router≠r)) ((l.take k).drop (posH l r))
 simp only [List.length_append,List.length_take,List.length_drop] at *
 split<;>simp only [List.length_cons,List.length_nil]<;>omega
theorem bld_fin{l:List Hrd}{r:Int}{h:Hrd}(ho:l.Pairwise fun x y=>x.router<y.router)(hr:h.router=r):bld l r h l.length++(if posH l r<l.length then [] else [h])=(base l r).set (posH l r) h:=by
 have hp:posH l r≤l.length:=List.findIdx_le_length
 unfold bld
 rw [List.take_length,Nat.min_eq_right hp]
 by_cases hh:∃z∈l,z.router=r
 ·have hit:=(hitH_iff ho).mpr hh
  have hlt:=hit.1
  rw [if_pos hlt,if_pos hlt,base,if_pos hit,List.append_nil,List.set_eq_take_append_cons_drop,if_pos hlt]
  congr 1
  rw [List.drop_eq_getElem_cons hlt,List.filter_cons]
  have h2:(l[posH l r]'hlt).router=r:=by
   have:=hit.2
   rw [List.getD_eq_getElem?_getD,List.getElem?_eq_getElem hlt] at this
   exact this
  rw [if_neg (by simp [h2]),List.filter_eq_self.mpr]
  ·rfl
  ·intro y hy
   obtain ⟨i,hi,rfl⟩:=List.getElem_of_mem hy
   rw [List.getElem_drop]
   simp only [List.length_drop] at hi
   have:=List.pairwise_iff_getElem.mp ho (posH l r) (posH l r+1+i) hlt (by omega) (by omega)
   rw [h2] at this
   simp only [ne_eq,decide_not,Bool.not_eq_true',decide_eq_false_iff_not]
   omega
 ·have hn:¬hitH l r:=fun q=>hh ((hitH_iff ho).mp q)
  have hf:(l.drop (posH l r)).filter (fun y=>decide (y.router≠r))=l.drop (posH l r):=List.filter_eq_self.mpr fun y hy=>by
   have:=List.mem_of_mem_drop hy
   simpa using fun e=>hh ⟨y,this,e⟩
  have hb:base l r=l.take (posH l r)++⟨r,0,0,[]⟩::l.drop (posH l r):=by rw [base,if_neg hn,insAt_cons]
  have e:=(ins_setK (key:=Hrd.router) (z0:=⟨r,0,0,[]⟩) ho hh hr).1
  rw [hf,hb]
  refine Eq.trans ?_ e.symm
  show _=l.take (posH l r)++h::l.drop (posH l r)
  by_cases hlt:posH l r<l.length
  ·rw [if_pos hlt,if_pos hlt];simp
  ·rw [if_neg hlt,if_neg hlt,List.drop_eq_nil_of_le (by omega)];simp
theorem gOf_take{l:List Hrd}{r:Int}{x:Hrd}{k:Nat}(ho:l.Pairwise fun x y=>x.router<y.router)(hx:l[k]?=some x):gOf (l.take (k+1)) r=if x.router=r then x else gOf (l.take k) r:=by
 have o1:∀j,(l.take j).Pairwise fun x y=>x.router<y.router:=fun j=>ho.sublist (List.take_sublist _ _)
 have hm:x∈l.take (k+1):=by rw [take_succ hx];simp
 split
 ·rename_i e;subst e;exact gOf_mem (o1 _) hm
 ·rename_i e
  by_cases hh:∃z∈l.take k,z.router=r
  ·obtain ⟨z,hz,rfl⟩:=hh
   rw [gOf_mem (o1 _) hz,gOf_mem (o1 _) (by rw [take_succ hx];simp [hz])]
  ·rw [gOf_no (o1 _) hh,gOf_no (o1 _)]
   rintro ⟨z,hz,e2⟩
   rw [take_succ hx] at hz
   rcases List.mem_append.mp hz with hz|hz
   ·exact hh ⟨z,hz,e2⟩
   ·rw [List.mem_singleton] at hz;subst hz;exact e e2
def hearR_a(l:Lsn)(x:Sig):Prop:=okL [.agg [.int l.router,.int l.epoch,.sl 4 (l.heard.map Hrd.v) false],.agg [.int x.kind,.int x.src,.int x.dst,.int x.epoch,.int x.ver,.int x.prev,.int x.pep,.int x.grp,.int x.mode,.sl 1 (x.srcs.map AV.int) false]]
def hearR_n0(l:Lsn)(x:Sig)(t0:Bool):NF:=⟨[(2,.k,.ref 0 0),(3,.k,.ref 1 0),(4,.k,.ref 2 0),(5,.k,.ref 3 0),(39,.k,.bool t0)],[.box (.agg [.int l.router,.int l.epoch,.sl 4 (l.heard.map Hrd.v) false]),.box (.agg [.int x.kind,.int x.src,.int x.dst,.int x.epoch,.int x.ver,.int x.prev,.int x.pep,.int x.grp,.int x.mode,.sl 1 (x.srcs.map AV.int) false]),.box (.agg [.int 0,.int 0,.sl 0 [] true]),.box (.agg [.int 0,.int 0,.int 0,.int 0,.int 0,.int 0,.int 0,.int 0,.int 0,.sl 0 [] true])]⟩
def hearR_n1(l:Lsn)(x:Sig)(t1:Int×Hrd):NF:=⟨[(2,.k,.ref 0 0),(3,.k,.ref 1 0),(4,.k,.ref 2 0),(5,.k,.ref 3 0),(9,.k,.ref 4 0),(10,.k,.ref 5 0),(51,.k,.sl 4 (l.heard.map Hrd.v) false),(52,.k,.int ((l.heard.map Hrd.v).length:Int)),(53,.k,.int t1.1)],[.box (.agg [.int l.router,.int l.epoch,.sl 4 (l.heard.map Hrd.v) false]),.box (.agg [.int x.kind,.int x.src,.int x.dst,.int x.epoch,.int x.ver,.int x.prev,.int x.pep,.int x.grp,.int x.mode,.sl 1 (x.srcs.map AV.int) false]),.box (.agg [.int 0,.int 0,.sl 0 [] true]),.box (.agg [.int 0,.int 0,.int 0,.int 0,.int 0,.int 0,.int 0,.int 0,.int 0,.sl 0 [] true]),.box (.agg [.int l.router,.int l.epoch,.sl 0 [] true]),.box (.agg [.int t1.2.router,.int t1.2.epoch,.int t1.2.ver,.sl 4 (t1.2.items.map Itm.v) false])]⟩
def hearR_n2(l:Lsn)(x:Sig)(t1:Int×Hrd)(t2:Bool):NF:=⟨[(2,.k,.ref 0 0),(3,.k,.ref 1 0),(4,.k,.ref 2 0),(5,.k,.ref 3 0),(9,.k,.ref 4 0),(10,.k,.ref 5 0),(72,.k,.bool t2)],[.box (.agg [.int l.router,.int l.epoch,.sl 4 (l.heard.map Hrd.v) false]),.box (.agg [.int x.kind,.int x.src,.int x.dst,.int x.epoch,.int x.ver,.int x.prev,.int x.pep,.int x.grp,.int x.mode,.sl 1 (x.srcs.map AV.int) false]),.box (.agg [.int 0,.int 0,.sl 0 [] true]),.box (.agg [.int 0,.int 0,.int 0,.int 0,.int 0,.int 0,.int 0,.int 0,.int 0,.sl 0 [] true]),.box (.agg [.int l.router,.int l.epoch,.sl 0 [] true]),.box (.agg [.int t1.2.router,.int t1.2.epoch,.int t1.2.ver,.sl 4 (t1.2.items.map Itm.v) false])]⟩
def hearR_n3(l:Lsn)(x:Sig)(t3:Hrd):NF:=⟨[(2,.k,.ref 0 0),(3,.k,.ref 1 0),(4,.k,.ref 2 0),(5,.k,.ref 3 0),(9,.k,.ref 4 0),(10,.k,.ref 5 0)],[.box (.agg [.int l.router,.int l.epoch,.sl 4 (l.heard.map Hrd.v) false]),.box (.agg [.int x.kind,.int x.src,.int x.dst,.int x.epoch,.int x.ver,.int x.prev,.int x.pep,.int x.grp,.int x.mode,.sl 1 (x.srcs.map AV.int) false]),.box (.agg [.int 0,.int 0,.sl 0 [] true]),.box (.agg [.int 0,.int 0,.int 0,.int 0,.int 0,.int 0,.int 0,.int 0,.int 0,.sl 0 [] true]),.box (.agg [.int l.router,.int l.epoch,.sl 0 [] true]),.box (.agg [.int t3.router,.int t3.epoch,.int t3.ver,.sl 4 (t3.items.map Itm.v) false])]⟩
def hearR_n4(l:Lsn)(x:Sig)(t4:Hrd):NF:=⟨[(2,.k,.ref 0 0),(3,.k,.ref 1 0),(4,.k,.ref 2 0),(5,.k,.ref 3 0),(9,.k,.ref 4 0),(10,.k,.ref 5 0)],[.box (.agg [.int l.router,.int l.epoch,.sl 4 (l.heard.map Hrd.v) false]),.box (.agg [.int x.kind,.int x.src,.int x.dst,.int x.epoch,.int x.ver,.int x.prev,.int x.pep,.int x.grp,.int x.mode,.sl 1 (x.srcs.map AV.int) false]),.box (.agg [.int 0,.int 0,.sl 0 [] true]),.box (.agg [.int 0,.int 0,.int 0,.int 0,.int 0,.int 0,.int 0,.int 0,.int 0,.sl 0 [] true]),.box (.agg [.int l.router,.int l.epoch,.sl 0 [] true]),.box (.agg [.int t4.router,.int t4.epoch,.int t4.ver,.sl 4 (t4.items.map Itm.v) false])]⟩
def hearR_n5(l:Lsn)(x:Sig)(t3:Hrd)(t5:Bool):NF:=⟨[(2,.k,.ref 0 0),(3,.k,.ref 1 0),(4,.k,.ref 2 0),(5,.k,.ref 3 0),(9,.k,.ref 4 0),(10,.k,.ref 5 0),(108,.k,.bool t5)],[.box (.agg [.int l.router,.int l.epoch,.sl 4 (l.heard.map Hrd.v) false]),.box (.agg [.int x.kind,.int x.src,.int x.dst,.int x.epoch,.int x.ver,.int x.prev,.int x.pep,.int x.grp,.int x.mode,.sl 1 (x.srcs.map AV.int) false]),.box (.agg [.int 0,.int 0,.sl 0 [] true]),.box (.agg [.int 0,.int 0,.int 0,.int 0,.int 0,.int 0,.int 0,.int 0,.int 0,.sl 0 [] true]),.box (.agg [.int l.router,.int l.epoch,.sl 0 [] true]),.box (.agg [.int t3.router,.int t3.epoch,.int t3.ver,.sl 4 (t3.items.map Itm.v) false])]⟩
def hearR_n6(l:Lsn)(x:Sig)(t4:Hrd)(t6:Bool×Int×(List Hrd)):NF:=⟨[(2,.k,.ref 0 0),(3,.k,.ref 1 0),(4,.k,.ref 2 0),(5,.k,.ref 3 0),(9,.k,.ref 4 0),(10,.k,.ref 6 0),(13,.k,.bool t6.1),(124,.k,.sl 4 (l.heard.map Hrd.v) false),(125,.k,.int ((l.heard.map Hrd.v).length:Int)),(126,.k,.int t6.2.1)],[.box (.agg [.int l.router,.int l.epoch,.sl 4 (l.heard.map Hrd.v) false]),.box (.agg [.int x.kind,.int x.src,.int x.dst,.int x.epoch,.int x.ver,.int x.prev,.int x.pep,.int x.grp,.int x.mode,.sl 1 (x.srcs.map AV.int) false]),.box (.agg [.int 0,.int 0,.sl 0 [] true]),.box (.agg [.int 0,.int 0,.int 0,.int 0,.int 0,.int 0,.int 0,.int 0,.int 0,.sl 0 [] true]),.box (.agg [.int l.router,.int l.epoch,.vec 5]),.vec 4 (t6.2.2.map Hrd.v) (pureBL_map (fun _=>rfl) t6.2.2),.box (.agg [.int t4.router,.int t4.epoch,.int t4.ver,.sl 4 (t4.items.map Itm.v) false])]⟩
def hearR_n7(l:Lsn)(x:Sig)(t4:Hrd)(t6:Bool×Int×(List Hrd))(x3:Hrd)(t7:Bool×(List Hrd)):NF:=⟨[(2,.k,.ref 0 0),(3,.k,.ref 1 0),(4,.k,.ref 2 0),(5,.k,.ref 3 0),(9,.k,.ref 4 0),(10,.k,.ref 6 0),(13,.k,.bool t7.1),(15,.k,.ref 7 0),(124,.k,.sl 4 (l.heard.map Hrd.v) false),(125,.k,.int ((l.heard.map Hrd.v).length:Int)),(126,.k,.int t6.2.1)],[.box (.agg [.int l.router,.int l.epoch,.sl 4 (l.heard.map Hrd.v) false]),.box (.agg [.int x.kind,.int x.src,.int x.dst,.int x.epoch,.int x.ver,.int x.prev,.int x.pep,.int x.grp,.int x.mode,.sl 1 (x.srcs.map AV.int) false]),.box (.agg [.int 0,.int 0,.sl 0 [] true]),.box (.agg [.int 0,.int 0,.int 0,.int 0,.int 0,.int 0,.int 0,.int 0,.int 0,.sl 0 [] true]),.box (.agg [.int l.router,.int l.epoch,.vec 5]),.vec 4 (t7.2.map Hrd.v) (pureBL_map (fun _=>rfl) t7.2),.box (.agg [.int t4.router,.int t4.epoch,.int t4.ver,.sl 4 (t4.items.map Itm.v) false]),.box (.agg [.int x3.router,.int x3.epoch,.int x3.ver,.sl 4 (x3.items.map Itm.v) false])]⟩
def hearR_n8(l:Lsn)(x:Sig)(t4:Hrd)(t6:Bool×Int×(List Hrd))(x3:Hrd)(t8:Bool):NF:=⟨[(2,.k,.ref 0 0),(3,.k,.ref 1 0),(4,.k,.ref 2 0),(5,.k,.ref 3 0),(9,.k,.ref 4 0),(10,.k,.ref 6 0),(13,.k,.bool t6.1),(15,.k,.ref 7 0),(124,.k,.sl 4 (l.heard.map Hrd.v) false),(125,.k,.int ((l.heard.map Hrd.v).length:Int)),(126,.k,.int t6.2.1),(138,.k,.bool t8)],[.box (.agg [.int l.router,.int l.epoch,.sl 4 (l.heard.map Hrd.v) false]),.box (.agg [.int x.kind,.int x.src,.int x.dst,.int x.epoch,.int x.ver,.int x.prev,.int x.pep,.int x.grp,.int x.mode,.sl 1 (x.srcs.map AV.int) false]),.box (.agg [.int 0,.int 0,.sl 0 [] true]),.box (.agg [.int 0,.int 0,.int 0,.int 0,.int 0,.int 0,.int 0,.int 0,.int 0,.sl 0 [] true]),.box (.agg [.int l.router,.int l.epoch,.vec 5]),.vec 4 (t6.2.2.map Hrd.v) (pureBL_map (fun _=>rfl) t6.2.2),.box (.agg [.int t4.router,.int t4.epoch,.int t4.ver,.sl 4 (t4.items.map Itm.v) false]),.box (.agg [.int x3.router,.int x3.epoch,.int x3.ver,.sl 4 (x3.items.map Itm.v) false])]⟩
def hearR_n9(l:Lsn)(x:Sig)(t4:Hrd)(t9:(List Hrd)):NF:=⟨[(2,.k,.ref 0 0),(3,.k,.ref 1 0),(4,.k,.ref 2 0),(5,.k,.ref 3 0),(9,.k,.ref 4 0),(10,.k,.ref 6 0)],[.box (.agg [.int l.router,.int l.epoch,.sl 4 (l.heard.map Hrd.v) false]),.box (.agg [.int x.kind,.int x.src,.int x.dst,.int x.epoch,.int x.ver,.int x.prev,.int x.pep,.int x.grp,.int x.mode,.sl 1 (x.srcs.map AV.int) false]),.box (.agg [.int 0,.int 0,.sl 0 [] true]),.box (.agg [.int 0,.int 0,.int 0,.int 0,.int 0,.int 0,.int 0,.int 0,.int 0,.sl 0 [] true]),.box (.agg [.int l.router,.int l.epoch,.vec 5]),.vec 4 (t9.map Hrd.v) (pureBL_map (fun _=>rfl) t9),.box (.agg [.int t4.router,.int t4.epoch,.int t4.ver,.sl 4 (t4.items.map Itm.v) false])]⟩
@[reducible] def hearR_s:Nat→Type
 | 0=>Bool
 | 1=>Int×Hrd
 | 2=>Bool
 | 3=>Hrd
 | 4=>Hrd
 | 5=>Bool
 | 6=>Bool×Int×(List Hrd)
 | 7=>Bool×(List Hrd)
 | 8=>Bool
 | 9=>(List Hrd)
 | _=>Unit
def hearR_e(r:Lsn×Sig×Int):AV:=.tup [Lsn.v r.1,Sig.v r.2.1,.int r.2.2]
def hearR_x(l:Lsn)(x:Sig)(I0:Bool→Prop)(I1:Bool→(Int×Hrd)→Prop)(m1:Bool→(Int×Hrd)→Nat)(I2:Bool→Int×Hrd→Bool→Prop)(I3:Bool→Int×Hrd→Bool→Hrd→Prop)(I4:Bool→Int×Hrd→Bool→Hrd→Hrd→Prop)(I5:Bool→Int×Hrd→Bool→Hrd→Bool→Prop)(I6:Bool→Int×Hrd→Bool→Hrd→Hrd→(Bool×Int×(List Hrd))→Prop)(m6:Bool→Int×Hrd→Bool→Hrd→Hrd→(Bool×Int×(List Hrd))→Nat)(I7:Bool→Int×Hrd→Bool→Hrd→Hrd→Bool×Int×(List Hrd)→Hrd→(Bool×(List Hrd))→Prop)(I8:Bool→Int×Hrd→Bool→Hrd→Hrd→Bool×Int×(List Hrd)→Hrd→Bool→Prop)(I9:Bool→Int×Hrd→Bool→Hrd→Hrd→Bool×Int×(List Hrd)→(List Hrd)→Prop):Ax Tryz.prog hearR_s (Lsn×Sig×Int):=
 (.callP (valLR_c l)
(.br 160 ((valL l) != 0) (.ret ((⟨0,0,[]⟩:Lsn),(⟨0,0,0,0,0,0,0,0,0,[]⟩:Sig),valL l))
(.callP (sigVR_c x)
(.br 240 ((sigErr x) != 0) (.ret ((⟨0,0,[]⟩:Lsn),(⟨0,0,0,0,0,0,0,0,0,[]⟩:Sig),sigErr x))
(.pass (.join 0 (hearR_n0 l x) (fun (t0:Bool)=>I0 t0) (fun b0=>(.br 304 (x.kind==3) (.bk 0 b0 ((true):Bool) [0,16,32,48])
(.bk 0 b0 ((x.dst != l.router):Bool) [0,16,32,48]))) fun (t0:Bool) =>
(.br 4 t0 (.ret ((⟨0,0,[]⟩:Lsn),(⟨0,0,0,0,0,0,0,0,0,[]⟩:Sig),1))
(.cmdL (.wkB 164 (.a [.k,.k,.k,.s 4])) (.loop 1 (hearR_n1 l x) (I1 t0) (m1 t0) (0,(⟨x.src,0,0,[]⟩:Hrd)) [0,1,2,3,84,164] fun (t1:Int×Hrd) b1 =>
(.br 22 (decide (t1.1<((l.heard.map Hrd.v).length:Int))) (.el 22 Hrd.v l.heard (fun R=>Rf (l.heard.map Hrd.v) (ck (decide (0≤t1.1)) (ck (decide (t1.1<(l.heard.length:Int)))
(∀x1,l.heard[t1.1.toNat]?=some x1 →
(R x1))))) fun x1 =>
(.br 166 (x1.router==x.src) (.bk 1 b1 (W (t1.1+1),x1) [0,1,2,3,4,5])
(.bk 1 b1 (W (t1.1+1),t1.2) [0,1,2,3,4,5])))
(.pass (.join 2 (hearR_n2 l x t1) (fun (t2:Bool)=>I2 t0 t1 t2) (fun b2=>(.br 86 (t1.2.epoch==0) (.bk 2 b2 ((decide (12≤((l.heard.map Hrd.v).length:Int))):Bool) [0,1,2,3,4,5])
(.bk 2 b2 ((false):Bool) [0,1,2,3,4,5]))) fun (t2:Bool) =>
(.br 6 t2 (.ret ((⟨0,0,[]⟩:Lsn),(⟨0,0,0,0,0,0,0,0,0,[]⟩:Sig),3))
(.join 3 (hearR_n3 l x) (fun (t3:Hrd)=>I3 t0 t1 t2 t3) (fun b3=>(.br 86 (decide (t1.2.epoch<x.epoch)) (.cmdL (.wkB 5 (.a [.k,.k,.k,.s 4])) (.bk 3 b3 (((⟨x.src,x.epoch,0,[]⟩:Hrd)):Hrd) [0,1,2,3,4,5]))
(.bk 3 b3 ((t1.2):Hrd) [0,1,2,3,4,5]))) fun (t3:Hrd) =>
(.join 4 (hearR_n4 l x) (fun (t4:Hrd)=>I4 t0 t1 t2 t3 t4) (fun b4=>(.join 5 (hearR_n5 l x t3) (fun (t5:Bool)=>I5 t0 t1 t2 t3 t5) (fun b5=>(.br 70 (x.kind==2) (.br 182 (x.epoch==t3.epoch) (.br 294 (decide (x.prev≤t3.ver)) (.bk 5 b5 ((decide (t3.ver<x.ver)):Bool) [0,1,2,3,4,5])
(.bk 5 b5 ((false):Bool) [0,1,2,3,4,5]))
(.bk 5 b5 ((false):Bool) [0,1,2,3,4,5]))
(.bk 5 b5 ((false):Bool) [0,1,2,3,4,5]))) fun (t5:Bool) =>
(.br 6 t5 (.req 150 (t3.items.length≤999999) fun h2 =>
(.callP (putR_c t3.items (⟨x.ver,x.grp,x.mode,x.srcs⟩:Itm) h2)
(.bk 4 b4 (((⟨t3.router,t3.epoch,x.ver,put1 t3.items (⟨x.ver,x.grp,x.mode,x.srcs⟩:Itm)⟩:Hrd)):Hrd) [0,1,2,3,4,5])))
(.bk 4 b4 ((t3):Hrd) [0,1,2,3,4,5])))) fun (t4:Hrd) =>
(.cmdL (.nilB 4 2 4) (.loop 6 (hearR_n6 l x t4) (I6 t0 t1 t2 t3 t4) (m6 t0 t1 t2 t3 t4) (false,0,[]) [0,1,2,3,4,86,5] fun (t6:Bool×Int×(List Hrd)) b6 =>
(.br 23 (decide (t6.2.1<((l.heard.map Hrd.v).length:Int))) (.el 23 Hrd.v l.heard (fun R=>Rf (l.heard.map Hrd.v) (ck (decide (0≤t6.2.1)) (ck (decide (t6.2.1<(l.heard.length:Int)))
(∀x3,l.heard[t6.2.1.toNat]?=some x3 →
(R x3))))) fun x3 =>
(.join 7 (hearR_n7 l x t4 t6 x3) (fun (t7:Bool×(List Hrd))=>I7 t0 t1 t2 t3 t4 t6 x3 t7) (fun b7=>(.join 8 (hearR_n8 l x t4 t6 x3) (fun (t8:Bool)=>I8 t0 t1 t2 t3 t4 t6 x3 t8) (fun b8=>(.br 135 (!t6.1) (.bk 8 b8 ((decide (x.src≤x3.router)):Bool) [0,1,2,3,4,5,6,55])
(.bk 8 b8 ((false):Bool) [0,1,2,3,4,5,6,55]))) fun (t8:Bool) =>
(.br 8 t8 (.say (fun R=>Rf (α:=List AV) (t6.2.2.map Hrd.v) (Rf (α:=List AV) [.agg [.int t4.router,.int t4.epoch,.int t4.ver,.sl 4 (t4.items.map Itm.v) false]]
(ck (decide (t6.2.2.length+1≤1048576))
R))) (.app 72 Hrd.v t6.2.2 [t4]
(.bk 7 b7 (true,t6.2.2++[t4]) [0,1,2,3,4,72,6,7])))
(.bk 7 b7 (t6.1,t6.2.2) [0,1,2,3,4,5,6,7])))) fun (t7:Bool×(List Hrd)) =>
(.br 88 (x3.router != x.src) (.say (fun R=>Rf (α:=List AV) (t7.2.map Hrd.v) (Rf (α:=List AV) [.agg [.int x3.router,.int x3.epoch,.int x3.ver,.sl 4 (x3.items.map Itm.v) false]]
(ck (decide (t7.2.length+1≤1048576))
R))) (.app 152 Hrd.v t7.2 [x3]
(.bk 6 b6 (t7.1,W (t6.2.1+1),t7.2++[x3]) [0,1,2,3,4,152,6])))
(.bk 6 b6 (t7.1,W (t6.2.1+1),t7.2) [0,1,2,3,4,5,6]))))
(.join 9 (hearR_n9 l x t4) (fun (t9:(List Hrd))=>I9 t0 t1 t2 t3 t4 t6 t9) (fun b9=>(.br 55 (!t6.1) (.say (fun R=>Rf (α:=List AV) (t6.2.2.map Hrd.v) (Rf (α:=List AV) [.agg [.int t4.router,.int t4.epoch,.int t4.ver,.sl 4 (t4.items.map Itm.v) false]]
(ck (decide (t6.2.2.length+1≤1048576))
R))) (.app 119 Hrd.v t6.2.2 [t4]
(.bk 9 b9 ((t6.2.2++[t4]):(List Hrd)) [0,1,2,3,4,119,6])))
(.bk 9 b9 ((t6.2.2):(List Hrd)) [0,1,2,3,4,5,6]))) fun (t9:(List Hrd)) =>
(.say (Rf (t9.map Hrd.v)) (.cmdL (.frzE 5 (t9.map Hrd.v) (pureBL_map (fun _=>rfl) t9)) (.ret ((⟨l.router,l.epoch,t9⟩:Lsn),(⟨3,l.router,x.src,t4.epoch,t4.ver,0,l.epoch,0,0,[]⟩:Sig),0)))))))))))))))))))))))
def hearR_vc(l:Lsn)(x:Sig)(I0:Bool→Prop)(I1:Bool→(Int×Hrd)→Prop)(m1:Bool→(Int×Hrd)→Nat)(I2:Bool→Int×Hrd→Bool→Prop)(I3:Bool→Int×Hrd→Bool→Hrd→Prop)(I4:Bool→Int×Hrd→Bool→Hrd→Hrd→Prop)(I5:Bool→Int×Hrd→Bool→Hrd→Bool→Prop)(I6:Bool→Int×Hrd→Bool→Hrd→Hrd→(Bool×Int×(List Hrd))→Prop)(m6:Bool→Int×Hrd→Bool→Hrd→Hrd→(Bool×Int×(List Hrd))→Nat)(I7:Bool→Int×Hrd→Bool→Hrd→Hrd→Bool×Int×(List Hrd)→Hrd→(Bool×(List Hrd))→Prop)(I8:Bool→Int×Hrd→Bool→Hrd→Hrd→Bool×Int×(List Hrd)→Hrd→Bool→Prop)(I9:Bool→Int×Hrd→Bool→Hrd→Hrd→Bool×Int×(List Hrd)→(List Hrd)→Prop)(r0:Lsn×Sig×Int):Prop:=(hearR_x l x I0 I1 m1 I2 I3 I4 I5 I6 m6 I7 I8 I9).vp hearR_e r0
theorem hearR_p(l:Lsn)(x:Sig)(ok:hearR_a l x):∃I0 I1 m1 I2 I3 I4 I5 I6 m6 I7 I8 I9,hearR_vc l x I0 I1 m1 I2 I3 I4 I5 I6 m6 I7 I8 I9 ((hear l x).1.1,(hear l x).1.2,(hear l x).2):=by
 refine ⟨fun b=>b=decide (x.kind=3∨x.dst≠l.router),fun b t=>∃k:Nat,t.1=k∧k≤l.heard.length∧t.2=gOf (l.heard.take k) x.src,fun b t=>l.heard.length-t.1.toNat,
  fun b t c=>c=decide (t.2.epoch=0∧12≤l.heard.length),fun b t c h=>h=hear0 t.2 x,fun b t c h h'=>h'=hear1 h x,fun b t c h d=>d=decide (x.kind=2∧x.epoch=h.epoch∧x.prev≤h.ver∧h.ver<x.ver),
  fun b t c h h' u=>∃k:Nat,u.2.1=k∧k≤l.heard.length∧u.1=decide (posH l.heard x.src<k)∧u.2.2=bld l.heard x.src h' k,fun b t c h h' u=>l.heard.length-u.2.1.toNat,
  fun b t c h h' u y w=>w=(decide (posH l.heard x.src<u.2.1.toNat+1),bld l.heard x.src h' u.2.1.toNat++if posH l.heard x.src=u.2.1.toNat then [h'] else []),fun b t c h h' u y d=>d=decide (posH l.heard x.src=u.2.1.toNat),
  fun b t c h h' u w=>w=bld l.heard x.src h' l.heard.length++if posH l.heard x.src<l.heard.length then [] else [h'],?_⟩
 dsimp only [hearR_vc,hearR_x,hearR_s,Ax.vp,Ax.vc];simp only [vcU,rfU,List.length_map]
 have hv:valL l=if lsnOk l then 0 else 1:=rfl
 rw [hv]
 unfold hear
 by_cases hs:lsnOk l
 case neg=>rw [if_neg hs,if_pos hs];simp [lsn0,sig0]
 have ho:=hs.2.2.2.2
 have hl:=hs.2.2.1
 rw [if_pos hs,if_neg (not_not_intro hs)]
 refine ⟨fun e=>by simp at e,fun _=>⟨fun e=>?_,fun e=>⟨⟨fun k=>?_,fun k=>?_⟩,fun b hb=>⟨fun c=>?_,fun c=>⟨⟨0,rfl,by omega,(gOf_no List.Pairwise.nil (by simp)).symm⟩,?_⟩⟩⟩⟩⟩
 ·rw [if_pos (by simpa using e)];rfl
 ·exact (decide_eq_true (.inl (by simpa using k))).symm
 ·have k:¬x.kind=3:=by simpa using k
  by_cases q:x.dst=l.router<;>simp [q,k]
 ·subst hb
  rw [if_neg (by simpa using e),if_pos (by simpa using c)];rfl
 ·subst hb
  have c:¬(x.kind=3∨x.dst≠l.router):=by simpa using c
  rw [if_neg (by simpa using e),if_neg c]
  rintro ⟨_,_⟩ ⟨k,rfl,hk,rfl⟩
  simp only [Int.toNat_natCast]
  refine ⟨fun h1=>⟨by omega,by omega,fun y hy=>?_⟩,fun h1=>?_⟩
  ·rw [W_succ (n:=l.heard.length) (by omega) (by omega)]
   have:=gOf_take (r:=x.src) ho hy
   refine ⟨fun q=>⟨⟨k+1,rfl,by omega,?_⟩,by omega⟩,fun q=>⟨⟨k+1,rfl,by omega,?_⟩,by omega⟩⟩
   ·rw [this,if_pos (by simpa using q)]
   ·rw [this,if_neg (by simpa using q)]
  rw [List.take_of_length_le (by omega)]
  have hg:=gOf_router (r:=x.src) ho
  have hep:(gOf l.heard x.src).epoch=0↔¬hitH l.heard x.src:=by
   rw [hitH_iff ho]
   by_cases hh:∃z∈l.heard,z.router=x.src
   ·obtain ⟨z,hz,hzr⟩:=hh
    have:gOf l.heard x.src=z:=by rw [←hzr];exact gOf_mem ho hz
    rw [this]
    have:=(hs.2.2.2.1 z hz).2.2.1
    exact ⟨fun q=>by omega,fun q=>absurd ⟨z,hz,hzr⟩ q⟩
   ·rw [gOf_no ho hh];simp [hh]
  have hH:hearH l.heard x=hear1 (hear0 (gOf l.heard x.src) x) x:=rfl
  refine ⟨⟨fun q=>?_,fun q=>?_⟩,fun c2 hc2=>⟨fun q=>?_,fun q=>⟨⟨fun q2=>?_,fun q2=>?_⟩,?_⟩⟩⟩
  ·have q:(gOf l.heard x.src).epoch=0:=by simpa using q
   simp [q];omega
  ·have q:¬(gOf l.heard x.src).epoch=0:=by simpa using q
   simp [q]
  ·subst hc2
   have q:(gOf l.heard x.src).epoch=0∧12≤l.heard.length:=by simpa using q
   rw [if_pos ⟨hep.mp q.1,by omega⟩];rfl
  ·unfold hear0;rw [if_pos q2]
  ·unfold hear0;rw [if_neg q2]
  ·subst hc2
   have q:¬((gOf l.heard x.src).epoch=0∧12≤l.heard.length):=by simpa using q
   rw [if_neg fun z=>q ⟨hep.mpr z.1,by omega⟩]
   rintro _ rfl
   have hi:(hear0 (gOf l.heard x.src) x).items.length≤999999:=by
    unfold hear0
    split
    ·simp
    ·have:=itms_len (gOf_ok hs x.src).1;omega
   generalize hh0:hear0 (gOf l.heard x.src) x=h0 at *
   refine ⟨⟨⟨fun a1=>⟨fun a2=>⟨fun a3=>?_,fun a3=>?_⟩,fun a2=>?_⟩,fun a1=>?_⟩,fun d hd=>⟨fun a=>⟨hi,?_⟩,fun a=>?_⟩⟩,?_⟩
   ·have a1:x.kind=2:=by simpa using a1
    have a2:x.epoch=h0.epoch:=by simpa using a2
    exact decide_eq_decide.mpr ⟨fun z=>⟨a1,a2,a3,z⟩,fun z=>z.2.2.2⟩
   ·exact nodec fun z=>a3 z.2.2.1
   ·exact nodec fun z=>by simp [z.2.1] at a2
   ·exact nodec fun z=>by simp [z.1] at a1
   ·subst hd
    unfold hear1;rw [if_pos (by simpa using a)];rfl
   ·subst hd
    unfold hear1;rw [if_neg (by simpa using a)]
   ·rintro _ rfl
    have hr:(hear1 h0 x).router=x.src:=by
     have:=hearG_router (g:=gOf l.heard x.src) (x:=x) hg
     unfold hearG at this
     rw [hh0] at this;exact this
    generalize hh1:hear1 h0 x=h1' at *
    refine ⟨⟨0,rfl,by omega,by simp,by simp [bld]⟩,?_⟩
    rintro ⟨_,_,_⟩ ⟨j,rfl,hj,rfl,rfl⟩
    simp only [Int.toNat_natCast]
    have hbl:=bld_len (l:=l.heard) (r:=x.src) (h:=h1') (k:=j)
    refine ⟨fun b1=>⟨by omega,by omega,fun y hy=>⟨⟨⟨fun b2=>?_,fun b2=>?_⟩,fun d hd=>⟨fun b3=>⟨by omega,?_⟩,fun b3=>?_⟩⟩,?_⟩⟩,fun b1=>⟨⟨fun b2=>⟨by omega,?_⟩,fun b2=>?_⟩,?_⟩⟩
    ·obtain ⟨s1,s2⟩:=bld_succ (r:=x.src) (h:=h1') ho hy
     have b2:¬posH l.heard x.src<j:=by simpa using b2
     rw [decide_eq_decide,s1]
     exact ⟨fun z=>⟨b2,z⟩,fun z=>z.2⟩
    ·have b2:posH l.heard x.src<j:=by simpa using b2
     exact nodec (by omega)
    ·subst hd
     have b3:posH l.heard x.src=j:=by simpa using b3
     rw [if_pos b3,decide_eq_true (show posH l.heard x.src<j+1 by omega)]
    ·subst hd
     have b3:¬posH l.heard x.src=j:=by simpa using b3
     rw [if_neg b3,List.append_nil]
     congr 1
     exact decide_eq_decide.mpr (by omega)
    ·rintro _ rfl
     obtain ⟨s1,s2⟩:=bld_succ (r:=x.src) (h:=h1') ho hy
     rw [W_succ (n:=l.heard.length) (by omega) (by omega)]
     refine ⟨fun z=>⟨?_,⟨j+1,rfl,by omega,rfl,?_⟩,by omega⟩,fun z=>⟨⟨j+1,rfl,by omega,rfl,?_⟩,by omega⟩⟩
     ·have:(if posH l.heard x.src=j then [h1'] else []).length≤1:=by split<;>simp
      rw [List.length_append];omega
     ·rw [s2,if_pos (c:=y.router≠x.src) (by simpa using z),List.append_assoc]
     ·rw [s2,if_neg (c:=y.router≠x.src) (by simpa using z),List.append_nil]
    ·have b2:¬posH l.heard x.src<j:=by simpa using b2
     have:j=l.heard.length:=by omega
     subst this
     rw [if_neg b2]
    ·have b2:posH l.heard x.src<j:=by simpa using b2
     have:j=l.heard.length:=by omega
     subst this
     rw [if_pos b2,List.append_nil]
    ·rintro _ rfl
     rw [bld_fin ho hr,hH]
def hearR_c(l:Lsn)(x:Sig):PC Tryz.prog:=⟨63,[(.a [.k,.k,(.s 4)]),(.a [.k,.k,.k,.k,.k,.k,.k,.k,.k,(.s 1)])],[.agg [.int l.router,.int l.epoch,.sl 4 (l.heard.map Hrd.v) false],.agg [.int x.kind,.int x.src,.int x.dst,.int x.epoch,.int x.ver,.int x.prev,.int x.pep,.int x.grp,.int x.mode,.sl 1 (x.srcs.map AV.int) false]],hearR_e ((hear l x).1.1,(hear l x).1.2,(hear l x).2),PSpec.of_ok fun ok=>(hearR_p l x ok).elim fun I0 h=>h.elim fun I1 h=>h.elim fun m1 h=>h.elim fun I2 h=>h.elim fun I3 h=>h.elim fun I4 h=>h.elim fun I5 h=>h.elim fun I6 h=>h.elim fun m6 h=>h.elim fun I7 h=>h.elim fun I8 h=>h.elim fun I9 h=>mxP_of (sh:=(.a [(.a [.k,.k,(.s 4)]),(.a [.k,.k,.k,.k,.k,.k,.k,.k,.k,(.s 1)]),.k])) (enc:=hearR_e) (a:=(hearR_x l x I0 I1 m1 I2 I3 I4 I5 I6 m6 I7 I8 I9).an) h (by kernel_rfl) (AV.pureB_ok rfl),fnB_ok (by kernel_rfl)⟩
def cmpS(p:Spk)(r:Int):Int:=cmpI p.router r
def cmpS_a(s:Spk)(r:Int):Prop:=okL [.agg [.int s.router,.int s.epoch,.int s.last,.sl 4 (s.items.map Itm.v) false,.sl 3 (s.peers.map Per.v) false],.int r]
def cmpS_e(r:Int):AV:=.int r
def cmpS_x(s:Spk)(r:Int):Ax Tryz.prog noS (Int):=
 (.callP (cmpI_c s.router r)
(.ret (cmpI s.router r)))
def cmpS_vc(s:Spk)(r:Int)(r0:Int):Prop:=(cmpS_x s r).vp cmpS_e r0
theorem cmpS_p(p:Spk)(r:Int)(ok:cmpS_a p r):cmpS_vc p r (cmpS p r):=by
 dsimp only [cmpS_vc,cmpS_x,noS,Ax.vp,Ax.vc];simp only [vcU,rfU,List.length_map]
 rfl
def cmpS_c(s:Spk)(r:Int):PC Tryz.prog:=⟨131,[(.a [.k,.k,.k,(.s 4),(.s 3)]),.k],[.agg [.int s.router,.int s.epoch,.int s.last,.sl 4 (s.items.map Itm.v) false,.sl 3 (s.peers.map Per.v) false],.int r],cmpS_e (cmpS s r),PSpec.of_ok fun ok=>mxP_of (sh:=.k) (enc:=cmpS_e) (a:=(cmpS_x s r).an) (cmpS_p s r ok) (by kernel_rfl) (AV.pureB_ok rfl),fnB_ok (by kernel_rfl)⟩
def hitS(l:List Spk)(r:Int):Prop:=posS l r<l.length∧(l.getD (posS l r) spk0).router=r
instance (l:List Spk) (r:Int):Decidable (hitS l r):=by unfold hitS;infer_instance
def bsS_a(x:(List Spk))(target:Int):Prop:=okL [.sl 5 (x.map Spk.v) false,.int target,.func 131 []]
def bsS_n0(x:(List Spk))(target:Int)(t0:Int×Int):NF:=⟨[(0,.k,.sl 5 (x.map Spk.v) false),(1,.k,.int target),(2,.k,.func 131 []),(8,.k,.int ((x.map Spk.v).length:Int)),(9,.k,.int t0.1),(10,.k,.int t0.2)],[]⟩
@[reducible] def bsS_s:Nat→Type
 | 0=>Int×Int
 | _=>Unit
def bsS_e(r:Int×Bool):AV:=.tup [.int r.1,.bool r.2]
def bsS_x(x:(List Spk))(target:Int)(I0:(Int×Int)→Prop)(m0:(Int×Int)→Nat):Ax Tryz.prog bsS_s (Int×Bool):=
 (.loop 0 (bsS_n0 x target) I0 m0 (0,((x.map Spk.v).length:Int)) [] fun (t0:Int×Int) b0 =>
(.br 48 (decide (t0.1<t0.2)) (.el 208 Spk.v x (fun R=>Rf (x.map Spk.v) (ck (decide (0≤(W (Int.fdiv (IntKind.u64.wrap (W (t0.1+t0.2))) 2)))) (ck (decide ((W (Int.fdiv (IntKind.u64.wrap (W (t0.1+t0.2))) 2))<(x.length:Int)))
(∀x1,x[(W (Int.fdiv (IntKind.u64.wrap (W (t0.1+t0.2))) 2)).toNat]?=some x1 →
(R x1))))) fun x1 =>
(.callP (cmpS_c x1 target)
(.br 288 (decide ((cmpS x1 target)<0)) (.bk 0 b0 (W ((W (Int.fdiv (IntKind.u64.wrap (W (t0.1+t0.2))) 2))+1),t0.2) [])
(.bk 0 b0 (t0.1,W (Int.fdiv (IntKind.u64.wrap (W (t0.1+t0.2))) 2)) []))))
(.br 128 (decide (t0.1<((x.map Spk.v).length:Int))) (.el 176 Spk.v x (fun R=>Rf (x.map Spk.v) (ck (decide (0≤t0.1)) (ck (decide (t0.1<(x.length:Int)))
(∀x2,x[t0.1.toNat]?=some x2 →
(R x2))))) fun x2 =>
(.callP (cmpS_c x2 target)
(.ret (t0.1,(cmpS x2 target)==0))))
(.ret (t0.1,false)))))
def bsS_vc(x:(List Spk))(target:Int)(I0:(Int×Int)→Prop)(m0:(Int×Int)→Nat)(r0:Int×Bool):Prop:=(bsS_x x target I0 m0).vp bsS_e r0
theorem bsS_p(l:List Spk)(r:Int)(h:l.Pairwise fun x y=>x.router<y.router)(hl:l.length≤1000000)(ok:bsS_a l r):∃I m,bsS_vc l r I m ((posS l r:Int),decide (hitS l r)):=by
 simp only [bsS_a,okU,Blk.ok,plainV,List.length_map] at ok
 refine ⟨fun t=>∃i j:Nat,t=((i:Int),(j:Int))∧i≤j∧j≤l.length∧(∀k x,k<i→l[k]?=some x→x.router<r)∧(∀k x,j≤k→l[k]?=some x→r≤x.router),fun t=>(t.2-t.1).toNat,?_⟩
 dsimp only [bsS_vc,bsS_x,bsS_s,Ax.vp,Ax.vc];simp only [vcU,rfU,List.length_map]
 refine ⟨⟨0,l.length,rfl,by omega,by omega,fun k x hk=>by omega,fun k x hk hx=>by have:=lt_of_get hx;omega⟩,?_⟩
 rintro _ ⟨i,j,rfl,hij,hj,h1,h2⟩
 refine ⟨fun h3=>?_,fun h3=>?_⟩
 ·have h3:i<j:=by simpa using h3
  simp only [half i j hij (by omega),Int.toNat_natCast]
  refine ⟨by omega,by omega,fun x hx=>⟨fun e=>?_,fun e=>?_⟩⟩
  ·rw [cmpS,cmp_lt] at e
   rw [W_succ (n:=l.length) (by omega) (by omega)]
   refine ⟨⟨_,_,rfl,by omega,hj,fun k y hk hy=>?_,h2⟩,by omega⟩
   by_cases e':k=(i+j) / 2
   ·subst e';rw [hx] at hy;cases hy;exact e
   ·have:=pw_get h (show k<(i+j) / 2 by omega) hy hx;omega
  ·rw [cmpS,cmp_lt] at e
   refine ⟨⟨_,_,rfl,by omega,by omega,h1,fun k y hk hy=>?_⟩,by omega⟩
   by_cases e':k=(i+j) / 2
   ·subst e';rw [hx] at hy;cases hy;omega
   ·have:=pw_get h (show (i+j) / 2<k by omega) hx hy;omega
 ·have h3:i=j:=by simp at h3;omega
  subst h3
  have hp:posS l r=i:=idx_eq (key:=Spk.router) hj h1 h2
  simp only [Int.toNat_natCast]
  refine ⟨fun h4=>⟨by omega,by omega,fun x hx=>?_⟩,fun h4=>?_⟩
  ·have e:hitS l r↔x.router=r:=by rw [hitS,hp,getD_some hx];exact ⟨fun h=>h.2,fun h=>⟨lt_of_get hx,h⟩⟩
   rw [hp]
   refine congrArg _ ?_
   rw [cmpS,Bool.eq_iff_iff,decide_eq_true_iff,e,beq_iff_eq,cmp_eq]
  ·rw [hp,decide_eq_false]
   rw [hitS,hp];intro h;omega
def bsS_c(x:(List Spk))(target:Int)(h:x.Pairwise fun x y=>x.router<y.router)(hl:x.length≤1000000):PC Tryz.prog:=⟨130,[(.s 5),.k,.k],[.sl 5 (x.map Spk.v) false,.int target,.func 131 []],bsS_e ((posS x target:Int),decide (hitS x target)),PSpec.of_ok fun ok=>(bsS_p x target h hl ok).elim fun I0 h=>h.elim fun m0 h=>mxP_of (sh:=.k) (enc:=bsS_e) (a:=(bsS_x x target I0 m0).an) h (by kernel_rfl) (AV.pureB_ok rfl),fnB_ok (by kernel_rfl)⟩
def findS_a(o:Ovl)(router:Int):Prop:=okL [.agg [.sl 5 (o.sp.map Spk.v) false,.sl 3 (o.ls.map Lsn.v) false,.sl 10 (o.fl.map Sig.v) false],.int router]
def findS_e(r:Int×Bool):AV:=.tup [.int r.1,.bool r.2]
def findS_x(o:Ovl)(router:Int):Ax Tryz.prog noS (Int×Bool):=
 (.req 96 (o.sp.Pairwise fun x y=>x.router<y.router) fun h1 =>
(.req 96 (o.sp.length≤1000000) fun h2 =>
(.callP (bsS_c o.sp router h1 h2)
(.ret ((posS o.sp router:Int),decide (hitS o.sp router))))))
def findS_vc(o:Ovl)(router:Int)(r0:Int×Bool):Prop:=(findS_x o router).vp findS_e r0
theorem findS_p(o:Ovl)(r:Int)(h:o.sp.Pairwise fun x y=>x.router<y.router)(hl:o.sp.length≤1000000)(ok:findS_a o r):findS_vc o r ((posS o.sp r:Int),decide (hitS o.sp r)):=by
 dsimp only [findS_vc,findS_x,noS,Ax.vp,Ax.vc];simp only [vcU,rfU,List.length_map]
 exact ⟨h,hl,trivial⟩
def findS_c(o:Ovl)(router:Int)(h:o.sp.Pairwise fun x y=>x.router<y.router)(hl:o.sp.length≤1000000):PC Tryz.prog:=⟨96,[(.a [(.s 5),(.s 3),(.s 10)]),.k],[.agg [.sl 5 (o.sp.map Spk.v) false,.sl 3 (o.ls.map Lsn.v) false,.sl 10 (o.fl.map Sig.v) false],.int router],findS_e ((posS o.sp router:Int),decide (hitS o.sp router)),PSpec.of_ok fun ok=>mxP_of (sh:=.k) (enc:=findS_e) (a:=(findS_x o router).an) (findS_p o router h hl ok) (by kernel_rfl) (AV.pureB_ok rfl),fnB_ok (by kernel_rfl)⟩
def rtrsF_a(o:Ovl):Prop:=okL [.agg [.sl 5 (o.sp.map Spk.v) false,.sl 3 (o.ls.map Lsn.v) false,.sl 10 (o.fl.map Sig.v) false]]
def rtrsF_n0(o:Ovl)(t0:Int×(List Int)):NF:=⟨[(3,.k,.vec 0),(7,.k,.sl 5 (o.sp.map Spk.v) false),(8,.k,.int ((o.sp.map Spk.v).length:Int)),(9,.k,.int t0.1)],[.vec 1 (t0.2.map AV.int) (pureBL_map (fun _=>rfl) t0.2)]⟩
@[reducible] def rtrsF_s:Nat→Type
 | 0=>Int×(List Int)
 | _=>Unit
def rtrsF_e(r:(List Int)):AV:=.sl 1 (r.map AV.int) false
def rtrsF_x(o:Ovl)(I0:(Int×(List Int))→Prop)(m0:(Int×(List Int))→Nat):Ax Tryz.prog rtrsF_s ((List Int)):=
 (.cmdL (.nilT 3 1) (.loop 0 (rtrsF_n0 o) I0 m0 (0,[]) [112] fun (t0:Int×(List Int)) b0 =>
(.br 17 (decide (t0.1<((o.sp.map Spk.v).length:Int))) (.el 17 Spk.v o.sp (fun R=>Rf (o.sp.map Spk.v) (ck (decide (0≤t0.1)) (ck (decide (t0.1<(o.sp.length:Int)))
(∀x1,o.sp[t0.1.toNat]?=some x1 →
(R x1))))) fun x1 =>
(.say (fun R=>Rf (α:=List AV) (t0.2.map AV.int) (Rf (α:=List AV) [.int x1.router]
(ck (decide (t0.2.length+1≤1048576))
R))) (.app 145 AV.int t0.2 [x1.router]
(.bk 0 b0 (W (t0.1+1),t0.2++[x1.router]) [145]))))
(.say (Rf (t0.2.map AV.int)) (.cmdL (.frzE 0 (t0.2.map AV.int) (pureBL_map (fun _=>rfl) t0.2)) (.ret (t0.2)))))))
def rtrsF_vc(o:Ovl)(I0:(Int×(List Int))→Prop)(m0:(Int×(List Int))→Nat)(r0:(List Int)):Prop:=(rtrsF_x o I0 m0).vp rtrsF_e r0
theorem rtrsF_p(o:Ovl)(h:o.sp.length≤1000000)(ok:rtrsF_a o):∃I m,rtrsF_vc o I m (rtrs o.sp):=by
 refine ⟨fun t=>∃k:Nat,t.1=k∧k≤o.sp.length∧t.2=rtrs (o.sp.take k),fun t=>o.sp.length-t.1.toNat,?_⟩
 dsimp only [rtrsF_vc,rtrsF_x,rtrsF_s,Ax.vp,Ax.vc];simp only [vcU,rfU,List.length_map]
 refine ⟨⟨0,rfl,by omega,rfl⟩,?_⟩
 rintro ⟨_,_⟩ ⟨k,rfl,hk,rfl⟩
 simp only [Int.toNat_natCast]
 refine ⟨fun h1=>⟨by omega,by omega,fun x hx=>⟨by rw [rtrs_len];simp;omega,⟨k+1,?_,by omega,?_⟩,?_⟩⟩,fun h1=>?_⟩
 ·rw [W_succ (n:=o.sp.length) (by omega) (by omega)]
 ·rw [take_succ hx];simp [rtrs]
 ·rw [W_succ (n:=o.sp.length) (by omega) (by omega)];omega
 ·rw [List.take_of_length_le (by omega)]
def rtrsF_c(o:Ovl)(h:o.sp.length≤1000000):PC Tryz.prog:=⟨121,[(.a [(.s 5),(.s 3),(.s 10)])],[.agg [.sl 5 (o.sp.map Spk.v) false,.sl 3 (o.ls.map Lsn.v) false,.sl 10 (o.fl.map Sig.v) false]],rtrsF_e (rtrs o.sp),PSpec.of_ok fun ok=>(rtrsF_p o h ok).elim fun I0 h=>h.elim fun m0 h=>mxP_of (sh:=(.s 1)) (enc:=rtrsF_e) (a:=(rtrsF_x o I0 m0).an) h (by kernel_rfl) (AV.pureB_ok rfl),fnB_ok (by kernel_rfl)⟩
def othersF_a(l:(List Int))(n:Int):Prop:=okL [.sl 1 (l.map AV.int) false,.int n]
def othersF_n0(l:(List Int))(n:Int)(t0:Int×(List Int)):NF:=⟨[(1,.k,.int n),(5,.k,.vec 0),(8,.k,.sl 1 (l.map AV.int) false),(9,.k,.int ((l.map AV.int).length:Int)),(10,.k,.int t0.1)],[.vec 1 (t0.2.map AV.int) (pureBL_map (fun _=>rfl) t0.2)]⟩
@[reducible] def othersF_s:Nat→Type
 | 0=>Int×(List Int)
 | _=>Unit
def othersF_e(r:(List Int)):AV:=.sl 1 (r.map AV.int) false
def othersF_x(l:(List Int))(n:Int)(I0:(Int×(List Int))→Prop)(m0:(Int×(List Int))→Nat):Ax Tryz.prog othersF_s ((List Int)):=
 (.cmdL (.nilT 5 1) (.loop 0 (othersF_n0 l n) I0 m0 (0,[]) [80] fun (t0:Int×(List Int)) b0 =>
(.br 17 (decide (t0.1<((l.map AV.int).length:Int))) (.el 17 AV.int l (fun R=>Rf (l.map AV.int) (ck (decide (0≤t0.1)) (ck (decide (t0.1<(l.length:Int)))
(∀x1,l[t0.1.toNat]?=some x1 →
(R x1))))) fun x1 =>
(.br 113 (x1 != n) (.say (fun R=>Rf (α:=List AV) (t0.2.map AV.int) (Rf (α:=List AV) [.int x1]
(ck (decide (t0.2.length+1≤1048576))
R))) (.app 161 AV.int t0.2 [x1]
(.bk 0 b0 (W (t0.1+1),t0.2++[x1]) [161])))
(.bk 0 b0 (W (t0.1+1),t0.2) [0])))
(.say (Rf (t0.2.map AV.int)) (.cmdL (.frzE 0 (t0.2.map AV.int) (pureBL_map (fun _=>rfl) t0.2)) (.ret (t0.2)))))))
def othersF_vc(l:(List Int))(n:Int)(I0:(Int×(List Int))→Prop)(m0:(Int×(List Int))→Nat)(r0:(List Int)):Prop:=(othersF_x l n I0 m0).vp othersF_e r0
theorem othersF_p(l:List Int)(n:Int)(h:l.length≤1000000)(ok:othersF_a l n):∃I m,othersF_vc l n I m (others l n):=by
 refine ⟨fun t=>∃k:Nat,t.1=k∧k≤l.length∧t.2=others (l.take k) n∧t.2.length≤k,fun t=>l.length-t.1.toNat,?_⟩
 dsimp only [othersF_vc,othersF_x,othersF_s,Ax.vp,Ax.vc];simp only [vcU,rfU,List.length_map]
 refine ⟨⟨0,rfl,by omega,rfl,by simp⟩,?_⟩
 rintro ⟨_,_⟩ ⟨k,rfl,hk,rfl,hk2⟩
 simp only [Int.toNat_natCast] at *
 refine ⟨fun h1=>⟨by omega,by omega,fun x hx=>?_⟩,fun h1=>?_⟩
 ·rw [W_succ (n:=l.length) (by omega) (by omega)]
  refine ⟨fun q=>⟨by omega,⟨k+1,rfl,by omega,?_,by simp;omega⟩,by omega⟩,fun q=>⟨⟨k+1,rfl,by omega,?_,by omega⟩,by omega⟩⟩
  ·have q:x≠n:=by simpa using q
   rw [take_succ hx,others,others,List.filter_append];simp [q]
  ·have q:x=n:=by simpa using q
   rw [take_succ hx,others,others,List.filter_append];simp [q]
 ·rw [List.take_of_length_le (by omega)]
def othersF_c(l:(List Int))(n:Int)(h:l.length≤1000000):PC Tryz.prog:=⟨124,[(.s 1),.k],[.sl 1 (l.map AV.int) false,.int n],othersF_e (others l n),PSpec.of_ok fun ok=>(othersF_p l n h ok).elim fun I0 h=>h.elim fun m0 h=>mxP_of (sh:=(.s 1)) (enc:=othersF_e) (a:=(othersF_x l n I0 m0).an) h (by kernel_rfl) (AV.pureB_ok rfl),fnB_ok (by kernel_rfl)⟩
def peerIs(p:Per)(r:Int):Bool:=decide (p.router=r)
def peerIs_a(p:Per)(r:Int):Prop:=okL [.agg [.int p.router,.int p.epoch,.int p.acked],.int r]
def peerIs_e(r:Bool):AV:=.bool r
def peerIs_x(p:Per)(r:Int):Ax Tryz.prog noS (Bool):=
 (.ret (p.router==r))
def peerIs_vc(p:Per)(r:Int)(r0:Bool):Prop:=(peerIs_x p r).vp peerIs_e r0
theorem peerIs_p(p:Per)(r:Int)(ok:peerIs_a p r):peerIs_vc p r (peerIs p r):=by
 dsimp only [peerIs_vc,peerIs_x,noS,Ax.vp,Ax.vc];simp only [vcU,rfU,List.length_map]
 rfl
def peerIs_c(p:Per)(r:Int):PC Tryz.prog:=⟨125,[.k,.k],[.agg [.int p.router,.int p.epoch,.int p.acked],.int r],peerIs_e (decide (p.router=r)),PSpec.of_ok fun ok=>mxP_of (sh:=.k) (enc:=peerIs_e) (a:=(peerIs_x p r).an) (peerIs_p p r ok) (by kernel_rfl) (AV.pureB_ok rfl),fnB_ok (by kernel_rfl)⟩
def eqPI_a(s1:(List Per))(s2:(List Int)):Prop:=okL [.sl 3 (s1.map Per.v) false,.sl 1 (s2.map AV.int) false,.func 125 []]
def eqPI_n0(s1:(List Per))(s2:(List Int))(t0:Int):NF:=⟨[(1,.k,.sl 1 (s2.map AV.int) false),(2,.k,.func 125 []),(15,.k,.sl 3 (s1.map Per.v) false),(16,.k,.int ((s1.map Per.v).length:Int)),(17,.k,.int t0)],[]⟩
@[reducible] def eqPI_s:Nat→Type
 | 0=>Int
 | _=>Unit
def eqPI_e(r:Bool):AV:=.bool r
def eqPI_x(s1:(List Per))(s2:(List Int))(I0:Int→Prop)(m0:Int→Nat):Ax Tryz.prog eqPI_s (Bool):=
 (.br 96 (((s1.map Per.v).length:Int) != ((s2.map AV.int).length:Int)) (.ret (false))
(.loop 0 (eqPI_n0 s1 s2) I0 m0 ((0):Int) [] fun (t0:Int) b0 =>
(.br 16 (decide (t0<((s1.map Per.v).length:Int))) (.el 32 Per.v s1 (fun R=>Rf (s1.map Per.v) (ck (decide (0≤t0)) (ck (decide (t0<(s1.length:Int)))
(∀x1,s1[t0.toNat]?=some x1 →
(R x1))))) fun x1 =>
(.el 144 AV.int s2 (fun R=>Rf (s2.map AV.int) (ck (decide (0≤t0)) (ck (decide (t0<(s2.length:Int)))
(∀x2,s2[t0.toNat]?=some x2 →
(R x2))))) fun x2 =>
(.callP (peerIs_c x1 x2)
(.br 272 (!(decide (x1.router=x2))) (.ret (false))
(.bk 0 b0 ((W (t0+1)):Int) [])))))
(.ret (true)))))
def eqPI_vc(s1:(List Per))(s2:(List Int))(I0:Int→Prop)(m0:Int→Nat)(r0:Bool):Prop:=(eqPI_x s1 s2 I0 m0).vp eqPI_e r0
theorem eqPI_p(a:List Per)(b:List Int)(ok:eqPI_a a b):∃I m,eqPI_vc a b I m (decide (a.map Per.router=b)):=by
 simp only [eqPI_a,okU,Blk.ok,plainV,List.length_map] at ok
 refine ⟨fun t=>∃k:Nat,t=k∧k≤a.length∧(a.take k).map Per.router=b.take k,fun t=>a.length-t.toNat,?_⟩
 dsimp only [eqPI_vc,eqPI_x,eqPI_s,Ax.vp,Ax.vc];simp only [vcU,rfU,List.length_map]
 refine ⟨fun e=>(decide_eq_false fun h=>by subst h;simp at e).symm,fun e=>⟨⟨0,rfl,by omega,rfl⟩,?_⟩⟩
 have e:a.length=b.length:=by simp at e;omega
 rintro _ ⟨k,rfl,hk,h⟩
 simp only [Int.toNat_natCast]
 refine ⟨fun h1=>⟨by omega,by omega,fun x hx=>⟨by omega,by omega,fun y hy=>⟨fun e2=>?_,fun e2=>?_⟩⟩⟩,fun h1=>?_⟩
 ·refine (decide_eq_false fun hh=>?_).symm
  subst hh
  rw [List.getElem?_map,hx] at hy
  simp only [Option.map_some,Option.some.injEq] at hy
  subst hy
  simp at e2
 ·have e2:x.router=y:=by simpa using e2
  rw [W_succ (n:=a.length) (by omega) (by omega)]
  exact ⟨⟨k+1,rfl,by omega,by rw [take_succ hx,take_succ hy,List.map_append,h];simp [e2]⟩,by omega⟩
 ·rw [List.take_of_length_le (by omega),List.take_of_length_le (by omega)] at h
  exact (decide_eq_true h).symm
def eqPI_c(s1:(List Per))(s2:(List Int)):PC Tryz.prog:=⟨123,[(.s 3),(.s 1),.k],[.sl 3 (s1.map Per.v) false,.sl 1 (s2.map AV.int) false,.func 125 []],eqPI_e (decide (s1.map Per.router=s2)),PSpec.of_ok fun ok=>(eqPI_p s1 s2 ok).elim fun I0 h=>h.elim fun m0 h=>mxP_of (sh:=.k) (enc:=eqPI_e) (a:=(eqPI_x s1 s2 I0 m0).an) h (by kernel_rfl) (AV.pureB_ok rfl),fnB_ok (by kernel_rfl)⟩
def indexI(l:List Int)(v:Int):Int:=match l.findIdx? fun x=>decide (v=x) with
 | some i=>i
 | none=>-1
theorem indexI_some{l:List Int}{r:Int}{i:Nat}(hx:l[i]?=some r)(hb:∀y∈l.take i,r≠y):indexI l r=i:=by
 obtain ⟨hi,hxi⟩:=List.getElem?_eq_some_iff.mp hx
 have:l.findIdx? (fun p=>decide (r=p))=some i:=by
  rw [List.findIdx?_eq_some_iff_getElem]
  refine ⟨hi,by rw [hxi];simp,fun j hj=>?_⟩
  have:=hb l[j] (List.mem_of_getElem? (i:=j) (by rw [List.getElem?_take,if_pos hj,List.getElem?_eq_getElem (by omega)]))
  simpa using this
 unfold indexI;rw [this]
theorem indexI_none{l:List Int}{r:Int}(hb:∀y∈l,r≠y):indexI l r=-1:=by
 have:l.findIdx? (fun p=>decide (r=p))=none:=by
  rw [List.findIdx?_eq_none_iff]
  intro x hx;simpa using hb x hx
 unfold indexI;rw [this]
def indexI_a(s:(List Int))(v:Int):Prop:=okL [.sl 1 (s.map AV.int) false,.int v]
def indexI_n0(s:(List Int))(v:Int)(t0:Int):NF:=⟨[(0,.k,.sl 1 (s.map AV.int) false),(1,.k,.int v),(7,.k,.int ((s.map AV.int).length:Int)),(8,.k,.int t0)],[]⟩
@[reducible] def indexI_s:Nat→Type
 | 0=>Int
 | _=>Unit
def indexI_e(r:Int):AV:=.int r
def indexI_x(s:(List Int))(v:Int)(I0:Int→Prop)(m0:Int→Nat):Ax Tryz.prog indexI_s (Int):=
 (.loop 0 (indexI_n0 s v) I0 m0 ((0):Int) [] fun (t0:Int) b0 =>
(.br 16 (decide (t0<((s.map AV.int).length:Int))) (.el 96 AV.int s (fun R=>Rf (s.map AV.int) (ck (decide (0≤t0)) (ck (decide (t0<(s.length:Int)))
(∀x1,s[t0.toNat]?=some x1 →
(R x1))))) fun x1 =>
(.br 144 (v==x1) (.ret (t0))
(.bk 0 b0 ((W (t0+1)):Int) [])))
(.ret (-1))))
def indexI_vc(s:(List Int))(v:Int)(I0:Int→Prop)(m0:Int→Nat)(r0:Int):Prop:=(indexI_x s v I0 m0).vp indexI_e r0
theorem indexI_p(l:List Int)(v:Int)(ok:indexI_a l v):∃I m,indexI_vc l v I m (indexI l v):=by
 simp only [indexI_a,okU,Blk.ok,plainV,List.length_map] at ok
 refine ⟨fun t=>∃k:Nat,t=k∧k≤l.length∧∀x∈l.take k,v≠x,fun t=>l.length-t.toNat,?_⟩
 dsimp only [indexI_vc,indexI_x,indexI_s,Ax.vp,Ax.vc];simp only [vcU,rfU,List.length_map]
 have hle:l.length≤9223372036854775807:=ok.1.1
 refine ⟨⟨0,rfl,by omega,by simp⟩,?_⟩
 rintro _ ⟨k,rfl,hk,hI⟩
 simp only [Int.toNat_natCast]
 refine ⟨fun h1=>⟨by omega,by omega,fun x hx=>⟨fun e=>?_,fun e=>?_⟩⟩,fun h1=>?_⟩
 ·have e:v=x:=by simpa using e
  subst e
  rw [indexI_some hx hI]
 ·rw [W_succ (n:=l.length) (by omega) (by omega)]
  exact ⟨⟨k+1,rfl,by omega,(mem_take_succ hx).mpr ⟨hI,by simpa using e⟩⟩,by omega⟩
 ·rw [List.take_of_length_le (by omega)] at hI
  rw [indexI_none hI]
def indexI_c(s:(List Int))(v:Int):PC Tryz.prog:=⟨164,[(.s 1),.k],[.sl 1 (s.map AV.int) false,.int v],indexI_e (indexI s v),PSpec.of_ok fun ok=>(indexI_p s v ok).elim fun I0 h=>h.elim fun m0 h=>mxP_of (sh:=.k) (enc:=indexI_e) (a:=(indexI_x s v I0 m0).an) h (by kernel_rfl) (AV.pureB_ok rfl),fnB_ok (by kernel_rfl)⟩
theorem indexI_nn{l:List Int}{v:Int}:0≤indexI l v↔v∈l:=by
 unfold indexI
 cases e:l.findIdx? (fun p=>decide (v=p)) with
 | none =>
  rw [List.findIdx?_eq_none_iff] at e
  simp only
  refine ⟨fun h=>by omega,fun h=>by have:=e v h;simp at this⟩
 | some i =>
  rw [List.findIdx?_eq_some_iff_getElem] at e
  obtain ⟨h1,h2,_⟩:=e
  simp only
  refine ⟨fun _=>?_,fun _=>by omega⟩
  have:v=l[i]:=by simpa using h2
  rw [this];exact List.getElem_mem h1
def contI_a(s:(List Int))(v:Int):Prop:=okL [.sl 1 (s.map AV.int) false,.int v]
def contI_e(r:Bool):AV:=.bool r
def contI_x(s:(List Int))(v:Int):Ax Tryz.prog noS (Bool):=
 (.callP (indexI_c s v)
(.ret (decide (0≤(indexI s v)))))
def contI_vc(s:(List Int))(v:Int)(r0:Bool):Prop:=(contI_x s v).vp contI_e r0
theorem contI_p(l:List Int)(v:Int)(ok:contI_a l v):contI_vc l v (decide (v∈l)):=by
 dsimp only [contI_vc,contI_x,noS,Ax.vp,Ax.vc];simp only [vcU,rfU,List.length_map]
 exact decide_eq_decide.mpr indexI_nn
def contI_c(s:(List Int))(v:Int):PC Tryz.prog:=⟨127,[(.s 1),.k],[.sl 1 (s.map AV.int) false,.int v],contI_e (decide (v∈s)),PSpec.of_ok fun ok=>mxP_of (sh:=.k) (enc:=contI_e) (a:=(contI_x s v).an) (contI_p s v ok) (by kernel_rfl) (AV.pureB_ok rfl),fnB_ok (by kernel_rfl)⟩
theorem valS_z{s:Spk}:valS s=0↔spkOk s:=by
 have hv:valS s=if spkOk s then 0 else 1:=rfl
 rw [hv];by_cases h:spkOk s<;>simp [h]
theorem valL_z{s:Lsn}:valL s=0↔lsnOk s:=by
 have hv:valL s=if lsnOk s then 0 else 1:=rfl
 rw [hv];by_cases h:lsnOk s<;>simp [h]
theorem ovl_lens{o:Ovl}(ok:okL [o.v]):o.sp.length≤9223372036854775807∧o.ls.length≤9223372036854775807∧o.fl.length≤9223372036854775807:=by
 have h:=ok
 simp only [Ovl.v,spks,lsns,sigs,AV.ok,okL,List.length_map,maxLen_eq] at h
 omega
theorem take_all{α:Type}{P:α→Prop}{l:List α}{k:Nat}{x:α}(hx:l[k]?=some x)(h:∀y∈l.take k,P y)(hp:P x):∀y∈l.take (k+1),P y:=(mem_take_succ hx).mpr ⟨h,hp⟩
def validO_a(o:Ovl):Prop:=okL [.agg [.sl 5 (o.sp.map Spk.v) false,.sl 3 (o.ls.map Lsn.v) false,.sl 10 (o.fl.map Sig.v) false]]
def validO_n0(o:Ovl)(t0:Bool):NF:=⟨[(1,.k,.ref 0 0),(23,.k,.bool t0)],[.box (.agg [.sl 5 (o.sp.map Spk.v) false,.sl 3 (o.ls.map Lsn.v) false,.sl 10 (o.fl.map Sig.v) false])]⟩
def validO_n1(o:Ovl)(t1:Int):NF:=⟨[(1,.k,.ref 0 0),(3,.k,.sl 1 ((rtrs o.sp).map AV.int) false),(27,.k,.sl 5 (o.sp.map Spk.v) false),(28,.k,.int ((o.sp.map Spk.v).length:Int)),(29,.k,.int t1)],[.box (.agg [.sl 5 (o.sp.map Spk.v) false,.sl 3 (o.ls.map Lsn.v) false,.sl 10 (o.fl.map Sig.v) false])]⟩
def validO_n2(o:Ovl)(t1:Int)(x2:Spk)(t2:Bool):NF:=⟨[(1,.k,.ref 0 0),(3,.k,.sl 1 ((rtrs o.sp).map AV.int) false),(4,.k,.int t1),(5,.k,.ref 1 0),(27,.k,.sl 5 (o.sp.map Spk.v) false),(28,.k,.int ((o.sp.map Spk.v).length:Int)),(29,.k,.int t1),(50,.k,.bool t2)],[.box (.agg [.sl 5 (o.sp.map Spk.v) false,.sl 3 (o.ls.map Lsn.v) false,.sl 10 (o.fl.map Sig.v) false]),.box (.agg [.int x2.router,.int x2.epoch,.int x2.last,.sl 4 (x2.items.map Itm.v) false,.sl 3 (x2.peers.map Per.v) false])]⟩
def validO_n3(o:Ovl)(t1:Int)(x5:Lsn)(t3:Bool):NF:=⟨[(1,.k,.ref 0 0),(3,.k,.sl 1 ((rtrs o.sp).map AV.int) false),(6,.k,.ref 1 0),(27,.k,.sl 5 (o.sp.map Spk.v) false),(28,.k,.int ((o.sp.map Spk.v).length:Int)),(29,.k,.int t1),(73,.k,.bool t3)],[.box (.agg [.sl 5 (o.sp.map Spk.v) false,.sl 3 (o.ls.map Lsn.v) false,.sl 10 (o.fl.map Sig.v) false]),.box (.agg [.int x5.router,.int x5.epoch,.sl 4 (x5.heard.map Hrd.v) false])]⟩
def validO_n4(o:Ovl)(t1:Int)(x5:Lsn)(t4:Int):NF:=⟨[(1,.k,.ref 0 0),(3,.k,.sl 1 ((rtrs o.sp).map AV.int) false),(27,.k,.sl 5 (o.sp.map Spk.v) false),(28,.k,.int ((o.sp.map Spk.v).length:Int)),(29,.k,.int t1),(75,.k,.sl 4 (x5.heard.map Hrd.v) false),(76,.k,.int ((x5.heard.map Hrd.v).length:Int)),(77,.k,.int t4)],[.box (.agg [.sl 5 (o.sp.map Spk.v) false,.sl 3 (o.ls.map Lsn.v) false,.sl 10 (o.fl.map Sig.v) false])]⟩
def validO_n5(o:Ovl)(t5:Int):NF:=⟨[(3,.k,.sl 1 ((rtrs o.sp).map AV.int) false),(89,.k,.sl 10 (o.fl.map Sig.v) false),(90,.k,.int ((o.fl.map Sig.v).length:Int)),(91,.k,.int t5)],[]⟩
def validO_n6(o:Ovl)(t5:Int)(t6:Bool):NF:=⟨[(3,.k,.sl 1 ((rtrs o.sp).map AV.int) false),(89,.k,.sl 10 (o.fl.map Sig.v) false),(90,.k,.int ((o.fl.map Sig.v).length:Int)),(91,.k,.int t5),(111,.k,.bool t6)],[]⟩
@[reducible] def validO_s:Nat→Type
 | 0=>Bool
 | 1=>Int
 | 2=>Bool
 | 3=>Bool
 | 4=>Int
 | 5=>Int
 | 6=>Bool
 | _=>Unit
def validO_e(r:Bool):AV:=.bool r
def validO_x(o:Ovl)(I0:Bool→Prop)(I1:Bool→Int→Prop)(m1:Bool→Int→Nat)(I2:Bool→Int→Spk→Bool→Prop)(I3:Bool→Int→Spk→Bool→Lsn→Bool→Prop)(I4:Bool→Int→Spk→Bool→Lsn→Bool→Int→Prop)(m4:Bool→Int→Spk→Bool→Lsn→Bool→Int→Nat)(I5:Bool→Int→Int→Prop)(m5:Bool→Int→Int→Nat)(I6:Bool→Int→Int→Sig→Bool→Prop):Ax Tryz.prog validO_s (Bool):=
 (.pass (.pass (.join 0 (validO_n0 o) (fun (t0:Bool)=>I0 t0) (fun b0=>(.br 112 (decide (12<((o.sp.map Spk.v).length:Int))) (.bk 0 b0 ((true):Bool) [0])
(.bk 0 b0 ((((o.ls.map Lsn.v).length:Int) != ((o.sp.map Spk.v).length:Int)):Bool) [0]))) fun (t0:Bool) =>
(.br 1 t0 (.ret (false))
(.req 17 (o.sp.length≤1000000) fun h1 =>
(.callP (rtrsF_c o h1)
(.loop 1 (validO_n1 o) (I1 t0) (m1 t0) ((0):Int) [0] fun (t1:Int) b1 =>
(.br 17 (decide (t1<((o.sp.map Spk.v).length:Int))) (.el 33 Spk.v o.sp (fun R=>Rf (o.sp.map Spk.v) (ck (decide (0≤t1)) (ck (decide (t1<(o.sp.length:Int)))
(∀x2,o.sp[t1.toNat]?=some x2 →
(R x2))))) fun x2 =>
(.pass (.join 2 (validO_n2 o t1 x2) (fun (t2:Bool)=>I2 t0 t1 x2 t2) (fun b2=>(.callP (valS_c x2)
(.br 177 ((valS x2) != 0) (.bk 2 b2 ((true):Bool) [0,65])
(.br 225 (decide (0<t1)) (.el 273 AV.int (rtrs o.sp) (fun R=>Rf ((rtrs o.sp).map AV.int) (ck (decide (0≤(W (t1-1)))) (ck (decide ((W (t1-1))<((rtrs o.sp).length:Int)))
(∀x3,(rtrs o.sp)[(W (t1-1)).toNat]?=some x3 →
(R x3))))) fun x3 =>
(.bk 2 b2 ((decide (x2.router≤x3)):Bool) [0,65]))
(.bk 2 b2 ((false):Bool) [0,65]))))) fun (t2:Bool) =>
(.br 2 t2 (.ret (false))
(.req 82 ((rtrs o.sp).length≤1000000) fun h4 =>
(.callP (othersF_c (rtrs o.sp) x2.router h4)
(.callP (eqPI_c x2.peers (others (rtrs o.sp) x2.router))
(.br 130 (!(decide (x2.peers.map Per.router=(others (rtrs o.sp) x2.router)))) (.ret (false))
(.el 178 Lsn.v o.ls (fun R=>Rf (o.ls.map Lsn.v) (ck (decide (0≤t1)) (ck (decide (t1<(o.ls.length:Int)))
(∀x5,o.ls[t1.toNat]?=some x5 →
(R x5))))) fun x5 =>
(.pass (.join 3 (validO_n3 o t1 x5) (fun (t3:Bool)=>I3 t0 t1 x2 t2 x5 t3) (fun b3=>(.callP (valL_c x5)
(.br 306 ((valL x5) != 0) (.bk 3 b3 ((true):Bool) [0,210])
(.bk 3 b3 ((x5.router != x2.router):Bool) [0,210])))) fun (t3:Bool) =>
(.br 2 t3 (.ret (false))
(.loop 4 (validO_n4 o t1 x5) (I4 t0 t1 x2 t2 x5 t3) (m4 t0 t1 x2 t2 x5 t3) ((0):Int) [0] fun (t4:Int) b4 =>
(.br 17 (decide (t4<((x5.heard.map Hrd.v).length:Int))) (.el 17 Hrd.v x5.heard (fun R=>Rf (x5.heard.map Hrd.v) (ck (decide (0≤t4)) (ck (decide (t4<(x5.heard.length:Int)))
(∀x6,x5.heard[t4.toNat]?=some x6 →
(R x6))))) fun x6 =>
(.callP (contI_c (rtrs o.sp) x6.router)
(.br 161 (!(decide (x6.router∈(rtrs o.sp)))) (.ret (false))
(.bk 4 b4 ((W (t4+1)):Int) [0]))))
(.bk 1 b1 ((W (t1+1)):Int) [0])))))))))))))))
(.loop 5 (validO_n5 o) (I5 t0 t1) (m5 t0 t1) ((0):Int) [] fun (t5:Int) b5 =>
(.br 16 (decide (t5<((o.fl.map Sig.v).length:Int))) (.el 16 Sig.v o.fl (fun R=>Rf (o.fl.map Sig.v) (ck (decide (0≤t5)) (ck (decide (t5<(o.fl.length:Int)))
(∀x7,o.fl[t5.toNat]?=some x7 →
(R x7))))) fun x7 =>
(.join 6 (validO_n6 o t5) (fun (t6:Bool)=>I6 t0 t1 t5 x7 t6) (fun b6=>(.callP (sigV_c x7)
(.br 144 ((sigErr x7) != 0) (.bk 6 b6 ((true):Bool) [])
(.callP (contI_c (rtrs o.sp) x7.src)
(.br 256 (!(decide (x7.src∈(rtrs o.sp)))) (.bk 6 b6 ((true):Bool) [])
(.callP (contI_c (rtrs o.sp) x7.dst)
(.bk 6 b6 ((!(decide (x7.dst∈(rtrs o.sp)))):Bool) []))))))) fun (t6:Bool) =>
(.br 0 t6 (.ret (false))
(.bk 5 b5 ((W (t5+1)):Int) []))))
(.ret (true))))))))))))
def validO_vc(o:Ovl)(I0:Bool→Prop)(I1:Bool→Int→Prop)(m1:Bool→Int→Nat)(I2:Bool→Int→Spk→Bool→Prop)(I3:Bool→Int→Spk→Bool→Lsn→Bool→Prop)(I4:Bool→Int→Spk→Bool→Lsn→Bool→Int→Prop)(m4:Bool→Int→Spk→Bool→Lsn→Bool→Int→Nat)(I5:Bool→Int→Int→Prop)(m5:Bool→Int→Int→Nat)(I6:Bool→Int→Int→Sig→Bool→Prop)(r0:Bool):Prop:=(validO_x o I0 I1 m1 I2 I3 I4 m4 I5 m5 I6).vp validO_e r0
theorem validO_p(o:Ovl)(ok:validO_a o):∃I0 I1 m1 I2 I3 I4 m4 I5 m5 I6,validO_vc o I0 I1 m1 I2 I3 I4 m4 I5 m5 I6 (decide (ovlOk o)):=by
 unfold validO_a at ok
 obtain ⟨l1,l2,l3⟩:=ovl_lens ok
 refine ⟨fun t=>t=false↔(o.sp.length≤12∧o.ls.length=o.sp.length),
  fun _ t=>∃k:Nat,t=k∧k≤o.sp.length∧∀i s l,i<k→o.sp[i]?=some s→o.ls[i]?=some l→AtK (rtrs o.sp) i s l,fun _ t=>o.sp.length-t.toNat,
  fun _ t1 x t=>t=false↔(spkOk x∧(0<t1.toNat→∀y,(rtrs o.sp)[t1.toNat-1]?=some y→y<x.router)),
  fun _ _ x _ y t=>t=false↔(lsnOk y∧y.router=x.router),
  fun _ _ _ _ y _ t=>∃k:Nat,t=k∧k≤y.heard.length∧∀h∈y.heard.take k,h.router∈rtrs o.sp,fun _ _ _ _ y _ t=>y.heard.length-t.toNat,
  fun _ _ t=>∃k:Nat,t=k∧k≤o.fl.length∧∀x∈o.fl.take k,sigIn (rtrs o.sp) x,fun _ _ t=>o.fl.length-t.toNat,
  fun _ _ _ x t=>t=false↔sigIn (rtrs o.sp) x,?_⟩
 dsimp only [validO_vc,validO_x,validO_s,Ax.vp,Ax.vc];simp only [vcU,rfU,List.length_map]
 refine ⟨⟨fun h1=>by simp;omega,fun h1=>?_⟩,?_⟩
 ·simp;omega
 intro t0 h0
 refine ⟨fun e=>?_,fun e=>?_⟩
 ·subst e
  exact nodec fun q=>by have:=h0.mpr ⟨(ovl_iff.mp q).1,(ovl_iff.mp q).2.1⟩;simp at this
 obtain ⟨n1,n2⟩:=h0.mp e
 have hR:(rtrs o.sp).length=o.sp.length:=rtrs_len
 refine ⟨by omega,⟨0,rfl,by omega,fun i s l hi=>by omega⟩,?_⟩
 rintro _ ⟨k,rfl,hk,hI⟩
 simp only [Int.toNat_natCast]
 refine ⟨fun h1=>⟨by omega,by omega,fun x hx=>⟨⟨fun a1=>?_,fun a1=>⟨fun a2=>⟨?_,?_,fun y hy=>?_⟩,fun a2=>?_⟩⟩,?_⟩⟩,fun h1=>⟨⟨0,rfl,by omega,by simp⟩,?_⟩⟩
 ·have a1:¬valS x=0:=by simpa using a1
  rw [valS_z] at a1
  simp [a1]
 ·rw [W_eq (by omega)];omega
 ·rw [W_eq (by omega)];omega
 ·have a1:valS x=0:=by simpa using a1
  have e3:(W ((k:Int)-1)).toNat=k-1:=by rw [W_eq (by omega)];omega
  rw [e3] at hy
  rw [valS_z] at a1
  rw [hy]
  simp only [Option.some.injEq,forall_eq']
  exact ⟨fun q=>⟨a1,fun _=>by omega⟩,fun q=>by have:=q.2 (by omega);omega⟩
 ·have a1:valS x=0:=by simpa using a1
  rw [valS_z] at a1
  simp only [true_iff]
  exact ⟨a1,fun q=>by omega⟩
 ·intro t2 h2
  refine ⟨fun e=>?_,fun e=>⟨by omega,fun a1=>?_,fun a1=>⟨by omega,by omega,fun y hy=>⟨⟨fun b1=>?_,fun b1=>?_⟩,?_⟩⟩⟩⟩
  ·subst e
   exact nodec fun q=>by
    obtain ⟨l,hl⟩:∃l,o.ls[k]?=some l:=⟨_,List.getElem?_eq_getElem (by omega)⟩
    have d:=(ovl_iff.mp q).2.2.1 k x l hx hl
    have:=h2.mpr ⟨d.fs,d.fasc⟩
    simp at this
  ·have a1:¬x.peers.map Per.router=others (rtrs o.sp) x.router:=by simpa using a1
   exact nodec fun q=>by
    obtain ⟨l,hl⟩:∃l,o.ls[k]?=some l:=⟨_,List.getElem?_eq_getElem (by omega)⟩
    exact a1 ((ovl_iff.mp q).2.2.1 k x l hx hl).fp
  ·have b1:¬valL y=0:=by simpa using b1
   rw [valL_z] at b1
   simp [b1]
  ·have b1:valL y=0:=by simpa using b1
   rw [valL_z] at b1
   simp [b1]
  ·have a1:x.peers.map Per.router=others (rtrs o.sp) x.router:=by simpa using a1
   intro t3 h3
   refine ⟨fun e3=>?_,fun e3=>⟨⟨0,rfl,by omega,by simp⟩,?_⟩⟩
   ·subst e3
    exact nodec fun q=>by
     have d:=(ovl_iff.mp q).2.2.1 k x y hx hy
     have:=h3.mpr ⟨d.fl,d.fr⟩
     simp at this
   obtain ⟨d1,d2⟩:=h2.mp e
   obtain ⟨d3,d4⟩:=h3.mp e3
   have hh:=d3.2.2.1
   rintro _ ⟨j,rfl,hj,hJ⟩
   simp only [Int.toNat_natCast]
   refine ⟨fun c1=>⟨by omega,by omega,fun z hz=>⟨fun c2=>?_,fun c2=>?_⟩⟩,fun c1=>?_⟩
   ·have c2:¬z.router∈rtrs o.sp:=by simpa using c2
    exact nodec fun q=>c2 (((ovl_iff.mp q).2.2.1 k x y hx hy).fh z (mem_of_get hz))
   ·rw [W_succ (n:=y.heard.length) (by omega) (by omega)]
    exact ⟨⟨j+1,rfl,by omega,take_all hz hJ (by simpa using c2)⟩,by omega⟩
   ·rw [W_succ (n:=o.sp.length) (by omega) (by omega)]
    have hj:j=y.heard.length:=by omega
    rw [hj,List.take_length] at hJ
    refine ⟨⟨k+1,rfl,by omega,fun i s l hi hs hl=>?_⟩,by omega⟩
    by_cases ei:i=k
    ·subst ei
     rw [hx] at hs;rw [hy] at hl
     cases hs;cases hl
     exact ⟨d1,d2,a1,d3,d4,hJ⟩
    ·exact hI i s l (by omega) hs hl
 ·have hk:k=o.sp.length:=by omega
  rintro _ ⟨j,rfl,hj,hJ⟩
  simp only [Int.toNat_natCast]
  refine ⟨fun c1=>⟨by omega,by omega,fun x hx=>⟨⟨fun a1=>?_,fun a1=>⟨fun a2=>?_,fun a2=>?_⟩⟩,?_⟩⟩,fun c1=>?_⟩
  ·have a1:¬sigErr x=0:=by simpa using a1
   simp [sigIn,a1]
  ·have a2:¬x.src∈rtrs o.sp:=by simpa using a2
   simp [sigIn,a2]
  ·have a1:sigErr x=0:=by simpa using a1
   have a2:x.src∈rtrs o.sp:=by simpa using a2
   simp [sigIn,a1,a2]
  ·intro t6 h6
   refine ⟨fun e=>?_,fun e=>?_⟩
   ·subst e
    exact nodec fun q=>by have:=h6.mpr ((ovl_iff.mp q).2.2.2 x (mem_of_get hx));simp at this
   ·rw [W_succ (n:=o.fl.length) (by omega) (by omega)]
    exact ⟨⟨j+1,rfl,by omega,take_all hx hJ (h6.mp e)⟩,by omega⟩
  ·have hj:j=o.fl.length:=by omega
   rw [hj,List.take_length] at hJ
   refine (decide_eq_true (ovl_iff.mpr ⟨n1,n2,fun i s l hs hl=>hI i s l (by have:=lt_of_get hs;omega) hs hl,hJ⟩)).symm
def validO_c(o:Ovl):PC Tryz.prog:=⟨91,[(.a [(.s 5),(.s 3),(.s 10)])],[.agg [.sl 5 (o.sp.map Spk.v) false,.sl 3 (o.ls.map Lsn.v) false,.sl 10 (o.fl.map Sig.v) false]],validO_e (decide (ovlOk o)),PSpec.of_ok fun ok=>(validO_p o ok).elim fun I0 h=>h.elim fun I1 h=>h.elim fun m1 h=>h.elim fun I2 h=>h.elim fun I3 h=>h.elim fun I4 h=>h.elim fun m4 h=>h.elim fun I5 h=>h.elim fun m5 h=>h.elim fun I6 h=>mxP_of (sh:=.k) (enc:=validO_e) (a:=(validO_x o I0 I1 m1 I2 I3 I4 m4 I5 m5 I6).an) h (by kernel_rfl) (AV.pureB_ok rfl),fnB_ok (by kernel_rfl)⟩
def valO(o:Ovl):Int:=if ovlOk o then 0 else 1
def valO_a(o:Ovl):Prop:=okL [.agg [.sl 5 (o.sp.map Spk.v) false,.sl 3 (o.ls.map Lsn.v) false,.sl 10 (o.fl.map Sig.v) false]]
def valO_e(r:Int):AV:=.int r
def valO_x(o:Ovl):Ax Tryz.prog noS (Int):=
 (.callP (validO_c o)
(.br 64 (decide (ovlOk o)) (.ret (0))
(.ret (1))))
def valO_vc(o:Ovl)(r0:Int):Prop:=(valO_x o).vp valO_e r0
theorem valO_p(o:Ovl)(ok:valO_a o):valO_vc o (valO o):=by
 dsimp only [valO_vc,valO_x,noS,Ax.vp,Ax.vc];simp only [vcU,rfU,List.length_map]
 unfold valO
 refine ⟨fun h=>?_,fun h=>?_⟩
 ·rw [if_pos h]
 ·rw [if_neg h]
def valO_c(o:Ovl):PC Tryz.prog:=⟨50,[(.a [(.s 5),(.s 3),(.s 10)])],[.agg [.sl 5 (o.sp.map Spk.v) false,.sl 3 (o.ls.map Lsn.v) false,.sl 10 (o.fl.map Sig.v) false]],valO_e (valO o),PSpec.of_ok fun ok=>mxP_of (sh:=.k) (enc:=valO_e) (a:=(valO_x o).an) (valO_p o ok) (by kernel_rfl) (AV.pureB_ok rfl),fnB_ok (by kernel_rfl)⟩
theorem sig_srcs{x:Sig}(h:sigErr x=0):x.srcs.length≤1000000:=by
 unfold sigErr at h
 split at h
 ·omega
 split at h
 ·omega
 split at h
 ·have:=srcs_len h;omega
 ·split at h
  ·omega
  ·rename_i q
   have:x.srcs=[]:=by
    by_cases e:x.srcs=[]
    ·exact e
    ·exact absurd (.inr e) q
   rw [this];simp
theorem findW_cons(x:Wnt)(l:List Wnt)(g:Int):findW (x::l) g=if x.grp=g then ⟨x.mode,x.srcs⟩ else findW l g:=by
 unfold findW
 rw [List.find?_cons]
 by_cases h:x.grp=g
 ·rw [if_pos h];simp [h]
 ·rw [if_neg h];simp [h]
theorem hitS_iff{o:Ovl}(h:ovlOk o)(r:Int):hitS o.sp r↔r∈rtrs o.sp:=(hitK_iff (key:=Spk.router) h.1.asc).trans mem_keys.symm
theorem pos_get{o:Ovl}(h:ovlOk o){r:Int}(hr:r∈rtrs o.sp):posS o.sp r<o.sp.length∧posS o.sp r<o.ls.length∧o.sp[posS o.sp r]?=some (atS o.sp r)∧o.ls[posS o.sp r]?=some (atL o.sp o.ls r):=by
 have h1:=((hitS_iff h r).mpr hr).1
 have h2:=(ovl_iff.mp h).2.1
 refine ⟨h1,by omega,?_,?_⟩
 ·unfold atS;rw [List.getD_eq_getElem?_getD,List.getElem?_eq_getElem h1];rfl
 ·unfold atL;rw [List.getD_eq_getElem?_getD,List.getElem?_eq_getElem (by omega)];rfl
def okArr(l:List Sig)(f:List Fau):Prop:=l.length≤500000∧f.length≤1000∧∀x∈l,x.srcs.length≤1000000
def okRnd(o:Ovl)(f:List Fau):Prop:=o.fl.length≤400000∧f.length≤1000
theorem NetOk.pos{R:List Int}{sp:List Spk}{ls:List Lsn}(h:NetOk R sp ls){r:Int}(hr:r∈R) :
  posS sp r<sp.length∧posS sp r<ls.length∧sp[posS sp r]?=some (atS sp r)∧ls[posS sp r]?=some (atL sp ls r):=by
 have h1:posS sp r<sp.length:=((hitK_iff (key:=Spk.router) (d:=spk0) h.asc).mpr (mem_keys.mp (by rw [h.spr];exact hr))).1
 have e1:=congrArg List.length h.spr
 have e2:=congrArg List.length h.lsr
 rw [List.length_map] at e1 e2
 refine ⟨h1,by omega,?_,?_⟩
 ·unfold atS;rw [List.getD_eq_getElem?_getD,List.getElem?_eq_getElem h1];rfl
 ·unfold atL;rw [List.getD_eq_getElem?_getD,List.getElem?_eq_getElem (by omega)];rfl
theorem NetOk.lens{R:List Int}{sp:List Spk}{ls:List Lsn}(h:NetOk R sp ls):sp.length≤12∧ls.length≤12:=by
 have e1:=congrArg List.length h.spr
 have e2:=congrArg List.length h.lsr
 rw [List.length_map] at e1 e2
 have:=h.len
 omega
theorem flat_take{α β:Type}{f:α→List β}{l:List α}{k:Nat}{x:α}(hx:l[k]?=some x):(l.take (k+1)).flatMap f=(l.take k).flatMap f++f x:=by
 rw [take_succ hx];simp
theorem pos_inj{o:Ovl}(h:ovlOk o){a b:Int}(ha:a∈rtrs o.sp)(hb:b∈rtrs o.sp):posS o.sp a=posS o.sp b↔a=b:=by
 refine ⟨fun e=>?_,fun e=>by rw [e]⟩
 have h1:=(h.1.s ha).2
 have h2:=(h.1.s hb).2
 unfold atS at h1 h2
 rw [e] at h1
 exact h1.symm.trans h2
def knwOv_a(o:Ovl)(at_:Int)(of_:Int):Prop:=okL [.agg [.sl 5 (o.sp.map Spk.v) false,.sl 3 (o.ls.map Lsn.v) false,.sl 10 (o.fl.map Sig.v) false],.int at_,.int of_]
def knwOv_n0(o:Ovl)(at_:Int)(of_:Int)(t0:Bool):NF:=⟨[(2,.k,.int of_),(3,.k,.ref 0 0),(8,.k,.int (posS o.sp at_:Int)),(10,.k,.int (posS o.sp of_:Int)),(27,.k,.bool t0)],[.box (.agg [.sl 5 (o.sp.map Spk.v) false,.sl 3 (o.ls.map Lsn.v) false,.sl 10 (o.fl.map Sig.v) false])]⟩
@[reducible] def knwOv_s:Nat→Type
 | 0=>Bool
 | _=>Unit
def knwOv_e(r:(List Wnt)×Int):AV:=.tup [.sl 3 (r.1.map Wnt.v) false,.int r.2]
def knwOv_x(o:Ovl)(at_:Int)(of_:Int)(I0:Bool→Prop):Ax Tryz.prog knwOv_s ((List Wnt)×Int):=
 (.callP (validO_c o)
(.br 96 (!(decide (ovlOk o))) (.ret ([],1))
(.req 128 (o.sp.Pairwise fun x y=>x.router<y.router) fun h1 =>
(.req 128 (o.sp.length≤1000000) fun h2 =>
(.callP (findS_c o at_ h1 h2)
(.req 256 (o.sp.Pairwise fun x y=>x.router<y.router) fun h3 =>
(.req 256 (o.sp.length≤1000000) fun h4 =>
(.callP (findS_c o of_ h3 h4)
(.pass (.join 0 (knwOv_n0 o at_ of_) (fun (t0:Bool)=>I0 t0) (fun b0=>(.br 400 (!(decide (hitS o.sp at_))) (.bk 0 b0 ((true):Bool) [0])
(.bk 0 b0 ((!(decide (hitS o.sp of_))):Bool) [0]))) fun (t0:Bool) =>
(.br 1 t0 (.ret ([],4))
(.br 65 ((posS o.sp at_:Int)==(posS o.sp of_:Int)) (.el 113 Spk.v o.sp (fun R=>Rf (o.sp.map Spk.v) (ck (decide (0≤(posS o.sp at_:Int))) (ck (decide ((posS o.sp at_:Int)<(o.sp.length:Int)))
(∀x5,o.sp[(posS o.sp at_:Int).toNat]?=some x5 →
(R x5))))) fun x5 =>
(.callP (wantsF_c x5.items)
(.ret (wantsOf x5.items,0))))
(.el 113 Lsn.v o.ls (fun R=>Rf (o.ls.map Lsn.v) (ck (decide (0≤(posS o.sp at_:Int))) (ck (decide ((posS o.sp at_:Int)<(o.ls.length:Int)))
(∀x6,o.ls[(posS o.sp at_:Int).toNat]?=some x6 →
(R x6))))) fun x6 =>
(.callP (knownF_c x6 of_)
(.ret (knownW x6 of_,0))))))))))))))))
def knwOv_vc(o:Ovl)(at_:Int)(of_:Int)(I0:Bool→Prop)(r0:(List Wnt)×Int):Prop:=(knwOv_x o at_ of_ I0).vp knwOv_e r0
theorem knwOv_p(o:Ovl)(a b:Int)(ok:knwOv_a o a b):∃I0,knwOv_vc o a b I0 (knownV o a b):=by
 refine ⟨fun t=>t=decide (a ∉ rtrs o.sp∨b ∉ rtrs o.sp),?_⟩
 dsimp only [knwOv_vc,knwOv_x,knwOv_s,Ax.vp,Ax.vc];simp only [vcU,rfU,List.length_map]
 have hV:knownV o a b=if ¬ovlOk o then ([],1) else if a ∉ rtrs o.sp∨b ∉ rtrs o.sp then ([],4) else if a=b then (wantsOf (atS o.sp b).items,0) else (knownW (atL o.sp o.ls a) b,0):=rfl
 rw [hV]
 by_cases hv:ovlOk o
 case neg=>simp [hv]
 have hL:=hv.1.lens
 rw [if_neg (not_not_intro hv)]
 refine ⟨fun q=>absurd hv (by simpa using q),fun _=>⟨hv.1.asc,by omega,hv.1.asc,by omega,⟨fun c=>?_,fun c=>?_⟩,?_⟩⟩
 ·have c:a ∉ rtrs o.sp:=by rw [←hitS_iff hv];simpa using c
  simp [c]
 ·have c:a∈rtrs o.sp:=by rw [←hitS_iff hv];simpa using c
  have e2:decide (hitS o.sp b)=decide (b∈rtrs o.sp):=decide_eq_decide.mpr (hitS_iff hv b)
  rw [e2];simp [c]
 ·rintro _ rfl
  refine ⟨fun c=>?_,fun c=>?_⟩
  ·rw [if_pos (of_decide_eq_true c)]
  have c:=of_decide_eq_false c
  rw [if_neg c]
  have ha:a∈rtrs o.sp:=by simp only [not_or,Classical.not_not] at c;exact c.1
  have hb:b∈rtrs o.sp:=by simp only [not_or,Classical.not_not] at c;exact c.2
  obtain ⟨p1,p2,p3,p4⟩:=hv.1.pos ha
  simp only [Int.toNat_natCast]
  refine ⟨fun q=>⟨by omega,by omega,fun x hx=>?_⟩,fun q=>⟨by omega,by omega,fun x hx=>?_⟩⟩
  ·have q:a=b:=(pos_inj hv ha hb).mp (by have:=eq_of_beq q;omega)
   cases p3.symm.trans hx
   rw [if_pos q,q]
  ·have q:¬a=b:=fun e=>by rw [e] at q;simp at q
   cases p4.symm.trans hx
   rw [if_neg q]
def knwOv_c(o:Ovl)(at_:Int)(of_:Int):PC Tryz.prog:=⟨53,[(.a [(.s 5),(.s 3),(.s 10)]),.k,.k],[.agg [.sl 5 (o.sp.map Spk.v) false,.sl 3 (o.ls.map Lsn.v) false,.sl 10 (o.fl.map Sig.v) false],.int at_,.int of_],knwOv_e (knownV o at_ of_),PSpec.of_ok fun ok=>(knwOv_p o at_ of_ ok).elim fun I0 h=>mxP_of (sh:=(.a [(.s 3),.k])) (enc:=knwOv_e) (a:=(knwOv_x o at_ of_ I0).an) h (by kernel_rfl) (AV.pureB_ok rfl),fnB_ok (by kernel_rfl)⟩
def setAt(o:Ovl)(s:Spk)(p:Per):Prop:=agree s (atL o.sp o.ls p.router)∧p.epoch=(atL o.sp o.ls p.router).epoch∧p.acked=s.last
theorem netOf_iff(l:List Int):ovlOk (netOf l)↔okR l:=by
 have er:rtrs (netOf l).sp=l:=by
  show (l.map (spkN l)).map Spk.router=l
  rw [List.map_map]
  exact List.map_id'' (fun x=>rfl) l
 constructor
 ·rintro ⟨h,_⟩
  rw [er] at h
  refine ⟨h.len,fun r hr=>?_,h.ascR⟩
  have:=(h.spo (spkN l r) (List.mem_map.mpr ⟨r,hr,rfl⟩)).1.1
  exact this
 ·intro h
  refine ⟨?_,by simp [netOf]⟩
  rw [er];exact netOf_net h
def fltsT_a(L:(List Int))(p:Nat)(n:Int):Prop:=okL [.ref 0 0,.int n]∧(.box (.agg [.sl 1 (L.map AV.int) false,.int ((p:Nat):Int)]):Blk).ok
def fltsT_n0(L:(List Int))(n:Int)(t0:Int×Nat×(List Fau)):NF:=⟨[(0,.k,.ref 0 0),(1,.k,.int n),(5,.k,.vec 1),(6,.k,.int t0.1)],[.box (.agg [.sl 1 (L.map AV.int) false,.int ((t0.2.1:Nat):Int)]),.vec 2 (t0.2.2.map Fau.v) (pureBL_map (fun _=>rfl) t0.2.2)]⟩
@[reducible] def fltsT_s:Nat→Type
 | 0=>Int×Nat×(List Fau)
 | _=>Unit
def fltsT_e(r:Tap×(List Fau)):AV:=.sl 2 (r.2.map Fau.v) false
def fltsT_b(r:Tap×(List Fau)):List (Option Blk):=[some (.box (.agg [.sl 1 (r.1.L.map AV.int) false,.int ((r.1.p:Nat):Int)]))]
def fltsT_x(L:(List Int))(p:Nat)(n:Int)(I0:(Int×Nat×(List Fau))→Prop)(m0:(Int×Nat×(List Fau))→Nat):Ax Tryz.prog fltsT_s (Tap×(List Fau)):=
 (.callH [0] (N_h L p 4) 49
(.cmdL (.nilT 5 2) (.loop 0 (fltsT_n0 L n) I0 m0 (Mod (rawV L p) 4,rawP L p,[]) [0,81] fun (t0:Int×Nat×(List Fau)) b0 =>
(.br 34 (decide (0<t0.1)) (.callH [0] (Range_h L t0.2.1 0 5) 66
(.callH [0] (N_h L (rawP L t0.2.1) (W (n+2))) 130
(.say (fun R=>Rf (α:=List AV) (t0.2.2.map Fau.v) (Rf (α:=List AV) [.agg [.int (rng L t0.2.1 0 5),.int (Mod (rawV L (rawP L t0.2.1)) (W (n+2)))]]
(ck (decide (t0.2.2.length+1≤1048576))
R))) (.app 178 Fau.v t0.2.2 [(⟨rng L t0.2.1 0 5,Mod (rawV L (rawP L t0.2.1)) (W (n+2))⟩:Fau)]
(.bk 0 b0 (W (t0.1-1),rawP L (rawP L t0.2.1),t0.2.2++[(⟨rng L t0.2.1 0 5,Mod (rawV L (rawP L t0.2.1)) (W (n+2))⟩:Fau)]) [0,178])))))
(.say (Rf (t0.2.2.map Fau.v)) (.cmdL (.frzE 1 (t0.2.2.map Fau.v) (pureBL_map (fun _=>rfl) t0.2.2)) (.retH ((⟨L,t0.2.1⟩:Tap),t0.2.2) ⟨[(4,.k,.sl 2 (t0.2.2.map Fau.v) false)],[.box (.agg [.sl 1 (L.map AV.int) false,.int ((t0.2.1:Nat):Int)])]⟩ [0])))))))
def fltsT_vc(L:(List Int))(p:Nat)(n:Int)(I0:(Int×Nat×(List Fau))→Prop)(m0:(Int×Nat×(List Fau))→Nat)(r0:Tap×(List Fau)):Prop:=(fltsT_x L p n I0 m0).vc fltsT_e fltsT_b r0
theorem fltsT_p(L:List Int)(p:Nat)(n:Int)(h:0≤n∧n≤1000000)(ok:fltsT_a L p n):∃I m,fltsT_vc L p n I m ((⟨L,(faultsT L n p).2⟩:Tap),(faultsT L n p).1):=by
 have hm:=Mod_range (x:=rawV L p) (n:=4) (by omega)
 refine ⟨fun t=>∃k:Nat,t.1=k∧k≤4∧t.2.2.length+k≤4∧faultsL L n k t.2.2 t.2.1=faultsT L n p,fun t=>t.1.toNat,?_⟩
 dsimp only [fltsT_vc,fltsT_x,fltsT_s,Ax.vp,Ax.vc];simp only [vcU,rfU,List.length_map]
 refine ⟨⟨(Mod (rawV L p) 4).toNat,by omega,by omega,by simp;omega,rfl⟩,?_⟩
 rintro ⟨i,q,out⟩ ⟨k,hk,hk4,hl,hf⟩
 simp only at hk hl hf
 subst hk
 simp only [Int.toNat_natCast]
 refine ⟨fun h1=>⟨by omega,?_,?_⟩,fun h1=>?_⟩
 ·obtain ⟨j,rfl⟩:∃j,k=j+1:=⟨k-1,by omega⟩
  rw [W_eq (by omega)]
  refine ⟨j,by omega,by omega,by simp;omega,?_⟩
  rw [faultsL] at hf
  exact hf
 ·rw [W_eq (by omega)];omega
 ·have:k=0:=by omega
  subst this
  rw [←hf];rfl
def fltsT_h(L:(List Int))(p:Nat)(n:Int)(h:0≤n∧n≤1000000):HC Tryz.prog:=⟨40,[.k,.k],[.ref 0 0,.int n],[.box (.agg [.sl 1 (L.map AV.int) false,.int ((p:Nat):Int)])],fltsT_e ((⟨L,(faultsT L n p).2⟩:Tap),(faultsT L n p).1),fltsT_b ((⟨L,(faultsT L n p).2⟩:Tap),(faultsT L n p).1),HSpec.of_okh fun ok ok2=>have ok:fltsT_a L p n:=⟨ok,ok2 _ (by simp)⟩;(fltsT_p L p n h ok).elim fun I0 h=>h.elim fun m0 h=>mxH_of (sh:=(.s 2)) (enc:=fltsT_e) (hB:=fltsT_b) (a:=(fltsT_x L p n I0 m0).an) h (by kernel_rfl),fnB_ok (by kernel_rfl),HcOk.of (by simp [hcB,belBL,AV.belB,allB,okBk,okBkO,fltsT_e,fltsT_b,pureBL_map (v:=AV.int) (fun _=>rfl)])⟩
def rds(o:Ovl):Nat→Ovl
 | 0=>o
 | n+1=>round0 (rds o n)
theorem rds_ok{R:List Int}{o:Ovl}(h:OI R o):∀n:Nat,OI R (rds o n)∧(rds o n).fl.length≤o.fl.length+n * 14400
 | 0=>⟨h,by simp [rds]⟩
 | n+1=>by
  obtain ⟨h1,h2⟩:=rds_ok h n
  have e:=(h1.roundO []).2.len
  rw [h1.roundO_nil] at e
  simp only [List.length_nil] at e
  refine ⟨h1.round0,?_⟩
  rw [rds];omega
theorem rds_lw{R:List Int}{o:Ovl}{k:Int}{lw:Int→List Wnt}(h:LW R o k lw):∀n:Nat,LW R (rds o n) k lw
 | 0=>h
 | n+1=>by
  have h1:=rds_lw h n
  have:=(h1.roundO []).2
  rw [h1.oi.roundO_nil] at this
  exact this
theorem rds_quiet{R:List Int}{o:Ovl}(h:OI R o):agreedP (rds o 4)∧settledP (rds o 5):=h.quiet
def arrR_a(l:(List Sig))(faults:(List Fau)):Prop:=okL [.sl 10 (l.map Sig.v) false,.sl 2 (faults.map Fau.v) false]
def arrR_n0(faults:(List Fau))(t0:Int×(List Sig)×(List Sig)):NF:=⟨[(6,.k,.vec 0),(7,.k,.vec 1),(15,.k,.sl 2 (faults.map Fau.v) false),(16,.k,.int ((faults.map Fau.v).length:Int)),(17,.k,.int t0.1)],[.vec 10 (t0.2.1.map Sig.v) (pureBL_map (fun _=>rfl) t0.2.1),.vec 10 (t0.2.2.map Sig.v) (pureBL_map (fun _=>rfl) t0.2.2)]⟩
def arrR_n1(faults:(List Fau))(t0:Int×(List Sig)×(List Sig))(x1:Fau)(t1:Bool):NF:=⟨[(6,.k,.vec 0),(7,.k,.vec 1),(9,.k,.ref 2 0),(15,.k,.sl 2 (faults.map Fau.v) false),(16,.k,.int ((faults.map Fau.v).length:Int)),(17,.k,.int t0.1),(30,.k,.bool t1)],[.vec 10 (t0.2.1.map Sig.v) (pureBL_map (fun _=>rfl) t0.2.1),.vec 10 (t0.2.2.map Sig.v) (pureBL_map (fun _=>rfl) t0.2.2),.box (.agg [.int x1.kind,.int x1.pos])]⟩
@[reducible] def arrR_s:Nat→Type
 | 0=>Int×(List Sig)×(List Sig)
 | 1=>Bool
 | _=>Unit
def arrR_e(r:(List Sig)×(List Sig)):AV:=.tup [.vec 0,.vec 1]
def arrR_b(r:(List Sig)×(List Sig)):List (Option Blk):=[some (.vec 10 (r.1.map Sig.v)),some (.vec 10 (r.2.map Sig.v))]
def arrR_x(l:(List Sig))(faults:(List Fau))(I0:(Int×(List Sig)×(List Sig))→Prop)(m0:(Int×(List Sig)×(List Sig))→Nat)(I1:Int×(List Sig)×(List Sig)→Fau→Bool→Prop):Ax Tryz.prog arrR_s ((List Sig)×(List Sig)):=
 (.say (fun R=>Rf (α:=List AV) [] (Rf (α:=List AV) (l.map Sig.v)
(ck (decide (0+l.length≤1048576))
R))) (.app 64 Sig.v [] l
(.cmdL (.nilT 7 10) (.loop 0 (arrR_n0 faults) I0 m0 (0,l,[]) [64,160] fun (t0:Int×(List Sig)×(List Sig)) b0 =>
(.br 18 (decide (t0.1<((faults.map Fau.v).length:Int))) (.el 18 Fau.v faults (fun R=>Rf (faults.map Fau.v) (ck (decide (0≤t0.1)) (ck (decide (t0.1<(faults.length:Int)))
(∀x1,faults[t0.1.toNat]?=some x1 →
(R x1))))) fun x1 =>
(.pass (.join 1 (arrR_n1 faults t0 x1) (fun (t1:Bool)=>I1 t0 x1 t1) (fun b1=>(.br 146 (decide (x1.pos<0)) (.bk 1 b1 ((true):Bool) [0,1,50])
(.bk 1 b1 ((decide (((t0.2.1.map Sig.v).length:Int)≤x1.pos)):Bool) [0,1,50]))) fun (t1:Bool) =>
(.br 3 t1 (.bk 0 b0 (W (t0.1+1),t0.2.1,t0.2.2) [0,1])
(.say (ck (cond (decide (0≤x1.pos)) (decide (x1.pos<((t0.2.1.map Sig.v).length:Int))) false)) (.el 67 Sig.v t0.2.1 (fun R=>Rf (t0.2.1.map Sig.v) (ck (decide (x1.pos.toNat<t0.2.1.length))
(∀x2,t0.2.1[x1.pos.toNat]?=some x2 →
(R x2)))) fun x2 =>
(.say (fun R=>Rf (t0.2.1.map Sig.v) (ck (decide (0<t0.2.1.length))
R)) (.sub 195 Sig.v t0.2.1 false
(.say (fun R=>ck (bndB t0.2.1.length (W (x1.pos+1)) (t0.2.1.length:Int) (t0.2.1.length:Int))
((ck (decide ((W (x1.pos+1)).toNat+((t0.2.1.length:Int)-(W (x1.pos+1))).toNat≤(t0.2.1.map Sig.v).length))
(Rf (α:=List AV) [] (((((t0.2.1.map Sig.v).drop ((W (x1.pos+1)).toNat)).take (((t0.2.1.length:Int)-(W (x1.pos+1))).toNat))=((t0.2.1.drop ((W (x1.pos+1)).toNat)).take (((t0.2.1.length:Int)-(W (x1.pos+1))).toNat)).map Sig.v) ∧
(ck (decide (0+((t0.2.1.drop ((W (x1.pos+1)).toNat)).take (((t0.2.1.length:Int)-(W (x1.pos+1))).toNat)).length≤1048576))
R)))))) (.app 211 Sig.v [] ((t0.2.1.drop ((W (x1.pos+1)).toNat)).take (((t0.2.1.length:Int)-(W (x1.pos+1))).toNat))
(.br 307 (x1.kind==1) (.say (fun R=>Rf (t0.2.1.map Sig.v) (ck (decide (0<t0.2.1.length))
R)) (.sub 387 Sig.v t0.2.1 false
(.say (fun R=>ck (decide (x1.pos=x1.pos))
((ck (bndB t0.2.1.length 0 x1.pos x1.pos)
((Rf (α:=List AV) ((t0.2.1.take x1.pos.toNat).map Sig.v) (Rf (α:=List AV) (((t0.2.1.drop ((W (x1.pos+1)).toNat)).take (((t0.2.1.length:Int)-(W (x1.pos+1))).toNat)).map Sig.v)
(ck (decide ((t0.2.1.take x1.pos.toNat).length+((t0.2.1.drop ((W (x1.pos+1)).toNat)).take (((t0.2.1.length:Int)-(W (x1.pos+1))).toNat)).length≤1048576))
R))))))) (.app 419 Sig.v (t0.2.1.take x1.pos.toNat) ((t0.2.1.drop ((W (x1.pos+1)).toNat)).take (((t0.2.1.length:Int)-(W (x1.pos+1))).toNat))
(.bk 0 b0 (W (t0.1+1),(t0.2.1.take x1.pos.toNat)++((t0.2.1.drop ((W (x1.pos+1)).toNat)).take (((t0.2.1.length:Int)-(W (x1.pos+1))).toNat)),t0.2.2) [419,1])))))
(.br 339 (x1.kind==2) (.say (fun R=>Rf (t0.2.1.map Sig.v) (ck (decide (0<t0.2.1.length))
R)) (.sub 419 Sig.v t0.2.1 false
(.say (fun R=>ck (decide (x1.pos=x1.pos))
((ck (bndB t0.2.1.length 0 x1.pos x1.pos)
((Rf (α:=List AV) ((t0.2.1.take x1.pos.toNat).map Sig.v) (Rf (α:=List AV) [.agg [.int x2.kind,.int x2.src,.int x2.dst,.int x2.epoch,.int x2.ver,.int x2.prev,.int x2.pep,.int x2.grp,.int x2.mode,.sl 1 (x2.srcs.map AV.int) false],.agg [.int x2.kind,.int x2.src,.int x2.dst,.int x2.epoch,.int x2.ver,.int x2.prev,.int x2.pep,.int x2.grp,.int x2.mode,.sl 1 (x2.srcs.map AV.int) false]]
(ck (decide ((t0.2.1.take x1.pos.toNat).length+2≤1048576))
R))))))) (.app 483 Sig.v (t0.2.1.take x1.pos.toNat) [x2,x2]
(.say (fun R=>Rf (α:=List AV) (((t0.2.1.take x1.pos.toNat)++[x2,x2]).map Sig.v) (Rf (α:=List AV) (((t0.2.1.drop ((W (x1.pos+1)).toNat)).take (((t0.2.1.length:Int)-(W (x1.pos+1))).toNat)).map Sig.v)
(ck (decide (((t0.2.1.take x1.pos.toNat)++[x2,x2]).length+((t0.2.1.drop ((W (x1.pos+1)).toNat)).take (((t0.2.1.length:Int)-(W (x1.pos+1))).toNat)).length≤1048576))
R))) (.app 515 Sig.v ((t0.2.1.take x1.pos.toNat)++[x2,x2]) ((t0.2.1.drop ((W (x1.pos+1)).toNat)).take (((t0.2.1.length:Int)-(W (x1.pos+1))).toNat))
(.bk 0 b0 (W (t0.1+1),((t0.2.1.take x1.pos.toNat)++[x2,x2])++((t0.2.1.drop ((W (x1.pos+1)).toNat)).take (((t0.2.1.length:Int)-(W (x1.pos+1))).toNat)),t0.2.2) [515,1])))))))
(.br 371 (x1.kind==3) (.say (fun R=>Rf (t0.2.1.map Sig.v) (ck (decide (0<t0.2.1.length))
R)) (.sub 451 Sig.v t0.2.1 false
(.say (fun R=>ck (decide (x1.pos=x1.pos))
((ck (bndB t0.2.1.length 0 x1.pos x1.pos)
((Rf (α:=List AV) ((t0.2.1.take x1.pos.toNat).map Sig.v) (Rf (α:=List AV) (((t0.2.1.drop ((W (x1.pos+1)).toNat)).take (((t0.2.1.length:Int)-(W (x1.pos+1))).toNat)).map Sig.v)
(ck (decide ((t0.2.1.take x1.pos.toNat).length+((t0.2.1.drop ((W (x1.pos+1)).toNat)).take (((t0.2.1.length:Int)-(W (x1.pos+1))).toNat)).length≤1048576))
R))))))) (.app 483 Sig.v (t0.2.1.take x1.pos.toNat) ((t0.2.1.drop ((W (x1.pos+1)).toNat)).take (((t0.2.1.length:Int)-(W (x1.pos+1))).toNat))
(.say (fun R=>Rf (α:=List AV) (t0.2.2.map Sig.v) (Rf (α:=List AV) [.agg [.int x2.kind,.int x2.src,.int x2.dst,.int x2.epoch,.int x2.ver,.int x2.prev,.int x2.pep,.int x2.grp,.int x2.mode,.sl 1 (x2.srcs.map AV.int) false]]
(ck (decide (t0.2.2.length+1≤1048576))
R))) (.app 563 Sig.v t0.2.2 [x2]
(.bk 0 b0 (W (t0.1+1),(t0.2.1.take x1.pos.toNat)++((t0.2.1.drop ((W (x1.pos+1)).toNat)).take (((t0.2.1.length:Int)-(W (x1.pos+1))).toNat)),t0.2.2++[x2]) [483,563])))))))
(.br 403 (x1.kind==4) (.br 499 (decide ((W (x1.pos+1))<((t0.2.1.map Sig.v).length:Int))) (.say (ck (cond (decide (0≤(W (x1.pos+1)))) (decide ((W (x1.pos+1))<((t0.2.1.map Sig.v).length:Int))) false)) (.el 691 Sig.v t0.2.1 (fun R=>Rf (t0.2.1.map Sig.v) (ck (decide ((W (x1.pos+1)).toNat<t0.2.1.length))
(∀x3,t0.2.1[(W (x1.pos+1)).toNat]?=some x3 →
(R x3)))) fun x3 =>
(.say (ck (cond (decide (0≤x1.pos)) (decide (x1.pos<((t0.2.1.map Sig.v).length:Int))) false)) (.st 739 Sig.v t0.2.1 (fun y4=>x3) (fun R=>Rf (t0.2.1.map Sig.v) (ck (decide (x1.pos.toNat<t0.2.1.length))
(∀y4,t0.2.1[x1.pos.toNat]?=some y4→Rf (Sig.v x3)
((R y4))))) fun y4 =>
(.say (ck (cond (decide (0≤(W (x1.pos+1)))) (decide ((W (x1.pos+1))<(((t0.2.1.set x1.pos.toNat x3).map Sig.v).length:Int))) false)) (.st 771 Sig.v (t0.2.1.set x1.pos.toNat x3) (fun y5=>x2) (fun R=>Rf ((t0.2.1.set x1.pos.toNat x3).map Sig.v) (ck (decide ((W (x1.pos+1)).toNat<(t0.2.1.set x1.pos.toNat x3).length))
(∀y5,(t0.2.1.set x1.pos.toNat x3)[(W (x1.pos+1)).toNat]?=some y5→Rf (Sig.v x2)
((R y5))))) fun y5 =>
(.bk 0 b0 (W (t0.1+1),(t0.2.1.set x1.pos.toNat x3).set ((W (x1.pos+1)).toNat) x2,t0.2.2) [0,1])))))))
(.bk 0 b0 (W (t0.1+1),t0.2.1,t0.2.2) [0,1]))
(.bk 0 b0 (W (t0.1+1),t0.2.1,t0.2.2) [0,1])))))))))))))))
(.retH (t0.2.1,t0.2.2) ⟨[(4,.k,.vec 0),(5,.k,.vec 1)],[.vec 10 (t0.2.1.map Sig.v) (pureBL_map (fun _=>rfl) t0.2.1),.vec 10 (t0.2.2.map Sig.v) (pureBL_map (fun _=>rfl) t0.2.2)]⟩ [0,1]))))))
def arrR_vc(l:(List Sig))(faults:(List Fau))(I0:(Int×(List Sig)×(List Sig))→Prop)(m0:(Int×(List Sig)×(List Sig))→Nat)(I1:Int×(List Sig)×(List Sig)→Fau→Bool→Prop)(r0:(List Sig)×(List Sig)):Prop:=(arrR_x l faults I0 m0 I1).vc arrR_e arrR_b r0
theorem arrR_p(l:List Sig)(f:List Fau)(h:okArr l f)(ok:arrR_a l f):∃I0 m0 I1,arrR_vc l f I0 m0 I1 (arr l f):=by
 obtain ⟨h1,h2,h3⟩:=h
 refine ⟨fun t=>∃k:Nat,t=((k:Int),((f.take k).foldl arr1 (l,[])).1,((f.take k).foldl arr1 (l,[])).2)∧k≤f.length,fun t=>f.length-t.1.toNat,
  fun t0 x t=>t=decide (x.pos<0∨(t0.2.1.length:Int)≤x.pos),?_⟩
 dsimp only [arrR_vc,arrR_x,arrR_s,Ax.vp,Ax.vc];simp only [vcU,rfU,List.length_map]
 refine ⟨by omega,⟨0,rfl,by omega⟩,?_⟩
 rintro _ ⟨k,rfl,hk⟩
 have hlen:=arrs_len (f:=f.take k) (s:=(l,[]))
 have hst:∀x,f[k]?=some x→(f.take (k+1)).foldl arr1 (l,[])=arr1 ((f.take k).foldl arr1 (l,[])) x:=fun x hx=>by rw [take_succ hx,List.foldl_append];rfl
 have hend:k=f.length→(f.take k).foldl arr1 (l,[])=arr l f:=fun e=>by rw [e,List.take_length];rfl
 generalize (f.take k).foldl arr1 (l,[])=s at *
 obtain ⟨now,late⟩:=s
 rw [List.length_take] at hlen
 simp only [Int.toNat_natCast,List.length_nil] at hlen ⊢
 refine ⟨fun a1=>⟨by omega,by omega,fun x hx=>⟨⟨fun c=>?_,fun c=>?_⟩,?_⟩⟩,fun a1=>?_⟩
 ·simp [c]
 ·exact decide_eq_decide.mpr (by omega)
 ·have e1:=hst x hx
  intro t1 ht1
  rw [W_succ (n:=f.length) (by omega) (by omega)]
  have fin:∀a b,arr1 (now,late) x=(a,b)→(∃k_1:Nat,(((k+1:Nat):Int),a,b)=((k_1:Int),((f.take k_1).foldl arr1 (l,[])).1,((f.take k_1).foldl arr1 (l,[])).2)∧k_1≤f.length)∧f.length-((k+1:Nat):Int).toNat<f.length-k:=fun a b e =>
   ⟨⟨k+1,by rw [e1,e],by omega⟩,by omega⟩
  refine ⟨fun e=>fin _ _ (if_pos (of_decide_eq_true (ht1.symm.trans e))),fun e=>?_⟩
  have hb:¬(x.pos<0∨(now.length:Int)≤x.pos):=of_decide_eq_false (ht1.symm.trans e)
  have e2:arr1 (now,late) x=arrK now late x.kind x.pos.toNat (now.getD x.pos.toNat sig0):=if_neg hb
  obtain ⟨n,hn⟩:∃n:Nat,x.pos=n:=⟨x.pos.toNat,by omega⟩
  rw [hn] at e2 hb ⊢
  simp only [Int.toNat_natCast] at e2 ⊢
  have hW:W ((n:Int)+1)=((n+1:Nat):Int):=by rw [W_eq (by omega)];omega
  rw [hW]
  simp only [Int.toNat_natCast]
  have hr:(now.drop (n+1)).take ((now.length:Int)-((n+1:Nat):Int)).toNat=now.drop (n+1):=List.take_of_length_le (by simp;omega)
  have hdl:(now.drop (n+1)).length=now.length-(n+1):=List.length_drop ..
  have htl:(now.take n).length≤n:=List.length_take_le ..
  rw [hr]
  have hbn:bndB now.length 0 (n:Int) (n:Int)=true:=by simp [bndB];omega
  refine ⟨by simp;omega,by omega,fun y hy=>?_⟩
  rw [getD_some hy] at e2
  refine ⟨by omega,by simp [bndB];omega,by omega,by rw [←hr,List.map_take,List.map_drop],by omega,?_⟩
  refine ⟨fun c1=>⟨by omega,trivial,hbn,by omega,fin _ _ ?_⟩,fun c1=>⟨fun c2=>⟨by omega,trivial,hbn,by omega,by simp;omega,fin _ _ ?_⟩,fun c2=>⟨fun c3=>⟨by omega,trivial,hbn,by omega,by omega,fin _ _ ?_⟩,fun c3=>⟨fun c4=>⟨fun d=>?_,fun d=>fin _ _ ?_⟩,fun c4=>fin _ _ ?_⟩⟩⟩⟩
  ·rw [e2,arrK,if_pos (by simpa using c1)]
  ·rw [e2,arrK,if_neg (by simpa using c1),if_pos (by simpa using c2)]
  ·rw [e2,arrK,if_neg (by simpa using c1),if_neg (by simpa using c2),if_pos (by simpa using c3)]
  ·refine ⟨by simp;omega,by omega,fun z hz=>⟨by simp;omega,by omega,fun u hu=>⟨by simp;omega,by simp;omega,fun v hv=>fin _ _ ?_⟩⟩⟩
   rw [e2,arrK,if_neg (by simpa using c1),if_neg (by simpa using c2),if_neg (by simpa using c3),if_pos (by simpa using c4),if_pos (by omega),getD_some hz]
  ·rw [e2,arrK,if_neg (by simpa using c1),if_neg (by simpa using c2),if_neg (by simpa using c3),if_pos (by simpa using c4),if_neg (by omega)]
  ·rw [e2,arrK,if_neg (by simpa using c1),if_neg (by simpa using c2),if_neg (by simpa using c3),if_neg (by simpa using c4)]
 ·rw [←hend (by omega)]
def arrR_h(l:(List Sig))(faults:(List Fau))(h:okArr l faults):HC Tryz.prog:=⟨60,[(.s 10),(.s 2)],[.sl 10 (l.map Sig.v) false,.sl 2 (faults.map Fau.v) false],[],arrR_e (arr l faults),arrR_b (arr l faults),HSpec.of_okh fun ok _=>(arrR_p l faults h ok).elim fun I0 h=>h.elim fun m0 h=>h.elim fun I1 h=>mxH_of (sh:=.k) (enc:=arrR_e) (hB:=arrR_b) (a:=(arrR_x l faults I0 m0 I1).an) h (by kernel_rfl),fnB_ok (by kernel_rfl),HcOk.of (by simp [hcB,belBL,AV.belB,allB,okBk,okBkO,arrR_e,arrR_b,pureBL_map (v:=Fau.v) (fun _=>rfl),pureBL_map (v:=Sig.v) (fun _=>rfl)])⟩
def idxS(l:List Spk)(r:Int):Int:=match l.findIdx? fun p=>decide (p.router=r) with
 | some i=>i
 | none=>-1
theorem idxS_some{l:List Spk}{r:Int}{i:Nat}{x:Spk}(hx:l[i]?=some x)(h:x.router=r)(hb:∀y∈l.take i,y.router≠r):idxS l r=i:=by
 obtain ⟨hi,hxi⟩:=List.getElem?_eq_some_iff.mp hx
 have:l.findIdx? (fun p=>decide (p.router=r))=some i:=by
  rw [List.findIdx?_eq_some_iff_getElem]
  refine ⟨hi,by rw [hxi];simpa using h,fun j hj=>?_⟩
  have:=hb l[j] (List.mem_of_getElem? (i:=j) (by rw [List.getElem?_take,if_pos hj,List.getElem?_eq_getElem (by omega)]))
  simpa using this
 unfold idxS;rw [this]
theorem idxS_none{l:List Spk}{r:Int}(hb:∀y∈l,y.router≠r):idxS l r=-1:=by
 have:l.findIdx? (fun p=>decide (p.router=r))=none:=by
  rw [List.findIdx?_eq_none_iff]
  intro x hx;simpa using hb x hx
 unfold idxS;rw [this]
def idxSF_a(o:Ovl)(router:Int):Prop:=okL [.agg [.sl 5 (o.sp.map Spk.v) false,.sl 3 (o.ls.map Lsn.v) false,.sl 10 (o.fl.map Sig.v) false],.int router]
def idxSF_n0(o:Ovl)(router:Int)(t0:Int):NF:=⟨[(1,.k,.int router),(8,.k,.sl 5 (o.sp.map Spk.v) false),(9,.k,.int ((o.sp.map Spk.v).length:Int)),(10,.k,.int t0)],[]⟩
@[reducible] def idxSF_s:Nat→Type
 | 0=>Int
 | _=>Unit
def idxSF_e(r:Int):AV:=.int r
def idxSF_x(o:Ovl)(router:Int)(I0:Int→Prop)(m0:Int→Nat):Ax Tryz.prog idxSF_s (Int):=
 (.loop 0 (idxSF_n0 o router) I0 m0 ((0):Int) [] fun (t0:Int) b0 =>
(.br 16 (decide (t0<((o.sp.map Spk.v).length:Int))) (.el 32 Spk.v o.sp (fun R=>Rf (o.sp.map Spk.v) (ck (decide (0≤t0)) (ck (decide (t0<(o.sp.length:Int)))
(∀x1,o.sp[t0.toNat]?=some x1 →
(R x1))))) fun x1 =>
(.br 176 (x1.router==router) (.ret (t0))
(.bk 0 b0 ((W (t0+1)):Int) [])))
(.ret (-1))))
def idxSF_vc(o:Ovl)(router:Int)(I0:Int→Prop)(m0:Int→Nat)(r0:Int):Prop:=(idxSF_x o router I0 m0).vp idxSF_e r0
theorem idxSF_p(o:Ovl)(r:Int)(ok:idxSF_a o r):∃I m,idxSF_vc o r I m (idxS o.sp r):=by
 unfold idxSF_a at ok
 have hle:o.sp.length≤9223372036854775807:=by
  have h:=ok
  simp only [okL,AV.ok,List.length_map,maxLen_eq] at h
  omega
 refine ⟨fun t=>∃k:Nat,t=k∧k≤o.sp.length∧∀x∈o.sp.take k,x.router≠r,fun t=>o.sp.length-t.toNat,?_⟩
 dsimp only [idxSF_vc,idxSF_x,idxSF_s,Ax.vp,Ax.vc];simp only [vcU,rfU,List.length_map]
 refine ⟨⟨0,rfl,by omega,by simp⟩,?_⟩
 rintro _ ⟨k,rfl,hk,hI⟩
 simp only [Int.toNat_natCast]
 refine ⟨fun h1=>⟨by omega,by omega,fun x hx=>⟨fun e=>?_,fun e=>?_⟩⟩,fun h1=>?_⟩
 ·rw [idxS_some hx (by simpa using e) hI]
 ·rw [W_succ (n:=o.sp.length) (by omega) (by omega)]
  exact ⟨⟨k+1,rfl,by omega,(mem_take_succ hx).mpr ⟨hI,by simpa using e⟩⟩,by omega⟩
 ·rw [List.take_of_length_le (by omega)] at hI
  rw [idxS_none hI]
def idxSF_c(o:Ovl)(router:Int):PC Tryz.prog:=⟨61,[(.a [(.s 5),(.s 3),(.s 10)]),.k],[.agg [.sl 5 (o.sp.map Spk.v) false,.sl 3 (o.ls.map Lsn.v) false,.sl 10 (o.fl.map Sig.v) false],.int router],idxSF_e (idxS o.sp router),PSpec.of_ok fun ok=>(idxSF_p o router ok).elim fun I0 h=>h.elim fun m0 h=>mxP_of (sh:=.k) (enc:=idxSF_e) (a:=(idxSF_x o router I0 m0).an) h (by kernel_rfl) (AV.pureB_ok rfl),fnB_ok (by kernel_rfl)⟩
theorem idxS_asc{o:Ovl}(h:ovlOk o)(r:Int):idxS o.sp r=if r∈rtrs o.sp then (posS o.sp r:Int) else -1:=by
 by_cases hr:r∈rtrs o.sp
 ·rw [if_pos hr]
  obtain ⟨p1,p2,p3,p4⟩:=h.1.pos hr
  refine idxS_some p3 (h.1.s hr).2 fun y hy=>?_
  obtain ⟨i,hi,rfl⟩:=List.getElem_of_mem hy
  rw [List.length_take] at hi
  rw [List.getElem_take]
  have:=posK_lt (key:=Spk.router) (l:=o.sp) (r:=r) (i:=i) (show i<posS o.sp r by omega) (by omega)
  omega
 ·rw [if_neg hr]
  exact idxS_none fun y hy e=>hr (List.mem_map.mpr ⟨y,hy,e⟩)
def copR_a(o:Ovl):Prop:=okL [.agg [.sl 5 (o.sp.map Spk.v) false,.sl 3 (o.ls.map Lsn.v) false,.sl 10 (o.fl.map Sig.v) false]]
def copR_e(r:Ovl):AV:=.agg [.vec 0,.vec 1,.vec 2]
def copR_b(r:Ovl):List (Option Blk):=[some (.vec 5 (r.sp.map Spk.v)),some (.vec 3 (r.ls.map Lsn.v)),some (.vec 10 (r.fl.map Sig.v))]
def copR_x(o:Ovl):Ax Tryz.prog noS (Ovl):=
 (.say (fun R=>Rf (α:=List AV) [] (Rf (α:=List AV) (o.sp.map Spk.v)
(ck (decide (0+o.sp.length≤1048576))
R))) (.app 80 Spk.v [] o.sp
(.say (fun R=>Rf (α:=List AV) [] (Rf (α:=List AV) (o.ls.map Lsn.v)
(ck (decide (0+o.ls.length≤1048576))
R))) (.app 144 Lsn.v [] o.ls
(.say (fun R=>Rf (α:=List AV) [] (Rf (α:=List AV) (o.fl.map Sig.v)
(ck (decide (0+o.fl.length≤1048576))
R))) (.app 208 Sig.v [] o.fl
(.retH o ⟨[(2,.k,.ref 3 0)],[.vec 5 (o.sp.map Spk.v) (pureBL_map (fun _=>rfl) o.sp),.vec 3 (o.ls.map Lsn.v) (pureBL_map (fun _=>rfl) o.ls),.vec 10 (o.fl.map Sig.v) (pureBL_map (fun _=>rfl) o.fl),.box (.agg [.vec 0,.vec 1,.vec 2])]⟩ [80,144,208,16])))))))
def copR_vc(o:Ovl)(r0:Ovl):Prop:=(copR_x o).vc copR_e copR_b r0
theorem copR_p(o:Ovl)(h:o.sp.length≤1000000∧o.ls.length≤1000000∧o.fl.length≤1000000)(ok:copR_a o):copR_vc o o:=by
 dsimp only [copR_vc,copR_x,noS,Ax.vp,Ax.vc];simp only [vcU,rfU,List.length_map]
 exact ⟨by omega,by omega,by omega,trivial⟩
def copR_h(o:Ovl)(h:o.sp.length≤1000000∧o.ls.length≤1000000∧o.fl.length≤1000000):HC Tryz.prog:=⟨59,[(.a [(.s 5),(.s 3),(.s 10)])],[.agg [.sl 5 (o.sp.map Spk.v) false,.sl 3 (o.ls.map Lsn.v) false,.sl 10 (o.fl.map Sig.v) false]],[],copR_e o,copR_b o,HSpec.of_okh fun ok _=>mxH_of (sh:=.k) (enc:=copR_e) (hB:=copR_b) (a:=(copR_x o).an) (copR_p o h ok) (by kernel_rfl),fnB_ok (by kernel_rfl),HcOk.of (by simp [hcB,belBL,AV.belB,allB,okBk,okBkO,copR_e,copR_b,pureBL_map (v:=Lsn.v) (fun _=>rfl),pureBL_map (v:=Sig.v) (fun _=>rfl),pureBL_map (v:=Spk.v) (fun _=>rfl)])⟩
theorem valO_pos{o:Ovl}(h:¬ovlOk o):(1:Int)=valO o:=(if_neg h).symm
structure RefK (R:List Int) (s:Spk) (l:Lsn):Prop where
  n:s.peers.length+1=R.length
  p:∀p∈s.peers,p.router∈R
  lo:lsnOk l
  lr:l.router=s.router
  h:∀h∈l.heard,h.router∈R
theorem ref_iff{o:Ovl}:ovlOk o↔(o.sp.length≤12∧o.ls.length=o.sp.length)∧(∀i s,o.sp[i]?=some s→spkOk s∧(0<i→∀y,o.sp[i-1]?=some y→y.router<s.router)) ∧
  (∀(i:Nat) s l,o.sp[i]?=some s→o.ls[i]?=some l→RefK (rtrs o.sp) s l)∧∀x∈o.fl,sigIn (rtrs o.sp) x:=by
 rw [ovl_iff]
 have hmem:∀{i:Nat} {s:Spk},o.sp[i]?=some s→s.router∈rtrs o.sp:=fun hs=>List.mem_map.mpr ⟨_,mem_of_get hs,rfl⟩
 constructor
 ·rintro ⟨h1,h2,h3,h4⟩
  have hR:(rtrs o.sp).Pairwise (·<·):=(ovl_iff.mpr ⟨h1,h2,h3,h4⟩).1.ascR
  refine ⟨⟨h1,h2⟩,fun i s hs=>?_,fun i s l hs hl=>?_,h4⟩
  ·obtain ⟨l,hl⟩:∃l,o.ls[i]?=some l:=⟨_,List.getElem?_eq_getElem (by have:=lt_of_get hs;omega)⟩
   have d:=h3 i s l hs hl
   exact ⟨d.fs,fun hi y hy=>d.fasc hi _ (rtrs_get hy)⟩
  ·have d:=h3 i s l hs hl
   obtain ⟨q1,q2⟩:=(peers_iff hR d.fs (hmem hs)).mp d.fp
   exact ⟨q1,q2,d.fl,d.fr,d.fh⟩
 ·rintro ⟨⟨h1,h2⟩,h3,h4,h5⟩
  have hasc:∀k:Nat,k≤o.sp.length→(o.sp.take k).Pairwise fun x y=>x.router<y.router:=by
   intro k
   induction k with
   | zero=>intro _;simp
   | succ k ih =>
    intro hk
    have hs:o.sp[k]?=some o.sp[k]:=List.getElem?_eq_getElem (by omega)
    exact (pw_succ Spk.router hs).mpr ⟨ih (by omega),(h3 k _ hs).2⟩
  have ha:=hasc o.sp.length (Nat.le_refl _)
  rw [List.take_length] at ha
  have hR:(rtrs o.sp).Pairwise (·<·):=by unfold rtrs;rw [List.pairwise_map];exact ha
  refine ⟨h1,h2,fun i s l hs hl=>?_,h5⟩
  obtain ⟨a1,a2⟩:=h3 i s hs
  have b:=h4 i s l hs hl
  refine ⟨a1,fun hi y hy=>?_,(peers_iff hR a1 (hmem hs)).mpr ⟨b.n,b.p⟩,b.lo,b.lr,b.h⟩
  unfold rtrs at hy
  rw [List.getElem?_map] at hy
  cases hz:o.sp[i-1]? with
  | none=>rw [hz] at hy;simp at hy
  | some z =>
   rw [hz] at hy
   have hy:z.router=y:=by simpa using hy
   rw [←hy];exact a2 hi z hz
def valOR_a(o:Ovl):Prop:=okL [.agg [.sl 5 (o.sp.map Spk.v) false,.sl 3 (o.ls.map Lsn.v) false,.sl 10 (o.fl.map Sig.v) false]]
def valOR_n0(o:Ovl)(t0:Bool):NF:=⟨[(1,.k,.ref 0 0),(27,.k,.bool t0)],[.box (.agg [.sl 5 (o.sp.map Spk.v) false,.sl 3 (o.ls.map Lsn.v) false,.sl 10 (o.fl.map Sig.v) false])]⟩
def valOR_n1(o:Ovl)(t1:Int×(List Int)):NF:=⟨[(1,.k,.ref 0 0),(3,.k,.vec 1),(29,.k,.sl 5 (o.sp.map Spk.v) false),(30,.k,.int ((o.sp.map Spk.v).length:Int)),(31,.k,.int t1.1)],[.box (.agg [.sl 5 (o.sp.map Spk.v) false,.sl 3 (o.ls.map Lsn.v) false,.sl 10 (o.fl.map Sig.v) false]),.vec 1 (t1.2.map AV.int) (pureBL_map (fun _=>rfl) t1.2)]⟩
def valOR_n2(o:Ovl)(t1:Int×(List Int))(x1:Spk)(t2:Bool):NF:=⟨[(1,.k,.ref 0 0),(3,.k,.vec 1),(5,.k,.ref 2 0),(29,.k,.sl 5 (o.sp.map Spk.v) false),(30,.k,.int ((o.sp.map Spk.v).length:Int)),(31,.k,.int t1.1),(54,.k,.bool t2)],[.box (.agg [.sl 5 (o.sp.map Spk.v) false,.sl 3 (o.ls.map Lsn.v) false,.sl 10 (o.fl.map Sig.v) false]),.vec 1 (t1.2.map AV.int) (pureBL_map (fun _=>rfl) t1.2),.box (.agg [.int x1.router,.int x1.epoch,.int x1.last,.sl 4 (x1.items.map Itm.v) false,.sl 3 (x1.peers.map Per.v) false])]⟩
def valOR_n3(o:Ovl)(t1:Int×(List Int))(t3:Int):NF:=⟨[(1,.k,.ref 0 0),(3,.k,.vec 1),(62,.k,.sl 5 (o.sp.map Spk.v) false),(63,.k,.int ((o.sp.map Spk.v).length:Int)),(64,.k,.int t3)],[.box (.agg [.sl 5 (o.sp.map Spk.v) false,.sl 3 (o.ls.map Lsn.v) false,.sl 10 (o.fl.map Sig.v) false]),.vec 1 (t1.2.map AV.int) (pureBL_map (fun _=>rfl) t1.2)]⟩
def valOR_n4(o:Ovl)(t1:Int×(List Int))(t3:Int)(x3:Spk)(t4:Int):NF:=⟨[(1,.k,.ref 0 0),(3,.k,.vec 1),(6,.k,.int t3),(7,.k,.ref 2 0),(62,.k,.sl 5 (o.sp.map Spk.v) false),(63,.k,.int ((o.sp.map Spk.v).length:Int)),(64,.k,.int t3),(77,.k,.sl 3 (x3.peers.map Per.v) false),(78,.k,.int ((x3.peers.map Per.v).length:Int)),(79,.k,.int t4)],[.box (.agg [.sl 5 (o.sp.map Spk.v) false,.sl 3 (o.ls.map Lsn.v) false,.sl 10 (o.fl.map Sig.v) false]),.vec 1 (t1.2.map AV.int) (pureBL_map (fun _=>rfl) t1.2),.box (.agg [.int x3.router,.int x3.epoch,.int x3.last,.sl 4 (x3.items.map Itm.v) false,.sl 3 (x3.peers.map Per.v) false])]⟩
def valOR_n5(o:Ovl)(t1:Int×(List Int))(t3:Int)(x5:Lsn)(t5:Bool):NF:=⟨[(1,.k,.ref 0 0),(3,.k,.vec 1),(10,.k,.ref 2 0),(62,.k,.sl 5 (o.sp.map Spk.v) false),(63,.k,.int ((o.sp.map Spk.v).length:Int)),(64,.k,.int t3),(103,.k,.bool t5)],[.box (.agg [.sl 5 (o.sp.map Spk.v) false,.sl 3 (o.ls.map Lsn.v) false,.sl 10 (o.fl.map Sig.v) false]),.vec 1 (t1.2.map AV.int) (pureBL_map (fun _=>rfl) t1.2),.box (.agg [.int x5.router,.int x5.epoch,.sl 4 (x5.heard.map Hrd.v) false])]⟩
def valOR_n6(o:Ovl)(t1:Int×(List Int))(t3:Int)(x5:Lsn)(t6:Int):NF:=⟨[(1,.k,.ref 0 0),(3,.k,.vec 1),(62,.k,.sl 5 (o.sp.map Spk.v) false),(63,.k,.int ((o.sp.map Spk.v).length:Int)),(64,.k,.int t3),(105,.k,.sl 4 (x5.heard.map Hrd.v) false),(106,.k,.int ((x5.heard.map Hrd.v).length:Int)),(107,.k,.int t6)],[.box (.agg [.sl 5 (o.sp.map Spk.v) false,.sl 3 (o.ls.map Lsn.v) false,.sl 10 (o.fl.map Sig.v) false]),.vec 1 (t1.2.map AV.int) (pureBL_map (fun _=>rfl) t1.2)]⟩
def valOR_n7(o:Ovl)(t1:Int×(List Int))(t7:Int):NF:=⟨[(3,.k,.vec 0),(119,.k,.sl 10 (o.fl.map Sig.v) false),(120,.k,.int ((o.fl.map Sig.v).length:Int)),(121,.k,.int t7)],[.vec 1 (t1.2.map AV.int) (pureBL_map (fun _=>rfl) t1.2)]⟩
def valOR_n8(o:Ovl)(t1:Int×(List Int))(t7:Int)(t8:Bool):NF:=⟨[(3,.k,.vec 0),(119,.k,.sl 10 (o.fl.map Sig.v) false),(120,.k,.int ((o.fl.map Sig.v).length:Int)),(121,.k,.int t7),(141,.k,.bool t8)],[.vec 1 (t1.2.map AV.int) (pureBL_map (fun _=>rfl) t1.2)]⟩
@[reducible] def valOR_s:Nat→Type
 | 0=>Bool
 | 1=>Int×(List Int)
 | 2=>Bool
 | 3=>Int
 | 4=>Int
 | 5=>Bool
 | 6=>Int
 | 7=>Int
 | 8=>Bool
 | _=>Unit
def valOR_e(r:Int):AV:=.int r
def valOR_x(o:Ovl)(I0:Bool→Prop)(I1:Bool→(Int×(List Int))→Prop)(m1:Bool→(Int×(List Int))→Nat)(I2:Bool→Int×(List Int)→Spk→Bool→Prop)(I3:Bool→Int×(List Int)→Int→Prop)(m3:Bool→Int×(List Int)→Int→Nat)(I4:Bool→Int×(List Int)→Int→Spk→Int→Prop)(m4:Bool→Int×(List Int)→Int→Spk→Int→Nat)(I5:Bool→Int×(List Int)→Int→Spk→Int→Lsn→Bool→Prop)(I6:Bool→Int×(List Int)→Int→Spk→Int→Lsn→Bool→Int→Prop)(m6:Bool→Int×(List Int)→Int→Spk→Int→Lsn→Bool→Int→Nat)(I7:Bool→Int×(List Int)→Int→Int→Prop)(m7:Bool→Int×(List Int)→Int→Int→Nat)(I8:Bool→Int×(List Int)→Int→Int→Sig→Bool→Prop):Ax Tryz.prog valOR_s (Int):=
 (.pass (.pass (.join 0 (valOR_n0 o) (fun (t0:Bool)=>I0 t0) (fun b0=>(.br 112 (decide (12<((o.sp.map Spk.v).length:Int))) (.bk 0 b0 ((true):Bool) [0])
(.bk 0 b0 ((((o.ls.map Lsn.v).length:Int) != ((o.sp.map Spk.v).length:Int)):Bool) [0]))) fun (t0:Bool) =>
(.br 1 t0 (.ret (1))
(.cmdL (.nilT 3 1) (.loop 1 (valOR_n1 o) (I1 t0) (m1 t0) (0,[]) [0,81] fun (t1:Int×(List Int)) b1 =>
(.br 18 (decide (t1.1<((o.sp.map Spk.v).length:Int))) (.el 34 Spk.v o.sp (fun R=>Rf (o.sp.map Spk.v) (ck (decide (0≤t1.1)) (ck (decide (t1.1<(o.sp.length:Int)))
(∀x1,o.sp[t1.1.toNat]?=some x1 →
(R x1))))) fun x1 =>
(.pass (.join 2 (valOR_n2 o t1 x1) (fun (t2:Bool)=>I2 t0 t1 x1 t2) (fun b2=>(.callP (valR6_c x1)
(.br 178 ((valS x1) != 0) (.bk 2 b2 ((true):Bool) [0,1,66])
(.br 226 (decide (0<t1.1)) (.el 290 Spk.v o.sp (fun R=>Rf (o.sp.map Spk.v) (ck (decide (0≤(W (t1.1-1)))) (ck (decide ((W (t1.1-1))<(o.sp.length:Int)))
(∀x2,o.sp[(W (t1.1-1)).toNat]?=some x2 →
(R x2))))) fun x2 =>
(.bk 2 b2 ((decide (x1.router≤x2.router)):Bool) [0,1,66]))
(.bk 2 b2 ((false):Bool) [0,1,66]))))) fun (t2:Bool) =>
(.br 3 t2 (.ret (1))
(.say (fun R=>Rf (α:=List AV) (t1.2.map AV.int) (Rf (α:=List AV) [.int x1.router]
(ck (decide (t1.2.length+1≤1048576))
R))) (.app 67 AV.int t1.2 [x1.router]
(.bk 1 b1 (W (t1.1+1),t1.2++[x1.router]) [0,67])))))))
(.loop 3 (valOR_n3 o t1) (I3 t0 t1) (m3 t0 t1) ((0):Int) [0,1] fun (t3:Int) b3 =>
(.br 18 (decide (t3<((o.sp.map Spk.v).length:Int))) (.el 34 Spk.v o.sp (fun R=>Rf (o.sp.map Spk.v) (ck (decide (0≤t3)) (ck (decide (t3<(o.sp.length:Int)))
(∀x3,o.sp[t3.toNat]?=some x3 →
(R x3))))) fun x3 =>
(.br 226 (((x3.peers.map Per.v).length:Int) != (W (((t1.2.map AV.int).length:Int)-1))) (.ret (1))
(.loop 4 (valOR_n4 o t1 t3 x3) (I4 t0 t1 t3 x3) (m4 t0 t1 t3 x3) ((0):Int) [0,1,66] fun (t4:Int) b4 =>
(.br 19 (decide (t4<((x3.peers.map Per.v).length:Int))) (.el 19 Per.v x3.peers (fun R=>Rf (x3.peers.map Per.v) (ck (decide (0≤t4)) (ck (decide (t4<(x3.peers.length:Int)))
(∀x4,x3.peers[t4.toNat]?=some x4 →
(R x4))))) fun x4 =>
(.callP (InI_c t1.2 x4.router)
(.say (ck (pureBLs [(t1.2.map AV.int)])) (.br 163 (!(InI t1.2 x4.router)) (.ret (1))
(.bk 4 b4 ((W (t4+1)):Int) [0,1,2])))))
(.el 67 Lsn.v o.ls (fun R=>Rf (o.ls.map Lsn.v) (ck (decide (0≤t3)) (ck (decide (t3<(o.ls.length:Int)))
(∀x5,o.ls[t3.toNat]?=some x5 →
(R x5))))) fun x5 =>
(.pass (.join 5 (valOR_n5 o t1 t3 x5) (fun (t5:Bool)=>I5 t0 t1 t3 x3 t4 x5 t5) (fun b5=>(.callP (valLR_c x5)
(.br 195 ((valL x5) != 0) (.bk 5 b5 ((true):Bool) [0,1,99])
(.bk 5 b5 ((x5.router != x3.router):Bool) [0,1,99])))) fun (t5:Bool) =>
(.br 3 t5 (.ret (1))
(.loop 6 (valOR_n6 o t1 t3 x5) (I6 t0 t1 t3 x3 t4 x5 t5) (m6 t0 t1 t3 x3 t4 x5 t5) ((0):Int) [0,1] fun (t6:Int) b6 =>
(.br 18 (decide (t6<((x5.heard.map Hrd.v).length:Int))) (.el 18 Hrd.v x5.heard (fun R=>Rf (x5.heard.map Hrd.v) (ck (decide (0≤t6)) (ck (decide (t6<(x5.heard.length:Int)))
(∀x6,x5.heard[t6.toNat]?=some x6 →
(R x6))))) fun x6 =>
(.callP (InI_c t1.2 x6.router)
(.say (ck (pureBLs [(t1.2.map AV.int)])) (.br 162 (!(InI t1.2 x6.router)) (.ret (1))
(.bk 6 b6 ((W (t6+1)):Int) [0,1])))))
(.bk 3 b3 ((W (t3+1)):Int) [0,1])))))))))))
(.loop 7 (valOR_n7 o t1) (I7 t0 t1 t3) (m7 t0 t1 t3) ((0):Int) [1] fun (t7:Int) b7 =>
(.br 17 (decide (t7<((o.fl.map Sig.v).length:Int))) (.el 17 Sig.v o.fl (fun R=>Rf (o.fl.map Sig.v) (ck (decide (0≤t7)) (ck (decide (t7<(o.fl.length:Int)))
(∀x7,o.fl[t7.toNat]?=some x7 →
(R x7))))) fun x7 =>
(.join 8 (valOR_n8 o t1 t7) (fun (t8:Bool)=>I8 t0 t1 t3 t7 x7 t8) (fun b8=>(.callP (sigVR_c x7)
(.br 145 ((sigErr x7) != 0) (.bk 8 b8 ((true):Bool) [0])
(.callP (InI_c t1.2 x7.src)
(.say (ck (pureBLs [(t1.2.map AV.int)])) (.br 257 (!(InI t1.2 x7.src)) (.bk 8 b8 ((true):Bool) [0])
(.callP (InI_c t1.2 x7.dst)
(.say (ck (pureBLs [(t1.2.map AV.int)])) (.bk 8 b8 ((!(InI t1.2 x7.dst)):Bool) [0]))))))))) fun (t8:Bool) =>
(.br 1 t8 (.ret (1))
(.bk 7 b7 ((W (t7+1)):Int) [0]))))
(.ret (0)))))))))))))
def valOR_vc(o:Ovl)(I0:Bool→Prop)(I1:Bool→(Int×(List Int))→Prop)(m1:Bool→(Int×(List Int))→Nat)(I2:Bool→Int×(List Int)→Spk→Bool→Prop)(I3:Bool→Int×(List Int)→Int→Prop)(m3:Bool→Int×(List Int)→Int→Nat)(I4:Bool→Int×(List Int)→Int→Spk→Int→Prop)(m4:Bool→Int×(List Int)→Int→Spk→Int→Nat)(I5:Bool→Int×(List Int)→Int→Spk→Int→Lsn→Bool→Prop)(I6:Bool→Int×(List Int)→Int→Spk→Int→Lsn→Bool→Int→Prop)(m6:Bool→Int×(List Int)→Int→Spk→Int→Lsn→Bool→Int→Nat)(I7:Bool→Int×(List Int)→Int→Int→Prop)(m7:Bool→Int×(List Int)→Int→Int→Nat)(I8:Bool→Int×(List Int)→Int→Int→Sig→Bool→Prop)(r0:Int):Prop:=(valOR_x o I0 I1 m1 I2 I3 m3 I4 m4 I5 I6 m6 I7 m7 I8).vp valOR_e r0
theorem valOR_p(o:Ovl)(ok:valOR_a o):∃I0 I1 m1 I2 I3 m3 I4 m4 I5 I6 m6 I7 m7 I8,valOR_vc o I0 I1 m1 I2 I3 m3 I4 m4 I5 I6 m6 I7 m7 I8 (valO o):=by
 unfold valOR_a at ok
 obtain ⟨l1,l2,l3⟩:=ovl_lens ok
 refine ⟨fun t=>t=false↔(o.sp.length≤12∧o.ls.length=o.sp.length),
  fun _ t=>∃k:Nat,t=((k:Int),rtrs (o.sp.take k))∧k≤o.sp.length∧∀i s,i<k→o.sp[i]?=some s→spkOk s∧(0<i→∀y,o.sp[i-1]?=some y→y.router<s.router),fun _ t=>o.sp.length-t.1.toNat,
  fun _ t1 x t=>t=false↔(spkOk x∧(0<t1.1.toNat→∀y,o.sp[t1.1.toNat-1]?=some y→y.router<x.router)),
  fun _ _ t=>∃k:Nat,t=k∧k≤o.sp.length∧∀i s l,i<k→o.sp[i]?=some s→o.ls[i]?=some l→RefK (rtrs o.sp) s l,fun _ _ t=>o.sp.length-t.toNat,
  fun _ _ _ x t=>∃j:Nat,t=j∧j≤x.peers.length∧∀p∈x.peers.take j,p.router∈rtrs o.sp,fun _ _ _ x t=>x.peers.length-t.toNat,
  fun _ _ _ x _ y t=>t=false↔(lsnOk y∧y.router=x.router),
  fun _ _ _ _ _ y _ t=>∃k:Nat,t=k∧k≤y.heard.length∧∀h∈y.heard.take k,h.router∈rtrs o.sp,fun _ _ _ _ _ y _ t=>y.heard.length-t.toNat,
  fun _ _ _ t=>∃k:Nat,t=k∧k≤o.fl.length∧∀x∈o.fl.take k,sigIn (rtrs o.sp) x,fun _ _ _ t=>o.fl.length-t.toNat,
  fun _ _ _ _ x t=>t=false↔sigIn (rtrs o.sp) x,?_⟩
 dsimp only [valOR_vc,valOR_x,valOR_s,Ax.vp,Ax.vc];simp only [vcU,rfU,List.length_map]
 refine ⟨⟨fun h1=>by simp;omega,fun h1=>by simp;omega⟩,?_⟩
 intro t0 h0
 refine ⟨fun e=>?_,fun e=>?_⟩
 ·subst e
  exact valO_pos fun q=>by have:=h0.mpr (ref_iff.mp q).1;simp at this
 obtain ⟨n1,n2⟩:=h0.mp e
 have hR:(rtrs o.sp).length=o.sp.length:=rtrs_len
 refine ⟨⟨0,rfl,by omega,fun i s hi=>by omega⟩,?_⟩
 rintro _ ⟨k,rfl,hk,hI⟩
 simp only [Int.toNat_natCast]
 refine ⟨fun h1=>⟨by omega,by omega,fun x hx=>⟨⟨fun a1=>?_,fun a1=>⟨fun a2=>⟨?_,?_,fun y hy=>?_⟩,fun a2=>?_⟩⟩,?_⟩⟩,fun h1=>⟨⟨0,rfl,by omega,fun i s l hi=>by omega⟩,?_⟩⟩
 ·have a1:¬valS x=0:=by simpa using a1
  rw [valS_z] at a1
  simp [a1]
 ·rw [W_eq (by omega)];omega
 ·rw [W_eq (by omega)];omega
 ·have a1:valS x=0:=by simpa using a1
  have e3:(W ((k:Int)-1)).toNat=k-1:=by rw [W_eq (by omega)];omega
  rw [e3] at hy
  rw [valS_z] at a1
  rw [hy]
  simp only [Option.some.injEq,forall_eq',decide_eq_false_iff_not]
  exact ⟨fun q=>⟨a1,fun _=>by omega⟩,fun q=>by have:=q.2 (by omega);omega⟩
 ·have a1:valS x=0:=by simpa using a1
  rw [valS_z] at a1
  simp only [true_iff]
  exact ⟨a1,fun q=>by omega⟩
 ·intro t2 h2
  refine ⟨fun e=>?_,fun e=>⟨by rw [rtrs_len];simp;omega,⟨k+1,?_,by omega,fun i s hi hs=>?_⟩,?_⟩⟩
  ·subst e
   exact valO_pos fun q=>by
    have d:=(ref_iff.mp q).2.1 k x hx
    have:=h2.mpr d
    simp at this
  ·rw [W_succ (n:=o.sp.length) (by omega) (by omega),take_succ hx];simp [rtrs]
  ·by_cases ei:i=k
   ·subst ei
    rw [hx] at hs;cases hs
    exact h2.mp e
   ·exact hI i s (by omega) hs
  ·rw [W_succ (n:=o.sp.length) (by omega) (by omega)];omega
 ·have hk:k=o.sp.length:=by omega
  have eR:rtrs (o.sp.take k)=rtrs o.sp:=by rw [hk,List.take_length]
  rw [eR]
  have hI:∀i s,o.sp[i]?=some s→spkOk s∧(0<i→∀y,o.sp[i-1]?=some y→y.router<s.router):=fun i s hs=>hI i s (by have:=lt_of_get hs;omega) hs
  have hL:pureBLs [(rtrs o.sp).map AV.int]=true:=pureBLs_one (pureBL_map (fun _=>rfl) _)
  clear eR
  rintro _ ⟨k,rfl,hk,hK⟩
  simp only [Int.toNat_natCast,InI]
  refine ⟨fun b1=>⟨by omega,by omega,fun x hx=>⟨fun c1=>?_,fun c1=>⟨⟨0,rfl,by omega,by simp⟩,?_⟩⟩⟩,fun b1=>⟨⟨0,rfl,by omega,by simp⟩,?_⟩⟩
  ·obtain ⟨l,hl⟩:∃l,o.ls[k]?=some l:=⟨_,List.getElem?_eq_getElem (by omega)⟩
   refine valO_pos fun q=>?_
   have d:=((ref_iff.mp q).2.2.1 k x l hx hl).n
   rw [W_eq (by omega)] at c1
   simp at c1
   omega
  ·have hn:x.peers.length+1=(rtrs o.sp).length:=by
    rw [W_eq (by omega)] at c1
    simp at c1
    omega
   have hs:=hI k x hx
   have hxp:=hs.1.2.2.2.2.1
   rintro _ ⟨j,rfl,hj,hJ⟩
   simp only [Int.toNat_natCast]
   refine ⟨fun d1=>⟨by omega,by omega,fun p hp=>⟨hL,fun d2=>?_,fun d2=>?_⟩⟩,fun d1=>⟨by omega,by omega,fun y hy=>⟨⟨fun f1=>?_,fun f1=>?_⟩,?_⟩⟩⟩
   ·have d2:¬p.router∈rtrs o.sp:=by simpa using d2
    obtain ⟨l,hl⟩:∃l,o.ls[k]?=some l:=⟨_,List.getElem?_eq_getElem (by omega)⟩
    exact valO_pos fun q=>d2 (((ref_iff.mp q).2.2.1 k x l hx hl).p p (mem_of_get hp))
   ·rw [W_succ (n:=x.peers.length) (by omega) (by omega)]
    exact ⟨⟨j+1,rfl,by omega,take_all hp hJ (by simpa using d2)⟩,by omega⟩
   ·have f1:¬valL y=0:=by simpa using f1
    rw [valL_z] at f1
    simp [f1]
   ·have f1:valL y=0:=by simpa using f1
    rw [valL_z] at f1
    simp [f1]
   ·intro t5 h5
    have ej:j=x.peers.length:=by omega
    rw [ej,List.take_length] at hJ
    refine ⟨fun e=>?_,fun e=>⟨⟨0,rfl,by omega,by simp⟩,?_⟩⟩
    ·subst e
     exact valO_pos fun q=>by
      have d:=(ref_iff.mp q).2.2.1 k x y hx hy
      have:=h5.mpr ⟨d.lo,d.lr⟩
      simp at this
    obtain ⟨g1,g2⟩:=h5.mp e
    have hh:=g1.2.2.1
    rintro _ ⟨m,rfl,hm,hM⟩
    simp only [Int.toNat_natCast]
    refine ⟨fun d1=>⟨by omega,by omega,fun z hz=>⟨hL,fun d2=>?_,fun d2=>?_⟩⟩,fun d1=>?_⟩
    ·have d2:¬z.router∈rtrs o.sp:=by simpa using d2
     exact valO_pos fun q=>d2 (((ref_iff.mp q).2.2.1 k x y hx hy).h z (mem_of_get hz))
    ·rw [W_succ (n:=y.heard.length) (by omega) (by omega)]
     exact ⟨⟨m+1,rfl,by omega,take_all hz hM (by simpa using d2)⟩,by omega⟩
    ·have em:m=y.heard.length:=by omega
     rw [em,List.take_length] at hM
     rw [W_succ (n:=o.sp.length) (by omega) (by omega)]
     refine ⟨⟨k+1,rfl,by omega,fun i s l hi hs' hl'=>?_⟩,by omega⟩
     by_cases ei:i=k
     ·subst ei
      rw [hx] at hs';rw [hy] at hl'
      cases hs';cases hl'
      exact ⟨hn,hJ,g1,g2,hM⟩
     ·exact hK i s l (by omega) hs' hl'
  ·rintro _ ⟨j,rfl,hj,hJ⟩
   simp only [Int.toNat_natCast]
   refine ⟨fun c1=>⟨by omega,by omega,fun x hx=>⟨⟨fun a1=>?_,fun a1=>⟨hL,fun a2=>?_,fun a2=>⟨hL,?_⟩⟩⟩,?_⟩⟩,fun c1=>?_⟩
   ·have a1:¬sigErr x=0:=by simpa using a1
    simp [sigIn,a1]
   ·have a2:¬x.src∈rtrs o.sp:=by simpa using a2
    simp [sigIn,a2]
   ·have a1:sigErr x=0:=by simpa using a1
    have a2:x.src∈rtrs o.sp:=by simpa using a2
    simp [sigIn,a1,a2]
   ·intro t6 h6
    refine ⟨fun e=>?_,fun e=>?_⟩
    ·subst e
     exact valO_pos fun q=>by have:=h6.mpr ((ref_iff.mp q).2.2.2 x (mem_of_get hx));simp at this
    ·rw [W_succ (n:=o.fl.length) (by omega) (by omega)]
     exact ⟨⟨j+1,rfl,by omega,take_all hx hJ (h6.mp e)⟩,by omega⟩
   ·have hj:j=o.fl.length:=by omega
    rw [hj,List.take_length] at hJ
    exact (if_pos (ref_iff.mpr ⟨⟨n1,n2⟩,hI,fun i s l hs hl=>hK i s l (by have:=lt_of_get hs;omega) hs hl,hJ⟩)).symm
def valOR_c(o:Ovl):PC Tryz.prog:=⟨58,[(.a [(.s 5),(.s 3),(.s 10)])],[.agg [.sl 5 (o.sp.map Spk.v) false,.sl 3 (o.ls.map Lsn.v) false,.sl 10 (o.fl.map Sig.v) false]],valOR_e (valO o),PSpec.of_ok fun ok=>(valOR_p o ok).elim fun I0 h=>h.elim fun I1 h=>h.elim fun m1 h=>h.elim fun I2 h=>h.elim fun I3 h=>h.elim fun m3 h=>h.elim fun I4 h=>h.elim fun m4 h=>h.elim fun I5 h=>h.elim fun I6 h=>h.elim fun m6 h=>h.elim fun I7 h=>h.elim fun m7 h=>h.elim fun I8 h=>mxP_of (sh:=.k) (enc:=valOR_e) (a:=(valOR_x o I0 I1 m1 I2 I3 m3 I4 m4 I5 I6 m6 I7 m7 I8).an) h (by kernel_rfl) (AV.pureB_ok rfl),fnB_ok (by kernel_rfl)⟩
end Go.Proofs.YthhpaedpnjdnbaaGreatDoor
