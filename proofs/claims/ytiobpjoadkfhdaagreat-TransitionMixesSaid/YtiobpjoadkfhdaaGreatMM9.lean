/- Texts joined: RK1 RK2 RK3 RK4 RK5 RK6 TW SF1 AP4 AP5 RF4 SF2 SF3 RF6 KC MX1 MX2 AO. -/
import Derived.Test.YtiobpjoadkfhdaaGreatMM8
set_option linter.unusedVariables false
set_option linter.unusedSimpArgs false
set_option linter.unusedSectionVars false
namespace Go.Proofs.YtiobpjoadkfhdaaGreat
open Go Go.Am
def GQ:AF:=
 ⟨38,4,[.tmp 5],
 .seq (.reg [⟨(some 5),.move (.c (.val (.int .i64 0))),none⟩])
 (.seq (.seq (.reg [⟨(some 12),.load false 1 (.t 1),none⟩,⟨(some 13),.move (.t 0),none⟩,⟨(some 14),.mget none ((.val (.int .i64 0))) true (.t 12) (.t 13),none⟩,⟨(some 11),.move (.t 14),none⟩,⟨(some 15),.ext 0 (.t 11),none⟩,⟨(some 16),.ext 1 (.t 11),none⟩,⟨(some 6),.move (.t 15),none⟩,⟨(some 7),.move (.t 16),none⟩])
 (.seq (.reg [⟨(some 17),.move (.t 7),none⟩])
 (.cond (.t 17) (.seq (.reg [⟨(some 18),.move (.t 6),none⟩,⟨(some 5),.move (.t 18),none⟩])
 (.ret)) (.skip))))
 (.seq (.reg [⟨(some 8),.move (.c (.val (.int .i64 0))),none⟩])
 (.seq (.seq (.reg [⟨(some 19),.load false 1 (.t 2),none⟩,⟨(some 20),.move (.t 0),none⟩,⟨(some 21),.mget none ((.sl 0 [] true)) false (.t 19) (.t 20),none⟩,⟨(some 22),.len (.t 21),none⟩,⟨(some 23),.move (.c (.val (.int .i64 0))),none⟩])
 (.block 0 (.loop (.seq (.reg [⟨(some 24),.bin .lss (.t 23) (.t 22),none⟩])
 (.seq (.cond (.t 24) (.skip) (.exit 0))
 (.seq (.block 1 (.seq (.reg [⟨(some 25),.iaddr 1 (.t 21) (.t 23),none⟩,⟨(some 26),.load false 1 (.t 25),none⟩,⟨(some 10),.move (.t 26),none⟩])
 (.reg [⟨(some 27),.move (.t 8),none⟩,⟨(some 28),.load false 1 (.t 3),none⟩,⟨(some 29),.move (.t 10),none⟩,⟨(some 30),.call (.t 28) [(.t 29)],none⟩,⟨(some 31),.bin .add (.c (.val (.int .i64 1))) (.t 30),none⟩,⟨(some 32),.max [(.t 27),(.t 31)],none⟩,⟨(some 8),.move (.t 32),none⟩])))
 (.reg [⟨(some 33),.bin .add (.t 23) (.c (.val (.int .i64 1))),none⟩,⟨(some 23),.move (.t 33),none⟩])))))))
 (.seq (.reg [⟨(some 34),.load false 1 (.t 1),none⟩,⟨(some 35),.move (.t 0),none⟩,⟨(some 36),.move (.t 8),none⟩,⟨none,.mset none (.t 34) (.t 35) (.t 36),none⟩])
 (.seq (.reg [⟨(some 37),.move (.t 8),none⟩,⟨(some 5),.move (.t 37),none⟩])
 (.ret))))))⟩
theorem GP:eH Tryz.prog Tryz.f102=some GQ:=by kernel_rfl
def rkS(f:Int→Dis→Int×Dis)(s:Int×Dis)(x:Int):Int×Dis:=(dP s.1 (W (1+(f x s.2).1)),(f x s.2).2)
def rkF(A:Rws):Nat→Int→Dis→Int×Dis
 | 0,_,kn=>(0,kn)
 | f+1,r,kn=>if aT kn r=true then(av kn r 0,kn)else
  (((av A r []).foldl (rkS (rkF A f)) (0,kn)).1,ba ((av A r []).foldl (rkS (rkF A f)) (0,kn)).2 r ((av A r []).foldl (rkS (rkF A f)) (0,kn)).1)
abbrev mpR(A:Rws):AV:=.mp none (kyL A) (A.map λp=>AV.sl 1 (p.2.map AV.int) false)
abbrev knB(kn:Dis):Blk:=.map none (kn.map λp=>MK.n p.1) (kn.map λp=>AV.int p.2)
def rkH(A:Rws)(kn:Dis):List Blk:=[.box (.mref 3),.box (mpR A),.box (.func 102 [.ref 0 0,.ref 1 0,.ref 2 0]),knB kn]
def Jl:AC:=.block 0 (.loop (.seq (.reg [⟨(some 24),.bin .lss (.t 23) (.t 22),none⟩])
 (.seq (.cond (.t 24) (.skip) (.exit 0))
 (.seq (.block 1 (.seq (.reg [⟨(some 25),.iaddr 1 (.t 21) (.t 23),none⟩,⟨(some 26),.load false 1 (.t 25),none⟩,⟨(some 10),.move (.t 26),none⟩])
 (.reg [⟨(some 27),.move (.t 8),none⟩,⟨(some 28),.load false 1 (.t 3),none⟩,⟨(some 29),.move (.t 10),none⟩,⟨(some 30),.call (.t 28) [(.t 29)],none⟩,⟨(some 31),.bin .add (.c (.val (.int .i64 1))) (.t 30),none⟩,⟨(some 32),.max [(.t 27),(.t 31)],none⟩,⟨(some 8),.move (.t 32),none⟩])))
 (.reg [⟨(some 33),.bin .add (.t 23) (.c (.val (.int .i64 1))),none⟩,⟨(some 23),.move (.t 33),none⟩])))))
structure RkS (A:Rws) (r n:Int) (kn:Dis) (s:S3):Prop where
  nx:4≤s.nx
  t0:s.tm 0=.int r
  t1:s.tm 1=.ref 0 0
  t2:s.tm 2=.ref 1 0
  t3:s.tm 3=.ref 2 0
  t8:s.tm 8=.int n
  h0:s.hp 0=some (.box (.mref 3))
  h1:s.hp 1=some (.box (mpR A))
  h2:s.hp 2=some (.box (.func 102 [.ref 0 0,.ref 1 0,.ref 2 0]))
  h3:s.hp 3=some (knB kn)
theorem yQ(kn:Dis):aD (kn.map λp=>AV.int p.2):=au (ae (λ_=>rfl) _)
theorem tC{A:Rws}{n fr:Nat}{x v:Int}{kn kn':Dis}{hp:Hp}(b0 b1 b2 b3:Nat)(hnd:[b0,b1,b2,b3].Nodup)(hs:aF Tryz.prog 102 [.int x,.ref 0 0,.ref 1 0,.ref 2 0] (rkH A kn) (.int v) ((rkH A kn').map some))
  (k0:hp b0=some (.box (.mref b3))) (k1:hp b1=some (.box (mpR A))) (k2:hp b2=some (.box (.func 102 [.ref b0 0,.ref b1 0,.ref b2 0]))) (k3:hp b3=some (knB kn)) :
  aN Tryz.prog n 102 [.int x,.ref b0 0,.ref b1 0,.ref b2 0] fr hp [b0,b1,b2,b3] (.int v) (dT [(b0,some (.box (.mref b3))),(b1,some (.box (mpR A))),(b2,some (.box (.func 102 [.ref b0 0,.ref b1 0,.ref b2 0]))),(b3,some (knB kn'))]):=by
 have e0:aI [b0,b1,b2,b3] fr 0=b0:=rfl;have e1:aI [b0,b1,b2,b3] fr 1=b1:=rfl;have e2:aI [b0,b1,b2,b3] fr 2=b2:=rfl;have e3:aI [b0,b1,b2,b3] fr 3=b3:=rfl;have kp:=λ(π:Nat→Nat) (kn:Dis)=>aK π (yQ kn);have bl:∀(kn:Dis) y,y∈rkH A kn→y.bel 4:=λkn y hy=>by
  unfold rkH at hy;simp only[ah',aB',or_false]at hy
  rcases hy with rfl|rfl|rfl|rfl
  ·show(3:Nat)<4;omega
  ·trivial
  ·exact⟨show(0:Nat)<4 by omega,show(1:Nat)<4 by omega,show(2:Nat)<4 by omega,trivial⟩
  ·exact aG (yQ kn)
 have rn:∀(kn:Dis),(rkH A kn).map (Blk.ren (aI [b0,b1,b2,b3] fr))=[.box (.mref b3),.box (mpR A),.box (.func 102 [.ref b0 0,.ref b1 0,.ref b2 0]),knB kn]:=λkn=>by
  unfold rkH;simp only[aE',bQ',Blk.ren,kp,AV.ren,cG,e0,e1,e2,e3]
 have key:=aN.hand (n:=n) (f:=fr) (hp:=hp) ⟨_,Tryz.func102,by kernel_rfl,by kernel_rfl⟩ hs [b0,b1,b2,b3] rfl hnd ⟨trivial,show(0:Nat)<4 by omega,show(1:Nat)<4 by omega,show(2:Nat)<4 by omega,trivial⟩ (λi b y h1 h2=>by
  refine⟨bl kn y (J' h2),?_⟩;have h3:((rkH A kn).map (Blk.ren (aI [b0,b1,b2,b3] fr)))[i]?=some (y.ren (aI [b0,b1,b2,b3] fr)):=by rw[I',h2];rfl
  rw[rn kn]at h3
  match i with
  | 0=>cases h1;exact k0.trans h3
  | 1=>cases h1;exact k1.trans h3
  | 2=>cases h1;exact k2.trans h3
  | 3=>cases h1;exact k3.trans h3
  | i+4=>simp at h1) (by simp[rkH]) (by simp[rkH]) trivial (λy hy=>by
   rw[aa']at hy;obtain⟨z,hz,e⟩:=hy;cases e;have:=bl kn' y hz;simpa[rkH]using this)
 have e4:bI [b0,b1,b2,b3] fr ((rkH A kn').map some)=dT [(b0,some (.box (.mref b3))),(b1,some (.box (mpR A))),(b2,some (.box (.func 102 [.ref b0 0,.ref b1 0,.ref b2 0]))),(b3,some (knB kn'))]:=by
  have:=rn kn';unfold rkH at this ⊢;simp only[aE',bQ',List.cons.injEq,and_true]at this;obtain⟨g0,g1,g2,g3⟩:=this;simp only[bI,aE',bQ',List.zipIdx_cons,List.zipIdx_nil,az',ai',e0,e1,e2,e3,g0,g1,g2,g3,Nat.reduceAdd]
 rw[e4]at key;simpa only[cG,AV.ren,e0,e1,e2]using key
theorem rk_l(A:Rws)(f:Nat)(D:Int→Nat)(ih:∀(r:Int) (kn:Dis),D r<f→aF Tryz.prog 102 [.int r,.ref 0 0,.ref 1 0,.ref 2 0] (rkH A kn) (.int (rkF A f r kn).1) ((rkH A (rkF A f r kn).2).map some))
  (r:Int) (row:List Int) (hl:row.length≤1000000) (hr:∀x∈row,D x<f) (kn:Dis) (s:S3) (hS:RkS A r 0 kn s) (t21:s.tm 21=.sl 1 (row.map AV.int) false) (t22:s.tm 22=.int row.length) (t23:s.tm 23=.int 0) (Q:X→S3→Prop)
  (hQ:∀s',RkS A r (row.foldl (rkS (rkF A f)) (0,kn)).1 (row.foldl (rkS (rkF A f)) (0,kn)).2 s'→Q .normal s'):AWP Tryz.prog 4 38 Jl Q s:=by
 have hml:=aU;unfold Jl;refine AWP.block ?_
 refine AWP.loopS (λu:S3×Nat=>u.1) (λu=>u.2≤row.length∧RkS A r ((row.take u.2).foldl (rkS (rkF A f)) (0,kn)).1 ((row.take u.2).foldl (rkS (rkF A f)) (0,kn)).2 u.1 ∧
  u.1.tm 21=.sl 1 (row.map AV.int) false∧u.1.tm 22=.int row.length∧u.1.tm 23=.int (u.2:Nat)) (λu=>row.length-u.2) (i0:=(_,0)) ⟨am' _,hS,t21,t22,t23⟩ ao.refl ?_
 rintro⟨⟨tm1,hp1,nx1⟩,z⟩ ⟨hz,⟨n1,s0,s1,s2,s3,s8,k0,k1,k2,k3⟩,q21,q22,q23⟩;simp only at hz n1 s0 s1 s2 s3 s8 k0 k1 k2 k3 q21 q22 q23 ⊢;refine AWP.seq' ?_;refine AWP.reg' λK hK=>?_
 try simp only[ag,seval,q22,q23]
 refine hK _ _ _ ?_;clear hK K;refine AWP.seq' ?_
 refine AWP.cond (b:=decide ((z:Int)<(row.length:Int))) rfl (λe=>?_) (λe=>?_)
 ·have e:z<row.length:=by have:=G' e;omega
  refine AWP.skip ?_;refine AWP.seq' (AWP.block (AWP.seq' ?_));have hy:row[z]?=some row[z]:=f' e;generalize row[z]=x at hy;have hge:(row.map AV.int).getD z .unk=.int x:=by rw[H',I',hy];rfl
  refine AWP.reg' λK hK=>?_
  try simp only[ag,seval,q21,q23,hge,Int.toNat_natCast,u']
  refine⟨⟨by omega,by omega⟩,?_⟩;refine hK _ _ _ ?_;clear hK K;refine(show AWP _ _ _ _ _ _ from ?_);generalize hP:(row.take z).foldl (rkS (rkF A f)) (0,kn)=p at *
  have hx:=ih x p.2 (hr x (J' hy));refine AWP.reg' λK hK=>?_
  try simp only[ag,seval,s3,s8,k2]
  refine dz rfl (by rfl) (tC 0 1 2 3 (by decide) hx k0 k1 k2 k3) ?_;rw[bw,bw,bw,bw,ek]
  try simp only[ag,seval,fY,gO]
  refine hK _ _ _ ?_;clear hK K;refine(show AWP _ _ _ _ _ _ from ?_);have hw:IntKind.i64.wrap ((z:Int)+1)=((z+1:Nat):Int):=jF (by omega) (by omega);refine AWP.reg' λK hK=>?_
  try simp only[ag,seval,q23,hw]
  refine hK _ _ _ ?_;clear hK K;have hF:(row.take (z+1)).foldl (rkS (rkF A f)) (0,kn)=rkS (rkF A f) p x:=by rw[eM _ _ hy,hP]
  refine⟨(_,z+1),⟨by dsimp only;omega,?_,?_,?_,rfl⟩,by dsimp only;omega,ao.refl⟩
  ·dsimp only;rw[hF];exact⟨by dsimp only;omega,s0,s1,s2,s3,rfl,rfl,rfl,rfl,rfl⟩
  ·exact q21
  ·exact q22
 ·have e:z=row.length:=by have:=S' e;omega
  subst e;refine AWP.exit ?_;refine(show Q .normal _ from ?_);rw[List.take_length]at s8 k3;exact hQ _ ⟨by dsimp only;omega,s0,s1,s2,s3,s8,k0,k1,k2,k3⟩
theorem xZ(A:Rws)(D:Int→Nat)(hA:∀p∈A,p.2.length≤1000000)(hD:∀r x,x∈av A r []→D x<D r):∀(f:Nat) (r:Int) (kn:Dis),D r<f →
  aF Tryz.prog 102 [.int r,.ref 0 0,.ref 1 0,.ref 2 0] (rkH A kn) (.int (rkF A f r kn).1) ((rkH A (rkF A f r kn).2).map some)
 | 0,r,kn,h=>absurd h (by omega)
 | f+1,r,kn,h=>by
  have ih:=xZ A D hA hD f;have hinj:∀x y:Int,MK.n x=MK.n y→x=y:=λx y h=>MK.n.inj h;have e1:=lQ (kf:=MK.n) (vf:=AV.int) (l:=kn) (x:=r) hinj 0 true;have hrow:(av A r []).length≤1000000:=by
   cases e:aT A r with
   | false=>rw[cd e];simp
   | true=>exact hA _ (bF e)
  refine aF.walk Tryz.func102 GP (by simp[GQ]) ?_;unfold GQ rkH;simp only[ei,eC,Y',al'];refine AWP.seq' ?_;refine AWP.reg' λK hK=>?_
  try simp only[ag,seval]
  refine hK _ _ _ ?_;clear hK K;refine AWP.seq' (AWP.seq' ?_);refine AWP.reg' λK hK=>?_
  try simp only[ag,seval,bj,dI,AV.key,MK.fits,and_self,true_and,e1,cond_true]
  refine hK _ _ _ ?_;clear hK K;refine AWP.seq' ?_;refine AWP.reg' λK hK=>?_
  try simp only[ag,seval]
  refine hK _ _ _ ?_;clear hK K;cases hk:aT kn r with
  | true =>
   have hr:rkF A (f+1) r kn=(av kn r 0,kn):=by rw[rkF,F' hk]
   rw[hr];refine AWP.cond (b:=true) rfl (λ_=>?_) (λh=>by cases h);refine AWP.seq' ?_;refine AWP.reg' λK hK=>?_
   try simp only[ag,seval]
   refine hK _ _ _ ?_;clear hK K;exact AWP.ret (fZ rfl rfl ⟨rfl,rfl,rfl,rfl,trivial⟩)
  | false =>
   refine AWP.cond (b:=false) rfl (λh=>by cases h) (λ_=>AWP.skip ?_);refine(show AWP _ _ _ _ _ _ from ?_);refine AWP.seq' ?_;refine AWP.reg' λK hK=>?_
   try simp only[ag,seval]
   refine hK _ _ _ ?_;clear hK K;refine AWP.seq' (AWP.seq' ?_);have hinj':=lv (kf:=MK.n) (vf:=λl:List Int=>AV.sl 1 (l.map AV.int) false) (l:=A) (x:=r) (z:=[]) (zz:=.sl 0 [] true) (ok:=false) hinj;have hinj2:=oK (kf:=MK.n) (vf:=λl:List Int=>AV.sl 1 (l.map AV.int) false) (l:=A) (x:=r) (zz:=.sl 0 [] true) (ok:=false) hinj;have hr:rkF A (f+1) r kn=(((av A r []).foldl (rkS (rkF A f)) (0,kn)).1,ba ((av A r []).foldl (rkS (rkF A f)) (0,kn)).2 r ((av A r []).foldl (rkS (rkF A f)) (0,kn)).1):=by rw[rkF,E' (by simp[hk])]
   rw[hr];generalize hrv:av A r []=row at *
   generalize hP:row.foldl (rkS (rkF A f)) (0,kn)=p at *
   cases ha:aT A r with
   | true =>
    have e2:=hinj' ha;simp only[cond_false]at e2;refine AWP.reg' λK hK=>?_
    try simp only[ag,seval,bj,dI,AV.key,MK.fits,and_self,true_and,e2,kyL,u']
    refine hK _ _ _ ?_;clear hK K;refine(show AWP Tryz.prog 4 38 Jl _ _ from ?_);refine rk_l A f D ih r row hrow (λx hx=>by have:=hD r x (by rw[hrv];exact hx);omega) kn _ ⟨by dsimp only;omega,rfl,rfl,rfl,rfl,rfl,rfl,rfl,rfl,rfl⟩ (by simp only[aj];rfl) (by simp only[aj];rfl) rfl _ (λs' hS=>?_);rw[hP]at hS;obtain⟨tm1,hp1,nx1⟩:=s';obtain⟨n1,s0,s1,s2,s3,s8,k0,k1,k2,k3⟩:=hS;simp only at n1 s0 s1 s2 s3 s8 k0 k1 k2 k3;refine(show AWP _ _ _ _ _ _ from ?_);have e3:=iX (kf:=MK.n) (vf:=AV.int) (l:=p.2) (x:=r) hinj none p.1;refine AWP.seq' ?_;refine AWP.reg' λK hK=>?_
    try simp only[ag,seval,s0,s1,s8,k0,k3,bJ,AV.key,MK.fits,and_self,true_and,e3]
    refine hK _ _ _ ?_;clear hK K;refine AWP.seq' ?_;refine AWP.reg' λK hK=>?_
    try simp only[ag,seval,s8]
    refine hK _ _ _ ?_;clear hK K;exact AWP.ret (fZ rfl rfl ⟨k0,k1,k2,rfl,trivial⟩)
   | false =>
    have e2:=hinj2 ha;simp only[cond_false]at e2;have hr0:row=[]:=by rw[←hrv,cd ha]
    subst hr0;refine AWP.reg' λK hK=>?_
    try simp only[ag,seval,bj,dI,AV.key,MK.fits,and_self,true_and,e2,kyL,u']
    refine hK _ _ _ ?_;clear hK K;refine AWP.weak (ao.subT 21 (y:=.sl 1 [] false) Sub.nil) ?_;refine(show AWP Tryz.prog 4 38 Jl _ _ from ?_);refine rk_l A f D ih r [] hrow (λx hx=>by simp at hx) kn _ ⟨by dsimp only;omega,rfl,rfl,rfl,rfl,rfl,rfl,rfl,rfl,rfl⟩ rfl rfl rfl _ (λs' hS=>?_);rw[hP]at hS;obtain⟨tm1,hp1,nx1⟩:=s';obtain⟨n1,s0,s1,s2,s3,s8,k0,k1,k2,k3⟩:=hS;simp only at n1 s0 s1 s2 s3 s8 k0 k1 k2 k3;refine(show AWP _ _ _ _ _ _ from ?_);have e3:=iX (kf:=MK.n) (vf:=AV.int) (l:=p.2) (x:=r) hinj none p.1;refine AWP.seq' ?_;refine AWP.reg' λK hK=>?_
    try simp only[ag,seval,s0,s1,s8,k0,k3,bJ,AV.key,MK.fits,and_self,true_and,e3]
    refine hK _ _ _ ?_;clear hK K;refine AWP.seq' ?_;refine AWP.reg' λK hK=>?_
    try simp only[ag,seval,s8]
    refine hK _ _ _ ?_;clear hK K;exact AWP.ret (fZ rfl rfl ⟨k0,k1,k2,rfl,trivial⟩)
def Ou:AC:=.seq (.reg [⟨(some 34),.mkm none,none⟩,⟨(some 11),.box (.c (.val (.map none))),none⟩,⟨none,.store 1 (.t 11) (.t 34),none⟩])
 (.seq (.reg [⟨(some 12),.box (.c (.val (.nilFunc))),none⟩])
 (.seq (.reg [⟨(some 35),.mkf 102 [(.t 11),(.t 10),(.t 12)],none⟩,⟨none,.store 1 (.t 12) (.t 35),none⟩])
 (.seq (.reg [⟨(some 13),.move (.c (.sl 0 [] true)),none⟩])
 (.seq (.seq (.reg [⟨(some 36),.faddr 0 (.t 2),none⟩,⟨(some 37),.load false 1 (.t 36),none⟩,⟨(some 38),.len (.t 37),none⟩,⟨(some 39),.move (.c (.val (.int .i64 0))),none⟩])
 (.block 0 (.loop (.seq (.reg [⟨(some 40),.bin .lss (.t 39) (.t 38),none⟩])
 (.seq (.cond (.t 40) (.skip) (.exit 0))
 (.seq (.block 1 (.seq (.reg [⟨(some 41),.iaddr 2 (.t 37) (.t 39),none⟩,⟨(some 42),.load true 2 (.t 41),none⟩,⟨(some 15),.box (.c (.agg [(.val (.int .i64 0)),(.val (.bool false))])),none⟩,⟨none,.store 2 (.t 15) (.t 42),none⟩])
 (.dreg [⟨(some 43),.move (.t 13),none⟩,⟨(some 44),.faddr 0 (.t 15),none⟩,⟨(some 45),.load false 1 (.t 44),none⟩,⟨(some 46),.load false 1 (.t 12),none⟩,⟨(some 47),.faddr 0 (.t 15),none⟩,⟨(some 48),.load false 1 (.t 47),none⟩,⟨(some 49),.call (.t 46) [(.t 48)],none⟩,⟨(some 50),.build [(.val (.int .i64 0)),(.val (.int .i64 0))] [(0,1,(.t 45)),(1,1,(.t 49))],none⟩,⟨(some 51),.lit 2 1 (.agg [(.val (.int .i64 0)),(.val (.int .i64 0))]) [(0,(.t 50))],none⟩,⟨(some 52),.append 2 16 (.t 43) (.t 51),none⟩,⟨(some 13),.move (.t 52),none⟩] [(2,3),(2,5),(3,5),(2,6)])))
 (.reg [⟨(some 53),.bin .add (.t 39) (.c (.val (.int .i64 1))),none⟩,⟨(some 39),.move (.t 53),none⟩])))))))
 (.seq (.reg [⟨(some 54),.move (.t 13),none⟩,⟨(some 4),.move (.t 54),none⟩,⟨(some 5),.move (.c (.val (.int .i64 0))),none⟩])
 (.ret))))))
def rkO(A:Rws)(N:Nat)(s:List Rnk×Dis)(r:Rtr):List Rnk×Dis:=(s.1++[⟨r.id,(rkF A N r.id s.2).1⟩],(rkF A N r.id s.2).2)
theorem Jk(t:Tpl)(A:Rws)(D:Int→Nat)(N:Nat)(hA:∀p∈A,p.2.length≤1000000)(hD:∀r x,x∈av A r []→D x<D r)(hN:∀r,D r<N)(ht:t.rs.length≤1000)(tm:Nat→AV)(hp:Hp)(t2:tm 2=.ref 0 0)(h0:hp 0=some (.box (Tpl.v t)))
  (t10:tm 10=.ref 352 0) (h10:hp 352=some (.box (mpR A))):AWP Tryz.prog 0 55 Ou (fin 0 55 [.tmp 4,.tmp 5] (.tup [.sl 2 ((t.rs.foldl (rkO A N) ([],[])).1.map Rnk.v) false,.int 0]) []) ⟨tm,hp,1000⟩:=by
 have hml:=aU;unfold Ou;refine AWP.seq' ?_;refine AWP.reg' λK hK=>?_
 try simp only[ag,seval,qn]
 refine hK _ _ _ ?_;clear hK K;refine AWP.seq' ?_;refine AWP.reg' λK hK=>?_
 try simp only[ag,seval]
 refine hK _ _ _ ?_;clear hK K;refine AWP.seq' ?_;refine AWP.reg' λK hK=>?_
 try simp only[ag,seval,t10]
 refine hK _ _ _ ?_;clear hK K;refine AWP.seq' ?_;refine AWP.reg' λK hK=>?_
 try simp only[ag,seval]
 refine hK _ _ _ ?_;clear hK K;refine AWP.seq' (AWP.seq' ?_);refine AWP.reg' λK hK=>?_
 try simp only[ag,seval,t2,h0,Tpl.v,u']
 repeat (refine B' (by omega) ?_)
 refine hK _ _ _ ?_;clear hK K;refine AWP.block ?_;refine AWP.weak (ao.nilvec (k:=0) 13 0 2 (by simp only[aj];rfl) (am' _)) ?_
 refine AWP.loopS (λu:S3×Nat=>u.1) (λu=>u.2≤t.rs.length∧(1177≤u.1.nx∧u.1.tm 12=.ref 1048 0∧u.1.tm 37=.sl 2 (t.rs.map Rtr.v) false∧u.1.tm 38=.int t.rs.length∧u.1.tm 39=.int (u.2:Nat)) ∧
  (u.1.hp 1016=some (.box (.mref 1000))∧u.1.hp 352=some (.box (mpR A))∧u.1.hp 1048=some (.box (.func 102 [.ref 1016 0,.ref 352 0,.ref 1048 0]))∧u.1.hp 1000=some (knB ((t.rs.take u.2).foldl (rkO A N) ([],[])).2)) ∧
  ∃b,u.1.tm 13=.vec b∧b<u.1.nx∧u.1.hp b=some (.vec 2 (((t.rs.take u.2).foldl (rkO A N) ([],[])).1.map Rnk.v))) (λu=>t.rs.length-u.2) (i0:=(_,0)) ?_ ao.refl ?_
 ·exact⟨am' _,⟨X' _,rfl,rfl,rfl,rfl⟩,⟨rfl,h10,rfl,rfl⟩,1176,rfl,by dsimp only;omega,rfl⟩
 ·rintro⟨⟨tm1,hp1,nx1⟩,z⟩ ⟨hz,⟨n1,q12,q37,q38,q39⟩,⟨k0,k1,k2,k3⟩,b,qb,hb,kb⟩;simp only at hz n1 q12 q37 q38 q39 k0 k1 k2 k3 qb hb kb ⊢;refine AWP.seq' ?_;refine AWP.reg' λK hK=>?_
  try simp only[ag,seval,q38,q39]
  refine hK _ _ _ ?_;clear hK K;refine AWP.seq' ?_
  refine AWP.cond (b:=decide ((z:Int)<(t.rs.length:Int))) rfl (λe=>?_) (λe=>?_)
  ·have e:z<t.rs.length:=by have:=G' e;omega
   refine AWP.skip ?_;refine AWP.seq' (AWP.block (AWP.seq' ?_));have hy:t.rs[z]?=some t.rs[z]:=f' e;generalize t.rs[z]=x at hy;have hge:(t.rs.map Rtr.v).getD z .unk=Rtr.v x:=by rw[H',I',hy];rfl
   refine AWP.reg' λK hK=>?_
   try simp only[ag,seval,q37,q39,hge,Int.toNat_natCast,u',Rtr.v]
   refine⟨⟨by omega,by omega⟩,?_⟩;refine hK _ _ _ ?_;clear hK K;refine(show AWP _ _ _ _ _ _ from ?_);have hF:(t.rs.take (z+1)).foldl (rkO A N) ([],[])=rkO A N ((t.rs.take z).foldl (rkO A N) ([],[])) x:=eM _ _ hy;have hpl:((t.rs.take z).foldl (rkO A N) ([],[])).1.length≤1000:=by
    have:∀(l:List Rtr) (s:List Rnk×Dis),(l.foldl (rkO A N) s).1.length=s.1.length+l.length:=λl=>by
     induction l with
     | nil=>intro s;rfl
     | cons r l ih=>intro s;rw[aN',ih];simp[rkO];omega
    rw[this,ar'];simp;omega
   generalize hP:(t.rs.take z).foldl (rkO A N) ([],[])=p at *
   have hx:=xZ A D hA hD N x.id p.2 (hN _);obtain⟨f1048,_⟩:=nxF (show 1048<nx1 by omega);refine AWP.dreg' λK hK=>?_
   try simp only[ag,seval,qb,q12,k2,f1048,aG']
   have hpl2:∀(v1 v2 v3:Option Blk) b,b<nx1→upd (upd (upd hp1 (nx1+48) v1) (nx1+48) v2) (nx1+48) v3 b=hp1 b:=λv1 v2 v3 b hb=>by
    simp only[aj];repeat rw[E' (by omega)]
   have hne:∀{c:Nat} {y:Blk},hp1 c=some y→(∀es,y≠.vec 2 es)→(b=c)=False∧(c=b)=False:=λh1 h2=>by
    refine⟨eq_false λe=>?_,eq_false λe=>?_⟩
    ·subst e;rw[kb]at h1;cases h1;exact h2 _ rfl
    ·subst e;rw[kb]at h1;cases h1;exact h2 _ rfl
   obtain⟨nb0,nb0'⟩:=hne k0 (λ_ h=>by cases h);obtain⟨nb1,nb1'⟩:=hne k1 (λ_ h=>by cases h);obtain⟨nb2,nb2'⟩:=hne k2 (λ_ h=>by cases h);obtain⟨nb3,nb3'⟩:=hne k3 (λ_ h=>by cases h);obtain⟨fb,fb',_,_⟩:=nxF hb
   refine sY [1016,352,1048,1000] rfl (by rfl) (tC 1016 352 1048 1000 (by decide) hx ((hpl2 _ _ _ _ (by omega)).trans k0) ((hpl2 _ _ _ _ (by omega)).trans k1) ((hpl2 _ _ _ _ (by omega)).trans k2) ((hpl2 _ _ _ _ (by omega)).trans k3)) (λc h=>?_) ?_
   ·by_cases a0:c=1016
    ·simp[a0]
    by_cases a1:c=352
    ·simp[a1]
    by_cases a2:c=1048
    ·simp[a2]
    by_cases a3:c=1000
    ·simp[a3]
    exact absurd (by simp[dT,cB,a0,a1,a2,a3]) h
   rw[bw,bw,bw,bw,ek]
   try simp only[ag,seval]
   refine c7 ?_
   try simp only[ag,seval,aS,dj,nb0,nb1,nb2,nb3,nb0',nb1',nb2',nb3',fb,fb',kb,aG',u']
   obtain⟨g1,g1',_⟩:=nxF (show 1016<nx1 by omega);obtain⟨g2,g2',_⟩:=nxF (show 352<nx1 by omega);obtain⟨g3,g3',_⟩:=nxF (show 1048<nx1 by omega);obtain⟨g4,g4',_⟩:=nxF (show 1000<nx1 by omega)
   refine⟨⟨by omega,by omega⟩,?_,?_⟩
   ·simp[eG,jg,bi,AOp.opers,aL,evO,aj,g1,g2,g3,g4,g1',g2',g3',g4']
   refine hK _ _ _ ?_;clear hK K;refine(show AWP _ _ _ _ _ _ from ?_);have hw:IntKind.i64.wrap ((z:Int)+1)=((z+1:Nat):Int):=jF (by omega) (by omega);refine AWP.reg' λK hK=>?_
   try simp only[ag,seval,q39,hw]
   refine hK _ _ _ ?_;clear hK K
   refine⟨(_,z+1),⟨by dsimp only;omega,⟨by dsimp only;omega,?_,?_,?_,rfl⟩,⟨?_,?_,?_,?_⟩,nx1+224,rfl,by dsimp only;omega,?_⟩,by dsimp only;omega,ao.refl⟩
   ·exact q12
   ·exact q37
   ·exact q38
   ·simp only[aj,g1,nb0',↓reduceIte,Nat.reduceEqDiff]
   ·simp only[aj,g2,nb1',↓reduceIte,Nat.reduceEqDiff]
   ·simp only[aj,g3,nb2',↓reduceIte,Nat.reduceEqDiff]
   ·dsimp only;rw[hF];simp only[aj,g4,nb3',↓reduceIte,Nat.reduceEqDiff];rfl
   ·dsimp only;rw[hF];simp only[aj,↓reduceIte];unfold rkO;rw[aI'];rfl
  ·have e:z=t.rs.length:=by have:=S' e;omega
   subst e;refine AWP.exit ?_;rw[List.take_length]at kb;refine(show AWP _ _ _ _ _ _ from ?_);refine AWP.seq' ?_;refine AWP.reg' λK hK=>?_
   try simp only[ag,seval,qb]
   refine hK _ _ _ ?_;clear hK K;refine(show AWP _ _ _ _ _ _ from ?_);refine AWP.ret (gQ (ao.giveT (es:=(t.rs.foldl (rkO A N) ([],[])).1.map Rnk.v) 4 b (by simp only[aj];rfl) kb (au (ae (λ_=>rfl) _))) (fZ rfl rfl trivial))
def QB:AF:=
 ⟨55,2,[.tmp 4,.tmp 5],
 .seq (.reg [⟨(some 2),.box (.t 0),none⟩,⟨(some 3),.box (.t 1),none⟩,⟨(some 4),.move (.c (.sl 0 [] true)),none⟩,⟨(some 5),.move (.c (.val (.int .i64 0))),none⟩])
 (.seq (.reg [⟨(some 17),.load true 2 (.t 2),none⟩,⟨(some 18),.load true 4 (.t 3),none⟩,⟨(some 19),.call (.c (.func 99 [])) [(.t 17),(.t 18)],none⟩,⟨(some 16),.move (.t 19),none⟩,⟨(some 20),.ext 0 (.t 16),none⟩,⟨(some 21),.ext 1 (.t 16),none⟩,⟨(some 22),.ext 2 (.t 16),none⟩,⟨(some 23),.ext 3 (.t 16),none⟩,⟨(some 7),.box (.c (.agg [(.sl 0 [] true),(.sl 0 [] true)])),none⟩,⟨(some 6),.move (.t 20),none⟩,⟨none,.store 2 (.t 7) (.t 21),none⟩,⟨(some 8),.move (.t 22),none⟩,⟨(some 9),.move (.t 23),none⟩])
 (.seq (.seq (.reg [⟨(some 24),.move (.t 9),none⟩,⟨(some 25),.bin .neq (.t 24) (.c (.val (.int .i64 0))),none⟩])
 (.cond (.t 25) (.seq (.reg [⟨(some 26),.move (.t 9),none⟩,⟨(some 4),.move (.c (.sl 0 [] true)),none⟩,⟨(some 5),.move (.t 26),none⟩])
 (.ret)) (.skip)))
 (.seq (.reg [⟨(some 27),.load true 2 (.t 7),none⟩,⟨(some 28),.move (.t 8),none⟩,⟨(some 29),.call (.c (.func 100 [])) [(.t 27),(.t 28)],none⟩,⟨(some 10),.box (.c (.val (.map none))),none⟩,⟨none,.store 1 (.t 10) (.t 29),none⟩])
 (.seq (.seq (.reg [⟨(some 30),.move (.t 6),none⟩,⟨(some 31),.bin .eql (.t 30) (.c (.val (.int .i64 1))),none⟩])
 (.cond (.t 31) (.reg [⟨(some 32),.load false 1 (.t 10),none⟩,⟨(some 33),.call (.c (.func 101 [])) [(.t 32)],none⟩,⟨none,.store 1 (.t 10) (.t 33),none⟩]) (.skip)))
 (.seq (.reg [⟨(some 34),.mkm none,none⟩,⟨(some 11),.box (.c (.val (.map none))),none⟩,⟨none,.store 1 (.t 11) (.t 34),none⟩])
 (.seq (.reg [⟨(some 12),.box (.c (.val (.nilFunc))),none⟩])
 (.seq (.reg [⟨(some 35),.mkf 102 [(.t 11),(.t 10),(.t 12)],none⟩,⟨none,.store 1 (.t 12) (.t 35),none⟩])
 (.seq (.reg [⟨(some 13),.move (.c (.sl 0 [] true)),none⟩])
 (.seq (.seq (.reg [⟨(some 36),.faddr 0 (.t 2),none⟩,⟨(some 37),.load false 1 (.t 36),none⟩,⟨(some 38),.len (.t 37),none⟩,⟨(some 39),.move (.c (.val (.int .i64 0))),none⟩])
 (.block 0 (.loop (.seq (.reg [⟨(some 40),.bin .lss (.t 39) (.t 38),none⟩])
 (.seq (.cond (.t 40) (.skip) (.exit 0))
 (.seq (.block 1 (.seq (.reg [⟨(some 41),.iaddr 2 (.t 37) (.t 39),none⟩,⟨(some 42),.load true 2 (.t 41),none⟩,⟨(some 15),.box (.c (.agg [(.val (.int .i64 0)),(.val (.bool false))])),none⟩,⟨none,.store 2 (.t 15) (.t 42),none⟩])
 (.dreg [⟨(some 43),.move (.t 13),none⟩,⟨(some 44),.faddr 0 (.t 15),none⟩,⟨(some 45),.load false 1 (.t 44),none⟩,⟨(some 46),.load false 1 (.t 12),none⟩,⟨(some 47),.faddr 0 (.t 15),none⟩,⟨(some 48),.load false 1 (.t 47),none⟩,⟨(some 49),.call (.t 46) [(.t 48)],none⟩,⟨(some 50),.build [(.val (.int .i64 0)),(.val (.int .i64 0))] [(0,1,(.t 45)),(1,1,(.t 49))],none⟩,⟨(some 51),.lit 2 1 (.agg [(.val (.int .i64 0)),(.val (.int .i64 0))]) [(0,(.t 50))],none⟩,⟨(some 52),.append 2 16 (.t 43) (.t 51),none⟩,⟨(some 13),.move (.t 52),none⟩] [(2,3),(2,5),(3,5),(2,6)])))
 (.reg [⟨(some 53),.bin .add (.t 39) (.c (.val (.int .i64 1))),none⟩,⟨(some 39),.move (.t 53),none⟩])))))))
 (.seq (.reg [⟨(some 54),.move (.t 13),none⟩,⟨(some 4),.move (.t 54),none⟩,⟨(some 5),.move (.c (.val (.int .i64 0))),none⟩])
 (.ret)))))))))))⟩
theorem Md:eH Tryz.prog Tryz.f58=some QB:=by kernel_rfl
theorem ao.giveBox{k n:Nat}{tm:Nat→AV}{hp:Hp}{nx:Nat}{kq:Option Nat}{ks:List MK}{vs:List AV}(b0 b:Nat)(h0:hp b0=some (.box (.mref b)))(hb:hp b=some (.map kq ks vs))(hx:aD vs) :
  ao k n ⟨tm,hp,nx⟩ ⟨tm,upd (upd hp b none) b0 (some (.box (.mp kq ks vs))),nx⟩:=by
 have hne:b0≠b:=λe=>by subst e;rw[h0]at hb;cases hb
 refine ao.give b rfl (λu=>.inr aZ.refl) (λb' x hx'=>?_) (by show hp b≠none;rw[hb];simp);have hx':upd (upd hp b none) b0 (some (.box (.mp kq ks vs))) b'=some x:=hx'
 by_cases e:b'=b0
 ·subst e;rw[ak]at hx';cases hx';exact⟨hne,.inr ⟨_,_,h0,rfl,rfl,aZ.map hb hx⟩⟩
 ·rw[ai _ _ e]at hx'
  by_cases e2:b'=b
  ·subst e2;rw[ak]at hx';cases hx'
  ·rw[ai _ _ e2]at hx';exact⟨e2,.inl hx'⟩
theorem ao.up{k n:Nat}{tm:Nat→AV}{hp:Hp}{nx nx':Nat}(h:nx≤nx'):ao k n ⟨tm,hp,nx⟩ ⟨tm,hp,nx'⟩:=by
 rintro P c a w ⟨h0,A,μ,H⟩;exact⟨h0,A,μ,H.free λb hb=>aF' h hb⟩
theorem Bm{P:Program}{fid:FuncId}{n f:Nat}{args:List AV}{L:Rws}{hp:Hp}(hs:aF P fid args [] (.mref 0) [some (iG L)])(hf:iK P fid)(h1:aD args):aN P n fid args f hp [] (.mref f) (dT [(f,some (iG L))]):=by
 have key:=aN.hand (n:=n) (f:=f) (hp:=hp) hf hs [] rfl (by simp) (aG h1) (λi c y e1 e2=>by simp at e1) (by simp) (by simp) (show(0:Nat)<1 by omega) (λy hy=>by simp at hy;subst hy;exact aG (dR _));have e0:aI [] f 0=f:=rfl;have e1:(iG L).ren (aI [] f)=iG L:=by unfold iG;rw[Blk.ren,aK _ (dR _)]
 have e3:bI [] f [some (iG L)]=dT [(f,some (iG L))]:=by simp[bI,List.zipIdx,e0,e1]
 rw[e3]at key;simpa only[aK _ h1,AV.ren,e0]using key
def TOk(L:Rws)(is:List Nat):Prop:=is.Nodup∧(∀i∈is,i<L.length)∧∀i,i<L.length→i∈is
theorem jr.mono{P:Program}{n f:Nat}{fid:FuncId}{args:List AV}{hp:Hp}{foot:List Nat}{Q Q':AV→Eff→Prop}(h:jr P n fid args f hp foot Q)(hq:∀v e,Q v e→Q' v e):jr P n fid args f hp foot Q':=
 ⟨h.1,λc A μ fr tm' hp' a w cargs h1 h2 h3 h4=>(h.2 c A μ fr tm' hp' a w cargs h1 h2 h3 h4).mono λe' w'=>by rintro⟨v,e,q,r⟩;exact⟨v,e,hq v e q,r⟩⟩
theorem qD{L:Rws}(hL:tO L){n f b:Nat}{hp:Hp}(hb:hp b=some (iG L)) :
  jr Tryz.prog n 101 [.mref b] f hp [b] (λv e=>∃is,TOk L is∧v=.mref f∧e=dT [(b,none),(f,some (iG (gw L is)))]):=by
 have e0:aI [b] f 0=b:=rfl;have e1:aI [b] f 1=f:=rfl;have rn:∀L,(iG L).ren (aI [b] f)=iG L:=λL=>by unfold iG;rw[Blk.ren,aK _ (dR _)]
 have key:=jr.hand (n:=n) (f:=f) (hp:=hp) ⟨_,Tryz.func101,by kernel_rfl,by kernel_rfl⟩ (BH L hL) [b] rfl (by simp) ⟨show(0:Nat)<1 by omega,trivial⟩ (λi c y h1 h2=>by
  match i with
  | 0=>cases h1;cases h2;exact⟨aG (dR _),hb.trans (congrArg some (rn L).symm)⟩
  | i+1=>simp at h1) (λr h'=>by
   rintro⟨is,_,_,_,rfl,rfl⟩;exact⟨by simp,by simp,show(1:Nat)<2 by omega,λx hx=>by simp at hx;subst hx;exact aG (dR _)⟩)
 refine jr.mono (by simpa only[cG,AV.ren,e0]using key) ?_;rintro v e ⟨r,h',⟨is,i1,i2,i3,rfl,rfl⟩,rfl,rfl⟩;refine⟨is,⟨i1,i2,i3⟩,by rw[AV.ren,e1],?_⟩;simp[bI,List.zipIdx,e0,e1,rn]
def pg(t:Tpl)(A:Rws)(R:List Rnk):Prop:=∃(D:Int→Nat) (N:Nat),(∀p∈A,p.2.length≤1000000)∧(∀r x,x∈av A r []→D x<D r)∧(∀r,D r<N)∧R=(t.rs.foldl (rkO A N) ([],[])).1
theorem Jx(t:Tpl)(c:Chg)(R:List Rnk)(hb:(bt t c).2.2.2=0→t.rs.length≤1000∧(bt t c).2.2.1.length≤1000∧tO (fT (bt t c).2.1 (bt t c).2.2.1))
    (h2:(bt t c).2.2.2=0→¬(bt t c).1=1→pg t (fT (bt t c).2.1 (bt t c).2.2.1) R)
    (h1:(bt t c).2.2.2=0→(bt t c).1=1→∀is,TOk (fT (bt t c).2.1 (bt t c).2.2.1) is→pg t (gw (fT (bt t c).2.1 (bt t c).2.2.1) is) R)
    (hR:¬(bt t c).2.2.2=0→R=[]):aF Tryz.prog 58 [Tpl.v t,Chg.v c] [] (.tup [.sl 2 (R.map Rnk.v) false,.int (bt t c).2.2.2]) []:=by
  refine aF.walk Tryz.func58 Md (by simp[QB]) ?_;unfold QB;simp only[ei,eC,Y',al'];have hred:bT Tryz.prog (pz t c).f [Tpl.v t,Chg.v c] (.tup [.int (bt t c).1,Tpl.v (bt t c).2.1,.sl 2 ((bt t c).2.2.1.map Hop.v) false,.int (bt t c).2.2.2]):=(pz t c).ok;generalize bt t c=q at *
  obtain⟨kd,g,ds,er⟩:=q;simp only at hb h2 h1 hR hred ⊢;refine AWP.seq' ?_;refine AWP.reg' λK hK=>?_
  try simp only[ag,seval]
  refine⟨rfl,rfl,?_⟩;refine hK _ _ _ ?_;clear hK K;refine AWP.seq' ?_;refine AWP.reg' λK hK=>?_
  try simp only[ag,seval,Tpl.v,Chg.v]
  refine cI hred (pz t c).fn rfl rfl ⟨⟨trivial,trivial,trivial⟩,⟨trivial,trivial,trivial,trivial,trivial⟩,trivial⟩ ?_
  try simp only[ag,seval,Tpl.v]
  refine hK _ _ _ ?_;clear hK K;refine AWP.seq' (AWP.seq' ?_);refine AWP.reg' λK hK=>?_
  try simp only[ag,seval]
  refine hK _ _ _ ?_;clear hK K;by_cases he:er=0
  case neg =>
    refine AWP.cond (b := true) (by have : (er != 0) = true := by simpa using he
                                    rw[←this];rfl) (λ_=>?_) (λh=>by cases h)
    refine AWP.seq' ?_;refine AWP.reg' λK hK=>?_
    try simp only[ag,seval]
    refine hK _ _ _ ?_;clear hK K;rw[hR he];refine AWP.ret (gQ (ao.subT 4 (y:=.sl 2 [] false) Sub.nil) (fZ rfl rfl trivial))
  subst he;obtain⟨b1,b2,b3⟩:=hb rfl;refine AWP.cond (b:=false) rfl (λh=>by cases h) (λ_=>AWP.skip ?_);refine(show AWP _ _ _ _ _ _ from ?_);refine AWP.seq' ?_;refine AWP.reg' λK hK=>?_
  try simp only[ag,seval,Tpl.v]
  refine dz rfl (by rfl) (Bm (Hh g ds b2) ⟨_,Tryz.func100,by kernel_rfl,by kernel_rfl⟩ ⟨⟨trivial,trivial,trivial⟩,trivial,trivial⟩) ?_;rw[gL]
  try simp only[ag,seval]
  refine hK _ _ _ ?_;clear hK K;refine AWP.seq' (AWP.seq' ?_);refine AWP.reg' λK hK=>?_
  try simp only[ag,seval]
  refine hK _ _ _ ?_;clear hK K
  have fin:∀(A:Rws) (tm':Nat→AV) (hp':Hp) (nx' b:Nat),nx'≤1000→pg t A R→tm' 2=.ref 0 0→tm' 10=.ref 352 0→hp' 0=some (.box (Tpl.v t))→hp' 352=some (.box (.mref b))→hp' b=some (iG A) →
      AWP Tryz.prog 0 55 Ou (Am.fin 0 55 [.tmp 4,.tmp 5] (.tup [.sl 2 (R.map Rnk.v) false,.int 0]) []) ⟨tm',hp',nx'⟩:=by
    rintro A tm' hp' nx' b hn ⟨D,N,m1,m2,m3,rfl⟩ t2 t10 k0 k10 kb;refine AWP.weak ((ao.giveBox 352 b k10 kb (dR _)).trans (ao.up hn)) ?_
    refine Jk t A D N m1 m2 m3 b1 _ _ t2 ?_ t10 ?_
    · have e1:(0:Nat)≠b:=λe=>by subst e;rw[k0]at kb;cases kb
      simp only[aj,E' e1];exact k0
    · simp only[aj,↓reduceIte]
  by_cases hk:kd=1
  · refine AWP.cond (b:=true) (by subst hk;rfl) (λ_=>?_) (λh=>by cases h)
    refine AWP.regE (os1:=[_]) (os2:=[_]) ?_
    try simp only[ag,seval]
    refine⟨_,[],[336],_,rfl,qD b3 rfl,?_⟩;rintro v e ⟨is,hi,rfl,rfl⟩;rw[bw,gL]
    try simp only[ag,seval]
    refine(show AWP _ _ _ _ _ _ from ?_);exact fin (gw (fT g ds) is) _ _ _ 432 (by omega) (h1 rfl hk is hi) rfl rfl rfl rfl rfl
  · refine AWP.cond (b := false) (by have : (kd == 1) = false := by simpa using hk
                                     rw[←this];rfl) (λh=>by cases h) (λ_=>AWP.skip ?_)
    exact fin _ _ _ _ 336 (by omega) (h2 rfl hk) rfl rfl rfl rfl rfl
theorem zy{t:Tpl}(hc:aC t=0){g u n:Int}{k:Nat}(hg:aJ t g=true)(p:Pth t g k u n):∃m,m≤n∧aX t u g=(m,true):=by
 have hk:g∈ap (inG t):=by unfold inG;rw[bf,bz];exact hg
 have hF:=eD (lS hc) hk;obtain⟨m,hm,hx⟩:=hF.low ((kO hc).mpr ⟨k,p⟩);refine⟨m,hm,?_⟩;rw[ws hc,F' (bW.mpr ⟨m,hx⟩),dC hF.nd hx]
theorem dV{t:Tpl}{u g m:Int}(e:aX t u g=(m,true)):(∃k,Pth t g k u m)∧(∀k n,Pth t g k u n→m≤n)∧0≤m∧m≤24000:=by
 have e2:(aX t u g).2=true:=by rw[e]
 obtain⟨hc,hu,hg⟩:=oc e2;rw[ws hc]at e
 by_cases h:aT (cF (inG t) g) u=true
 ·rw[F' h]at e;have hm:=bF (z:=0) h;have e3:av (cF (inG t) g) u 0=m:=(Prod.mk.inj e).1;rw[e3]at hm;obtain⟨h1,h2⟩:=(nE hc hg).mp hm;obtain⟨h3,h4⟩:=zh hc hg hm;exact⟨h1,h2,h3,h4⟩
 ·rw[E' h]at e;cases e
theorem Jz{t:Tpl}{v w:Int}{j:Nat}{n:Int}(q:Pth t w j v n):∀{k:Nat} {u m:Int},Pth t v k u m→Pth t w (j+k) u (n+m):=by
 intro k u m p
 induction p with
 | nil=>simpa using q
 | cons e p ih =>
  have:=Pth.cons e ih
  rwa [Int.add_assoc]at this
theorem zw{t:Tpl}{u v w a b:Int}(h1:aX t u v=(a,true))(h2:aX t v w=(b,true)):∃m,m≤a+b∧aX t u w=(m,true):=by
 obtain⟨⟨k,p⟩,_⟩:=dV h1;obtain⟨⟨j,q⟩,_⟩:=dV h2;obtain⟨hc,_,hw⟩:=oc (t:=t) (x:=v) (y:=w) (by rw[h2]);obtain⟨m,hm,e⟩:=zy hc hw (Jz q p);exact⟨m,by omega,e⟩
theorem Gg{t:Tpl}(hc:aC t=0){u v c:Int}(e:fA t u v c):∃m,m≤c∧aX t u v=(m,true):=by
 obtain⟨m,hm,q⟩:=zy hc (e.has hc).2 (Pth.cons e .nil);exact⟨m,by omega,q⟩
theorem Gf{t:Tpl}{x:Int}(h:(aX t x x).2=true):(aX t x x).1=0:=by
 have e:aX t x x=((aX t x x).1,true):=Prod.ext rfl h;obtain⟨⟨k,p⟩,h2,h3,_⟩:=dV e;have:=h2 0 0 .nil;omega
theorem dW{t:Tpl}{x y:Int}(h:(aX t x y).2=true):aX t x y=((aX t x y).1,true):=Prod.ext rfl h
structure BhH (g:Tpl) (h:Hop) (x y:Int):Prop where
  ne:x≠h.a
  xa:(aX g x h.a).2=true
  ya:(aX g y h.a).2=true
  xb:(aX g x h.b).2=true
  yb:(aX g y h.b).2=true
  dec:(aX g y h.a).1<(aX g x h.a).1
  lx:(aX g x h.a).1<(aX g x h.b).1
  ly:(aX g y h.a).1<(aX g y h.b).1
theorem xq{t:Tpl}{x d:Int}{h:Hop}{c:Int}(hc:1≤c∧c≤1000):lZ (dm t) x d h c=true↔(aX t x h.a).2=true∧(aX t h.b d).2=true∧(aX t x d).2=true∧(aX t x h.a).1+c+(aX t h.b d).1=(aX t x d).1:=by
 unfold lZ;obtain⟨ha,hb⟩:=h;simp only[qq,Le,ae',aV']
 constructor
 ·rintro⟨h1,h2,h3⟩;obtain⟨_,_,p1,p2⟩:=dV (dW h1);obtain⟨_,_,q1,q2⟩:=dV (dW h2);rw[eF (n:=(aX t x ha).1+c) (by omega),eF (by omega)]at h3;refine⟨h1,h2,?_,h3⟩;cases e:(aX t x d).2 with
  | true=>rfl
  | false=>have:=z6 e;omega
 ·rintro⟨h1,h2,h3,h4⟩;obtain⟨_,_,p1,p2⟩:=dV (dW h1);obtain⟨_,_,q1,q2⟩:=dV (dW h2);refine⟨h1,h2,?_⟩;rw[eF (n:=(aX t x ha).1+c) (by omega),eF (by omega),h4]
theorem QK{t:Tpl}{h:Hop}{c d x y w:Int}{M:Rws}(hc:aC t=0)(he:fA t h.a h.b c)(hw:1≤w∧w≤1000)(hq:beQ t h c d x y w M=true):BhH t h x y:=by
 have hcc:=he.cost hc;unfold beQ at hq;simp only[ae',bne_iff_ne,ne_eq]at hq;obtain⟨q1,q2,q3,q4,_⟩:=hq;rw[xq hw]at q2;rw[xq hcc]at q3 q4;obtain⟨a1,a2,a3,a4⟩:=q2;obtain⟨b1,b2,b3,b4⟩:=q3;obtain⟨c1,c2,c3,c4⟩:=q4;simp only at a1 a2 a4;have a0:=Gf a1;have key:∀z,(aX t z h.a).2=true→(aX t z d).2=true→(aX t z h.a).1+c+(aX t h.b d).1=(aX t z d).1→(aX t z h.b).2=true∧(aX t z h.a).1<(aX t z h.b).1:=λz g1 g2 g3=>by
  obtain⟨m,hm,e⟩:=Gg hc he;obtain⟨n,hn,e'⟩:=zw (dW g1) e;have e2:(aX t z h.b).2=true:=by rw[e']
  obtain⟨k,hk,e3⟩:=zw (dW e2) (dW b2);have:(aX t z d).1=k:=by rw[e3]
  exact⟨e2,by omega⟩
 obtain⟨x1,x2⟩:=key x b1 b3 b4;obtain⟨y1,y2⟩:=key y c1 c3 c4;exact⟨q1,b1,c1,x1,y1,by omega,x2,y2⟩
theorem CS{M:Rws}(hn:(ap M).Nodup)(k v:Int):(ap (pu M k v)).Nodup:=dw hn
theorem CR{M:Rws}(hn:(ap M).Nodup)(k v x:Int):av (pu M k v) x []=if x=k then av M k []++[v]else av M x []:=by
 have hn':=CS hn k v
 by_cases e:x=k
 ·subst e;rw[F' rfl];exact dC hn' ((bM hn).mpr (.inl rfl))
 ·rw[E' e];cases h:aT M x with
  | true=>exact dC hn' ((bM hn).mpr (.inr ⟨bF h,e⟩))
  | false =>
   rw[cd h];refine cd ?_;unfold pu;rw[se hn,h,decide_eq_false e];rfl
structure BeI (t:Tpl) (ds:List Hop) (M:Rws):Prop where
  nd:(ap M).Nodup
  bh:∀x y,y∈av M x []→∃h∈ds,BhH t h x y
  ri:gr t M
theorem BeI.pu{t:Tpl}{ds:List Hop}{M:Rws}(h:BeI t ds M){h0:Hop}{x y:Int}(hd:h0∈ds)(hb:BhH t h0 x y)(hx:aJ t x=true)(hy:aJ t y=true)(hn:y ∉ av M x []):BeI t ds (pu M x y):=by
 refine⟨CS h.nd x y,λu v hv=>?_,h.ri.pu hx hy hn⟩;rw[CR h.nd]at hv
 by_cases e:u=x
 ·subst e;rw[F' rfl]at hv
  rcases ab'.mp hv with hv|hv
  ·exact h.bh _ _ hv
  ·rw[L'.mp hv];exact⟨h0,hd,hb⟩
 ·rw[E' e]at hv;exact h.bh _ _ hv
theorem BeI.step{t:Tpl}(hc:aC t=0){ds:List Hop}{M:Rws}(h:BeI t ds M){h0:Hop}{c d:Int}(hd:h0∈ds)(he:fA t h0.a h0.b c){s:Int×Int×Int}(hx:aJ t s.1=true)(hy:aJ t s.2.1=true)(hw:1≤s.2.2∧s.2.2≤1000):BeI t ds (beI t h0 c d M s):=by
 unfold Go.Proofs.YtiobpjoadkfhdaaGreat.beI
 split
 ·rename_i e;have e':=e;unfold beQ at e';simp only[ae',bq',decide_eq_false_iff_not]at e';exact h.pu hd (QK hc he hw e) hx hy e'.2.2.2.2
 ·exact h
theorem fI{α β:Type}(I:β→Prop)(f:β→α→β):∀(l:List α) (b:β),I b→(∀b x,x∈l→I b→I (f b x))→I (l.foldl f b)
 | [],b,h,_=>h
 | x::l,b,h,hf=>fI I f l (f b x) (hf b x (by simp) h) λb y hy hb=>hf b y (by simp[hy]) hb
theorem Pe{t:Tpl}(hc:aC t=0){l:Lnk}(hl:l∈t.ls):∀z∈lst l,aJ t z.1=true∧aJ t z.2.1=true∧1≤z.2.2∧z.2.2≤1000:=λz hz=>by
 have hO:=ax hc;obtain⟨ha,hb⟩:=hO.has l hl;obtain⟨c1,c2,_⟩:=hO.lr l hl;unfold fv at c1 c2;simp only[ae',R']at c1 c2;unfold lst at hz;simp only[ah',aB',or_false]at hz
 rcases hz with rfl|rfl
 ·exact⟨ha,hb,c1⟩
 ·exact⟨hb,ha,c2⟩
theorem zM(t:Tpl)(ds:List Hop):BeI t ds (fT t ds):=by
 unfold fT;refine fI (BeI t ds) (be4 t) ds [] ⟨aW',λx y h=>by rw[cd (by unfold aT ap;simp)]at h;simp at h,⟨λp hp=>by simp at hp,λp hp=>by simp at hp,λp hp=>by simp at hp⟩⟩ λM h hh hM=>?_;unfold be4
 split
 ·rename_i e;have hc:=od e;have he:fA t h.a h.b (bV t h.a h.b).1:=by
   rw[CT hc];have:bV t h.a h.b=dG t h.a h.b:=by unfold bV;rw[E' (by simp[hc])]
   rw[←this];exact Prod.ext rfl e
  refine fI (BeI t ds) _ t.rs M hM λM d _ hM=>?_;unfold be3;refine fI (BeI t ds) _ t.ls M hM λM l hl hM=>?_;unfold be2;refine fI (BeI t ds) _ (lst l) M hM λM z hz hM=>?_;obtain⟨a1,a2,a3⟩:=Pe hc hl z hz;exact hM.step hc hh he a1 a2 a3
 ·exact hM
theorem Mr{t:Tpl}{ds:List Hop}(hc:¬aC t=0):fT t ds=[]:=by
 unfold fT;refine fI (λM=>M=[]) (be4 t) ds [] rfl λM h _ hM=>?_;unfold be4;rw[E' (λe=>hc (od e))];exact hM
theorem tE(t:Tpl)(ds:List Hop):tO (fT t ds):=by
 by_cases hc:aC t=0
 ·have h:=zM t ds;have hk:∀x,aJ t x=true→Am.inK .i64 x:=λx hx=>by
   obtain⟨r,hr,rfl⟩:=fc.mp hx;have:=(ax hc).rg r hr;rw[EH];omega
  refine⟨?_,λp hp=>hk _ (h.ri.ky p hp),λp hp=>by have:=h.ri.len hc p hp;omega,λp hp y hy=>hk _ (h.ri.el p hp y hy)⟩;have:=List.Nodup.length_le_of_subset h.nd (show ap (fT t ds) ⊆ t.rs.map (·.id)from λx hx=>by
   obtain⟨v,hv⟩:=aP.mp hx;exact sM.mp (h.ri.ky _ hv))
  rw[u',cH]at this;have:=(cJ hc).1;omega
 ·rw[Mr hc];exact⟨by simp,λp hp=>by simp at hp,λp hp=>by simp at hp,λp hp=>by simp at hp⟩
def dsN(t:Tpl)(x a:Int):Nat:=if(aX t x a).2=true then(aX t x a).1.toNat else 100000
def msr(t:Tpl)(c:Chg)(x:Int):Nat:=min (dsN t x c.a) (dsN t x c.b)
theorem PX(t:Tpl)(x a:Int):dsN t x a≤100000:=by
 unfold dsN
 split
 ·rename_i h;have:=(dV (dW h)).2.2;omega
 ·omega
theorem OV(t:Tpl)(c:Chg)(x:Int):msr t c x≤100000:=by
 unfold msr;have:=PX t x c.a;omega
theorem JV{t:Tpl}{c:Chg}{h:Hop}(hh:h∈fB c){x y:Int}(hb:BhH t h x y):msr t c y<msr t c x:=by
 obtain⟨_,xa,ya,xb,yb,d,lx,ly⟩:=hb;have p1:=(dV (dW xa)).2.2;have p2:=(dV (dW ya)).2.2;have p3:=(dV (dW xb)).2.2;have p4:=(dV (dW yb)).2.2;have e1:dsN t x h.a=(aX t x h.a).1.toNat:=F' xa;have e2:dsN t y h.a=(aX t y h.a).1.toNat:=F' ya;have e3:dsN t x h.b=(aX t x h.b).1.toNat:=F' xb;have e4:dsN t y h.b=(aX t y h.b).1.toNat:=F' yb;unfold fB at hh;simp only[ah',aB',or_false]at hh;unfold msr
 rcases hh with rfl|rfl
 ·simp only at e1 e2 e3 e4 d lx ly p1 p2 p3 p4;omega
 ·simp only at e1 e2 e3 e4 d lx ly p1 p2 p3 p4;omega
def mxL(g:Int→Int)(l:List Int)(n:Int):Int:=l.foldl (λn x=>dP n (g x)) n
theorem Kq(a b:Int):a≤dP a b∧b≤dP a b∧(dP a b=a∨dP a b=b):=by
 unfold dP;split<;>omega
theorem vq(g:Int→Int):∀(l:List Int) (n:Int),n≤mxL g l n∧(∀x∈l,g x≤mxL g l n)∧(mxL g l n=n∨∃x∈l,mxL g l n=g x)
 | [],n=>⟨bC' _,λx hx=>by simp at hx,.inl rfl⟩
 | x::l,n=>by
  obtain⟨h1,h2,h3⟩:=vq g l (dP n (g x));obtain⟨m1,m2,m3⟩:=Kq n (g x);have e:mxL g (x::l) n=mxL g l (dP n (g x)):=rfl;rw[e]
  refine⟨by omega,λy hy=>?_,?_⟩
  ·rcases ah'.mp hy with rfl|hy
   ·omega
   ·exact h2 y hy
  ·rcases h3 with h3|⟨y,hy,h3⟩
   ·rcases m3 with m3|m3
    ·exact .inl (by omega)
    ·exact .inr ⟨x,by simp,by omega⟩
   ·exact .inr ⟨y,by simp[hy],h3⟩
theorem vr{g g':Int→Int}{l l':List Int}(n:Int)(hm:∀x,x∈l↔x∈l')(hg:∀x∈l,g x=g' x):mxL g l n=mxL g' l' n:=by
 obtain⟨a1,a2,a3⟩:=vq g l n;obtain⟨b1,b2,b3⟩:=vq g' l' n
 refine Int.le_antisymm ?_ ?_
 ·rcases a3 with a3|⟨x,hx,a3⟩
  ·omega
  ·have:=b2 x ((hm x).mp hx);rw[←hg x hx]at this;omega
 ·rcases b3 with b3|⟨x,hx,b3⟩
  ·omega
  ·have h':=(hm x).mpr hx;have:=a2 x h';rw[hg x h']at this;omega
def rkP(A:Rws):Nat→Int→Int
 | 0,_=>0
 | f+1,r=>mxL (λx=>W (1+rkP A f x)) (av A r []) 0
theorem rA{A:Rws}{D:Int→Nat}(hD:∀r x,x∈av A r []→D x<D r):∀(f g:Nat) (r:Int),D r<f→D r<g→rkP A f r=rkP A g r
 | 0,_,r,h,_=>absurd h (by omega)
 | _,0,r,_,h=>absurd h (by omega)
 | f+1,g+1,r,h1,h2=>by
  unfold rkP;exact vr 0 (λ_=>Iff.rfl) λx hx=>by have:=hD r x hx;rw[rA hD f g x (by omega) (by omega)]
theorem xX{A A':Rws}(h:∀r x,x∈av A r []↔x∈av A' r []):∀(f:Nat) (r:Int),rkP A f r=rkP A' f r
 | 0,_=>rfl
 | f+1,r=>by
  unfold rkP;exact vr 0 (h r) λx _=>by rw[xX h f x]
structure HX (A:Rws) (N:Nat) (kn:Dis):Prop where
  nd:(ap kn).Nodup
  val:∀p∈kn,p.2=rkP A N p.1
theorem C5{A:Rws}{D:Int→Nat}(hD:∀r x,x∈av A r []→D x<D r)(N:Nat)(hN:∀r,D r<N):∀(f:Nat) (r:Int) (kn:Dis),D r<f→HX A N kn→(rkF A f r kn).1=rkP A N r∧HX A N (rkF A f r kn).2
 | 0,r,kn,h,_=>absurd h (by omega)
 | f+1,r,kn,h,hk=>by
  have ih:=C5 hD N hN f;unfold rkF
  split
  ·rename_i e;exact⟨hk.val _ (bF e),hk⟩
  ·have key:∀(l:List Int) (n:Int) (kn:Dis),(∀x∈l,x∈av A r [])→HX A N kn→(l.foldl (rkS (rkF A f)) (n,kn)).1=mxL (λx=>W (1+rkP A N x)) l n∧HX A N (l.foldl (rkS (rkF A f)) (n,kn)).2:=λl=>by
    induction l with
    | nil=>intro n kn _ hk;exact⟨rfl,hk⟩
    | cons x l ihl =>
     intro n kn hl hk;have hx:=hD r x (hl x (by simp));obtain⟨g1,g2⟩:=ih x kn (by omega) hk;have e:rkS (rkF A f) (n,kn) x=(dP n (W (1+rkP A N x)),(rkF A f x kn).2):=by unfold rkS;simp only;rw[g1]
     rw[aN',e];exact ihl _ _ (λy hy=>hl y (by simp[hy])) g2
   obtain⟨k1,k2⟩:=key (av A r []) 0 kn (λx hx=>hx) hk;have e2:rkP A N r=mxL (λx=>W (1+rkP A N x)) (av A r []) 0:=by
    have hr:=hN r
    match N,hr with
    | N+1,hr =>
     rw[rkP];exact vr 0 (λ_=>Iff.rfl) λx hx=>by have:=hD r x hx;rw[rA hD N (N+1) x (by omega) (by omega)]
   refine⟨by rw[e2];exact k1,dw k2.nd,λp hp=>?_⟩
   rcases(bM k2.nd).mp hp with rfl|⟨hp,_⟩
   ·simp only;rw[e2];exact k1
   ·exact k2.val p hp
theorem C4{A:Rws}{D:Int→Nat}(hD:∀r x,x∈av A r []→D x<D r)(N:Nat)(hN:∀r,D r<N):∀(l:List Rtr) (s:List Rnk×Dis),HX A N s.2→(l.foldl (rkO A N) s).1=s.1++l.map λr=>⟨r.id,rkP A N r.id⟩
 | [],s,_=>by simp
 | r::l,s,h=>by
  obtain⟨g1,g2⟩:=C5 hD N hN N r.id s.2 (hN _) h;rw[aN',C4 hD N hN l (rkO A N s r) g2];unfold rkO;simp only[aE',bl',List.cons_append,bu',g1]
theorem DA{t:Tpl}{A:Rws}{D:Int→Nat}{N:Nat}(hA:∀p∈A,p.2.length≤1000000)(hD:∀r x,x∈av A r []→D x<D r)(hN:∀r,D r<N):pg t A (t.rs.map λr=>⟨r.id,rkP A N r.id⟩):=
 ⟨D,N,hA,hD,hN,by rw[C4 hD N hN t.rs ([],[]) ⟨aW',λp hp=>by simp at hp⟩];rfl⟩
theorem xo(x:Int):∀(l:List Int) (M:Rws) (m:Nat),(ap M).Nodup→(∀p∈M,p.2.length≤m)→(ap (j7 x M l)).Nodup∧(∀p∈j7 x M l,p.2.length≤m+l.length)∧∀y z,z∈av (j7 x M l) y []↔z∈av M y []∨z=x∧y∈l
 | [],M,m,hn,hm=>⟨hn,λp hp=>by have:=hm p hp;simpa using this,λy z=>by simp[j7]⟩
 | v::l,M,m,hn,hm=>by
  obtain⟨g1,g2,g3⟩:=xo x l (pu M v x) (m+1) (CS hn v x) (uD hm v x);have e:j7 x M (v::l)=j7 x (pu M v x) l:=rfl;rw[e];refine⟨g1,λp hp=>by have:=g2 p hp;rw[Y'];omega,λy z=>?_⟩;rw[g3,CR hn]
  by_cases e:y=v
  ·subst e;rw[F' rfl];simp[or_assoc];constructor
   ·rintro(h|h|h)
    ·exact .inl h
    ·exact .inr h
    ·exact .inr h.1
   ·rintro(h|h)
    ·exact .inl h
    ·exact .inr (.inl h)
  ·rw[E' e];simp[e]
theorem xn{L:Rws}(hr:∀p∈L,p.2.length≤100):∀(is:List Nat) (M:Rws) (m:Nat),(ap M).Nodup→(∀p∈M,p.2.length≤m)→(∀i∈is,i<L.length) →
  (ap (is.foldl (λM i=>j7 (L.getD i (0,[])).1 M (L.getD i (0,[])).2) M)).Nodup∧(∀p∈is.foldl (λM i=>j7 (L.getD i (0,[])).1 M (L.getD i (0,[])).2) M,p.2.length≤m+100 * is.length) ∧
  ∀y z,z∈av (is.foldl (λM i=>j7 (L.getD i (0,[])).1 M (L.getD i (0,[])).2) M) y []↔z∈av M y []∨∃i∈is,∃l,L[i]?=some (z,l)∧y∈l
 | [],M,m,hn,hm,_=>⟨hn,λp hp=>by have:=hm p hp;simpa using this,λy z=>by simp⟩
 | i::is,M,m,hn,hm,hi=>by
  have hil:=hi i (by simp);have hg:L[i]?=some L[i]:=f' hil;have hgd:L.getD i (0,[])=L[i]:=by rw[H',hg];rfl
  have hlen:=hr _ (J' hg);obtain⟨g1,g2,g3⟩:=xo (L.getD i (0,[])).1 (L.getD i (0,[])).2 M m hn hm;obtain⟨k1,k2,k3⟩:=xn hr is _ _ g1 g2 (λj hj=>hi j (by simp[hj]));rw[aN'];refine⟨k1,λp hp=>by have:=k2 p hp;rw[hgd]at this;rw[Y'];omega,λy z=>?_⟩;rw[k3,g3,hgd]
  constructor
  ·rintro((h|⟨rfl,h⟩)|⟨j,hj,l,h1,h2⟩)
   ·exact .inl h
   ·exact .inr ⟨i,by simp,L[i].2,by rw[hg],h⟩
   ·exact .inr ⟨j,by simp[hj],l,h1,h2⟩
  ·rintro(h|⟨j,hj,l,h1,h2⟩)
   ·exact .inl (.inl h)
   ·rcases ah'.mp hj with rfl|hj
    ·rw[hg]at h1;have e:=Z' h1;rw[e];exact .inl (.inr ⟨rfl,h2⟩)
    ·exact .inr ⟨j,hj,l,h1,h2⟩
theorem re{L:Rws}(hL:tO L)(hn:(ap L).Nodup){is:List Nat}(hi:TOk L is):(∀p∈gw L is,p.2.length≤1000000)∧∀y z,z∈av (gw L is) y []↔y∈av L z []:=by
 obtain⟨i1,i2,i3⟩:=hi;obtain⟨_,k2,k3⟩:=xn hL.row is [] 0 aW' (λp hp=>by simp at hp) i2;have hl:=List.Nodup.length_le_of_subset i1 (show is ⊆ List.range L.length from λa ha=>as'.mpr (i2 a ha));rw[ch']at hl;have:=hL.len;refine⟨λp hp=>by have:=k2 p hp;omega,λy z=>(k3 y z).trans ?_⟩
 constructor
 ·rintro(h|⟨i,hi,l,h1,h2⟩)
  ·rw[cd (by unfold aT ap;simp)]at h;simp at h
  ·rw[dC hn (J' h1)];exact h2
 ·intro h;refine .inr ?_;cases e:aT L z with
  | false=>rw[cd e]at h;simp at h
  | true =>
   obtain⟨i,hi⟩:=ac'.mp (bF (z:=[]) e);exact⟨i,i3 i (am hi),_,hi,h⟩
theorem xY{t:Tpl}{c:Chg}(h:(bt t c).2.2.2=0):aC t=0∧(ce t c).2=0∧(∀x∈(bt t c).2.2.1,x∈fB c)∧(bt t c).2.2.1.length≤2∧((bt t c).2.1=t∨(bt t c).2.1=(ce t c).1):=by
 have e:(ce t c).2=0:=by
  refine U' λq=>?_;unfold bt at h;rw[F' q]at h;exact q h
 have hc:aC t=0:=by
  refine U' λq=>?_;unfold ce at e;rw[F' q]at e;cases e
 have hl:((fB c).filter (chH t (ce t c).1)).length≤2:=bU' _ _;refine⟨hc,e,?_⟩;unfold bt at h ⊢;rw[E' (by simp[e])]at h ⊢
 split
 ·rename_i q;rw[F' q]at h;cases h
 ·split
  ·exact⟨λx hx=>(ca'.mp hx).1,hl,.inr rfl⟩
  ·exact⟨λx hx=>(ca'.mp hx).1,hl,.inl rfl⟩
def rnkA(t:Tpl)(c:Chg):Rws:=if(bt t c).1=1 then gw (fT (bt t c).2.1 (bt t c).2.2.1) (List.range (fT (bt t c).2.1 (bt t c).2.2.1).length)else fT (bt t c).2.1 (bt t c).2.2.1
def fN(t:Tpl)(c:Chg):List Rnk:=if(bt t c).2.2.2=0 then t.rs.map λr=>⟨r.id,rkP (rnkA t c) 200000 r.id⟩else []
theorem Au(L:Rws):TOk L (List.range L.length):=⟨List.nodup_range,λi hi=>as'.mp hi,λi hi=>as'.mpr hi⟩
theorem rv{t:Tpl}{c:Chg}(h:(bt t c).2.2.2=0):(¬(bt t c).1=1→pg t (fT (bt t c).2.1 (bt t c).2.2.1) (fN t c))∧((bt t c).1=1→∀is,TOk (fT (bt t c).2.1 (bt t c).2.2.1) is→pg t (gw (fT (bt t c).2.1 (bt t c).2.2.1) is) (fN t c)):=by
 obtain⟨hc,ha,hd,hl,hg⟩:=xY h;unfold fN rnkA;rw[F' h];generalize (bt t c).2.1=g at *
 generalize (bt t c).2.2.1=ds at *
 have hB:=zM g ds;have hR:=tE g ds;have hdec:∀r x,x∈av (fT g ds) r []→msr g c x<msr g c r:=λr x hx=>by
  obtain⟨h0,h1,h2⟩:=hB.bh r x hx;exact JV (hd h0 h1) h2
 have hle:=OV g c
 refine⟨λk=>?_,λk is hi=>?_⟩
 ·rw[E' k];exact DA (D:=msr g c) (N:=200000) (λp hp=>by have:=hR.row p hp;omega) hdec (λr=>by have:=hle r;omega)
 ·rw[F' k];obtain⟨m1,m2⟩:=re hR hB.nd hi;obtain⟨_,n2⟩:=re hR hB.nd (Au _);have e:(t.rs.map λr=>(⟨r.id,rkP (gw (fT g ds) (List.range (fT g ds).length)) 200000 r.id⟩:Rnk))=t.rs.map λr=>⟨r.id,rkP (gw (fT g ds) is) 200000 r.id⟩:=by
   refine an' λr _=>?_;rw[xX (λy z=>(n2 y z).trans (m2 y z).symm)]
  rw[e];exact DA (D:=λx=>150000-msr g c x) (N:=200000) m1 (λr x hx=>by
   have:=hdec x r ((m2 r x).mp hx);have:=hle x;have:=hle r;omega) (λr=>by omega)
theorem Jy(t:Tpl)(c:Chg):bT Tryz.prog 58 [Tpl.v t,Chg.v c] (.tup [.sl 2 ((fN t c).map Rnk.v) false,.int (bt t c).2.2.2]):=by
 refine aF.pure (Jx t c (fN t c) (λh=>?_) (λh=>(rv h).1) (λh=>(rv h).2) (λh=>by unfold fN;rw[E' h])) ⟨trivial,trivial,trivial⟩;obtain⟨hc,ha,hd,hl,hg⟩:=xY h;have:=(cJ hc).1;exact⟨by omega,by omega,tE _ _⟩
def Jw(t:Tpl)(c:Chg):PC Tryz.prog:=⟨58,[(.a [(.s 2),(.s 5)]),.k],[.agg [.sl 2 (t.rs.map Rtr.v) false,.sl 5 (t.ls.map Lnk.v) false],.agg [.int c.a,.int c.b,.int c.ca,.int c.cb]],.tup [.sl 2 ((fN t c).map Rnk.v) false,.int (bt t c).2.2.2],Jy t c,bx (by kernel_rfl)⟩
def tH(ch:List Int)(x y:Rnk):Bool:=decide (x.n<y.n) && (!(decide (x.r∈ch)) && decide (y.r∈ch))
def Bs(l:List Rnk)(ch:List Int):Bool:=l.all λx=>l.all λy=>!(tH ch x y)
def HJ(l:List Rnk)(changed:List Int):=okL [.sl 2 (l.map Rnk.v) false,.sl 1 (changed.map AV.int) false]
def MO(l:List Rnk)(changed:List Int)(t0:Int):NF:=⟨[(0,.k,.sl 2 (l.map Rnk.v) false),(1,.k,.sl 1 (changed.map AV.int) false),(9,.k,.sl 2 (l.map Rnk.v) false),rI 10 ((l.map Rnk.v).length:Int),rI 11 t0],[]⟩
def MM(l:List Rnk)(changed:List Int)(t0:Int)(x1:Rnk)(t1:Int):NF:=⟨[(0,.k,.sl 2 (l.map Rnk.v) false),(1,.k,.sl 1 (changed.map AV.int) false),rR 6 0,(9,.k,.sl 2 (l.map Rnk.v) false),rI 10 ((l.map Rnk.v).length:Int),rI 11 t0,(15,.k,.sl 2 (l.map Rnk.v) false),rI 16 ((l.map Rnk.v).length:Int),rI 17 t1],[.box (Rnk.v x1)]⟩
def MJ(l:List Rnk)(changed:List Int)(t0:Int)(x1:Rnk)(t1:Int)(t2:Bool):NF:=⟨[(0,.k,.sl 2 (l.map Rnk.v) false),(1,.k,.sl 1 (changed.map AV.int) false),rR 6 0,(9,.k,.sl 2 (l.map Rnk.v) false),rI 10 ((l.map Rnk.v).length:Int),rI 11 t0,(15,.k,.sl 2 (l.map Rnk.v) false),rI 16 ((l.map Rnk.v).length:Int),rI 17 t1,rB 38 t2],[.box (Rnk.v x1)]⟩
@[reducible] def HG:Nat→Type
 | 0=>Int
 | 1=>Int
 | 2=>Bool
 | _=>Unit
def HH(r:Bool):AV:=.bool r
def HF(l:List Rnk)(changed:List Int)(I0:Int→Prop)(m0:Int→Nat)(I1:Int→Rnk→Int→Prop)(m1:Int→Rnk→Int→Nat)(I2:Int→Rnk→Int→Rnk→Bool→Prop):Ax Tryz.prog HG (Bool):=
 (.loop 0 (MO l changed) I0 m0 ((0):Int) [] λ(t0:Int) b0 =>
(.br 16 (decide (t0<((l.map Rnk.v).length:Int))) (.elI 16 Rnk.v l t0 λx1 =>
(.loop 1 (MM l changed t0 x1) (I1 t0 x1) (m1 t0 x1) ((0):Int) [48] λ(t1:Int) b1 =>
(.br 17 (decide (t1<((l.map Rnk.v).length:Int))) (.elI 17 Rnk.v l t1 λx2 =>
(.join 2 (MJ l changed t0 x1 t1) (λ(t2:Bool)=>I2 t0 x1 t1 x2 t2) (λb2=>(.br 177 (decide (x1.n<x2.n)) (.callP (eU changed x1.r)
(.br 289 (!(decide (x1.r∈changed))) (.callP (eU changed x2.r)
(.bk 2 b2 ((decide (x2.r∈changed)):Bool) [0]))
(.bk 2 b2 ((false):Bool) [0])))
(.bk 2 b2 ((false):Bool) [0]))) λ(t2:Bool) =>
(.br 1 t2 (.ret (false))
(.bk 1 b1 ((W (t1+1)):Int) [0]))))
(.bk 0 b0 ((W (t0+1)):Int) []))))
(.ret (true))))
theorem QW(l:List Rnk)(ch:List Int)(h:l.length≤1000000)(ok:HJ l ch):∃I0 m0 I1 m1 I2,(HF l ch I0 m0 I1 m1 I2).vp HH (Bs l ch):=by
 refine⟨λi=>aM l (λx=>(l.all λy=>!(tH ch x y))=true) i,λi=>l.length-i.toNat,λ_ x i=>aM l (λy=>tH ch x y=false) i,λ_ _ i=>l.length-i.toNat,λ_ x _ y b=>b=tH ch x y,?_⟩;simp only[HJ,Rnk.v,okU,Blk.ok,az,u']at ok;dsimp only[HF,HG,Ax.vp,Ax.vc];simp only[vcU,rfU,u']
 refine⟨aM.zero,λi hi=>⟨λc=>⟨hi.idx,c,λx hx=>⟨aM.zero,λj hj=>⟨λd=>⟨hj.idx,d,λy hy=>⟨⟨λe=>⟨λe2=>?_,λe2=>?_⟩,λe=>?_⟩,?_⟩⟩,λd=>?_⟩⟩⟩,λc=>?_⟩⟩
 ·unfold tH;rw[decide_eq_true e,e2];rfl
 ·unfold tH;rw[e2];simp
 ·unfold tH;rw[decide_eq_false e];rfl
 ·rintro _ rfl;refine⟨λe=>?_,λe=>hj.step (by omega) hy e⟩;refine(Bool.eq_false_iff.mpr λq=>?_).symm;unfold Bs at q;have:=ay'.mp (ay'.mp q x (bn hx)) y (bn hy);rw[e]at this;cases this
 ·exact hi.step (by omega) hx (ay'.mpr λy hy=>by rw[hj.done d y hy];rfl)
 ·exact(ay'.mpr λx hx=>hi.done c x hx).symm
def HI(l:List Rnk)(changed:List Int)(h:l.length≤1000000):PC Tryz.prog:=pcO 60 [(.s 2),(.s 1)] [.sl 2 (l.map Rnk.v) false,.sl 1 (changed.map AV.int) false] .k HH (Bs l changed) (λok=>let ⟨I0,m0,I1,m1,I2,h⟩:=QW l changed h ok;⟨_,h,by kernel_rfl⟩) rfl (by kernel_rfl)
def T18:Tpl:=⟨[⟨1,true⟩,⟨2,true⟩,⟨3,true⟩,⟨4,true⟩],[⟨1,2,1,1,0⟩,⟨1,3,1,1,0⟩,⟨1,4,1,1,0⟩,⟨2,3,1,1,0⟩]⟩
theorem Ad:(bt T18 ⟨1,2,0,0⟩).1=1∧(bt T18 ⟨1,2,0,0⟩).2.2.2=0:=⟨by kernel_rfl,by kernel_rfl⟩
theorem MZ:fN T18 ⟨1,2,0,0⟩=[⟨1,1⟩,⟨2,0⟩,⟨3,0⟩,⟨4,0⟩]:=by kernel_rfl
def zT(r:Bool):AV:=.bool r
def qJ:Ax Tryz.prog noS (Bool):=
 (.callP (Jw (⟨[(⟨1,true⟩:Rtr),(⟨2,true⟩:Rtr),(⟨3,true⟩:Rtr),(⟨4,true⟩:Rtr)],[(⟨1,2,1,1,0⟩:Lnk),(⟨1,3,1,1,0⟩:Lnk),(⟨1,4,1,1,0⟩:Lnk),(⟨2,3,1,1,0⟩:Lnk)]⟩:Tpl) (⟨1,2,0,0⟩:Chg))
(.callP (Pm (⟨[(⟨1,true⟩:Rtr),(⟨2,true⟩:Rtr),(⟨3,true⟩:Rtr),(⟨4,true⟩:Rtr)],[(⟨1,2,1,1,0⟩:Lnk),(⟨1,3,1,1,0⟩:Lnk),(⟨1,4,1,1,0⟩:Lnk),(⟨2,3,1,1,0⟩:Lnk)]⟩:Tpl) (⟨1,2,0,0⟩:Chg))
(.br 528 (((bt (⟨[(⟨1,true⟩:Rtr),(⟨2,true⟩:Rtr),(⟨3,true⟩:Rtr),(⟨4,true⟩:Rtr)],[(⟨1,2,1,1,0⟩:Lnk),(⟨1,3,1,1,0⟩:Lnk),(⟨1,4,1,1,0⟩:Lnk),(⟨2,3,1,1,0⟩:Lnk)]⟩:Tpl) (⟨1,2,0,0⟩:Chg)).2.2.2)==0) (.br 592 (((bt (⟨[(⟨1,true⟩:Rtr),(⟨2,true⟩:Rtr),(⟨3,true⟩:Rtr),(⟨4,true⟩:Rtr)],[(⟨1,2,1,1,0⟩:Lnk),(⟨1,3,1,1,0⟩:Lnk),(⟨1,4,1,1,0⟩:Lnk),(⟨2,3,1,1,0⟩:Lnk)]⟩:Tpl) (⟨1,2,0,0⟩:Chg)).2.2.2)==0) (.br 656 (((bt (⟨[(⟨1,true⟩:Rtr),(⟨2,true⟩:Rtr),(⟨3,true⟩:Rtr),(⟨4,true⟩:Rtr)],[(⟨1,2,1,1,0⟩:Lnk),(⟨1,3,1,1,0⟩:Lnk),(⟨1,4,1,1,0⟩:Lnk),(⟨2,3,1,1,0⟩:Lnk)]⟩:Tpl) (⟨1,2,0,0⟩:Chg)).1)==1) (.br 736 ((((fN (⟨[(⟨1,true⟩:Rtr),(⟨2,true⟩:Rtr),(⟨3,true⟩:Rtr),(⟨4,true⟩:Rtr)],[(⟨1,2,1,1,0⟩:Lnk),(⟨1,3,1,1,0⟩:Lnk),(⟨1,4,1,1,0⟩:Lnk),(⟨2,3,1,1,0⟩:Lnk)]⟩:Tpl) (⟨1,2,0,0⟩:Chg)).map Rnk.v).length:Int)==4) (.el 752 Rnk.v (fN (⟨[(⟨1,true⟩:Rtr),(⟨2,true⟩:Rtr),(⟨3,true⟩:Rtr),(⟨4,true⟩:Rtr)],[(⟨1,2,1,1,0⟩:Lnk),(⟨1,3,1,1,0⟩:Lnk),(⟨1,4,1,1,0⟩:Lnk),(⟨2,3,1,1,0⟩:Lnk)]⟩:Tpl) (⟨1,2,0,0⟩:Chg)) (λR=>Rf ((fN (⟨[(⟨1,true⟩:Rtr),(⟨2,true⟩:Rtr),(⟨3,true⟩:Rtr),(⟨4,true⟩:Rtr)],[(⟨1,2,1,1,0⟩:Lnk),(⟨1,3,1,1,0⟩:Lnk),(⟨1,4,1,1,0⟩:Lnk),(⟨2,3,1,1,0⟩:Lnk)]⟩:Tpl) (⟨1,2,0,0⟩:Chg)).map Rnk.v) (ck (decide (0<((fN (⟨[(⟨1,true⟩:Rtr),(⟨2,true⟩:Rtr),(⟨3,true⟩:Rtr),(⟨4,true⟩:Rtr)],[(⟨1,2,1,1,0⟩:Lnk),(⟨1,3,1,1,0⟩:Lnk),(⟨1,4,1,1,0⟩:Lnk),(⟨2,3,1,1,0⟩:Lnk)]⟩:Tpl) (⟨1,2,0,0⟩:Chg)).length:Int)))
(∀x1,(fN (⟨[(⟨1,true⟩:Rtr),(⟨2,true⟩:Rtr),(⟨3,true⟩:Rtr),(⟨4,true⟩:Rtr)],[(⟨1,2,1,1,0⟩:Lnk),(⟨1,3,1,1,0⟩:Lnk),(⟨1,4,1,1,0⟩:Lnk),(⟨2,3,1,1,0⟩:Lnk)]⟩:Tpl) (⟨1,2,0,0⟩:Chg))[0]?=some x1 →
(R x1)))) λx1 =>
(.br 848 ((x1.r==1) && ((x1.n==1) && true)) (.el 864 Rnk.v (fN (⟨[(⟨1,true⟩:Rtr),(⟨2,true⟩:Rtr),(⟨3,true⟩:Rtr),(⟨4,true⟩:Rtr)],[(⟨1,2,1,1,0⟩:Lnk),(⟨1,3,1,1,0⟩:Lnk),(⟨1,4,1,1,0⟩:Lnk),(⟨2,3,1,1,0⟩:Lnk)]⟩:Tpl) (⟨1,2,0,0⟩:Chg)) (λR=>Rf ((fN (⟨[(⟨1,true⟩:Rtr),(⟨2,true⟩:Rtr),(⟨3,true⟩:Rtr),(⟨4,true⟩:Rtr)],[(⟨1,2,1,1,0⟩:Lnk),(⟨1,3,1,1,0⟩:Lnk),(⟨1,4,1,1,0⟩:Lnk),(⟨2,3,1,1,0⟩:Lnk)]⟩:Tpl) (⟨1,2,0,0⟩:Chg)).map Rnk.v) (ck (decide (3<((fN (⟨[(⟨1,true⟩:Rtr),(⟨2,true⟩:Rtr),(⟨3,true⟩:Rtr),(⟨4,true⟩:Rtr)],[(⟨1,2,1,1,0⟩:Lnk),(⟨1,3,1,1,0⟩:Lnk),(⟨1,4,1,1,0⟩:Lnk),(⟨2,3,1,1,0⟩:Lnk)]⟩:Tpl) (⟨1,2,0,0⟩:Chg)).length:Int)))
(∀x2,(fN (⟨[(⟨1,true⟩:Rtr),(⟨2,true⟩:Rtr),(⟨3,true⟩:Rtr),(⟨4,true⟩:Rtr)],[(⟨1,2,1,1,0⟩:Lnk),(⟨1,3,1,1,0⟩:Lnk),(⟨1,4,1,1,0⟩:Lnk),(⟨2,3,1,1,0⟩:Lnk)]⟩:Tpl) (⟨1,2,0,0⟩:Chg))[3]?=some x2 →
(R x2)))) λx2 =>
(.br 960 ((x2.r==4) && ((x2.n==0) && true)) (.req 992 ((fN (⟨[(⟨1,true⟩:Rtr),(⟨2,true⟩:Rtr),(⟨3,true⟩:Rtr),(⟨4,true⟩:Rtr)],[(⟨1,2,1,1,0⟩:Lnk),(⟨1,3,1,1,0⟩:Lnk),(⟨1,4,1,1,0⟩:Lnk),(⟨2,3,1,1,0⟩:Lnk)]⟩:Tpl) (⟨1,2,0,0⟩:Chg)).length≤1000000) λh3 =>
(.callP (HI (fN (⟨[(⟨1,true⟩:Rtr),(⟨2,true⟩:Rtr),(⟨3,true⟩:Rtr),(⟨4,true⟩:Rtr)],[(⟨1,2,1,1,0⟩:Lnk),(⟨1,3,1,1,0⟩:Lnk),(⟨1,4,1,1,0⟩:Lnk),(⟨2,3,1,1,0⟩:Lnk)]⟩:Tpl) (⟨1,2,0,0⟩:Chg)) [4] h3)
(.br 1040 (Bs (fN (⟨[(⟨1,true⟩:Rtr),(⟨2,true⟩:Rtr),(⟨3,true⟩:Rtr),(⟨4,true⟩:Rtr)],[(⟨1,2,1,1,0⟩:Lnk),(⟨1,3,1,1,0⟩:Lnk),(⟨1,4,1,1,0⟩:Lnk),(⟨2,3,1,1,0⟩:Lnk)]⟩:Tpl) (⟨1,2,0,0⟩:Chg)) [4]) (.req 1072 ((fN (⟨[(⟨1,true⟩:Rtr),(⟨2,true⟩:Rtr),(⟨3,true⟩:Rtr),(⟨4,true⟩:Rtr)],[(⟨1,2,1,1,0⟩:Lnk),(⟨1,3,1,1,0⟩:Lnk),(⟨1,4,1,1,0⟩:Lnk),(⟨2,3,1,1,0⟩:Lnk)]⟩:Tpl) (⟨1,2,0,0⟩:Chg)).length≤1000000) λh4 =>
(.callP (HI (fN (⟨[(⟨1,true⟩:Rtr),(⟨2,true⟩:Rtr),(⟨3,true⟩:Rtr),(⟨4,true⟩:Rtr)],[(⟨1,2,1,1,0⟩:Lnk),(⟨1,3,1,1,0⟩:Lnk),(⟨1,4,1,1,0⟩:Lnk),(⟨2,3,1,1,0⟩:Lnk)]⟩:Tpl) (⟨1,2,0,0⟩:Chg)) [1] h4)
(.ret (!(Bs (fN (⟨[(⟨1,true⟩:Rtr),(⟨2,true⟩:Rtr),(⟨3,true⟩:Rtr),(⟨4,true⟩:Rtr)],[(⟨1,2,1,1,0⟩:Lnk),(⟨1,3,1,1,0⟩:Lnk),(⟨1,4,1,1,0⟩:Lnk),(⟨2,3,1,1,0⟩:Lnk)]⟩:Tpl) (⟨1,2,0,0⟩:Chg)) [1])))))
(.ret (false)))))
(.ret (false))))
(.ret (false))))
(.ret (false)))
(.ret (false)))
(.ret (false)))
(.ret (false)))))
theorem Mx:qJ.vp zT true:=by
  dsimp only[qJ,noS,Ax.vp,Ax.vc];simp only[vcU,rfU,u'];rw[show({ rs:=[{ id:=1,cap:=true },{ id:=2,cap:=true },{ id:=3,cap:=true },{ id:=4,cap:=true }],ls:=[{ a:=1,b:=2,ca:=1,cb:=1,w:=0 },{ a:=1,b:=3,ca:=1,cb:=1,w:=0 },{ a:=1,b:=4,ca:=1,cb:=1,w:=0 },{ a:=2,b:=3,ca:=1,cb:=1,w:=0 }] }:Tpl)=T18 from rfl,MZ,Ad.1,Ad.2];simp[Bs,tH]
def zU:PC Tryz.prog:=pcO 24 [] [] .k zT true (λ_=>⟨(qJ),Mx,by kernel_rfl⟩) rfl (by kernel_rfl)
set_option pp.deepTerms true
set_option pp.maxSteps 100000
def Fj(l:List Tbl)(router:Int)(t0:Int):NF:=⟨[rI 1 router,rR 4 0,(11,.k,.sl 4 (l.map Tbl.v) false),rI 12 ((l.map Tbl.v).length:Int),rI 13 t0],[.box (.agg [.int 0,.int 0,.int 0,.sl 0 [] true])]⟩
def Fi(x1:Tbl)(t1:Int×List Rw):NF:=⟨[rR 4 0,rR 8 1,(24,.k,.sl 2 (x1.rows.map Rw.v) false),rI 25 ((x1.rows.map Rw.v).length:Int),rI 26 t1.1],[.box (.agg [.int 0,.int 0,.int 0,.sl 0 [] true]),.box (.agg [.int x1.router,.int x1.sub,.int x1.len,.vec 2]),vB 2 Rw.v t1.2 (λ_=>rfl)]⟩
@[reducible] def zb:Nat→Type
 | 0=>Int
 | 1=>Int×List Rw
 | _=>Unit
def zc(r:Tbl×Bool):AV:=.tup [Tbl.v r.1,.bool r.2]
def za(l:List Tbl)(router:Int)(I0:Int→Prop)(m0:Int→Nat)(I1:Int→Tbl→(Int×List Rw)→Prop)(m1:Int→Tbl→(Int×List Rw)→Nat):Ax Tryz.prog zb (Tbl×Bool):=
 (.loop 0 (Fj l router) I0 m0 ((0):Int) [0] λ(t0:Int) b0 =>
(.br 17 (decide (t0<((l.map Tbl.v).length:Int))) (.elI 17 Tbl.v l t0 λx1 =>
(.br 145 (x1.router==router) (.cmdL (.nilB 161 3 2) (.loop 1 (Fi x1) (I1 t0 x1) (m1 t0 x1) (0,[]) [0,161,289] λ(t1:Int×List Rw) b1 =>
(.br 19 (decide (t1.1<((x1.rows.map Rw.v).length:Int))) (.elI 19 Rw.v x1.rows t1.1 λx2 =>
(.req 179 (x2.nx.length≤1000000) λh3 =>
(.callP (tz x2.nx h3)
(.apX 227 Rw.v t1.2 [x2] (t1.2.length+1)
(.bk 1 b1 (W (t1.1+1),t1.2++[x2]) [0,1,227])))))
(.fz 2 Rw.v t1.2 (λ_=>rfl) (.ret ((⟨x1.router,x1.sub,x1.len,t1.2⟩:Tbl),true))))))
(.bk 0 b0 ((W (t0+1)):Int) [0])))
(.ret ((⟨0,0,0,[]⟩:Tbl),false))))
theorem KK(l:List Tbl)(router:Int)(h:eZ l):∃I0 m0 I1 m1,(za l router I0 m0 I1 m1).vp zc (bU l router):=by
 refine⟨λi=>aM l (λb=>(b.router==router)=false) i,λi=>l.length-i.toNat,λ_ b s=>dY b.rows (λx=>[x]) s.1 s.2,λ_ b s=>b.rows.length-s.1.toNat,?_⟩;dsimp only[za,zb,Ax.vp,Ax.vc];simp only[vcU,rfU,u']
 refine⟨aM.zero,λi hi=>⟨λc=>⟨hi.idx,c,λb hb=>⟨λq=>⟨dY.zero,λs hs=>⟨λd=>⟨hs.idx,d,λx hx=>⟨?_,?_⟩⟩,λd=>?_⟩⟩,λq=>hi.step (by have:=h.1;omega) hb q⟩⟩,λc=>?_⟩⟩
 ·have:=(h.2 b (bn hb)).2 x (bn hx);omega
 ·have hr:=(h.2 b (bn hb)).1;have:=hs.len (b:=1) λx _=>by simp
  exact⟨by omega,hs.step (by omega) hx rfl⟩
 ·have e:=kR (p:=λb:Tbl=>b.router==router) hi hb q;unfold bU;rw[e,hs.done d];have:(b.rows.flatMap λx=>[x])=b.rows:=by simp
  rw[this]
 ·have e:=mA (p:=λb:Tbl=>b.router==router) hi c;unfold bU;rw[e]
def zd(l:List Tbl)(router:Int)(h:eZ l):PC Tryz.prog:=pcO 48 [(.s 4),.k] [.sl 4 (l.map Tbl.v) false,.int router] (.a [(.a [.k,.k,.k,(.s 2)]),.k]) zc (bU l router) (λ_=>let ⟨I0,m0,I1,m1,h⟩:=KK l router h;⟨_,h,by kernel_rfl⟩) rfl (by kernel_rfl)
def vy(b:List Tbl)(ch:List Int)(x:Tbl):Tbl:=if(bU b x.router).2=true∧x.router∈ch then(bU b x.router).1 else x
def kG(a b:List Tbl)(ch:List Int):List Tbl:=a.map (vy b ch)
def JZ(old:List Tbl)(new:List Tbl)(changed:List Int)(t0:Int×List Tbl):NF:=⟨[(1,.k,.sl 4 (new.map Tbl.v) false),(2,.k,.sl 1 (changed.map AV.int) false),rV 7 0,(14,.k,.sl 4 (old.map Tbl.v) false),rI 15 ((old.map Tbl.v).length:Int),rI 16 t0.1],[vB 4 Tbl.v t0.2 (λ_=>rfl)]⟩
def JY(old:List Tbl)(new:List Tbl)(changed:List Int)(t0:Int×List Tbl)(x1:Tbl)(t1:Bool):NF:=⟨[(1,.k,.sl 4 (new.map Tbl.v) false),(2,.k,.sl 1 (changed.map AV.int) false),rV 7 0,rR 10 1,rR 12 2,(14,.k,.sl 4 (old.map Tbl.v) false),rI 15 ((old.map Tbl.v).length:Int),rI 16 t0.1,rB 41 t1],[vB 4 Tbl.v t0.2 (λ_=>rfl),.box (Tbl.v ((bU [x1] x1.router).1)),.box (Tbl.v ((bU new x1.router).1))]⟩
@[reducible] def DG:Nat→Type
 | 0=>Int×List Tbl
 | 1=>Bool
 | _=>Unit
def DH(r:List Tbl):AV:=.sl 4 (r.map Tbl.v) false
def DF(old:List Tbl)(new:List Tbl)(changed:List Int)(I0:(Int×List Tbl)→Prop)(m0:(Int×List Tbl)→Nat)(I1:Int×List Tbl→Tbl→Bool→Prop):Ax Tryz.prog DG ((List Tbl)):=
 (.cmdL (.nilT 7 4) (.loop 0 (JZ old new changed) I0 m0 (0,[]) [80] λ(t0:Int×List Tbl) b0 =>
(.br 17 (decide (t0.1<((old.map Tbl.v).length:Int))) (.elI 17 Tbl.v old t0.1 λx1 =>
(.req 145 (eZ [x1]) λh2 =>
(.callP (zd [x1] x1.router h2)
(.req 305 (eZ new) λh3 =>
(.callP (zd new x1.router h3)
(.join 1 (JY old new changed t0 x1) (λ(t1:Bool)=>I1 t0 x1 t1) (λb1=>(.br 449 ((bU new x1.router).2) (.callP (eU changed x1.router)
(.bk 1 b1 ((decide (x1.router∈changed)):Bool) [0,209,369]))
(.bk 1 b1 ((false):Bool) [0,209,369]))) λ(t1:Bool) =>
(.br 3 t1 (.apX 83 Tbl.v t0.2 [(bU new x1.router).1] (t0.2.length+1)
(.bk 0 b0 (W (t0.1+1),t0.2++[(bU new x1.router).1]) [83]))
(.apX 51 Tbl.v t0.2 [(bU [x1] x1.router).1] (t0.2.length+1)
(.bk 0 b0 (W (t0.1+1),t0.2++[(bU [x1] x1.router).1]) [51])))))))))
(.fz 0 Tbl.v t0.2 (λ_=>rfl) (.ret (t0.2))))))
theorem JW(x:Tbl):(bU [x] x.router).1=x:=by unfold bU;simp
theorem OY(a b:List Tbl)(ch:List Int)(h0:eZ a)(h1:eZ b):∃I0 m0 I1,(DF a b ch I0 m0 I1).vp DH (kG a b ch):=by
 refine⟨λs=>dY a (λx=>[vy b ch x]) s.1 s.2,λs=>a.length-s.1.toNat,λ_ x u=>u=decide ((bU b x.router).2=true∧x.router∈ch),?_⟩;dsimp only[DF,DG,Ax.vp,Ax.vc];simp only[vcU,rfU,u']
 refine⟨dY.zero,λs hs=>⟨λc=>⟨hs.idx,c,λx hx=>⟨⟨by simp,λz hz=>by rw[L'.mp hz];exact h0.2 x (bn hx)⟩,h1,⟨λe=>by simp[e],λe=>by simp[e]⟩,?_⟩⟩,λc=>?_⟩⟩
 ·rintro _ rfl;have hl:=hs.len (b:=1) λx _=>by simp
  have:=h0.1
  refine⟨λe=>⟨by omega,hs.step (by omega) hx ?_⟩,λe=>⟨by omega,hs.step (by omega) hx ?_⟩⟩
  ·unfold vy;rw[F' (G' e)]
  ·unfold vy;rw[E' (S' e),JW]
 ·rw[hs.done c];unfold kG;exact List.map_eq_flatMap.symm
def DI(old:List Tbl)(new:List Tbl)(changed:List Int)(h0:eZ old)(h1:eZ new):PC Tryz.prog:=pcO 15 [(.s 4),(.s 4),(.s 1)] [.sl 4 (old.map Tbl.v) false,.sl 4 (new.map Tbl.v) false,.sl 1 (changed.map AV.int) false] (.s 4) DH (kG old new changed) (λ_=>let ⟨I0,m0,I1,h⟩:=OY old new changed h0 h1;⟨_,h,by kernel_rfl⟩) rfl (by kernel_rfl)
def okI(l:List Tbl)(id:Int):Bool:=(List.range 8).all λk=>decide (gG l id (k:Nat)=[])
def iC(l:List Tbl):Bool:=(eP l==0) && l.all λb=>b.rows.all λr=>okI l r.id
theorem mo{l:List Tbl}{id:Int}:okI l id=true↔∀k:Nat,k<8→gG l id k=[]:=by
 unfold okI;simp only[ay',as',R']
structure tM (l:List Tbl) (M:List (Int×Bool)):Prop where
  nd:(ap M).Nodup
  ok:∀id,av M id false=true→okI l id=true
theorem tM.put{l:List Tbl}{M:List (Int×Bool)}(h:tM l M){id:Int}(hi:okI l id=true):tM l (ba M id true):=by
 have hn':=dw (x:=id) (v:=true) h.nd;refine⟨hn',λx hx=>?_⟩
 by_cases e:x=id
 ·rw[e];exact hi
 ·cases q:aT (ba M id true) x with
  | false=>rw[cd q]at hx;cases hx
  | true =>
   rcases(bM h.nd).mp (bF (z:=false) q)with q2|⟨q2,_⟩
   ·exact absurd (congrArg Prod.fst q2) e
   ·exact h.ok x (by rw[dC h.nd q2];exact hx)
def Ck(l:List Tbl):=okL [.sl 4 (l.map Tbl.v) false]
def IY(l:List Tbl)(t0:Int×(List (Int×Bool))):NF:=⟨[(0,.k,.sl 4 (l.map Tbl.v) false),(3,.k,.mref 0),(13,.k,.sl 4 (l.map Tbl.v) false),rI 14 ((l.map Tbl.v).length:Int),rI 15 t0.1],[.map none (t0.2.map λp=>MK.n p.1) (t0.2.map λp=>AV.bool p.2) (ae (λ_=>rfl) _)]⟩
def IX(l:List Tbl)(t0:Int×(List (Int×Bool)))(x1:Tbl)(t1:Int×(List (Int×Bool))):NF:=⟨[(0,.k,.sl 4 (l.map Tbl.v) false),(3,.k,.mref 0),(13,.k,.sl 4 (l.map Tbl.v) false),rI 14 ((l.map Tbl.v).length:Int),rI 15 t0.1,(20,.k,.sl 2 (x1.rows.map Rw.v) false),rI 21 ((x1.rows.map Rw.v).length:Int),rI 22 t1.1],[.map none (t1.2.map λp=>MK.n p.1) (t1.2.map λp=>AV.bool p.2) (ae (λ_=>rfl) _)]⟩
def IW(l:List Tbl)(t0:Int×(List (Int×Bool)))(x1:Tbl)(t1:Int×(List (Int×Bool)))(x2:Rw)(t2:Int):NF:=⟨[(0,.k,.sl 4 (l.map Tbl.v) false),(3,.k,.mref 0),rR 7 1,(13,.k,.sl 4 (l.map Tbl.v) false),rI 14 ((l.map Tbl.v).length:Int),rI 15 t0.1,(20,.k,.sl 2 (x1.rows.map Rw.v) false),rI 21 ((x1.rows.map Rw.v).length:Int),rI 22 t1.1,rI 33 t2],[.map none ((ba t1.2 x2.id true).map λp=>MK.n p.1) ((ba t1.2 x2.id true).map λp=>AV.bool p.2) (ae (λ_=>rfl) _),.box (Rw.v x2)]⟩
@[reducible] def Ci:Nat→Type
 | 0=>Int×(List (Int×Bool))
 | 1=>Int×(List (Int×Bool))
 | 2=>Int
 | _=>Unit
def Cj(r:Bool):AV:=.bool r
def Cg(l:List Tbl)(I0:(Int×(List (Int×Bool)))→Prop)(m0:(Int×(List (Int×Bool)))→Nat)(I1:Int×(List (Int×Bool))→Tbl→(Int×(List (Int×Bool)))→Prop)(m1:Int×(List (Int×Bool))→Tbl→(Int×(List (Int×Bool)))→Nat)(I2:Int×(List (Int×Bool))→Tbl→Int×(List (Int×Bool))→Rw→Int→Prop)(m2:Int×(List (Int×Bool))→Tbl→Int×(List (Int×Bool))→Rw→Int→Nat):Ax Tryz.prog Ci (Bool):=
 (.callP (G8 l)
(.br 64 ((eP l) != 0) (.ret (false))
(.loop 0 (IY l) I0 m0 (0,([]:List (Int×Bool))) [64] λ(t0:Int×(List (Int×Bool))) b0 =>
(.br 17 (decide (t0.1<((l.map Tbl.v).length:Int))) (.elI 17 Tbl.v l t0.1 λx1 =>
(.loop 1 (IX l t0 x1) (I1 t0 x1) (m1 t0 x1) (0,t0.2) [0] λ(t1:Int×(List (Int×Bool))) b1 =>
(.br 17 (decide (t1.1<((x1.rows.map Rw.v).length:Int))) (.elI 17 Rw.v x1.rows t1.1 λx2 =>
(.mn 129 (jP AV.bool t1.2 x2.id false) (.br 145 (av t1.2 x2.id false) (.bk 1 b1 (W (t1.1+1),t1.2) [0])
(.mn 193 (nk AV.bool t1.2 x2.id true) (.loop 2 (IW l t0 x1 t1 x2) (I2 t0 x1 t1 x2) (m2 t0 x1 t1 x2) ((0):Int) [0,49] λ(t2:Int) b2 =>
(.br 18 (decide (t2<8)) (.req 114 (eP l=0) λh3 =>
(.req 114 (0≤t2∧t2<8) λh4 =>
(.callP (Eh l x2.id t2 h3 h4)
(.br 162 (decide (0<(((gG l x2.id t2).map AV.int).length:Int))) (.ret (false))
(.bk 2 b2 ((W (t2+1)):Int) [0,1])))))
(.bk 1 b1 (W (t1.1+1),ba t1.2 x2.id true) [0])))))))
(.bk 0 b0 (W (t0.1+1),t1.2) [0]))))
(.ret (true))))))
theorem Oi(l:List Tbl)(ok:Ck l):∃I0 m0 I1 m1 I2 m2,(Cg l I0 m0 I1 m1 I2 m2).vp Cj (iC l):=by
 refine⟨λs=>aM l (λb=>∀r∈b.rows,okI l r.id=true) s.1∧tM l s.2,λs=>l.length-s.1.toNat,
  λ_ b s=>aM b.rows (λr=>okI l r.id=true) s.1∧tM l s.2,λ_ b s=>b.rows.length-s.1.toNat,
  λ_ b s r i=>∃k:Nat,i=k∧k≤8∧∀j:Nat,j<k→gG l r.id j=[],λ_ _ _ _ i=>8-i.toNat,?_⟩
 simp only[Ck,Tbl.v,okU,Blk.ok,az,u']at ok;dsimp only[Cg,Ci,Ax.vp,Ax.vc];simp only[vcU,rfU,u'];refine⟨λq=>by unfold iC;simp at q;simp[q],λq=>?_⟩;have q:eP l=0:=by simpa using q
 obtain⟨hl,hb,_⟩:=j4 q;have hr:iC l=l.all λb=>b.rows.all λr=>okI l r.id:=by unfold iC;rw[q];rfl
 rw[hr]
 refine⟨⟨aM.zero,aW',λid h=>by rw[cd (by unfold aT ap;simp)]at h;cases h⟩,λs hs=>⟨λc=>⟨hs.1.idx,c,λb hbk=>⟨⟨aM.zero,hs.2⟩,λu hu=>⟨λd=>⟨hu.1.idx,d,λr hrk=>⟨λe=>?_,λe=>⟨⟨0,rfl,by omega,λj hj=>by omega⟩,?_⟩⟩⟩,λd=>?_⟩⟩⟩,λc=>?_⟩⟩
 ·have:=(jl (hb b (bn hbk))).2.2.1;obtain⟨g1,g2⟩:=hu.1.step (by omega) hrk (hu.2.ok _ e);exact⟨⟨g1,hu.2⟩,g2⟩
 ·rintro _ ⟨k,rfl,hk,hj⟩
  refine⟨λe=>⟨q,⟨by omega,by omega⟩,λe1=>?_,λe1=>?_⟩,λe=>?_⟩
  ·rw[eq_comm,List.all_eq_false];refine⟨b,bn hbk,?_⟩;rw[Bool.not_eq_true,List.all_eq_false];refine⟨r,bn hrk,?_⟩;rw[mo];intro h;rw[h k (by omega)]at e1;simp at e1
  ·have w:W ((k:Int)+1)=((k+1:Nat):Int):=aQ (n:=8) (by omega) (by omega);rw[w];refine⟨⟨k+1,rfl,by omega,λj hj'=>?_⟩,by omega⟩
   by_cases e2:j=k
   ·subst e2;exact bh'.mp (by omega)
   ·exact hj j (by omega)
  ·have hok:okI l r.id=true:=mo.mpr λj hj'=>hj j (by omega);have:=(jl (hb b (bn hbk))).2.2.1;obtain⟨g1,g2⟩:=hu.1.step (by omega) hrk hok;exact⟨⟨g1,hu.2.put hok⟩,g2⟩
 ·obtain⟨g1,g2⟩:=hs.1.step (by omega) hbk (λr hr=>hu.1.done d r hr);exact⟨⟨g1,hu.2⟩,g2⟩
 ·rw[eq_comm,ay'];exact λb hb'=>ay'.mpr λr hr=>hs.1.done c b hb' r hr
def pq(l:List Tbl):PC Tryz.prog:=pcO 18 [(.s 4)] [.sl 4 (l.map Tbl.v) false] .k Cj (iC l) (λok=>let ⟨I0,m0,I1,m1,I2,m2,h⟩:=Oi l ok;⟨_,h,by kernel_rfl⟩) rfl (by kernel_rfl)
def apS(s:Bool×Lnk×List Lnk)(l:Lnk):Bool×Lnk×List Lnk:=
  if l.a=s.2.1.a∧l.b=s.2.1.b then(true,{ s.2.1 with w:=l.w },s.2.2++[{ s.2.1 with w:=l.w }])
  else if s.1=false∧bC s.2.1 l then(true,s.2.1,s.2.2++[s.2.1]++[l])
  else(s.1,s.2.1,s.2.2++[l])
def apF(s:Bool×Lnk×List Lnk):List Lnk:=if s.1=false then s.2.2++[s.2.1]else s.2.2
theorem HE{x:Lnk}:∀(l:List Lnk) (out:List Lnk),(∀y∈l,bC y x)→l.foldl apS (false,x,out)=(false,x,out++l)
 | [],out,_=>by simp
 | y::l,out,h=>by
  have hy:=h y (by simp);have e:apS (false,x,out) y=(false,x,out++[y]):=by
   unfold apS;rw[E' (by unfold bC at hy;simp only;omega),E' (by unfold bC at hy ⊢;simp only;omega)]
  rw[aN',e,HE l _ (λz hz=>h z (by simp[hz]))];simp
theorem wK{x:Lnk}:∀(l:List Lnk) (out:List Lnk),(∀y∈l,bC x y)→l.foldl apS (true,x,out)=(true,x,out++l)
 | [],out,_=>by simp
 | y::l,out,h=>by
  have hy:=h y (by simp);have e:apS (true,x,out) y=(true,x,out++[y]):=by
   unfold apS;rw[E' (by unfold bC at hy;simp only;omega),E' (by simp)]
  rw[aN',e,wK l _ (λz hz=>h z (by simp[hz]))];simp
theorem yI{x y z:Lnk}(h:bC x y)(k:bC y z):bC x z:=by unfold bC at *;omega
theorem oG{l:List Lnk}(h:l.Pairwise bC)(x:Lnk):(∀k y,k<aV l x→l[k]?=some y→bC y x)∧(∀k y,aV l x≤k→l[k]?=some y→¬bC y x)∧aV l x≤l.length:=by
 obtain⟨s1,s2,s3⟩:=kX (lt:=lw x) (l:=l) (λa b u v hab hu hv e=>by
  have h1:=fX h hab hu hv;unfold lw at e ⊢;exact decide_eq_true (yI h1 (G' e))) (f:=l.length) (i:=0) (j:=l.length) (by omega) (by omega) (X' _) (λk x hk=>by omega) (λk x hk hx=>by have:=am hx;omega)
 exact⟨λk y hk hy=>G' (s1 k y hk hy),λk y hk hy=>S' (s2 k y hk hy),s3⟩
theorem QV{l:List Lnk}(h:l.Pairwise bC)(x:Lnk):apF (l.foldl apS (false,x,[]))=if cN l x=true then l.set (aV l x) { x with w:=(l.getD (aV l x) ⟨0,0,0,0,0⟩).w } else bO l (aV l x) x:=by
  obtain⟨s1,s2,s3⟩:=oG h x;have hsplit:l=l.take (aV l x)++l.drop (aV l x):=(bV' _ _).symm;have htk:∀y∈l.take (aV l x),bC y x:=λy hy=>by
    obtain⟨j,hj,rfl⟩:=aD'.mp hy;exact s1 j _ (by omega) (f' (by omega))
  have hf:l.foldl apS (false,x,[])=(l.drop (aV l x)).foldl apS (false,x,l.take (aV l x)):=by
    conv=>lhs;rw[hsplit]
    rw[be',HE _ _ htk,bu']
  have hh:cN l x=(l[aV l x]?).any (je x):=rfl;rw[hf]
  by_cases hp:aV l x<l.length
  · have hz:l[aV l x]?=some l[aV l x]:=f' hp
    have hd:l.drop (aV l x)=l[aV l x]::l.drop (aV l x+1):=aP' hp;generalize l[aV l x]=z at hz hd;have hr:∀y∈l.drop (aV l x+1),bC z y:=λy hy=>by
      obtain⟨j,hj⟩:=ac'.mp hy;rw[aA']at hj;exact fX h (by omega) hz hj
    have hnz:=s2 _ z (X' _) hz;rw[hd,aN']
    by_cases e:z.a=x.a∧z.b=x.b
    · have hit:cN l x=true:=by rw[hh,hz];simp[je,e]
      have e1:apS (false,x,l.take (aV l x)) z=(true,{ x with w:=z.w },l.take (aV l x)++[{ x with w:=z.w }]):=by unfold apS;rw[F' e]
      rw[e1,wK _ _ (λy hy=>by have:=hr y hy;unfold bC at *;simp only;omega),F' hit];unfold apF;simp only[Bool.true_eq_false,if_false];rw[H',hz,bB',F' hp];simp
    · have hit:¬cN l x=true:=by rw[hh,hz];simp[je];exact λq=>λq2=>e ⟨q,q2⟩
      have hxz:bC x z:=by unfold bC at *;omega
      have e1:apS (false,x,l.take (aV l x)) z=(true,x,l.take (aV l x)++[x]++[z]):=by unfold apS;rw[E' e,F' ⟨rfl,hxz⟩]
      rw[e1,wK _ _ (λy hy=>yI hxz (hr y hy)),E' hit];unfold apF bO;simp only[Bool.true_eq_false,if_false];rw[hd];simp
  · have hp':aV l x=l.length:=by omega
    have hit:¬cN l x=true:=by rw[hh,af' (by omega)];simp
    rw[E' hit,bo' (by omega)];unfold apF bO;rw[bo' (show l.length≤aV l x by omega)];simp
theorem Ey{y y':Lnk}(ha:y.a=y'.a)(hb:y.b=y'.b):lw y=lw y'∧je y=je y':=by
 constructor
 ·funext x;exact decide_eq_decide.mpr (by unfold bC;rw[ha,hb])
 ·funext x;exact decide_eq_decide.mpr (by rw[ha,hb])
theorem kK(c:Chg):(bD c).a=(o0 c.a c.b).a∧(bD c).b=(o0 c.a c.b).b:=by
 unfold bD o0 eA dP
 by_cases h:c.b<c.a
 ·rw[F' h];simp only;(repeat' split)<;>omega
 ·rw[E' h];simp only;(repeat' split)<;>omega
theorem KF{t:Tpl}(hc:aC t=0)(c:Chg):cN t.ls (bD c)=(dG t c.a c.b).2:=by
 rw[←(yc hc c.a c.b).1];unfold cN;rw[(Ey (kK c).1 (kK c).2).1,(Ey (kK c).1 (kK c).2).2]
theorem Ig{t:Tpl}(hc:aC t=0)(c:Chg)(hit:cN t.ls (bD c)=true):Ah t ⟨[⟨c.a,c.b⟩],[]⟩=⟨t.rs,fR t.ls (aV t.ls (bD c))⟩:=by
 have hO:=ax hc;have h:=hO.ord;obtain⟨s1,s2,s3⟩:=oG h (bD c);have hh:cN t.ls (bD c)=(t.ls[aV t.ls (bD c)]?).any (je (bD c)):=rfl;have hp:aV t.ls (bD c)<t.ls.length:=by
  refine U' λq=>?_;rw[hh,af' (by omega)]at hit;simp at hit
 have hz:t.ls[aV t.ls (bD c)]?=some t.ls[aV t.ls (bD c)]:=f' hp;have hd:t.ls.drop (aV t.ls (bD c))=t.ls[aV t.ls (bD c)]::t.ls.drop (aV t.ls (bD c)+1):=aP' hp;have hsplit:t.ls=t.ls.take (aV t.ls (bD c))++t.ls.drop (aV t.ls (bD c)):=(bV' _ _).symm;generalize t.ls[aV t.ls (bD c)]=z at hz hd;have hzk:z.a=(bD c).a∧z.b=(bD c).b:=by rw[hh,hz]at hit;simpa[je]using hit
 have hg:∀y∈t.ls,(!gone ⟨[⟨c.a,c.b⟩],[]⟩ y)=!(decide (y.a=z.a∧y.b=z.b)):=λy hy=>by
  have hlt:=hO.lt y hy;have hzl:=hO.lt z (J' hz)
  congr 1
  unfold gone nmd;rw[ag',R',hzk.1,hzk.2];unfold bD;simp
  by_cases e:c.b<c.a
  ·rw[F' e];simp only;omega
  ·rw[E' e];simp only;unfold bD at hzk;rw[E' e]at hzk;simp only at hzk;omega
 unfold Ah;rw[F' hc]
 congr 1
 ·simp
 ·rw[List.filter_congr hg]
  conv=>lhs;rw[hsplit,hd]
  rw[cf',bZ',E' (by simp)];unfold fR
  congr 1
  ·refine List.filter_eq_self.mpr λy hy=>?_;obtain⟨j,hj,rfl⟩:=aD'.mp hy;have:=fX h (show j<aV t.ls (bD c) by omega) (f' (by omega)) hz;simp only[bq',decide_eq_false_iff_not];unfold bC at this;omega
  ·refine List.filter_eq_self.mpr λy hy=>?_;obtain⟨j,hj⟩:=ac'.mp hy;rw[aA']at hj;have:=fX h (show aV t.ls (bD c)<aV t.ls (bD c)+1+j by omega) hz hj;simp only[bq',decide_eq_false_iff_not];unfold bC at this;omega
set_option pp.deepTerms true
set_option pp.maxSteps 100000
def HD(t:Tpl)(c:Chg):=okL [Tpl.v t,Chg.v c]
def MI(t:Tpl)(c:Chg)(t0:Bool):NF:=⟨[rR 2 0,rR 3 1,rR 4 2,rB 29 t0],[.box (Tpl.v t),.box (Chg.v c),.box (.agg [.sl 0 [] true,.sl 0 [] true])]⟩
def MH(t:Tpl)(c:Chg)(t1:Bool):NF:=⟨[rR 2 0,rR 3 1,rR 4 2,rB 6 t1],[.box (Tpl.v t),.box (Chg.v c),.box (.agg [.sl 0 [] true,.sl 0 [] true])]⟩
def MG(t:Tpl)(c:Chg)(t2:Bool):NF:=⟨[rR 2 0,rR 3 1,rR 4 2,rB 6 (c.cb==0),rB 58 t2],[.box (Tpl.v t),.box (Chg.v c),.box (.agg [.sl 0 [] true,.sl 0 [] true])]⟩
def MF(t:Tpl)(c:Chg)(t3:Bool):NF:=⟨[rR 2 0,rR 3 1,rR 4 2,rB 6 false,rB 58 t3],[.box (Tpl.v t),.box (Chg.v c),.box (.agg [.sl 0 [] true,.sl 0 [] true])]⟩
def ME(t:Tpl)(c:Chg)(t1:Bool)(t4:Bool):NF:=⟨[rR 2 0,rR 3 1,rR 4 2,rB 6 t1,rB 8 ((dG t c.a c.b).2),rB 73 t4],[.box (Tpl.v t),.box (Chg.v c),.box (.agg [.sl 0 [] true,.sl 0 [] true])]⟩
def MD(t:Tpl)(c:Chg)(t5:Lnk):NF:=⟨[rR 2 0,rR 4 1,rB 8 ((dG t c.a c.b).2),rR 9 2],[.box (Tpl.v t),.box (.agg [.sl 0 [] true,.sl 0 [] true]),.box (Lnk.v t5)]⟩
def MC(t:Tpl)(t5:Lnk)(t6:Bool):NF:=⟨[rR 2 0,rR 4 1,rR 9 2,rB 115 t6],[.box (Tpl.v t),.box (.agg [.sl 0 [] true,.sl 0 [] true]),.box (Lnk.v t5)]⟩
def MB(t:Tpl)(t7:Bool×Int×Lnk×List Lnk):NF:=⟨[rR 2 0,rR 4 1,rR 9 2,rR 10 3,rB 11 t7.1,rI 12 t7.2.1],[.box (Tpl.v t),.box (.agg [.sl 0 [] true,.sl 0 [] true]),.box (Lnk.v t7.2.2.1),.box (.agg [.sl 2 (t.rs.map Rtr.v) false,.vec 4]),vB 5 Lnk.v t7.2.2.2 (λ_=>rfl)]⟩
def MA(t:Tpl)(t7:Bool×Int×Lnk×List Lnk)(x1:Lnk)(t8:Bool):NF:=⟨[rR 2 0,rR 4 1,rR 9 2,rR 10 3,rB 11 t7.1,rI 12 t7.2.1,rR 13 5,rB 143 t8],[.box (Tpl.v t),.box (.agg [.sl 0 [] true,.sl 0 [] true]),.box (Lnk.v t7.2.2.1),.box (.agg [.sl 2 (t.rs.map Rtr.v) false,.vec 4]),vB 5 Lnk.v t7.2.2.2 (λ_=>rfl),.box (Lnk.v x1)]⟩
def M9(t:Tpl)(t7:Bool×Int×Lnk×List Lnk)(x1:Lnk)(t9:Bool):NF:=⟨[rR 2 0,rR 4 1,rR 9 2,rR 10 3,rB 11 t7.1,rI 12 t7.2.1,rR 13 5,rB 175 t9],[.box (Tpl.v t),.box (.agg [.sl 0 [] true,.sl 0 [] true]),.box (Lnk.v t7.2.2.1),.box (.agg [.sl 2 (t.rs.map Rtr.v) false,.vec 4]),vB 5 Lnk.v t7.2.2.2 (λ_=>rfl),.box (Lnk.v x1)]⟩
@[reducible] def H9:Nat→Type
 | 0=>Bool
 | 1=>Bool
 | 2=>Bool
 | 3=>Bool
 | 4=>Bool
 | 5=>Lnk
 | 6=>Bool
 | 7=>Bool×Int×Lnk×List Lnk
 | 8=>Bool
 | 9=>Bool
 | _=>Unit
def HA(r:Tpl×Int):AV:=.tup [Tpl.v r.1,.int r.2]
def H8(t:Tpl)(c:Chg)(I0:Bool→Prop)(I1:Bool→Bool→Prop)(I2:Bool→Bool→Prop)(I3:Bool→Bool→Prop)(I4:Bool→Bool→Bool→Prop)(I5:Bool→Bool→Bool→Lnk→Prop)(I6:Bool→Bool→Bool→Lnk→Bool→Prop)(I7:Bool→Bool→Bool→Lnk→Bool→(Bool×Int×Lnk×List Lnk)→Prop)(m7:Bool→Bool→Bool→Lnk→Bool→(Bool×Int×Lnk×List Lnk)→Nat)(I8:Bool→Bool→Bool→Lnk→Bool→Bool×Int×Lnk×List Lnk→Lnk→Bool→Prop)(I9:Bool→Bool→Bool→Lnk→Bool→Bool×Int×Lnk×List Lnk→Lnk→Bool→Bool→Prop):Ax Tryz.prog H9 (Tpl×Int):=
 (.callP (lD t)
(.br 112 ((aC t) != 0) (.ret ((⟨[],[]⟩:Tpl),1))
(.pass (.join 0 (MI t c) (λ(t0:Bool)=>I0 t0) (λb0=>(.callP (nJ t c.a)
(.br 208 (!(aJ t c.a)) (.bk 0 b0 ((true):Bool) [0,16,32])
(.callP (nJ t c.b)
(.bk 0 b0 ((!(aJ t c.b)):Bool) [0,16,32]))))) λ(t0:Bool) =>
(.br 3 t0 (.ret ((⟨[],[]⟩:Tpl),4))
(.br 83 (c.a==c.b) (.ret ((⟨[],[]⟩:Tpl),8))
(.join2 1 (MH t c) (λ(t1:Bool)=>I1 t0 t1) (λb1=>(.br 147 (c.ca==0) (.join 2 (MG t c) (λ(t2:Bool)=>I2 t0 t2) (λb2=>(.br 275 (!(c.cb==0)) (.callP (lC c.ca)
(.br 355 (!(fv c.ca)) (.bk 2 b2 ((true):Bool) [0,1,2])
(.callP (lC c.cb)
(.bk 2 b2 ((!(fv c.cb)):Bool) [0,1,2]))))
(.bk 2 b2 ((false):Bool) [0,1,2]))) λ(t2:Bool) =>
(.br 3 t2 (.ret ((⟨[],[]⟩:Tpl),2))
(.bk 1 b1 ((c.cb==0):Bool) [0,1,2])))
(.join 3 (MF t c) (λ(t3:Bool)=>I3 t0 t3) (λb3=>(.callP (lC c.ca)
(.br 355 (!(fv c.ca)) (.bk 3 b3 ((true):Bool) [0,1,2])
(.callP (lC c.cb)
(.bk 3 b3 ((!(fv c.cb)):Bool) [0,1,2]))))) λ(t3:Bool) =>
(.br 3 t3 (.ret ((⟨[],[]⟩:Tpl),2))
(.bk 1 b1 ((false):Bool) [0,1,2]))))) λ(t1:Bool) =>
(.callP (uE t c.a c.b)
(.pass (.join 4 (ME t c t1) (λ(t4:Bool)=>I4 t0 t1 t4) (λb4=>(.br 211 t1 (.bk 4 b4 ((!((dG t c.a c.b).2)):Bool) [0,1,2])
(.bk 4 b4 ((false):Bool) [0,1,2]))) λ(t4:Bool) =>
(.br 3 t4 (.ret ((⟨[],[]⟩:Tpl),9))
(.br 19 t1 (.callP (NJ t (⟨[(⟨c.a,c.b⟩:Hop)],[]⟩:Flr))
(.ret (Ah t (⟨[(⟨c.a,c.b⟩:Hop)],[]⟩:Flr),0)))
(.pass (.join 5 (MD t c) (λ(t5:Lnk)=>I5 t0 t1 t4 t5) (λb5=>(.br 275 (decide (c.b<c.a)) (.bk 5 b5 (((⟨c.b,c.a,c.cb,c.ca,0⟩:Lnk)):Lnk) [0,2,163])
(.bk 5 b5 (((⟨c.a,c.b,c.ca,c.cb,0⟩:Lnk)):Lnk) [0,2,163]))) λ(t5:Lnk) =>
(.pass (.join 6 (MC t t5) (λ(t6:Bool)=>I6 t0 t1 t4 t5 t6) (λb6=>(.br 51 (!((dG t c.a c.b).2)) (.bk 6 b6 ((((t.ls.map Lnk.v).length:Int)==60):Bool) [0,1,2])
(.bk 6 b6 ((false):Bool) [0,1,2]))) λ(t6:Bool) =>
(.br 3 t6 (.ret ((⟨[],[]⟩:Tpl),3))
(.cmdL (.nilB 51 1 5) (.loop 7 (MB t) (I7 t0 t1 t4 t5 t6) (m7 t0 t1 t4 t5 t6) (false,0,t5,[]) [0,1,2,51,115] λ(t7:Bool×Int×Lnk×List Lnk) b7 =>
(.br 85 (decide (t7.2.1<((t.ls.map Lnk.v).length:Int))) (.elI 133 Lnk.v t.ls t7.2.1 λx1 =>
(.pass (.join 8 (MA t t7 x1) (λ(t8:Bool)=>I8 t0 t1 t4 t5 t6 t7 x1 t8) (λb8=>(.br 293 (x1.a==t7.2.2.1.a) (.bk 8 b8 ((x1.b==t7.2.2.1.b):Bool) [0,1,2,3,4,165])
(.bk 8 b8 ((false):Bool) [0,1,2,3,4,165]))) λ(t8:Bool) =>
(.br 6 t8 (.apX 134 Lnk.v t7.2.2.2 [(⟨t7.2.2.1.a,t7.2.2.1.b,t7.2.2.1.ca,t7.2.2.1.cb,x1.w⟩:Lnk)] (t7.2.2.2.length+1)
(.bk 7 b7 (true,W (t7.2.1+1),(⟨t7.2.2.1.a,t7.2.2.1.b,t7.2.2.1.ca,t7.2.2.1.cb,x1.w⟩:Lnk),t7.2.2.2++[(⟨t7.2.2.1.a,t7.2.2.1.b,t7.2.2.1.ca,t7.2.2.1.cb,x1.w⟩:Lnk)]) [0,1,2,3,134]))
(.pass (.join 9 (M9 t t7 x1) (λ(t9:Bool)=>I9 t0 t1 t4 t5 t6 t7 x1 t8 t9) (λb9=>(.br 54 (!t7.1) (.br 150 (decide (t7.2.2.1.a<x1.a)) (.bk 9 b9 ((true):Bool) [0,1,2,3,4,5])
(.br 246 (t7.2.2.1.a==x1.a) (.bk 9 b9 ((decide (t7.2.2.1.b<x1.b)):Bool) [0,1,2,3,4,5])
(.bk 9 b9 ((false):Bool) [0,1,2,3,4,5])))
(.bk 9 b9 ((false):Bool) [0,1,2,3,4,5]))) λ(t9:Bool) =>
(.br 6 t9 (.apX 70 Lnk.v t7.2.2.2 [t7.2.2.1] (t7.2.2.2.length+1)
(.apX 198 Lnk.v (t7.2.2.2++[t7.2.2.1]) [x1] ((t7.2.2.2++[t7.2.2.1]).length+1)
(.bk 7 b7 (true,W (t7.2.1+1),t7.2.2.1,(t7.2.2.2++[t7.2.2.1])++[x1]) [0,1,2,3,198])))
(.apX 70 Lnk.v t7.2.2.2 [x1] (t7.2.2.2.length+1)
(.bk 7 b7 (t7.1,W (t7.2.1+1),t7.2.2.1,t7.2.2.2++[x1]) [0,1,2,3,70])))))))))
(.br 117 (!t7.1) (.apX 181 Lnk.v t7.2.2.2 [t7.2.2.1] (t7.2.2.2.length+1)
(.fz 181 Lnk.v (t7.2.2.2++[t7.2.2.1]) (λ_=>rfl) (.ret ((⟨t.rs,t7.2.2.2++[t7.2.2.1]⟩:Tpl),0))))
(.fz 4 Lnk.v t7.2.2.2 (λ_=>rfl) (.ret ((⟨t.rs,t7.2.2.2⟩:Tpl),0))))))))))))))))))))))))
abbrev uz(c:Chg):Prop:=fO c=false∧(fv c.ca=false∨fv c.cb=false)
theorem zV:∀(l:List Lnk) (s:Bool×Lnk×List Lnk),(l.foldl apS s).2.2.length≤s.2.2.length+2 * l.length
 | [],s=>by simp
 | y::l,s=>by
  have h1:=zV l (apS s y);have h2:(apS s y).2.2.length≤s.2.2.length+2:=by
   unfold apS;split
   ·simp
   ·split<;>simp
  rw[aN',Y'];omega
theorem QT(t:Tpl)(c:Chg)(ok:HD t c):∃I0 I1 I2 I3 I4 I5 I6 I7 m7 I8 I9,(H8 t c I0 I1 I2 I3 I4 I5 I6 I7 m7 I8 I9).vp HA (ce t c):=by
 refine⟨λb=>b=decide (hs5 t c.a=false∨hs5 t c.b=false),λ_ b=>b=fO c∧¬uz c,λ_ b=>b=decide (uz c),λ_ b=>b=decide (uz c),
  λ_ g b=>(g=fO c∧¬uz c)∧b=decide (fO c=true∧cN t.ls (bD c)=false),λ_ g _ x=>x=bD c,λ_ _ _ x b=>b=decide (cN t.ls (bD c)=false∧t.ls.length=60),
  λ_ _ _ _ _ s=>∃k:Nat,s.2.1=k∧k≤t.ls.length∧(t.ls.take k).foldl apS (false,bD c,[])=(s.1,s.2.2.1,s.2.2.2),λ_ _ _ _ _ s=>t.ls.length-s.2.1.toNat,
  λ_ _ _ _ _ s x b=>b=decide (x.a=s.2.2.1.a∧x.b=s.2.2.1.b),λ_ _ _ _ _ s x _ b=>b=decide (s.1=false∧bC s.2.2.1 x),?_⟩
 simp only[HD,Chg.v,Tpl.v,okU,Blk.ok,az,u']at ok;dsimp only[H8,H9,Ax.vp,Ax.vc];simp only[vcU,rfU,u'];unfold ce;refine⟨λq=>by rw[F' (by simpa using q)],λq=>?_⟩;have q:aC t=0:=by simpa using q
 have hh:∀r,aJ t r=hs5 t r:=λr=>by unfold hs5;rw[q];rfl
 have hl2:=(cJ q).2;have hO:=ax q;rw[E' (by simpa using q),hh,hh,←KF q c];refine⟨⟨λd=>by rw[eq_comm,R'];exact .inl (by simpa using d),λd=>by rw[ag',R'];simp at d ⊢;simp[d]⟩,?_⟩;rintro _ rfl;refine⟨λd=>by rw[F' (G' d)],λd=>?_⟩;rw[E' (S' d)];refine⟨λd=>by rw[F' (eq_of_beq d)],λd=>?_⟩;rw[E' (by simpa using d)]
 refine⟨⟨λe=>⟨⟨λe2=>⟨λg=>?_,λg=>?_⟩,λe2=>?_⟩,?_⟩,λe=>⟨⟨λg=>?_,λg=>?_⟩,?_⟩⟩,?_⟩
 ·rw[eq_comm,R'];exact⟨by unfold fO;simp at e2;simp[e2],.inl (by simpa using g)⟩
 ·rw[ag',R'];unfold uz fO;simp at e2 g ⊢;simp[e2,g]
 ·rw[eq_comm,decide_eq_false_iff_not];unfold uz fO;simp at e e2 ⊢;simp[e,e2]
 ·rintro _ rfl;exact⟨λg=>by rw[F' (G' g)],λg=>⟨by unfold fO;rw[e];rfl,S' g⟩⟩
 ·rw[eq_comm,R'];exact⟨by unfold fO;rw[e];rfl,.inl (by simpa using g)⟩
 ·rw[ag',R'];unfold uz fO;simp at e g ⊢;simp[e,g]
 ·rintro _ rfl;exact⟨λg=>by rw[F' (G' g)],λg=>⟨by unfold fO;rw[e];rfl,S' g⟩⟩
 rintro _ ⟨rfl,hr⟩;rw[E' hr];refine⟨⟨λe=>⟨⟨rfl,hr⟩,by rw[ag',R'];simp[e]⟩,λe=>⟨⟨rfl,hr⟩,by rw[eq_comm,decide_eq_false_iff_not];simp[e]⟩⟩,?_⟩;rintro _ ⟨_,rfl⟩;refine⟨λg=>by rw[F' (G' g)],λg9=>?_⟩;have g9:=S' g9;rw[E' g9]
 refine⟨λe=>?_,λe=>⟨⟨λg=>by unfold bD;rw[F' g],λg=>by unfold bD;rw[E' g]⟩,?_⟩⟩
 ·have hit:cN t.ls (bD c)=true:=by simpa[e]using g9
  rw[E' (by simp[hit]),F' e,Ig q c hit]
 rintro _ rfl
 refine⟨⟨λg=>?_,λg=>?_⟩,?_⟩
 ·rw[ag',R',aV'];simp at g;simp[g];omega
 ·rw[eq_comm,decide_eq_false_iff_not];simp at g;simp[g]
 rintro _ rfl;refine⟨λg=>by rw[F' (G' g)],λg=>?_⟩;rw[E' (S' g),E' (by simp[e])];refine⟨⟨0,rfl,by omega,rfl⟩,?_⟩;rintro⟨dn,_,x,out⟩ ⟨k,rfl,hk,hF⟩;simp only at hF ⊢;have hlen:=zV (t.ls.take k) (false,bD c,[]);rw[hF,ar']at hlen;simp only[al']at hlen
 refine⟨λg=>⟨by omega,g,λy hy=>?_⟩,λg=>?_⟩
 ·rw[Int.toNat_natCast]at hy;have hs:(t.ls.take (k+1)).foldl apS (false,bD c,[])=apS (dn,x,out) y:=by rw[aB hy,be',hF];rfl
  have w:W ((k:Int)+1)=((k+1:Nat):Int):=aQ (n:=t.ls.length) (by omega) (by omega);rw[w];refine⟨⟨λa=>by rw[ag',aV',R'];simp at a;simp[a],λa=>by simp at a;simp[a]⟩,?_⟩;rintro _ rfl
  refine⟨λa=>⟨by omega,⟨k+1,rfl,by omega,?_⟩,by omega⟩,λa=>⟨⟨λb=>⟨λg1=>?_,λg1=>⟨λg2=>?_,λg2=>?_⟩⟩,λb=>?_⟩,?_⟩⟩
  ·rw[hs];unfold apS;rw[F' (G' a)]
  ·rw[eq_comm,R'];exact⟨by simpa using b,.inl g1⟩
  ·rw[decide_eq_decide];simp at b g2;unfold bC;simp[b,g2]
  ·rw[eq_comm,decide_eq_false_iff_not];simp at g2;unfold bC;rintro⟨_,h|h⟩<;>omega
  ·rw[eq_comm,decide_eq_false_iff_not];simp at b;simp[b]
  rintro _ rfl;have a':=S' a
  refine⟨λb=>⟨by omega,by simp;omega,⟨k+1,rfl,by omega,?_⟩,by omega⟩,λb=>⟨by omega,⟨k+1,rfl,by omega,?_⟩,by omega⟩⟩
  ·rw[hs];unfold apS;rw[E' a',F' (G' b)]
  ·rw[hs];unfold apS;rw[E' a',E' (S' b)]
 ·have hfin:=QV hO.ord (bD c);rw[V' (by omega)]at hF;rw[hF]at hfin;unfold apF at hfin
  refine⟨λa=>⟨by omega,?_⟩,λa=>?_⟩
  ·have a:dn=false:=by simpa using a
   subst a;simp only[if_true]at hfin;rw[hfin];split<;>rfl
  ·have a:dn=true:=by simpa using a
   subst a;simp only[Bool.true_eq_false,if_false]at hfin;rw[hfin];split<;>rfl
def QU(t:Tpl)(c:Chg):PC Tryz.prog:=pcO 8 [(.a [(.s 2),(.s 5)]),.k] [Tpl.v t,Chg.v c] (.a [(.a [(.s 2),(.s 5)]),.k]) HA (ce t c) (λok=>let ⟨I0,I1,I2,I3,I4,I5,I6,I7,m7,I8,I9,h⟩:=QT t c ok;⟨_,h,by kernel_rfl⟩) rfl (by kernel_rfl)
def use6(t:Tpl)(f g:Int)(h:Hop):Bool:=(bV t h.a h.b).2 && ((aX t f g).2 && ((aX t f h.a).2 && ((aX t h.b g).2 && (W (W ((aX t f h.a).1+(bV t h.a h.b).1)+(aX t h.b g).1)==(aX t f g).1))))
def bhA(t:Tpl)(h:Hop)(x y:Int)(r:Rtr):Bool:=use6 t x r.id h && (decide (y∈nex6 t x r.id) && use6 t y r.id h)
def bhO(t:Tpl)(x y:Int)(h:Hop):Bool:=(x != h.a) && t.rs.any (bhA t h x y)
def bhd18(t:Tpl)(l:List Hop)(x y:Int):Bool:=l.any (bhO t x y)
structure Gov (G O:Tpl) (ds:List Hop):Prop where
  hG:aC G=0
  hO:aC O=0
  rs:O.rs=G.rs
  le:∀{u v k},fA O u v k→∃k',k'≤k∧fA G u v k'
  eq:∀{u v k},fA G u v k→fA O u v k∨⟨u,v⟩∈ds
section
variable {G O : Tpl} {ds : List Hop} (g : Gov G O ds)
include g
open Classical in
end
theorem K5{l:List Int}(h:l.Pairwise (·<·))(n:Int):(me l n).Pairwise (·<·)∧∀y,y∈me l n↔y=n∨y∈l:=by
 have hlo:∀(j:Nat) x,j<gn l n→l[j]?=some x→x<n:=λj x hj hx=>by
  have:=List.not_of_lt_findIdx hj;rw[f' (am hx)]at hx;have e:=Z' hx;rw[←e];simpa using this
 have hhi:∀(j:Nat) x,gn l n≤j→l[j]?=some x→n≤x:=λj x hj hx=>by
  have hl:=am hx;have hp:gn l n<l.length:=by omega
  have h1:(λx=>!decide (x<n)) (l[gn l n]'hp)=true:=List.findIdx_getElem (w:=hp);have h2:n≤l[gn l n]'hp:=by simp at h1;exact h1
  rw[f' hl]at hx;have e:=Z' hx
  by_cases q:gn l n=j
  ·subst q;rw[←e];exact h2
  ·have:=(at'.mp h) (gn l n) j hp hl (by omega);rw[e]at this;omega
 have hsplit:l=l.take (gn l n)++l.drop (gn l n):=(bV' _ _).symm;have htk:∀y∈l.take (gn l n),y<n:=λy hy=>by
  obtain⟨j,hj,rfl⟩:=aD'.mp hy;exact hlo j _ (by omega) (f' (by omega))
 have hdr:∀y∈l.drop (gn l n),n≤y:=λy hy=>by
  obtain⟨j,hj⟩:=ac'.mp hy;rw[aA']at hj;exact hhi _ y (by omega) hj
 unfold me
 split
 ·rename_i e;refine⟨h,λy=>⟨.inr,?_⟩⟩
  rintro(rfl|hy)
  ·exact J' e
  ·exact hy
 ·rename_i e;have hne:∀y∈l.drop (gn l n),n<y:=λy hy=>by
   obtain⟨j,hj⟩:=ac'.mp hy;rw[aA']at hj;have h1:=hhi _ y (by omega) hj
   by_cases q:y=n
   ·subst q;have hl:=am hj;have hp:gn l y<l.length:=by omega
    have h2:=hhi (gn l y) _ (X' _) (f' hp)
    by_cases q2:j=0
    ·subst q2;exact absurd hj e
    ·have h3:=(at'.mp h) (gn l y) (gn l y+j) hp hl (by omega);rw[f' hl]at hj;rw[Z' hj]at h3;omega
   ·omega
  unfold bO;rw[hsplit]at h;rw[List.pairwise_append]at h
  constructor
  ·rw[bl',List.pairwise_append]
   refine⟨h.1,?_,λa ha b hb=>?_⟩
   ·rw[List.singleton_append,ce'];exact⟨hne,h.2.1⟩
   ·have:=htk a ha
    rcases ab'.mp hb with hb|hb
    ·rw[L'.mp hb];exact this
    ·have:=hne b hb;omega
  ·intro y;simp only[ab',L']
   conv=>rhs;rw[hsplit,ab']
   constructor
   ·rintro((q|q)|q)
    ·exact .inr (.inl q)
    ·exact .inl q
    ·exact .inr (.inr q)
   ·rintro(q|q|q)
    ·exact .inl (.inr q)
    ·exact .inl (.inl q)
    ·exact .inr q
set_option pp.deepTerms true
set_option pp.maxSteps 100000
def isB(g:Tpl)(ds:List Hop)(x y:Int):Bool:=(dG g x y).2 && bhd18 g ds x y
structure Rh (rs:List Rtr) (g:Tpl) (ds:List Hop) (a b:Nat) (M:List Bool):Prop where
  ln:M.length=576
  el:∀p q x y,rs[p]?=some x→rs[q]?=some y→(p<a∨p=a∧q<b)→M[p * 24+q]?=some (isB g ds x.id y.id)
theorem Rh.set{rs:List Rtr}{g:Tpl}{ds:List Hop}{a b:Nat}{M:List Bool}(h:Rh rs g ds a b M)(hn:rs.length≤24){x y:Rtr}(hx:rs[a]?=some x)(hy:rs[b]?=some y){v:Bool}(hv:v=isB g ds x.id y.id):Rh rs g ds a (b+1) (M.set (a * 24+b) v):=by
 refine⟨by rw[aX'];exact h.ln,λp q x' y' hx' hy' hpq=>?_⟩;have:=am hx;have:=am hy;have:=am hx';have:=am hy'
 rw[ak']
 by_cases e:a * 24+b=p * 24+q
 ·have e1:a=p:=by omega
  have e2:b=q:=by omega
  subst e1;subst e2;rw[hx]at hx';cases hx';rw[hy]at hy';cases hy';rw[F' rfl,F' (by rw[h.ln];omega),hv]
 ·rw[E' e];exact h.el p q x' y' hx' hy' (by omega)
def lE(L:List Int)(p:Nat)(k:Int):Chg×Nat:=
 (⟨W (1+Mod (al L p) k),W (1+Mod (al L (ab L p)) k),rng L (ab L (ab L p)) 1 6,rng L (ab L (ab L (ab L p))) 1 6⟩,ab L (ab L (ab L (ab L p))))
def Q8(L:List Int)(p:Nat)(l:Lnk):Chg×Nat:=
 if Mod (al L p) 6=0 then(⟨l.a,l.b,0,0⟩,ab L p)
 else if Mod (al L p) 6=1 then(⟨l.a,l.b,W (l.ca+rng L (ab L p) 1 4),l.cb⟩,ab L (ab L p))
 else if Mod (al L p) 6=2 then(⟨l.a,l.b,W (l.ca+rng L (ab L p) 0 4),W (l.cb+rng L (ab L (ab L p)) 0 4)⟩,ab L (ab L (ab L p)))
 else if Mod (al L p) 6=3 then(⟨l.a,l.b,rng L (ab L p) 1 l.ca,rng L (ab L (ab L p)) 1 l.cb⟩,ab L (ab L (ab L p)))
 else if Mod (al L p) 6=4 then(⟨l.b,l.a,W (l.cb+Mod (al L (ab L p)) 3),W (l.ca+Mod (al L (ab L (ab L p))) 3)⟩,ab L (ab L (ab L p)))
 else(⟨l.a,l.b,l.ca,1⟩,ab L p)
def o7(L:List Int)(p:Nat)(g:Tpl):Chg×Nat:=
 if 0<g.ls.length then
  (if 0<Mod (al L (lE L p g.rs.length).2) 4 then
   (match g.ls[(Mod (al L (ab L (lE L p g.rs.length).2)) g.ls.length).toNat]? with
    | some l=>Q8 L (ab L (ab L (lE L p g.rs.length).2)) l
    | none=>((lE L p g.rs.length).1,0))
   else((lE L p g.rs.length).1,ab L (lE L p g.rs.length).2))
 else lE L p g.rs.length
def chgN(L:List Int)(p:Nat)(c:Chg):Chg×Nat:=
 if Mod (al L p) 4=0 then(⟨Mod (al L (ab L p)) 9,c.b,c.ca,c.cb⟩,ab L (ab L p))
 else if Mod (al L p) 4=1 then(⟨c.a,c.a,c.ca,c.cb⟩,ab L p)
 else if Mod (al L p) 4=2 then(⟨c.a,c.b,eJ L (ab L p),c.cb⟩,ab L (ab L p))
 else(⟨c.a,c.b,0,Mod (al L (ab L p)) 2⟩,ab L (ab L p))
def iI(L:List Int)(p:Nat)(g:Tpl)(n:Int):Chg×Nat:=
 if 0<n then
  (if dl L (o7 L p g).2 n=true then chgN L (ab L (o7 L p g).2) (o7 L p g).1 else((o7 L p g).1,ab L (o7 L p g).2))
 else o7 L p g
def GL(L:List Int)(p:Nat)(g:Tpl)(n:Int):=okL [.ref 0 0,Tpl.v g,.int n]∧(.box (.agg [.sl 1 (L.map AV.int) false,.int p]):Blk).ok
def Mc(L:List Int)(n:Int)(t0:Chg×Nat):NF:=⟨[rR 0 0,rI 2 n,rR 6 1,rR 8 2],[.box (.agg [.sl 1 (L.map AV.int) false,.int t0.2]),.box (Chg.v (⟨0,0,0,0⟩:Chg)),.box (Chg.v t0.1)]⟩
def Mb(L:List Int)(p:Nat)(g:Tpl)(n:Int)(t1:Bool×Nat):NF:=⟨[rR 0 0,rI 2 n,rR 4 1,rR 6 2,rR 8 3,rB 34 t1.1],[.box (.agg [.sl 1 (L.map AV.int) false,.int t1.2]),.box (Tpl.v g),.box (Chg.v (⟨0,0,0,0⟩:Chg)),.box (Chg.v (⟨W (1+(Mod (al L p) ((g.rs.map Rtr.v).length:Int))),W (1+(Mod (al L (ab L p)) ((g.rs.map Rtr.v).length:Int))),rng L (ab L (ab L p)) 1 6,rng L (ab L (ab L (ab L p))) 1 6⟩:Chg))]⟩
def Ma(L:List Int)(t0:Chg×Nat)(t2:Bool×Nat):NF:=⟨[rR 0 0,rR 6 1,rR 8 2,rB 117 t2.1],[.box (.agg [.sl 1 (L.map AV.int) false,.int t2.2]),.box (Chg.v (⟨0,0,0,0⟩:Chg)),.box (Chg.v t0.1)]⟩
@[reducible] def GK:Nat→Type
 | 0=>Chg×Nat
 | 1=>Bool×Nat
 | 2=>Bool×Nat
 | _=>Unit
def wD(r:Tap×Chg):AV:=Chg.v r.2
def wE(r:Tap×Chg):List (Option Blk):=[some (.box (Tap.v r.1))]
def GJ(L:List Int)(p:Nat)(g:Tpl)(n:Int)(I0:(Chg×Nat)→Prop)(I1:(Bool×Nat)→Prop)(I2:Chg×Nat→(Bool×Nat)→Prop):Ax Tryz.prog GK (Tap×Chg):=
 (.callH [0] (bB L p ((g.rs.map Rtr.v).length:Int)) 129
(.callH [0] (bB L (ab L p) ((g.rs.map Rtr.v).length:Int)) 193
(.callH [0] (dX L (ab L (ab L p)) 1 6) 241
(.callH [0] (dX L (ab L (ab L (ab L p))) 1 6) 273
(.join 0 (Mc L n) (λ(t0:Chg×Nat)=>I0 t0) (λb0=>(.join 1 (Mb L p g n) (λ(t1:Bool×Nat)=>I1 t1) (λb1=>(.br 417 (decide (0<((g.ls.map Lnk.v).length:Int))) (.callH [0] (bB L (ab L (ab L (ab L (ab L p)))) 4) 433
(.bk 1 b1 (decide (0<(Mod (al L (ab L (ab L (ab L (ab L p))))) 4)),ab L (ab L (ab L (ab L (ab L p))))) [0,1,17,305]))
(.bk 1 b1 (false,ab L (ab L (ab L (ab L p)))) [0,1,17,305]))) λ(t1:Bool×Nat) =>
(.br 4 t1.1 (.callH [0] (bB L t1.2 ((g.ls.map Lnk.v).length:Int)) 100
(.elI 116 Lnk.v g.ls (Mod (al L t1.2) ((g.ls.map Lnk.v).length:Int)) λx1 =>
(.callH [0] (bB L (ab L t1.2) 6) 356
(.br 404 ((Mod (al L (ab L t1.2)) 6)==0) (.bk 0 b0 ((⟨x1.a,x1.b,0,0⟩:Chg),ab L (ab L t1.2)) [0,2,3])
(.br 436 ((Mod (al L (ab L t1.2)) 6)==1) (.callH [0] (dX L (ab L (ab L t1.2)) 1 4) 484
(.bk 0 b0 ((⟨x1.a,x1.b,W (x1.ca+(rng L (ab L (ab L t1.2)) 1 4)),x1.cb⟩:Chg),ab L (ab L (ab L t1.2))) [0,2,3]))
(.br 468 ((Mod (al L (ab L t1.2)) 6)==2) (.callH [0] (dX L (ab L (ab L t1.2)) 0 4) 516
(.callH [0] (dX L (ab L (ab L (ab L t1.2))) 0 4) 596
(.bk 0 b0 ((⟨x1.a,x1.b,W (x1.ca+(rng L (ab L (ab L t1.2)) 0 4)),W (x1.cb+(rng L (ab L (ab L (ab L t1.2))) 0 4))⟩:Chg),ab L (ab L (ab L (ab L t1.2)))) [0,2,3])))
(.br 500 ((Mod (al L (ab L t1.2)) 6)==3) (.callH [0] (dX L (ab L (ab L t1.2)) 1 x1.ca) 548
(.callH [0] (dX L (ab L (ab L (ab L t1.2))) 1 x1.cb) 612
(.bk 0 b0 ((⟨x1.a,x1.b,rng L (ab L (ab L t1.2)) 1 x1.ca,rng L (ab L (ab L (ab L t1.2))) 1 x1.cb⟩:Chg),ab L (ab L (ab L (ab L t1.2)))) [0,2,3])))
(.br 532 ((Mod (al L (ab L t1.2)) 6)==4) (.callH [0] (bB L (ab L (ab L t1.2)) 3) 644
(.callH [0] (bB L (ab L (ab L (ab L t1.2))) 3) 724
(.bk 0 b0 ((⟨x1.b,x1.a,W (x1.cb+(Mod (al L (ab L (ab L t1.2))) 3)),W (x1.ca+(Mod (al L (ab L (ab L (ab L t1.2)))) 3))⟩:Chg),ab L (ab L (ab L (ab L t1.2)))) [0,2,3])))
(.bk 0 b0 ((⟨x1.a,x1.b,x1.ca,1⟩:Chg),ab L (ab L t1.2)) [0,2,3])))))))))
(.bk 0 b0 ((⟨W (1+(Mod (al L p) ((g.rs.map Rtr.v).length:Int))),W (1+(Mod (al L (ab L p)) ((g.rs.map Rtr.v).length:Int))),rng L (ab L (ab L p)) 1 6,rng L (ab L (ab L (ab L p))) 1 6⟩:Chg),t1.2) [0,2,3])))) λ(t0:Chg×Nat) =>
(.pass (.join 2 (Ma L t0) (λ(t2:Bool×Nat)=>I2 t0 t2) (λb2=>(.br 51 (decide (0<n)) (.callH [0] (fp L t0.2 n) 83
(.bk 2 b2 (dl L t0.2 n,ab L t0.2) [0,1,2]))
(.bk 2 b2 (false,t0.2) [0,1,2]))) λ(t2:Bool×Nat) =>
(.br 3 t2.1 (.callH [0] (bB L t2.2 4) 19
(.br 67 ((Mod (al L t2.2) 4)==0) (.callH [0] (bB L (ab L t2.2) 9) 83
(.retH ((⟨L,ab L (ab L t2.2)⟩:Tap),(⟨Mod (al L (ab L t2.2)) 9,t0.1.b,t0.1.ca,t0.1.cb⟩:Chg)) ⟨[rR 6 1],[.box (.agg [.sl 1 (L.map AV.int) false,.int (((ab L (ab L t2.2)):Nat):Int)]),.box (Chg.v (⟨Mod (al L (ab L t2.2)) 9,t0.1.b,t0.1.ca,t0.1.cb⟩:Chg))]⟩ [0,1]))
(.br 99 ((Mod (al L t2.2) 4)==1) (.retH ((⟨L,ab L t2.2⟩:Tap),(⟨t0.1.a,t0.1.a,t0.1.ca,t0.1.cb⟩:Chg)) ⟨[rR 6 1],[.box (.agg [.sl 1 (L.map AV.int) false,.int (ab L t2.2)]),.box (Chg.v (⟨t0.1.a,t0.1.a,t0.1.ca,t0.1.cb⟩:Chg))]⟩ [0,1])
(.br 131 ((Mod (al L t2.2) 4)==2) (.callH [0] (jL L (ab L t2.2)) 147
(.retH ((⟨L,ab L (ab L t2.2)⟩:Tap),(⟨t0.1.a,t0.1.b,eJ L (ab L t2.2),t0.1.cb⟩:Chg)) ⟨[rR 6 1],[.box (.agg [.sl 1 (L.map AV.int) false,.int (((ab L (ab L t2.2)):Nat):Int)]),.box (Chg.v (⟨t0.1.a,t0.1.b,eJ L (ab L t2.2),t0.1.cb⟩:Chg))]⟩ [0,1]))
(.callH [0] (bB L (ab L t2.2) 2) 147
(.retH ((⟨L,ab L (ab L t2.2)⟩:Tap),(⟨t0.1.a,t0.1.b,0,Mod (al L (ab L t2.2)) 2⟩:Chg)) ⟨[rR 6 1],[.box (.agg [.sl 1 (L.map AV.int) false,.int (((ab L (ab L t2.2)):Nat):Int)]),.box (Chg.v (⟨t0.1.a,t0.1.b,0,Mod (al L (ab L t2.2)) 2⟩:Chg))]⟩ [0,1]))))))
(.retH ((⟨L,t2.2⟩:Tap),t0.1) ⟨[rR 6 1],[.box (.agg [.sl 1 (L.map AV.int) false,.int t2.2]),.box (Chg.v t0.1)]⟩ [0,1])))))))))
theorem Q9(L:List Int)(p:Nat)(g:Tpl)(n:Int)(ok:GL L p g n):∃I0 I1 I2,(GJ L p g n I0 I1 I2).vc wD wE ((⟨L,(iI L p g n).2⟩:Tap),(iI L p g n).1):=by
 refine⟨λs=>s=o7 L p g,λu=>u=(decide (0<g.ls.length∧0<Mod (al L (lE L p g.rs.length).2) 4),if 0<g.ls.length then ab L (lE L p g.rs.length).2 else(lE L p g.rs.length).2),λs u=>u=(decide (0<n∧dl L s.2 n=true),if 0<n then ab L s.2 else s.2),?_⟩;simp only[GL,Tpl.v,okU,Blk.ok,az,u']at ok;dsimp only[GJ,GK,Ax.vp,Ax.vc];simp only[vcU,rfU,u'];have e0:(lE L p g.rs.length).2=ab L (ab L (ab L (ab L p))):=rfl
 refine⟨⟨⟨λc=>?_,λc=>?_⟩,?_⟩,?_⟩
 ·have c:0<g.ls.length:=by omega
  rw[e0,F' c]
  congr 1
  rw[decide_eq_decide];exact⟨λh=>⟨c,h⟩,λh=>h.2⟩
 ·have c:¬0<g.ls.length:=by omega
  rw[e0,E' c]
  congr 1
  rw[eq_comm,decide_eq_false_iff_not];exact λh=>c h.1
 ·rintro _ rfl;simp only
  refine⟨λc=>?_,λc=>?_⟩
  ·obtain⟨c1,c2⟩:=G' c;rw[F' c1];have hm:=dF (x:=al L (ab L (lE L p g.rs.length).2)) (show 1≤(g.ls.length:Int) by omega);refine⟨hm.1,hm.2,λx hx=>?_⟩;have e:o7 L p g=Q8 L (ab L (ab L (lE L p g.rs.length).2)) x:=by unfold o7;rw[F' c1,F' c2,hx]
   rw[e];unfold Q8;refine⟨λd=>by rw[F' (eq_of_beq d)],λd=>?_⟩;rw[E' (by simpa using d)];refine⟨λd=>by rw[F' (eq_of_beq d)],λd=>?_⟩;rw[E' (by simpa using d)];refine⟨λd=>by rw[F' (eq_of_beq d)],λd=>?_⟩;rw[E' (by simpa using d)];refine⟨λd=>by rw[F' (eq_of_beq d)],λd=>?_⟩;rw[E' (by simpa using d)];exact⟨λd=>by rw[F' (eq_of_beq d)],λd=>by rw[E' (by simpa using d)]⟩
  ·have c:=S' c;unfold o7
   by_cases c1:0<g.ls.length
   ·rw[F' c1,F' c1,E' (λh=>c ⟨c1,h⟩)];rfl
   ·rw[E' c1,E' c1];rfl
 ·rintro _ rfl
  refine⟨⟨λc=>?_,λc=>?_⟩,?_⟩
  ·rw[F' c];simp[c]
  ·rw[E' c];simp[c]
  rintro _ rfl;simp only;unfold iI
  refine⟨λc=>?_,λc=>?_⟩
  ·obtain⟨c1,c2⟩:=G' c;rw[F' c1,F' c1,F' c2];unfold chgN;refine⟨λd=>by rw[F' (eq_of_beq d)],λd=>?_⟩;rw[E' (by simpa using d)];refine⟨λd=>by rw[F' (eq_of_beq d)],λd=>?_⟩;rw[E' (by simpa using d)];exact⟨λd=>by rw[F' (eq_of_beq d)],λd=>by rw[E' (by simpa using d)]⟩
  ·have c:=S' c
   by_cases c1:0<n
   ·rw[F' c1,F' c1,E' (λh=>c ⟨c1,h⟩)]
   ·rw[E' c1,E' c1]
def QA(L:List Int)(p:Nat)(g:Tpl)(n:Int):HC Tryz.prog:=hcO 9 [.k,(.a [(.s 2),(.s 5)]),.k] [.ref 0 0,Tpl.v g,.int n] [.box (.agg [.sl 1 (L.map AV.int) false,.int p])] .k wD wE ((⟨L,(iI L p g n).2⟩:Tap),(iI L p g n).1) (λok ok2=>let ⟨I0,I1,I2,h⟩:=Q9 L p g n ⟨ok,ok2 _ (by simp)⟩;⟨_,h,by kernel_rfl⟩) (by kernel_rfl) (by simp[hcB,cC,AV.belB,allB,ez,dv,wD,wE,Chg.v,Tap.v,Tpl.v,ae (v:=AV.int) (λ_=>rfl),ae (v:=Lnk.v) (λ_=>rfl),ae (v:=Rtr.v) (λ_=>rfl)])
set_option pp.deepTerms true
set_option pp.maxSteps 100000
def ew(L:List Int):Nat→List Rtr→List Int×Nat
 | p,[]=>([],p)
 | p,x::l=>(if Mod (al L p) 2=0 then x.id::(ew L (ab L p) l).1 else(ew L (ab L p) l).1,(ew L (ab L p) l).2)
instance decRw:DecidableEq Rw:=λa b=>decidable_of_iff (a.id=b.id∧a.nx=b.nx) (by cases a;cases b;simp)
instance decTbl:DecidableEq Tbl:=λa b=>decidable_of_iff (a.router=b.router∧a.sub=b.sub∧a.len=b.len∧a.rows=b.rows) (by cases a;cases b;simp)
theorem HW{a b:Tbl}:a=b↔a.router=b.router∧a.sub=b.sub∧a.len=b.len∧a.rows=b.rows:=by cases a;cases b;simp
def xB(a:Tbl)(b:Tbl):=okL [Tbl.v a,Tbl.v b]
def Cb(a:Tbl)(b:Tbl)(t0:Bool):NF:=⟨[rR 2 0,rR 3 1,rB 33 t0],[.box (Tbl.v a),.box (Tbl.v b)]⟩
def Ca(a:Tbl)(b:Tbl)(t1:Int):NF:=⟨[rR 2 0,rR 3 1,rI 5 t1],[.box (Tbl.v a),.box (Tbl.v b)]⟩
def BZ(a:Tbl)(b:Tbl)(t1:Int)(t2:Bool):NF:=⟨[rR 2 0,rR 3 1,rI 5 t1,rB 69 t2],[.box (Tbl.v a),.box (Tbl.v b)]⟩
@[reducible] def xz:Nat→Type
 | 0=>Bool
 | 1=>Int
 | 2=>Bool
 | _=>Unit
def xA(r:Bool):AV:=.bool r
def xy(a:Tbl)(b:Tbl)(I0:Bool→Prop)(I1:Bool→Int→Prop)(m1:Bool→Int→Nat)(I2:Bool→Int→Bool→Prop):Ax Tryz.prog xz (Bool):=
 (.pass (.pass (.join 0 (Cb a b) (λ(t0:Bool)=>I0 t0) (λb0=>(.br 144 (a.router != b.router) (.bk 0 b0 ((true):Bool) [0,16])
(.br 256 (a.sub != b.sub) (.bk 0 b0 ((true):Bool) [0,16])
(.br 368 (a.len != b.len) (.bk 0 b0 ((true):Bool) [0,16])
(.bk 0 b0 ((((a.rows.map Rw.v).length:Int) != ((b.rows.map Rw.v).length:Int)):Bool) [0,16]))))) λ(t0:Bool) =>
(.br 2 t0 (.ret (false))
(.loop 1 (Ca a b) (I1 t0) (m1 t0) ((0):Int) [0,1] λ(t1:Int) b1 =>
(.br 82 (decide (t1<((a.rows.map Rw.v).length:Int))) (.pass (.join 2 (BZ a b t1) (λ(t2:Bool)=>I2 t0 t1 t2) (λb2=>(.elI 130 Rw.v a.rows t1 λx1 =>
(.elI 226 Rw.v b.rows t1 λx2 =>
(.br 306 (x1.id != x2.id) (.bk 2 b2 ((true):Bool) [0,1])
(.elI 354 Rw.v a.rows t1 λx3 =>
(.elI 450 Rw.v b.rows t1 λx4 =>
(.callP (n9 x3.nx x4.nx)
(.bk 2 b2 ((!(decide (x3.nx=x4.nx))):Bool) [0,1])))))))) λ(t2:Bool) =>
(.br 2 t2 (.ret (false))
(.bk 1 b1 ((W (t1+1)):Int) [0,1]))))
(.ret (true))))))))
theorem IS(a b:Tbl)(ok:xB a b):∃I0 I1 m1 I2,(xy a b I0 I1 m1 I2).vp xA (decide (a=b)):=by
 refine⟨λt=>t=decide (¬(a.router=b.router∧a.sub=b.sub∧a.len=b.len∧a.rows.length=b.rows.length)),λt i=>(a.router=b.router∧a.sub=b.sub∧a.len=b.len∧a.rows.length=b.rows.length)∧∃k:Nat,i=k∧k≤a.rows.length∧a.rows.take k=b.rows.take k,λt i=>a.rows.length-i.toNat,
  λt i v=>∀x y,a.rows[i.toNat]?=some x→b.rows[i.toNat]?=some y→v=decide (x≠y),?_⟩
 simp only[xB,Tbl.v,okU,Blk.ok,az,u']at ok;dsimp only[xy,xz,Ax.vp,Ax.vc];simp only[vcU,rfU,u']
 refine⟨⟨λc=>?_,λc=>⟨λc2=>?_,λc2=>⟨λc3=>?_,λc3=>?_⟩⟩⟩,?_⟩
 ·have c:a.router≠b.router:=by simpa using c
  simp[c]
 ·have c2:a.sub≠b.sub:=by simpa using c2
  simp[c2]
 ·have c3:a.len≠b.len:=by simpa using c3
  simp[c3]
 ·have c:a.router=b.router:=by simpa using c
  have c2:a.sub=b.sub:=by simpa using c2
  have c3:a.len=b.len:=by simpa using c3
  rw[ag',bne_iff_ne,R'];simp only[c,c2,c3,true_and];omega
 rintro _ rfl
 refine⟨λe=>?_,λe=>?_⟩
 ·have e:=G' e;rw[eq_comm,decide_eq_false_iff_not,HW];rintro⟨h1,h2,h3,h4⟩;exact e ⟨h1,h2,h3,by rw[h4]⟩
 have e:a.router=b.router∧a.sub=b.sub∧a.len=b.len∧a.rows.length=b.rows.length:=by simpa using e
 refine⟨⟨e,0,rfl,am' _,rfl⟩,?_⟩;rintro _ ⟨_,k,rfl,hk,ht⟩;simp only[Int.toNat_natCast];obtain⟨e1,e2,e3,e4⟩:=e
 refine⟨λc=>⟨⟨by omega,c,λx hx=>⟨by omega,by omega,λy hy=>⟨λd x' y' hx' hy'=>?_,λd=>⟨by omega,c,λx1 hx1=>⟨by omega,by omega,λy1 hy1 x' y' hx' hy'=>?_⟩⟩⟩⟩⟩,?_⟩,λc=>?_⟩
 ·rw[hx]at hx';rw[hy]at hy';cases hx';cases hy';have d:x.id≠y.id:=by simpa using d
  rw[eq_comm,R'];intro q;exact d (by rw[q])
 ·rw[hx]at hx' hx1;rw[hy]at hy' hy1;cases hx';cases hy';cases hx1;cases hy1;have d:x.id=y.id:=by simpa using d
  rw[ag',R'];cases x;cases y;simp only at d;simp[d]
 ·intro v hv;have hka:k<a.rows.length:=by omega
  have hkb:k<b.rows.length:=by omega
  have hx:a.rows[k]?=some a.rows[k]:=f' hka;have hy:b.rows[k]?=some b.rows[k]:=f' hkb;have hv:=hv _ _ hx hy;subst hv;have hw:W ((k:Int)+1)=((k+1:Nat):Int):=aQ (n:=a.rows.length) hka (by omega);rw[hw]
  refine⟨λq=>?_,λq=>⟨⟨⟨e1,e2,e3,e4⟩,k+1,rfl,hka,?_⟩,by omega⟩⟩
  ·have q:=G' q;rw[eq_comm,decide_eq_false_iff_not];intro h;refine q ?_;have:a.rows[k]?=b.rows[k]?:=by rw[h]
   rw[hx,hy]at this;exact Z' this
  ·have q:a.rows[k]=b.rows[k]:=by simpa using q
   rw[aB hx,aB hy,ht,q]
 ·rw[V' (by omega),V' (by omega)]at ht;rw[eq_comm,R',HW];exact⟨e1,e2,e3,ht⟩
def IT(a:Tbl)(b:Tbl):PC Tryz.prog:=pcO 50 [(.a [.k,.k,.k,(.s 2)]),(.a [.k,.k,.k,(.s 2)])] [Tbl.v a,Tbl.v b] .k xA (decide (a=b)) (λok=>let ⟨I0,I1,m1,I2,h⟩:=IS a b ok;⟨_,h,by kernel_rfl⟩) rfl (by kernel_rfl)
def xG(a:List Tbl)(b:List Tbl):=okL [.sl 4 (a.map Tbl.v) false,.sl 4 (b.map Tbl.v) false]
def Cf(a:List Tbl)(b:List Tbl)(t0:Int):NF:=⟨[(0,.k,.sl 4 (a.map Tbl.v) false),(1,.k,.sl 4 (b.map Tbl.v) false),rI 5 t0],[]⟩
@[reducible] def xD:Nat→Type
 | 0=>Int
 | _=>Unit
def xE(r:Bool):AV:=.bool r
def xC(a:List Tbl)(b:List Tbl)(I0:Int→Prop)(m0:Int→Nat):Ax Tryz.prog xD (Bool):=
 (.br 96 (((a.map Tbl.v).length:Int) != ((b.map Tbl.v).length:Int)) (.ret (false))
(.loop 0 (Cf a b) I0 m0 ((0):Int) [] λ(t0:Int) b0 =>
(.br 64 (decide (t0<((a.map Tbl.v).length:Int))) (.elI 96 Tbl.v a t0 λx1 =>
(.elI 160 Tbl.v b t0 λx2 =>
(.callP (IT x1 x2)
(.br 224 (!(decide (x1=x2))) (.ret (false))
(.bk 0 b0 ((W (t0+1)):Int) [])))))
(.ret (true)))))
theorem IV(a b:List Tbl)(ok:xG a b):∃I0 m0,(xC a b I0 m0).vp xE (decide (a=b)):=by
 refine⟨λi=>a.length=b.length∧∃k:Nat,i=k∧k≤a.length∧a.take k=b.take k,λi=>a.length-i.toNat,?_⟩;simp only[xG,Tbl.v,okU,Blk.ok,az,u']at ok;dsimp only[xC,xD,Ax.vp,Ax.vc];simp only[vcU,rfU,u']
 refine⟨λe=>?_,λe=>?_⟩
 ·have e:a.length≠b.length:=by
   have e:(a.length:Int)≠(b.length:Int):=by simpa using e
   omega
  rw[eq_comm,decide_eq_false_iff_not];intro q;exact e (by rw[q])
 have e:a.length=b.length:=by
  have e:(a.length:Int)=(b.length:Int):=by simpa using e
  omega
 refine⟨⟨e,0,rfl,am' _,rfl⟩,?_⟩;rintro _ ⟨_,k,rfl,hk,ht⟩;simp only[Int.toNat_natCast]
 refine⟨λc=>⟨by omega,c,λx hx=>⟨by omega,by omega,λy hy=>⟨λd=>?_,λd=>?_⟩⟩⟩,λc=>?_⟩
 ·have d:x≠y:=by simpa using d
  rw[eq_comm,decide_eq_false_iff_not];intro q;rw[q,hy]at hx;exact d (Z' hx).symm
 ·have d:x=y:=by simpa using d
  have hka:k<a.length:=by omega
  have hw:W ((k:Int)+1)=((k+1:Nat):Int):=aQ (n:=a.length) hka (by omega);rw[hw];exact⟨⟨e,k+1,rfl,hka,by rw[aB hx,aB hy,ht,d]⟩,by omega⟩
 ·rw[V' (by omega),V' (by omega)]at ht;rw[eq_comm,R'];exact ht
def xF(a:List Tbl)(b:List Tbl):PC Tryz.prog:=pcO 16 [(.s 4),(.s 4)] [.sl 4 (a.map Tbl.v) false,.sl 4 (b.map Tbl.v) false] .k xE (decide (a=b)) (λok=>let ⟨I0,m0,h⟩:=IV a b ok;⟨_,h,by kernel_rfl⟩) rfl (by kernel_rfl)
def yB(old:List Tbl)(fresh:List Tbl)(changed:List Int):=okL [.sl 4 (old.map Tbl.v) false,.sl 4 (fresh.map Tbl.v) false,.sl 1 (changed.map AV.int) false]
def Ea(old:List Tbl)(fresh:List Tbl)(changed:List Int)(t0:Int×List Tbl):NF:=⟨[(0,.k,.sl 4 (old.map Tbl.v) false),(1,.k,.sl 4 (fresh.map Tbl.v) false),(2,.k,.sl 1 (changed.map AV.int) false),rV 7 0,rI 8 t0.1],[vB 4 Tbl.v t0.2 (λ_=>rfl)]⟩
def DZ(old:List Tbl)(fresh:List Tbl)(changed:List Int)(t0:Int×List Tbl)(x1:Tbl)(t1:Bool):NF:=⟨[(0,.k,.sl 4 (old.map Tbl.v) false),(1,.k,.sl 4 (fresh.map Tbl.v) false),(2,.k,.sl 1 (changed.map AV.int) false),rV 7 0,rI 8 t0.1,rR 9 1,rB 38 t1],[vB 4 Tbl.v t0.2 (λ_=>rfl),.box (Tbl.v ((bU fresh x1.router).1))]⟩
@[reducible] def y0:Nat→Type
 | 0=>Int×List Tbl
 | 1=>Bool
 | _=>Unit
def y7(r:List Tbl):AV:=.sl 4 (r.map Tbl.v) false
def yz(old:List Tbl)(fresh:List Tbl)(changed:List Int)(I0:(Int×List Tbl)→Prop)(m0:(Int×List Tbl)→Nat)(I1:Int×List Tbl→Tbl→Bool→Prop):Ax Tryz.prog y0 ((List Tbl)):=
 (.cmdL (.nilT 7 4) (.loop 0 (Ea old fresh changed) I0 m0 (0,[]) [48] λ(t0:Int×List Tbl) b0 =>
(.br 65 (decide (t0.1<((old.map Tbl.v).length:Int))) (.elI 113 Tbl.v old t0.1 λx1 =>
(.callP (Fp fresh x1.router)
(.pass (.join 1 (DZ old fresh changed t0 x1) (λ(t1:Bool)=>I1 t0 x1 t1) (λb1=>(.br 321 (!((bU fresh x1.router).2)) (.bk 1 b1 ((true):Bool) [0,225])
(.elI 369 Tbl.v old t0.1 λx2 =>
(.callP (l7 changed x2.router)
(.bk 1 b1 ((!(decide (x2.router∈changed))):Bool) [0,225]))))) λ(t1:Bool) =>
(.br 2 t1 (.elI 34 Tbl.v old t0.1 λx3 =>
(.apX 130 Tbl.v t0.2 [x3] (t0.2.length+1)
(.bk 0 b0 (W (t0.1+1),t0.2++[x3]) [130])))
(.apX 50 Tbl.v t0.2 [(bU fresh x1.router).1] (t0.2.length+1)
(.bk 0 b0 (W (t0.1+1),t0.2++[(bU fresh x1.router).1]) [50])))))))
(.fz 0 Tbl.v t0.2 (λ_=>rfl) (.ret (t0.2))))))
theorem Kl(a b:List Tbl)(ch:List Int)(h0:eZ a)(h1:eZ b)(ok:yB a b ch):∃I0 m0 I1,(yz a b ch I0 m0 I1).vp y7 (kG a b ch):=by
 refine⟨λs=>dY a (λx=>[vy b ch x]) s.1 s.2,λs=>a.length-s.1.toNat,λs x u=>u=decide (¬((bU b x.router).2=true∧x.router∈ch)),?_⟩;simp only[yB,Tbl.v,okU,Blk.ok,az,u']at ok;dsimp only[yz,y0,Ax.vp,Ax.vc];simp only[vcU,rfU,u']
 refine⟨dY.zero,λs hs=>⟨λc=>⟨hs.idx,c,λx hx=>⟨⟨λe=>?_,λe=>⟨hs.idx,c,λy hy=>?_⟩⟩,?_⟩⟩,λc=>?_⟩⟩
 ·simp at e;simp[e]
 ·rw[hx]at hy;cases hy;simp at e;simp[e]
 ·rintro _ rfl;have hl:=hs.len (b:=1) λx _=>by simp
  have:=h0.1;have:=am hx
  refine⟨λe=>⟨hs.idx,c,λy hy=>⟨by omega,?_⟩⟩,λe=>⟨by omega,?_⟩⟩
  ·rw[hx]at hy;cases hy;refine hs.step (by omega) hx ?_;unfold vy;rw[E' (G' e)]
  ·refine hs.step (by omega) hx ?_;unfold vy;rw[F' (by simpa using e)]
 ·rw[hs.done c];unfold kG;exact List.map_eq_flatMap.symm
def yA(old:List Tbl)(fresh:List Tbl)(changed:List Int)(h0:eZ old)(h1:eZ fresh):PC Tryz.prog:=pcO 17 [(.s 4),(.s 4),(.s 1)] [.sl 4 (old.map Tbl.v) false,.sl 4 (fresh.map Tbl.v) false,.sl 1 (changed.map AV.int) false] (.s 4) y7 (kG old fresh changed) (λok=>let ⟨I0,m0,I1,h⟩:=Kl old fresh changed h0 h1 ok;⟨_,h,by kernel_rfl⟩) rfl (by kernel_rfl)
def yH(l:List Tbl)(id:Int)(plane:Int):=okL [.sl 4 (l.map Tbl.v) false,.int id,.int plane]
def En(l:List Tbl)(id:Int)(plane:Int)(t0:Bool):NF:=⟨[(0,.k,.sl 4 (l.map Tbl.v) false),rI 1 id,rI 2 plane,rB 23 t0],[]⟩
def Em(l:List Tbl)(id:Int)(plane:Int)(t1:Int):NF:=⟨[(0,.k,.sl 4 (l.map Tbl.v) false),rI 1 id,rI 2 plane,rI 7 t1],[]⟩
def El(l:List Tbl)(id:Int)(plane:Int)(t1:Int)(t2:Int×List Int):NF:=⟨[(0,.k,.sl 4 (l.map Tbl.v) false),rI 1 id,rI 2 plane,rI 7 t1,rV 8 0,rI 9 t2.1],[vB 1 AV.int t2.2 (λ_=>rfl)]⟩
def Ek(l:List Tbl)(id:Int)(plane:Int)(t1:Int)(t2:Int×List Int)(x2:Int)(t3:Int):NF:=⟨[(0,.k,.sl 4 (l.map Tbl.v) false),rI 1 id,rI 2 plane,rI 7 t1,rV 8 0,rI 9 t2.1,rR 10 1,rI 12 t3],[vB 1 AV.int t2.2 (λ_=>rfl),.box (Tbl.v ((bU l x2).1))]⟩
def Ej(l:List Tbl)(id:Int)(plane:Int)(t1:Int)(t2:Int×List Int)(t3:Int)(t4:Bool):NF:=⟨[(0,.k,.sl 4 (l.map Tbl.v) false),rI 1 id,rI 2 plane,rI 7 t1,rV 8 0,rI 9 t2.1,rI 12 t3,rB 65 t4],[vB 1 AV.int t2.2 (λ_=>rfl)]⟩
@[reducible] def yF:Nat→Type
 | 0=>Bool
 | 1=>Int
 | 2=>Int×List Int
 | 3=>Int
 | 4=>Bool
 | _=>Unit
def yG(r:List Int):AV:=.sl 1 (r.map AV.int) false
def yE(l:List Tbl)(id:Int)(plane:Int)(I0:Bool→Prop)(I1:Bool→Int→Prop)(m1:Bool→Int→Nat)(I2:Bool→Int→Tbl→(Int×List Int)→Prop)(m2:Bool→Int→Tbl→(Int×List Int)→Nat)(I3:Bool→Int→Tbl→Int×List Int→Int→Int→Prop)(I4:Bool→Int→Tbl→Int×List Int→Int→Int→Bool→Prop):Ax Tryz.prog yF ((List Int)):=
 (.pass (.pass (.join 0 (En l id plane) (λ(t0:Bool)=>I0 t0) (λb0=>(.callP (zJ l)
(.br 80 ((eP l) != 0) (.bk 0 b0 ((true):Bool) [])
(.br 144 (decide (plane<0)) (.bk 0 b0 ((true):Bool) [])
(.bk 0 b0 ((decide (8≤plane)):Bool) []))))) λ(t0:Bool) =>
(.br 0 t0 (.ret ([]))
(.loop 1 (Em l id plane) (I1 t0) (m1 t0) ((0):Int) [] λ(t1:Int) b1 =>
(.br 64 (decide (t1<((l.map Tbl.v).length:Int))) (.elI 96 Tbl.v l t1 λx1 =>
(.own 144 (.loop 2 (El l id plane t1) (I2 t0 t1 x1) (m2 t0 t1 x1) (0,[x1.router]) [144] λ(t2:Int×List Int) b2 =>
(.br 65 (decide (t2.1≤((l.map Tbl.v).length:Int))) (.elJ 161 AV.int t2.2 (W (((t2.2.map AV.int).length:Int)-1)) λx2 =>
(.callP (Fp l x2)
(.pass (.join 3 (Ek l id plane t1 t2 x2) (λ(t3:Int)=>I3 t0 t1 x1 t2 x2 t3) (λb3=>(.br 321 ((bU l x2).2) (.req 369 (0≤plane) λh3 =>
(.callP (P3 ((bU l x2).1) id plane h3)
(.bk 3 b3 ((fq ((bU l x2).1) id plane):Int) [0,241])))
(.bk 3 b3 ((0):Int) [0,241]))) λ(t3:Int) =>
(.pass (.join 4 (Ej l id plane t1 t2 t3) (λ(t4:Bool)=>I4 t0 t1 x1 t2 x2 t3 t4) (λb4=>(.br 50 (t3==0) (.bk 4 b4 ((true):Bool) [0])
(.bk 4 b4 ((t3==((bU l x2).1).router):Bool) [0]))) λ(t4:Bool) =>
(.br 1 t4 (.bk 1 b1 ((W (t1+1)):Int) [])
(.say (ck (decide (0<((t2.2.map AV.int).length:Int)))) (.elX 49 AV.int t2.2 0 λx4 =>
(.br 81 (t3==x4) (.fz 0 AV.int t2.2 (λ_=>rfl) (.ret (t2.2)))
(.apX 129 AV.int t2.2 [t3] (t2.2.length+1)
(.bk 2 b2 (W (t2.1+1),t2.2++[t3]) [129]))))))))))))
(.bk 1 b1 ((W (t1+1)):Int) [])))))
(.ret ([]))))))))
theorem JQ{l:List Tbl}{id pl x:Int}:nxT l id pl x=if(if(bU l x).2=true then fq (bU l x).1 id pl else 0)=0∨((bU l x).2=true∧fq (bU l x).1 id pl=(bU l x).1.router)then 0 else fq (bU l x).1 id pl:=by
 unfold nxT bU;cases h:l.find? λb=>b.router==x with
 | none=>simp
 | some b =>
  have hr:b.router=x:=by simpa using cw' h
  subst hr;simp only[if_true]
  by_cases e1:fq b id pl=b.router
  ·rw[F' e1,F' (.inr ⟨trivial,e1⟩)]
  ·rw[E' e1]
   by_cases e2:fq b id pl=0
   ·rw[F' (.inl e2),e2]
   ·rw[E' (by rintro(h|h);exact e2 h;exact e1 h.2)]
structure L18 (l:List Tbl) (id pl:Int) (i:Int) (b:Tbl) (s:Int×List Int):Prop where
  bk:l[i.toNat]?=some b
  ix:∃k:Nat,i=k
  lo:fQ l id pl (l.length+1) (l.drop i.toNat)=cS l id pl
  ln:∃j:Nat,s.1=j∧j≤l.length+1∧s.2.length=j+1∧∀x,s.2[j]?=some x→i9 (nxT l id pl) b.router (l.length+1-j) (nxT l id pl x) s.2=i9 (nxT l id pl) b.router (l.length+1) (nxT l id pl b.router) [b.router]
  hd:s.2[0]?=some b.router
theorem Kx(l:List Tbl)(id pl:Int)(ok:yH l id pl):∃I0 I1 m1 I2 m2 I3 I4,(yE l id pl I0 I1 m1 I2 m2 I3 I4).vp yG (cS l id pl):=by
 refine⟨λt=>t=decide (¬(eP l=0∧0≤pl∧pl<8)),λ_ i=>∃k:Nat,i=k∧k≤l.length∧fQ l id pl (l.length+1) (l.drop k)=cS l id pl,λ_ i=>l.length-i.toNat,
  λ_ i b s=>L18 l id pl i b s,λ_ _ _ s=>l.length+2-s.1.toNat,λ_ _ _ _ x t=>t=if(bU l x).2=true then fq (bU l x).1 id pl else 0,
  λ_ _ _ _ x _ t=>t=decide (nxT l id pl x=0),?_⟩
 simp only[yH,Tbl.v,okU,Blk.ok,az,u']at ok;dsimp only[yE,yF,Ax.vp,Ax.vc];simp only[vcU,rfU,u']
 refine⟨⟨λe=>?_,λe=>⟨λe2=>?_,λe2=>?_⟩⟩,?_⟩
 ·have e:eP l≠0:=by simpa using e
  rw[eq_comm,R'];exact λh=>e h.1
 ·rw[eq_comm,R'];omega
 ·have e:eP l=0:=by simpa using e
  rw[decide_eq_decide];exact⟨λh=>by omega,λh=>U' λq=>h ⟨e,by omega,by omega⟩⟩
 rintro _ rfl
 refine⟨λe=>?_,λe=>?_⟩
 ·unfold cS;rw[E' (G' e)]
 have e:eP l=0∧0≤pl∧pl<8:=bf'.mp (S' e);obtain⟨hl,hb,_⟩:=j4 e.1;have hrt:∀b∈l,1≤b.router:=λb hb'=>(jl (hb b hb')).1;have hL:fQ l id pl (l.length+1) l=cS l id pl:=by
  unfold cS gG;rw[F' e,nu (by omega) hrt]
 refine⟨⟨0,rfl,am' _,hL⟩,?_⟩;rintro _ ⟨k,rfl,hk,hlo⟩;simp only[Int.toNat_natCast]
 refine⟨λc=>⟨by omega,c,λb hbk=>?_⟩,λc=>?_⟩
 ·have hkl:k<l.length:=by omega
  have hb1:=hrt b (J' hbk);have hd:l.drop k=b::l.drop (k+1):=by
   rw[aP' hkl];rw[f' hkl]at hbk;rw[Z' hbk]
  have hw1:W ((k:Int)+1)=((k+1:Nat):Int):=aQ (n:=l.length) hkl (by omega);have next:i9 (nxT l id pl) b.router (l.length+1) (nxT l id pl b.router) [b.router]=none→(∃k':Nat,W ((k:Int)+1)=k'∧k'≤l.length∧fQ l id pl (l.length+1) (l.drop k')=cS l id pl)∧l.length-(W ((k:Int)+1)).toNat<l.length-k:=λh=>by
   rw[hw1];refine⟨⟨k+1,rfl,hkl,?_⟩,by omega⟩;rw[hd,fQ,h]at hlo;exact hlo
  refine⟨⟨by simpa using hbk,⟨k,rfl⟩,by simpa using hlo,⟨0,rfl,by omega,rfl,λx hx=>by cases hx;rfl⟩,rfl⟩,?_⟩;rintro⟨j0,way⟩ ⟨_,_,_,⟨j,hj,hj2,hln,hw⟩,hh⟩;simp only at hj hln hw hh ⊢;subst hj
  refine⟨λd=>?_,λd=>?_⟩
  ·have hjl:j≤l.length:=by omega
   have hW:W ((way.length:Int)-1)=((j:Nat):Int):=by rw[eF (by omega)];omega
   rw[hW];refine⟨by rw[decide_eq_true (by omega),decide_eq_true (by omega)];rfl,by simp;omega,λx hx=>⟨⟨λh=>⟨e.2.1,by rw[F' h]⟩,λh=>by rw[E' (by simp[h])]⟩,?_⟩⟩;simp only[Int.toNat_natCast]at hx;have hwx:=hw x hx;rintro _ rfl;have hn:=JQ (l:=l) (id:=id) (pl:=pl) (x:=x)
   refine⟨⟨λq=>?_,λq=>?_⟩,?_⟩
   ·have q:=eq_of_beq q;rw[F' (.inl q)]at hn;rw[hn];rfl
   ·have q:¬(if(bU l x).2=true then fq (bU l x).1 id pl else 0)=0:=by simpa using q
    have hf:(bU l x).2=true:=U' λh=>q (E' h);rw[F' hf]at q hn ⊢
    by_cases r:fq (bU l x).1 id pl=(bU l x).1.router
    ·rw[F' (.inr ⟨hf,r⟩)]at hn;rw[hn,r];simp
    ·rw[E' (by rintro(h|h);exact q h;exact r h.2)]at hn;rw[hn,ag',aV',R'];exact⟨λh=>absurd h r,λh=>absurd h q⟩
   rintro _ rfl;obtain⟨f,hfu⟩:∃f,l.length+1-j=f+1:=⟨l.length-j,by omega⟩
   rw[hfu,i9]at hwx
   refine⟨λq=>?_,λq=>⟨by omega,by omega,λy hy=>?_⟩⟩
   ·rw[F' (G' q)]at hwx;exact next hwx.symm
   ·have q:=S' q;rw[E' q]at hwx;rw[hh]at hy;cases hy;have ht:(if(bU l x).2=true then fq (bU l x).1 id pl else 0)=nxT l id pl x:=by
     by_cases hc:(if(bU l x).2=true then fq (bU l x).1 id pl else 0)=0∨((bU l x).2=true∧fq (bU l x).1 id pl=(bU l x).1.router)
     ·rw[F' hc]at hn;exact absurd hn q
     ·rw[E' hc]at hn;rw[hn];exact F' (U' λh=>hc (.inl (E' h)))
    rw[ht]
    refine⟨λg=>?_,λg=>?_⟩
    ·have g:=eq_of_beq g;rw[F' g]at hwx;rw[hd,fQ,←hwx]at hlo;exact hlo
    ·have g:¬nxT l id pl x=b.router:=by simpa using g
     rw[E' g]at hwx;have hwj:W ((j:Int)+1)=((j+1:Nat):Int):=by rw[eF (by omega)];rfl
     rw[hwj]
     refine⟨by omega,⟨by simpa using hbk,⟨k,rfl⟩,by simpa using hlo,⟨j+1,rfl,by omega,by simp[hln],λz hz=>?_⟩,?_⟩,by omega⟩
     ·have hz':z=nxT l id pl x:=by
       have:(way++[nxT l id pl x])[j+1]?=some (nxT l id pl x):=by rw[aL' (by omega),hln,ba'];rfl
       rw[this]at hz;exact(Z' hz).symm
      rw[hz',←hwx,show l.length+1-(j+1)=f by omega]
     ·show(way++[nxT l id pl x])[0]?=_;rw[bj' (by omega)];exact hh
  ·have hje:j=l.length+1:=by omega
   have hx:way[j]?=some way[j]:=f' (by omega);have hwx:=hw _ hx;generalize way[j]=z at hwx;rw[hje,ba',i9]at hwx;exact next hwx.symm
 ·rw[bo' (by omega)]at hlo;exact hlo
def kJ(l:List Tbl)(id:Int)(plane:Int):PC Tryz.prog:=pcO 23 [(.s 4),.k,.k] [.sl 4 (l.map Tbl.v) false,.int id,.int plane] (.s 1) yG (cS l id plane) (λok=>let ⟨I0,I1,m1,I2,m2,I3,I4,h⟩:=Kx l id plane ok;⟨_,h,by kernel_rfl⟩) rfl (by kernel_rfl)
def xK(l:List Tbl):=okL [.sl 4 (l.map Tbl.v) false]
def Cp(l:List Tbl)(t0:List Int×Int):NF:=⟨[(0,.k,.sl 4 (l.map Tbl.v) false),(3,(.s 1),.sl 1 (t0.1.map AV.int) false),rI 4 t0.2],[]⟩
def Co(l:List Tbl)(t0:List Int×Int)(t1:List Int×Int):NF:=⟨[(0,.k,.sl 4 (l.map Tbl.v) false),(3,(.s 1),.sl 1 (t1.1.map AV.int) false),rI 4 t0.2,rI 5 t1.2],[]⟩
def Cn(l:List Tbl)(t0:List Int×Int)(t2:Int):NF:=⟨[(0,.k,.sl 4 (l.map Tbl.v) false),(3,.k,.sl 1 (t0.1.map AV.int) false),rI 6 t2],[]⟩
def Cm(l:List Tbl)(t0:List Int×Int)(t2:Int)(t3:Int):NF:=⟨[(0,.k,.sl 4 (l.map Tbl.v) false),(3,.k,.sl 1 (t0.1.map AV.int) false),rI 6 t2,rI 7 t3],[]⟩
@[reducible] def xI:Nat→Type
 | 0=>(List Int)×Int
 | 1=>(List Int)×Int
 | 2=>Int
 | 3=>Int
 | _=>Unit
def xJ(r:Bool):AV:=.bool r
def xH(l:List Tbl)(I0:(List Int×Int)→Prop)(m0:(List Int×Int)→Nat)(I1:List Int×Int→(List Int×Int)→Prop)(m1:List Int×Int→(List Int×Int)→Nat)(I2:List Int×Int→Int→Prop)(m2:List Int×Int→Int→Nat)(I3:List Int×Int→Int→Int→Prop)(m3:List Int×Int→Int→Int→Nat):Ax Tryz.prog xI (Bool):=
 (.callP (zJ l)
(.br 64 ((eP l) != 0) (.ret (false))
(.loop 0 (Cp l) I0 m0 ([],0) [] λ(t0:List Int×Int) b0 =>
(.br 64 (decide (t0.2<((l.map Tbl.v).length:Int))) (.loop 1 (Co l t0) (I1 t0) (m1 t0) (t0.1,0) [] λ(t1:List Int×Int) b1 =>
(.elI 48 Tbl.v l t0.2 λx1 =>
(.br 128 (decide (t1.2<((x1.rows.map Rw.v).length:Int))) (.elI 176 Tbl.v l t0.2 λx2 =>
(.elI 240 Rw.v x2.rows t1.2 λx3 =>
(.req 288 (t1.1.length≤100000) λh4 =>
(.callP (EB t1.1 x3.id h4)
(.bk 1 b1 (me t1.1 x3.id,W (t1.2+1)) [])))))
(.bk 0 b0 (t1.1,W (t0.2+1)) []))))
(.loop 2 (Cn l t0) (I2 t0) (m2 t0) ((0):Int) [] λ(t2:Int) b2 =>
(.br 64 (decide (t2<((t0.1.map AV.int).length:Int))) (.loop 3 (Cm l t0 t2) (I3 t0 t2) (m3 t0 t2) ((0):Int) [] λ(t3:Int) b3 =>
(.br 32 (decide (t3<8)) (.elI 80 AV.int t0.1 t2 λx5 =>
(.callP (kJ l x5 t3)
(.br 176 (decide (0<(((cS l x5 t3).map AV.int).length:Int))) (.ret (false))
(.bk 3 b3 ((W (t3+1)):Int) []))))
(.bk 2 b2 ((W (t2+1)):Int) [])))
(.ret (true))))))))
theorem IZ(l:List Tbl)(ok:xK l):∃I0 m0 I1 m1 I2 m2 I3 m3,(xH l I0 m0 I1 m1 I2 m2 I3 m3).vp xJ (iC l):=by
 refine⟨λs=>∃k:Nat,s.2=k∧k≤l.length∧s.1.length≤256 * k∧s.1.Pairwise (·<·)∧∀a,a∈s.1↔∃b∈l.take k,∃r∈b.rows,r.id=a,λs=>l.length-s.2.toNat,
  λs u=>∀b,l[s.2.toNat]?=some b→∃j:Nat,u.2=j∧j≤b.rows.length∧u.1.length≤s.1.length+j∧u.1.Pairwise (·<·)∧∀a,a∈u.1↔a∈s.1∨∃r∈b.rows.take j,r.id=a,λs u=>(l.getD s.2.toNat ⟨0,0,0,[]⟩).rows.length-u.2.toNat,
  λs i=>∃k:Nat,i=k∧k≤s.1.length∧∀a∈s.1.take k,okI l a=true,λs i=>s.1.length-i.toNat,
  λs i p=>∃q:Nat,p=q∧q≤8∧∀x,s.1[i.toNat]?=some x→∀j:Nat,j<q→gG l x j=[],λs i p=>8-p.toNat,?_⟩
 simp only[xK,Tbl.v,okU,Blk.ok,az,u']at ok;dsimp only[xH,xI,Ax.vp,Ax.vc];simp only[vcU,rfU,u'];refine⟨λe=>by unfold iC;simp at e;simp[e],λe=>?_⟩;have e:eP l=0:=by simpa using e
 obtain⟨hl,hb,_⟩:=j4 e;have hr:iC l=l.all λb=>b.rows.all λr=>okI l r.id:=by unfold iC;rw[e];rfl
 have hlp:∀(x:Int) (p:Nat),p<8→cS l x p=gG l x p:=λx p hp=>by unfold cS;rw[F' ⟨e,by omega,by omega⟩]
 rw[hr];refine⟨⟨0,rfl,am' _,am' _,List.Pairwise.nil,λa=>by simp⟩,?_⟩;rintro⟨ids,i⟩ ⟨k,hi,hk,hln,has,hmem⟩;simp only at hi hln has hmem ⊢;subst hi;simp only[Int.toNat_natCast]
 refine⟨λc=>⟨λb _=>⟨0,rfl,am' _,X' _,has,λa=>by simp⟩,?_⟩,λc=>?_⟩
 ·have hkl:k<l.length:=by omega
  rintro⟨us,j0⟩ hJ;simp only at hJ ⊢;refine⟨by omega,c,λb hbk=>?_⟩;obtain⟨j,hj,hjl,hul,hua,hum⟩:=hJ b hbk;subst hj;have hrl:=(jl (hb b (J' hbk))).2.2.1;have hgd:l.getD k ⟨0,0,0,[]⟩=b:=by rw[H',hbk];rfl
  simp only[Int.toNat_natCast,hgd]
  refine⟨λd=>⟨by omega,c,λb' hb'=>?_⟩,λd=>?_⟩
  ·rw[hbk]at hb';cases hb'
   refine⟨by omega,d,λr hrj=>⟨by omega,λb' hb'=>?_,?_⟩⟩
   ·rw[hbk]at hb';cases hb';have hw:W ((j:Int)+1)=((j+1:Nat):Int):=aQ (n:=b.rows.length) (by omega) (by omega);have hil:=nB us r.id;obtain⟨q1,q2⟩:=K5 hua r.id;refine⟨j+1,hw,by omega,by omega,q1,λa=>?_⟩;rw[q2,hum,aB hrj]
    constructor
    ·rintro(h|h|⟨x,h1,h2⟩)
     ·exact .inr ⟨r,by simp,h.symm⟩
     ·exact .inl h
     ·exact .inr ⟨x,by simp[h1],h2⟩
    ·rintro(h|⟨x,h1,h2⟩)
     ·exact .inr (.inl h)
     ·rcases ab'.mp h1 with h1|h1
      ·exact .inr (.inr ⟨x,h1,h2⟩)
      ·rw[L'.mp h1]at h2;exact .inl h2.symm
   ·have hw:W ((j:Int)+1)=((j+1:Nat):Int):=aQ (n:=b.rows.length) (by omega) (by omega);rw[hw,Int.toNat_natCast];omega
  ·have hw:W ((k:Int)+1)=((k+1:Nat):Int):=aQ (n:=l.length) hkl (by omega);rw[hw];refine⟨⟨k+1,rfl,hkl,by omega,hua,λa=>?_⟩,by omega⟩;rw[hum,hmem,V' (show b.rows.length≤j by omega),aB hbk]
   constructor
   ·rintro(⟨x,h1,h2⟩|h)
    ·exact⟨x,by simp[h1],h2⟩
    ·exact⟨b,by simp,h⟩
   ·rintro⟨x,h1,h2⟩
    rcases ab'.mp h1 with h1|h1
    ·exact .inl ⟨x,h1,h2⟩
    ·rw[L'.mp h1]at h2;exact .inr h2
 ·rw[V' (by omega)]at hmem;refine⟨⟨0,rfl,am' _,λa ha=>by simp at ha⟩,?_⟩;rintro _ ⟨m,rfl,hm,hok⟩;simp only[Int.toNat_natCast]
  refine⟨λd=>⟨⟨0,rfl,by omega,λx _ j hj=>by omega⟩,?_⟩,λd=>?_⟩
  ·rintro _ ⟨q,rfl,hq,hq2⟩
   refine⟨λf=>⟨by omega,d,λx hx=>⟨λg=>?_,λg=>?_⟩⟩,λf=>?_⟩
   ·rw[hlp x q (by omega)]at g;obtain⟨b,b1,r,r1,r2⟩:=(hmem x).mp (J' hx);rw[eq_comm,List.all_eq_false];refine⟨b,b1,?_⟩;rw[Bool.not_eq_true,List.all_eq_false];refine⟨r,r1,?_⟩;rw[mo];intro h;rw[r2]at h;rw[h q (by omega)]at g;simp at g
   ·rw[hlp x q (by omega)]at g;have hw:W ((q:Int)+1)=((q+1:Nat):Int):=aQ (n:=8) (by omega) (by omega);rw[hw];refine⟨⟨q+1,rfl,by omega,λy hy j hj=>?_⟩,by omega⟩;rw[hx]at hy;cases hy
    by_cases ej:j=q
    ·subst ej;exact bh'.mp (by omega)
    ·exact hq2 x hx j (by omega)
   ·have hml:m<ids.length:=by omega
    have hw:W ((m:Int)+1)=((m+1:Nat):Int):=aQ (n:=ids.length) hml (by omega);rw[hw];have hx:ids[m]?=some ids[m]:=f' hml;generalize ids[m]=x at hx;refine⟨⟨m+1,rfl,hml,λa ha=>?_⟩,by omega⟩;rw[aB hx]at ha
    rcases ab'.mp ha with ha|ha
    ·exact hok a ha
    ·rw[L'.mp ha];exact mo.mpr λj hj=>hq2 x hx j (by omega)
  ·rw[V' (by omega)]at hok;rw[eq_comm,ay'];exact λb hb'=>ay'.mpr λr hr'=>hok _ ((hmem r.id).mpr ⟨b,hb',r,hr',rfl⟩)
def mi(l:List Tbl):PC Tryz.prog:=pcO 19 [(.s 4)] [.sl 4 (l.map Tbl.v) false] .k xJ (iC l) (λok=>let ⟨I0,m0,I1,m1,I2,m2,I3,m3,h⟩:=IZ l ok;⟨_,h,by kernel_rfl⟩) rfl (by kernel_rfl)
def MU(t:Tpl)(p:Pln)(t0:Bool):NF:=⟨[rR 2 0,rR 3 1,rB 15 t0],[.box (Tpl.v t),.box (Pln.v p)]⟩
def MT(t:Tpl)(p:Pln)(t1:Int×List Tbl):NF:=⟨[rR 2 0,rR 3 1,rV 6 2,rI 7 t1.1],[.box (Tpl.v t),.box (Pln.v p),vB 4 Tbl.v t1.2 (λ_=>rfl)]⟩
@[reducible] def HT:Nat→Type
 | 0=>Bool
 | 1=>Int×List Tbl
 | _=>Unit
def wN(r:List Tbl×Int):AV:=.tup [.vec 0,.int r.2]
def wO(r:List Tbl×Int):List (Option Blk):=[some (.vec 4 (r.1.map Tbl.v))]
def HS(t:Tpl)(p:Pln)(I0:Bool→Prop)(I1:Bool→(Int×List Tbl)→Prop)(m1:Bool→(Int×List Tbl)→Nat):Ax Tryz.prog HT (List Tbl×Int):=
 (.pass (.pass (.join 0 (MU t p) (λ(t0:Bool)=>I0 t0) (λb0=>(.callP (lD t)
(.br 128 ((aC t) != 0) (.bk 0 b0 ((true):Bool) [0,16])
(.callP (wY p)
(.bk 0 b0 ((!(bZ p)):Bool) [0,16]))))) λ(t0:Bool) =>
(.br 2 t0 (.cmdL (.nilT 4 4) (.retH ([],1) ⟨[rV 4 0,rI 5 1],[.vec 4 [] rfl]⟩ [34]))
(.cmdL (.nilT 6 4) (.loop 1 (MT t p) (I1 t0) (m1 t0) (0,[]) [0,1,34] λ(t1:Int×List Tbl) b1 =>
(.br 83 (decide (t1.1<((t.rs.map Rtr.v).length:Int))) (.elI 131 Rtr.v t.rs t1.1 λx1 =>
(.br 179 x1.cap (.elI 275 Rtr.v t.rs t1.1 λx2 =>
(.req 323 (aC t=0) λh3 =>
(.req 323 (p.es.length≤100) λh4 =>
(.callP (Hg t p x2.id h3 h4)
(.apX 355 Tbl.v t1.2 [jX t p x2.id] (t1.2.length+1)
(.bk 1 b1 (W (t1.1+1),t1.2++[jX t p x2.id]) [0,1,355]))))))
(.bk 1 b1 (W (t1.1+1),t1.2) [0,1,2])))
(.retH (t1.2,0) ⟨[rV 4 0,rI 5 0],[vB 4 Tbl.v t1.2 (λ_=>rfl)]⟩ [2]))))))))
theorem QZ(t:Tpl)(p:Pln):∃I0 I1 m1,(HS t p I0 I1 m1).vc wN wO (fG t p):=by
 refine⟨λb=>b=(decide (aC t≠0) || !bZ p),λ_ s=>dY t.rs (λx=>if x.cap=true then [jX t p x.id]else []) s.1 s.2,λ_ s=>t.rs.length-s.1.toNat,?_⟩;dsimp only[HS,HT,Ax.vp,Ax.vc];simp only[vcU,rfU,u'];refine⟨⟨λc=>by simp at c;simp[c],λc=>by simp at c;simp[c]⟩,?_⟩;rintro _ rfl;unfold fG;refine⟨λc=>by rw[F' (by simpa using c)],λc=>?_⟩;have c:¬(aC t≠0∨bZ p=false):=by simp at c;simp[c]
 have hc:aC t=0:=by simp at c;exact c.1
 have hn:=(ax hc).nr;have hpl:p.es.length≤24:=by
  have hp:bZ p=true:=by
   cases q:bZ p
   ·exact absurd (.inr q) c
   ·rfl
  unfold bZ at hp;rw[ae',R']at hp;exact hp.1.2.2
 rw[E' c];refine⟨dY.zero,?_⟩;rintro⟨i,out⟩ hX;simp only at hX ⊢;have hlen:=hX.len (b:=1) λx _=>by split<;>simp
 refine⟨λd=>⟨hX.idx,d,λx hx=>⟨λe=>⟨hX.idx,d,λy hy=>?_⟩,λe=>hX.step (by omega) hx (by rw[E' (by rw[e];simp)];simp)⟩⟩,λd=>by rw[hX.done d]⟩;rw[hx]at hy;cases hy;exact⟨hc,by omega,by omega,hX.step (by omega) hx (by rw[F' e])⟩
def Ra(t:Tpl)(p:Pln):HC Tryz.prog:=hcO 10 [(.a [(.s 2),(.s 5)]),(.a [.k,.k,(.s 2)])] [Tpl.v t,Pln.v p] [] .k wN wO (fG t p) (λ_ _=>let ⟨I0,I1,m1,h⟩:=QZ t p;⟨_,h,by kernel_rfl⟩) (by kernel_rfl) (by simp[hcB,cC,AV.belB,allB,ez,dv,wN,wO,Pln.v,Tpl.v,ae (v:=Edg.v) (λ_=>rfl),ae (v:=Lnk.v) (λ_=>rfl),ae (v:=Rtr.v) (λ_=>rfl),ae (v:=Tbl.v) (λ_=>rfl)])
def If(L:List Int)(l:List Tbl)(routers:Int)(t0:Int×Nat×List Tbl):NF:=⟨[rR 0 0,(1,.k,.sl 4 (l.map Tbl.v) false),rI 2 routers,rV 7 1,rI 8 t0.1],[.box (.agg [.sl 1 (L.map AV.int) false,.int t0.2.1]),vB 4 Tbl.v t0.2.2 (λ_=>rfl)]⟩
def Ie(L:List Int)(l:List Tbl)(routers:Int)(t0:Int×Nat×List Tbl)(x1:Tbl)(t1:Int×Nat×List Rw):NF:=⟨[rR 0 0,(1,.k,.sl 4 (l.map Tbl.v) false),rI 2 routers,rV 7 1,rI 8 t0.1,rR 9 2,rI 10 t1.1],[.box (.agg [.sl 1 (L.map AV.int) false,.int t1.2.1]),vB 4 Tbl.v t0.2.2 (λ_=>rfl),.box (.agg [.int x1.router,.int x1.sub,.int x1.len,.vec 3]),vB 2 Rw.v t1.2.2 (λ_=>rfl)]⟩
def Ic(L:List Int)(l:List Tbl)(routers:Int)(t0:Int×Nat×List Tbl)(x1:Tbl)(t1:Int×Nat×List Rw)(t2:List Rw):NF:=⟨[rR 0 0,(1,.k,.sl 4 (l.map Tbl.v) false),rI 2 routers,rV 7 1,rI 8 t0.1,rR 9 2,rI 10 t1.1,rI 11 (W (1+(Mod (al L (ab L (ab L t1.2.1))) (W (routers+1)))))],[.box (.agg [.sl 1 (L.map AV.int) false,.int (((ab L (ab L (ab L t1.2.1))):Nat):Int)]),vB 4 Tbl.v t0.2.2 (λ_=>rfl),.box (.agg [.int x1.router,.int x1.sub,.int x1.len,.vec 3]),vB 2 Rw.v t2 (λ_=>rfl)]⟩
def Ib(L:List Int)(l:List Tbl)(routers:Int)(t0:Int×Nat×List Tbl)(x1:Tbl)(t1:Int×Nat×List Rw)(t2:List Rw)(t3:Bool):NF:=⟨[rR 0 0,(1,.k,.sl 4 (l.map Tbl.v) false),rI 2 routers,rV 7 1,rI 8 t0.1,rR 9 2,rI 10 t1.1,rI 11 (W (1+(Mod (al L (ab L (ab L t1.2.1))) (W (routers+1))))),rI 12 (W (1+(Mod (al L (ab L (ab L (ab L t1.2.1)))) routers))),rB 70 t3],[.box (.agg [.sl 1 (L.map AV.int) false,.int (((ab L (ab L (ab L (ab L t1.2.1)))):Nat):Int)]),vB 4 Tbl.v t0.2.2 (λ_=>rfl),.box (.agg [.int x1.router,.int x1.sub,.int x1.len,.vec 3]),vB 2 Rw.v t2 (λ_=>rfl)]⟩
@[reducible] def Bx:Nat→Type
 | 0=>Int×Nat×List Tbl
 | 1=>Int×Nat×List Rw
 | 2=>(List Rw)
 | 3=>Bool
 | _=>Unit
def tV(r:Tap×List Tbl):AV:=.vec 1
def tW(r:Tap×List Tbl):List (Option Blk):=[some (.box (Tap.v r.1)),some (.vec 4 (r.2.map Tbl.v))]
def Bw(L:List Int)(p:Nat)(l:List Tbl)(routers:Int)(I0:(Int×Nat×List Tbl)→Prop)(m0:(Int×Nat×List Tbl)→Nat)(I1:Int×Nat×List Tbl→Tbl→(Int×Nat×List Rw)→Prop)(m1:Int×Nat×List Tbl→Tbl→(Int×Nat×List Rw)→Nat)(I2:Int×Nat×List Tbl→Tbl→Int×Nat×List Rw→(List Rw)→Prop)(I3:Int×Nat×List Tbl→Tbl→Int×Nat×List Rw→(List Rw)→Bool→Prop):Ax Tryz.prog Bx (Tap×List Tbl):=
 (.cmdL (.nilT 7 4) (.loop 0 (If L l routers) I0 m0 (0,p,[]) [0,49] λ(t0:Int×Nat×List Tbl) b0 =>
(.br 66 (decide (t0.1<((l.map Tbl.v).length:Int))) (.elI 98 Tbl.v l t0.1 λx1 =>
(.req 130 (okT x1) λh2 =>
(.callH [] (FZ x1 h2) 130
(.loop 1 (Ie L l routers t0 x1) (I1 t0 x1) (m1 t0 x1) (0,t0.2.1,x1.rows) [0,1,146,130] λ(t1:Int×Nat×List Rw) b1 =>
(.br 84 (decide (t1.1<((t1.2.2.map Rw.v).length:Int))) (.callH [0] (fp L t1.2.1 3) 100
(.br 132 (!(dl L t1.2.1 3)) (.bk 1 b1 (W (t1.1+1),ab L t1.2.1,t1.2.2) [0,1,2,3])
(.callH [0] (bB L (ab L t1.2.1) 4) 148
(.br 196 ((Mod (al L (ab L t1.2.1)) 4)==0) (.say (ck (cond (decide (0≤t1.1)) (decide (t1.1<((t1.2.2.map Rw.v).length:Int))) false)) (.stI 276 Rw.v t1.2.2 (λR=>Rf (t1.2.2.map Rw.v) (ck (decide (t1.1.toNat<t1.2.2.length))
(∀y3,t1.2.2[t1.1.toNat]?=some y3 →
((R y3))))) λy3 =>
(.say (λR=>Rf (α:=List AV) ((t1.2.2.map Rw.v).set t1.1.toNat (.agg [.int y3.id,.sl 0 [] true])) (Rf (Rw.v (⟨y3.id,[]⟩:Rw))
R)) (.cmd (.wkS 3 t1.1.toNat (.a [.k,(.s 1)]) Rw.v t1.2.2 (.agg [.int y3.id,.sl 0 [] true]) (⟨y3.id,[]⟩:Rw)) (.bk 1 b1 (W (t1.1+1),ab L (ab L t1.2.1),t1.2.2.set t1.1.toNat (⟨y3.id,[]⟩:Rw)) [0,1,2,3])))))
(.br 228 ((Mod (al L (ab L t1.2.1)) 4)==1) (.say (ck (cond (decide (0≤t1.1)) (decide (t1.1<((t1.2.2.map Rw.v).length:Int))) false)) (.stI 356 Rw.v t1.2.2 (λR=>Rf (t1.2.2.map Rw.v) (ck (decide (t1.1.toNat<t1.2.2.length))
(∀y4,t1.2.2[t1.1.toNat]?=some y4 →
((R y4))))) λy4 =>
(.say (λR=>Rf (α:=List AV) ((t1.2.2.map Rw.v).set t1.1.toNat (.agg [.int y4.id,.sl 1 [.int x1.router] true])) (Rf (Rw.v (⟨y4.id,[x1.router]⟩:Rw))
R)) (.cmd (.wkS 3 t1.1.toNat (.a [.k,(.s 1)]) Rw.v t1.2.2 (.agg [.int y4.id,.sl 1 [.int x1.router] true]) (⟨y4.id,[x1.router]⟩:Rw)) (.bk 1 b1 (W (t1.1+1),ab L (ab L t1.2.1),t1.2.2.set t1.1.toNat (⟨y4.id,[x1.router]⟩:Rw)) [0,1,2,3])))))
(.callH [0] (bB L (ab L (ab L t1.2.1)) (W (routers+1))) 276
(.join 2 (Ic L l routers t0 x1 t1) (λ(t2:List Rw)=>I2 t0 x1 t1 t2) (λb2=>(.br 388 ((W (1+(Mod (al L (ab L (ab L t1.2.1))) (W (routers+1))))) != x1.router) (.say (ck (cond (decide (0≤t1.1)) (decide (t1.1<((t1.2.2.map Rw.v).length:Int))) false)) (.stI 500 Rw.v t1.2.2 (λR=>Rf (t1.2.2.map Rw.v) (ck (decide (t1.1.toNat<t1.2.2.length))
(∀y5,t1.2.2[t1.1.toNat]?=some y5 →
((R y5))))) λy5 =>
(.say (λR=>Rf (α:=List AV) ((t1.2.2.map Rw.v).set t1.1.toNat (.agg [.int y5.id,.sl 1 [.int (W (1+(Mod (al L (ab L (ab L t1.2.1))) (W (routers+1)))))] true])) (Rf (Rw.v (⟨y5.id,[W (1+(Mod (al L (ab L (ab L t1.2.1))) (W (routers+1))))]⟩:Rw))
R)) (.cmd (.wkS 3 t1.1.toNat (.a [.k,(.s 1)]) Rw.v t1.2.2 (.agg [.int y5.id,.sl 1 [.int (W (1+(Mod (al L (ab L (ab L t1.2.1))) (W (routers+1)))))] true]) (⟨y5.id,[W (1+(Mod (al L (ab L (ab L t1.2.1))) (W (routers+1))))]⟩:Rw)) (.bk 2 b2 ((t1.2.2.set t1.1.toNat (⟨y5.id,[W (1+(Mod (al L (ab L (ab L t1.2.1))) (W (routers+1))))]⟩:Rw)):(List Rw)) [0,1,2,3])))))
(.bk 2 b2 ((t1.2.2):(List Rw)) [0,1,2,3]))) λ(t2:List Rw) =>
(.callH [0] (bB L (ab L (ab L (ab L t1.2.1))) routers) 36
(.join 3 (Ib L l routers t0 x1 t1 t2) (λ(t3:Bool)=>I3 t0 x1 t1 t2 t3) (λb3=>(.br 148 (decide ((W (1+(Mod (al L (ab L (ab L t1.2.1))) (W (routers+1)))))<(W (1+(Mod (al L (ab L (ab L (ab L t1.2.1)))) routers))))) (.br 244 ((W (1+(Mod (al L (ab L (ab L t1.2.1))) (W (routers+1))))) != x1.router) (.bk 3 b3 (((W (1+(Mod (al L (ab L (ab L (ab L t1.2.1)))) routers))) != x1.router):Bool) [0,1,2,3])
(.bk 3 b3 ((false):Bool) [0,1,2,3]))
(.bk 3 b3 ((false):Bool) [0,1,2,3]))) λ(t3:Bool) =>
(.br 4 t3 (.say (ck (cond (decide (0≤t1.1)) (decide (t1.1<((t2.map Rw.v).length:Int))) false)) (.stI 132 Rw.v t2 (λR=>Rf (t2.map Rw.v) (ck (decide (t1.1.toNat<t2.length))
(∀y6,t2[t1.1.toNat]?=some y6 →
((R y6))))) λy6 =>
(.say (λR=>Rf (α:=List AV) ((t2.map Rw.v).set t1.1.toNat (.agg [.int y6.id,.sl 1 [.int (W (1+(Mod (al L (ab L (ab L t1.2.1))) (W (routers+1))))),.int (W (1+(Mod (al L (ab L (ab L (ab L t1.2.1)))) routers)))] true])) (Rf (Rw.v (⟨y6.id,[W (1+(Mod (al L (ab L (ab L t1.2.1))) (W (routers+1)))),W (1+(Mod (al L (ab L (ab L (ab L t1.2.1)))) routers))]⟩:Rw))
R)) (.cmd (.wkS 3 t1.1.toNat (.a [.k,(.s 1)]) Rw.v t2 (.agg [.int y6.id,.sl 1 [.int (W (1+(Mod (al L (ab L (ab L t1.2.1))) (W (routers+1))))),.int (W (1+(Mod (al L (ab L (ab L (ab L t1.2.1)))) routers)))] true]) (⟨y6.id,[W (1+(Mod (al L (ab L (ab L t1.2.1))) (W (routers+1)))),W (1+(Mod (al L (ab L (ab L (ab L t1.2.1)))) routers))]⟩:Rw)) (.bk 1 b1 (W (t1.1+1),ab L (ab L (ab L (ab L t1.2.1))),t2.set t1.1.toNat (⟨y6.id,[W (1+(Mod (al L (ab L (ab L t1.2.1))) (W (routers+1)))),W (1+(Mod (al L (ab L (ab L (ab L t1.2.1)))) routers))]⟩:Rw)) [0,1,2,3])))))
(.bk 1 b1 (W (t1.1+1),ab L (ab L (ab L (ab L t1.2.1))),t2) [0,1,2,3])))))))))))
(.own 116 (.say (λR=>Idt (t0.2.2.map Tbl.v) (Rf (α:=List AV) [.agg [.int x1.router,.int x1.sub,.int x1.len,.vec 3]]
(ck (decide ((t0.2.2.map Tbl.v).length+1≤1048576))
R))) (.app 132 (λy:AV=>y) (t0.2.2.map Tbl.v) [.agg [.int x1.router,.int x1.sub,.int x1.len,.vec 3]]
(.say (λR=>Rf (α:=List AV) (t1.2.2.map Rw.v) (Bu Tbl.v t0.2.2 (⟨x1.router,x1.sub,x1.len,t1.2.2⟩:Tbl) (t0.2.2.map Tbl.v) (.agg [.int x1.router,.int x1.sub,.int x1.len,.vec 3])∧Rf (Tbl.v (⟨x1.router,x1.sub,x1.len,t1.2.2⟩:Tbl))
R)) (.cmd (.frzV 3 132 t0.2.2.length Tbl.v (t0.2.2++[(⟨x1.router,x1.sub,x1.len,t1.2.2⟩:Tbl)]) (.agg [.int x1.router,.int x1.sub,.int x1.len,.vec 3]) (⟨x1.router,x1.sub,x1.len,t1.2.2⟩:Tbl) (t1.2.2.map Rw.v) (ae (λ_=>rfl) t1.2.2)) (.bk 0 b0 (W (t0.1+1),t1.2.1,xx t0.2.2 (⟨x1.router,x1.sub,x1.len,t1.2.2⟩:Tbl)) [0,132])))))))))))
(.retH ((⟨L,t0.2.1⟩:Tap),t0.2.2) ⟨[rV 6 1],[.box (.agg [.sl 1 (L.map AV.int) false,.int t0.2.1]),vB 4 Tbl.v t0.2.2 (λ_=>rfl)]⟩ [0,1]))))
theorem NE(L:List Int)(p:Nat)(l:List Tbl)(n:Int)(h:eZ l):∃I0 m0 I1 m1 I2 I3,(Bw L p l n I0 m0 I1 m1 I2 I3).vc tV tW ((⟨L,(i7 L n l p).2⟩:Tap),(i7 L n l p).1):=by
 refine⟨λs=>∃k:Nat,s.1=k∧k≤l.length∧s.2.2.length=k∧(s.2.2++(i7 L n (l.drop k) s.2.1).1,(i7 L n (l.drop k) s.2.1).2)=i7 L n l p,λs=>l.length-s.1.toNat,
  λs b u=>∃j:Nat,u.1=j∧qO L n b.router b.rows s.2.1 j u.2.1 u.2.2,λs b u=>b.rows.length-u.1.toNat,
  λs b u v=>∀x,u.2.2[u.1.toNat]?=some x→v=if W (1+Mod (al L (ab L (ab L u.2.1))) (W (n+1)))≠b.router then u.2.2.set u.1.toNat ⟨x.id,[W (1+Mod (al L (ab L (ab L u.2.1))) (W (n+1)))]⟩else u.2.2,
  λs b u v t=>t=decide (W (1+Mod (al L (ab L (ab L u.2.1))) (W (n+1)))<W (1+Mod (al L (ab L (ab L (ab L u.2.1)))) n)∧W (1+Mod (al L (ab L (ab L u.2.1))) (W (n+1)))≠b.router∧W (1+Mod (al L (ab L (ab L (ab L u.2.1)))) n)≠b.router),?_⟩
 dsimp only[Bw,Bx,Ax.vp,Ax.vc];simp only[vcU,rfU,u'];obtain⟨hl,hb⟩:=h;refine⟨⟨0,rfl,by omega,rfl,rfl⟩,?_⟩;rintro⟨i,q,out⟩ ⟨k,hi,hk,ho,hw⟩;simp only at hi ho hw ⊢;subst hi
 refine⟨λc=>⟨by omega,c,λb hx=>⟨hb b (bn hx),⟨0,rfl,by omega,[],rfl,rfl,rfl⟩,?_⟩⟩,λc=>?_⟩
 ·rw[Int.toNat_natCast]at hx;have hbr:=(hb b (be hx)).1;rintro⟨j0,q1,rs⟩ ⟨j,hj,hI⟩;simp only at hj hI ⊢;subst hj;have hlen:=hI.len;have hjl:=hI.le;simp only[Int.toNat_natCast,hlen]
  refine⟨λc1=>?_,λc1=>?_⟩
  ·have hj:j<b.rows.length:=by omega
   have hat:=hI.at hj;have hw1:W ((j:Int)+1)=((j+1:Nat):Int):=aQ (n:=b.rows.length) hj (by omega);rw[hw1]
   have fin:∀{rs':List Rw} {q':Nat},rs'=rs.set j (gX L n b.router (b.rows[j]'hj) q1).1→q'=(gX L n b.router (b.rows[j]'hj) q1).2→(∃j':Nat,((j+1:Nat):Int)=j'∧qO L n b.router b.rows q j' q' rs')∧b.rows.length-((j+1:Nat):Int).toNat<b.rows.length-j:=λe1 e2 =>
    ⟨⟨j+1,rfl,hI.step hat hj e1 e2⟩,by omega⟩
   generalize b.rows[j]'hj=x at hat fin
   refine⟨λe=>?_,λe=>?_⟩
   ·have e:dl L q1 3=false:=by simpa using e
    have ex:gX L n b.router x q1=(x,ab L q1):=by rw[gX,F' e]
    exact fin (by rw[ex,ro hat]) (by rw[ex])
   have e:¬dl L q1 3=false:=by simpa using e
   refine⟨λe0=>⟨cY (by omega) c1,hj,λy hy=>?_⟩,λe0=>⟨λe1=>⟨cY (by omega) c1,hj,λy hy=>?_⟩,λe1=>⟨⟨λe2=>⟨cY (by omega) c1,hj,λy hy x2 hx2=>?_⟩,λe2 x2 hx2=>?_⟩,?_⟩⟩⟩
   ·rw[hat]at hy;cases hy;have ex:gX L n b.router x q1=(⟨x.id,[]⟩,ab L (ab L q1)):=by rw[gX,E' e,F' (eq_of_beq e0)]
    exact fin (by rw[ex]) (by rw[ex])
   ·rw[hat]at hy;cases hy;have ex:gX L n b.router x q1=(⟨x.id,[b.router]⟩,ab L (ab L q1)):=by rw[gX,E' e,E' (by simpa using e0),F' (eq_of_beq e1)]
    exact fin (by rw[ex]) (by rw[ex])
   ·rw[hat]at hy hx2;cases hy;cases hx2;rw[F' (by simpa using e2)]
   ·rw[E' (by simpa using e2)]
   rintro(v:List Rw) hv;have hv:=hv x hat
   generalize hA:W (1+Mod (al L (ab L (ab L q1))) (W (n+1)))=A at hv ⊢;generalize hM:W (1+Mod (al L (ab L (ab L (ab L q1)))) n)=M;have ex:gX L n b.router x q1=(⟨x.id,if A<M∧A≠b.router∧M≠b.router then [A,M]else if A≠b.router then [A]else x.nx⟩,ab L (ab L (ab L (ab L q1)))):=by
    rw[gX,E' e,E' (by simpa using e0),E' (by simpa using e1),hA,hM]
   refine⟨⟨λf1=>⟨λf2=>?_,λf2=>?_⟩,λf1=>?_⟩,?_⟩
   ·have f2:A≠b.router:=by simpa using f2
    rw[ag',R',bne_iff_ne];simp[f1,f2]
   ·have f2:A=b.router:=by simpa using f2
    simp[f2]
   ·simp[f1]
   rintro _ rfl
   refine⟨λg=>?_,λg=>?_⟩
   ·have g:=G' g;rw[F' g.2.1]at hv;subst hv;rw[aX'];refine⟨cY (by omega) (by omega),by omega,λy hy=>?_⟩;rw[List.getElem?_set_self (by omega)]at hy;cases hy;rw[List.set_set];exact fin (by rw[ex,F' g]) (by rw[ex])
   ·have g:=S' g
    by_cases f:A≠b.router
    ·rw[F' f]at hv;exact fin (by rw[hv,ex,E' g,F' f]) (by rw[ex])
    ·rw[E' f]at hv;exact fin (by rw[hv,ex,E' g,E' f,ro hat]) (by rw[ex])
  ·have hj:j=b.rows.length:=by omega
   obtain⟨D,d1,d2,d3⟩:=hI.ex;rw[hj,cm',lh,bc']at d3;rw[hj,cm',bc']at d2;subst d2;have hd:l.drop k=b::l.drop (k+1):=by
    obtain⟨h1,h2⟩:=P'.mp hx;rw[aP' h1,h2]
   rw[hd,i7,Ag,←d3]at hw;have hkl:k<l.length:=by omega
   have hw1:W ((k:Int)+1)=((k+1:Nat):Int):=aQ (n:=l.length) hkl (by omega);rw[hw1];exact⟨by omega,trivial,⟨k+1,rfl,hkl,by simp[ho],by rw[←hw];simp⟩,by omega⟩
 ·have:k=l.length:=by omega
  rw[this,cm',i7,bc']at hw;rw[←hw]
def NG(L:List Int)(p:Nat)(l:List Tbl)(routers:Int)(h:eZ l):HC Tryz.prog:=hcO 12 [.k,(.s 4),.k] [.ref 0 0,.sl 4 (l.map Tbl.v) false,.int routers] [.box (.agg [.sl 1 (L.map AV.int) false,.int p])] .k tV tW ((⟨L,(i7 L routers l p).2⟩:Tap),(i7 L routers l p).1) (λ_ _=>let ⟨I0,m0,I1,m1,I2,I3,h⟩:=NE L p l routers h;⟨_,h,by kernel_rfl⟩) (by kernel_rfl) (by simp[hcB,cC,AV.belB,allB,ez,dv,tV,tW,Tap.v,ae (v:=AV.int) (λ_=>rfl),ae (v:=Tbl.v) (λ_=>rfl)])
def wg(r:Tap×Tpl×Pln×List Tbl):AV:=.tup [.agg [.sl 2 (r.2.1.rs.map Rtr.v) false,.sl 5 (r.2.1.ls.map Lnk.v) false],.agg [.int r.2.2.1.sub,.int r.2.2.1.len,.sl 2 (r.2.2.1.es.map Edg.v) false],.vec 1]
def wh(r:Tap×Tpl×Pln×List Tbl):List (Option Blk):=[some (.box (Tap.v r.1)),some (.vec 4 (r.2.2.2.map Tbl.v))]
def we(L:List Int)(p:Nat)(most:Int):Ax Tryz.prog noS (Tap×Tpl×Pln×List Tbl):=
 (.req 81 (1≤most∧most≤20) λh1 =>
(.callH [0] (BK L p most 0 h1) 81
(.say (Rf ((((aW L p most 0).1).rs).map Rtr.v)) (.cmd (.frzE 81 ((((aW L p most 0).1).rs).map Rtr.v) (ae (λ_=>rfl) (((aW L p most 0).1).rs))) (.say (Rf ((((aW L p most 0).1).ls).map Lnk.v)) (.cmd (.frzE 82 ((((aW L p most 0).1).ls).map Lnk.v) (ae (λ_=>rfl) (((aW L p most 0).1).ls))) (.req 161 ((⟨((aW L p most 0).1).rs,((aW L p most 0).1).ls⟩:Tpl).rs.length≤100) λh2 =>
(.callH [0] (Di L ((aW L p most 0).2) (⟨((aW L p most 0).1).rs,((aW L p most 0).1).ls⟩:Tpl) 0 h2) 161
(.callH [] (Ra (⟨((aW L p most 0).1).rs,((aW L p most 0).1).ls⟩:Tpl) ((dH L ((aW L p most 0).2) (⟨((aW L p most 0).1).rs,((aW L p most 0).1).ls⟩:Tpl) 0).1)) 241
(.retH ((⟨L,(dH L ((aW L p most 0).2) (⟨((aW L p most 0).1).rs,((aW L p most 0).1).ls⟩:Tpl) 0).2⟩:Tap),(⟨((aW L p most 0).1).rs,((aW L p most 0).1).ls⟩:Tpl),(dH L ((aW L p most 0).2) (⟨((aW L p most 0).1).rs,((aW L p most 0).1).ls⟩:Tpl) 0).1,(fG (⟨((aW L p most 0).1).rs,((aW L p most 0).1).ls⟩:Tpl) ((dH L ((aW L p most 0).2) (⟨((aW L p most 0).1).rs,((aW L p most 0).1).ls⟩:Tpl) 0).1)).1) ⟨[rR 4 2,rR 5 3,rV 6 1],[.box (.agg [.sl 1 (L.map AV.int) false,.int ((((dH L ((aW L p most 0).2) (⟨((aW L p most 0).1).rs,((aW L p most 0).1).ls⟩:Tpl) 0).2):Nat):Int)]),vB 4 Tbl.v ((fG (⟨((aW L p most 0).1).rs,((aW L p most 0).1).ls⟩:Tpl) ((dH L ((aW L p most 0).2) (⟨((aW L p most 0).1).rs,((aW L p most 0).1).ls⟩:Tpl) 0).1)).1) (λ_=>rfl),.box (Tpl.v (⟨((aW L p most 0).1).rs,((aW L p most 0).1).ls⟩:Tpl)),.box (Pln.v ((dH L ((aW L p most 0).2) (⟨((aW L p most 0).1).rs,((aW L p most 0).1).ls⟩:Tpl) 0).1))]⟩ [0,241,1,17]))))))))))
theorem PY(L:List Int)(p:Nat)(most:Int)(h:1≤most∧most≤20):(we L p most).vc wg wh ((⟨L,(gR L p most).2⟩:Tap),(gR L p most).1):=by
 dsimp only[we,noS,Ax.vp,Ax.vc];simp only[vcU,rfU,u'];have hl:(aW L p most 0).1.rs.length≤20:=by
  have hk:=xP (L:=L) (p:=p) (m:=most) (by omega);unfold aW;rw[E' (λq=>by have:=q.1;omega)];unfold po;simp only[iP];omega
 exact⟨h,by omega,rfl⟩
def PZ(L:List Int)(p:Nat)(most:Int)(h:1≤most∧most≤20):HC Tryz.prog:=hcO 7 [.k,.k] [.ref 0 0,.int most] [.box (.agg [.sl 1 (L.map AV.int) false,.int p])] (.a [(.a [(.s 2),(.s 5)]),(.a [.k,.k,(.s 2)]),.k]) wg wh ((⟨L,(gR L p most).2⟩:Tap),(gR L p most).1) (λ_ _=>⟨(we L p most),PY L p most h,by kernel_rfl⟩) (by kernel_rfl) (by simp[hcB,cC,AV.belB,allB,ez,dv,wg,wh,Tap.v,ae (v:=AV.int) (λ_=>rfl),ae (v:=Edg.v) (λ_=>rfl),ae (v:=Lnk.v) (λ_=>rfl),ae (v:=Rtr.v) (λ_=>rfl),ae (v:=Tbl.v) (λ_=>rfl)])
theorem mL{L:List Int}{p:Nat}{m n:Int}(h1:1≤m)(h2:m≤20):(aW L p m n).1.rs.length≤50:=by
 have hk:=xP (L:=L) (p:=p) (m:=m) (by omega);have hb:(po L p m).rs.length≤20:=by unfold po;simp only[iP];omega
 unfold aW
 split
 ·generalize po L p m=g at hb;unfold IR
  split
  ·simp;omega
  ·(repeat' split)<;>simp[qe]<;>omega
 ·exact aF' hb (by omega)
theorem sL{t:Tpl}:∀{n:List Int} {s:List Int×List Int},(n.foldl (gM t) s).2.length≤s.2.length+n.length
 | [],s=>by simp
 | q::n,s=>by
  have h1:=sL (t:=t) (n:=n) (s:=gM t s q);have h2:(gM t s q).2.length≤s.2.length+1:=by
   unfold gM
   split
   ·exact nB _ _
   ·split<;>simp
  rw[aN',Y'];omega
theorem sH{t:Tpl}{d:List Int}:∀{f i:Nat} {seen out:List Int},(sI t d f i seen out).length≤out.length+f * t.rs.length
 | 0,i,seen,out=>by simp[sI]
 | f+1,i,seen,out=>by
  rw[sI]
  split
  ·rename_i x _;have h1:=sH (t:=t) (d:=d) (f:=f) (i:=i+1) (seen:=((eW t d x).foldl (gM t) (seen,out)).1) (out:=((eW t d x).foldl (gM t) (seen,out)).2);have h2:=sL (t:=t) (n:=eW t d x) (s:=(seen,out));have h3:=rk t d x;simp only at h2;rw[Nat.succ_mul];omega
  ·exact Nat.le_add_right _ _
theorem sG{t:Tpl}{f g:Int}:(jI t f g).length≤25 * t.rs.length:=by
 unfold jI
 split
 ·simp
 ·have:=sH (t:=t) (d:=to6 t g) (f:=25) (i:=0) (seen:=[f]) (out:=[]);simpa using this
theorem qY{L:List Int}{n:Int}:∀{l:List Tbl} {p:Nat},(i7 L n l p).1.length=l.length
 | [],p=>rfl
 | b::l,p=>by rw[i7,Y',Y',qY]
theorem qK{t:Tpl}{p:Pln}:(fG t p).1.length≤24∧∀b∈(fG t p).1,okT b:=by
 unfold fG
 split
 ·simp
 ·rename_i h;have hc:aC t=0:=U' λq=>h (.inl q);have hp:bZ p=true:=by
   cases q:bZ p
   ·exact absurd (.inr q) h
   ·rfl
  have hn:=(ax hc).nr;have hpl:p.es.length≤24:=by
   unfold bZ at hp;rw[ae',R']at hp;exact hp.1.2.2
  constructor
  ·have:∀l:List Rtr,(l.flatMap λx=>if x.cap=true then [jX t p x.id]else []).length≤l.length:=λl=>by
    induction l with
    | nil=>simp
    | cons y l ih =>
     rw[aq',List.length_append,Y'];have:(if y.cap=true then [jX t p y.id]else []).length≤1:=by split<;>simp
     omega
   exact aF' (this t.rs) hn
  ·intro b hb;obtain⟨x,hx,hb⟩:=bn'.mp hb
   split at hb
   ·rw[L'.mp hb];refine⟨by unfold jX;simp;omega,λr hr=>?_⟩;unfold jX at hr;obtain⟨e,he,rfl⟩:=aa'.mp hr;unfold qF;simp only
    split
    ·simp
    ·split
     ·have:=sG (t:=t) (f:=x.id) (g:=e.router);have:25 * t.rs.length≤25 * 24:=Nat.mul_le_mul_left _ hn;omega
     ·simp
   ·cases hb
end Go.Proofs.YtiobpjoadkfhdaaGreat
