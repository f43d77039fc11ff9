/- Texts joined: BH3 BH4 RK1 RK2 RK3 RK4 RK5 RK6 TW SF1 AP4 AP5 RF1 RF2 RF3 RF4 RF5 SF2. -/
import Derived.Test.YtdoacjojljgdcaaGreatEE8
set_option linter.unusedVariables false
set_option linter.unusedSimpArgs false
set_option linter.unusedSectionVars false
namespace Go.Proofs.YtdoacjojljgdcaaGreat
open Go Go.Am
theorem Ic(t:Tpl)(hc:ay t=0)(ds:List Hop)(h:Hop)(c:Int)(d:Int)(fl:AV)(s:S3)(M:Rws)(hI:gP t M)(bh bd:Nat)(hB:BeB t ds s M)(g8:s.tm 8=.ref bh 0)(g9:s.tm 9=.int c)(g12:s.tm 12=.ref bd 0)
  (hh:s.hp bh=some (.box (.agg [.int h.a,.int h.b]))) (hd:s.hp bd=some (.box (.agg [.int d,fl]))) (b1:bh<s.nx) (b2:bd<s.nx) (k:Nat) (Q:X→S3→Prop)
  (hQ:∀s',Kp r3 s s'→BeB t ds s' (t.ls.foldl (be2 t h c d) M)→gP t (t.ls.foldl (be2 t h c d) M)→Q .normal s'):AWP Tryz.prog 0 k Id Q s:=by
 have hnl:=cg hc;have hml:=bv;obtain⟨tm,hp,nx⟩:=s;simp only at g8 g9 g12 hd hh b1 b2;have q2:=hB.t2;have q0:=hB.h0;simp only at q2 q0;unfold Id;refine AWP.seq' ?_;refine AWP.reg' λK hK=>?_
 try simp only[ak,seval,q2,q0,Tpl.v,B']
 repeat (refine E' (by omega) ?_)
 refine hK _ _ _ ?_;clear hK K;refine AWP.block ?_
 refine AWP.loopS (λu:S3×Nat=>u.1) (λu=>(u.2≤t.ls.length∧gP t ((t.ls.take u.2).foldl (be2 t h c d) M))∧Kp r3 ⟨tm,hp,nx⟩ u.1∧BeB t ds u.1 ((t.ls.take u.2).foldl (be2 t h c d) M) ∧
  u.1.tm 46=.sl 5 (t.ls.map Lnk.v) false∧u.1.tm 47=.int t.ls.length∧u.1.tm 48=.int (u.2:Nat)) (λu=>t.ls.length-u.2) (i0:=(_,0)) ?_ au.refl ?_
 ·refine⟨⟨aG' _,hI⟩,⟨by dsimp only;omega,λr hr=>?_,λb x _ hx=>hx⟩,hB.keep (by dsimp only;omega) (λr hr=>?_) (λ_ _=>rfl),rfl,rfl,rfl⟩
  ·unfold r3 at hr;simp only[ag];repeat rw[F' (by omega)]
  ·simp only[ag];repeat rw[F' (by omega)]
 ·rintro⟨⟨tm1,hp1,nx1⟩,z⟩ ⟨⟨hz,hI1⟩,hK1,hB1,tL,tN,tI⟩;simp only at hz hI1 tL tN tI ⊢;refine AWP.seq' ?_;refine AWP.reg' λK hK=>?_
  try simp only[ak,seval,tN,tI]
  refine hK _ _ _ ?_;clear hK K;refine AWP.seq' ?_
  refine AWP.cond (b:=decide ((z:Int)<(t.ls.length:Int))) rfl (λe=>?_) (λe=>?_)
  ·have e:z<t.ls.length:=by have:=H' e;omega
   refine AWP.skip ?_;refine AWP.seq' (AWP.block (AWP.seq' ?_));have hy:t.ls[z]?=some t.ls[z]:=u' e;generalize t.ls[z]=x at hy;have hge:(t.ls.map Lnk.v).getD z .unk=Lnk.v x:=by rw[I',J',hy];rfl
   have k8:=(hK1.tm 8 (.inl (by omega))).trans g8;have k9:=(hK1.tm 9 (.inl (by omega))).trans g9;have k12:=(hK1.tm 12 (.inl (by omega))).trans g12;have kh:=hK1.hp _ _ b1 hh;have kd:=hK1.hp _ _ b2 hd;have kn:nx≤nx1:=hK1.nx;simp only at k8 k9 kh k12 kd;refine AWP.reg' λK hK=>?_
   try simp only[ak,seval,tL,tI,hge,Int.toNat_natCast,B',Lnk.v]
   refine⟨⟨by omega,by omega⟩,?_⟩;refine hK _ _ _ ?_;clear hK K;have hpl:∀(v1 v2 v3:Option Blk) b,b<nx1→upd (upd (upd hp1 (nx1+16+16+16) v1) (nx1+16+16+16) v2) (nx1+16+16+16) v3 b=hp1 b:=λv1 v2 v3 b hb=>by
    simp only[ag];repeat rw[F' (by omega)]
   have hBn:BeB t ds ⟨_,_,_⟩ ((t.ls.take z).foldl (be2 t h c d) M):=hB1.keep (s':=⟨upd (upd (upd (upd tm1 49 (AV.bool (decide ((z:Int)<(t.ls.length:Int))))) 50 ((Lnk.v x).rptr 0)) 51 (Lnk.v x)) 14 (.ref (nx1+16+16+16) 0),upd (upd (upd hp1 (nx1+16+16+16) (some (.box (.agg [.int 0,.int 0,.int 0,.int 0,.int 0])))) (nx1+16+16+16) none) (nx1+16+16+16) (some (.box (Lnk.v x))),nx1+16+16+16+16+16⟩) (by dsimp only;omega) (λr hr=>by simp only[ag];repeat rw[F' (by omega)]) (λb hb=>hpl _ _ _ b hb)
   refine Ia t hc ds h c d fl x (O' hy) _ _ hI1 bh bd (nx1+16+16+16) hBn ?_ ?_ ?_ rfl ?_ ?_ (ai _ _ _) ?_ ?_ ?_ k _ (λs' hk hb hi=>?_)
   ·simp only[ag];exact k8
   ·simp only[ag];exact k9
   ·simp only[ag];exact k12
   ·dsimp only;rw[hpl _ _ _ _ (by omega)];exact kh
   ·dsimp only;rw[hpl _ _ _ _ (by omega)];exact kd
   ·dsimp only;omega
   ·dsimp only;omega
   ·dsimp only;omega
   ·obtain⟨tm2,hp2,nx2⟩:=s';refine(show AWP _ _ _ _ _ _ from ?_);have qL:tm2 46=_:=(hk.tm 46 (.inr ⟨by omega,by omega⟩)).trans tL;have qN:tm2 47=_:=(hk.tm 47 (.inr ⟨by omega,by omega⟩)).trans tN;have qI:tm2 48=_:=(hk.tm 48 (.inr ⟨by omega,by omega⟩)).trans tI;have hw:IntKind.i64.wrap ((z:Int)+1)=((z+1:Nat):Int):=kN (by omega) (by omega);refine AWP.reg' λK hK=>?_
    try simp only[ak,seval,qI,hw]
    refine hK _ _ _ ?_;clear hK K;have hkn:nx1+16+16+16+16+16≤nx2:=hk.nx;have hF1:(t.ls.take (z+1)).foldl (be2 t h c d) M=(be2 t h c d) ((t.ls.take z).foldl (be2 t h c d) M) x:=eY _ _ hy
    refine⟨(_,z+1),⟨⟨by dsimp only;omega,?_⟩,⟨by dsimp only;omega,λr hr=>?_,λb v hb' hv=>?_⟩,?_,?_,?_,?_⟩,by dsimp only;omega,au.refl⟩
    ·dsimp only;rw[hF1];exact hi
    ·have hr':=hr;unfold r3 at hr';have e1:=hk.tm r (by unfold r4;omega);have e2:=hK1.tm r hr;dsimp only at e1 e2 ⊢;simp only[ag]at e1 ⊢;rw[F' (by omega),F' (by omega),e1]
     repeat rw[F' (by omega)]
     exact e2
    ·have e2:=hK1.hp b v hb' hv;have hb':b<nx:=hb';refine hk.hp b v (by dsimp only;omega) ?_;dsimp only;rw[hpl _ _ _ _ (by omega)];exact e2
    ·dsimp only;rw[hF1];exact hb.keep (by dsimp only;omega) (λr hr=>by simp only[ag];repeat rw[F' (by omega)]) (λ_ _=>rfl)
    ·simp only[ag];exact qL
    ·simp only[ag];exact qN
    ·simp only[ag];rfl
  ·have e:z=t.ls.length:=by have:=T' e;omega
   subst e;refine AWP.exit ?_;refine(show Q .normal _ from ?_);rw[List.take_length]at hI1 hB1
   refine hQ _ ⟨?_,λr hr=>?_,λb x hb hx=>hK1.hp b x hb hx⟩ (hB1.keep (by dsimp only;omega) (λr hr=>?_) (λ_ _=>rfl)) hI1
   ·have:=hK1.nx;dsimp only at this ⊢;omega
   ·have e2:=hK1.tm r hr;unfold r3 at hr;dsimp only at e2 ⊢;simp only[ag];rw[F' (by omega)];exact e2
   ·simp only[ag];rw[F' (by omega)]
theorem Ie(t:Tpl)(hc:ay t=0)(ds:List Hop)(h:Hop)(c:Int)  (s:S3) (M:Rws) (hI:gP t M) (bh:Nat) (hB:BeB t ds s M) (g8:s.tm 8=.ref bh 0) (g9:s.tm 9=.int c) 
  (hh:s.hp bh=some (.box (.agg [.int h.a,.int h.b])))  (b1:bh<s.nx) (k:Nat) (Q:X→S3→Prop)
  (hQ:∀s',Kp r2 s s'→BeB t ds s' (t.rs.foldl (be3 t h c) M)→gP t (t.rs.foldl (be3 t h c) M)→Q .normal s'):AWP Tryz.prog 0 k If Q s:=by
 have hnl:=cg hc;have hml:=bv;obtain⟨tm,hp,nx⟩:=s;simp only at g8 g9  hh b1;have q2:=hB.t2;have q0:=hB.h0;simp only at q2 q0;unfold If;refine AWP.seq' ?_;refine AWP.reg' λK hK=>?_
 try simp only[ak,seval,q2,q0,Tpl.v,B']
 repeat (refine E' (by omega) ?_)
 refine hK _ _ _ ?_;clear hK K;refine AWP.block ?_
 refine AWP.loopS (λu:S3×Nat=>u.1) (λu=>(u.2≤t.rs.length∧gP t ((t.rs.take u.2).foldl (be3 t h c) M))∧Kp r2 ⟨tm,hp,nx⟩ u.1∧BeB t ds u.1 ((t.rs.take u.2).foldl (be3 t h c) M) ∧
  u.1.tm 39=.sl 2 (t.rs.map Rtr.v) false∧u.1.tm 40=.int t.rs.length∧u.1.tm 41=.int (u.2:Nat)) (λu=>t.rs.length-u.2) (i0:=(_,0)) ?_ au.refl ?_
 ·refine⟨⟨aG' _,hI⟩,⟨by dsimp only;omega,λr hr=>?_,λb x _ hx=>hx⟩,hB.keep (by dsimp only;omega) (λr hr=>?_) (λ_ _=>rfl),rfl,rfl,rfl⟩
  ·unfold r2 at hr;simp only[ag];repeat rw[F' (by omega)]
  ·simp only[ag];repeat rw[F' (by omega)]
 ·rintro⟨⟨tm1,hp1,nx1⟩,z⟩ ⟨⟨hz,hI1⟩,hK1,hB1,tL,tN,tI⟩;simp only at hz hI1 tL tN tI ⊢;refine AWP.seq' ?_;refine AWP.reg' λK hK=>?_
  try simp only[ak,seval,tN,tI]
  refine hK _ _ _ ?_;clear hK K;refine AWP.seq' ?_
  refine AWP.cond (b:=decide ((z:Int)<(t.rs.length:Int))) rfl (λe=>?_) (λe=>?_)
  ·have e:z<t.rs.length:=by have:=H' e;omega
   refine AWP.skip ?_;refine AWP.seq' (AWP.block (AWP.seq' ?_));have hy:t.rs[z]?=some t.rs[z]:=u' e;generalize t.rs[z]=x at hy;have hge:(t.rs.map Rtr.v).getD z .unk=Rtr.v x:=by rw[I',J',hy];rfl
   have k8:=(hK1.tm 8 (.inl (by omega))).trans g8;have k9:=(hK1.tm 9 (.inl (by omega))).trans g9
   skip
   have kh:=hK1.hp _ _ b1 hh
   skip
   have kn:nx≤nx1:=hK1.nx;simp only at k8 k9 kh ;refine AWP.reg' λK hK=>?_
   try simp only[ak,seval,tL,tI,hge,Int.toNat_natCast,B',Rtr.v]
   refine⟨⟨by omega,by omega⟩,?_⟩;refine hK _ _ _ ?_;clear hK K;have hpl:∀(v1 v2 v3:Option Blk) b,b<nx1→upd (upd (upd hp1 (nx1+16+16+16) v1) (nx1+16+16+16) v2) (nx1+16+16+16) v3 b=hp1 b:=λv1 v2 v3 b hb=>by
    simp only[ag];repeat rw[F' (by omega)]
   have hBn:BeB t ds ⟨_,_,_⟩ ((t.rs.take z).foldl (be3 t h c) M):=hB1.keep (s':=⟨upd (upd (upd (upd tm1 42 (AV.bool (decide ((z:Int)<(t.rs.length:Int))))) 43 ((Rtr.v x).rptr 0)) 44 (Rtr.v x)) 12 (.ref (nx1+16+16+16) 0),upd (upd (upd hp1 (nx1+16+16+16) (some (.box (.agg [.int 0,.bool false])))) (nx1+16+16+16) none) (nx1+16+16+16) (some (.box (Rtr.v x))),nx1+16+16+16+16+16⟩) (by dsimp only;omega) (λr hr=>by simp only[ag];repeat rw[F' (by omega)]) (λb hb=>hpl _ _ _ b hb)
   refine Ic t hc ds h c x.id (.bool x.cap) _ _ hI1 bh (nx1+16+16+16) hBn ?_ ?_ rfl ?_ (ai _ _ _) ?_ ?_ k _ (λs' hk hb hi=>?_)
   ·simp only[ag];exact k8
   ·simp only[ag];exact k9
   ·dsimp only;rw[hpl _ _ _ _ (by omega)];exact kh
   ·dsimp only;omega
   ·dsimp only;omega
   ·obtain⟨tm2,hp2,nx2⟩:=s';refine(show AWP _ _ _ _ _ _ from ?_);have qL:tm2 39=_:=(hk.tm 39 (.inr ⟨by omega,by omega⟩)).trans tL;have qN:tm2 40=_:=(hk.tm 40 (.inr ⟨by omega,by omega⟩)).trans tN;have qI:tm2 41=_:=(hk.tm 41 (.inr ⟨by omega,by omega⟩)).trans tI;have hw:IntKind.i64.wrap ((z:Int)+1)=((z+1:Nat):Int):=kN (by omega) (by omega);refine AWP.reg' λK hK=>?_
    try simp only[ak,seval,qI,hw]
    refine hK _ _ _ ?_;clear hK K;have hkn:nx1+16+16+16+16+16≤nx2:=hk.nx;have hF1:(t.rs.take (z+1)).foldl (be3 t h c) M=(be3 t h c) ((t.rs.take z).foldl (be3 t h c) M) x:=eY _ _ hy
    refine⟨(_,z+1),⟨⟨by dsimp only;omega,?_⟩,⟨by dsimp only;omega,λr hr=>?_,λb v hb' hv=>?_⟩,?_,?_,?_,?_⟩,by dsimp only;omega,au.refl⟩
    ·dsimp only;rw[hF1];exact hi
    ·have hr':=hr;unfold r2 at hr';have e1:=hk.tm r (by unfold r3;omega);have e2:=hK1.tm r hr;dsimp only at e1 e2 ⊢;simp only[ag]at e1 ⊢;rw[F' (by omega),F' (by omega),e1]
     repeat rw[F' (by omega)]
     exact e2
    ·have e2:=hK1.hp b v hb' hv;have hb':b<nx:=hb';refine hk.hp b v (by dsimp only;omega) ?_;dsimp only;rw[hpl _ _ _ _ (by omega)];exact e2
    ·dsimp only;rw[hF1];exact hb.keep (by dsimp only;omega) (λr hr=>by simp only[ag];repeat rw[F' (by omega)]) (λ_ _=>rfl)
    ·simp only[ag];exact qL
    ·simp only[ag];exact qN
    ·simp only[ag];rfl
  ·have e:z=t.rs.length:=by have:=T' e;omega
   subst e;refine AWP.exit ?_;refine(show Q .normal _ from ?_);rw[List.take_length]at hI1 hB1
   refine hQ _ ⟨?_,λr hr=>?_,λb x hb hx=>hK1.hp b x hb hx⟩ (hB1.keep (by dsimp only;omega) (λr hr=>?_) (λ_ _=>rfl)) hI1
   ·have:=hK1.nx;dsimp only at this ⊢;omega
   ·have e2:=hK1.tm r hr;unfold r2 at hr;dsimp only at e2 ⊢;simp only[ag];rw[F' (by omega)];exact e2
   ·simp only[ag];rw[F' (by omega)]
def RM:AF:=
 ⟨139,2,[.tmp 4],
 .seq (.reg [⟨(some 2),.box (.t 0),none⟩,⟨(some 4),.move (.c (.val (.map none))),none⟩])
 (.seq (.reg [⟨(some 18),.mkm none,none⟩,⟨(some 5),.move (.t 18),none⟩])
 (.seq (.reg [⟨(some 19),.load true 2 (.t 2),none⟩,⟨(some 20),.call (.c (.func 93 [])) [(.t 19)],none⟩,⟨(some 6),.move (.t 20),none⟩])
 (.seq (.seq (.reg [⟨(some 21),.move (.t 1),none⟩,⟨(some 22),.len (.t 21),none⟩,⟨(some 23),.move (.c (.val (.int .i64 0))),none⟩])
 (.block 0 (.loop (.seq (.reg [⟨(some 24),.bin .lss (.t 23) (.t 22),none⟩])
 (.seq (.cond (.t 24) (.skip) (.exit 0))
 (.seq (.block 1 (.seq (.reg [⟨(some 25),.iaddr 2 (.t 21) (.t 23),none⟩,⟨(some 26),.load true 2 (.t 25),none⟩,⟨(some 8),.box (.c (.agg [(.val (.int .i64 0)),(.val (.int .i64 0))])),none⟩,⟨none,.store 2 (.t 8) (.t 26),none⟩])
 (.seq (.reg [⟨(some 28),.load true 2 (.t 2),none⟩,⟨(some 29),.faddr 0 (.t 8),none⟩,⟨(some 30),.load false 1 (.t 29),none⟩,⟨(some 31),.faddr 1 (.t 8),none⟩,⟨(some 32),.load false 1 (.t 31),none⟩,⟨(some 33),.call (.c (.func 92 [])) [(.t 28),(.t 30),(.t 32)],none⟩,⟨(some 27),.move (.t 33),none⟩,⟨(some 34),.ext 0 (.t 27),none⟩,⟨(some 35),.ext 1 (.t 27),none⟩,⟨(some 9),.move (.t 34),none⟩,⟨(some 10),.move (.t 35),none⟩])
 (.seq (.seq (.reg [⟨(some 36),.move (.t 10),none⟩,⟨(some 37),.un .not (.t 36),none⟩])
 (.cond (.t 37) (.exit 1) (.skip)))
 (.seq (.reg [⟨(some 38),.faddr 0 (.t 2),none⟩,⟨(some 39),.load false 1 (.t 38),none⟩,⟨(some 40),.len (.t 39),none⟩,⟨(some 41),.move (.c (.val (.int .i64 0))),none⟩])
 (.block 2 (.loop (.seq (.reg [⟨(some 42),.bin .lss (.t 41) (.t 40),none⟩])
 (.seq (.cond (.t 42) (.skip) (.exit 2))
 (.seq (.block 3 (.seq (.reg [⟨(some 43),.iaddr 2 (.t 39) (.t 41),none⟩,⟨(some 44),.load true 2 (.t 43),none⟩,⟨(some 12),.box (.c (.agg [(.val (.int .i64 0)),(.val (.bool false))])),none⟩,⟨none,.store 2 (.t 12) (.t 44),none⟩])
 (.seq (.reg [⟨(some 45),.faddr 1 (.t 2),none⟩,⟨(some 46),.load false 1 (.t 45),none⟩,⟨(some 47),.len (.t 46),none⟩,⟨(some 48),.move (.c (.val (.int .i64 0))),none⟩])
 (.block 4 (.loop (.seq (.reg [⟨(some 49),.bin .lss (.t 48) (.t 47),none⟩])
 (.seq (.cond (.t 49) (.skip) (.exit 4))
 (.seq (.block 5 (.seq (.reg [⟨(some 50),.iaddr 5 (.t 46) (.t 48),none⟩,⟨(some 51),.load true 5 (.t 50),none⟩,⟨(some 14),.box (.c (.agg [(.val (.int .i64 0)),(.val (.int .i64 0)),(.val (.int .i64 0)),(.val (.int .i64 0)),(.val (.int .i64 0))])),none⟩,⟨none,.store 5 (.t 14) (.t 51),none⟩])
 (.seq (.reg [⟨(some 52),.faddr 0 (.t 14),none⟩,⟨(some 53),.load false 1 (.t 52),none⟩,⟨(some 54),.faddr 1 (.t 14),none⟩,⟨(some 55),.load false 1 (.t 54),none⟩,⟨(some 56),.faddr 2 (.t 14),none⟩,⟨(some 57),.load false 1 (.t 56),none⟩,⟨(some 58),.build [(.val (.int .i64 0)),(.val (.int .i64 0)),(.val (.int .i64 0))] [(0,1,(.t 53)),(1,1,(.t 55)),(2,1,(.t 57))],none⟩,⟨(some 59),.faddr 1 (.t 14),none⟩,⟨(some 60),.load false 1 (.t 59),none⟩,⟨(some 61),.faddr 0 (.t 14),none⟩,⟨(some 62),.load false 1 (.t 61),none⟩,⟨(some 63),.faddr 3 (.t 14),none⟩,⟨(some 64),.load false 1 (.t 63),none⟩,⟨(some 65),.build [(.val (.int .i64 0)),(.val (.int .i64 0)),(.val (.int .i64 0))] [(0,1,(.t 60)),(1,1,(.t 62)),(2,1,(.t 64))],none⟩,⟨(some 66),.lit 3 2 (.agg [(.val (.int .i64 0)),(.val (.int .i64 0)),(.val (.int .i64 0))]) [(0,(.t 58)),(1,(.t 65))],none⟩,⟨(some 67),.len (.t 66),none⟩,⟨(some 68),.move (.c (.val (.int .i64 0))),none⟩])
 (.block 6 (.loop (.seq (.reg [⟨(some 69),.bin .lss (.t 68) (.t 67),none⟩])
 (.seq (.cond (.t 69) (.skip) (.exit 6))
 (.seq (.block 7 (.seq (.reg [⟨(some 70),.iaddr 3 (.t 66) (.t 68),none⟩,⟨(some 71),.load true 3 (.t 70),none⟩,⟨(some 16),.box (.c (.agg [(.val (.int .i64 0)),(.val (.int .i64 0)),(.val (.int .i64 0))])),none⟩,⟨none,.store 3 (.t 16) (.t 71),none⟩])
 (.seq (.reg [⟨(some 72),.faddr 0 (.t 16),none⟩,⟨(some 73),.load false 1 (.t 72),none⟩,⟨(some 74),.faddr 0 (.t 8),none⟩,⟨(some 75),.load false 1 (.t 74),none⟩,⟨(some 76),.bin .neq (.t 73) (.t 75),none⟩,⟨(some 77),.move (.t 76),none⟩,⟨(some 78),.move (.t 6),(some (77,true))⟩,⟨(some 79),.faddr 0 (.t 16),(some (77,true))⟩,⟨(some 80),.load false 1 (.t 79),(some (77,true))⟩,⟨(some 81),.faddr 0 (.t 12),(some (77,true))⟩,⟨(some 82),.load false 1 (.t 81),(some (77,true))⟩,⟨(some 83),.faddr 0 (.t 16),(some (77,true))⟩,⟨(some 84),.load false 1 (.t 83),(some (77,true))⟩,⟨(some 85),.faddr 1 (.t 16),(some (77,true))⟩,⟨(some 86),.load false 1 (.t 85),(some (77,true))⟩,⟨(some 87),.build [(.val (.int .i64 0)),(.val (.int .i64 0))] [(0,1,(.t 84)),(1,1,(.t 86))],(some (77,true))⟩,⟨(some 88),.faddr 2 (.t 16),(some (77,true))⟩,⟨(some 89),.load false 1 (.t 88),(some (77,true))⟩,⟨(some 90),.call (.c (.func 94 [])) [(.t 78),(.t 80),(.t 82),(.t 87),(.t 89)],(some (77,true))⟩,⟨(some 91),.pick (.t 77) (.t 90) (.c (.val (.bool false))),none⟩,⟨(some 17),.move (.t 91),none⟩])
 (.seq (.reg [⟨(some 92),.move (.t 17),none⟩,⟨(some 93),.move (.t 92),none⟩,⟨(some 94),.move (.t 6),(some (93,true))⟩,⟨(some 95),.faddr 0 (.t 16),(some (93,true))⟩,⟨(some 96),.load false 1 (.t 95),(some (93,true))⟩,⟨(some 97),.faddr 0 (.t 12),(some (93,true))⟩,⟨(some 98),.load false 1 (.t 97),(some (93,true))⟩,⟨(some 99),.load true 2 (.t 8),(some (93,true))⟩,⟨(some 100),.move (.t 9),(some (93,true))⟩,⟨(some 101),.call (.c (.func 94 [])) [(.t 94),(.t 96),(.t 98),(.t 99),(.t 100)],(some (93,true))⟩,⟨(some 102),.pick (.t 93) (.t 101) (.c (.val (.bool false))),none⟩,⟨(some 103),.move (.t 102),none⟩,⟨(some 104),.move (.t 6),(some (103,true))⟩,⟨(some 105),.faddr 1 (.t 16),(some (103,true))⟩,⟨(some 106),.load false 1 (.t 105),(some (103,true))⟩,⟨(some 107),.faddr 0 (.t 12),(some (103,true))⟩,⟨(some 108),.load false 1 (.t 107),(some (103,true))⟩,⟨(some 109),.load true 2 (.t 8),(some (103,true))⟩,⟨(some 110),.move (.t 9),(some (103,true))⟩,⟨(some 111),.call (.c (.func 94 [])) [(.t 104),(.t 106),(.t 108),(.t 109),(.t 110)],(some (103,true))⟩,⟨(some 112),.pick (.t 103) (.t 111) (.c (.val (.bool false))),none⟩,⟨(some 113),.move (.t 112),none⟩,⟨(some 114),.move (.t 5),(some (113,true))⟩,⟨(some 115),.faddr 0 (.t 16),(some (113,true))⟩,⟨(some 116),.load false 1 (.t 115),(some (113,true))⟩,⟨(some 117),.mget none ((.sl 0 [] true)) false (.t 114) (.t 116),(some (113,true))⟩,⟨(some 118),.faddr 1 (.t 16),(some (113,true))⟩,⟨(some 119),.load false 1 (.t 118),(some (113,true))⟩,⟨(some 120),.call (.c (.func 69 [])) [(.t 117),(.t 119)],(some (113,true))⟩,⟨(some 121),.un .not (.t 120),(some (113,true))⟩,⟨(some 122),.pick (.t 113) (.t 121) (.c (.val (.bool false))),none⟩])
 (.cond (.t 122) (.dreg [⟨(some 123),.move (.t 5),none⟩,⟨(some 124),.faddr 0 (.t 16),none⟩,⟨(some 125),.load false 1 (.t 124),none⟩,⟨(some 126),.move (.t 5),none⟩,⟨(some 127),.faddr 0 (.t 16),none⟩,⟨(some 128),.load false 1 (.t 127),none⟩,⟨(some 129),.mget none ((.sl 0 [] true)) false (.t 126) (.t 128),none⟩,⟨(some 130),.faddr 1 (.t 16),none⟩,⟨(some 131),.load false 1 (.t 130),none⟩,⟨(some 132),.lit 1 1 (.val (.int .i64 0)) [(0,(.t 131))],none⟩,⟨(some 133),.append 1 8 (.t 129) (.t 132),none⟩,⟨none,.mset none (.t 123) (.t 125) (.t 133),none⟩] [(2,5),(2,6),(2,8),(5,8),(6,8),(2,9),(5,9),(6,9),(2,10)]) (.skip))))))
 (.reg [⟨(some 134),.bin .add (.t 68) (.c (.val (.int .i64 1))),none⟩,⟨(some 68),.move (.t 134),none⟩])))))))))
 (.reg [⟨(some 135),.bin .add (.t 48) (.c (.val (.int .i64 1))),none⟩,⟨(some 48),.move (.t 135),none⟩])))))))))
 (.reg [⟨(some 136),.bin .add (.t 41) (.c (.val (.int .i64 1))),none⟩,⟨(some 41),.move (.t 136),none⟩])))))))))))
 (.reg [⟨(some 137),.bin .add (.t 23) (.c (.val (.int .i64 1))),none⟩,⟨(some 23),.move (.t 137),none⟩])))))))
 (.seq (.reg [⟨(some 138),.move (.t 5),none⟩,⟨(some 4),.move (.t 138),none⟩])
 (.ret)))))⟩
theorem ME:gm Tryz.prog Tryz.f49=some RM:=by kernel_rfl
def be4(t:Tpl)(M:Rws)(h:Hop):Rws:=if(bC t h.a h.b).2=true then t.rs.foldl (be3 t h (bC t h.a h.b).1) M else M
def fB(t:Tpl)(ds:List Hop):Rws:=ds.foldl (be4 t) []
def r1(r:Nat):Prop:=r<8∨18≤r∧r<24
theorem pr{t:Tpl}{f g:Int}(h:(bC t f g).2=true):ay t=0:=by
 unfold bC at h
 split at h
 ·cases h
 ·rename_i e;exact br'.mp e
theorem HW(t:Tpl)(ds:List Hop)(hd:ds.length≤1000):aZ Tryz.prog 49 [Tpl.v t,.sl 2 (ds.map Hop.v) false] [] (.mref 0) [some (iU (fB t ds))]:=by
 refine aZ.walk Tryz.func49 ME (by simp[RM]) ?_;unfold RM;simp only[fO,gk,ab',ap'];refine AWP.seq' ?_;refine AWP.reg' λK hK=>?_
 try simp only[ak,seval]
 refine⟨rfl,?_⟩;refine hK _ _ _ ?_;clear hK K;refine AWP.seq' ?_;refine AWP.reg' λK hK=>?_
 try simp only[ak,seval,sq]
 refine hK _ _ _ ?_;clear hK K;refine AWP.seq' ?_;refine AWP.reg' λK hK=>?_
 try simp only[ak,seval,Tpl.v]
 refine dq (show cm Tryz.prog (yc t).f [Tpl.v t] (Rq t)from(yc t).ok) (yc t).fn rfl rfl ?_ ?_
 ·exact⟨⟨trivial,trivial,trivial⟩,trivial⟩
 try simp only[ak,seval]
 refine hK _ _ _ ?_;clear hK K;refine AWP.seq' (AWP.seq' ?_);refine AWP.reg' λK hK=>?_
 try simp only[ak,seval,B']
 repeat (refine E' (by omega) ?_)
 refine hK _ _ _ ?_;clear hK K;refine AWP.block ?_;have hml:=bv
 refine AWP.loopS (λu:S3×Nat=>u.1) (λu=>(u.2≤ds.length∧gP t ((ds.take u.2).foldl (be4 t) []))∧BeB t ds u.1 ((ds.take u.2).foldl (be4 t) []) ∧
  u.1.tm 21=.sl 2 (ds.map Hop.v) false∧u.1.tm 22=.int ds.length∧u.1.tm 23=.int (u.2:Nat)) (λu=>ds.length-u.2) (i0:=(_,0)) ?_ au.refl ?_
 ·exact⟨⟨aG' _,⟨λp hp=>by simp at hp,λp hp=>by simp at hp,λp hp=>by simp at hp⟩⟩,⟨by dsimp only;omega,rfl,rfl,rfl,rfl,rfl,[],⟨rfl,rfl,bn',bn',by simp,by dsimp only;omega,by simp⟩⟩,rfl,rfl,rfl⟩
 ·rintro⟨⟨tm1,hp1,nx1⟩,z⟩ ⟨⟨hz,hI1⟩,hB1,t21,t22,t23⟩;simp only at hz hI1 t21 t22 t23 ⊢;refine AWP.seq' ?_;refine AWP.reg' λK hK=>?_
  try simp only[ak,seval,t22,t23]
  refine hK _ _ _ ?_;clear hK K;refine AWP.seq' ?_
  refine AWP.cond (b:=decide ((z:Int)<(ds.length:Int))) rfl (λe=>?_) (λe=>?_)
  ·have e:z<ds.length:=by have:=H' e;omega
   refine AWP.skip ?_;refine AWP.seq' (AWP.block (AWP.seq' ?_));have hy:ds[z]?=some ds[z]:=u' e;generalize ds[z]=h at hy;have hge:(ds.map Hop.v).getD z .unk=Hop.v h:=by rw[I',J',hy];rfl
   have k2:=hB1.t2;have k0:=hB1.h0;have kn:=hB1.nx;simp only at k2 k0 kn;obtain⟨f0,_⟩:=nxF (show 0<nx1 by omega);refine AWP.reg' λK hK=>?_
   try simp only[ak,seval,t21,t23,hge,Int.toNat_natCast,B',Hop.v]
   refine⟨⟨by omega,by omega⟩,?_⟩;refine hK _ _ _ ?_;clear hK K;refine AWP.seq' ?_;refine AWP.reg' λK hK=>?_
   try simp only[ak,seval,k2,k0,f0,Tpl.v,bb']
   refine dq (show cm Tryz.prog (pq t h.a h.b).f [Tpl.v t,.int h.a,.int h.b] (.tup [.int (bC t h.a h.b).1,.bool (bC t h.a h.b).2])from(pq t h.a h.b).ok) (pq t h.a h.b).fn rfl rfl ?_ ?_
   ·exact⟨⟨trivial,trivial,trivial⟩,trivial,trivial,trivial⟩
   try simp only[ak,seval,bb']
   refine hK _ _ _ ?_;clear hK K;have hF1:(ds.take (z+1)).foldl (be4 t) []=be4 t ((ds.take z).foldl (be4 t) []) h:=eY _ _ hy;have hw:IntKind.i64.wrap ((z:Int)+1)=((z+1:Nat):Int):=kN (by omega) (by omega);refine AWP.seq' (AWP.seq' ?_);refine AWP.reg' λK hK=>?_
   try simp only[ak,seval]
   refine hK _ _ _ ?_;clear hK K;cases e1:(bC t h.a h.b).2 with
   | false =>
    refine AWP.cond (b:=true) rfl (λ_=>AWP.exit ?_) (λh=>by cases h);refine(show AWP _ _ _ _ _ _ from ?_);have hF2:be4 t ((ds.take z).foldl (be4 t) []) h=(ds.take z).foldl (be4 t) []:=by unfold be4;rw[F' (by simp[e1])]
    rw[hF2]at hF1;refine AWP.reg' λK hK=>?_
    try simp only[ak,seval,t23,hw]
    refine hK _ _ _ ?_;clear hK K
    refine⟨(_,z+1),⟨⟨by dsimp only;omega,?_⟩,?_,?_,?_,?_⟩,by dsimp only;omega,au.refl⟩
    ·dsimp only;rw[hF1];exact hI1
    ·dsimp only;rw[hF1];refine hB1.keep (by dsimp only;omega) (λr hr=>by simp only[ag];repeat rw[F' (by omega)]) (λb hb=>?_);have hb':b<nx1:=hb;simp only[ag];repeat rw[F' (by omega)]
    ·simp only[ag];exact t21
    ·simp only[ag];exact t22
    ·simp only[ag];rfl
   | true =>
    have hc:=pr e1;refine AWP.cond (b:=false) rfl (λh=>by cases h) (λ_=>AWP.skip ?_);refine(show AWP _ _ _ If _ _ from ?_);have hF2:be4 t ((ds.take z).foldl (be4 t) []) h=t.rs.foldl (be3 t h (bC t h.a h.b).1) ((ds.take z).foldl (be4 t) []):=by unfold be4;rw[G' e1]
    rw[hF2]at hF1
    refine Ie t hc ds h (bC t h.a h.b).1 _ _ hI1 (nx1+48) (hB1.keep ?_ (λr hr=>?_) (λb hb=>?_)) rfl rfl ?_ ?_ _ _ (λs' hk hb hi=>?_)
    ·dsimp only;omega
    ·simp only[ag];repeat rw[F' (by omega)]
    ·have hb':b<nx1:=hb;simp only[ag];repeat rw[F' (by omega)]
    ·simp only[ag,↓reduceIte]
    ·dsimp only;omega
    ·obtain⟨tm2,hp2,nx2⟩:=s';refine(show AWP _ _ _ _ _ _ from ?_);have q21:tm2 21=_:=(hk.tm 21 (.inr ⟨by omega,by omega⟩)).trans t21;have q22:tm2 22=_:=(hk.tm 22 (.inr ⟨by omega,by omega⟩)).trans t22;have q23:tm2 23=_:=(hk.tm 23 (.inr ⟨by omega,by omega⟩)).trans t23;refine AWP.reg' λK hK=>?_
     try simp only[ak,seval,q23,hw]
     refine hK _ _ _ ?_;clear hK K
     refine⟨(_,z+1),⟨⟨by dsimp only;omega,?_⟩,?_,?_,?_,?_⟩,by dsimp only;omega,au.refl⟩
     ·dsimp only;rw[hF1];exact hi
     ·dsimp only;rw[hF1];exact hb.keep (by dsimp only;omega) (λr hr=>by simp only[ag];repeat rw[F' (by omega)]) (λ_ _=>rfl)
     ·simp only[ag];exact q21
     ·simp only[ag];exact q22
     ·simp only[ag];rfl
  ·have e:z=ds.length:=by have:=T' e;omega
   subst e;refine AWP.exit ?_;rw[List.take_length]at hI1;have hB1':BeB t ds ⟨tm1,hp1,nx1⟩ (fB t ds):=by have:=hB1;dsimp only at this;rw[List.take_length]at this;exact this
   obtain⟨n1,_,_,_,t5,_,ns,hF⟩:=hB1';simp only at n1 t5 hF;refine(show AWP _ _ _ _ _ _ from ?_);refine AWP.seq' ?_;refine AWP.reg' λK hK=>?_
   try simp only[ak,seval,t5]
   refine hK _ _ _ ?_;clear hK K;refine(show AWP _ _ _ _ _ _ from ?_);obtain⟨hp',w,h1,h2⟩:=(hF.keep (nx':=nx1+16+16+16) (λ_ _ _=>rfl) (by omega)).give (k:=0) (n:=139) (tm:=upd (upd (upd tm1 24 (AV.bool (decide ((ds.length:Int)<(ds.length:Int))))) 138 (AV.mref 32)) 4 (AV.mref 32))
   refine AWP.ret (ig w (iD [32] [(4,.mref 0)] rfl rfl ?_ ?_ rfl (by decide) ?_ (by simp)))
   ·simp only[L',forall_eq];exact⟨rfl,show(0:Nat)<1 by omega⟩
   ·refine⟨⟨?_,?_⟩,trivial⟩
    ·show hp' 32=_;rw[h1,iU,Blk.ren,aX _ (ec _)]
    ·exact aT (ec _)
   ·intro b hb;omega
def RK:AF:=
 ⟨38,4,[.tmp 5],
 .seq (.reg [⟨(some 5),.move (.c (.val (.int .i64 0))),none⟩])
 (.seq (.seq (.reg [⟨(some 12),.load false 1 (.t 1),none⟩,⟨(some 13),.move (.t 0),none⟩,⟨(some 14),.mget none ((.val (.int .i64 0))) true (.t 12) (.t 13),none⟩,⟨(some 11),.move (.t 14),none⟩,⟨(some 15),.ext 0 (.t 11),none⟩,⟨(some 16),.ext 1 (.t 11),none⟩,⟨(some 6),.move (.t 15),none⟩,⟨(some 7),.move (.t 16),none⟩])
 (.seq (.reg [⟨(some 17),.move (.t 7),none⟩])
 (.cond (.t 17) (.seq (.reg [⟨(some 18),.move (.t 6),none⟩,⟨(some 5),.move (.t 18),none⟩])
 (.ret)) (.skip))))
 (.seq (.reg [⟨(some 8),.move (.c (.val (.int .i64 0))),none⟩])
 (.seq (.seq (.reg [⟨(some 19),.load false 1 (.t 2),none⟩,⟨(some 20),.move (.t 0),none⟩,⟨(some 21),.mget none ((.sl 0 [] true)) false (.t 19) (.t 20),none⟩,⟨(some 22),.len (.t 21),none⟩,⟨(some 23),.move (.c (.val (.int .i64 0))),none⟩])
 (.block 0 (.loop (.seq (.reg [⟨(some 24),.bin .lss (.t 23) (.t 22),none⟩])
 (.seq (.cond (.t 24) (.skip) (.exit 0))
 (.seq (.block 1 (.seq (.reg [⟨(some 25),.iaddr 1 (.t 21) (.t 23),none⟩,⟨(some 26),.load false 1 (.t 25),none⟩,⟨(some 10),.move (.t 26),none⟩])
 (.reg [⟨(some 27),.move (.t 8),none⟩,⟨(some 28),.load false 1 (.t 3),none⟩,⟨(some 29),.move (.t 10),none⟩,⟨(some 30),.call (.t 28) [(.t 29)],none⟩,⟨(some 31),.bin .add (.c (.val (.int .i64 1))) (.t 30),none⟩,⟨(some 32),.max [(.t 27),(.t 31)],none⟩,⟨(some 8),.move (.t 32),none⟩])))
 (.reg [⟨(some 33),.bin .add (.t 23) (.c (.val (.int .i64 1))),none⟩,⟨(some 23),.move (.t 33),none⟩])))))))
 (.seq (.reg [⟨(some 34),.load false 1 (.t 1),none⟩,⟨(some 35),.move (.t 0),none⟩,⟨(some 36),.move (.t 8),none⟩,⟨none,.mset none (.t 34) (.t 35) (.t 36),none⟩])
 (.seq (.reg [⟨(some 37),.move (.t 8),none⟩,⟨(some 5),.move (.t 37),none⟩])
 (.ret))))))⟩
theorem MC:gm Tryz.prog Tryz.f51=some RK:=by kernel_rfl
def rkS(f:Int→Dis→Int×Dis)(s:Int×Dis)(x:Int):Int×Dis:=(dZ s.1 (W (1+(f x s.2).1)),(f x s.2).2)
def rkF(A:Rws):Nat→Int→Dis→Int×Dis
 | 0,_,kn=>(0,kn)
 | f+1,r,kn=>if aY kn r=true then(av kn r 0,kn)else
  (((av A r []).foldl (rkS (rkF A f)) (0,kn)).1,bB ((av A r []).foldl (rkS (rkF A f)) (0,kn)).2 r ((av A r []).foldl (rkS (rkF A f)) (0,kn)).1)
abbrev mpR(A:Rws):AV:=.mp none (kyL A) (A.map λp=>AV.sl 1 (p.2.map AV.int) false)
abbrev knB(kn:Dis):Blk:=.map none (kn.map λp=>MK.n p.1) (kn.map λp=>AV.int p.2)
def rkH(A:Rws)(kn:Dis):List Blk:=[.box (.mref 3),.box (mpR A),.box (.func 51 [.ref 0 0,.ref 1 0,.ref 2 0]),knB kn]
def JI:AC:=.block 0 (.loop (.seq (.reg [⟨(some 24),.bin .lss (.t 23) (.t 22),none⟩])
 (.seq (.cond (.t 24) (.skip) (.exit 0))
 (.seq (.block 1 (.seq (.reg [⟨(some 25),.iaddr 1 (.t 21) (.t 23),none⟩,⟨(some 26),.load false 1 (.t 25),none⟩,⟨(some 10),.move (.t 26),none⟩])
 (.reg [⟨(some 27),.move (.t 8),none⟩,⟨(some 28),.load false 1 (.t 3),none⟩,⟨(some 29),.move (.t 10),none⟩,⟨(some 30),.call (.t 28) [(.t 29)],none⟩,⟨(some 31),.bin .add (.c (.val (.int .i64 1))) (.t 30),none⟩,⟨(some 32),.max [(.t 27),(.t 31)],none⟩,⟨(some 8),.move (.t 32),none⟩])))
 (.reg [⟨(some 33),.bin .add (.t 23) (.c (.val (.int .i64 1))),none⟩,⟨(some 23),.move (.t 33),none⟩])))))
structure RkS (A:Rws) (r n:Int) (kn:Dis) (s:S3):Prop where
  nx:4≤s.nx
  t0:s.tm 0=.int r
  t1:s.tm 1=.ref 0 0
  t2:s.tm 2=.ref 1 0
  t3:s.tm 3=.ref 2 0
  t8:s.tm 8=.int n
  h0:s.hp 0=some (.box (.mref 3))
  h1:s.hp 1=some (.box (mpR A))
  h2:s.hp 2=some (.box (.func 51 [.ref 0 0,.ref 1 0,.ref 2 0]))
  h3:s.hp 3=some (knB kn)
theorem zx(kn:Dis):aV (kn.map λp=>AV.int p.2):=aB (ah (λ_=>rfl) _)
theorem uO{A:Rws}{n fr:Nat}{x v:Int}{kn kn':Dis}{hp:Hp}(b0 b1 b2 b3:Nat)(hnd:[b0,b1,b2,b3].Nodup)(hs:aZ Tryz.prog 51 [.int x,.ref 0 0,.ref 1 0,.ref 2 0] (rkH A kn) (.int v) ((rkH A kn').map some))
  (k0:hp b0=some (.box (.mref b3))) (k1:hp b1=some (.box (mpR A))) (k2:hp b2=some (.box (.func 51 [.ref b0 0,.ref b1 0,.ref b2 0]))) (k3:hp b3=some (knB kn)) :
  bn Tryz.prog n 51 [.int x,.ref b0 0,.ref b1 0,.ref b2 0] fr hp [b0,b1,b2,b3] (.int v) (eS [(b0,some (.box (.mref b3))),(b1,some (.box (mpR A))),(b2,some (.box (.func 51 [.ref b0 0,.ref b1 0,.ref b2 0]))),(b3,some (knB kn'))]):=by
 have e0:aW [b0,b1,b2,b3] fr 0=b0:=rfl;have e1:aW [b0,b1,b2,b3] fr 1=b1:=rfl;have e2:aW [b0,b1,b2,b3] fr 2=b2:=rfl;have e3:aW [b0,b1,b2,b3] fr 3=b3:=rfl;have kp:=λ(π:Nat→Nat) (kn:Dis)=>aX π (zx kn);have bl:∀(kn:Dis) y,y∈rkH A kn→y.bel 4:=λkn y hy=>by
  unfold rkH at hy;simp only[ad',aw',or_false]at hy
  rcases hy with rfl|rfl|rfl|rfl
  ·show(3:Nat)<4;omega
  ·trivial
  ·exact⟨show(0:Nat)<4 by omega,show(1:Nat)<4 by omega,show(2:Nat)<4 by omega,trivial⟩
  ·exact aT (zx kn)
 have rn:∀(kn:Dis),(rkH A kn).map (Blk.ren (aW [b0,b1,b2,b3] fr))=[.box (.mref b3),.box (mpR A),.box (.func 51 [.ref b0 0,.ref b1 0,.ref b2 0]),knB kn]:=λkn=>by
  unfold rkH;simp only[am',bI',Blk.ren,kp,AV.ren,dP,e0,e1,e2,e3]
 have key:=bn.hand (n:=n) (f:=fr) (hp:=hp) ⟨_,Tryz.func51,by kernel_rfl,by kernel_rfl⟩ hs [b0,b1,b2,b3] rfl hnd ⟨trivial,show(0:Nat)<4 by omega,show(1:Nat)<4 by omega,show(2:Nat)<4 by omega,trivial⟩ (λi b y h1 h2=>by
  refine⟨bl kn y (O' h2),?_⟩;have h3:((rkH A kn).map (Blk.ren (aW [b0,b1,b2,b3] fr)))[i]?=some (y.ren (aW [b0,b1,b2,b3] fr)):=by rw[J',h2];rfl
  rw[rn kn]at h3
  match i with
  | 0=>cases h1;exact k0.trans h3
  | 1=>cases h1;exact k1.trans h3
  | 2=>cases h1;exact k2.trans h3
  | 3=>cases h1;exact k3.trans h3
  | i+4=>simp at h1) (by simp[rkH]) (by simp[rkH]) trivial (λy hy=>by
   rw[Y']at hy;obtain⟨z,hz,e⟩:=hy;cases e;have:=bl kn' y hz;simpa[rkH]using this)
 have e4:cU [b0,b1,b2,b3] fr ((rkH A kn').map some)=eS [(b0,some (.box (.mref b3))),(b1,some (.box (mpR A))),(b2,some (.box (.func 51 [.ref b0 0,.ref b1 0,.ref b2 0]))),(b3,some (knB kn'))]:=by
  have:=rn kn';unfold rkH at this ⊢;simp only[am',bI',List.cons.injEq,and_true]at this;obtain⟨g0,g1,g2,g3⟩:=this;simp only[cU,am',bI',List.zipIdx_cons,List.zipIdx_nil,aF',ak',e0,e1,e2,e3,g0,g1,g2,g3,Nat.reduceAdd]
 rw[e4]at key;simpa only[dP,AV.ren,e0,e1,e2]using key
theorem rk_l(A:Rws)(f:Nat)(D:Int→Nat)(ih:∀(r:Int) (kn:Dis),D r<f→aZ Tryz.prog 51 [.int r,.ref 0 0,.ref 1 0,.ref 2 0] (rkH A kn) (.int (rkF A f r kn).1) ((rkH A (rkF A f r kn).2).map some))
  (r:Int) (row:List Int) (hl:row.length≤1000000) (hr:∀x∈row,D x<f) (kn:Dis) (s:S3) (hS:RkS A r 0 kn s) (t21:s.tm 21=.sl 1 (row.map AV.int) false) (t22:s.tm 22=.int row.length) (t23:s.tm 23=.int 0) (Q:X→S3→Prop)
  (hQ:∀s',RkS A r (row.foldl (rkS (rkF A f)) (0,kn)).1 (row.foldl (rkS (rkF A f)) (0,kn)).2 s'→Q .normal s'):AWP Tryz.prog 4 38 JI Q s:=by
 have hml:=bv;unfold JI;refine AWP.block ?_
 refine AWP.loopS (λu:S3×Nat=>u.1) (λu=>u.2≤row.length∧RkS A r ((row.take u.2).foldl (rkS (rkF A f)) (0,kn)).1 ((row.take u.2).foldl (rkS (rkF A f)) (0,kn)).2 u.1 ∧
  u.1.tm 21=.sl 1 (row.map AV.int) false∧u.1.tm 22=.int row.length∧u.1.tm 23=.int (u.2:Nat)) (λu=>row.length-u.2) (i0:=(_,0)) ⟨aG' _,hS,t21,t22,t23⟩ au.refl ?_
 rintro⟨⟨tm1,hp1,nx1⟩,z⟩ ⟨hz,⟨n1,s0,s1,s2,s3,s8,k0,k1,k2,k3⟩,q21,q22,q23⟩;simp only at hz n1 s0 s1 s2 s3 s8 k0 k1 k2 k3 q21 q22 q23 ⊢;refine AWP.seq' ?_;refine AWP.reg' λK hK=>?_
 try simp only[ak,seval,q22,q23]
 refine hK _ _ _ ?_;clear hK K;refine AWP.seq' ?_
 refine AWP.cond (b:=decide ((z:Int)<(row.length:Int))) rfl (λe=>?_) (λe=>?_)
 ·have e:z<row.length:=by have:=H' e;omega
  refine AWP.skip ?_;refine AWP.seq' (AWP.block (AWP.seq' ?_));have hy:row[z]?=some row[z]:=u' e;generalize row[z]=x at hy;have hge:(row.map AV.int).getD z .unk=.int x:=by rw[I',J',hy];rfl
  refine AWP.reg' λK hK=>?_
  try simp only[ak,seval,q21,q23,hge,Int.toNat_natCast,B']
  refine⟨⟨by omega,by omega⟩,?_⟩;refine hK _ _ _ ?_;clear hK K;refine(show AWP _ _ _ _ _ _ from ?_);generalize hP:(row.take z).foldl (rkS (rkF A f)) (0,kn)=p at *
  have hx:=ih x p.2 (hr x (O' hy));refine AWP.reg' λK hK=>?_
  try simp only[ak,seval,s3,s8,k2]
  refine ju rfl (by rfl) (uO 0 1 2 3 (by decide) hx k0 k1 k2 k3) ?_;rw[cQ,cQ,cQ,cQ,mz]
  try simp only[ak,seval,gB,ic]
  refine hK _ _ _ ?_;clear hK K;refine(show AWP _ _ _ _ _ _ from ?_);have hw:IntKind.i64.wrap ((z:Int)+1)=((z+1:Nat):Int):=kN (by omega) (by omega);refine AWP.reg' λK hK=>?_
  try simp only[ak,seval,q23,hw]
  refine hK _ _ _ ?_;clear hK K;have hF:(row.take (z+1)).foldl (rkS (rkF A f)) (0,kn)=rkS (rkF A f) p x:=by rw[eY _ _ hy,hP]
  refine⟨(_,z+1),⟨by dsimp only;omega,?_,?_,?_,rfl⟩,by dsimp only;omega,au.refl⟩
  ·dsimp only;rw[hF];exact⟨by dsimp only;omega,s0,s1,s2,s3,rfl,rfl,rfl,rfl,rfl⟩
  ·exact q21
  ·exact q22
 ·have e:z=row.length:=by have:=T' e;omega
  subst e;refine AWP.exit ?_;refine(show Q .normal _ from ?_);rw[List.take_length]at s8 k3;exact hQ _ ⟨by dsimp only;omega,s0,s1,s2,s3,s8,k0,k1,k2,k3⟩
theorem yT(A:Rws)(D:Int→Nat)(hA:∀p∈A,p.2.length≤1000000)(hD:∀r x,x∈av A r []→D x<D r):∀(f:Nat) (r:Int) (kn:Dis),D r<f →
  aZ Tryz.prog 51 [.int r,.ref 0 0,.ref 1 0,.ref 2 0] (rkH A kn) (.int (rkF A f r kn).1) ((rkH A (rkF A f r kn).2).map some)
 | 0,r,kn,h=>absurd h (by omega)
 | f+1,r,kn,h=>by
  have ih:=yT A D hA hD f;have hinj:∀x y:Int,MK.n x=MK.n y→x=y:=λx y h=>MK.n.inj h;have e1:=mS (kf:=MK.n) (vf:=AV.int) (l:=kn) (x:=r) hinj 0 true;have hrow:(av A r []).length≤1000000:=by
   cases e:aY A r with
   | false=>rw[dj e];simp
   | true=>exact hA _ (bU e)
  refine aZ.walk Tryz.func51 MC (by simp[RK]) ?_;unfold RK rkH;simp only[fO,gk,ab',ap'];refine AWP.seq' ?_;refine AWP.reg' λK hK=>?_
  try simp only[ak,seval]
  refine hK _ _ _ ?_;clear hK K;refine AWP.seq' (AWP.seq' ?_);refine AWP.reg' λK hK=>?_
  try simp only[ak,seval,bA,dR,AV.key,MK.fits,and_self,true_and,e1,cond_true]
  refine hK _ _ _ ?_;clear hK K;refine AWP.seq' ?_;refine AWP.reg' λK hK=>?_
  try simp only[ak,seval]
  refine hK _ _ _ ?_;clear hK K;cases hk:aY kn r with
  | true =>
   have hr:rkF A (f+1) r kn=(av kn r 0,kn):=by rw[rkF,G' hk]
   rw[hr];refine AWP.cond (b:=true) rfl (λ_=>?_) (λh=>by cases h);refine AWP.seq' ?_;refine AWP.reg' λK hK=>?_
   try simp only[ak,seval]
   refine hK _ _ _ ?_;clear hK K;exact AWP.ret (lA rfl rfl ⟨rfl,rfl,rfl,rfl,trivial⟩)
  | false =>
   refine AWP.cond (b:=false) rfl (λh=>by cases h) (λ_=>AWP.skip ?_);refine(show AWP _ _ _ _ _ _ from ?_);refine AWP.seq' ?_;refine AWP.reg' λK hK=>?_
   try simp only[ak,seval]
   refine hK _ _ _ ?_;clear hK K;refine AWP.seq' (AWP.seq' ?_);have hinj':=mi (kf:=MK.n) (vf:=λl:List Int=>AV.sl 1 (l.map AV.int) false) (l:=A) (x:=r) (z:=[]) (zz:=.sl 0 [] true) (ok:=false) hinj;have hinj2:=qc (kf:=MK.n) (vf:=λl:List Int=>AV.sl 1 (l.map AV.int) false) (l:=A) (x:=r) (zz:=.sl 0 [] true) (ok:=false) hinj;have hr:rkF A (f+1) r kn=(((av A r []).foldl (rkS (rkF A f)) (0,kn)).1,bB ((av A r []).foldl (rkS (rkF A f)) (0,kn)).2 r ((av A r []).foldl (rkS (rkF A f)) (0,kn)).1):=by rw[rkF,F' (by simp[hk])]
   rw[hr];generalize hrv:av A r []=row at *
   generalize hP:row.foldl (rkS (rkF A f)) (0,kn)=p at *
   cases ha:aY A r with
   | true =>
    have e2:=hinj' ha;simp only[cond_false]at e2;refine AWP.reg' λK hK=>?_
    try simp only[ak,seval,bA,dR,AV.key,MK.fits,and_self,true_and,e2,kyL,B']
    refine hK _ _ _ ?_;clear hK K;refine(show AWP Tryz.prog 4 38 JI _ _ from ?_);refine rk_l A f D ih r row hrow (λx hx=>by have:=hD r x (by rw[hrv];exact hx);omega) kn _ ⟨by dsimp only;omega,rfl,rfl,rfl,rfl,rfl,rfl,rfl,rfl,rfl⟩ (by simp only[ag];rfl) (by simp only[ag];rfl) rfl _ (λs' hS=>?_);rw[hP]at hS;obtain⟨tm1,hp1,nx1⟩:=s';obtain⟨n1,s0,s1,s2,s3,s8,k0,k1,k2,k3⟩:=hS;simp only at n1 s0 s1 s2 s3 s8 k0 k1 k2 k3;refine(show AWP _ _ _ _ _ _ from ?_);have e3:=jp (kf:=MK.n) (vf:=AV.int) (l:=p.2) (x:=r) hinj none p.1;refine AWP.seq' ?_;refine AWP.reg' λK hK=>?_
    try simp only[ak,seval,s0,s1,s8,k0,k3,bL,AV.key,MK.fits,and_self,true_and,e3]
    refine hK _ _ _ ?_;clear hK K;refine AWP.seq' ?_;refine AWP.reg' λK hK=>?_
    try simp only[ak,seval,s8]
    refine hK _ _ _ ?_;clear hK K;exact AWP.ret (lA rfl rfl ⟨k0,k1,k2,rfl,trivial⟩)
   | false =>
    have e2:=hinj2 ha;simp only[cond_false]at e2;have hr0:row=[]:=by rw[←hrv,dj ha]
    subst hr0;refine AWP.reg' λK hK=>?_
    try simp only[ak,seval,bA,dR,AV.key,MK.fits,and_self,true_and,e2,kyL,B']
    refine hK _ _ _ ?_;clear hK K;refine AWP.weak (au.subT 21 (y:=.sl 1 [] false) Sub.nil) ?_;refine(show AWP Tryz.prog 4 38 JI _ _ from ?_);refine rk_l A f D ih r [] hrow (λx hx=>by simp at hx) kn _ ⟨by dsimp only;omega,rfl,rfl,rfl,rfl,rfl,rfl,rfl,rfl,rfl⟩ rfl rfl rfl _ (λs' hS=>?_);rw[hP]at hS;obtain⟨tm1,hp1,nx1⟩:=s';obtain⟨n1,s0,s1,s2,s3,s8,k0,k1,k2,k3⟩:=hS;simp only at n1 s0 s1 s2 s3 s8 k0 k1 k2 k3;refine(show AWP _ _ _ _ _ _ from ?_);have e3:=jp (kf:=MK.n) (vf:=AV.int) (l:=p.2) (x:=r) hinj none p.1;refine AWP.seq' ?_;refine AWP.reg' λK hK=>?_
    try simp only[ak,seval,s0,s1,s8,k0,k3,bL,AV.key,MK.fits,and_self,true_and,e3]
    refine hK _ _ _ ?_;clear hK K;refine AWP.seq' ?_;refine AWP.reg' λK hK=>?_
    try simp only[ak,seval,s8]
    refine hK _ _ _ ?_;clear hK K;exact AWP.ret (lA rfl rfl ⟨k0,k1,k2,rfl,trivial⟩)
def Ph:AC:=.seq (.reg [⟨(some 34),.mkm none,none⟩,⟨(some 11),.box (.c (.val (.map none))),none⟩,⟨none,.store 1 (.t 11) (.t 34),none⟩])
 (.seq (.reg [⟨(some 12),.box (.c (.val (.nilFunc))),none⟩])
 (.seq (.reg [⟨(some 35),.mkf 51 [(.t 11),(.t 10),(.t 12)],none⟩,⟨none,.store 1 (.t 12) (.t 35),none⟩])
 (.seq (.reg [⟨(some 13),.move (.c (.sl 0 [] true)),none⟩])
 (.seq (.seq (.reg [⟨(some 36),.faddr 0 (.t 2),none⟩,⟨(some 37),.load false 1 (.t 36),none⟩,⟨(some 38),.len (.t 37),none⟩,⟨(some 39),.move (.c (.val (.int .i64 0))),none⟩])
 (.block 0 (.loop (.seq (.reg [⟨(some 40),.bin .lss (.t 39) (.t 38),none⟩])
 (.seq (.cond (.t 40) (.skip) (.exit 0))
 (.seq (.block 1 (.seq (.reg [⟨(some 41),.iaddr 2 (.t 37) (.t 39),none⟩,⟨(some 42),.load true 2 (.t 41),none⟩,⟨(some 15),.box (.c (.agg [(.val (.int .i64 0)),(.val (.bool false))])),none⟩,⟨none,.store 2 (.t 15) (.t 42),none⟩])
 (.dreg [⟨(some 43),.move (.t 13),none⟩,⟨(some 44),.faddr 0 (.t 15),none⟩,⟨(some 45),.load false 1 (.t 44),none⟩,⟨(some 46),.load false 1 (.t 12),none⟩,⟨(some 47),.faddr 0 (.t 15),none⟩,⟨(some 48),.load false 1 (.t 47),none⟩,⟨(some 49),.call (.t 46) [(.t 48)],none⟩,⟨(some 50),.build [(.val (.int .i64 0)),(.val (.int .i64 0))] [(0,1,(.t 45)),(1,1,(.t 49))],none⟩,⟨(some 51),.lit 2 1 (.agg [(.val (.int .i64 0)),(.val (.int .i64 0))]) [(0,(.t 50))],none⟩,⟨(some 52),.append 2 16 (.t 43) (.t 51),none⟩,⟨(some 13),.move (.t 52),none⟩] [(2,3),(2,5),(3,5),(2,6)])))
 (.reg [⟨(some 53),.bin .add (.t 39) (.c (.val (.int .i64 1))),none⟩,⟨(some 39),.move (.t 53),none⟩])))))))
 (.seq (.reg [⟨(some 54),.move (.t 13),none⟩,⟨(some 4),.move (.t 54),none⟩,⟨(some 5),.move (.c (.val (.int .i64 0))),none⟩])
 (.ret))))))
def rkO(A:Rws)(N:Nat)(s:List Rnk×Dis)(r:Rtr):List Rnk×Dis:=(s.1++[⟨r.id,(rkF A N r.id s.2).1⟩],(rkF A N r.id s.2).2)
theorem JH(t:Tpl)(A:Rws)(D:Int→Nat)(N:Nat)(hA:∀p∈A,p.2.length≤1000000)(hD:∀r x,x∈av A r []→D x<D r)(hN:∀r,D r<N)(ht:t.rs.length≤1000)(tm:Nat→AV)(hp:Hp)(t2:tm 2=.ref 0 0)(h0:hp 0=some (.box (Tpl.v t)))
  (t10:tm 10=.ref 352 0) (h10:hp 352=some (.box (mpR A))):AWP Tryz.prog 0 55 Ph (fin 0 55 [.tmp 4,.tmp 5] (.tup [.sl 2 ((t.rs.foldl (rkO A N) ([],[])).1.map Rnk.v) false,.int 0]) []) ⟨tm,hp,1000⟩:=by
 have hml:=bv;unfold Ph;refine AWP.seq' ?_;refine AWP.reg' λK hK=>?_
 try simp only[ak,seval,sq]
 refine hK _ _ _ ?_;clear hK K;refine AWP.seq' ?_;refine AWP.reg' λK hK=>?_
 try simp only[ak,seval]
 refine hK _ _ _ ?_;clear hK K;refine AWP.seq' ?_;refine AWP.reg' λK hK=>?_
 try simp only[ak,seval,t10]
 refine hK _ _ _ ?_;clear hK K;refine AWP.seq' ?_;refine AWP.reg' λK hK=>?_
 try simp only[ak,seval]
 refine hK _ _ _ ?_;clear hK K;refine AWP.seq' (AWP.seq' ?_);refine AWP.reg' λK hK=>?_
 try simp only[ak,seval,t2,h0,Tpl.v,B']
 repeat (refine E' (by omega) ?_)
 refine hK _ _ _ ?_;clear hK K;refine AWP.block ?_;refine AWP.weak (au.nilvec (k:=0) 13 0 2 (by simp only[ag];rfl) (aG' _)) ?_
 refine AWP.loopS (λu:S3×Nat=>u.1) (λu=>u.2≤t.rs.length∧(1177≤u.1.nx∧u.1.tm 12=.ref 1048 0∧u.1.tm 37=.sl 2 (t.rs.map Rtr.v) false∧u.1.tm 38=.int t.rs.length∧u.1.tm 39=.int (u.2:Nat)) ∧
  (u.1.hp 1016=some (.box (.mref 1000))∧u.1.hp 352=some (.box (mpR A))∧u.1.hp 1048=some (.box (.func 51 [.ref 1016 0,.ref 352 0,.ref 1048 0]))∧u.1.hp 1000=some (knB ((t.rs.take u.2).foldl (rkO A N) ([],[])).2)) ∧
  ∃b,u.1.tm 13=.vec b∧b<u.1.nx∧u.1.hp b=some (.vec 2 (((t.rs.take u.2).foldl (rkO A N) ([],[])).1.map Rnk.v))) (λu=>t.rs.length-u.2) (i0:=(_,0)) ?_ au.refl ?_
 ·exact⟨aG' _,⟨V' _,rfl,rfl,rfl,rfl⟩,⟨rfl,h10,rfl,rfl⟩,1176,rfl,by dsimp only;omega,rfl⟩
 ·rintro⟨⟨tm1,hp1,nx1⟩,z⟩ ⟨hz,⟨n1,q12,q37,q38,q39⟩,⟨k0,k1,k2,k3⟩,b,qb,hb,kb⟩;simp only at hz n1 q12 q37 q38 q39 k0 k1 k2 k3 qb hb kb ⊢;refine AWP.seq' ?_;refine AWP.reg' λK hK=>?_
  try simp only[ak,seval,q38,q39]
  refine hK _ _ _ ?_;clear hK K;refine AWP.seq' ?_
  refine AWP.cond (b:=decide ((z:Int)<(t.rs.length:Int))) rfl (λe=>?_) (λe=>?_)
  ·have e:z<t.rs.length:=by have:=H' e;omega
   refine AWP.skip ?_;refine AWP.seq' (AWP.block (AWP.seq' ?_));have hy:t.rs[z]?=some t.rs[z]:=u' e;generalize t.rs[z]=x at hy;have hge:(t.rs.map Rtr.v).getD z .unk=Rtr.v x:=by rw[I',J',hy];rfl
   refine AWP.reg' λK hK=>?_
   try simp only[ak,seval,q37,q39,hge,Int.toNat_natCast,B',Rtr.v]
   refine⟨⟨by omega,by omega⟩,?_⟩;refine hK _ _ _ ?_;clear hK K;refine(show AWP _ _ _ _ _ _ from ?_);have hF:(t.rs.take (z+1)).foldl (rkO A N) ([],[])=rkO A N ((t.rs.take z).foldl (rkO A N) ([],[])) x:=eY _ _ hy;have hpl:((t.rs.take z).foldl (rkO A N) ([],[])).1.length≤1000:=by
    have:∀(l:List Rtr) (s:List Rnk×Dis),(l.foldl (rkO A N) s).1.length=s.1.length+l.length:=λl=>by
     induction l with
     | nil=>intro s;rfl
     | cons r l ih=>intro s;rw[at',ih];simp[rkO];omega
    rw[this,ar'];simp;omega
   generalize hP:(t.rs.take z).foldl (rkO A N) ([],[])=p at *
   have hx:=yT A D hA hD N x.id p.2 (hN _);obtain⟨f1048,_⟩:=nxF (show 1048<nx1 by omega);refine AWP.dreg' λK hK=>?_
   try simp only[ak,seval,qb,q12,k2,f1048,bb']
   have hpl2:∀(v1 v2 v3:Option Blk) b,b<nx1→upd (upd (upd hp1 (nx1+48) v1) (nx1+48) v2) (nx1+48) v3 b=hp1 b:=λv1 v2 v3 b hb=>by
    simp only[ag];repeat rw[F' (by omega)]
   have hne:∀{c:Nat} {y:Blk},hp1 c=some y→(∀es,y≠.vec 2 es)→(b=c)=False∧(c=b)=False:=λh1 h2=>by
    refine⟨eq_false λe=>?_,eq_false λe=>?_⟩
    ·subst e;rw[kb]at h1;cases h1;exact h2 _ rfl
    ·subst e;rw[kb]at h1;cases h1;exact h2 _ rfl
   obtain⟨nb0,nb0'⟩:=hne k0 (λ_ h=>by cases h);obtain⟨nb1,nb1'⟩:=hne k1 (λ_ h=>by cases h);obtain⟨nb2,nb2'⟩:=hne k2 (λ_ h=>by cases h);obtain⟨nb3,nb3'⟩:=hne k3 (λ_ h=>by cases h);obtain⟨fb,fb',_,_⟩:=nxF hb
   refine Gn [1016,352,1048,1000] rfl (by rfl) (uO 1016 352 1048 1000 (by decide) hx ((hpl2 _ _ _ _ (by omega)).trans k0) ((hpl2 _ _ _ _ (by omega)).trans k1) ((hpl2 _ _ _ _ (by omega)).trans k2) ((hpl2 _ _ _ _ (by omega)).trans k3)) (λc h=>?_) ?_
   ·by_cases a0:c=1016
    ·simp[a0]
    by_cases a1:c=352
    ·simp[a1]
    by_cases a2:c=1048
    ·simp[a2]
    by_cases a3:c=1000
    ·simp[a3]
    exact absurd (by simp[eS,cX,a0,a1,a2,a3]) h
   rw[cQ,cQ,cQ,cQ,mz]
   try simp only[ak,seval]
   refine iE ?_
   try simp only[ak,seval,bp,eC,nb0,nb1,nb2,nb3,nb0',nb1',nb2',nb3',fb,fb',kb,bb',B']
   obtain⟨g1,g1',_⟩:=nxF (show 1016<nx1 by omega);obtain⟨g2,g2',_⟩:=nxF (show 352<nx1 by omega);obtain⟨g3,g3',_⟩:=nxF (show 1048<nx1 by omega);obtain⟨g4,g4',_⟩:=nxF (show 1000<nx1 by omega)
   refine⟨⟨by omega,by omega⟩,?_,?_⟩
   ·simp[iO,pj,bK,AOp.opers,aR,evO,ag,g1,g2,g3,g4,g1',g2',g3',g4']
   refine hK _ _ _ ?_;clear hK K;refine(show AWP _ _ _ _ _ _ from ?_);have hw:IntKind.i64.wrap ((z:Int)+1)=((z+1:Nat):Int):=kN (by omega) (by omega);refine AWP.reg' λK hK=>?_
   try simp only[ak,seval,q39,hw]
   refine hK _ _ _ ?_;clear hK K
   refine⟨(_,z+1),⟨by dsimp only;omega,⟨by dsimp only;omega,?_,?_,?_,rfl⟩,⟨?_,?_,?_,?_⟩,nx1+224,rfl,by dsimp only;omega,?_⟩,by dsimp only;omega,au.refl⟩
   ·exact q12
   ·exact q37
   ·exact q38
   ·simp only[ag,g1,nb0',↓reduceIte,Nat.reduceEqDiff]
   ·simp only[ag,g2,nb1',↓reduceIte,Nat.reduceEqDiff]
   ·simp only[ag,g3,nb2',↓reduceIte,Nat.reduceEqDiff]
   ·dsimp only;rw[hF];simp only[ag,g4,nb3',↓reduceIte,Nat.reduceEqDiff];rfl
   ·dsimp only;rw[hF];simp only[ag,↓reduceIte];unfold rkO;rw[ay'];rfl
  ·have e:z=t.rs.length:=by have:=T' e;omega
   subst e;refine AWP.exit ?_;rw[List.take_length]at kb;refine(show AWP _ _ _ _ _ _ from ?_);refine AWP.seq' ?_;refine AWP.reg' λK hK=>?_
   try simp only[ak,seval,qb]
   refine hK _ _ _ ?_;clear hK K;refine(show AWP _ _ _ _ _ _ from ?_);refine AWP.ret (ig (au.giveT (es:=(t.rs.foldl (rkO A N) ([],[])).1.map Rnk.v) 4 b (by simp only[ag];rfl) kb (aB (ah (λ_=>rfl) _))) (lA rfl rfl trivial))
def RN:AF:=
 ⟨55,2,[.tmp 4,.tmp 5],
 .seq (.reg [⟨(some 2),.box (.t 0),none⟩,⟨(some 3),.box (.t 1),none⟩,⟨(some 4),.move (.c (.sl 0 [] true)),none⟩,⟨(some 5),.move (.c (.val (.int .i64 0))),none⟩])
 (.seq (.reg [⟨(some 17),.load true 2 (.t 2),none⟩,⟨(some 18),.load true 4 (.t 3),none⟩,⟨(some 19),.call (.c (.func 47 [])) [(.t 17),(.t 18)],none⟩,⟨(some 16),.move (.t 19),none⟩,⟨(some 20),.ext 0 (.t 16),none⟩,⟨(some 21),.ext 1 (.t 16),none⟩,⟨(some 22),.ext 2 (.t 16),none⟩,⟨(some 23),.ext 3 (.t 16),none⟩,⟨(some 7),.box (.c (.agg [(.sl 0 [] true),(.sl 0 [] true)])),none⟩,⟨(some 6),.move (.t 20),none⟩,⟨none,.store 2 (.t 7) (.t 21),none⟩,⟨(some 8),.move (.t 22),none⟩,⟨(some 9),.move (.t 23),none⟩])
 (.seq (.seq (.reg [⟨(some 24),.move (.t 9),none⟩,⟨(some 25),.bin .neq (.t 24) (.c (.val (.int .i64 0))),none⟩])
 (.cond (.t 25) (.seq (.reg [⟨(some 26),.move (.t 9),none⟩,⟨(some 4),.move (.c (.sl 0 [] true)),none⟩,⟨(some 5),.move (.t 26),none⟩])
 (.ret)) (.skip)))
 (.seq (.reg [⟨(some 27),.load true 2 (.t 7),none⟩,⟨(some 28),.move (.t 8),none⟩,⟨(some 29),.call (.c (.func 49 [])) [(.t 27),(.t 28)],none⟩,⟨(some 10),.box (.c (.val (.map none))),none⟩,⟨none,.store 1 (.t 10) (.t 29),none⟩])
 (.seq (.seq (.reg [⟨(some 30),.move (.t 6),none⟩,⟨(some 31),.bin .eql (.t 30) (.c (.val (.int .i64 1))),none⟩])
 (.cond (.t 31) (.reg [⟨(some 32),.load false 1 (.t 10),none⟩,⟨(some 33),.call (.c (.func 50 [])) [(.t 32)],none⟩,⟨none,.store 1 (.t 10) (.t 33),none⟩]) (.skip)))
 (.seq (.reg [⟨(some 34),.mkm none,none⟩,⟨(some 11),.box (.c (.val (.map none))),none⟩,⟨none,.store 1 (.t 11) (.t 34),none⟩])
 (.seq (.reg [⟨(some 12),.box (.c (.val (.nilFunc))),none⟩])
 (.seq (.reg [⟨(some 35),.mkf 51 [(.t 11),(.t 10),(.t 12)],none⟩,⟨none,.store 1 (.t 12) (.t 35),none⟩])
 (.seq (.reg [⟨(some 13),.move (.c (.sl 0 [] true)),none⟩])
 (.seq (.seq (.reg [⟨(some 36),.faddr 0 (.t 2),none⟩,⟨(some 37),.load false 1 (.t 36),none⟩,⟨(some 38),.len (.t 37),none⟩,⟨(some 39),.move (.c (.val (.int .i64 0))),none⟩])
 (.block 0 (.loop (.seq (.reg [⟨(some 40),.bin .lss (.t 39) (.t 38),none⟩])
 (.seq (.cond (.t 40) (.skip) (.exit 0))
 (.seq (.block 1 (.seq (.reg [⟨(some 41),.iaddr 2 (.t 37) (.t 39),none⟩,⟨(some 42),.load true 2 (.t 41),none⟩,⟨(some 15),.box (.c (.agg [(.val (.int .i64 0)),(.val (.bool false))])),none⟩,⟨none,.store 2 (.t 15) (.t 42),none⟩])
 (.dreg [⟨(some 43),.move (.t 13),none⟩,⟨(some 44),.faddr 0 (.t 15),none⟩,⟨(some 45),.load false 1 (.t 44),none⟩,⟨(some 46),.load false 1 (.t 12),none⟩,⟨(some 47),.faddr 0 (.t 15),none⟩,⟨(some 48),.load false 1 (.t 47),none⟩,⟨(some 49),.call (.t 46) [(.t 48)],none⟩,⟨(some 50),.build [(.val (.int .i64 0)),(.val (.int .i64 0))] [(0,1,(.t 45)),(1,1,(.t 49))],none⟩,⟨(some 51),.lit 2 1 (.agg [(.val (.int .i64 0)),(.val (.int .i64 0))]) [(0,(.t 50))],none⟩,⟨(some 52),.append 2 16 (.t 43) (.t 51),none⟩,⟨(some 13),.move (.t 52),none⟩] [(2,3),(2,5),(3,5),(2,6)])))
 (.reg [⟨(some 53),.bin .add (.t 39) (.c (.val (.int .i64 1))),none⟩,⟨(some 39),.move (.t 53),none⟩])))))))
 (.seq (.reg [⟨(some 54),.move (.t 13),none⟩,⟨(some 4),.move (.t 54),none⟩,⟨(some 5),.move (.c (.val (.int .i64 0))),none⟩])
 (.ret)))))))))))⟩
theorem MF:gm Tryz.prog Tryz.f12=some RN:=by kernel_rfl
theorem au.giveBox{k n:Nat}{tm:Nat→AV}{hp:Hp}{nx:Nat}{kq:Option Nat}{ks:List MK}{vs:List AV}(b0 b:Nat)(h0:hp b0=some (.box (.mref b)))(hb:hp b=some (.map kq ks vs))(hx:aV vs) :
  au k n ⟨tm,hp,nx⟩ ⟨tm,upd (upd hp b none) b0 (some (.box (.mp kq ks vs))),nx⟩:=by
 have hne:b0≠b:=λe=>by subst e;rw[h0]at hb;cases hb
 refine au.give b rfl (λu=>.inr bx.refl) (λb' x hx'=>?_) (by show hp b≠none;rw[hb];simp);have hx':upd (upd hp b none) b0 (some (.box (.mp kq ks vs))) b'=some x:=hx'
 by_cases e:b'=b0
 ·subst e;rw[ai]at hx';cases hx';exact⟨hne,.inr ⟨_,_,h0,rfl,rfl,bx.map hb hx⟩⟩
 ·rw[aj _ _ e]at hx'
  by_cases e2:b'=b
  ·subst e2;rw[ai]at hx';cases hx'
  ·rw[aj _ _ e2]at hx';exact⟨e2,.inl hx'⟩
theorem au.up{k n:Nat}{tm:Nat→AV}{hp:Hp}{nx nx':Nat}(h:nx≤nx'):au k n ⟨tm,hp,nx⟩ ⟨tm,hp,nx'⟩:=by
 rintro P c a w ⟨h0,A,μ,H⟩;exact⟨h0,A,μ,H.free λb hb=>aI' h hb⟩
theorem BK{P:Program}{fid:FuncId}{n f:Nat}{args:List AV}{L:Rws}{hp:Hp}(hs:aZ P fid args [] (.mref 0) [some (iU L)])(hf:kK P fid)(h1:aV args):bn P n fid args f hp [] (.mref f) (eS [(f,some (iU L))]):=by
 have key:=bn.hand (n:=n) (f:=f) (hp:=hp) hf hs [] rfl (by simp) (aT h1) (λi c y e1 e2=>by simp at e1) (by simp) (by simp) (show(0:Nat)<1 by omega) (λy hy=>by simp at hy;subst hy;exact aT (ec _));have e0:aW [] f 0=f:=rfl;have e1:(iU L).ren (aW [] f)=iU L:=by unfold iU;rw[Blk.ren,aX _ (ec _)]
 have e3:cU [] f [some (iU L)]=eS [(f,some (iU L))]:=by simp[cU,List.zipIdx,e0,e1]
 rw[e3]at key;simpa only[aX _ h1,AV.ren,e0]using key
def TOk(L:Rws)(is:List Nat):Prop:=is.Nodup∧(∀i∈is,i<L.length)∧∀i,i<L.length→i∈is
theorem jD.mono{P:Program}{n f:Nat}{fid:FuncId}{args:List AV}{hp:Hp}{foot:List Nat}{Q Q':AV→Eff→Prop}(h:jD P n fid args f hp foot Q)(hq:∀v e,Q v e→Q' v e):jD P n fid args f hp foot Q':=
 ⟨h.1,λc A μ fr tm' hp' a w cargs h1 h2 h3 h4=>(h.2 c A μ fr tm' hp' a w cargs h1 h2 h3 h4).mono λe' w'=>by rintro⟨v,e,q,r⟩;exact⟨v,e,hq v e q,r⟩⟩
theorem sG{L:Rws}(hL:uZ L){n f b:Nat}{hp:Hp}(hb:hp b=some (iU L)) :
  jD Tryz.prog n 50 [.mref b] f hp [b] (λv e=>∃is,TOk L is∧v=.mref f∧e=eS [(b,none),(f,some (iU (gR L is)))]):=by
 have e0:aW [b] f 0=b:=rfl;have e1:aW [b] f 1=f:=rfl;have rn:∀L,(iU L).ren (aW [b] f)=iU L:=λL=>by unfold iU;rw[Blk.ren,aX _ (ec _)]
 have key:=jD.hand (n:=n) (f:=f) (hp:=hp) ⟨_,Tryz.func50,by kernel_rfl,by kernel_rfl⟩ (Ct L hL) [b] rfl (by simp) ⟨show(0:Nat)<1 by omega,trivial⟩ (λi c y h1 h2=>by
  match i with
  | 0=>cases h1;cases h2;exact⟨aT (ec _),hb.trans (congrArg some (rn L).symm)⟩
  | i+1=>simp at h1) (λr h'=>by
   rintro⟨is,_,_,_,rfl,rfl⟩;exact⟨by simp,by simp,show(1:Nat)<2 by omega,λx hx=>by simp at hx;subst hx;exact aT (ec _)⟩)
 refine jD.mono (by simpa only[dP,AV.ren,e0]using key) ?_;rintro v e ⟨r,h',⟨is,i1,i2,i3,rfl,rfl⟩,rfl,rfl⟩;refine⟨is,⟨i1,i2,i3⟩,by rw[AV.ren,e1],?_⟩;simp[cU,List.zipIdx,e0,e1,rn]
def qz(t:Tpl)(A:Rws)(R:List Rnk):Prop:=∃(D:Int→Nat) (N:Nat),(∀p∈A,p.2.length≤1000000)∧(∀r x,x∈av A r []→D x<D r)∧(∀r,D r<N)∧R=(t.rs.foldl (rkO A N) ([],[])).1
theorem JU(t:Tpl)(c:Chg)(R:List Rnk)(hb:(aD t c).2.2.2=0→t.rs.length≤1000∧(aD t c).2.2.1.length≤1000∧uZ (fB (aD t c).2.1 (aD t c).2.2.1))
    (h2:(aD t c).2.2.2=0→¬(aD t c).1=1→qz t (fB (aD t c).2.1 (aD t c).2.2.1) R)
    (h1:(aD t c).2.2.2=0→(aD t c).1=1→∀is,TOk (fB (aD t c).2.1 (aD t c).2.2.1) is→qz t (gR (fB (aD t c).2.1 (aD t c).2.2.1) is) R)
    (hR:¬(aD t c).2.2.2=0→R=[]):aZ Tryz.prog 12 [Tpl.v t,Chg.v c] [] (.tup [.sl 2 (R.map Rnk.v) false,.int (aD t c).2.2.2]) []:=by
  refine aZ.walk Tryz.func12 MF (by simp[RN]) ?_;unfold RN;simp only[fO,gk,ab',ap'];have hred:cm Tryz.prog (qS t c).f [Tpl.v t,Chg.v c] (.tup [.int (aD t c).1,Tpl.v (aD t c).2.1,.sl 2 ((aD t c).2.2.1.map Hop.v) false,.int (aD t c).2.2.2]):=(qS t c).ok;generalize aD t c=q at *
  obtain⟨kd,g,ds,er⟩:=q;simp only at hb h2 h1 hR hred ⊢;refine AWP.seq' ?_;refine AWP.reg' λK hK=>?_
  try simp only[ak,seval]
  refine⟨rfl,rfl,?_⟩;refine hK _ _ _ ?_;clear hK K;refine AWP.seq' ?_;refine AWP.reg' λK hK=>?_
  try simp only[ak,seval,Tpl.v,Chg.v]
  refine dq hred (qS t c).fn rfl rfl ⟨⟨trivial,trivial,trivial⟩,⟨trivial,trivial,trivial,trivial,trivial⟩,trivial⟩ ?_
  try simp only[ak,seval,Tpl.v]
  refine hK _ _ _ ?_;clear hK K;refine AWP.seq' (AWP.seq' ?_);refine AWP.reg' λK hK=>?_
  try simp only[ak,seval]
  refine hK _ _ _ ?_;clear hK K;by_cases he:er=0
  case neg =>
    refine AWP.cond (b := true) (by have : (er != 0) = true := by simpa using he
                                    rw[←this];rfl) (λ_=>?_) (λh=>by cases h)
    refine AWP.seq' ?_;refine AWP.reg' λK hK=>?_
    try simp only[ak,seval]
    refine hK _ _ _ ?_;clear hK K;rw[hR he];refine AWP.ret (ig (au.subT 4 (y:=.sl 2 [] false) Sub.nil) (lA rfl rfl trivial))
  subst he;obtain⟨b1,b2,b3⟩:=hb rfl;refine AWP.cond (b:=false) rfl (λh=>by cases h) (λ_=>AWP.skip ?_);refine(show AWP _ _ _ _ _ _ from ?_);refine AWP.seq' ?_;refine AWP.reg' λK hK=>?_
  try simp only[ak,seval,Tpl.v]
  refine ju rfl (by rfl) (BK (HW g ds b2) ⟨_,Tryz.func49,by kernel_rfl,by kernel_rfl⟩ ⟨⟨trivial,trivial,trivial⟩,trivial,trivial⟩) ?_;rw[my]
  try simp only[ak,seval]
  refine hK _ _ _ ?_;clear hK K;refine AWP.seq' (AWP.seq' ?_);refine AWP.reg' λK hK=>?_
  try simp only[ak,seval]
  refine hK _ _ _ ?_;clear hK K
  have fin:∀(A:Rws) (tm':Nat→AV) (hp':Hp) (nx' b:Nat),nx'≤1000→qz t A R→tm' 2=.ref 0 0→tm' 10=.ref 352 0→hp' 0=some (.box (Tpl.v t))→hp' 352=some (.box (.mref b))→hp' b=some (iU A) →
      AWP Tryz.prog 0 55 Ph (Am.fin 0 55 [.tmp 4,.tmp 5] (.tup [.sl 2 (R.map Rnk.v) false,.int 0]) []) ⟨tm',hp',nx'⟩:=by
    rintro A tm' hp' nx' b hn ⟨D,N,m1,m2,m3,rfl⟩ t2 t10 k0 k10 kb;refine AWP.weak ((au.giveBox 352 b k10 kb (ec _)).trans (au.up hn)) ?_
    refine JH t A D N m1 m2 m3 b1 _ _ t2 ?_ t10 ?_
    · have e1:(0:Nat)≠b:=λe=>by subst e;rw[k0]at kb;cases kb
      simp only[ag,F' e1];exact k0
    · simp only[ag,↓reduceIte]
  by_cases hk:kd=1
  · refine AWP.cond (b:=true) (by subst hk;rfl) (λ_=>?_) (λh=>by cases h)
    refine AWP.regE (os1:=[_]) (os2:=[_]) ?_
    try simp only[ak,seval]
    refine⟨_,[],[336],_,rfl,sG b3 rfl,?_⟩;rintro v e ⟨is,hi,rfl,rfl⟩;rw[cQ,my]
    try simp only[ak,seval]
    refine(show AWP _ _ _ _ _ _ from ?_);exact fin (gR (fB g ds) is) _ _ _ 432 (by omega) (h1 rfl hk is hi) rfl rfl rfl rfl rfl
  · refine AWP.cond (b := false) (by have : (kd == 1) = false := by simpa using hk
                                     rw[←this];rfl) (λh=>by cases h) (λ_=>AWP.skip ?_)
    exact fin _ _ _ _ 336 (by omega) (h2 rfl hk) rfl rfl rfl rfl rfl
theorem gE{t:Tpl}(hc:ay t=0){g u n:Int}{k:Nat}(hg:az t g=true)(p:Pth t g k u n):∃m,m≤n∧aC t u g=(m,true):=by
 have hk:g∈ap (inG t):=by unfold inG;rw[bi,bc];exact hg
 have hF:=ef (l5 hc) hk;obtain⟨m,hm,hx⟩:=hF.low ((jM hc).mpr ⟨k,p⟩);refine⟨m,hm,?_⟩;rw[pn hc,G' (bV.mpr ⟨m,hx⟩),fj hF.nd hx]
theorem aN{t:Tpl}{u g m:Int}(e:aC t u g=(m,true)):(∃k,Pth t g k u m)∧(∀k n,Pth t g k u n→m≤n)∧0≤m∧m≤24000:=by
 have e2:(aC t u g).2=true:=by rw[e]
 obtain⟨hc,hu,hg⟩:=cA e2;rw[pn hc]at e
 by_cases h:aY (cM (inG t) g) u=true
 ·rw[G' h]at e;have hm:=bU (z:=0) h;have e3:av (cM (inG t) g) u 0=m:=(Prod.mk.inj e).1;rw[e3]at hm;obtain⟨h1,h2⟩:=(oI hc hg).mp hm;obtain⟨h3,h4⟩:=zZ hc hg hm;exact⟨h1,h2,h3,h4⟩
 ·rw[F' h]at e;cases e
theorem JW{t:Tpl}{v w:Int}{j:Nat}{n:Int}(q:Pth t w j v n):∀{k:Nat} {u m:Int},Pth t v k u m→Pth t w (j+k) u (n+m):=by
 intro k u m p
 induction p with
 | nil=>simpa using q
 | cons e p ih =>
  have:=Pth.cons e ih
  rwa [Int.add_assoc]at this
theorem gD{t:Tpl}{u v w a b:Int}(h1:aC t u v=(a,true))(h2:aC t v w=(b,true)):∃m,m≤a+b∧aC t u w=(m,true):=by
 obtain⟨⟨k,p⟩,_⟩:=aN h1;obtain⟨⟨j,q⟩,_⟩:=aN h2;obtain⟨hc,_,hw⟩:=cA (t:=t) (x:=v) (y:=w) (by rw[h2]);obtain⟨m,hm,e⟩:=gE hc hw (JW q p);exact⟨m,by omega,e⟩
theorem il{t:Tpl}(hc:ay t=0){u v c:Int}(e:cG t u v c):∃m,m≤c∧aC t u v=(m,true):=by
 obtain⟨m,hm,q⟩:=gE hc (e.has hc).2 (Pth.cons e .nil);exact⟨m,by omega,q⟩
theorem lH{t:Tpl}{x:Int}(h:(aC t x x).2=true):(aC t x x).1=0:=by
 have e:aC t x x=((aC t x x).1,true):=Prod.ext rfl h;obtain⟨⟨k,p⟩,h2,h3,_⟩:=aN e;have:=h2 0 0 .nil;omega
theorem aO{t:Tpl}{x y:Int}(h:(aC t x y).2=true):aC t x y=((aC t x y).1,true):=Prod.ext rfl h
structure BhH (g:Tpl) (h:Hop) (x y:Int):Prop where
  ne:x≠h.a
  xa:(aC g x h.a).2=true
  ya:(aC g y h.a).2=true
  xb:(aC g x h.b).2=true
  yb:(aC g y h.b).2=true
  dec:(aC g y h.a).1<(aC g x h.a).1
  lx:(aC g x h.a).1<(aC g x h.b).1
  ly:(aC g y h.a).1<(aC g y h.b).1
theorem ir{t:Tpl}{x d:Int}{h:Hop}{c:Int}(hc:1≤c∧c≤1000):jU (dc t) x d h c=true↔(aC t x h.a).2=true∧(aC t h.b d).2=true∧(aC t x d).2=true∧(aC t x h.a).1+c+(aC t h.b d).1=(aC t x d).1:=by
 unfold jU;obtain⟨ha,hb⟩:=h;simp only[sy,LQ,R',aL']
 constructor
 ·rintro⟨h1,h2,h3⟩;obtain⟨_,_,p1,p2⟩:=aN (aO h1);obtain⟨_,_,q1,q2⟩:=aN (aO h2);rw[ce (n:=(aC t x ha).1+c) (by omega),ce (by omega)]at h3;refine⟨h1,h2,?_,h3⟩;cases e:(aC t x d).2 with
  | true=>rfl
  | false=>have:=Ak e;omega
 ·rintro⟨h1,h2,h3,h4⟩;obtain⟨_,_,p1,p2⟩:=aN (aO h1);obtain⟨_,_,q1,q2⟩:=aN (aO h2);refine⟨h1,h2,?_⟩;rw[ce (n:=(aC t x ha).1+c) (by omega),ce (by omega),h4]
theorem Sk{t:Tpl}{h:Hop}{c d x y w:Int}{M:Rws}(hc:ay t=0)(he:cG t h.a h.b c)(hw:1≤w∧w≤1000)(hq:beQ t h c d x y w M=true):BhH t h x y:=by
 have hcc:=he.cost hc;unfold beQ at hq;simp only[R',bne_iff_ne,ne_eq]at hq;obtain⟨q1,q2,q3,q4,_⟩:=hq;rw[ir hw]at q2;rw[ir hcc]at q3 q4;obtain⟨a1,a2,a3,a4⟩:=q2;obtain⟨b1,b2,b3,b4⟩:=q3;obtain⟨c1,c2,c3,c4⟩:=q4;simp only at a1 a2 a4;have a0:=lH a1;have key:∀z,(aC t z h.a).2=true→(aC t z d).2=true→(aC t z h.a).1+c+(aC t h.b d).1=(aC t z d).1→(aC t z h.b).2=true∧(aC t z h.a).1<(aC t z h.b).1:=λz g1 g2 g3=>by
  obtain⟨m,hm,e⟩:=il hc he;obtain⟨n,hn,e'⟩:=gD (aO g1) e;have e2:(aC t z h.b).2=true:=by rw[e']
  obtain⟨k,hk,e3⟩:=gD (aO e2) (aO b2);have:(aC t z d).1=k:=by rw[e3]
  exact⟨e2,by omega⟩
 obtain⟨x1,x2⟩:=key x b1 b3 b4;obtain⟨y1,y2⟩:=key y c1 c3 c4;exact⟨q1,b1,c1,x1,y1,by omega,x2,y2⟩
theorem yU{M:Rws}(hn:(ap M).Nodup)(k v:Int):(ap (pu M k v)).Nodup:=gj hn
theorem vW{M:Rws}(hn:(ap M).Nodup)(k v x:Int):av (pu M k v) x []=if x=k then av M k []++[v]else av M x []:=by
 have hn':=yU hn k v
 by_cases e:x=k
 ·subst e;rw[G' rfl];exact fj hn' ((cw hn).mpr (.inl rfl))
 ·rw[F' e];cases h:aY M x with
  | true=>exact fj hn' ((cw hn).mpr (.inr ⟨bU h,e⟩))
  | false =>
   rw[dj h];refine dj ?_;unfold pu;rw[Ez hn,h,decide_eq_false e];rfl
structure BeI (t:Tpl) (ds:List Hop) (M:Rws):Prop where
  nd:(ap M).Nodup
  bh:∀x y,y∈av M x []→∃h∈ds,BhH t h x y
  ri:gP t M
theorem BeI.pu{t:Tpl}{ds:List Hop}{M:Rws}(h:BeI t ds M){h0:Hop}{x y:Int}(hd:h0∈ds)(hb:BhH t h0 x y)(hx:az t x=true)(hy:az t y=true)(hn:y ∉ av M x []):BeI t ds (pu M x y):=by
 refine⟨yU h.nd x y,λu v hv=>?_,h.ri.pu hx hy hn⟩;rw[vW h.nd]at hv
 by_cases e:u=x
 ·subst e;rw[G' rfl]at hv
  rcases X'.mp hv with hv|hv
  ·exact h.bh _ _ hv
  ·rw[L'.mp hv];exact⟨h0,hd,hb⟩
 ·rw[F' e]at hv;exact h.bh _ _ hv
theorem BeI.step{t:Tpl}(hc:ay t=0){ds:List Hop}{M:Rws}(h:BeI t ds M){h0:Hop}{c d:Int}(hd:h0∈ds)(he:cG t h0.a h0.b c){s:Int×Int×Int}(hx:az t s.1=true)(hy:az t s.2.1=true)(hw:1≤s.2.2∧s.2.2≤1000):BeI t ds (beI t h0 c d M s):=by
 unfold Go.Proofs.YtdoacjojljgdcaaGreat.beI
 split
 ·rename_i e;have e':=e;unfold beQ at e';simp only[R',bk',decide_eq_false_iff_not]at e';exact h.pu hd (Sk hc he hw e) hx hy e'.2.2.2.2
 ·exact h
theorem fY{α β:Type}(I:β→Prop)(f:β→α→β):∀(l:List α) (b:β),I b→(∀b x,x∈l→I b→I (f b x))→I (l.foldl f b)
 | [],b,h,_=>h
 | x::l,b,h,hf=>fY I f l (f b x) (hf b x (by simp) h) λb y hy hb=>hf b y (by simp[hy]) hb
theorem Qk{t:Tpl}(hc:ay t=0){l:Lnk}(hl:l∈t.ls):∀z∈lst l,az t z.1=true∧az t z.2.1=true∧1≤z.2.2∧z.2.2≤1000:=λz hz=>by
 have hO:=ax hc;obtain⟨ha,hb⟩:=hO.has l hl;obtain⟨c1,c2,_⟩:=hO.lr l hl;unfold ei at c1 c2;simp only[R',S']at c1 c2;unfold lst at hz;simp only[ad',aw',or_false]at hz
 rcases hz with rfl|rfl
 ·exact⟨ha,hb,c1⟩
 ·exact⟨hb,ha,c2⟩
theorem nJ(t:Tpl)(ds:List Hop):BeI t ds (fB t ds):=by
 unfold fB;refine fY (BeI t ds) (be4 t) ds [] ⟨bn',λx y h=>by rw[dj (by unfold aY ap;simp)]at h;simp at h,⟨λp hp=>by simp at hp,λp hp=>by simp at hp,λp hp=>by simp at hp⟩⟩ λM h hh hM=>?_;unfold be4
 split
 ·rename_i e;have hc:=pr e;have he:cG t h.a h.b (bC t h.a h.b).1:=by
   rw[bT hc];have:bC t h.a h.b=aU t h.a h.b:=by unfold bC;rw[F' (by simp[hc])]
   rw[←this];exact Prod.ext rfl e
  refine fY (BeI t ds) _ t.rs M hM λM d _ hM=>?_;unfold be3;refine fY (BeI t ds) _ t.ls M hM λM l hl hM=>?_;unfold be2;refine fY (BeI t ds) _ (lst l) M hM λM z hz hM=>?_;obtain⟨a1,a2,a3⟩:=Qk hc hl z hz;exact hM.step hc hh he a1 a2 a3
 ·exact hM
theorem MY{t:Tpl}{ds:List Hop}(hc:¬ay t=0):fB t ds=[]:=by
 unfold fB;refine fY (λM=>M=[]) (be4 t) ds [] rfl λM h _ hM=>?_;unfold be4;rw[F' (λe=>hc (pr e))];exact hM
theorem lN(t:Tpl)(ds:List Hop):uZ (fB t ds):=by
 by_cases hc:ay t=0
 ·have h:=nJ t ds;have hk:∀x,az t x=true→Am.inK .i64 x:=λx hx=>by
   obtain⟨r,hr,rfl⟩:=cf.mp hx;have:=(ax hc).rg r hr;rw[Fl];omega
  refine⟨?_,λp hp=>hk _ (h.ri.ky p hp),λp hp=>by have:=h.ri.len hc p hp;omega,λp hp y hy=>hk _ (h.ri.el p hp y hy)⟩;have:=List.Nodup.length_le_of_subset h.nd (show ap (fB t ds) ⊆ t.rs.map (·.id)from λx hx=>by
   obtain⟨v,hv⟩:=aS.mp hx;exact ud.mp (h.ri.ky _ hv))
  rw[B',cY]at this;have:=(cg hc).1;omega
 ·rw[MY hc];exact⟨by simp,λp hp=>by simp at hp,λp hp=>by simp at hp,λp hp=>by simp at hp⟩
def dsN(t:Tpl)(x a:Int):Nat:=if(aC t x a).2=true then(aC t x a).1.toNat else 100000
def msr(t:Tpl)(c:Chg)(x:Int):Nat:=min (dsN t x c.a) (dsN t x c.b)
theorem Ro(t:Tpl)(x a:Int):dsN t x a≤100000:=by
 unfold dsN
 split
 ·rename_i h;have:=(aN (aO h)).2.2;omega
 ·omega
theorem En(t:Tpl)(c:Chg)(x:Int):msr t c x≤100000:=by
 unfold msr;have:=Ro t x c.a;omega
theorem zj{t:Tpl}{c:Chg}{h:Hop}(hh:h∈eK c){x y:Int}(hb:BhH t h x y):msr t c y<msr t c x:=by
 obtain⟨_,xa,ya,xb,yb,d,lx,ly⟩:=hb;have p1:=(aN (aO xa)).2.2;have p2:=(aN (aO ya)).2.2;have p3:=(aN (aO xb)).2.2;have p4:=(aN (aO yb)).2.2;have e1:dsN t x h.a=(aC t x h.a).1.toNat:=G' xa;have e2:dsN t y h.a=(aC t y h.a).1.toNat:=G' ya;have e3:dsN t x h.b=(aC t x h.b).1.toNat:=G' xb;have e4:dsN t y h.b=(aC t y h.b).1.toNat:=G' yb;unfold eK at hh;simp only[ad',aw',or_false]at hh;unfold msr
 rcases hh with rfl|rfl
 ·simp only at e1 e2 e3 e4 d lx ly p1 p2 p3 p4;omega
 ·simp only at e1 e2 e3 e4 d lx ly p1 p2 p3 p4;omega
def mxL(g:Int→Int)(l:List Int)(n:Int):Int:=l.foldl (λn x=>dZ n (g x)) n
theorem KJ(a b:Int):a≤dZ a b∧b≤dZ a b∧(dZ a b=a∨dZ a b=b):=by
 unfold dZ;split<;>omega
theorem mh(g:Int→Int):∀(l:List Int) (n:Int),n≤mxL g l n∧(∀x∈l,g x≤mxL g l n)∧(mxL g l n=n∨∃x∈l,mxL g l n=g x)
 | [],n=>⟨bg' _,λx hx=>by simp at hx,.inl rfl⟩
 | x::l,n=>by
  obtain⟨h1,h2,h3⟩:=mh g l (dZ n (g x));obtain⟨m1,m2,m3⟩:=KJ n (g x);have e:mxL g (x::l) n=mxL g l (dZ n (g x)):=rfl;rw[e]
  refine⟨by omega,λy hy=>?_,?_⟩
  ·rcases ad'.mp hy with rfl|hy
   ·omega
   ·exact h2 y hy
  ·rcases h3 with h3|⟨y,hy,h3⟩
   ·rcases m3 with m3|m3
    ·exact .inl (by omega)
    ·exact .inr ⟨x,by simp,by omega⟩
   ·exact .inr ⟨y,by simp[hy],h3⟩
theorem rp{g g':Int→Int}{l l':List Int}(n:Int)(hm:∀x,x∈l↔x∈l')(hg:∀x∈l,g x=g' x):mxL g l n=mxL g' l' n:=by
 obtain⟨a1,a2,a3⟩:=mh g l n;obtain⟨b1,b2,b3⟩:=mh g' l' n
 refine Int.le_antisymm ?_ ?_
 ·rcases a3 with a3|⟨x,hx,a3⟩
  ·omega
  ·have:=b2 x ((hm x).mp hx);rw[←hg x hx]at this;omega
 ·rcases b3 with b3|⟨x,hx,b3⟩
  ·omega
  ·have h':=(hm x).mpr hx;have:=a2 x h';rw[hg x h']at this;omega
def rkP(A:Rws):Nat→Int→Int
 | 0,_=>0
 | f+1,r=>mxL (λx=>W (1+rkP A f x)) (av A r []) 0
theorem nZ{A:Rws}{D:Int→Nat}(hD:∀r x,x∈av A r []→D x<D r):∀(f g:Nat) (r:Int),D r<f→D r<g→rkP A f r=rkP A g r
 | 0,_,r,h,_=>absurd h (by omega)
 | _,0,r,_,h=>absurd h (by omega)
 | f+1,g+1,r,h1,h2=>by
  unfold rkP;exact rp 0 (λ_=>Iff.rfl) λx hx=>by have:=hD r x hx;rw[nZ hD f g x (by omega) (by omega)]
theorem yQ{A A':Rws}(h:∀r x,x∈av A r []↔x∈av A' r []):∀(f:Nat) (r:Int),rkP A f r=rkP A' f r
 | 0,_=>rfl
 | f+1,r=>by
  unfold rkP;exact rp 0 (h r) λx _=>by rw[yQ h f x]
structure IP (A:Rws) (N:Nat) (kn:Dis):Prop where
  nd:(ap kn).Nodup
  val:∀p∈kn,p.2=rkP A N p.1
theorem CX{A:Rws}{D:Int→Nat}(hD:∀r x,x∈av A r []→D x<D r)(N:Nat)(hN:∀r,D r<N):∀(f:Nat) (r:Int) (kn:Dis),D r<f→IP A N kn→(rkF A f r kn).1=rkP A N r∧IP A N (rkF A f r kn).2
 | 0,r,kn,h,_=>absurd h (by omega)
 | f+1,r,kn,h,hk=>by
  have ih:=CX hD N hN f;unfold rkF
  split
  ·rename_i e;exact⟨hk.val _ (bU e),hk⟩
  ·have key:∀(l:List Int) (n:Int) (kn:Dis),(∀x∈l,x∈av A r [])→IP A N kn→(l.foldl (rkS (rkF A f)) (n,kn)).1=mxL (λx=>W (1+rkP A N x)) l n∧IP A N (l.foldl (rkS (rkF A f)) (n,kn)).2:=λl=>by
    induction l with
    | nil=>intro n kn _ hk;exact⟨rfl,hk⟩
    | cons x l ihl =>
     intro n kn hl hk;have hx:=hD r x (hl x (by simp));obtain⟨g1,g2⟩:=ih x kn (by omega) hk;have e:rkS (rkF A f) (n,kn) x=(dZ n (W (1+rkP A N x)),(rkF A f x kn).2):=by unfold rkS;simp only;rw[g1]
     rw[at',e];exact ihl _ _ (λy hy=>hl y (by simp[hy])) g2
   obtain⟨k1,k2⟩:=key (av A r []) 0 kn (λx hx=>hx) hk;have e2:rkP A N r=mxL (λx=>W (1+rkP A N x)) (av A r []) 0:=by
    have hr:=hN r
    match N,hr with
    | N+1,hr =>
     rw[rkP];exact rp 0 (λ_=>Iff.rfl) λx hx=>by have:=hD r x hx;rw[nZ hD N (N+1) x (by omega) (by omega)]
   refine⟨by rw[e2];exact k1,gj k2.nd,λp hp=>?_⟩
   rcases(cw k2.nd).mp hp with rfl|⟨hp,_⟩
   ·simp only;rw[e2];exact k1
   ·exact k2.val p hp
theorem CW{A:Rws}{D:Int→Nat}(hD:∀r x,x∈av A r []→D x<D r)(N:Nat)(hN:∀r,D r<N):∀(l:List Rtr) (s:List Rnk×Dis),IP A N s.2→(l.foldl (rkO A N) s).1=s.1++l.map λr=>⟨r.id,rkP A N r.id⟩
 | [],s,_=>by simp
 | r::l,s,h=>by
  obtain⟨g1,g2⟩:=CX hD N hN N r.id s.2 (hN _) h;rw[at',CW hD N hN l (rkO A N s r) g2];unfold rkO;simp only[am',aT',bJ',bu',g1]
theorem Em{t:Tpl}{A:Rws}{D:Int→Nat}{N:Nat}(hA:∀p∈A,p.2.length≤1000000)(hD:∀r x,x∈av A r []→D x<D r)(hN:∀r,D r<N):qz t A (t.rs.map λr=>⟨r.id,rkP A N r.id⟩):=
 ⟨D,N,hA,hD,hN,by rw[CW hD N hN t.rs ([],[]) ⟨bn',λp hp=>by simp at hp⟩];rfl⟩
theorem yz(x:Int):∀(l:List Int) (M:Rws) (m:Nat),(ap M).Nodup→(∀p∈M,p.2.length≤m)→(ap (jT x M l)).Nodup∧(∀p∈jT x M l,p.2.length≤m+l.length)∧∀y z,z∈av (jT x M l) y []↔z∈av M y []∨z=x∧y∈l
 | [],M,m,hn,hm=>⟨hn,λp hp=>by have:=hm p hp;simpa using this,λy z=>by simp[jT]⟩
 | v::l,M,m,hn,hm=>by
  obtain⟨g1,g2,g3⟩:=yz x l (pu M v x) (m+1) (yU hn v x) (vX hm v x);have e:jT x M (v::l)=jT x (pu M v x) l:=rfl;rw[e];refine⟨g1,λp hp=>by have:=g2 p hp;rw[ab'];omega,λy z=>?_⟩;rw[g3,vW hn]
  by_cases e:y=v
  ·subst e;rw[G' rfl];simp[or_assoc];constructor
   ·rintro(h|h|h)
    ·exact .inl h
    ·exact .inr h
    ·exact .inr h.1
   ·rintro(h|h)
    ·exact .inl h
    ·exact .inr (.inl h)
  ·rw[F' e];simp[e]
theorem yx{L:Rws}(hr:∀p∈L,p.2.length≤100):∀(is:List Nat) (M:Rws) (m:Nat),(ap M).Nodup→(∀p∈M,p.2.length≤m)→(∀i∈is,i<L.length) →
  (ap (is.foldl (λM i=>jT (L.getD i (0,[])).1 M (L.getD i (0,[])).2) M)).Nodup∧(∀p∈is.foldl (λM i=>jT (L.getD i (0,[])).1 M (L.getD i (0,[])).2) M,p.2.length≤m+100 * is.length) ∧
  ∀y z,z∈av (is.foldl (λM i=>jT (L.getD i (0,[])).1 M (L.getD i (0,[])).2) M) y []↔z∈av M y []∨∃i∈is,∃l,L[i]?=some (z,l)∧y∈l
 | [],M,m,hn,hm,_=>⟨hn,λp hp=>by have:=hm p hp;simpa using this,λy z=>by simp⟩
 | i::is,M,m,hn,hm,hi=>by
  have hil:=hi i (by simp);have hg:L[i]?=some L[i]:=u' hil;have hgd:L.getD i (0,[])=L[i]:=by rw[I',hg];rfl
  have hlen:=hr _ (O' hg);obtain⟨g1,g2,g3⟩:=yz (L.getD i (0,[])).1 (L.getD i (0,[])).2 M m hn hm;obtain⟨k1,k2,k3⟩:=yx hr is _ _ g1 g2 (λj hj=>hi j (by simp[hj]));rw[at'];refine⟨k1,λp hp=>by have:=k2 p hp;rw[hgd]at this;rw[ab'];omega,λy z=>?_⟩;rw[k3,g3,hgd]
  constructor
  ·rintro((h|⟨rfl,h⟩)|⟨j,hj,l,h1,h2⟩)
   ·exact .inl h
   ·exact .inr ⟨i,by simp,L[i].2,by rw[hg],h⟩
   ·exact .inr ⟨j,by simp[hj],l,h1,h2⟩
  ·rintro(h|⟨j,hj,l,h1,h2⟩)
   ·exact .inl (.inl h)
   ·rcases ad'.mp hj with rfl|hj
    ·rw[hg]at h1;have e:=af' h1;rw[e];exact .inl (.inr ⟨rfl,h2⟩)
    ·exact .inr ⟨j,hj,l,h1,h2⟩
theorem kQ{L:Rws}(hL:uZ L)(hn:(ap L).Nodup){is:List Nat}(hi:TOk L is):(∀p∈gR L is,p.2.length≤1000000)∧∀y z,z∈av (gR L is) y []↔y∈av L z []:=by
 obtain⟨i1,i2,i3⟩:=hi;obtain⟨_,k2,k3⟩:=yx hL.row is [] 0 bn' (λp hp=>by simp at hp) i2;have hl:=List.Nodup.length_le_of_subset i1 (show is ⊆ List.range L.length from λa ha=>al'.mpr (i2 a ha));rw[bY']at hl;have:=hL.len;refine⟨λp hp=>by have:=k2 p hp;omega,λy z=>(k3 y z).trans ?_⟩
 constructor
 ·rintro(h|⟨i,hi,l,h1,h2⟩)
  ·rw[dj (by unfold aY ap;simp)]at h;simp at h
  ·rw[fj hn (O' h1)];exact h2
 ·intro h;refine .inr ?_;cases e:aY L z with
  | false=>rw[dj e]at h;simp at h
  | true =>
   obtain⟨i,hi⟩:=ag'.mp (bU (z:=[]) e);exact⟨i,i3 i (ao hi),_,hi,h⟩
theorem fi{t:Tpl}{c:Chg}(h:(aD t c).2.2.2=0):ay t=0∧(bo t c).2=0∧(∀x∈(aD t c).2.2.1,x∈eK c)∧(aD t c).2.2.1.length≤2∧((aD t c).2.1=t∨(aD t c).2.1=(bo t c).1):=by
 have e:(bo t c).2=0:=by
  refine P' λq=>?_;unfold aD at h;rw[G' q]at h;exact q h
 have hc:ay t=0:=by
  refine P' λq=>?_;unfold bo at e;rw[G' q]at e;cases e
 have hl:((eK c).filter (chH t (bo t c).1)).length≤2:=bq' _ _;refine⟨hc,e,?_⟩;unfold aD at h ⊢;rw[F' (by simp[e])]at h ⊢
 split
 ·rename_i q;rw[G' q]at h;cases h
 ·split
  ·exact⟨λx hx=>(aY'.mp hx).1,hl,.inr rfl⟩
  ·exact⟨λx hx=>(aY'.mp hx).1,hl,.inl rfl⟩
def gJ(t:Tpl)(c:Chg):Rws:=if(aD t c).1=1 then gR (fB (aD t c).2.1 (aD t c).2.2.1) (List.range (fB (aD t c).2.1 (aD t c).2.2.1).length)else fB (aD t c).2.1 (aD t c).2.2.1
def cV(t:Tpl)(c:Chg):List Rnk:=if(aD t c).2.2.2=0 then t.rs.map λr=>⟨r.id,rkP (gJ t c) 200000 r.id⟩else []
theorem lZ(L:Rws):TOk L (List.range L.length):=⟨List.nodup_range,λi hi=>al'.mp hi,λi hi=>al'.mpr hi⟩
theorem sZ{t:Tpl}{c:Chg}(h:(aD t c).2.2.2=0):(¬(aD t c).1=1→qz t (fB (aD t c).2.1 (aD t c).2.2.1) (cV t c))∧((aD t c).1=1→∀is,TOk (fB (aD t c).2.1 (aD t c).2.2.1) is→qz t (gR (fB (aD t c).2.1 (aD t c).2.2.1) is) (cV t c)):=by
 obtain⟨hc,ha,hd,hl,hg⟩:=fi h;unfold cV gJ;rw[G' h];generalize (aD t c).2.1=g at *
 generalize (aD t c).2.2.1=ds at *
 have hB:=nJ g ds;have hR:=lN g ds;have hdec:∀r x,x∈av (fB g ds) r []→msr g c x<msr g c r:=λr x hx=>by
  obtain⟨h0,h1,h2⟩:=hB.bh r x hx;exact zj (hd h0 h1) h2
 have hle:=En g c
 refine⟨λk=>?_,λk is hi=>?_⟩
 ·rw[F' k];exact Em (D:=msr g c) (N:=200000) (λp hp=>by have:=hR.row p hp;omega) hdec (λr=>by have:=hle r;omega)
 ·rw[G' k];obtain⟨m1,m2⟩:=kQ hR hB.nd hi;obtain⟨_,n2⟩:=kQ hR hB.nd (lZ _);have e:(t.rs.map λr=>(⟨r.id,rkP (gR (fB g ds) (List.range (fB g ds).length)) 200000 r.id⟩:Rnk))=t.rs.map λr=>⟨r.id,rkP (gR (fB g ds) is) 200000 r.id⟩:=by
   refine as' λr _=>?_;rw[yQ (λy z=>(n2 y z).trans (m2 y z).symm)]
  rw[e];exact Em (D:=λx=>150000-msr g c x) (N:=200000) m1 (λr x hx=>by
   have:=hdec x r ((m2 r x).mp hx);have:=hle x;have:=hle r;omega) (λr=>by omega)
theorem JV(t:Tpl)(c:Chg):cm Tryz.prog 12 [Tpl.v t,Chg.v c] (.tup [.sl 2 ((cV t c).map Rnk.v) false,.int (aD t c).2.2.2]):=by
 refine aZ.pure (JU t c (cV t c) (λh=>?_) (λh=>(sZ h).1) (λh=>(sZ h).2) (λh=>by unfold cV;rw[F' h])) ⟨trivial,trivial,trivial⟩;obtain⟨hc,ha,hd,hl,hg⟩:=fi h;have:=(cg hc).1;exact⟨by omega,by omega,lN _ _⟩
def yS(t:Tpl)(c:Chg):PC Tryz.prog:=⟨12,[(.a [(.s 2),(.s 5)]),.k],[.agg [.sl 2 (t.rs.map Rtr.v) false,.sl 5 (t.ls.map Lnk.v) false],.agg [.int c.a,.int c.b,.int c.ca,.int c.cb]],.tup [.sl 2 ((cV t c).map Rnk.v) false,.int (aD t c).2.2.2],JV t c,mB (by kernel_rfl)⟩
def uX(ch:List Int)(x y:Rnk):Bool:=decide (x.n<y.n) && (!(decide (x.r∈ch)) && decide (y.r∈ch))
def BQ(l:List Rnk)(ch:List Int):Bool:=l.all λx=>l.all λy=>!(uX ch x y)
def ID(l:List Rnk)(changed:List Int):=okL [.sl 2 (l.map Rnk.v) false,.sl 1 (changed.map AV.int) false]
def N2(l:List Rnk)(changed:List Int)(t0:Int):NF:=⟨[(0,.k,.sl 2 (l.map Rnk.v) false),(1,.k,.sl 1 (changed.map AV.int) false),(9,.k,.sl 2 (l.map Rnk.v) false),rI 10 ((l.map Rnk.v).length:Int),rI 11 t0],[]⟩
def N1(l:List Rnk)(changed:List Int)(t0:Int)(x1:Rnk)(t1:Int):NF:=⟨[(0,.k,.sl 2 (l.map Rnk.v) false),(1,.k,.sl 1 (changed.map AV.int) false),rR 6 0,(9,.k,.sl 2 (l.map Rnk.v) false),rI 10 ((l.map Rnk.v).length:Int),rI 11 t0,(15,.k,.sl 2 (l.map Rnk.v) false),rI 16 ((l.map Rnk.v).length:Int),rI 17 t1],[.box (Rnk.v x1)]⟩
def N0(l:List Rnk)(changed:List Int)(t0:Int)(x1:Rnk)(t1:Int)(t2:Bool):NF:=⟨[(0,.k,.sl 2 (l.map Rnk.v) false),(1,.k,.sl 1 (changed.map AV.int) false),rR 6 0,(9,.k,.sl 2 (l.map Rnk.v) false),rI 10 ((l.map Rnk.v).length:Int),rI 11 t0,(15,.k,.sl 2 (l.map Rnk.v) false),rI 16 ((l.map Rnk.v).length:Int),rI 17 t1,rB 38 t2],[.box (Rnk.v x1)]⟩
@[reducible] def IA:Nat→Type
 | 0=>Int
 | 1=>Int
 | 2=>Bool
 | _=>Unit
def IB(r:Bool):AV:=.bool r
def Iz(l:List Rnk)(changed:List Int)(I0:Int→Prop)(m0:Int→Nat)(I1:Int→Rnk→Int→Prop)(m1:Int→Rnk→Int→Nat)(I2:Int→Rnk→Int→Rnk→Bool→Prop):Ax Tryz.prog IA (Bool):=
 (.loop 0 (N2 l changed) I0 m0 ((0):Int) [] λ(t0:Int) b0 =>
(.br 16 (decide (t0<((l.map Rnk.v).length:Int))) (.elI 16 Rnk.v l t0 λx1 =>
(.loop 1 (N1 l changed t0 x1) (I1 t0 x1) (m1 t0 x1) ((0):Int) [48] λ(t1:Int) b1 =>
(.br 17 (decide (t1<((l.map Rnk.v).length:Int))) (.elI 17 Rnk.v l t1 λx2 =>
(.join 2 (N0 l changed t0 x1 t1) (λ(t2:Bool)=>I2 t0 x1 t1 x2 t2) (λb2=>(.br 177 (decide (x1.n<x2.n)) (.callP (fV changed x1.r)
(.br 289 (!(decide (x1.r∈changed))) (.callP (fV changed x2.r)
(.bk 2 b2 ((decide (x2.r∈changed)):Bool) [0]))
(.bk 2 b2 ((false):Bool) [0])))
(.bk 2 b2 ((false):Bool) [0]))) λ(t2:Bool) =>
(.br 1 t2 (.ret (false))
(.bk 1 b1 ((W (t1+1)):Int) [0]))))
(.bk 0 b0 ((W (t0+1)):Int) []))))
(.ret (true))))
theorem Sy(l:List Rnk)(ch:List Int)(h:l.length≤1000000)(ok:ID l ch):∃I0 m0 I1 m1 I2,(Iz l ch I0 m0 I1 m1 I2).vp IB (BQ l ch):=by
 refine⟨λi=>ba l (λx=>(l.all λy=>!(uX ch x y))=true) i,λi=>l.length-i.toNat,λ_ x i=>ba l (λy=>uX ch x y=false) i,λ_ _ i=>l.length-i.toNat,λ_ x _ y b=>b=uX ch x y,?_⟩;simp only[ID,Rnk.v,okU,Blk.ok,aJ,B']at ok;dsimp only[Iz,IA,Ax.vp,Ax.vc];simp only[vcU,rfU,B']
 refine⟨ba.zero,λi hi=>⟨λc=>⟨hi.idx,c,λx hx=>⟨ba.zero,λj hj=>⟨λd=>⟨hj.idx,d,λy hy=>⟨⟨λe=>⟨λe2=>?_,λe2=>?_⟩,λe=>?_⟩,?_⟩⟩,λd=>?_⟩⟩⟩,λc=>?_⟩⟩
 ·unfold uX;rw[decide_eq_true e,e2];rfl
 ·unfold uX;rw[e2];simp
 ·unfold uX;rw[decide_eq_false e];rfl
 ·rintro _ rfl;refine⟨λe=>?_,λe=>hj.step (by omega) hy e⟩;refine(bZ'.mpr λq=>?_).symm;unfold BQ at q;have:=aN'.mp (aN'.mp q x (cd hx)) y (cd hy);rw[e]at this;cases this
 ·exact hi.step (by omega) hx (aN'.mpr λy hy=>by rw[hj.done d y hy];rfl)
 ·exact(aN'.mpr λx hx=>hi.done c x hx).symm
def IC(l:List Rnk)(changed:List Int)(h:l.length≤1000000):PC Tryz.prog:=pcO 55 [(.s 2),(.s 1)] [.sl 2 (l.map Rnk.v) false,.sl 1 (changed.map AV.int) false] .k IB (BQ l changed) (λok=>let ⟨I0,m0,I1,m1,I2,h⟩:=Sy l changed h ok;⟨_,h,by kernel_rfl⟩) rfl (by kernel_rfl)
def T18:Tpl:=⟨[⟨1,true⟩,⟨2,true⟩,⟨3,true⟩,⟨4,true⟩],[⟨1,2,1,1,0⟩,⟨1,3,1,1,0⟩,⟨1,4,1,1,0⟩,⟨2,3,1,1,0⟩]⟩
theorem AB:(aD T18 ⟨1,2,0,0⟩).1=1∧(aD T18 ⟨1,2,0,0⟩).2.2.2=0:=⟨by kernel_rfl,by kernel_rfl⟩
theorem NB:cV T18 ⟨1,2,0,0⟩=[⟨1,1⟩,⟨2,0⟩,⟨3,0⟩,⟨4,0⟩]:=by kernel_rfl
def Aw(r:Bool):AV:=.bool r
def sI:Ax Tryz.prog noS (Bool):=
 (.callP (yS (⟨[(⟨1,true⟩:Rtr),(⟨2,true⟩:Rtr),(⟨3,true⟩:Rtr),(⟨4,true⟩:Rtr)],[(⟨1,2,1,1,0⟩:Lnk),(⟨1,3,1,1,0⟩:Lnk),(⟨1,4,1,1,0⟩:Lnk),(⟨2,3,1,1,0⟩:Lnk)]⟩:Tpl) (⟨1,2,0,0⟩:Chg))
(.callP (Qs (⟨[(⟨1,true⟩:Rtr),(⟨2,true⟩:Rtr),(⟨3,true⟩:Rtr),(⟨4,true⟩:Rtr)],[(⟨1,2,1,1,0⟩:Lnk),(⟨1,3,1,1,0⟩:Lnk),(⟨1,4,1,1,0⟩:Lnk),(⟨2,3,1,1,0⟩:Lnk)]⟩:Tpl) (⟨1,2,0,0⟩:Chg))
(.br 528 (((aD (⟨[(⟨1,true⟩:Rtr),(⟨2,true⟩:Rtr),(⟨3,true⟩:Rtr),(⟨4,true⟩:Rtr)],[(⟨1,2,1,1,0⟩:Lnk),(⟨1,3,1,1,0⟩:Lnk),(⟨1,4,1,1,0⟩:Lnk),(⟨2,3,1,1,0⟩:Lnk)]⟩:Tpl) (⟨1,2,0,0⟩:Chg)).2.2.2)==0) (.br 592 (((aD (⟨[(⟨1,true⟩:Rtr),(⟨2,true⟩:Rtr),(⟨3,true⟩:Rtr),(⟨4,true⟩:Rtr)],[(⟨1,2,1,1,0⟩:Lnk),(⟨1,3,1,1,0⟩:Lnk),(⟨1,4,1,1,0⟩:Lnk),(⟨2,3,1,1,0⟩:Lnk)]⟩:Tpl) (⟨1,2,0,0⟩:Chg)).2.2.2)==0) (.br 656 (((aD (⟨[(⟨1,true⟩:Rtr),(⟨2,true⟩:Rtr),(⟨3,true⟩:Rtr),(⟨4,true⟩:Rtr)],[(⟨1,2,1,1,0⟩:Lnk),(⟨1,3,1,1,0⟩:Lnk),(⟨1,4,1,1,0⟩:Lnk),(⟨2,3,1,1,0⟩:Lnk)]⟩:Tpl) (⟨1,2,0,0⟩:Chg)).1)==1) (.br 736 ((((cV (⟨[(⟨1,true⟩:Rtr),(⟨2,true⟩:Rtr),(⟨3,true⟩:Rtr),(⟨4,true⟩:Rtr)],[(⟨1,2,1,1,0⟩:Lnk),(⟨1,3,1,1,0⟩:Lnk),(⟨1,4,1,1,0⟩:Lnk),(⟨2,3,1,1,0⟩:Lnk)]⟩:Tpl) (⟨1,2,0,0⟩:Chg)).map Rnk.v).length:Int)==4) (.el 752 Rnk.v (cV (⟨[(⟨1,true⟩:Rtr),(⟨2,true⟩:Rtr),(⟨3,true⟩:Rtr),(⟨4,true⟩:Rtr)],[(⟨1,2,1,1,0⟩:Lnk),(⟨1,3,1,1,0⟩:Lnk),(⟨1,4,1,1,0⟩:Lnk),(⟨2,3,1,1,0⟩:Lnk)]⟩:Tpl) (⟨1,2,0,0⟩:Chg)) (λR=>Rf ((cV (⟨[(⟨1,true⟩:Rtr),(⟨2,true⟩:Rtr),(⟨3,true⟩:Rtr),(⟨4,true⟩:Rtr)],[(⟨1,2,1,1,0⟩:Lnk),(⟨1,3,1,1,0⟩:Lnk),(⟨1,4,1,1,0⟩:Lnk),(⟨2,3,1,1,0⟩:Lnk)]⟩:Tpl) (⟨1,2,0,0⟩:Chg)).map Rnk.v) (ck (decide (0<((cV (⟨[(⟨1,true⟩:Rtr),(⟨2,true⟩:Rtr),(⟨3,true⟩:Rtr),(⟨4,true⟩:Rtr)],[(⟨1,2,1,1,0⟩:Lnk),(⟨1,3,1,1,0⟩:Lnk),(⟨1,4,1,1,0⟩:Lnk),(⟨2,3,1,1,0⟩:Lnk)]⟩:Tpl) (⟨1,2,0,0⟩:Chg)).length:Int)))
(∀x1,(cV (⟨[(⟨1,true⟩:Rtr),(⟨2,true⟩:Rtr),(⟨3,true⟩:Rtr),(⟨4,true⟩:Rtr)],[(⟨1,2,1,1,0⟩:Lnk),(⟨1,3,1,1,0⟩:Lnk),(⟨1,4,1,1,0⟩:Lnk),(⟨2,3,1,1,0⟩:Lnk)]⟩:Tpl) (⟨1,2,0,0⟩:Chg))[0]?=some x1 →
(R x1)))) λx1 =>
(.br 848 ((x1.r==1) && ((x1.n==1) && true)) (.el 864 Rnk.v (cV (⟨[(⟨1,true⟩:Rtr),(⟨2,true⟩:Rtr),(⟨3,true⟩:Rtr),(⟨4,true⟩:Rtr)],[(⟨1,2,1,1,0⟩:Lnk),(⟨1,3,1,1,0⟩:Lnk),(⟨1,4,1,1,0⟩:Lnk),(⟨2,3,1,1,0⟩:Lnk)]⟩:Tpl) (⟨1,2,0,0⟩:Chg)) (λR=>Rf ((cV (⟨[(⟨1,true⟩:Rtr),(⟨2,true⟩:Rtr),(⟨3,true⟩:Rtr),(⟨4,true⟩:Rtr)],[(⟨1,2,1,1,0⟩:Lnk),(⟨1,3,1,1,0⟩:Lnk),(⟨1,4,1,1,0⟩:Lnk),(⟨2,3,1,1,0⟩:Lnk)]⟩:Tpl) (⟨1,2,0,0⟩:Chg)).map Rnk.v) (ck (decide (3<((cV (⟨[(⟨1,true⟩:Rtr),(⟨2,true⟩:Rtr),(⟨3,true⟩:Rtr),(⟨4,true⟩:Rtr)],[(⟨1,2,1,1,0⟩:Lnk),(⟨1,3,1,1,0⟩:Lnk),(⟨1,4,1,1,0⟩:Lnk),(⟨2,3,1,1,0⟩:Lnk)]⟩:Tpl) (⟨1,2,0,0⟩:Chg)).length:Int)))
(∀x2,(cV (⟨[(⟨1,true⟩:Rtr),(⟨2,true⟩:Rtr),(⟨3,true⟩:Rtr),(⟨4,true⟩:Rtr)],[(⟨1,2,1,1,0⟩:Lnk),(⟨1,3,1,1,0⟩:Lnk),(⟨1,4,1,1,0⟩:Lnk),(⟨2,3,1,1,0⟩:Lnk)]⟩:Tpl) (⟨1,2,0,0⟩:Chg))[3]?=some x2 →
(R x2)))) λx2 =>
(.br 960 ((x2.r==4) && ((x2.n==0) && true)) (.req 992 ((cV (⟨[(⟨1,true⟩:Rtr),(⟨2,true⟩:Rtr),(⟨3,true⟩:Rtr),(⟨4,true⟩:Rtr)],[(⟨1,2,1,1,0⟩:Lnk),(⟨1,3,1,1,0⟩:Lnk),(⟨1,4,1,1,0⟩:Lnk),(⟨2,3,1,1,0⟩:Lnk)]⟩:Tpl) (⟨1,2,0,0⟩:Chg)).length≤1000000) λh3 =>
(.callP (IC (cV (⟨[(⟨1,true⟩:Rtr),(⟨2,true⟩:Rtr),(⟨3,true⟩:Rtr),(⟨4,true⟩:Rtr)],[(⟨1,2,1,1,0⟩:Lnk),(⟨1,3,1,1,0⟩:Lnk),(⟨1,4,1,1,0⟩:Lnk),(⟨2,3,1,1,0⟩:Lnk)]⟩:Tpl) (⟨1,2,0,0⟩:Chg)) [4] h3)
(.br 1040 (BQ (cV (⟨[(⟨1,true⟩:Rtr),(⟨2,true⟩:Rtr),(⟨3,true⟩:Rtr),(⟨4,true⟩:Rtr)],[(⟨1,2,1,1,0⟩:Lnk),(⟨1,3,1,1,0⟩:Lnk),(⟨1,4,1,1,0⟩:Lnk),(⟨2,3,1,1,0⟩:Lnk)]⟩:Tpl) (⟨1,2,0,0⟩:Chg)) [4]) (.req 1072 ((cV (⟨[(⟨1,true⟩:Rtr),(⟨2,true⟩:Rtr),(⟨3,true⟩:Rtr),(⟨4,true⟩:Rtr)],[(⟨1,2,1,1,0⟩:Lnk),(⟨1,3,1,1,0⟩:Lnk),(⟨1,4,1,1,0⟩:Lnk),(⟨2,3,1,1,0⟩:Lnk)]⟩:Tpl) (⟨1,2,0,0⟩:Chg)).length≤1000000) λh4 =>
(.callP (IC (cV (⟨[(⟨1,true⟩:Rtr),(⟨2,true⟩:Rtr),(⟨3,true⟩:Rtr),(⟨4,true⟩:Rtr)],[(⟨1,2,1,1,0⟩:Lnk),(⟨1,3,1,1,0⟩:Lnk),(⟨1,4,1,1,0⟩:Lnk),(⟨2,3,1,1,0⟩:Lnk)]⟩:Tpl) (⟨1,2,0,0⟩:Chg)) [1] h4)
(.ret (!(BQ (cV (⟨[(⟨1,true⟩:Rtr),(⟨2,true⟩:Rtr),(⟨3,true⟩:Rtr),(⟨4,true⟩:Rtr)],[(⟨1,2,1,1,0⟩:Lnk),(⟨1,3,1,1,0⟩:Lnk),(⟨1,4,1,1,0⟩:Lnk),(⟨2,3,1,1,0⟩:Lnk)]⟩:Tpl) (⟨1,2,0,0⟩:Chg)) [1])))))
(.ret (false)))))
(.ret (false))))
(.ret (false))))
(.ret (false)))
(.ret (false)))
(.ret (false)))
(.ret (false)))))
theorem Na:sI.vp Aw true:=by
  dsimp only[sI,noS,Ax.vp,Ax.vc];simp only[vcU,rfU,B'];rw[show({ rs:=[{ id:=1,cap:=true },{ id:=2,cap:=true },{ id:=3,cap:=true },{ id:=4,cap:=true }],ls:=[{ a:=1,b:=2,ca:=1,cb:=1,w:=0 },{ a:=1,b:=3,ca:=1,cb:=1,w:=0 },{ a:=1,b:=4,ca:=1,cb:=1,w:=0 },{ a:=2,b:=3,ca:=1,cb:=1,w:=0 }] }:Tpl)=T18 from rfl,NB,AB.1,AB.2];simp[BQ,uX]
def Ay:PC Tryz.prog:=pcO 15 [] [] .k Aw true (λ_=>⟨(sI),Na,by kernel_rfl⟩) rfl (by kernel_rfl)
set_option pp.deepTerms true
set_option pp.maxSteps 100000
def FU(l:List Tbl)(router:Int)(t0:Int):NF:=⟨[rI 1 router,rR 4 0,(11,.k,.sl 4 (l.map Tbl.v) false),rI 12 ((l.map Tbl.v).length:Int),rI 13 t0],[.box (.agg [.int 0,.int 0,.int 0,.sl 0 [] true])]⟩
def FT(x1:Tbl)(t1:Int×List Rw):NF:=⟨[rR 4 0,rR 8 1,(24,.k,.sl 2 (x1.rows.map Rw.v) false),rI 25 ((x1.rows.map Rw.v).length:Int),rI 26 t1.1],[.box (.agg [.int 0,.int 0,.int 0,.sl 0 [] true]),.box (.agg [.int x1.router,.int x1.sub,.int x1.len,.vec 2]),vB 2 Rw.v t1.2 (λ_=>rfl)]⟩
@[reducible] def zP:Nat→Type
 | 0=>Int
 | 1=>Int×List Rw
 | _=>Unit
def zQ(r:Tbl×Bool):AV:=.tup [Tbl.v r.1,.bool r.2]
def zO(l:List Tbl)(router:Int)(I0:Int→Prop)(m0:Int→Nat)(I1:Int→Tbl→(Int×List Rw)→Prop)(m1:Int→Tbl→(Int×List Rw)→Nat):Ax Tryz.prog zP (Tbl×Bool):=
 (.loop 0 (FU l router) I0 m0 ((0):Int) [0] λ(t0:Int) b0 =>
(.br 17 (decide (t0<((l.map Tbl.v).length:Int))) (.elI 17 Tbl.v l t0 λx1 =>
(.br 145 (x1.router==router) (.cmdL (.nilB 161 3 2) (.loop 1 (FT x1) (I1 t0 x1) (m1 t0 x1) (0,[]) [0,161,289] λ(t1:Int×List Rw) b1 =>
(.br 19 (decide (t1.1<((x1.rows.map Rw.v).length:Int))) (.elI 19 Rw.v x1.rows t1.1 λx2 =>
(.req 179 (x2.nx.length≤1000000) λh3 =>
(.callP (Hh x2.nx h3)
(.apX 227 Rw.v t1.2 [x2] (t1.2.length+1)
(.bk 1 b1 (W (t1.1+1),t1.2++[x2]) [0,1,227])))))
(.fz 2 Rw.v t1.2 (λ_=>rfl) (.ret ((⟨x1.router,x1.sub,x1.len,t1.2⟩:Tbl),true))))))
(.bk 0 b0 ((W (t0+1)):Int) [0])))
(.ret ((⟨0,0,0,[]⟩:Tbl),false))))
theorem L6(l:List Tbl)(router:Int)(h:mf l):∃I0 m0 I1 m1,(zO l router I0 m0 I1 m1).vp zQ (bu l router):=by
 refine⟨λi=>ba l (λb=>(b.router==router)=false) i,λi=>l.length-i.toNat,λ_ b s=>eO b.rows (λx=>[x]) s.1 s.2,λ_ b s=>b.rows.length-s.1.toNat,?_⟩;dsimp only[zO,zP,Ax.vp,Ax.vc];simp only[vcU,rfU,B']
 refine⟨ba.zero,λi hi=>⟨λc=>⟨hi.idx,c,λb hb=>⟨λq=>⟨eO.zero,λs hs=>⟨λd=>⟨hs.idx,d,λx hx=>⟨?_,?_⟩⟩,λd=>?_⟩⟩,λq=>hi.step (by have:=h.1;omega) hb q⟩⟩,λc=>?_⟩⟩
 ·have:=(h.2 b (cd hb)).2 x (cd hx);omega
 ·have hr:=(h.2 b (cd hb)).1;have:=hs.len (b:=1) λx _=>by simp
  exact⟨by omega,hs.step (by omega) hx rfl⟩
 ·have e:=lB (p:=λb:Tbl=>b.router==router) hi hb q;unfold bu;rw[e,hs.done d];have:(b.rows.flatMap λx=>[x])=b.rows:=by simp
  rw[this]
 ·have e:=nF (p:=λb:Tbl=>b.router==router) hi c;unfold bu;rw[e]
def zR(l:List Tbl)(router:Int)(h:mf l):PC Tryz.prog:=pcO 68 [(.s 4),.k] [.sl 4 (l.map Tbl.v) false,.int router] (.a [(.a [.k,.k,.k,(.s 2)]),.k]) zQ (bu l router) (λ_=>let ⟨I0,m0,I1,m1,h⟩:=L6 l router h;⟨_,h,by kernel_rfl⟩) rfl (by kernel_rfl)
def Bf(b:List Tbl)(ch:List Int)(x:Tbl):Tbl:=if(bu b x.router).2=true∧x.router∈ch then(bu b x.router).1 else x
def nj(a b:List Tbl)(ch:List Int):List Tbl:=a.map (Bf b ch)
def KF(old:List Tbl)(new:List Tbl)(changed:List Int)(t0:Int×List Tbl):NF:=⟨[(1,.k,.sl 4 (new.map Tbl.v) false),(2,.k,.sl 1 (changed.map AV.int) false),rV 7 0,(14,.k,.sl 4 (old.map Tbl.v) false),rI 15 ((old.map Tbl.v).length:Int),rI 16 t0.1],[vB 4 Tbl.v t0.2 (λ_=>rfl)]⟩
def KE(old:List Tbl)(new:List Tbl)(changed:List Int)(t0:Int×List Tbl)(x1:Tbl)(t1:Bool):NF:=⟨[(1,.k,.sl 4 (new.map Tbl.v) false),(2,.k,.sl 1 (changed.map AV.int) false),rV 7 0,rR 10 1,rR 12 2,(14,.k,.sl 4 (old.map Tbl.v) false),rI 15 ((old.map Tbl.v).length:Int),rI 16 t0.1,rB 41 t1],[vB 4 Tbl.v t0.2 (λ_=>rfl),.box (Tbl.v ((bu [x1] x1.router).1)),.box (Tbl.v ((bu new x1.router).1))]⟩
@[reducible] def Ex:Nat→Type
 | 0=>Int×List Tbl
 | 1=>Bool
 | _=>Unit
def Ey(r:List Tbl):AV:=.sl 4 (r.map Tbl.v) false
def Ew(old:List Tbl)(new:List Tbl)(changed:List Int)(I0:(Int×List Tbl)→Prop)(m0:(Int×List Tbl)→Nat)(I1:Int×List Tbl→Tbl→Bool→Prop):Ax Tryz.prog Ex ((List Tbl)):=
 (.cmdL (.nilT 7 4) (.loop 0 (KF old new changed) I0 m0 (0,[]) [80] λ(t0:Int×List Tbl) b0 =>
(.br 17 (decide (t0.1<((old.map Tbl.v).length:Int))) (.elI 17 Tbl.v old t0.1 λx1 =>
(.req 145 (mf [x1]) λh2 =>
(.callP (zR [x1] x1.router h2)
(.req 305 (mf new) λh3 =>
(.callP (zR new x1.router h3)
(.join 1 (KE old new changed t0 x1) (λ(t1:Bool)=>I1 t0 x1 t1) (λb1=>(.br 449 ((bu new x1.router).2) (.callP (fV changed x1.router)
(.bk 1 b1 ((decide (x1.router∈changed)):Bool) [0,209,369]))
(.bk 1 b1 ((false):Bool) [0,209,369]))) λ(t1:Bool) =>
(.br 3 t1 (.apX 83 Tbl.v t0.2 [(bu new x1.router).1] (t0.2.length+1)
(.bk 0 b0 (W (t0.1+1),t0.2++[(bu new x1.router).1]) [83]))
(.apX 51 Tbl.v t0.2 [(bu [x1] x1.router).1] (t0.2.length+1)
(.bk 0 b0 (W (t0.1+1),t0.2++[(bu [x1] x1.router).1]) [51])))))))))
(.fz 0 Tbl.v t0.2 (λ_=>rfl) (.ret (t0.2))))))
theorem KD(x:Tbl):(bu [x] x.router).1=x:=by unfold bu;simp
theorem Qh(a b:List Tbl)(ch:List Int)(h0:mf a)(h1:mf b):∃I0 m0 I1,(Ew a b ch I0 m0 I1).vp Ey (nj a b ch):=by
 refine⟨λs=>eO a (λx=>[Bf b ch x]) s.1 s.2,λs=>a.length-s.1.toNat,λ_ x u=>u=decide ((bu b x.router).2=true∧x.router∈ch),?_⟩;dsimp only[Ew,Ex,Ax.vp,Ax.vc];simp only[vcU,rfU,B']
 refine⟨eO.zero,λs hs=>⟨λc=>⟨hs.idx,c,λx hx=>⟨⟨by simp,λz hz=>by rw[L'.mp hz];exact h0.2 x (cd hx)⟩,h1,⟨λe=>by simp[e],λe=>by simp[e]⟩,?_⟩⟩,λc=>?_⟩⟩
 ·rintro _ rfl;have hl:=hs.len (b:=1) λx _=>by simp
  have:=h0.1
  refine⟨λe=>⟨by omega,hs.step (by omega) hx ?_⟩,λe=>⟨by omega,hs.step (by omega) hx ?_⟩⟩
  ·unfold Bf;rw[G' (H' e)]
  ·unfold Bf;rw[F' (T' e),KD]
 ·rw[hs.done c];unfold nj;exact List.map_eq_flatMap.symm
def Qi(old:List Tbl)(new:List Tbl)(changed:List Int)(h0:mf old)(h1:mf new):PC Tryz.prog:=pcO 23 [(.s 4),(.s 4),(.s 1)] [.sl 4 (old.map Tbl.v) false,.sl 4 (new.map Tbl.v) false,.sl 1 (changed.map AV.int) false] (.s 4) Ey (nj old new changed) (λ_=>let ⟨I0,m0,I1,h⟩:=Qh old new changed h0 h1;⟨_,h,by kernel_rfl⟩) rfl (by kernel_rfl)
def okI(l:List Tbl)(id:Int):Bool:=(List.range 8).all λk=>decide (zq l id (k:Nat)=[])
def AN(l:List Tbl):Bool:=(j4 l==0) && l.all λb=>b.rows.all λr=>okI l r.id
theorem Kv{l:List Tbl}{id:Int}:okI l id=true↔∀k:Nat,k<8→zq l id k=[]:=by
 unfold okI;simp only[aN',al',S']
def apS(s:Bool×Lnk×List Lnk)(l:Lnk):Bool×Lnk×List Lnk:=
  if l.a=s.2.1.a∧l.b=s.2.1.b then(true,{ s.2.1 with w:=l.w },s.2.2++[{ s.2.1 with w:=l.w }])
  else if s.1=false∧aM s.2.1 l then(true,s.2.1,s.2.2++[s.2.1]++[l])
  else(s.1,s.2.1,s.2.2++[l])
def apF(s:Bool×Lnk×List Lnk):List Lnk:=if s.1=false then s.2.2++[s.2.1]else s.2.2
theorem Iy{x:Lnk}:∀(l:List Lnk) (out:List Lnk),(∀y∈l,aM y x)→l.foldl apS (false,x,out)=(false,x,out++l)
 | [],out,_=>by simp
 | y::l,out,h=>by
  have hy:=h y (by simp);have e:apS (false,x,out) y=(false,x,out++[y]):=by
   unfold apS;rw[F' (by unfold aM at hy;simp only;omega),F' (by unfold aM at hy ⊢;simp only;omega)]
  rw[at',e,Iy l _ (λz hz=>h z (by simp[hz]))];simp
theorem xY{x:Lnk}:∀(l:List Lnk) (out:List Lnk),(∀y∈l,aM x y)→l.foldl apS (true,x,out)=(true,x,out++l)
 | [],out,_=>by simp
 | y::l,out,h=>by
  have hy:=h y (by simp);have e:apS (true,x,out) y=(true,x,out++[y]):=by
   unfold apS;rw[F' (by unfold aM at hy;simp only;omega),F' (by simp)]
  rw[at',e,xY l _ (λz hz=>h z (by simp[hz]))];simp
theorem rC{x y z:Lnk}(h:aM x y)(k:aM y z):aM x z:=by unfold aM at *;omega
theorem mb{l:List Lnk}(h:l.Pairwise aM)(x:Lnk):(∀k y,k<aI l x→l[k]?=some y→aM y x)∧(∀k y,aI l x≤k→l[k]?=some y→¬aM y x)∧aI l x≤l.length:=by
 obtain⟨s1,s2,s3⟩:=lK (lt:=mj x) (l:=l) (λa b u v hab hu hv e=>by
  have h1:=fT h hab hu hv;unfold mj at e ⊢;exact decide_eq_true (rC h1 (H' e))) (f:=l.length) (i:=0) (j:=l.length) (by omega) (by omega) (V' _) (λk x hk=>by omega) (λk x hk hx=>by have:=ao hx;omega)
 exact⟨λk y hk hy=>H' (s1 k y hk hy),λk y hk hy=>T' (s2 k y hk hy),s3⟩
theorem Sx{l:List Lnk}(h:l.Pairwise aM)(x:Lnk):apF (l.foldl apS (false,x,[]))=if c9 l x=true then l.set (aI l x) { x with w:=(l.getD (aI l x) ⟨0,0,0,0,0⟩).w } else bF l (aI l x) x:=by
  obtain⟨s1,s2,s3⟩:=mb h x;have hsplit:l=l.take (aI l x)++l.drop (aI l x):=(bT' _ _).symm;have htk:∀y∈l.take (aI l x),aM y x:=λy hy=>by
    obtain⟨j,hj,rfl⟩:=aD'.mp hy;exact s1 j _ (by omega) (u' (by omega))
  have hf:l.foldl apS (false,x,[])=(l.drop (aI l x)).foldl apS (false,x,l.take (aI l x)):=by
    conv=>lhs;rw[hsplit]
    rw[aZ',Iy _ _ htk,bu']
  have hh:c9 l x=(l[aI l x]?).any (ik x):=rfl;rw[hf]
  by_cases hp:aI l x<l.length
  · have hz:l[aI l x]?=some l[aI l x]:=u' hp
    have hd:l.drop (aI l x)=l[aI l x]::l.drop (aI l x+1):=bx' hp;generalize l[aI l x]=z at hz hd;have hr:∀y∈l.drop (aI l x+1),aM z y:=λy hy=>by
      obtain⟨j,hj⟩:=ag'.mp hy;rw[aH']at hj;exact fT h (by omega) hz hj
    have hnz:=s2 _ z (V' _) hz;rw[hd,at']
    by_cases e:z.a=x.a∧z.b=x.b
    · have hit:c9 l x=true:=by rw[hh,hz];simp[ik,e]
      have e1:apS (false,x,l.take (aI l x)) z=(true,{ x with w:=z.w },l.take (aI l x)++[{ x with w:=z.w }]):=by unfold apS;rw[G' e]
      rw[e1,xY _ _ (λy hy=>by have:=hr y hy;unfold aM at *;simp only;omega),G' hit];unfold apF;simp only[Bool.true_eq_false,if_false];rw[I',hz,bN',G' hp];simp
    · have hit:¬c9 l x=true:=by rw[hh,hz];simp[ik];exact λq=>λq2=>e ⟨q,q2⟩
      have hxz:aM x z:=by unfold aM at *;omega
      have e1:apS (false,x,l.take (aI l x)) z=(true,x,l.take (aI l x)++[x]++[z]):=by unfold apS;rw[F' e,G' ⟨rfl,hxz⟩]
      rw[e1,xY _ _ (λy hy=>rC hxz (hr y hy)),F' hit];unfold apF bF;simp only[Bool.true_eq_false,if_false];rw[hd];simp
  · have hp':aI l x=l.length:=by omega
    have hit:¬c9 l x=true:=by rw[hh,aj' (by omega)];simp
    rw[F' hit,bB' (by omega)];unfold apF bF;rw[bB' (show l.length≤aI l x by omega)];simp
theorem EM{y y':Lnk}(ha:y.a=y'.a)(hb:y.b=y'.b):mj y=mj y'∧ik y=ik y':=by
 constructor
 ·funext x;exact decide_eq_decide.mpr (by unfold aM;rw[ha,hb])
 ·funext x;exact decide_eq_decide.mpr (by rw[ha,hb])
theorem lu(c:Chg):(aL c).a=(pM c.a c.b).a∧(aL c).b=(pM c.a c.b).b:=by
 unfold aL pM eI dZ
 by_cases h:c.b<c.a
 ·rw[G' h];simp only;(repeat' split)<;>omega
 ·rw[F' h];simp only;(repeat' split)<;>omega
theorem rO{t:Tpl}(hc:ay t=0)(c:Chg):c9 t.ls (aL c)=(aU t c.a c.b).2:=by
 rw[←(yW hc c.a c.b).1];unfold c9;rw[(EM (lu c).1 (lu c).2).1,(EM (lu c).1 (lu c).2).2]
theorem IU{t:Tpl}(hc:ay t=0)(c:Chg)(hit:c9 t.ls (aL c)=true):AG t ⟨[⟨c.a,c.b⟩],[]⟩=⟨t.rs,eT t.ls (aI t.ls (aL c))⟩:=by
 have hO:=ax hc;have h:=hO.ord;obtain⟨s1,s2,s3⟩:=mb h (aL c);have hh:c9 t.ls (aL c)=(t.ls[aI t.ls (aL c)]?).any (ik (aL c)):=rfl;have hp:aI t.ls (aL c)<t.ls.length:=by
  refine P' λq=>?_;rw[hh,aj' (by omega)]at hit;simp at hit
 have hz:t.ls[aI t.ls (aL c)]?=some t.ls[aI t.ls (aL c)]:=u' hp;have hd:t.ls.drop (aI t.ls (aL c))=t.ls[aI t.ls (aL c)]::t.ls.drop (aI t.ls (aL c)+1):=bx' hp;have hsplit:t.ls=t.ls.take (aI t.ls (aL c))++t.ls.drop (aI t.ls (aL c)):=(bT' _ _).symm;generalize t.ls[aI t.ls (aL c)]=z at hz hd;have hzk:z.a=(aL c).a∧z.b=(aL c).b:=by rw[hh,hz]at hit;simpa[ik]using hit
 have hg:∀y∈t.ls,(!gone ⟨[⟨c.a,c.b⟩],[]⟩ y)=!(decide (y.a=z.a∧y.b=z.b)):=λy hy=>by
  have hlt:=hO.lt y hy;have hzl:=hO.lt z (O' hz)
  congr 1
  unfold gone nmd;rw[ae',S',hzk.1,hzk.2];unfold aL;simp
  by_cases e:c.b<c.a
  ·rw[G' e];simp only;omega
  ·rw[F' e];simp only;unfold aL at hzk;rw[F' e]at hzk;simp only at hzk;omega
 unfold AG;rw[G' hc]
 congr 1
 ·simp
 ·rw[List.filter_congr hg]
  conv=>lhs;rw[hsplit,hd]
  rw[bw',aO',F' (by simp)];unfold eT
  congr 1
  ·refine List.filter_eq_self.mpr λy hy=>?_;obtain⟨j,hj,rfl⟩:=aD'.mp hy;have:=fT h (show j<aI t.ls (aL c) by omega) (u' (by omega)) hz;simp only[bk',decide_eq_false_iff_not];unfold aM at this;omega
  ·refine List.filter_eq_self.mpr λy hy=>?_;obtain⟨j,hj⟩:=ag'.mp hy;rw[aH']at hj;have:=fT h (show aI t.ls (aL c)<aI t.ls (aL c)+1+j by omega) hz hj;simp only[bk',decide_eq_false_iff_not];unfold aM at this;omega
set_option pp.deepTerms true
set_option pp.maxSteps 100000
def Ix(t:Tpl)(c:Chg):=okL [Tpl.v t,Chg.v c]
def Nz(t:Tpl)(c:Chg)(t0:Bool):NF:=⟨[rR 2 0,rR 3 1,rR 4 2,rB 29 t0],[.box (Tpl.v t),.box (Chg.v c),.box (.agg [.sl 0 [] true,.sl 0 [] true])]⟩
def Ny(t:Tpl)(c:Chg)(t1:Bool):NF:=⟨[rR 2 0,rR 3 1,rR 4 2,rB 6 t1],[.box (Tpl.v t),.box (Chg.v c),.box (.agg [.sl 0 [] true,.sl 0 [] true])]⟩
def Nx(t:Tpl)(c:Chg)(t2:Bool):NF:=⟨[rR 2 0,rR 3 1,rR 4 2,rB 6 (c.cb==0),rB 58 t2],[.box (Tpl.v t),.box (Chg.v c),.box (.agg [.sl 0 [] true,.sl 0 [] true])]⟩
def Nw(t:Tpl)(c:Chg)(t3:Bool):NF:=⟨[rR 2 0,rR 3 1,rR 4 2,rB 6 false,rB 58 t3],[.box (Tpl.v t),.box (Chg.v c),.box (.agg [.sl 0 [] true,.sl 0 [] true])]⟩
def Nv(t:Tpl)(c:Chg)(t1:Bool)(t4:Bool):NF:=⟨[rR 2 0,rR 3 1,rR 4 2,rB 6 t1,rB 8 ((aU t c.a c.b).2),rB 73 t4],[.box (Tpl.v t),.box (Chg.v c),.box (.agg [.sl 0 [] true,.sl 0 [] true])]⟩
def Nu(t:Tpl)(c:Chg)(t5:Lnk):NF:=⟨[rR 2 0,rR 4 1,rB 8 ((aU t c.a c.b).2),rR 9 2],[.box (Tpl.v t),.box (.agg [.sl 0 [] true,.sl 0 [] true]),.box (Lnk.v t5)]⟩
def Nt(t:Tpl)(t5:Lnk)(t6:Bool):NF:=⟨[rR 2 0,rR 4 1,rR 9 2,rB 115 t6],[.box (Tpl.v t),.box (.agg [.sl 0 [] true,.sl 0 [] true]),.box (Lnk.v t5)]⟩
def Ns(t:Tpl)(t7:Bool×Int×Lnk×List Lnk):NF:=⟨[rR 2 0,rR 4 1,rR 9 2,rR 10 3,rB 11 t7.1,rI 12 t7.2.1],[.box (Tpl.v t),.box (.agg [.sl 0 [] true,.sl 0 [] true]),.box (Lnk.v t7.2.2.1),.box (.agg [.sl 2 (t.rs.map Rtr.v) false,.vec 4]),vB 5 Lnk.v t7.2.2.2 (λ_=>rfl)]⟩
def Nr(t:Tpl)(t7:Bool×Int×Lnk×List Lnk)(x1:Lnk)(t8:Bool):NF:=⟨[rR 2 0,rR 4 1,rR 9 2,rR 10 3,rB 11 t7.1,rI 12 t7.2.1,rR 13 5,rB 143 t8],[.box (Tpl.v t),.box (.agg [.sl 0 [] true,.sl 0 [] true]),.box (Lnk.v t7.2.2.1),.box (.agg [.sl 2 (t.rs.map Rtr.v) false,.vec 4]),vB 5 Lnk.v t7.2.2.2 (λ_=>rfl),.box (Lnk.v x1)]⟩
def Nq(t:Tpl)(t7:Bool×Int×Lnk×List Lnk)(x1:Lnk)(t9:Bool):NF:=⟨[rR 2 0,rR 4 1,rR 9 2,rR 10 3,rB 11 t7.1,rI 12 t7.2.1,rR 13 5,rB 175 t9],[.box (Tpl.v t),.box (.agg [.sl 0 [] true,.sl 0 [] true]),.box (Lnk.v t7.2.2.1),.box (.agg [.sl 2 (t.rs.map Rtr.v) false,.vec 4]),vB 5 Lnk.v t7.2.2.2 (λ_=>rfl),.box (Lnk.v x1)]⟩
@[reducible] def Iv:Nat→Type
 | 0=>Bool
 | 1=>Bool
 | 2=>Bool
 | 3=>Bool
 | 4=>Bool
 | 5=>Lnk
 | 6=>Bool
 | 7=>Bool×Int×Lnk×List Lnk
 | 8=>Bool
 | 9=>Bool
 | _=>Unit
def Iw(r:Tpl×Int):AV:=.tup [Tpl.v r.1,.int r.2]
def Iu(t:Tpl)(c:Chg)(I0:Bool→Prop)(I1:Bool→Bool→Prop)(I2:Bool→Bool→Prop)(I3:Bool→Bool→Prop)(I4:Bool→Bool→Bool→Prop)(I5:Bool→Bool→Bool→Lnk→Prop)(I6:Bool→Bool→Bool→Lnk→Bool→Prop)(I7:Bool→Bool→Bool→Lnk→Bool→(Bool×Int×Lnk×List Lnk)→Prop)(m7:Bool→Bool→Bool→Lnk→Bool→(Bool×Int×Lnk×List Lnk)→Nat)(I8:Bool→Bool→Bool→Lnk→Bool→Bool×Int×Lnk×List Lnk→Lnk→Bool→Prop)(I9:Bool→Bool→Bool→Lnk→Bool→Bool×Int×Lnk×List Lnk→Lnk→Bool→Bool→Prop):Ax Tryz.prog Iv (Tpl×Int):=
 (.callP (px t)
(.br 112 ((ay t) != 0) (.ret ((⟨[],[]⟩:Tpl),1))
(.pass (.join 0 (Nz t c) (λ(t0:Bool)=>I0 t0) (λb0=>(.callP (oN t c.a)
(.br 208 (!(az t c.a)) (.bk 0 b0 ((true):Bool) [0,16,32])
(.callP (oN t c.b)
(.bk 0 b0 ((!(az t c.b)):Bool) [0,16,32]))))) λ(t0:Bool) =>
(.br 3 t0 (.ret ((⟨[],[]⟩:Tpl),4))
(.br 83 (c.a==c.b) (.ret ((⟨[],[]⟩:Tpl),8))
(.join2 1 (Ny t c) (λ(t1:Bool)=>I1 t0 t1) (λb1=>(.br 147 (c.ca==0) (.join 2 (Nx t c) (λ(t2:Bool)=>I2 t0 t2) (λb2=>(.br 275 (!(c.cb==0)) (.callP (mG c.ca)
(.br 355 (!(ei c.ca)) (.bk 2 b2 ((true):Bool) [0,1,2])
(.callP (mG c.cb)
(.bk 2 b2 ((!(ei c.cb)):Bool) [0,1,2]))))
(.bk 2 b2 ((false):Bool) [0,1,2]))) λ(t2:Bool) =>
(.br 3 t2 (.ret ((⟨[],[]⟩:Tpl),2))
(.bk 1 b1 ((c.cb==0):Bool) [0,1,2])))
(.join 3 (Nw t c) (λ(t3:Bool)=>I3 t0 t3) (λb3=>(.callP (mG c.ca)
(.br 355 (!(ei c.ca)) (.bk 3 b3 ((true):Bool) [0,1,2])
(.callP (mG c.cb)
(.bk 3 b3 ((!(ei c.cb)):Bool) [0,1,2]))))) λ(t3:Bool) =>
(.br 3 t3 (.ret ((⟨[],[]⟩:Tpl),2))
(.bk 1 b1 ((false):Bool) [0,1,2]))))) λ(t1:Bool) =>
(.callP (vY t c.a c.b)
(.pass (.join 4 (Nv t c t1) (λ(t4:Bool)=>I4 t0 t1 t4) (λb4=>(.br 211 t1 (.bk 4 b4 ((!((aU t c.a c.b).2)):Bool) [0,1,2])
(.bk 4 b4 ((false):Bool) [0,1,2]))) λ(t4:Bool) =>
(.br 3 t4 (.ret ((⟨[],[]⟩:Tpl),9))
(.br 19 t1 (.callP (O1 t (⟨[(⟨c.a,c.b⟩:Hop)],[]⟩:Flr))
(.ret (AG t (⟨[(⟨c.a,c.b⟩:Hop)],[]⟩:Flr),0)))
(.pass (.join 5 (Nu t c) (λ(t5:Lnk)=>I5 t0 t1 t4 t5) (λb5=>(.br 275 (decide (c.b<c.a)) (.bk 5 b5 (((⟨c.b,c.a,c.cb,c.ca,0⟩:Lnk)):Lnk) [0,2,163])
(.bk 5 b5 (((⟨c.a,c.b,c.ca,c.cb,0⟩:Lnk)):Lnk) [0,2,163]))) λ(t5:Lnk) =>
(.pass (.join 6 (Nt t t5) (λ(t6:Bool)=>I6 t0 t1 t4 t5 t6) (λb6=>(.br 51 (!((aU t c.a c.b).2)) (.bk 6 b6 ((((t.ls.map Lnk.v).length:Int)==60):Bool) [0,1,2])
(.bk 6 b6 ((false):Bool) [0,1,2]))) λ(t6:Bool) =>
(.br 3 t6 (.ret ((⟨[],[]⟩:Tpl),3))
(.cmdL (.nilB 51 1 5) (.loop 7 (Ns t) (I7 t0 t1 t4 t5 t6) (m7 t0 t1 t4 t5 t6) (false,0,t5,[]) [0,1,2,51,115] λ(t7:Bool×Int×Lnk×List Lnk) b7 =>
(.br 85 (decide (t7.2.1<((t.ls.map Lnk.v).length:Int))) (.elI 133 Lnk.v t.ls t7.2.1 λx1 =>
(.pass (.join 8 (Nr t t7 x1) (λ(t8:Bool)=>I8 t0 t1 t4 t5 t6 t7 x1 t8) (λb8=>(.br 293 (x1.a==t7.2.2.1.a) (.bk 8 b8 ((x1.b==t7.2.2.1.b):Bool) [0,1,2,3,4,165])
(.bk 8 b8 ((false):Bool) [0,1,2,3,4,165]))) λ(t8:Bool) =>
(.br 6 t8 (.apX 134 Lnk.v t7.2.2.2 [(⟨t7.2.2.1.a,t7.2.2.1.b,t7.2.2.1.ca,t7.2.2.1.cb,x1.w⟩:Lnk)] (t7.2.2.2.length+1)
(.bk 7 b7 (true,W (t7.2.1+1),(⟨t7.2.2.1.a,t7.2.2.1.b,t7.2.2.1.ca,t7.2.2.1.cb,x1.w⟩:Lnk),t7.2.2.2++[(⟨t7.2.2.1.a,t7.2.2.1.b,t7.2.2.1.ca,t7.2.2.1.cb,x1.w⟩:Lnk)]) [0,1,2,3,134]))
(.pass (.join 9 (Nq t t7 x1) (λ(t9:Bool)=>I9 t0 t1 t4 t5 t6 t7 x1 t8 t9) (λb9=>(.br 54 (!t7.1) (.br 150 (decide (t7.2.2.1.a<x1.a)) (.bk 9 b9 ((true):Bool) [0,1,2,3,4,5])
(.br 246 (t7.2.2.1.a==x1.a) (.bk 9 b9 ((decide (t7.2.2.1.b<x1.b)):Bool) [0,1,2,3,4,5])
(.bk 9 b9 ((false):Bool) [0,1,2,3,4,5])))
(.bk 9 b9 ((false):Bool) [0,1,2,3,4,5]))) λ(t9:Bool) =>
(.br 6 t9 (.apX 70 Lnk.v t7.2.2.2 [t7.2.2.1] (t7.2.2.2.length+1)
(.apX 198 Lnk.v (t7.2.2.2++[t7.2.2.1]) [x1] ((t7.2.2.2++[t7.2.2.1]).length+1)
(.bk 7 b7 (true,W (t7.2.1+1),t7.2.2.1,(t7.2.2.2++[t7.2.2.1])++[x1]) [0,1,2,3,198])))
(.apX 70 Lnk.v t7.2.2.2 [x1] (t7.2.2.2.length+1)
(.bk 7 b7 (t7.1,W (t7.2.1+1),t7.2.2.1,t7.2.2.2++[x1]) [0,1,2,3,70])))))))))
(.br 117 (!t7.1) (.apX 181 Lnk.v t7.2.2.2 [t7.2.2.1] (t7.2.2.2.length+1)
(.fz 181 Lnk.v (t7.2.2.2++[t7.2.2.1]) (λ_=>rfl) (.ret ((⟨t.rs,t7.2.2.2++[t7.2.2.1]⟩:Tpl),0))))
(.fz 4 Lnk.v t7.2.2.2 (λ_=>rfl) (.ret ((⟨t.rs,t7.2.2.2⟩:Tpl),0))))))))))))))))))))))))
abbrev vR(c:Chg):Prop:=cq c=false∧(ei c.ca=false∨ei c.cb=false)
theorem A3:∀(l:List Lnk) (s:Bool×Lnk×List Lnk),(l.foldl apS s).2.2.length≤s.2.2.length+2 * l.length
 | [],s=>by simp
 | y::l,s=>by
  have h1:=A3 l (apS s y);have h2:(apS s y).2.2.length≤s.2.2.length+2:=by
   unfold apS;split
   ·simp
   ·split<;>simp
  rw[at',ab'];omega
theorem Sv(t:Tpl)(c:Chg)(ok:Ix t c):∃I0 I1 I2 I3 I4 I5 I6 I7 m7 I8 I9,(Iu t c I0 I1 I2 I3 I4 I5 I6 I7 m7 I8 I9).vp Iw (bo t c):=by
 refine⟨λb=>b=decide (hs5 t c.a=false∨hs5 t c.b=false),λ_ b=>b=cq c∧¬vR c,λ_ b=>b=decide (vR c),λ_ b=>b=decide (vR c),
  λ_ g b=>(g=cq c∧¬vR c)∧b=decide (cq c=true∧c9 t.ls (aL c)=false),λ_ g _ x=>x=aL c,λ_ _ _ x b=>b=decide (c9 t.ls (aL c)=false∧t.ls.length=60),
  λ_ _ _ _ _ s=>∃k:Nat,s.2.1=k∧k≤t.ls.length∧(t.ls.take k).foldl apS (false,aL c,[])=(s.1,s.2.2.1,s.2.2.2),λ_ _ _ _ _ s=>t.ls.length-s.2.1.toNat,
  λ_ _ _ _ _ s x b=>b=decide (x.a=s.2.2.1.a∧x.b=s.2.2.1.b),λ_ _ _ _ _ s x _ b=>b=decide (s.1=false∧aM s.2.2.1 x),?_⟩
 simp only[Ix,Chg.v,Tpl.v,okU,Blk.ok,aJ,B']at ok;dsimp only[Iu,Iv,Ax.vp,Ax.vc];simp only[vcU,rfU,B'];unfold bo;refine⟨λq=>by rw[G' (by simpa using q)],λq=>?_⟩;have q:ay t=0:=by simpa using q
 have hh:∀r,az t r=hs5 t r:=λr=>by unfold hs5;rw[q];rfl
 have hl2:=(cg q).2;have hO:=ax q;rw[F' (by simpa using q),hh,hh,←rO q c];refine⟨⟨λd=>by rw[eq_comm,S'];exact .inl (by simpa using d),λd=>by rw[ae',S'];simp at d ⊢;simp[d]⟩,?_⟩;rintro _ rfl;refine⟨λd=>by rw[G' (H' d)],λd=>?_⟩;rw[F' (T' d)];refine⟨λd=>by rw[G' (eq_of_beq d)],λd=>?_⟩;rw[F' (by simpa using d)]
 refine⟨⟨λe=>⟨⟨λe2=>⟨λg=>?_,λg=>?_⟩,λe2=>?_⟩,?_⟩,λe=>⟨⟨λg=>?_,λg=>?_⟩,?_⟩⟩,?_⟩
 ·rw[eq_comm,S'];exact⟨by unfold cq;simp at e2;simp[e2],.inl (by simpa using g)⟩
 ·rw[ae',S'];unfold vR cq;simp at e2 g ⊢;simp[e2,g]
 ·rw[eq_comm,decide_eq_false_iff_not];unfold vR cq;simp at e e2 ⊢;simp[e,e2]
 ·rintro _ rfl;exact⟨λg=>by rw[G' (H' g)],λg=>⟨by unfold cq;rw[e];rfl,T' g⟩⟩
 ·rw[eq_comm,S'];exact⟨by unfold cq;rw[e];rfl,.inl (by simpa using g)⟩
 ·rw[ae',S'];unfold vR cq;simp at e g ⊢;simp[e,g]
 ·rintro _ rfl;exact⟨λg=>by rw[G' (H' g)],λg=>⟨by unfold cq;rw[e];rfl,T' g⟩⟩
 rintro _ ⟨rfl,hr⟩;rw[F' hr];refine⟨⟨λe=>⟨⟨rfl,hr⟩,by rw[ae',S'];simp[e]⟩,λe=>⟨⟨rfl,hr⟩,by rw[eq_comm,decide_eq_false_iff_not];simp[e]⟩⟩,?_⟩;rintro _ ⟨_,rfl⟩;refine⟨λg=>by rw[G' (H' g)],λg9=>?_⟩;have g9:=T' g9;rw[F' g9]
 refine⟨λe=>?_,λe=>⟨⟨λg=>by unfold aL;rw[G' g],λg=>by unfold aL;rw[F' g]⟩,?_⟩⟩
 ·have hit:c9 t.ls (aL c)=true:=by simpa[e]using g9
  rw[F' (by simp[hit]),G' e,IU q c hit]
 rintro _ rfl
 refine⟨⟨λg=>?_,λg=>?_⟩,?_⟩
 ·rw[ae',S',aL'];simp at g;simp[g];omega
 ·rw[eq_comm,decide_eq_false_iff_not];simp at g;simp[g]
 rintro _ rfl;refine⟨λg=>by rw[G' (H' g)],λg=>?_⟩;rw[F' (T' g),F' (by simp[e])];refine⟨⟨0,rfl,by omega,rfl⟩,?_⟩;rintro⟨dn,_,x,out⟩ ⟨k,rfl,hk,hF⟩;simp only at hF ⊢;have hlen:=A3 (t.ls.take k) (false,aL c,[]);rw[hF,ar']at hlen;simp only[ap']at hlen
 refine⟨λg=>⟨by omega,g,λy hy=>?_⟩,λg=>?_⟩
 ·rw[Int.toNat_natCast]at hy;have hs:(t.ls.take (k+1)).foldl apS (false,aL c,[])=apS (dn,x,out) y:=by rw[aP hy,aZ',hF];rfl
  have w:W ((k:Int)+1)=((k+1:Nat):Int):=bf (n:=t.ls.length) (by omega) (by omega);rw[w];refine⟨⟨λa=>by rw[ae',aL',S'];simp at a;simp[a],λa=>by simp at a;simp[a]⟩,?_⟩;rintro _ rfl
  refine⟨λa=>⟨by omega,⟨k+1,rfl,by omega,?_⟩,by omega⟩,λa=>⟨⟨λb=>⟨λg1=>?_,λg1=>⟨λg2=>?_,λg2=>?_⟩⟩,λb=>?_⟩,?_⟩⟩
  ·rw[hs];unfold apS;rw[G' (H' a)]
  ·rw[eq_comm,S'];exact⟨by simpa using b,.inl g1⟩
  ·rw[decide_eq_decide];simp at b g2;unfold aM;simp[b,g2]
  ·rw[eq_comm,decide_eq_false_iff_not];simp at g2;unfold aM;rintro⟨_,h|h⟩<;>omega
  ·rw[eq_comm,decide_eq_false_iff_not];simp at b;simp[b]
  rintro _ rfl;have a':=T' a
  refine⟨λb=>⟨by omega,by simp;omega,⟨k+1,rfl,by omega,?_⟩,by omega⟩,λb=>⟨by omega,⟨k+1,rfl,by omega,?_⟩,by omega⟩⟩
  ·rw[hs];unfold apS;rw[F' a',G' (H' b)]
  ·rw[hs];unfold apS;rw[F' a',F' (T' b)]
 ·have hfin:=Sx hO.ord (aL c);rw[ai' (by omega)]at hF;rw[hF]at hfin;unfold apF at hfin
  refine⟨λa=>⟨by omega,?_⟩,λa=>?_⟩
  ·have a:dn=false:=by simpa using a
   subst a;simp only[if_true]at hfin;rw[hfin];split<;>rfl
  ·have a:dn=true:=by simpa using a
   subst a;simp only[Bool.true_eq_false,if_false]at hfin;rw[hfin];split<;>rfl
def Sw(t:Tpl)(c:Chg):PC Tryz.prog:=pcO 32 [(.a [(.s 2),(.s 5)]),.k] [Tpl.v t,Chg.v c] (.a [(.a [(.s 2),(.s 5)]),.k]) Iw (bo t c) (λok=>let ⟨I0,I1,I2,I3,I4,I5,I6,I7,m7,I8,I9,h⟩:=Sv t c ok;⟨_,h,by kernel_rfl⟩) rfl (by kernel_rfl)
def lz(t:Tpl)(c:Chg):Int×Int:=
 if ¬(bo t c).2=0 then(0,(bo t c).2)
 else if cq c=true∨((aU t c.a c.b).2=true∧(aU t c.a c.b).1≤c.ca∧(aU t c.b c.a).1≤c.cb)then(1,0)
 else if(aU t c.a c.b).2=false∨(c.ca≤(aU t c.a c.b).1∧c.cb≤(aU t c.b c.a).1)then(2,0)
 else(0,8)
def zX(t:Tpl)(c:Chg):List Hop:=
 (if(aU t c.a c.b).2=false∨¬c.ca=(aU t c.a c.b).1 then [⟨c.a,c.b⟩]else [])++(if(aU t c.a c.b).2=false∨¬c.cb=(aU t c.b c.a).1 then [⟨c.b,c.a⟩]else [])
theorem M8{t:Tpl}(h:S9 t):ay t=0:=by
 unfold ay;have h1:=h.nr;have h2:=h.nl;rw[F' (by omega),F' (not_not_intro h.rg),F' (not_not_intro h.asc),F' (not_not_intro h.lr),F' (not_not_intro h.has),F' (not_not_intro h.lt),F' (not_not_intro h.ord)]
theorem spl_L{l:List Lnk}(h:l.Pairwise aM)(x:Lnk):∃A M B,l=A++M++B∧A.length=aI l x∧(∀y∈A,aM y x)∧(∀y∈B,aM x y) ∧
  ((c9 l x=true∧∃z,M=[z]∧z.a=x.a∧z.b=x.b)∨(c9 l x=false∧M=[])):=by
 obtain⟨s1,s2,s3⟩:=mb h x;have hsplit:l=l.take (aI l x)++l.drop (aI l x):=(bT' _ _).symm;have htk:∀y∈l.take (aI l x),aM y x:=λy hy=>by
  obtain⟨j,hj,rfl⟩:=aD'.mp hy;exact s1 j _ (by omega) (u' (by omega))
 have hlen:(l.take (aI l x)).length=aI l x:=by rw[ar'];omega
 have hh:c9 l x=(l[aI l x]?).any (ik x):=rfl
 by_cases hp:aI l x<l.length
 ·have hz:l[aI l x]?=some l[aI l x]:=u' hp;have hd:l.drop (aI l x)=l[aI l x]::l.drop (aI l x+1):=bx' hp;generalize l[aI l x]=z at hz hd;have hr:∀y∈l.drop (aI l x+1),aM z y:=λy hy=>by
   obtain⟨j,hj⟩:=ag'.mp hy;rw[aH']at hj;exact fT h (by omega) hz hj
  have hnz:=s2 _ z (V' _) hz
  by_cases e:z.a=x.a∧z.b=x.b
  ·refine⟨l.take (aI l x),[z],l.drop (aI l x+1),?_,hlen,htk,λy hy=>?_,.inl ⟨?_,z,rfl,e⟩⟩
   ·conv=>lhs;rw[hsplit,hd]
    simp
   ·have:=hr y hy;unfold aM at *;omega
   ·rw[hh,hz];simp[ik,e]
  ·have hxz:aM x z:=by unfold aM at *;omega
   refine⟨l.take (aI l x),[],l.drop (aI l x),?_,hlen,htk,λy hy=>?_,.inr ⟨?_,rfl⟩⟩
   ·conv=>lhs;rw[hsplit]
    simp
   ·rw[hd]at hy
    rcases ad'.mp hy with rfl|hy
    ·exact hxz
    ·exact rC hxz (hr y hy)
   ·rw[hh,hz];simp[ik];exact λq=>λq2=>e ⟨q,q2⟩
 ·refine⟨l.take (aI l x),[],l.drop (aI l x),?_,hlen,htk,λy hy=>?_,.inr ⟨?_,rfl⟩⟩
  ·conv=>lhs;rw[hsplit]
   simp
  ·rw[bB' (by omega)]at hy;simp at hy
  ·rw[hh,aj' (by omega)];rfl
theorem LV{α:Type}{A B:List α}{z:α}{k:Nat}(h:A.length=k):eT (A++[z]++B) k=A++B:=by
 subst h;unfold eT;have e:A++[z]++B=A++(z::B):=by simp
 rw[e,List.take_left];have:A++z::B=(A++[z])++B:=by simp
 rw[this,show A.length+1=(A++[z]).length by simp,List.drop_left]
theorem Lf{α:Type}{A B:List α}{z:α}{k:Nat}(h:A.length=k):bF (A++[]++B) k z=A++[z]++B:=by
 subst h;unfold bF;rw[bo',List.take_left,List.drop_left]
theorem CG{α:Type}{A B:List α}{x v:α}{k:Nat}(h:A.length=k):(A++[x]++B).set k v=A++[v]++B:=by
 have e:A++[x]++B=A++(x::B):=by simp
 rw[e,qH h];simp
structure IS (t:Tpl) (c:Chg) (t':Tpl):Prop where
  ex:∃A M N B,t.ls=A++M++B∧t'.ls=A++N++B∧(∀y∈A,aM y (aL c))∧(∀y∈B,aM (aL c) y)∧(∀y∈M,y.a=(aL c).a∧y.b=(aL c).b) ∧
    ((cq c=true∧N=[])∨(cq c=false∧∃w,(0≤w∧w≤1000)∧N=[{ aL c with w:=w }]))∧M.length≤1∧N.length≤1∧((aU t c.a c.b).2=true↔M≠[])
  rs:t'.rs=t.rs
  nl:t'.ls.length≤60
  ha:az t c.a=true
  hb:az t c.b=true
  ne:c.a≠c.b
  co:cq c=false→ei c.ca=true∧ei c.cb=true
  rm:cq c=true→(aU t c.a c.b).2=true
theorem A2{t:Tpl}{c:Chg}(h:(bo t c).2=0):ay t=0∧IS t c (bo t c).1:=by
 have hc:ay t=0:=by
  refine P' λq=>?_;unfold bo at h;rw[G' q]at h;cases h
 refine⟨hc,?_⟩;have hO:=ax hc;obtain⟨A,M,B,e0,e1,e2,e3,e4⟩:=spl_L hO.ord (aL c);have hM:(aU t c.a c.b).2=true↔M≠[]:=by
  rw[←rO hc]
  rcases e4 with⟨g,z,rfl,_⟩|⟨g,rfl⟩
  ·simp[g]
  ·simp[g]
 have hMk:(∀y∈M,y.a=(aL c).a∧y.b=(aL c).b)∧M.length≤1:=by
  rcases e4 with⟨g,z,rfl,gz⟩|⟨g,rfl⟩
  ·exact⟨λy hy=>by rw[L'.mp hy];exact gz,by simp⟩
  ·simp
 have hnl:=hO.nl;unfold bo at h ⊢;rw[F' (not_not_intro hc)]at h ⊢
 by_cases c1:hs5 t c.a=false∨hs5 t c.b=false
 ·rw[G' c1]at h;cases h
 rw[F' c1]at h ⊢
 by_cases c2:c.a=c.b
 ·rw[G' c2]at h;cases h
 rw[F' c2]at h ⊢
 by_cases c3:cq c=false∧(ei c.ca=false∨ei c.cb=false)
 ·rw[G' c3]at h;cases h
 rw[F' c3]at h ⊢
 by_cases c4:cq c=true∧c9 t.ls (aL c)=false
 ·rw[G' c4]at h;cases h
 rw[F' c4]at h ⊢
 by_cases c5:c9 t.ls (aL c)=false∧t.ls.length=60
 ·rw[G' c5]at h;cases h
 rw[F' c5];have ha:az t c.a=true:=by
  have:hs5 t c.a=true:=by simp at c1;exact c1.1
  exact(bR.mp this).2
 have hb:az t c.b=true:=by
  have:hs5 t c.b=true:=by simp at c1;exact c1.2
  exact(bR.mp this).2
 have hco:cq c=false→ei c.ca=true∧ei c.cb=true:=λq=>by
  simp[q]at c3;exact c3
 have hrm:cq c=true→(aU t c.a c.b).2=true:=λq=>by
  rw[←rO hc];simpa[q]using c4
 by_cases c6:cq c=true
 ·rw[G' c6];have g:c9 t.ls (aL c)=true:=by simpa[c6]using c4
  rcases e4 with⟨_,z,rfl,gz⟩|⟨g',_⟩
  ·have e5:eT t.ls (aI t.ls (aL c))=A++[]++B:=by
    rw[←e1,e0,LV rfl];simp
   refine⟨⟨A,[z],[],B,e0,e5,e2,e3,hMk.1,.inl ⟨c6,rfl⟩,by simp,by simp,hM⟩,rfl,?_,ha,hb,c2,hco,hrm⟩;simp only[e5];rw[e0]at hnl;simp at hnl ⊢;omega
  ·rw[g]at g';cases g'
 rw[F' c6];have c6':cq c=false:=by simpa using c6
 by_cases c7:c9 t.ls (aL c)=true
 ·rw[G' c7]
  rcases e4 with⟨_,z,rfl,gz⟩|⟨g',_⟩
  ·have e6:t.ls.getD (aI t.ls (aL c)) ⟨0,0,0,0,0⟩=z:=by
    rw[←e1,e0,I',aT',bi' (V' _)];simp
   have hw:=(hO.lr z (by rw[e0];simp)).2.2;have e5:t.ls.set (aI t.ls (aL c)) { aL c with w:=z.w }=A++[{ aL c with w:=z.w }]++B:=by
    rw[←e1];conv=>lhs;rw[e0]
    exact CG rfl
   rw[e6];refine⟨⟨A,[z],_,B,e0,e5,e2,e3,hMk.1,.inr ⟨c6',z.w,hw,rfl⟩,by simp,by simp,hM⟩,rfl,?_,ha,hb,c2,hco,hrm⟩;simp only[bG'];exact hnl
  ·rw[c7]at g';cases g'
 ·rw[F' c7]
  rcases e4 with⟨g',_⟩|⟨g',rfl⟩
  ·exact absurd g' c7
  ·have e5:bF t.ls (aI t.ls (aL c)) (aL c)=A++[{ aL c with w:=0 }]++B:=by
    have:aL c={ aL c with w:=0 }:=by unfold aL;split<;>rfl
    rw[←this,←e1];conv=>lhs;rw[e0]
    exact Lf rfl
   refine⟨⟨A,[],_,B,e0,e5,e2,e3,hMk.1,.inr ⟨c6',0,by omega,rfl⟩,by simp,by simp,hM⟩,rfl,?_,ha,hb,c2,hco,hrm⟩;have:¬t.ls.length=60:=λq=>c5 ⟨g',q⟩;simp only[e5];rw[e0]at this hnl;simp at this hnl ⊢;omega
theorem rD{c:Chg}(h:c.a≠c.b):(aL c).a<(aL c).b∧(((aL c).a=c.a∧(aL c).b=c.b∧(aL c).ca=c.ca∧(aL c).cb=c.cb)∨((aL c).a=c.b∧(aL c).b=c.a∧(aL c).ca=c.cb∧(aL c).cb=c.ca)):=by
 unfold aL
 split
 ·simp;omega
 ·simp;omega
theorem Pp{A M N B:List Lnk}{x:Lnk}(h:(A++M++B).Pairwise aM)(hA:∀y∈A,aM y x)(hB:∀y∈B,aM x y)(hN:N.length≤1)(hk:∀y∈N,y.a=x.a∧y.b=x.b):(A++N++B).Pairwise aM:=by
 rw[aT',bm']at h ⊢;obtain⟨h1,h2,h3⟩:=h;rw[bm']at h2 ⊢
 refine⟨h1,⟨?_,h2.2.1,λa ha b hb=>?_⟩,λa ha b hb=>?_⟩
 ·match N,hN with
  | [],_=>exact List.Pairwise.nil
  | [z],_=>exact co' _ _
 ·have:=hB b hb;have:=hk a ha;unfold aM at *;omega
 ·rcases X'.mp hb with hb|hb
  ·have:=hA a ha;have:=hk b hb;unfold aM at *;omega
  ·exact h3 a ha b (List.mem_append_right _ hb)
theorem iA{t t':Tpl}(h:t'.rs=t.rs)(x:Int):az t' x=az t x:=by unfold az;rw[h]
theorem jR{t t':Tpl}{c:Chg}(hc:ay t=0)(h:IS t c t'):ay t'=0:=by
 obtain⟨⟨A,M,N,B,e0,e1,hA,hB,hM,hN,hm,hn,_⟩,hr,hl,ha,hb,hne,hco,_⟩:=h;have hO:=ax hc;obtain⟨k1,k2⟩:=rD hne;have hNk:∀y∈N,(y.a=(aL c).a∧y.b=(aL c).b)∧gt y:=λy hy=>by
  rcases hN with⟨_,rfl⟩|⟨hr,w,hw,rfl⟩
  ·simp at hy
  ·rw[L'.mp hy];obtain⟨c1,c2⟩:=hco hr;refine⟨⟨rfl,rfl⟩,?_⟩;unfold gt;simp only
   rcases k2 with⟨_,_,q1,q2⟩|⟨_,_,q1,q2⟩
   ·rw[q1,q2];exact⟨c1,c2,hw⟩
   ·rw[q1,q2];exact⟨c2,c1,hw⟩
 have hmem:∀y∈t'.ls,y∈N∨y∈t.ls:=λy hy=>by
  rw[e1]at hy;rw[e0];simp only[X']at hy ⊢
  rcases hy with(hy|hy)|hy
  ·exact .inr (.inl (.inl hy))
  ·exact .inl hy
  ·exact .inr (.inr hy)
 refine M8 ⟨by rw[hr];exact hO.nr,hl,by rw[hr];exact hO.rg,by rw[hr];exact hO.asc,λy hy=>?_,λy hy=>?_,λy hy=>?_,?_⟩
 ·rcases hmem y hy with g|g
  ·exact(hNk y g).2
  ·exact hO.lr y g
 ·rw[iA hr,iA hr]
  rcases hmem y hy with g|g
  ·obtain⟨⟨q1,q2⟩,_⟩:=hNk y g;rw[q1,q2]
   rcases k2 with⟨r1,r2,_⟩|⟨r1,r2,_⟩<;>rw[r1,r2]
   ·exact⟨ha,hb⟩
   ·exact⟨hb,ha⟩
  ·exact hO.has y g
 ·rcases hmem y hy with g|g
  ·obtain⟨⟨q1,q2⟩,_⟩:=hNk y g;omega
  ·exact hO.lt y g
 ·have:=hO.ord;rw[e0]at this;rw[e1];exact Pp this hA hB hn (λy hy=>(hNk y hy).1)
def onC(c:Chg)(u v:Int):Prop:=(u=c.a∧v=c.b)∨(u=c.b∧v=c.a)
theorem lD{t t':Tpl}{c:Chg}(hc:ay t=0)(h:IS t c t'){u v k:Int}(hn:¬onC c u v):cG t' u v k↔cG t u v k:=by
 have hc':=jR hc h;obtain⟨⟨A,M,N,B,e0,e1,hA,hB,hM,hN,hm,hn',_⟩,hr,hl,ha,hb,hne,hco,_⟩:=h;obtain⟨k1,k2⟩:=rD hne;unfold onC at hn;have hNk:∀y∈N,y.a=(aL c).a∧y.b=(aL c).b:=λy hy=>by
  rcases hN with⟨_,rfl⟩|⟨hr,w,hw,rfl⟩
  ·simp at hy
  ·rw[L'.mp hy];exact⟨rfl,rfl⟩
 unfold cG;rw[e0,e1];simp only[X']
 constructor
 ·rintro⟨l,(hl|hl)|hl,q⟩
  ·exact⟨l,.inl (.inl hl),q⟩
  ·have:=hNk l hl;omega
  ·exact⟨l,.inr hl,q⟩
 ·rintro⟨l,(hl|hl)|hl,q⟩
  ·exact⟨l,.inl (.inl hl),q⟩
  ·have:=hM l hl;omega
  ·exact⟨l,.inr hl,q⟩
theorem fm{t t':Tpl}{c:Chg}(hc:ay t=0)(h:IS t c t'){k:Int}:(cG t' c.a c.b k↔cq c=false∧k=c.ca)∧(cG t' c.b c.a k↔cq c=false∧k=c.cb):=by
 obtain⟨⟨A,M,N,B,e0,e1,hA,hB,hM,hN,hm,hn',_⟩,hr,hl,ha,hb,hne,hco,_⟩:=h;obtain⟨k1,k2⟩:=rD hne;have hoff:∀y,y∈A∨y∈B→¬(y.a=c.a∧y.b=c.b)∧¬(y.b=c.a∧y.a=c.b):=λy hy=>by
  have:aM y (aL c)∨aM (aL c) y:=hy.elim (λq=>.inl (hA y q)) (λq=>.inr (hB y q));have hlt:=(ax hc).lt y (by rw[e0];simp only[X'];rcases hy with q|q<;>simp[q]);unfold aM at this;omega
 have key:∀u v,(u=c.a∧v=c.b∨u=c.b∧v=c.a)→(cG t' u v k↔∃l∈N,(l.a=u∧l.b=v∧l.ca=k)∨(l.b=u∧l.a=v∧l.cb=k)):=λu v huv=>by
  unfold cG;rw[e1];simp only[X']
  constructor
  ·rintro⟨l,(hl|hl)|hl,q⟩
   ·have:=hoff l (.inl hl);omega
   ·exact⟨l,hl,q⟩
   ·have:=hoff l (.inr hl);omega
  ·rintro⟨l,hl,q⟩;exact⟨l,.inl (.inr hl),q⟩
 rw[key c.a c.b (.inl ⟨rfl,rfl⟩),key c.b c.a (.inr ⟨rfl,rfl⟩)]
 rcases hN with⟨hr,rfl⟩|⟨hr,w,hw,rfl⟩
 ·simp[hr]
 ·simp only[L',exists_eq_left,hr,true_and];omega
theorem jh{t:Tpl}(hc:ay t=0)(u v:Int):(aU t u v).2=true↔∃k,cG t u v k:=by
 constructor
 ·intro h;exact⟨(aU t u v).1,(bT hc).mpr (Prod.ext rfl h)⟩
 ·rintro⟨k,h⟩;rw[(bT hc).mp h]
theorem pg{t:Tpl}{u v k:Int}(h:cG t u v k):∃k',cG t v u k':=by
 obtain⟨l,hl,⟨h1,h2,h3⟩|⟨h1,h2,h3⟩⟩:=h
 ·exact⟨l.cb,l,hl,.inr ⟨h2,h1,rfl⟩⟩
 ·exact⟨l.ca,l,hl,.inl ⟨h2,h1,rfl⟩⟩
theorem Dw{t:Tpl}{u v:Int}(h:(aU t u v).2=false):aU t u v=(0,false):=by
 unfold aU at *
 split at h
 ·cases h
 ·rfl
theorem Du{t t':Tpl}{c:Chg}(hc:ay t=0)(h:IS t c t'):aU t' c.a c.b=(if cq c=true then(0,false)else(c.ca,true))∧aU t' c.b c.a=(if cq c=true then(0,false)else(c.cb,true)):=by
 have hc':=jR hc h;cases hr:cq c with
 | true =>
  simp only[if_true]
  constructor
  ·refine Dw ?_;rw[bZ'];intro q;obtain⟨k,q⟩:=(jh hc' _ _).mp q;have:=((fm hc h).1.mp q).1;rw[hr]at this;cases this
  ·refine Dw ?_;rw[bZ'];intro q;obtain⟨k,q⟩:=(jh hc' _ _).mp q;have:=((fm hc h).2.mp q).1;rw[hr]at this;cases this
 | false =>
  rw[F' (by simp),F' (by simp)];exact⟨(bT hc').mp ((fm hc h).1.mpr ⟨hr,rfl⟩),(bT hc').mp ((fm hc h).2.mpr ⟨hr,rfl⟩)⟩
theorem yV{t:Tpl}(hc:ay t=0)(u v:Int):(aU t v u).2=(aU t u v).2:=by
 rw[ae',jh hc,jh hc];exact⟨λ⟨k,h⟩=>pg h,λ⟨k,h⟩=>pg h⟩
theorem jP{t:Tpl}(hc:ay t=0)(u v:Int):bC t u v=aU t u v:=by unfold bC;rw[F' (not_not_intro hc)]
theorem cmp3(x a:Int):(x<a∧¬a≤x∧¬a<x∧x≤a∧¬x=a)∨(x=a∧a≤x∧¬a<x∧x≤a∧¬x<a)∨(a<x∧a≤x∧¬x<a∧¬x≤a∧¬x=a):=by omega
theorem Pk(t:Tpl)(c:Chg):lz t c=((aD t c).1,(aD t c).2.2.2)∧((aD t c).2.2.2=0→zX t c=(aD t c).2.2.1):=by
 by_cases h:(bo t c).2=0
 case neg =>
  unfold lz aD;rw[G' h,G' h];exact⟨rfl,λe=>absurd e h⟩
 obtain⟨hc,hS⟩:=A2 h;have hc':=jR hc hS;obtain⟨p1,p2⟩:=Du hc hS;have hsym:=yV hc c.a c.b;have q1:=λe=>ft hc (f:=c.a) (g:=c.b) e;have q2:=λe=>ft hc (f:=c.b) (g:=c.a) e;have hrm:=hS.rm;have hco:=hS.co;unfold lz aD zX eK;rw[F' (not_not_intro h),F' (not_not_intro h)];simp only[bA',List.any_nil,aO',List.filter_nil,upH,dnH,chH,jP hc,jP hc',p1,p2];clear p1 p2 hS hc' h;generalize aU t c.a c.b=p at *
 generalize aU t c.b c.a=q at *
 obtain⟨a,ok⟩:=p;obtain⟨b,ok'⟩:=q;simp only at hsym q1 q2 hrm;subst hsym;cases hr:cq c with
 | true =>
  have ok':=hrm hr;subst ok';have:=q1 rfl;have:=q2 rfl;have e:c.ca=0∧c.cb=0:=by unfold cq at hr;simpa using hr
  rw[e.1,e.2];have a1:¬(0:Int)=a:=by omega
  have b1:¬(0:Int)=b:=by omega
  simp[a1,b1]
 | false =>
  cases ok' with
  | false=>simp
  | true =>
   rcases cmp3 c.ca a with⟨x1,x2,x3,x4,x5⟩|⟨x1,x2,x3,x4,x5⟩|⟨x1,x2,x3,x4,x5⟩<;>rcases cmp3 c.cb b with⟨y1,y2,y3,y4,y5⟩|⟨y1,y2,y3,y4,y5⟩|⟨y1,y2,y3,y4,y5⟩<;>simp[x1,x2,x3,x4,x5,y1,y2,y3,y4,y5]
theorem mL{t:Tpl}(hc:ay t=0){d:Int}(hd:az t d=true)(u:Int):at6 t (to6 t d) u=if(aC t u d).2=true then(aC t u d).1 else ij:=by
 rw[y7 hc hd,pn hc]
 by_cases h:aY (cM (inG t) d) u=true
 ·rw[G' h,G' h];simp
 ·rw[F' h,F' h];simp
theorem dz{t:Tpl}(hc:ay t=0){x y d:Int}:y∈fv t x d↔∃w,cG t x y w∧(aC t x d).2=true∧(aC t y d).2=true∧w+(aC t y d).1=(aC t x d).1:=by
 unfold fv
 constructor
 ·intro h
  split at h
  ·cases h
  rename_i e;have hd:az t d=true:=by
   have:hs5 t d=true:=by simp at e;exact e.2
   exact(bR.mp this).2
  unfold dW at h
  split at h
  ·cases h
  rename_i e1;obtain⟨h1,h2⟩:=aY'.mp h;unfold okN at h2;simp only[R',S',aL']at h2;rw[mL hc hd,mL hc hd]at h2;rw[mL hc hd]at e1;have h1:=(n0 hc).mp h1;have hp:=ft hc h1;have cy:(aC t y d).2=true:=by
   refine P' λq=>?_;rw[F' q]at h2;unfold ij at h2;omega
  have cx:(aC t x d).2=true:=by
   refine P' λq=>?_;rw[F' q]at e1;unfold ij at e1;omega
  rw[G' cy,G' cx]at h2;obtain⟨_,_,b1,b2⟩:=aN (aO cy);rw[ce (by omega)]at h2;exact⟨_,(bT hc).mpr (Prod.ext rfl h1),cx,cy,h2.2⟩
 ·rintro⟨w,he,cx,cy,e⟩;obtain⟨_,hx,hd⟩:=cA cx;have hw:=he.cost hc;have hp:=(bT hc).mp he;obtain⟨_,_,b1,b2⟩:=aN (aO cy);obtain⟨_,_,d1,d2⟩:=aN (aO cx);rw[F' (by rw[bR.mpr ⟨hc,hx⟩,bR.mpr ⟨hc,hd⟩];simp)];unfold dW;rw[F' (by rw[mL hc hd,G' cx];omega)];refine aY'.mpr ⟨(n0 hc).mpr (by rw[hp]),?_⟩;unfold okN;rw[mL hc hd,mL hc hd,G' cx,G' cy,hp];simp only[R',S',aL'];exact⟨by omega,by rw[ce (by omega)];exact e⟩
def pH(t:Tpl)(f g:Int)(h:Hop):Bool:=(bC t h.a h.b).2 && ((aC t f g).2 && ((aC t f h.a).2 && ((aC t h.b g).2 && (W (W ((aC t f h.a).1+(bC t h.a h.b).1)+(aC t h.b g).1)==(aC t f g).1))))
theorem nv{t:Tpl}(hc:ay t=0){f g:Int}{h:Hop}(he:(bC t h.a h.b).2=true):pH t f g h=jU (dc t) f g h (bC t h.a h.b).1:=by
 have hp:1≤(bC t h.a h.b).1∧(bC t h.a h.b).1≤1000:=by rw[jP hc]at he ⊢;exact ft hc he
 rw[ae',ir hp];unfold pH;simp only[R',aL',he,true_and]
 constructor
 ·rintro⟨h1,h2,h3,h4⟩;obtain⟨_,_,p1,p2⟩:=aN (aO h2);obtain⟨_,_,q1,q2⟩:=aN (aO h3);rw[ce (n:=(aC t f h.a).1+_) (by omega),ce (by omega)]at h4;exact⟨h2,h3,h1,h4⟩
 ·rintro⟨h2,h3,h1,h4⟩;obtain⟨_,_,p1,p2⟩:=aN (aO h2);obtain⟨_,_,q1,q2⟩:=aN (aO h3);rw[ce (n:=(aC t f h.a).1+_) (by omega),ce (by omega)];exact⟨h1,h2,h3,h4⟩
def bhA(t:Tpl)(h:Hop)(x y:Int)(r:Rtr):Bool:=pH t x r.id h && (decide (y∈fv t x r.id) && pH t y r.id h)
def bhO(t:Tpl)(x y:Int)(h:Hop):Bool:=(x != h.a) && t.rs.any (bhA t h x y)
def p9(t:Tpl)(l:List Hop)(x y:Int):Bool:=l.any (bhO t x y)
theorem jq{α:Type}(f:Rws→α→Rws)(Q:α→Int→Int→Prop)(hf:∀M a,(ap M).Nodup→(ap (f M a)).Nodup∧∀x y,y∈av (f M a) x []↔y∈av M x []∨Q a x y) :
  ∀(l:List α) (M:Rws),(ap M).Nodup→(ap (l.foldl f M)).Nodup∧∀x y,y∈av (l.foldl f M) x []↔y∈av M x []∨∃a∈l,Q a x y
 | [],M,h=>⟨h,λx y=>by simp⟩
 | a::l,M,h=>by
  obtain⟨h1,h2⟩:=hf M a h;obtain⟨h3,h4⟩:=jq f Q hf l (f M a) h1;refine⟨h3,λx y=>?_⟩;rw[at',h4,h2];simp[or_assoc]
def beC(t:Tpl)(h:Hop)(c d x y w:Int):Bool:=(x != h.a) && (jU (dc t) x d ⟨x,y⟩ w && (jU (dc t) x d h c && jU (dc t) y d h c))
theorem MZ(t:Tpl)(h:Hop)(c d:Int)(M:Rws)(s:Int×Int×Int)(hn:(ap M).Nodup):(ap (beI t h c d M s)).Nodup∧∀x y,y∈av (beI t h c d M s) x []↔y∈av M x []∨(x=s.1∧y=s.2.1∧beC t h c d s.1 s.2.1 s.2.2=true):=by
 have e:beQ t h c d s.1 s.2.1 s.2.2 M=(beC t h c d s.1 s.2.1 s.2.2 && !decide (s.2.1∈av M s.1 [])):=by
  unfold beQ beC;simp only[Bool.and_assoc]
 unfold beI
 split
 ·rename_i q;rw[e]at q;simp only[R',bk',decide_eq_false_iff_not]at q;refine⟨yU hn _ _,λx y=>?_⟩;rw[vW hn]
  split
  ·rename_i e1;subst e1;simp[q.1]
  ·rename_i e1;simp[e1]
 ·rename_i q;rw[e]at q;refine⟨hn,λx y=>⟨.inl,?_⟩⟩
  rintro(h|⟨rfl,rfl,h⟩)
  ·exact h
  ·simpa[h]using q
theorem Au{t:Tpl}(hc:ay t=0)(ds:List Hop)(x y:Int):y∈av (fB t ds) x []↔(aU t x y).2=true∧p9 t ds x y=true:=by
 have h1:=λh c d=>jq (beI t h c d) (λs x y=>x=s.1∧y=s.2.1∧beC t h c d s.1 s.2.1 s.2.2=true) (λM s hn=>MZ t h c d M s hn);have h2:=λh c d=>jq (be2 t h c d) (λl x y=>∃s∈lst l,x=s.1∧y=s.2.1∧beC t h c d s.1 s.2.1 s.2.2=true) (λM l hn=>h1 h c d (lst l) M hn);have h3:=λh c=>jq (be3 t h c) (λd x y=>∃l∈t.ls,∃s∈lst l,x=s.1∧y=s.2.1∧beC t h c d.id s.1 s.2.1 s.2.2=true) (λM d hn=>h2 h c d.id t.ls M hn);have h4:=jq (be4 t) (λh x y=>(bC t h.a h.b).2=true∧∃d∈t.rs,∃l∈t.ls,∃s∈lst l,x=s.1∧y=s.2.1∧beC t h (bC t h.a h.b).1 d.id s.1 s.2.1 s.2.2=true) (λM h hn=>by
  unfold be4
  split
  ·rename_i e;obtain⟨g1,g2⟩:=h3 h (bC t h.a h.b).1 t.rs M hn;exact⟨g1,λx y=>by rw[g2];simp only[e,true_and]⟩
  ·rename_i e;exact⟨hn,λx y=>by simp[e]⟩)
 unfold fB;rw[(h4 ds [] bn').2];have e0:av ([]:Rws) x []=[]:=dj (by unfold aY ap;simp);rw[e0];have hes:∀(F:Int→Prop),(∃l∈t.ls,∃s∈lst l,x=s.1∧y=s.2.1∧F s.2.2)↔∃w,cG t x y w∧F w:=λF=>by
  unfold cG lst
  constructor
  ·rintro⟨l,hl,s,hs,e1,e2,hF⟩;simp only[ad',aw',or_false]at hs
   rcases hs with rfl|rfl
   ·exact⟨l.ca,⟨l,hl,.inl ⟨e1.symm,e2.symm,rfl⟩⟩,hF⟩
   ·exact⟨l.cb,⟨l,hl,.inr ⟨e1.symm,e2.symm,rfl⟩⟩,hF⟩
  ·rintro⟨w,⟨l,hl,⟨e1,e2,e3⟩|⟨e1,e2,e3⟩⟩,hF⟩
   ·exact⟨l,hl,(l.a,l.b,l.ca),by simp,e1.symm,e2.symm,by rw[e3];exact hF⟩
   ·exact⟨l,hl,(l.b,l.a,l.cb),by simp,e1.symm,e2.symm,by rw[e3];exact hF⟩
 have hes':∀(h:Hop) (c d:Int),(∃l∈t.ls,∃s∈lst l,x=s.1∧y=s.2.1∧beC t h c d s.1 s.2.1 s.2.2=true)↔∃w,cG t x y w∧beC t h c d x y w=true:=λh c d=>by
  rw[←hes (λw=>beC t h c d x y w=true)]
  constructor
  ·rintro⟨l,hl,s,hs,rfl,rfl,hF⟩;exact⟨l,hl,s,hs,rfl,rfl,hF⟩
  ·rintro⟨l,hl,s,hs,rfl,rfl,hF⟩;exact⟨l,hl,s,hs,rfl,rfl,hF⟩
 simp only[hes'];have hbe:∀(h:Hop) (d:Rtr),(bC t h.a h.b).2=true→((∃w,cG t x y w∧beC t h (bC t h.a h.b).1 d.id x y w=true)↔(x≠h.a∧(aU t x y).2=true∧bhA t h x y d=true)):=λh d he=>by
  have u1:=nv hc (f:=x) (g:=d.id) he;have u2:=nv hc (f:=y) (g:=d.id) he;unfold bhA beC;rw[u1,u2];simp only[R',bne_iff_ne,ne_eq,S',dz hc]
  constructor
  ·rintro⟨w,hw,g1,g2,g3,g4⟩;obtain⟨a1,a2,a3,a4⟩:=(ir (hw.cost hc)).mp g2;have:=lH a1;simp only at a2 a4;exact⟨g1,(jh hc _ _).mpr ⟨w,hw⟩,g3,⟨w,hw,a3,a2,by omega⟩,g4⟩
  ·rintro⟨g1,_,g3,⟨w,hw,a3,a2,a4⟩,g4⟩;have hx:=(cA a3).2.1;have hxx:aC t x x=(0,true):=by
    obtain⟨m,hm,e⟩:=gE hc hx (Pth.nil (t:=t) (g:=x));have:=(aN e).2.2;rw[e];congr 1;omega
   refine⟨w,hw,g1,(ir (hw.cost hc)).mpr ⟨by rw[hxx],a2,a3,by rw[hxx];simp only;omega⟩,g3,g4⟩
 unfold p9;rw[ac'];simp only[aw',false_or]
 constructor
 ·rintro⟨h,hh,he,d,hd,q⟩;obtain⟨q1,q2,q3⟩:=(hbe h d he).mp q;refine⟨q2,h,hh,?_⟩;unfold bhO;rw[R',bne_iff_ne,ac'];exact⟨q1,d,hd,q3⟩
 ·rintro⟨q2,h,hh,q⟩;unfold bhO at q;rw[R',bne_iff_ne,ac']at q;obtain⟨q1,d,hd,q3⟩:=q;have he:(bC t h.a h.b).2=true:=by
   unfold bhA pH at q3;simp only[R']at q3;exact q3.1.1
  exact⟨h,hh,he,d,hd,(hbe h d he).mpr ⟨q1,q2,q3⟩⟩
def tf(k:Int)(g:Tpl)(ds:List Hop)(x y:Int):Bool:=
 ((k==1) && ((aU g y x).2 && p9 g ds y x)) || ((k==2) && ((aU g x y).2 && p9 g ds x y))
theorem kY{t:Tpl}{c:Chg}(h:(aD t c).2.2.2=0):(aD t c).1=1∨(aD t c).1=2:=by
 have:=(fi h).2.1;unfold aD at h ⊢;rw[F' (not_not_intro this)]at h ⊢
 split
 ·rename_i q;rw[G' q]at h;cases h
 ·split
  ·exact .inr rfl
  ·exact .inl rfl
theorem kZ{t:Tpl}{c:Chg}(h:(aD t c).2.2.2=0):ay (aD t c).2.1=0∧(aD t c).2.1.rs=t.rs:=by
 obtain⟨hc,ha,_,_,hg⟩:=fi h;obtain⟨_,hS⟩:=A2 ha
 rcases hg with hg|hg<;>rw[hg]
 ·exact⟨hc,rfl⟩
 ·exact⟨jR hc hS,hS.rs⟩
theorem qR(t:Tpl)(c:Chg)(h:(aD t c).2.2.2=0):(aD t c).2.1=if(aD t c).1=2 then(bo t c).1 else t:=by
 have:=(fi h).2.1;unfold aD at h ⊢;rw[F' (not_not_intro this)]at h ⊢
 split
 ·rename_i q;rw[G' q]at h;cases h
 ·split<;>rfl
theorem CS{t:Tpl}{c:Chg}(h:(aD t c).2.2.2=0)(x y:Int):y∈av (gJ t c) x []↔tf (aD t c).1 (aD t c).2.1 (aD t c).2.2.1 x y=true:=by
 obtain⟨hg,_⟩:=kZ h;have hk:=kY h;unfold gJ tf;generalize (aD t c).2.1=g at *
 generalize (aD t c).2.2.1=ds at *
 generalize (aD t c).1=k at *
 rcases hk with rfl|rfl
 ·rw[G' rfl,(kQ (lN g ds) (nJ g ds).nd (lZ _)).2,Au hg];simp
 ·rw[F' (by decide),Au hg];simp
theorem rnk_D{t:Tpl}{c:Chg}(h:(aD t c).2.2.2=0):∃D:Int→Nat,(∀r x,x∈av (gJ t c) r []→D x<D r)∧∀r,D r<200000:=by
 obtain⟨hc,ha,hd,hl,hg⟩:=fi h;unfold gJ;generalize (aD t c).2.1=g at *
 generalize (aD t c).2.2.1=ds at *
 have hB:=nJ g ds;have hdec:∀r x,x∈av (fB g ds) r []→msr g c x<msr g c r:=λr x hx=>by
  obtain⟨h0,h1,h2⟩:=hB.bh r x hx;exact zj (hd h0 h1) h2
 have hle:=En g c
 by_cases k:(aD t c).1=1
 ·rw[G' k];refine⟨λx=>150000-msr g c x,λr x hx=>?_,λr=>by show 150000-msr g c r<200000;omega⟩;show 150000-msr g c x<150000-msr g c r;have:=hdec x r (((kQ (lN g ds) hB.nd (lZ _)).2 r x).mp hx);have:=hle x;have:=hle r;omega
 ·rw[F' k];exact⟨msr g c,hdec,λr=>by have:=hle r;omega⟩
theorem qQ(A:Rws):∀(f:Nat) (r:Int),f≤1000000→0≤rkP A f r∧rkP A f r≤f
 | 0,r,_=>by simp[rkP]
 | f+1,r,h=>by
  unfold rkP;obtain⟨h1,h2,h3⟩:=mh (λx=>W (1+rkP A f x)) (av A r []) 0;refine⟨h1,?_⟩
  rcases h3 with h3|⟨x,hx,h3⟩
  ·rw[h3];omega
  ·rw[h3];have:=qQ A f x (by omega);rw[ce (by omega)];omega
structure RkO (n:List Rtr) (rel:Int→Int→Bool) (P:Int→Int):Prop where
  nn:∀x,0≤P x
  up:∀x y,rel x y=true→P y+1≤P x
  att:∀x,P x=0∨∃y,rel x y=true∧P x=P y+1∧∃r∈n,r.id=y
  le:∀r∈n,P r.id+1≤n.length
theorem Pd{t:Tpl}{c:Chg}(h:(aD t c).2.2.2=0):RkO t.rs (tf (aD t c).1 (aD t c).2.1 (aD t c).2.2.1) (rkP (gJ t c) 200000):=by
 obtain⟨D,hD,hN⟩:=rnk_D h;obtain⟨hgc,hrs⟩:=kZ h;have hm:=CS h;have hf:∀r,rkP (gJ t c) 200000 r=mxL (λx=>rkP (gJ t c) 200000 x+1) (av (gJ t c) r []) 0:=λr=>by
  conv=>lhs;unfold rkP
  refine rp 0 (λ_=>Iff.rfl) λx hx=>?_;have h1:=hD r x hx;have h2:=hN r;rw[nZ hD 199999 200000 x (by omega) (by omega)];have:=qQ (gJ t c) 200000 x (by omega);rw[ce (by omega)];omega
 have hel:∀x y,tf (aD t c).1 (aD t c).2.1 (aD t c).2.2.1 x y=true→∃r∈t.rs,r.id=y:=λx y hr=>by
  have:∃a b,(aU (aD t c).2.1 a b).2=true∧(y=a∨y=b):=by
   unfold tf at hr;simp only[aK',R']at hr
   rcases hr with⟨_,hr,_⟩|⟨_,hr,_⟩
   ·exact⟨_,_,hr,.inl rfl⟩
   ·exact⟨_,_,hr,.inr rfl⟩
  obtain⟨a,b,h1,h2⟩:=this;obtain⟨k,hk⟩:=(jh hgc a b).mp h1;obtain⟨ha,hb⟩:=hk.has hgc;rw[iA hrs]at ha hb
  rcases h2 with rfl|rfl
  ·exact cf.mp ha
  ·exact cf.mp hb
 generalize tf (aD t c).1 (aD t c).2.1 (aD t c).2.2.1=rel at *
 have hnn:∀x,0≤rkP (gJ t c) 200000 x:=λx=>(qQ _ 200000 x (by omega)).1;generalize rkP (gJ t c) 200000=P at *
 have hup:∀x y,rel x y=true→P y+1≤P x:=λx y hr=>by
  rw[hf x];exact(mh (λx=>P x+1) (av (gJ t c) x []) 0).2.1 y ((hm x y).mpr hr)
 have hatt:∀x,P x=0∨∃y,rel x y=true∧P x=P y+1∧∃r∈t.rs,r.id=y:=λx=>by
  rcases(mh (λx=>P x+1) (av (gJ t c) x []) 0).2.2 with e|⟨y,hy,e⟩
  ·exact .inl (by rw[hf x];exact e)
  ·have hr:=(hm x y).mp hy;exact .inr ⟨y,hr,by rw[hf x];exact e,hel x y hr⟩
 refine⟨hnn,hup,hatt,λr hr=>?_⟩;have key:∀(m:Nat) (r:Rtr),r∈t.rs→D r.id≤m→∀v:Int,0≤v→v≤P r.id→v∈t.rs.map λr=>P r.id:=λm=>by
  induction m with
  | zero =>
   intro r hr hm' v h0 hv
   rcases hatt r.id with e|⟨y,hy,e,r',hr',rfl⟩
   ·exact Y'.mpr ⟨r,hr,by omega⟩
   ·have:=hD _ _ ((hm _ _).mpr hy);omega
  | succ m ih =>
   intro r hr hm' v h0 hv
   rcases hatt r.id with e|⟨y,hy,e,r',hr',rfl⟩
   ·exact Y'.mpr ⟨r,hr,by omega⟩
   ·by_cases q:v=P r.id
    ·exact Y'.mpr ⟨r,hr,q.symm⟩
    ·have:=hD _ _ ((hm _ _).mpr hy);exact ih r' hr' (by omega) v h0 (by omega)
 have hsub:((List.range ((P r.id).toNat+1)).map λk:Nat=>(k:Int)) ⊆ t.rs.map λr=>P r.id:=λv hv=>by
  obtain⟨k,hk,rfl⟩:=Y'.mp hv;have:=al'.mp hk;have:=hnn r.id;exact key (D r.id) r hr (V' _) k (by omega) (by omega)
 have hnd:((List.range ((P r.id).toNat+1)).map λk:Nat=>(k:Int)).Nodup:=List.Pairwise.map _ (λa b h=>by omega) List.nodup_range;have:=List.Nodup.length_le_of_subset hnd hsub;rw[B',B',bY']at this;have:=hnn r.id;omega
structure Gov (G O:Tpl) (ds:List Hop):Prop where
  hG:ay G=0
  hO:ay O=0
  rs:O.rs=G.rs
  le:∀{u v k},cG O u v k→∃k',k'≤k∧cG G u v k'
  eq:∀{u v k},cG G u v k→cG O u v k∨⟨u,v⟩∈ds
theorem yR{t:Tpl}{c:Chg}(h:(aD t c).2.2.2=0):Gov (aD t c).2.1 (if(aD t c).1=2 then t else(bo t c).1) (aD t c).2.2.1:=by
 have hk:=kY h;have hg:=qR t c h;obtain⟨h1,h2⟩:=Pk t c;have ha:=(fi h).2.1;obtain⟨hc,hS⟩:=A2 ha;have hc':=jR hc hS;have hds:=h2 h;have e1:(lz t c).1=(aD t c).1:=by rw[h1]
 have e2:(lz t c).2=0:=by rw[h1];exact h
 obtain⟨p1,p2⟩:=Du hc hS;have hsym:=yV hc c.a c.b;rw[←hds,hg,←e1];rw[←e1]at hk;have hon:∀{u v k},onC c u v→cG (bo t c).1 u v k→cq c=false∧((u=c.a∧v=c.b∧k=c.ca)∨(u=c.b∧v=c.a∧k=c.cb)):=λ{u v k} hn he=>by
  rcases hn with⟨rfl,rfl⟩|⟨rfl,rfl⟩
  ·obtain⟨q1,q2⟩:=(fm hc hS).1.mp he;exact⟨q1,.inl ⟨rfl,rfl,q2⟩⟩
  ·obtain⟨q1,q2⟩:=(fm hc hS).2.mp he;exact⟨q1,.inr ⟨rfl,rfl,q2⟩⟩
 have hon2:∀{u v k},onC c u v→cG t u v k→(aU t c.a c.b).2=true∧((u=c.a∧v=c.b∧k=(aU t c.a c.b).1)∨(u=c.b∧v=c.a∧k=(aU t c.b c.a).1)):=λ{u v k} hn he=>by
  have he:=(bT hc).mp he
  rcases hn with⟨rfl,rfl⟩|⟨rfl,rfl⟩
  ·rw[he];exact⟨rfl,.inl ⟨rfl,rfl,rfl⟩⟩
  ·rw[←hsym,he];exact⟨rfl,.inr ⟨rfl,rfl,rfl⟩⟩
 have hdm:∀{u v k},onC c u v→(cq c=false∧(aU t c.a c.b).2=true∧(u=c.a→v=c.b→c.ca=(aU t c.a c.b).1→k=c.ca→False)∧(u=c.b→v=c.a→c.cb=(aU t c.b c.a).1→k=c.cb→False))∨(aU t c.a c.b).2=false∨cq c=true→((u=c.a∧v=c.b∧(k=c.ca∨k=(aU t c.a c.b).1))∨(u=c.b∧v=c.a∧(k=c.cb∨k=(aU t c.b c.a).1)))→(⟨u,v⟩:Hop)∈zX t c:=λ{u v k} hn hq hk=>by
  have q1:=λe=>ft hc (f:=c.a) (g:=c.b) e;have q2:=λe=>ft hc (f:=c.b) (g:=c.a) e;rw[hsym]at q2;have hr0:cq c=true→c.ca=0∧c.cb=0:=λq=>by unfold cq at q;simpa using q
  unfold zX;rw[X']
  rcases hk with⟨rfl,rfl,hk⟩|⟨rfl,rfl,hk⟩
  ·refine .inl ?_
   rw[G']
   ·exact L'.mpr rfl
   ·rcases hq with⟨r1,r2,r3,_⟩|hq|hq
    ·exact .inr λe=>r3 rfl rfl e (by omega)
    ·exact .inl hq
    ·cases q:(aU t c.a c.b).2 with
     | false=>exact .inl rfl
     | true=>exact .inr (by have:=q1 q;have:=hr0 hq;omega)
  ·refine .inr ?_
   rw[G']
   ·exact L'.mpr rfl
   ·rcases hq with⟨r1,r2,_,r3⟩|hq|hq
    ·exact .inr λe=>r3 rfl rfl e (by omega)
    ·exact .inl hq
    ·cases q:(aU t c.a c.b).2 with
     | false=>exact .inl rfl
     | true=>exact .inr (by have:=q2 q;have:=hr0 hq;omega)
 by_cases k2:(lz t c).1=2
 ·rw[G' k2,G' k2];have hle:cq c=false∧((aU t c.a c.b).2=false∨c.ca≤(aU t c.a c.b).1∧c.cb≤(aU t c.b c.a).1):=by
   unfold lz at k2 e2
   split at k2
   ·cases k2
   ·split at k2
    ·cases k2
    ·rename_i z1 z2;rw[F' z1,F' z2]at e2
     split at k2
     ·rename_i z3;refine⟨by simpa using λq=>z2 (.inl q),z3⟩
     ·cases k2
  refine⟨hc',hc,hS.rs.symm,λ{u v k} he=>?_,λ{u v k} he=>?_⟩
  ·by_cases hn:onC c u v
   ·obtain⟨q1,q2⟩:=hon2 hn he
    rcases hle.2 with r|⟨r1,r2⟩
    ·rw[q1]at r;cases r
    ·rcases q2 with⟨rfl,rfl,rfl⟩|⟨rfl,rfl,rfl⟩
     ·exact⟨_,r1,(fm hc hS).1.mpr ⟨hle.1,rfl⟩⟩
     ·exact⟨_,r2,(fm hc hS).2.mpr ⟨hle.1,rfl⟩⟩
   ·exact⟨k,bg' _,(lD hc hS hn).mpr he⟩
  ·by_cases hn:onC c u v
   ·refine P' λq=>?_;have q':¬cG t u v k:=λz=>q (.inl z)
    refine q (.inr (hdm (k:=k) hn ?_ ?_))
    ·cases z:(aU t c.a c.b).2 with
     | false=>exact .inr (.inl rfl)
     | true =>
      refine .inl ⟨hle.1,rfl,λa1 a2 a3 a4=>q' ?_,λa1 a2 a3 a4=>q' ?_⟩
      ·rw[a1,a2,a4,a3];exact(bT hc).mpr (Prod.ext rfl z)
      ·rw[a1,a2,a4,a3];exact(bT hc).mpr (Prod.ext rfl (by rw[hsym];exact z))
    ·rcases(hon hn he).2 with⟨a,b,d⟩|⟨a,b,d⟩
     ·exact .inl ⟨a,b,.inl d⟩
     ·exact .inr ⟨a,b,.inl d⟩
   ·exact .inl ((lD hc hS hn).mp he)
 ·rw[F' k2,F' k2];have hle:cq c=true∨((aU t c.a c.b).2=true∧(aU t c.a c.b).1≤c.ca∧(aU t c.b c.a).1≤c.cb):=by
   have k1:(lz t c).1=1:=by rcases hk with q|q;exact q;exact absurd q k2
   unfold lz at k1
   split at k1
   ·cases k1
   ·split at k1
    ·rename_i z;exact z
    ·split at k1<;>cases k1
  refine⟨hc,hc',hS.rs,λ{u v k} he=>?_,λ{u v k} he=>?_⟩
  ·by_cases hn:onC c u v
   ·obtain⟨q1,q2⟩:=hon hn he
    rcases hle with r|⟨r0,r1,r2⟩
    ·rw[q1]at r;cases r
    ·rcases q2 with⟨rfl,rfl,rfl⟩|⟨rfl,rfl,rfl⟩
     ·exact⟨_,r1,(bT hc).mpr (Prod.ext rfl r0)⟩
     ·exact⟨_,r2,(bT hc).mpr (Prod.ext rfl (by rw[hsym];exact r0))⟩
   ·exact⟨k,bg' _,(lD hc hS hn).mp he⟩
  ·by_cases hn:onC c u v
   ·refine P' λq=>?_;have q':¬cG (bo t c).1 u v k:=λz=>q (.inl z)
    refine q (.inr (hdm (k:=k) hn ?_ ?_))
    ·cases z:cq c with
     | true=>exact .inr (.inr rfl)
     | false =>
      refine .inl ⟨rfl,(hon2 hn he).1,λa1 a2 a3 a4=>q' ?_,λa1 a2 a3 a4=>q' ?_⟩
      ·rw[a1,a2,a4];exact(fm hc hS).1.mpr ⟨z,rfl⟩
      ·rw[a1,a2,a4];exact(fm hc hS).2.mpr ⟨z,rfl⟩
    ·rcases(hon2 hn he).2 with⟨a,b,d⟩|⟨a,b,d⟩
     ·exact .inl ⟨a,b,.inr d⟩
     ·exact .inr ⟨a,b,.inr d⟩
   ·exact .inl ((lD hc hS hn).mpr he)
theorem nw{t:Tpl}(hc:ay t=0){f d:Int}{h:Hop}:pH t f d h=true↔∃c,cG t h.a h.b c∧(aC t f h.a).2=true∧(aC t h.b d).2=true∧(aC t f d).2=true∧(aC t f h.a).1+c+(aC t h.b d).1=(aC t f d).1:=by
 constructor
 ·intro q;have he:(bC t h.a h.b).2=true:=by unfold pH at q;simp only[R']at q;exact q.1
  have hp:1≤(bC t h.a h.b).1∧(bC t h.a h.b).1≤1000:=by rw[jP hc]at he ⊢;exact ft hc he
  rw[nv hc he,ir hp]at q;refine⟨_,(bT hc).mpr ?_,q⟩;rw[jP hc]at he ⊢;exact Prod.ext rfl he
 ·rintro⟨c,e,q⟩;have h5:bC t h.a h.b=(c,true):=by rw[jP hc];exact(bT hc).mp e
  rw[nv hc (by rw[h5]),ir (by rw[h5];exact e.cost hc),h5];exact q
theorem wG{t:Tpl}(hc:ay t=0){x d m:Int}(h:aC t x d=(m,true))(hne:x≠d):∃y,y∈fv t x d:=by
 obtain⟨⟨k,p⟩,hl,_⟩:=aN h;have hd:=(cA (t:=t) (x:=x) (y:=d) (by rw[h])).2.2;cases p with
 | nil=>exact absurd rfl hne
 | cons e p =>
  rename_i v w n k';obtain⟨m',h1,e'⟩:=gE hc hd p;obtain⟨⟨k2,p2⟩,_⟩:=aN e';have:=hl _ _ (Pth.cons e p2);refine⟨v,(dz hc).mpr ⟨_,e,by rw[h],by rw[e'],?_⟩⟩;rw[h,e'];simp only;omega
theorem mg{t:Tpl}(hc:ay t=0){x y d:Int}(h:y∈fv t x d):(aC t y d).1.toNat<(aC t x d).1.toNat∧(aC t x d).1.toNat≤24000:=by
 obtain⟨w,he,cx,cy,e⟩:=(dz hc).mp h;have:=he.cost hc;have:=(aN (aO cy)).2.2;have:=(aN (aO cx)).2.2;omega
section
variable {G O : Tpl} {ds : List Hop} (g : Gov G O ds)
include g
theorem Gov.path{d:Int}:∀{k:Nat} {u m:Int},Pth O d k u m→∃m',m'≤m∧Pth G d k u m':=by
 intro k u m p
 induction p with
 | nil=>exact⟨0,bg' _,.nil⟩
 | cons e p ih =>
  obtain⟨m',h1,q⟩:=ih;obtain⟨k',h2,e'⟩:=g.le e;exact⟨_,by omega,.cons e' q⟩
theorem Gov.has(x:Int):az O x=az G x:=iA g.rs x
theorem Gov.cos{u d m:Int}(h:aC O u d=(m,true)):∃m',m'≤m∧aC G u d=(m',true):=by
 obtain⟨⟨k,p⟩,_⟩:=aN h;obtain⟨m',h1,q⟩:=g.path p;have hd:=(cA (t:=O) (x:=u) (y:=d) (by rw[h])).2.2;rw[g.has]at hd;obtain⟨m2,h2,e⟩:=gE g.hG hd q;exact⟨m2,by omega,e⟩
def Af(G:Tpl)(ds:List Hop)(d x:Int):Prop:=∃h∈ds,pH G x d h=true
theorem Gov.back{d x y:Int}(hn:y∈fv G x d){h:Hop}(hu:pH G y d h=true):pH G x d h=true∧x≠h.a:=by
 obtain⟨w,he,cx,cy,e⟩:=(dz g.hG).mp hn;have hw:=he.cost g.hG;obtain⟨c,hc,u1,u2,u3,u4⟩:=(nw g.hG).mp hu;obtain⟨m,hm,ex⟩:=il g.hG he;obtain⟨a,ha,ea⟩:=gD ex (aO u1);obtain⟨m1,h1,e1⟩:=il g.hG hc;obtain⟨m2,h2,e2⟩:=gD ea e1;obtain⟨m3,h3,e3⟩:=gD e2 (aO u2);have:(aC G x d).1=m3:=by rw[e3]
 refine⟨(nw g.hG).mpr ⟨c,hc,by rw[ea],u2,cx,by rw[ea];simp only;omega⟩,?_⟩;rintro rfl;have:=(aN (aO u1)).2.2;have:=(aN ea).2.2;have:a=0:=by have:=lH (t:=G) (x:=h.a) (by rw[ea]);rw[ea]at this;exact this
 omega
theorem Gov.af{d x y:Int}(hn:y∈fv G x d)(hy:Af G ds d y):Af G ds d x:=by
 obtain⟨h,hh,hu⟩:=hy;exact⟨h,hh,(g.back hn hu).1⟩
theorem Gov.same{d:Int}:∀(N:Nat) {x m:Int},m.toNat≤N→aC G x d=(m,true)→¬Af G ds d x→aC O x d=(m,true)
 | 0,x,m,hN,h,ha=>by
  have hp:=(aN h).2.2
  by_cases e:x=d
  ·subst e;have hm:m=0:=by omega
   subst hm;have hx:=(cA (t:=G) (x:=x) (y:=x) (by rw[h])).2.2;rw[←g.has]at hx;obtain⟨m2,h2,e2⟩:=gE g.hO hx (.nil (t:=O) (g:=x));have:=(aN e2).2.2;rw[e2];congr 1;omega
  ·obtain⟨y,hy⟩:=wG g.hG h e;obtain⟨w,he,cx,cy,e⟩:=(dz g.hG).mp hy;have:=he.cost g.hG;have:=(aN (aO cy)).2.2;rw[h]at e;simp only at e;omega
 | N+1,x,m,hN,h,ha=>by
  have hp:=(aN h).2.2
  by_cases e:x=d
  ·subst e;have hm:=lH (t:=G) (x:=x) (by rw[h]);rw[h]at hm;simp only at hm;subst hm;have hx:=(cA (t:=G) (x:=x) (y:=x) (by rw[h])).2.2;rw[←g.has]at hx;obtain⟨m2,h2,e2⟩:=gE g.hO hx (.nil (t:=O) (g:=x));have:=(aN e2).2.2;rw[e2];congr 1;omega
  ·obtain⟨y,hy⟩:=wG g.hG h e;obtain⟨w,he,cx,cy,e⟩:=(dz g.hG).mp hy;have hw:=he.cost g.hG;have hy0:=(aN (aO cy)).2.2;rw[h]at e;simp only at e;have hye:=Gov.same N (x:=y) (by omega) (aO cy) λq=>ha (g.af hy q);have heO:cG O x y w:=by
    rcases g.eq he with q|q
    ·exact q
    ·exfalso;have hx:=(he.has g.hG).1;obtain⟨m2,h2,e2⟩:=gE g.hG hx (.nil (t:=G) (g:=x));have:=(aN e2).2.2;exact ha ⟨⟨x,y⟩,q,(nw g.hG).mpr ⟨w,he,by rw[e2],cy,by rw[h],by rw[e2,h];simp only;omega⟩⟩
   obtain⟨m1,h1,e1⟩:=il g.hO heO;obtain⟨m2,h2,e2⟩:=gD e1 hye;obtain⟨m3,h3,e3⟩:=g.cos e2;rw[h]at e3;have:m=m3:=(Prod.mk.inj e3).1;rw[e2];congr 1;omega
theorem Gov.nexO{d x y:Int}(hn:y∈fv O x d)(ha:¬Af G ds d x):y∈fv G x d:=by
 obtain⟨w,he,cx,cy,e⟩:=(dz g.hO).mp hn;obtain⟨m,hm,ex⟩:=g.cos (aO cx);have hs:=g.same m.toNat (V' _) ex ha;rw[hs]at e;simp only at e;obtain⟨w',hw',he'⟩:=g.le he;obtain⟨n,hn',ey⟩:=g.cos (aO cy);obtain⟨m1,h1,e1⟩:=il g.hG he';obtain⟨m2,h2,e2⟩:=gD e1 ey;rw[ex]at e2;have:m=m2:=(Prod.mk.inj e2).1;exact(dz g.hG).mpr ⟨w',he',by rw[ex],by rw[ey],by rw[ex,ey];simp only;omega⟩
open Classical in
noncomputable def mxM(G O:Tpl)(ds:List Hop)(T:Int→Prop)(d x:Int):Nat:=
 if Af G ds d x then(if T x then 100000+(aC G x d).1.toNat else 200000+(aC O x d).1.toNat)else(aC G x d).1.toNat
theorem Gov.falls{T:Int→Prop}{d:Int}(hd:az G d=true)(hT:∀u v,T u→(aU G u v).2=true→p9 G ds u v=true→T v){x y:Int}(h:(T x∧y∈fv G x d)∨(¬T x∧y∈fv O x d)):mxM G O ds T d y<mxM G O ds T d x:=by
 unfold mxM
 by_cases hx:Af G ds d x
 ·rw[G' hx]
  rcases h with⟨t1,hn⟩|⟨t1,hn⟩
  ·rw[G' t1];have hl:=mg g.hG hn
   by_cases hy:Af G ds d y
   ·have ty:T y:=by
     obtain⟨h,hh,hu⟩:=hy;obtain⟨b1,b2⟩:=g.back hn hu;obtain⟨w,he,_⟩:=(dz g.hG).mp hn;obtain⟨r,hr,rfl⟩:=cf.mp hd;refine hT x y t1 ((jh g.hG _ _).mpr ⟨w,he⟩) ?_;unfold p9 bhO bhA;rw[ac'];refine⟨h,hh,?_⟩;rw[R',bne_iff_ne,ac'];exact⟨b2,r,hr,by rw[b1,decide_eq_true hn,hu];rfl⟩
    rw[G' hy,G' ty];omega
   ·rw[F' hy];omega
  ·rw[F' t1];have hl:=mg g.hO hn;obtain⟨w,he,cx,cy,e⟩:=(dz g.hO).mp hn;obtain⟨m,hm,ey⟩:=g.cos (aO cy);have h1:=(aN ey).2.2;have e1:(aC G y d).1=m:=by rw[ey]
   by_cases hy:Af G ds d y
   ·rw[G' hy]
    by_cases ty:T y
    ·rw[G' ty];omega
    ·rw[F' ty];omega
   ·rw[F' hy];omega
 ·rw[F' hx];have hn:y∈fv G x d:=by
   rcases h with⟨_,hn⟩|⟨_,hn⟩
   ·exact hn
   ·exact g.nexO hn hx
  have hy:¬Af G ds d y:=λq=>hx (g.af hn q);rw[F' hy];exact(mg g.hG hn).1
end
end Go.Proofs.YtdoacjojljgdcaaGreat
