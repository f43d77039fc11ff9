/- Texts joined: RK2 RK3 RK4 RK5 RK6 TW SF1 AP4 AP5 RF1 RF2 RF3 RF4 RF5 SF2 SF3 RF6 KC. -/
import Derived.Test.YtdoacjojljgdcaaGreatQS8
set_option linter.unusedVariables false
set_option linter.unusedSimpArgs false
set_option linter.unusedSectionVars false
namespace Go.Proofs.YtdoacjojljgdcaaGreat
open Go Go.Am
def NO:AC:=.seq (.reg [⟨(some 34),.mkm none,none⟩,⟨(some 11),.box (.c (.val (.map none))),none⟩,⟨none,.store 1 (.t 11) (.t 34),none⟩])
 (.seq (.reg [⟨(some 12),.box (.c (.val (.nilFunc))),none⟩])
 (.seq (.reg [⟨(some 35),.mkf 51 [(.t 11),(.t 10),(.t 12)],none⟩,⟨none,.store 1 (.t 12) (.t 35),none⟩])
 (.seq (.reg [⟨(some 13),.move (.c (.sl 0 [] true)),none⟩])
 (.seq (.seq (.reg [⟨(some 36),.faddr 0 (.t 2),none⟩,⟨(some 37),.load false 1 (.t 36),none⟩,⟨(some 38),.len (.t 37),none⟩,⟨(some 39),.move (.c (.val (.int .i64 0))),none⟩])
 (.block 0 (.loop (.seq (.reg [⟨(some 40),.bin .lss (.t 39) (.t 38),none⟩])
 (.seq (.cond (.t 40) (.skip) (.exit 0))
 (.seq (.block 1 (.seq (.reg [⟨(some 41),.iaddr 2 (.t 37) (.t 39),none⟩,⟨(some 42),.load true 2 (.t 41),none⟩,⟨(some 15),.box (.c (.agg [(.val (.int .i64 0)),(.val (.bool false))])),none⟩,⟨none,.store 2 (.t 15) (.t 42),none⟩])
 (.dreg [⟨(some 43),.move (.t 13),none⟩,⟨(some 44),.faddr 0 (.t 15),none⟩,⟨(some 45),.load false 1 (.t 44),none⟩,⟨(some 46),.load false 1 (.t 12),none⟩,⟨(some 47),.faddr 0 (.t 15),none⟩,⟨(some 48),.load false 1 (.t 47),none⟩,⟨(some 49),.call (.t 46) [(.t 48)],none⟩,⟨(some 50),.build [(.val (.int .i64 0)),(.val (.int .i64 0))] [(0,1,(.t 45)),(1,1,(.t 49))],none⟩,⟨(some 51),.lit 2 1 (.agg [(.val (.int .i64 0)),(.val (.int .i64 0))]) [(0,(.t 50))],none⟩,⟨(some 52),.append 2 16 (.t 43) (.t 51),none⟩,⟨(some 13),.move (.t 52),none⟩] [(2,3),(2,5),(3,5),(2,6)])))
 (.reg [⟨(some 53),.bin .add (.t 39) (.c (.val (.int .i64 1))),none⟩,⟨(some 39),.move (.t 53),none⟩])))))))
 (.seq (.reg [⟨(some 54),.move (.t 13),none⟩,⟨(some 4),.move (.t 54),none⟩,⟨(some 5),.move (.c (.val (.int .i64 0))),none⟩])
 (.ret))))))
def rkO(A:Rws)(N:Nat)(s:List Rnk×Dis)(r:Rtr):List Rnk×Dis:=(s.1++[⟨r.id,(rkF A N r.id s.2).1⟩],(rkF A N r.id s.2).2)
theorem Jf(t:Tpl)(A:Rws)(D:Int→Nat)(N:Nat)(hA:∀p∈A,p.2.length≤1000000)(hD:∀r x,x∈aB A r []→D x<D r)(hN:∀r,D r<N)(ht:t.rs.length≤1000)(tm:Nat→AV)(hp:Hp)(t2:tm 2=.ref 0 0)(h0:hp 0=some (.box (Tpl.v t)))
  (t10:tm 10=.ref 352 0) (h10:hp 352=some (.box (mpR A))):AWP Tryz.prog 0 55 NO (fin 0 55 [.tmp 4,.tmp 5] (.tup [.sl 2 ((t.rs.foldl (rkO A N) ([],[])).1.map Rnk.v) false,.int 0]) []) ⟨tm,hp,1000⟩:=by
 have hml:=bv
 unfold NO
 refine AWP.seq' ?_
 refine AWP.reg' λK hK=>?_
 try simp only[ak,ao,am,eq_self,implies_true,forall_eq_or_imp,forall_eq,Nat.reduceEqDiff,↓reduceIte,Nat.reduceAdd,Nat.reduceLeDiff,Nat.reduceSub,Nat.reduceMul,Nat.reduceLT,Int.reduceBEq,Int.reduceBNe,Int.reduceToNat,Int.reduceLT,Int.reduceLE,Int.reduceAdd,Int.reduceSub,Int.reduceMul,reduceCtorEq,rG]
 refine hK _ _ _ ?_
 clear hK K
 refine AWP.seq' ?_
 refine AWP.reg' λK hK=>?_
 try simp only[ak,ao,am,eq_self,implies_true,forall_eq_or_imp,forall_eq,Nat.reduceEqDiff,↓reduceIte,Nat.reduceAdd,Nat.reduceLeDiff,Nat.reduceSub,Nat.reduceMul,Nat.reduceLT,Int.reduceBEq,Int.reduceBNe,Int.reduceToNat,Int.reduceLT,Int.reduceLE,Int.reduceAdd,Int.reduceSub,Int.reduceMul,reduceCtorEq]
 refine hK _ _ _ ?_
 clear hK K
 refine AWP.seq' ?_
 refine AWP.reg' λK hK=>?_
 try simp only[ak,ao,am,eq_self,implies_true,forall_eq_or_imp,forall_eq,Nat.reduceEqDiff,↓reduceIte,Nat.reduceAdd,Nat.reduceLeDiff,Nat.reduceSub,Nat.reduceMul,Nat.reduceLT,Int.reduceBEq,Int.reduceBNe,Int.reduceToNat,Int.reduceLT,Int.reduceLE,Int.reduceAdd,Int.reduceSub,Int.reduceMul,reduceCtorEq,t10]
 refine hK _ _ _ ?_
 clear hK K
 refine AWP.seq' ?_
 refine AWP.reg' λK hK=>?_
 try simp only[ak,ao,am,eq_self,implies_true,forall_eq_or_imp,forall_eq,Nat.reduceEqDiff,↓reduceIte,Nat.reduceAdd,Nat.reduceLeDiff,Nat.reduceSub,Nat.reduceMul,Nat.reduceLT,Int.reduceBEq,Int.reduceBNe,Int.reduceToNat,Int.reduceLT,Int.reduceLE,Int.reduceAdd,Int.reduceSub,Int.reduceMul,reduceCtorEq]
 refine hK _ _ _ ?_
 clear hK K
 refine AWP.seq' (AWP.seq' ?_)
 refine AWP.reg' λK hK=>?_
 try simp only[ak,ao,am,eq_self,implies_true,forall_eq_or_imp,forall_eq,Nat.reduceEqDiff,↓reduceIte,Nat.reduceAdd,Nat.reduceLeDiff,Nat.reduceSub,Nat.reduceMul,Nat.reduceLT,Int.reduceBEq,Int.reduceBNe,Int.reduceToNat,Int.reduceLT,Int.reduceLE,Int.reduceAdd,Int.reduceSub,Int.reduceMul,reduceCtorEq,t2,h0,Tpl.v,List.length_map]
 repeat (refine And.intro (by omega) ?_)
 refine hK _ _ _ ?_
 clear hK K
 refine AWP.block ?_
 refine AWP.weak (aA.nilvec (k:=0) 13 0 2 (by simp only[ah];rfl) (Nat.zero_le _)) ?_
 refine AWP.loopS (λu:S3×Nat=>u.1) (λu=>u.2≤t.rs.length∧(1177≤u.1.nx∧u.1.tm 12=.ref 1048 0∧u.1.tm 37=.sl 2 (t.rs.map Rtr.v) false∧u.1.tm 38=.int t.rs.length∧u.1.tm 39=.int (u.2:Nat)) ∧
  (u.1.hp 1016=some (.box (.mref 1000))∧u.1.hp 352=some (.box (mpR A))∧u.1.hp 1048=some (.box (.func 51 [.ref 1016 0,.ref 352 0,.ref 1048 0]))∧u.1.hp 1000=some (knB ((t.rs.take u.2).foldl (rkO A N) ([],[])).2)) ∧
  ∃b,u.1.tm 13=.vec b∧b<u.1.nx∧u.1.hp b=some (.vec 2 (((t.rs.take u.2).foldl (rkO A N) ([],[])).1.map Rnk.v))) (λu=>t.rs.length-u.2) (i0:=(_,0)) ?_ aA.refl ?_
 ·exact⟨Nat.zero_le _,⟨Nat.le_refl _,rfl,rfl,rfl,rfl⟩,⟨rfl,h10,rfl,rfl⟩,1176,rfl,by dsimp only;omega,rfl⟩
 ·rintro⟨⟨tm1,hp1,nx1⟩,z⟩ ⟨hz,⟨n1,q12,q37,q38,q39⟩,⟨k0,k1,k2,k3⟩,b,qb,hb,kb⟩
  simp only at hz n1 q12 q37 q38 q39 k0 k1 k2 k3 qb hb kb ⊢
  refine AWP.seq' ?_
  refine AWP.reg' λK hK=>?_
  try simp only[ak,ao,am,eq_self,implies_true,forall_eq_or_imp,forall_eq,Nat.reduceEqDiff,↓reduceIte,Nat.reduceAdd,Nat.reduceLeDiff,Nat.reduceSub,Nat.reduceMul,Nat.reduceLT,Int.reduceBEq,Int.reduceBNe,Int.reduceToNat,Int.reduceLT,Int.reduceLE,Int.reduceAdd,Int.reduceSub,Int.reduceMul,reduceCtorEq,q38,q39]
  refine hK _ _ _ ?_
  clear hK K
  refine AWP.seq' ?_
  refine AWP.cond (b:=decide ((z:Int)<(t.rs.length:Int))) rfl (λe=>?_) (λe=>?_)
  ·have e:z<t.rs.length:=by have:=of_decide_eq_true e;omega
   refine AWP.skip ?_
   refine AWP.seq' (AWP.block (AWP.seq' ?_))
   have hy:t.rs[z]?=some t.rs[z]:=List.getElem?_eq_getElem e
   generalize t.rs[z]=x at hy
   have hge:(t.rs.map Rtr.v).getD z .unk=Rtr.v x:=by rw[List.getD_eq_getElem?_getD,List.getElem?_map,hy];rfl
   refine AWP.reg' λK hK=>?_
   try simp only[ak,ao,am,eq_self,implies_true,forall_eq_or_imp,forall_eq,Nat.reduceEqDiff,↓reduceIte,Nat.reduceAdd,Nat.reduceLeDiff,Nat.reduceSub,Nat.reduceMul,Nat.reduceLT,Int.reduceBEq,Int.reduceBNe,Int.reduceToNat,Int.reduceLT,Int.reduceLE,Int.reduceAdd,Int.reduceSub,Int.reduceMul,reduceCtorEq,q37,q39,hge,Int.toNat_natCast,List.length_map,Rtr.v]
   refine⟨⟨by omega,by omega⟩,?_⟩
   refine hK _ _ _ ?_
   clear hK K
   refine(show AWP _ _ _ _ _ _ from ?_)
   have hF:(t.rs.take (z+1)).foldl (rkO A N) ([],[])=rkO A N ((t.rs.take z).foldl (rkO A N) ([],[])) x:=eG _ _ hy
   have hpl:((t.rs.take z).foldl (rkO A N) ([],[])).1.length≤1000:=by
    have:∀(l:List Rtr) (s:List Rnk×Dis),(l.foldl (rkO A N) s).1.length=s.1.length+l.length:=λl=>by
     induction l with
     | nil=>intro s;rfl
     | cons r l ih=>intro s;rw[List.foldl_cons,ih];simp[rkO];omega
    rw[this,List.length_take];simp;omega
   generalize hP:(t.rs.take z).foldl (rkO A N) ([],[])=p at *
   have hx:=Ai A D hA hD N x.id p.2 (hN _)
   obtain⟨f1048,_⟩:=nxF (show 1048<nx1 by omega)
   refine AWP.dreg' λK hK=>?_
   try simp only[ak,ao,am,eq_self,implies_true,forall_eq_or_imp,forall_eq,Nat.reduceEqDiff,↓reduceIte,Nat.reduceAdd,Nat.reduceLeDiff,Nat.reduceSub,Nat.reduceMul,Nat.reduceLT,Int.reduceBEq,Int.reduceBNe,Int.reduceToNat,Int.reduceLT,Int.reduceLE,Int.reduceAdd,Int.reduceSub,Int.reduceMul,reduceCtorEq,qb,q12,k2,f1048,Nat.add_assoc]
   have hpl2:∀(v1 v2 v3:Option Blk) b,b<nx1→upd (upd (upd hp1 (nx1+48) v1) (nx1+48) v2) (nx1+48) v3 b=hp1 b:=λv1 v2 v3 b hb=>by
    simp only[ah];repeat rw[if_neg (by omega)]
   have hne:∀{c:Nat} {y:Blk},hp1 c=some y→(∀es,y≠.vec 2 es)→(b=c)=False∧(c=b)=False:=λh1 h2=>by
    refine⟨eq_false λe=>?_,eq_false λe=>?_⟩
    ·subst e;rw[kb]at h1;cases h1;exact h2 _ rfl
    ·subst e;rw[kb]at h1;cases h1;exact h2 _ rfl
   obtain⟨nb0,nb0'⟩:=hne k0 (λ_ h=>by cases h)
   obtain⟨nb1,nb1'⟩:=hne k1 (λ_ h=>by cases h)
   obtain⟨nb2,nb2'⟩:=hne k2 (λ_ h=>by cases h)
   obtain⟨nb3,nb3'⟩:=hne k3 (λ_ h=>by cases h)
   obtain⟨fb,fb',_,_⟩:=nxF hb
   refine Gq [1016,352,1048,1000] rfl (by rfl) (uZ 1016 352 1048 1000 (by decide) hx ((hpl2 _ _ _ _ (by omega)).trans k0) ((hpl2 _ _ _ _ (by omega)).trans k1) ((hpl2 _ _ _ _ (by omega)).trans k2) ((hpl2 _ _ _ _ (by omega)).trans k3)) (λc h=>?_) ?_
   ·by_cases a0:c=1016
    ·simp[a0]
    by_cases a1:c=352
    ·simp[a1]
    by_cases a2:c=1048
    ·simp[a2]
    by_cases a3:c=1000
    ·simp[a3]
    exact absurd (by simp[eB,cQ,a0,a1,a2,a3]) h
   rw[cI,cI,cI,cI,l8]
   try simp only[ak,ao,am,eq_self,implies_true,forall_eq_or_imp,forall_eq,Nat.reduceEqDiff,↓reduceIte,Nat.reduceAdd,Nat.reduceLeDiff,Nat.reduceSub,Nat.reduceMul,Nat.reduceLT,Int.reduceBEq,Int.reduceBNe,Int.reduceToNat,Int.reduceLT,Int.reduceLE,Int.reduceAdd,Int.reduceSub,Int.reduceMul,reduceCtorEq]
   refine gX ?_
   try simp only[ak,ao,am,eq_self,implies_true,forall_eq_or_imp,forall_eq,Nat.reduceEqDiff,↓reduceIte,Nat.reduceAdd,Nat.reduceLeDiff,Nat.reduceSub,Nat.reduceMul,Nat.reduceLT,Int.reduceBEq,Int.reduceBNe,Int.reduceToNat,Int.reduceLT,Int.reduceLE,Int.reduceAdd,Int.reduceSub,Int.reduceMul,reduceCtorEq,bt,ec,nb0,nb1,nb2,nb3,nb0',nb1',nb2',nb3',fb,fb',kb,Nat.add_assoc,List.length_map]
   obtain⟨g1,g1',_⟩:=nxF (show 1016<nx1 by omega)
   obtain⟨g2,g2',_⟩:=nxF (show 352<nx1 by omega)
   obtain⟨g3,g3',_⟩:=nxF (show 1048<nx1 by omega)
   obtain⟨g4,g4',_⟩:=nxF (show 1000<nx1 by omega)
   refine⟨⟨by omega,by omega⟩,?_,?_⟩
   ·simp[ig,oa,bK,AOp.opers,aS,evO,ah,g1,g2,g3,g4,g1',g2',g3',g4']
   refine hK _ _ _ ?_
   clear hK K
   refine(show AWP _ _ _ _ _ _ from ?_)
   have hw:IntKind.i64.wrap ((z:Int)+1)=((z+1:Nat):Int):=jQ (by omega) (by omega)
   refine AWP.reg' λK hK=>?_
   try simp only[ak,ao,am,eq_self,implies_true,forall_eq_or_imp,forall_eq,Nat.reduceEqDiff,↓reduceIte,Nat.reduceAdd,Nat.reduceLeDiff,Nat.reduceSub,Nat.reduceMul,Nat.reduceLT,Int.reduceBEq,Int.reduceBNe,Int.reduceToNat,Int.reduceLT,Int.reduceLE,Int.reduceAdd,Int.reduceSub,Int.reduceMul,reduceCtorEq,q39,hw]
   refine hK _ _ _ ?_
   clear hK K
   refine⟨(_,z+1),⟨by dsimp only;omega,⟨by dsimp only;omega,?_,?_,?_,rfl⟩,⟨?_,?_,?_,?_⟩,nx1+224,rfl,by dsimp only;omega,?_⟩,by dsimp only;omega,aA.refl⟩
   ·exact q12
   ·exact q37
   ·exact q38
   ·simp only[ah,g1,nb0',↓reduceIte,Nat.reduceEqDiff]
   ·simp only[ah,g2,nb1',↓reduceIte,Nat.reduceEqDiff]
   ·simp only[ah,g3,nb2',↓reduceIte,Nat.reduceEqDiff]
   ·dsimp only;rw[hF];simp only[ah,g4,nb3',↓reduceIte,Nat.reduceEqDiff];rfl
   ·dsimp only;rw[hF];simp only[ah,↓reduceIte];unfold rkO;rw[List.map_append];rfl
  ·have e:z=t.rs.length:=by have:=of_decide_eq_false e;omega
   subst e
   refine AWP.exit ?_
   rw[List.take_length]at kb
   refine(show AWP _ _ _ _ _ _ from ?_)
   refine AWP.seq' ?_
   refine AWP.reg' λK hK=>?_
   try simp only[ak,ao,am,eq_self,implies_true,forall_eq_or_imp,forall_eq,Nat.reduceEqDiff,↓reduceIte,Nat.reduceAdd,Nat.reduceLeDiff,Nat.reduceSub,Nat.reduceMul,Nat.reduceLT,Int.reduceBEq,Int.reduceBNe,Int.reduceToNat,Int.reduceLT,Int.reduceLE,Int.reduceAdd,Int.reduceSub,Int.reduceMul,reduceCtorEq,qb]
   refine hK _ _ _ ?_
   clear hK K
   refine(show AWP _ _ _ _ _ _ from ?_)
   refine AWP.ret (gA (aA.giveT (es:=(t.rs.foldl (rkO A N) ([],[])).1.map Rnk.v) 4 b (by simp only[ah];rfl) kb (aH (ae (λ_=>rfl) _))) (kH rfl rfl trivial))
def Q3:AF:=
 ⟨55,2,[.tmp 4,.tmp 5],
 .seq (.reg [⟨(some 2),.box (.t 0),none⟩,⟨(some 3),.box (.t 1),none⟩,⟨(some 4),.move (.c (.sl 0 [] true)),none⟩,⟨(some 5),.move (.c (.val (.int .i64 0))),none⟩])
 (.seq (.reg [⟨(some 17),.load true 2 (.t 2),none⟩,⟨(some 18),.load true 4 (.t 3),none⟩,⟨(some 19),.call (.c (.func 47 [])) [(.t 17),(.t 18)],none⟩,⟨(some 16),.move (.t 19),none⟩,⟨(some 20),.ext 0 (.t 16),none⟩,⟨(some 21),.ext 1 (.t 16),none⟩,⟨(some 22),.ext 2 (.t 16),none⟩,⟨(some 23),.ext 3 (.t 16),none⟩,⟨(some 7),.box (.c (.agg [(.sl 0 [] true),(.sl 0 [] true)])),none⟩,⟨(some 6),.move (.t 20),none⟩,⟨none,.store 2 (.t 7) (.t 21),none⟩,⟨(some 8),.move (.t 22),none⟩,⟨(some 9),.move (.t 23),none⟩])
 (.seq (.seq (.reg [⟨(some 24),.move (.t 9),none⟩,⟨(some 25),.bin .neq (.t 24) (.c (.val (.int .i64 0))),none⟩])
 (.cond (.t 25) (.seq (.reg [⟨(some 26),.move (.t 9),none⟩,⟨(some 4),.move (.c (.sl 0 [] true)),none⟩,⟨(some 5),.move (.t 26),none⟩])
 (.ret)) (.skip)))
 (.seq (.reg [⟨(some 27),.load true 2 (.t 7),none⟩,⟨(some 28),.move (.t 8),none⟩,⟨(some 29),.call (.c (.func 49 [])) [(.t 27),(.t 28)],none⟩,⟨(some 10),.box (.c (.val (.map none))),none⟩,⟨none,.store 1 (.t 10) (.t 29),none⟩])
 (.seq (.seq (.reg [⟨(some 30),.move (.t 6),none⟩,⟨(some 31),.bin .eql (.t 30) (.c (.val (.int .i64 1))),none⟩])
 (.cond (.t 31) (.reg [⟨(some 32),.load false 1 (.t 10),none⟩,⟨(some 33),.call (.c (.func 50 [])) [(.t 32)],none⟩,⟨none,.store 1 (.t 10) (.t 33),none⟩]) (.skip)))
 (.seq (.reg [⟨(some 34),.mkm none,none⟩,⟨(some 11),.box (.c (.val (.map none))),none⟩,⟨none,.store 1 (.t 11) (.t 34),none⟩])
 (.seq (.reg [⟨(some 12),.box (.c (.val (.nilFunc))),none⟩])
 (.seq (.reg [⟨(some 35),.mkf 51 [(.t 11),(.t 10),(.t 12)],none⟩,⟨none,.store 1 (.t 12) (.t 35),none⟩])
 (.seq (.reg [⟨(some 13),.move (.c (.sl 0 [] true)),none⟩])
 (.seq (.seq (.reg [⟨(some 36),.faddr 0 (.t 2),none⟩,⟨(some 37),.load false 1 (.t 36),none⟩,⟨(some 38),.len (.t 37),none⟩,⟨(some 39),.move (.c (.val (.int .i64 0))),none⟩])
 (.block 0 (.loop (.seq (.reg [⟨(some 40),.bin .lss (.t 39) (.t 38),none⟩])
 (.seq (.cond (.t 40) (.skip) (.exit 0))
 (.seq (.block 1 (.seq (.reg [⟨(some 41),.iaddr 2 (.t 37) (.t 39),none⟩,⟨(some 42),.load true 2 (.t 41),none⟩,⟨(some 15),.box (.c (.agg [(.val (.int .i64 0)),(.val (.bool false))])),none⟩,⟨none,.store 2 (.t 15) (.t 42),none⟩])
 (.dreg [⟨(some 43),.move (.t 13),none⟩,⟨(some 44),.faddr 0 (.t 15),none⟩,⟨(some 45),.load false 1 (.t 44),none⟩,⟨(some 46),.load false 1 (.t 12),none⟩,⟨(some 47),.faddr 0 (.t 15),none⟩,⟨(some 48),.load false 1 (.t 47),none⟩,⟨(some 49),.call (.t 46) [(.t 48)],none⟩,⟨(some 50),.build [(.val (.int .i64 0)),(.val (.int .i64 0))] [(0,1,(.t 45)),(1,1,(.t 49))],none⟩,⟨(some 51),.lit 2 1 (.agg [(.val (.int .i64 0)),(.val (.int .i64 0))]) [(0,(.t 50))],none⟩,⟨(some 52),.append 2 16 (.t 43) (.t 51),none⟩,⟨(some 13),.move (.t 52),none⟩] [(2,3),(2,5),(3,5),(2,6)])))
 (.reg [⟨(some 53),.bin .add (.t 39) (.c (.val (.int .i64 1))),none⟩,⟨(some 39),.move (.t 53),none⟩])))))))
 (.seq (.reg [⟨(some 54),.move (.t 13),none⟩,⟨(some 4),.move (.t 54),none⟩,⟨(some 5),.move (.c (.val (.int .i64 0))),none⟩])
 (.ret)))))))))))⟩
theorem LE:fL Tryz.prog Tryz.f12=some Q3:=by kernel_rfl
theorem aA.giveBox{k n:Nat}{tm:Nat→AV}{hp:Hp}{nx:Nat}{kq:Option Nat}{ks:List MK}{vs:List AV}(b0 b:Nat)(h0:hp b0=some (.box (.mref b)))(hb:hp b=some (.map kq ks vs))(hx:aZ vs) :
  aA k n ⟨tm,hp,nx⟩ ⟨tm,upd (upd hp b none) b0 (some (.box (.mp kq ks vs))),nx⟩:=by
 have hne:b0≠b:=λe=>by subst e;rw[h0]at hb;cases hb
 refine aA.give b rfl (λu=>.inr bw.refl) (λb' x hx'=>?_) (by show hp b≠none;rw[hb];simp)
 have hx':upd (upd hp b none) b0 (some (.box (.mp kq ks vs))) b'=some x:=hx'
 by_cases e:b'=b0
 ·subst e;rw[ai]at hx';cases hx'
  exact⟨hne,.inr ⟨_,_,h0,rfl,rfl,bw.map hb hx⟩⟩
 ·rw[aj _ _ e]at hx'
  by_cases e2:b'=b
  ·subst e2;rw[ai]at hx';cases hx'
  ·rw[aj _ _ e2]at hx';exact⟨e2,.inl hx'⟩
theorem aA.up{k n:Nat}{tm:Nat→AV}{hp:Hp}{nx nx':Nat}(h:nx≤nx'):aA k n ⟨tm,hp,nx⟩ ⟨tm,hp,nx'⟩:=by
 rintro P c a w ⟨h0,A,μ,H⟩
 exact⟨h0,A,μ,H.free λb hb=>Nat.le_trans h hb⟩
theorem Dz{P:Program}{fid:FuncId}{n f:Nat}{args:List AV}{L:Rws}{hp:Hp}(hs:aO P fid args [] (.mref 0) [some (ip L)])(hf:jN P fid)(h1:aZ args):bq P n fid args f hp [] (.mref f) (eB [(f,some (ip L))]):=by
 have key:=bq.hand (n:=n) (f:=f) (hp:=hp) hf hs [] rfl (by simp) (aW h1) (λi c y e1 e2=>by simp at e1) (by simp) (by simp) (show(0:Nat)<1 by omega) (λy hy=>by simp at hy;subst hy;exact aW (dR _))
 have e0:ba [] f 0=f:=rfl
 have e1:(ip L).ren (ba [] f)=ip L:=by unfold ip;rw[Blk.ren,bc _ (dR _)]
 have e3:cN [] f [some (ip L)]=eB [(f,some (ip L))]:=by simp[cN,List.zipIdx,e0,e1]
 rw[e3]at key
 simpa only[bc _ h1,AV.ren,e0]using key
def TOk(L:Rws)(is:List Nat):Prop:=is.Nodup∧(∀i∈is,i<L.length)∧∀i,i<L.length→i∈is
theorem iY.mono{P:Program}{n f:Nat}{fid:FuncId}{args:List AV}{hp:Hp}{foot:List Nat}{Q Q':AV→Eff→Prop}(h:iY P n fid args f hp foot Q)(hq:∀v e,Q v e→Q' v e):iY P n fid args f hp foot Q':=
 ⟨h.1,λc A μ fr tm' hp' a w cargs h1 h2 h3 h4=>(h.2 c A μ fr tm' hp' a w cargs h1 h2 h3 h4).mono λe' w'=>by rintro⟨v,e,q,r⟩;exact⟨v,e,hq v e q,r⟩⟩
theorem sm{L:Rws}(hL:vn L){n f b:Nat}{hp:Hp}(hb:hp b=some (ip L)) :
  iY Tryz.prog n 50 [.mref b] f hp [b] (λv e=>∃is,TOk L is∧v=.mref f∧e=eB [(b,none),(f,some (ip (ge L is)))]):=by
 have e0:ba [b] f 0=b:=rfl
 have e1:ba [b] f 1=f:=rfl
 have rn:∀L,(ip L).ren (ba [b] f)=ip L:=λL=>by unfold ip;rw[Blk.ren,bc _ (dR _)]
 have key:=iY.hand (n:=n) (f:=f) (hp:=hp) ⟨_,Tryz.func50,by kernel_rfl,by kernel_rfl⟩ (DL L hL) [b] rfl (by simp) ⟨show(0:Nat)<1 by omega,trivial⟩ (λi c y h1 h2=>by
  match i with
  | 0=>cases h1;cases h2;exact⟨aW (dR _),hb.trans (congrArg some (rn L).symm)⟩
  | i+1=>simp at h1) (λr h'=>by
   rintro⟨is,_,_,_,rfl,rfl⟩
   exact⟨by simp,by simp,show(1:Nat)<2 by omega,λx hx=>by simp at hx;subst hx;exact aW (dR _)⟩)
 refine iY.mono (by simpa only[dH,AV.ren,e0]using key) ?_
 rintro v e ⟨r,h',⟨is,i1,i2,i3,rfl,rfl⟩,rfl,rfl⟩
 refine⟨is,⟨i1,i2,i3⟩,by rw[AV.ren,e1],?_⟩
 simp[cN,List.zipIdx,e0,e1,rn]
def pj(t:Tpl)(A:Rws)(R:List Rnk):Prop:=∃(D:Int→Nat) (N:Nat),(∀p∈A,p.2.length≤1000000)∧(∀r x,x∈aB A r []→D x<D r)∧(∀r,D r<N)∧R=(t.rs.foldl (rkO A N) ([],[])).1
theorem Jt(t:Tpl)(c:Chg)(R:List Rnk)(hb:(aI t c).2.2.2=0→t.rs.length≤1000∧(aI t c).2.2.1.length≤1000∧vn (eZ (aI t c).2.1 (aI t c).2.2.1))
    (h2:(aI t c).2.2.2=0→¬(aI t c).1=1→pj t (eZ (aI t c).2.1 (aI t c).2.2.1) R)
    (h1:(aI t c).2.2.2=0→(aI t c).1=1→∀is,TOk (eZ (aI t c).2.1 (aI t c).2.2.1) is→pj t (ge (eZ (aI t c).2.1 (aI t c).2.2.1) is) R)
    (hR:¬(aI t c).2.2.2=0→R=[]):aO Tryz.prog 12 [Tpl.v t,Chg.v c] [] (.tup [.sl 2 (R.map Rnk.v) false,.int (aI t c).2.2.2]) []:=by
  refine aO.walk Tryz.func12 LE (by simp[Q3]) ?_
  unfold Q3
  simp only[fq,fK,List.length_cons,List.length_nil]
  have hred:ax Tryz.prog (pT t c).f [Tpl.v t,Chg.v c] (.tup [.int (aI t c).1,Tpl.v (aI t c).2.1,.sl 2 ((aI t c).2.2.1.map Hop.v) false,.int (aI t c).2.2.2]):=(pT t c).ok
  generalize aI t c=q at *
  obtain⟨kd,g,ds,er⟩:=q
  simp only at hb h2 h1 hR hred ⊢
  refine AWP.seq' ?_
  refine AWP.reg' λK hK=>?_
  try simp only[ak,ao,am,eq_self,implies_true,forall_eq_or_imp,forall_eq,Nat.reduceEqDiff,↓reduceIte,Nat.reduceAdd,Nat.reduceLeDiff,Nat.reduceSub,Nat.reduceMul,Nat.reduceLT,Int.reduceBEq,Int.reduceBNe,Int.reduceToNat,Int.reduceLT,Int.reduceLE,Int.reduceAdd,Int.reduceSub,Int.reduceMul,reduceCtorEq]
  refine⟨rfl,rfl,?_⟩
  refine hK _ _ _ ?_
  clear hK K
  refine AWP.seq' ?_
  refine AWP.reg' λK hK=>?_
  try simp only[ak,ao,am,eq_self,implies_true,forall_eq_or_imp,forall_eq,Nat.reduceEqDiff,↓reduceIte,Nat.reduceAdd,Nat.reduceLeDiff,Nat.reduceSub,Nat.reduceMul,Nat.reduceLT,Int.reduceBEq,Int.reduceBNe,Int.reduceToNat,Int.reduceLT,Int.reduceLE,Int.reduceAdd,Int.reduceSub,Int.reduceMul,reduceCtorEq,Tpl.v,Chg.v]
  refine da hred (pT t c).fn rfl rfl ⟨⟨trivial,trivial,trivial⟩,⟨trivial,trivial,trivial,trivial,trivial⟩,trivial⟩ ?_
  try simp only[ak,ao,am,eq_self,implies_true,forall_eq_or_imp,forall_eq,Nat.reduceEqDiff,↓reduceIte,Nat.reduceAdd,Nat.reduceLeDiff,Nat.reduceSub,Nat.reduceMul,Nat.reduceLT,Int.reduceBEq,Int.reduceBNe,Int.reduceToNat,Int.reduceLT,Int.reduceLE,Int.reduceAdd,Int.reduceSub,Int.reduceMul,reduceCtorEq,Tpl.v]
  refine hK _ _ _ ?_
  clear hK K
  refine AWP.seq' (AWP.seq' ?_)
  refine AWP.reg' λK hK=>?_
  try simp only[ak,ao,am,eq_self,implies_true,forall_eq_or_imp,forall_eq,Nat.reduceEqDiff,↓reduceIte,Nat.reduceAdd,Nat.reduceLeDiff,Nat.reduceSub,Nat.reduceMul,Nat.reduceLT,Int.reduceBEq,Int.reduceBNe,Int.reduceToNat,Int.reduceLT,Int.reduceLE,Int.reduceAdd,Int.reduceSub,Int.reduceMul,reduceCtorEq]
  refine hK _ _ _ ?_
  clear hK K
  by_cases he:er=0
  case neg =>
    refine AWP.cond (b := true) (by have : (er != 0) = true := by simpa using he
                                    rw[←this];rfl) (λ_=>?_) (λh=>by cases h)
    refine AWP.seq' ?_
    refine AWP.reg' λK hK=>?_
    try simp only[ak,ao,am,eq_self,implies_true,forall_eq_or_imp,forall_eq,Nat.reduceEqDiff,↓reduceIte,Nat.reduceAdd,Nat.reduceLeDiff,Nat.reduceSub,Nat.reduceMul,Nat.reduceLT,Int.reduceBEq,Int.reduceBNe,Int.reduceToNat,Int.reduceLT,Int.reduceLE,Int.reduceAdd,Int.reduceSub,Int.reduceMul,reduceCtorEq]
    refine hK _ _ _ ?_
    clear hK K
    rw[hR he]
    refine AWP.ret (gA (aA.subT 4 (y:=.sl 2 [] false) Sub.nil) (kH rfl rfl trivial))
  subst he
  obtain⟨b1,b2,b3⟩:=hb rfl
  refine AWP.cond (b:=false) rfl (λh=>by cases h) (λ_=>AWP.skip ?_)
  refine(show AWP _ _ _ _ _ _ from ?_)
  refine AWP.seq' ?_
  refine AWP.reg' λK hK=>?_
  try simp only[ak,ao,am,eq_self,implies_true,forall_eq_or_imp,forall_eq,Nat.reduceEqDiff,↓reduceIte,Nat.reduceAdd,Nat.reduceLeDiff,Nat.reduceSub,Nat.reduceMul,Nat.reduceLT,Int.reduceBEq,Int.reduceBNe,Int.reduceToNat,Int.reduceLT,Int.reduceLE,Int.reduceAdd,Int.reduceSub,Int.reduceMul,reduceCtorEq,Tpl.v]
  refine iM rfl (by rfl) (Dz (Hw g ds b2) ⟨_,Tryz.func49,by kernel_rfl,by kernel_rfl⟩ ⟨⟨trivial,trivial,trivial⟩,trivial,trivial⟩) ?_
  rw[l7]
  try simp only[ak,ao,am,eq_self,implies_true,forall_eq_or_imp,forall_eq,Nat.reduceEqDiff,↓reduceIte,Nat.reduceAdd,Nat.reduceLeDiff,Nat.reduceSub,Nat.reduceMul,Nat.reduceLT,Int.reduceBEq,Int.reduceBNe,Int.reduceToNat,Int.reduceLT,Int.reduceLE,Int.reduceAdd,Int.reduceSub,Int.reduceMul,reduceCtorEq]
  refine hK _ _ _ ?_
  clear hK K
  refine AWP.seq' (AWP.seq' ?_)
  refine AWP.reg' λK hK=>?_
  try simp only[ak,ao,am,eq_self,implies_true,forall_eq_or_imp,forall_eq,Nat.reduceEqDiff,↓reduceIte,Nat.reduceAdd,Nat.reduceLeDiff,Nat.reduceSub,Nat.reduceMul,Nat.reduceLT,Int.reduceBEq,Int.reduceBNe,Int.reduceToNat,Int.reduceLT,Int.reduceLE,Int.reduceAdd,Int.reduceSub,Int.reduceMul,reduceCtorEq]
  refine hK _ _ _ ?_
  clear hK K
  have fin:∀(A:Rws) (tm':Nat→AV) (hp':Hp) (nx' b:Nat),nx'≤1000→pj t A R→tm' 2=.ref 0 0→tm' 10=.ref 352 0→hp' 0=some (.box (Tpl.v t))→hp' 352=some (.box (.mref b))→hp' b=some (ip A) →
      AWP Tryz.prog 0 55 NO (Am.fin 0 55 [.tmp 4,.tmp 5] (.tup [.sl 2 (R.map Rnk.v) false,.int 0]) []) ⟨tm',hp',nx'⟩:=by
    rintro A tm' hp' nx' b hn ⟨D,N,m1,m2,m3,rfl⟩ t2 t10 k0 k10 kb
    refine AWP.weak ((aA.giveBox 352 b k10 kb (dR _)).trans (aA.up hn)) ?_
    refine Jf t A D N m1 m2 m3 b1 _ _ t2 ?_ t10 ?_
    · have e1:(0:Nat)≠b:=λe=>by subst e;rw[k0]at kb;cases kb
      simp only[ah,if_neg e1];exact k0
    · simp only[ah,↓reduceIte]
  by_cases hk:kd=1
  · refine AWP.cond (b:=true) (by subst hk;rfl) (λ_=>?_) (λh=>by cases h)
    refine AWP.regE (os1:=[_]) (os2:=[_]) ?_
    try simp only[ak,ao,am,eq_self,implies_true,forall_eq_or_imp,forall_eq,Nat.reduceEqDiff,↓reduceIte,Nat.reduceAdd,Nat.reduceLeDiff,Nat.reduceSub,Nat.reduceMul,Nat.reduceLT,Int.reduceBEq,Int.reduceBNe,Int.reduceToNat,Int.reduceLT,Int.reduceLE,Int.reduceAdd,Int.reduceSub,Int.reduceMul,reduceCtorEq]
    refine⟨_,[],[336],_,rfl,sm b3 rfl,?_⟩
    rintro v e ⟨is,hi,rfl,rfl⟩
    rw[cI,l7]
    try simp only[ak,ao,am,eq_self,implies_true,forall_eq_or_imp,forall_eq,Nat.reduceEqDiff,↓reduceIte,Nat.reduceAdd,Nat.reduceLeDiff,Nat.reduceSub,Nat.reduceMul,Nat.reduceLT,Int.reduceBEq,Int.reduceBNe,Int.reduceToNat,Int.reduceLT,Int.reduceLE,Int.reduceAdd,Int.reduceSub,Int.reduceMul,reduceCtorEq]
    refine(show AWP _ _ _ _ _ _ from ?_)
    exact fin (ge (eZ g ds) is) _ _ _ 432 (by omega) (h1 rfl hk is hi) rfl rfl rfl rfl rfl
  · refine AWP.cond (b := false) (by have : (kd == 1) = false := by simpa using hk
                                     rw[←this];rfl) (λh=>by cases h) (λ_=>AWP.skip ?_)
    exact fin _ _ _ _ 336 (by omega) (h2 rfl hk) rfl rfl rfl rfl rfl
theorem fT{t:Tpl}(hc:aD t=0){g u n:Int}{k:Nat}(hg:aG t g=true)(p:Pth t g k u n):∃m,m≤n∧aM t u g=(m,true):=by
 have hk:g∈av (inG t):=by unfold inG;rw[bu,bC];exact hg
 have hF:=eu (lT hc) hk
 obtain⟨m,hm,hx⟩:=hF.low ((kE hc).mpr ⟨k,p⟩)
 refine⟨m,hm,?_⟩
 rw[rU hc,if_pos (bY.mpr ⟨m,hx⟩),dD hF.nd hx]
theorem aX{t:Tpl}{u g m:Int}(e:aM t u g=(m,true)):(∃k,Pth t g k u m)∧(∀k n,Pth t g k u n→m≤n)∧0≤m∧m≤24000:=by
 have e2:(aM t u g).2=true:=by rw[e]
 obtain⟨hc,hu,hg⟩:=dU e2
 rw[rU hc]at e
 by_cases h:aY (cJ (inG t) g) u=true
 ·rw[if_pos h]at e
  have hm:=bI (z:=0) h
  have e3:aB (cJ (inG t) g) u 0=m:=(Prod.mk.inj e).1
  rw[e3]at hm
  obtain⟨h1,h2⟩:=(nE hc hg).mp hm
  obtain⟨h3,h4⟩:=B9 hc hg hm
  exact⟨h1,h2,h3,h4⟩
 ·rw[if_neg h]at e;cases e
theorem Jv{t:Tpl}{v w:Int}{j:Nat}{n:Int}(q:Pth t w j v n):∀{k:Nat} {u m:Int},Pth t v k u m→Pth t w (j+k) u (n+m):=by
 intro k u m p
 induction p with
 | nil=>simpa using q
 | cons e p ih =>
  have:=Pth.cons e ih
  rwa [Int.add_assoc]at this
theorem gY{t:Tpl}{u v w a b:Int}(h1:aM t u v=(a,true))(h2:aM t v w=(b,true)):∃m,m≤a+b∧aM t u w=(m,true):=by
 obtain⟨⟨k,p⟩,_⟩:=aX h1
 obtain⟨⟨j,q⟩,_⟩:=aX h2
 obtain⟨hc,_,hw⟩:=dU (t:=t) (x:=v) (y:=w) (by rw[h2])
 obtain⟨m,hm,e⟩:=fT hc hw (Jv q p)
 exact⟨m,by omega,e⟩
theorem iO{t:Tpl}(hc:aD t=0){u v c:Int}(e:cz t u v c):∃m,m≤c∧aM t u v=(m,true):=by
 obtain⟨m,hm,q⟩:=fT hc (e.has hc).2 (Pth.cons e .nil)
 exact⟨m,by omega,q⟩
theorem kM{t:Tpl}{x:Int}(h:(aM t x x).2=true):(aM t x x).1=0:=by
 have e:aM t x x=((aM t x x).1,true):=Prod.ext rfl h
 obtain⟨⟨k,p⟩,h2,h3,_⟩:=aX e
 have:=h2 0 0 .nil
 omega
theorem bj{t:Tpl}{x y:Int}(h:(aM t x y).2=true):aM t x y=((aM t x y).1,true):=Prod.ext rfl h
structure BhH (g:Tpl) (h:Hop) (x y:Int):Prop where
  ne:x≠h.a
  xa:(aM g x h.a).2=true
  ya:(aM g y h.a).2=true
  xb:(aM g x h.b).2=true
  yb:(aM g y h.b).2=true
  dec:(aM g y h.a).1<(aM g x h.a).1
  lx:(aM g x h.a).1<(aM g x h.b).1
  ly:(aM g y h.a).1<(aM g y h.b).1
theorem gL{t:Tpl}{x d:Int}{h:Hop}{c:Int}(hc:1≤c∧c≤1000):jn (cV t) x d h c=true↔(aM t x h.a).2=true∧(aM t h.b d).2=true∧(aM t x d).2=true∧(aM t x h.a).1+c+(aM t h.b d).1=(aM t x d).1:=by
 unfold jn
 obtain⟨ha,hb⟩:=h
 simp only[rJ,KH,Bool.and_eq_true,beq_iff_eq]
 constructor
 ·rintro⟨h1,h2,h3⟩
  obtain⟨_,_,p1,p2⟩:=aX (bj h1)
  obtain⟨_,_,q1,q2⟩:=aX (bj h2)
  rw[dm (n:=(aM t x ha).1+c) (by omega),dm (by omega)]at h3
  refine⟨h1,h2,?_,h3⟩
  cases e:(aM t x d).2 with
  | true=>rfl
  | false=>have:=BO e;omega
 ·rintro⟨h1,h2,h3,h4⟩
  obtain⟨_,_,p1,p2⟩:=aX (bj h1)
  obtain⟨_,_,q1,q2⟩:=aX (bj h2)
  refine⟨h1,h2,?_⟩
  rw[dm (n:=(aM t x ha).1+c) (by omega),dm (by omega),h4]
theorem QH{t:Tpl}{h:Hop}{c d x y w:Int}{M:Rws}(hc:aD t=0)(he:cz t h.a h.b c)(hw:1≤w∧w≤1000)(hq:beQ t h c d x y w M=true):BhH t h x y:=by
 have hcc:=he.cost hc
 unfold beQ at hq
 simp only[Bool.and_eq_true,bne_iff_ne,ne_eq]at hq
 obtain⟨q1,q2,q3,q4,_⟩:=hq
 rw[gL hw]at q2
 rw[gL hcc]at q3 q4
 obtain⟨a1,a2,a3,a4⟩:=q2
 obtain⟨b1,b2,b3,b4⟩:=q3
 obtain⟨c1,c2,c3,c4⟩:=q4
 simp only at a1 a2 a4
 have a0:=kM a1
 have key:∀z,(aM t z h.a).2=true→(aM t z d).2=true→(aM t z h.a).1+c+(aM t h.b d).1=(aM t z d).1→(aM t z h.b).2=true∧(aM t z h.a).1<(aM t z h.b).1:=λz g1 g2 g3=>by
  obtain⟨m,hm,e⟩:=iO hc he
  obtain⟨n,hn,e'⟩:=gY (bj g1) e
  have e2:(aM t z h.b).2=true:=by rw[e']
  obtain⟨k,hk,e3⟩:=gY (bj e2) (bj b2)
  have:(aM t z d).1=k:=by rw[e3]
  exact⟨e2,by omega⟩
 obtain⟨x1,x2⟩:=key x b1 b3 b4
 obtain⟨y1,y2⟩:=key y c1 c3 c4
 exact⟨q1,b1,c1,x1,y1,by omega,x2,y2⟩
theorem Aj{M:Rws}(hn:(av M).Nodup)(k v:Int):(av (pu M k v)).Nodup:=dy hn
theorem wn{M:Rws}(hn:(av M).Nodup)(k v x:Int):aB (pu M k v) x []=if x=k then aB M k []++[v]else aB M x []:=by
 have hn':=Aj hn k v
 by_cases e:x=k
 ·subst e
  rw[if_pos rfl]
  exact dD hn' ((bP hn).mpr (.inl rfl))
 ·rw[if_neg e]
  cases h:aY M x with
  | true=>exact dD hn' ((bP hn).mpr (.inr ⟨bI h,e⟩))
  | false =>
   rw[bV h]
   refine bV ?_
   unfold pu
   rw[tG hn,h,decide_eq_false e];rfl
structure BeI (t:Tpl) (ds:List Hop) (M:Rws):Prop where
  nd:(av M).Nodup
  bh:∀x y,y∈aB M x []→∃h∈ds,BhH t h x y
  ri:gb t M
theorem BeI.pu{t:Tpl}{ds:List Hop}{M:Rws}(h:BeI t ds M){h0:Hop}{x y:Int}(hd:h0∈ds)(hb:BhH t h0 x y)(hx:aG t x=true)(hy:aG t y=true)(hn:y ∉ aB M x []):BeI t ds (pu M x y):=by
 refine⟨Aj h.nd x y,λu v hv=>?_,h.ri.pu hx hy hn⟩
 rw[wn h.nd]at hv
 by_cases e:u=x
 ·subst e
  rw[if_pos rfl]at hv
  rcases List.mem_append.mp hv with hv|hv
  ·exact h.bh _ _ hv
  ·rw[List.mem_singleton.mp hv];exact⟨h0,hd,hb⟩
 ·rw[if_neg e]at hv;exact h.bh _ _ hv
theorem BeI.step{t:Tpl}(hc:aD t=0){ds:List Hop}{M:Rws}(h:BeI t ds M){h0:Hop}{c d:Int}(hd:h0∈ds)(he:cz t h0.a h0.b c){s:Int×Int×Int}(hx:aG t s.1=true)(hy:aG t s.2.1=true)(hw:1≤s.2.2∧s.2.2≤1000):BeI t ds (beI t h0 c d M s):=by
 unfold Go.Proofs.YtdoacjojljgdcaaGreat.beI
 split
 ·rename_i e
  have e':=e
  unfold beQ at e'
  simp only[Bool.and_eq_true,Bool.not_eq_true',decide_eq_false_iff_not]at e'
  exact h.pu hd (QH hc he hw e) hx hy e'.2.2.2.2
 ·exact h
theorem fB{α β:Type}(I:β→Prop)(f:β→α→β):∀(l:List α) (b:β),I b→(∀b x,x∈l→I b→I (f b x))→I (l.foldl f b)
 | [],b,h,_=>h
 | x::l,b,h,hf=>fB I f l (f b x) (hf b x (by simp) h) λb y hy hb=>hf b y (by simp[hy]) hb
theorem OF{t:Tpl}(hc:aD t=0){l:Lnk}(hl:l∈t.ls):∀z∈lst l,aG t z.1=true∧aG t z.2.1=true∧1≤z.2.2∧z.2.2≤1000:=λz hz=>by
 have hO:=aC hc
 obtain⟨ha,hb⟩:=hO.has l hl
 obtain⟨c1,c2,_⟩:=hO.lr l hl
 unfold dT at c1 c2
 simp only[Bool.and_eq_true,decide_eq_true_iff]at c1 c2
 unfold lst at hz
 simp only[List.mem_cons,List.not_mem_nil,or_false]at hz
 rcases hz with rfl|rfl
 ·exact⟨ha,hb,c1⟩
 ·exact⟨hb,ha,c2⟩
theorem mB(t:Tpl)(ds:List Hop):BeI t ds (eZ t ds):=by
 unfold eZ
 refine fB (BeI t ds) (be4 t) ds [] ⟨List.nodup_nil,λx y h=>by rw[bV (by unfold aY av;simp)]at h;simp at h,⟨λp hp=>by simp at hp,λp hp=>by simp at hp,λp hp=>by simp at hp⟩⟩ λM h hh hM=>?_
 unfold be4
 split
 ·rename_i e
  have hc:=og e
  have he:cz t h.a h.b (bz t h.a h.b).1:=by
   rw[cm hc]
   have:bz t h.a h.b=be t h.a h.b:=by unfold bz;rw[if_neg (by simp[hc])]
   rw[←this];exact Prod.ext rfl e
  refine fB (BeI t ds) _ t.rs M hM λM d _ hM=>?_
  unfold be3
  refine fB (BeI t ds) _ t.ls M hM λM l hl hM=>?_
  unfold be2
  refine fB (BeI t ds) _ (lst l) M hM λM z hz hM=>?_
  obtain⟨a1,a2,a3⟩:=OF hc hl z hz
  exact hM.step hc hh he a1 a2 a3
 ·exact hM
theorem LU{t:Tpl}{ds:List Hop}(hc:¬aD t=0):eZ t ds=[]:=by
 unfold eZ
 refine fB (λM=>M=[]) (be4 t) ds [] rfl λM h _ hM=>?_
 unfold be4
 rw[if_neg (λe=>hc (og e))];exact hM
theorem kS(t:Tpl)(ds:List Hop):vn (eZ t ds):=by
 by_cases hc:aD t=0
 ·have h:=mB t ds
  have hk:∀x,aG t x=true→Am.inK .i64 x:=λx hx=>by
   obtain⟨r,hr,rfl⟩:=bZ.mp hx
   have:=(aC hc).rg r hr
   rw[FP];omega
  refine⟨?_,λp hp=>hk _ (h.ri.ky p hp),λp hp=>by have:=h.ri.len hc p hp;omega,λp hp y hy=>hk _ (h.ri.el p hp y hy)⟩
  have:=List.Nodup.length_le_of_subset h.nd (show av (eZ t ds) ⊆ t.rs.map (·.id)from λx hx=>by
   obtain⟨v,hv⟩:=aV.mp hx
   exact ug.mp (h.ri.ky _ hv))
  rw[List.length_map,cR]at this
  have:=(cd hc).1;omega
 ·rw[LU hc];exact⟨by simp,λp hp=>by simp at hp,λp hp=>by simp at hp,λp hp=>by simp at hp⟩
def dsN(t:Tpl)(x a:Int):Nat:=if(aM t x a).2=true then(aM t x a).1.toNat else 100000
def msr(t:Tpl)(c:Chg)(x:Int):Nat:=min (dsN t x c.a) (dsN t x c.b)
theorem PE(t:Tpl)(x a:Int):dsN t x a≤100000:=by
 unfold dsN
 split
 ·rename_i h;have:=(aX (bj h)).2.2;omega
 ·omega
theorem Fu(t:Tpl)(c:Chg)(x:Int):msr t c x≤100000:=by
 unfold msr;have:=PE t x c.a;omega
theorem AM{t:Tpl}{c:Chg}{h:Hop}(hh:h∈eW c){x y:Int}(hb:BhH t h x y):msr t c y<msr t c x:=by
 obtain⟨_,xa,ya,xb,yb,d,lx,ly⟩:=hb
 have p1:=(aX (bj xa)).2.2
 have p2:=(aX (bj ya)).2.2
 have p3:=(aX (bj xb)).2.2
 have p4:=(aX (bj yb)).2.2
 have e1:dsN t x h.a=(aM t x h.a).1.toNat:=if_pos xa
 have e2:dsN t y h.a=(aM t y h.a).1.toNat:=if_pos ya
 have e3:dsN t x h.b=(aM t x h.b).1.toNat:=if_pos xb
 have e4:dsN t y h.b=(aM t y h.b).1.toNat:=if_pos yb
 unfold eW at hh
 simp only[List.mem_cons,List.not_mem_nil,or_false]at hh
 unfold msr
 rcases hh with rfl|rfl
 ·simp only at e1 e2 e3 e4 d lx ly p1 p2 p3 p4;omega
 ·simp only at e1 e2 e3 e4 d lx ly p1 p2 p3 p4;omega
def mxL(g:Int→Int)(l:List Int)(n:Int):Int:=l.foldl (λn x=>dP n (g x)) n
theorem JX(a b:Int):a≤dP a b∧b≤dP a b∧(dP a b=a∨dP a b=b):=by
 unfold dP;split<;>omega
theorem lq(g:Int→Int):∀(l:List Int) (n:Int),n≤mxL g l n∧(∀x∈l,g x≤mxL g l n)∧(mxL g l n=n∨∃x∈l,mxL g l n=g x)
 | [],n=>⟨Int.le_refl _,λx hx=>by simp at hx,.inl rfl⟩
 | x::l,n=>by
  obtain⟨h1,h2,h3⟩:=lq g l (dP n (g x))
  obtain⟨m1,m2,m3⟩:=JX n (g x)
  have e:mxL g (x::l) n=mxL g l (dP n (g x)):=rfl
  rw[e]
  refine⟨by omega,λy hy=>?_,?_⟩
  ·rcases List.mem_cons.mp hy with rfl|hy
   ·omega
   ·exact h2 y hy
  ·rcases h3 with h3|⟨y,hy,h3⟩
   ·rcases m3 with m3|m3
    ·exact .inl (by omega)
    ·exact .inr ⟨x,by simp,by omega⟩
   ·exact .inr ⟨y,by simp[hy],h3⟩
theorem qE{g g':Int→Int}{l l':List Int}(n:Int)(hm:∀x,x∈l↔x∈l')(hg:∀x∈l,g x=g' x):mxL g l n=mxL g' l' n:=by
 obtain⟨a1,a2,a3⟩:=lq g l n
 obtain⟨b1,b2,b3⟩:=lq g' l' n
 refine Int.le_antisymm ?_ ?_
 ·rcases a3 with a3|⟨x,hx,a3⟩
  ·omega
  ·have:=b2 x ((hm x).mp hx);rw[←hg x hx]at this;omega
 ·rcases b3 with b3|⟨x,hx,b3⟩
  ·omega
  ·have h':=(hm x).mpr hx
   have:=a2 x h';rw[hg x h']at this;omega
def rkP(A:Rws):Nat→Int→Int
 | 0,_=>0
 | f+1,r=>mxL (λx=>W (1+rkP A f x)) (aB A r []) 0
theorem mM{A:Rws}{D:Int→Nat}(hD:∀r x,x∈aB A r []→D x<D r):∀(f g:Nat) (r:Int),D r<f→D r<g→rkP A f r=rkP A g r
 | 0,_,r,h,_=>absurd h (by omega)
 | _,0,r,_,h=>absurd h (by omega)
 | f+1,g+1,r,h1,h2=>by
  unfold rkP
  exact qE 0 (λ_=>Iff.rfl) λx hx=>by have:=hD r x hx;rw[mM hD f g x (by omega) (by omega)]
theorem Ac{A A':Rws}(h:∀r x,x∈aB A r []↔x∈aB A' r []):∀(f:Nat) (r:Int),rkP A f r=rkP A' f r
 | 0,_=>rfl
 | f+1,r=>by
  unfold rkP
  exact qE 0 (h r) λx _=>by rw[Ac h f x]
structure HX (A:Rws) (N:Nat) (kn:Dis):Prop where
  nd:(av kn).Nodup
  val:∀p∈kn,p.2=rkP A N p.1
theorem Et{A:Rws}{D:Int→Nat}(hD:∀r x,x∈aB A r []→D x<D r)(N:Nat)(hN:∀r,D r<N):∀(f:Nat) (r:Int) (kn:Dis),D r<f→HX A N kn→(rkF A f r kn).1=rkP A N r∧HX A N (rkF A f r kn).2
 | 0,r,kn,h,_=>absurd h (by omega)
 | f+1,r,kn,h,hk=>by
  have ih:=Et hD N hN f
  unfold rkF
  split
  ·rename_i e
   exact⟨hk.val _ (bI e),hk⟩
  ·have key:∀(l:List Int) (n:Int) (kn:Dis),(∀x∈l,x∈aB A r [])→HX A N kn→(l.foldl (rkS (rkF A f)) (n,kn)).1=mxL (λx=>W (1+rkP A N x)) l n∧HX A N (l.foldl (rkS (rkF A f)) (n,kn)).2:=λl=>by
    induction l with
    | nil=>intro n kn _ hk;exact⟨rfl,hk⟩
    | cons x l ihl =>
     intro n kn hl hk
     have hx:=hD r x (hl x (by simp))
     obtain⟨g1,g2⟩:=ih x kn (by omega) hk
     have e:rkS (rkF A f) (n,kn) x=(dP n (W (1+rkP A N x)),(rkF A f x kn).2):=by unfold rkS;simp only;rw[g1]
     rw[List.foldl_cons,e]
     exact ihl _ _ (λy hy=>hl y (by simp[hy])) g2
   obtain⟨k1,k2⟩:=key (aB A r []) 0 kn (λx hx=>hx) hk
   have e2:rkP A N r=mxL (λx=>W (1+rkP A N x)) (aB A r []) 0:=by
    have hr:=hN r
    match N,hr with
    | N+1,hr =>
     rw[rkP]
     exact qE 0 (λ_=>Iff.rfl) λx hx=>by have:=hD r x hx;rw[mM hD N (N+1) x (by omega) (by omega)]
   refine⟨by rw[e2];exact k1,dy k2.nd,λp hp=>?_⟩
   rcases(bP k2.nd).mp hp with rfl|⟨hp,_⟩
   ·simp only;rw[e2];exact k1
   ·exact k2.val p hp
theorem Es{A:Rws}{D:Int→Nat}(hD:∀r x,x∈aB A r []→D x<D r)(N:Nat)(hN:∀r,D r<N):∀(l:List Rtr) (s:List Rnk×Dis),HX A N s.2→(l.foldl (rkO A N) s).1=s.1++l.map λr=>⟨r.id,rkP A N r.id⟩
 | [],s,_=>by simp
 | r::l,s,h=>by
  obtain⟨g1,g2⟩:=Et hD N hN N r.id s.2 (hN _) h
  rw[List.foldl_cons,Es hD N hN l (rkO A N s r) g2]
  unfold rkO
  simp only[List.map_cons,List.append_assoc,List.cons_append,List.nil_append,g1]
theorem Ft{t:Tpl}{A:Rws}{D:Int→Nat}{N:Nat}(hA:∀p∈A,p.2.length≤1000000)(hD:∀r x,x∈aB A r []→D x<D r)(hN:∀r,D r<N):pj t A (t.rs.map λr=>⟨r.id,rkP A N r.id⟩):=
 ⟨D,N,hA,hD,hN,by rw[Es hD N hN t.rs ([],[]) ⟨List.nodup_nil,λp hp=>by simp at hp⟩];rfl⟩
theorem zD(x:Int):∀(l:List Int) (M:Rws) (m:Nat),(av M).Nodup→(∀p∈M,p.2.length≤m)→(av (jm x M l)).Nodup∧(∀p∈jm x M l,p.2.length≤m+l.length)∧∀y z,z∈aB (jm x M l) y []↔z∈aB M y []∨z=x∧y∈l
 | [],M,m,hn,hm=>⟨hn,λp hp=>by have:=hm p hp;simpa using this,λy z=>by simp[jm]⟩
 | v::l,M,m,hn,hm=>by
  obtain⟨g1,g2,g3⟩:=zD x l (pu M v x) (m+1) (Aj hn v x) (wo hm v x)
  have e:jm x M (v::l)=jm x (pu M v x) l:=rfl
  rw[e]
  refine⟨g1,λp hp=>by have:=g2 p hp;rw[List.length_cons];omega,λy z=>?_⟩
  rw[g3,wn hn]
  by_cases e:y=v
  ·subst e;rw[if_pos rfl];simp[or_assoc];constructor
   ·rintro(h|h|h)
    ·exact .inl h
    ·exact .inr h
    ·exact .inr h.1
   ·rintro(h|h)
    ·exact .inl h
    ·exact .inr (.inl h)
  ·rw[if_neg e];simp[e]
theorem zC{L:Rws}(hr:∀p∈L,p.2.length≤100):∀(is:List Nat) (M:Rws) (m:Nat),(av M).Nodup→(∀p∈M,p.2.length≤m)→(∀i∈is,i<L.length) →
  (av (is.foldl (λM i=>jm (L.getD i (0,[])).1 M (L.getD i (0,[])).2) M)).Nodup∧(∀p∈is.foldl (λM i=>jm (L.getD i (0,[])).1 M (L.getD i (0,[])).2) M,p.2.length≤m+100 * is.length) ∧
  ∀y z,z∈aB (is.foldl (λM i=>jm (L.getD i (0,[])).1 M (L.getD i (0,[])).2) M) y []↔z∈aB M y []∨∃i∈is,∃l,L[i]?=some (z,l)∧y∈l
 | [],M,m,hn,hm,_=>⟨hn,λp hp=>by have:=hm p hp;simpa using this,λy z=>by simp⟩
 | i::is,M,m,hn,hm,hi=>by
  have hil:=hi i (by simp)
  have hg:L[i]?=some L[i]:=List.getElem?_eq_getElem hil
  have hgd:L.getD i (0,[])=L[i]:=by rw[List.getD_eq_getElem?_getD,hg];rfl
  have hlen:=hr _ (List.mem_of_getElem? hg)
  obtain⟨g1,g2,g3⟩:=zD (L.getD i (0,[])).1 (L.getD i (0,[])).2 M m hn hm
  obtain⟨k1,k2,k3⟩:=zC hr is _ _ g1 g2 (λj hj=>hi j (by simp[hj]))
  rw[List.foldl_cons]
  refine⟨k1,λp hp=>by have:=k2 p hp;rw[hgd]at this;rw[List.length_cons];omega,λy z=>?_⟩
  rw[k3,g3,hgd]
  constructor
  ·rintro((h|⟨rfl,h⟩)|⟨j,hj,l,h1,h2⟩)
   ·exact .inl h
   ·exact .inr ⟨i,by simp,L[i].2,by rw[hg],h⟩
   ·exact .inr ⟨j,by simp[hj],l,h1,h2⟩
  ·rintro(h|⟨j,hj,l,h1,h2⟩)
   ·exact .inl (.inl h)
   ·rcases List.mem_cons.mp hj with rfl|hj
    ·rw[hg]at h1
     have e:=Option.some.inj h1
     rw[e]
     exact .inl (.inr ⟨rfl,h2⟩)
    ·exact .inr ⟨j,hj,l,h1,h2⟩
theorem jU{L:Rws}(hL:vn L)(hn:(av L).Nodup){is:List Nat}(hi:TOk L is):(∀p∈ge L is,p.2.length≤1000000)∧∀y z,z∈aB (ge L is) y []↔y∈aB L z []:=by
 obtain⟨i1,i2,i3⟩:=hi
 obtain⟨_,k2,k3⟩:=zC hL.row is [] 0 List.nodup_nil (λp hp=>by simp at hp) i2
 have hl:=List.Nodup.length_le_of_subset i1 (show is ⊆ List.range L.length from λa ha=>List.mem_range.mpr (i2 a ha))
 rw[List.length_range]at hl
 have:=hL.len
 refine⟨λp hp=>by have:=k2 p hp;omega,λy z=>(k3 y z).trans ?_⟩
 constructor
 ·rintro(h|⟨i,hi,l,h1,h2⟩)
  ·rw[bV (by unfold aY av;simp)]at h;simp at h
  ·rw[dD hn (List.mem_of_getElem? h1)];exact h2
 ·intro h
  refine .inr ?_
  cases e:aY L z with
  | false=>rw[bV e]at h;simp at h
  | true =>
   obtain⟨i,hi⟩:=List.mem_iff_getElem?.mp (bI (z:=[]) e)
   exact⟨i,i3 i (ap hi),_,hi,h⟩
theorem fv{t:Tpl}{c:Chg}(h:(aI t c).2.2.2=0):aD t=0∧(bg t c).2=0∧(∀x∈(aI t c).2.2.1,x∈eW c)∧(aI t c).2.2.1.length≤2∧((aI t c).2.1=t∨(aI t c).2.1=(bg t c).1):=by
 have e:(bg t c).2=0:=by
  refine Classical.byContradiction λq=>?_
  unfold aI at h
  rw[if_pos q]at h;exact q h
 have hc:aD t=0:=by
  refine Classical.byContradiction λq=>?_
  unfold bg at e
  rw[if_pos q]at e;cases e
 have hl:((eW c).filter (chH t (bg t c).1)).length≤2:=List.length_filter_le _ _
 refine⟨hc,e,?_⟩
 unfold aI at h ⊢
 rw[if_neg (by simp[e])]at h ⊢
 split
 ·rename_i q;rw[if_pos q]at h;cases h
 ·split
  ·exact⟨λx hx=>(List.mem_filter.mp hx).1,hl,.inr rfl⟩
  ·exact⟨λx hx=>(List.mem_filter.mp hx).1,hl,.inl rfl⟩
def fW(t:Tpl)(c:Chg):Rws:=if(aI t c).1=1 then ge (eZ (aI t c).2.1 (aI t c).2.2.1) (List.range (eZ (aI t c).2.1 (aI t c).2.2.1).length)else eZ (aI t c).2.1 (aI t c).2.2.1
def cP(t:Tpl)(c:Chg):List Rnk:=if(aI t c).2.2.2=0 then t.rs.map λr=>⟨r.id,rkP (fW t c) 200000 r.id⟩else []
theorem lf(L:Rws):TOk L (List.range L.length):=⟨List.nodup_range,λi hi=>List.mem_range.mp hi,λi hi=>List.mem_range.mpr hi⟩
theorem sX{t:Tpl}{c:Chg}(h:(aI t c).2.2.2=0):(¬(aI t c).1=1→pj t (eZ (aI t c).2.1 (aI t c).2.2.1) (cP t c))∧((aI t c).1=1→∀is,TOk (eZ (aI t c).2.1 (aI t c).2.2.1) is→pj t (ge (eZ (aI t c).2.1 (aI t c).2.2.1) is) (cP t c)):=by
 obtain⟨hc,ha,hd,hl,hg⟩:=fv h
 unfold cP fW
 rw[if_pos h]
 generalize (aI t c).2.1=g at *
 generalize (aI t c).2.2.1=ds at *
 have hB:=mB g ds
 have hR:=kS g ds
 have hdec:∀r x,x∈aB (eZ g ds) r []→msr g c x<msr g c r:=λr x hx=>by
  obtain⟨h0,h1,h2⟩:=hB.bh r x hx
  exact AM (hd h0 h1) h2
 have hle:=Fu g c
 refine⟨λk=>?_,λk is hi=>?_⟩
 ·rw[if_neg k]
  exact Ft (D:=msr g c) (N:=200000) (λp hp=>by have:=hR.row p hp;omega) hdec (λr=>by have:=hle r;omega)
 ·rw[if_pos k]
  obtain⟨m1,m2⟩:=jU hR hB.nd hi
  obtain⟨_,n2⟩:=jU hR hB.nd (lf _)
  have e:(t.rs.map λr=>(⟨r.id,rkP (ge (eZ g ds) (List.range (eZ g ds).length)) 200000 r.id⟩:Rnk))=t.rs.map λr=>⟨r.id,rkP (ge (eZ g ds) is) 200000 r.id⟩:=by
   refine List.map_congr_left λr _=>?_
   rw[Ac (λy z=>(n2 y z).trans (m2 y z).symm)]
  rw[e]
  exact Ft (D:=λx=>150000-msr g c x) (N:=200000) m1 (λr x hx=>by
   have:=hdec x r ((m2 r x).mp hx)
   have:=hle x;have:=hle r;omega) (λr=>by omega)
theorem Ju(t:Tpl)(c:Chg):ax Tryz.prog 12 [Tpl.v t,Chg.v c] (.tup [.sl 2 ((cP t c).map Rnk.v) false,.int (aI t c).2.2.2]):=by
 refine aO.pure (Jt t c (cP t c) (λh=>?_) (λh=>(sX h).1) (λh=>(sX h).2) (λh=>by unfold cP;rw[if_neg h])) ⟨trivial,trivial,trivial⟩
 obtain⟨hc,ha,hd,hl,hg⟩:=fv h
 have:=(cd hc).1
 exact⟨by omega,by omega,kS _ _⟩
def Ah(t:Tpl)(c:Chg):PC Tryz.prog:=⟨12,[(.a [(.s 2),(.s 5)]),.k],[.agg [.sl 2 (t.rs.map Rtr.v) false,.sl 5 (t.ls.map Lnk.v) false],.agg [.int c.a,.int c.b,.int c.ca,.int c.cb]],.tup [.sl 2 ((cP t c).map Rnk.v) false,.int (aI t c).2.2.2],Ju t c,aq (by kernel_rfl)⟩
def vh(ch:List Int)(x y:Rnk):Bool:=decide (x.n<y.n) && (!(decide (x.r∈ch)) && decide (y.r∈ch))
def D5(l:List Rnk)(ch:List Int):Bool:=l.all λx=>l.all λy=>!(vh ch x y)
def HR(l:List Rnk)(changed:List Int):=okL [.sl 2 (l.map Rnk.v) false,.sl 1 (changed.map AV.int) false]
def M1(l:List Rnk)(changed:List Int)(t0:Int):NF:=⟨[(0,.k,.sl 2 (l.map Rnk.v) false),(1,.k,.sl 1 (changed.map AV.int) false),(9,.k,.sl 2 (l.map Rnk.v) false),(10,.k,.int ((l.map Rnk.v).length:Int)),(11,.k,.int t0)],[]⟩
def M0(l:List Rnk)(changed:List Int)(t0:Int)(x1:Rnk)(t1:Int):NF:=⟨[(0,.k,.sl 2 (l.map Rnk.v) false),(1,.k,.sl 1 (changed.map AV.int) false),(6,.k,.ref 0 0),(9,.k,.sl 2 (l.map Rnk.v) false),(10,.k,.int ((l.map Rnk.v).length:Int)),(11,.k,.int t0),(15,.k,.sl 2 (l.map Rnk.v) false),(16,.k,.int ((l.map Rnk.v).length:Int)),(17,.k,.int t1)],[.box (.agg [.int x1.r,.int x1.n])]⟩
def Mz(l:List Rnk)(changed:List Int)(t0:Int)(x1:Rnk)(t1:Int)(t2:Bool):NF:=⟨[(0,.k,.sl 2 (l.map Rnk.v) false),(1,.k,.sl 1 (changed.map AV.int) false),(6,.k,.ref 0 0),(9,.k,.sl 2 (l.map Rnk.v) false),(10,.k,.int ((l.map Rnk.v).length:Int)),(11,.k,.int t0),(15,.k,.sl 2 (l.map Rnk.v) false),(16,.k,.int ((l.map Rnk.v).length:Int)),(17,.k,.int t1),(38,.k,.bool t2)],[.box (.agg [.int x1.r,.int x1.n])]⟩
@[reducible] def HP:Nat→Type
 | 0=>Int
 | 1=>Int
 | 2=>Bool
 | _=>Unit
def zd(r:Bool):AV:=.bool r
def zc(l:List Rnk)(changed:List Int)(I0:Int→Prop)(m0:Int→Nat)(I1:Int→Rnk→Int→Prop)(m1:Int→Rnk→Int→Nat)(I2:Int→Rnk→Int→Rnk→Bool→Prop):Ax Tryz.prog HP (Bool):=
 (.loop 0 (M1 l changed) I0 m0 ((0):Int) [] λ(t0:Int) b0 =>
(.br 16 (decide (t0<((l.map Rnk.v).length:Int))) (.elI 16 Rnk.v l t0 λx1 =>
(.loop 1 (M0 l changed t0 x1) (I1 t0 x1) (m1 t0 x1) ((0):Int) [48] λ(t1:Int) b1 =>
(.br 17 (decide (t1<((l.map Rnk.v).length:Int))) (.elI 17 Rnk.v l t1 λx2 =>
(.join 2 (Mz l changed t0 x1 t1) (λ(t2:Bool)=>I2 t0 x1 t1 x2 t2) (λb2=>(.br 177 (decide (x1.n<x2.n)) (.callP (eP changed x1.r)
(.br 289 (!(decide (x1.r∈changed))) (.callP (eP changed x2.r)
(.bk 2 b2 ((decide (x2.r∈changed)):Bool) [0]))
(.bk 2 b2 ((false):Bool) [0])))
(.bk 2 b2 ((false):Bool) [0]))) λ(t2:Bool) =>
(.br 1 t2 (.ret (false))
(.bk 1 b1 ((W (t1+1)):Int) [0]))))
(.bk 0 b0 ((W (t0+1)):Int) []))))
(.ret (true))))
def Ct(l:List Rnk)(changed:List Int)(I0:Int→Prop)(m0:Int→Nat)(I1:Int→Rnk→Int→Prop)(m1:Int→Rnk→Int→Nat)(I2:Int→Rnk→Int→Rnk→Bool→Prop)(r0:Bool):=(zc l changed I0 m0 I1 m1 I2).vp zd r0
theorem QW(l:List Rnk)(ch:List Int)(h:l.length≤1000000)(ok:HR l ch):∃I0 m0 I1 m1 I2,Ct l ch I0 m0 I1 m1 I2 (D5 l ch):=by
 refine⟨λi=>bi l (λx=>(l.all λy=>!(vh ch x y))=true) i,λi=>l.length-i.toNat,λ_ x i=>bi l (λy=>vh ch x y=false) i,λ_ _ i=>l.length-i.toNat,λ_ x _ y b=>b=vh ch x y,?_⟩
 simp only[HR,okU,Blk.ok,aL,List.length_map]at ok
 dsimp only[Ct,zc,HP,Ax.vp,Ax.vc];simp only[vcU,rfU,List.length_map]
 refine⟨bi.zero,λi hi=>⟨λc=>⟨hi.idx,c,λx hx=>⟨bi.zero,λj hj=>⟨λd=>⟨hj.idx,d,λy hy=>⟨⟨λe=>⟨λe2=>?_,λe2=>?_⟩,λe=>?_⟩,?_⟩⟩,λd=>?_⟩⟩⟩,λc=>?_⟩⟩
 ·unfold vh;rw[decide_eq_true e,e2];rfl
 ·unfold vh;rw[e2];simp
 ·unfold vh;rw[decide_eq_false e];rfl
 ·rintro _ rfl
  refine⟨λe=>?_,λe=>hj.step (by omega) hy e⟩
  refine(Bool.eq_false_iff.mpr λq=>?_).symm
  unfold D5 at q
  have:=List.all_eq_true.mp (List.all_eq_true.mp q x (cB hx)) y (cB hy)
  rw[e]at this;cases this
 ·exact hi.step (by omega) hx (List.all_eq_true.mpr λy hy=>by rw[hj.done d y hy];rfl)
 ·exact(List.all_eq_true.mpr λx hx=>hi.done c x hx).symm
def HQ(l:List Rnk)(changed:List Int)(h:l.length≤1000000):PC Tryz.prog:=⟨55,[(.s 2),(.s 1)],[.sl 2 (l.map Rnk.v) false,.sl 1 (changed.map AV.int) false],zd (D5 l changed),ax.of_ok λok=>(QW l changed h ok).elim λI0 h=>h.elim λm0 h=>h.elim λI1 h=>h.elim λm1 h=>h.elim λI2 h=>aw (sh:=.k) (enc:=zd) (a:=(zc l changed I0 m0 I1 m1 I2).an) h (by kernel_rfl) (AV.pureB_ok rfl),aq (by kernel_rfl)⟩
def T18:Tpl:=⟨[⟨1,true⟩,⟨2,true⟩,⟨3,true⟩,⟨4,true⟩],[⟨1,2,1,1,0⟩,⟨1,3,1,1,0⟩,⟨1,4,1,1,0⟩,⟨2,3,1,1,0⟩]⟩
theorem C3:(aI T18 ⟨1,2,0,0⟩).1=1∧(aI T18 ⟨1,2,0,0⟩).2.2.2=0:=⟨by kernel_rfl,by kernel_rfl⟩
theorem MB:cP T18 ⟨1,2,0,0⟩=[⟨1,1⟩,⟨2,0⟩,⟨3,0⟩,⟨4,0⟩]:=by kernel_rfl
def Mc:Prop:=okL []
def s6(r:Bool):AV:=.bool r
def sy:Ax Tryz.prog noS (Bool):=
 (.callP (Ah (⟨[(⟨1,true⟩:Rtr),(⟨2,true⟩:Rtr),(⟨3,true⟩:Rtr),(⟨4,true⟩:Rtr)],[(⟨1,2,1,1,0⟩:Lnk),(⟨1,3,1,1,0⟩:Lnk),(⟨1,4,1,1,0⟩:Lnk),(⟨2,3,1,1,0⟩:Lnk)]⟩:Tpl) (⟨1,2,0,0⟩:Chg))
(.callP (OP (⟨[(⟨1,true⟩:Rtr),(⟨2,true⟩:Rtr),(⟨3,true⟩:Rtr),(⟨4,true⟩:Rtr)],[(⟨1,2,1,1,0⟩:Lnk),(⟨1,3,1,1,0⟩:Lnk),(⟨1,4,1,1,0⟩:Lnk),(⟨2,3,1,1,0⟩:Lnk)]⟩:Tpl) (⟨1,2,0,0⟩:Chg))
(.br 528 (((aI (⟨[(⟨1,true⟩:Rtr),(⟨2,true⟩:Rtr),(⟨3,true⟩:Rtr),(⟨4,true⟩:Rtr)],[(⟨1,2,1,1,0⟩:Lnk),(⟨1,3,1,1,0⟩:Lnk),(⟨1,4,1,1,0⟩:Lnk),(⟨2,3,1,1,0⟩:Lnk)]⟩:Tpl) (⟨1,2,0,0⟩:Chg)).2.2.2)==0) (.br 592 (((aI (⟨[(⟨1,true⟩:Rtr),(⟨2,true⟩:Rtr),(⟨3,true⟩:Rtr),(⟨4,true⟩:Rtr)],[(⟨1,2,1,1,0⟩:Lnk),(⟨1,3,1,1,0⟩:Lnk),(⟨1,4,1,1,0⟩:Lnk),(⟨2,3,1,1,0⟩:Lnk)]⟩:Tpl) (⟨1,2,0,0⟩:Chg)).2.2.2)==0) (.br 656 (((aI (⟨[(⟨1,true⟩:Rtr),(⟨2,true⟩:Rtr),(⟨3,true⟩:Rtr),(⟨4,true⟩:Rtr)],[(⟨1,2,1,1,0⟩:Lnk),(⟨1,3,1,1,0⟩:Lnk),(⟨1,4,1,1,0⟩:Lnk),(⟨2,3,1,1,0⟩:Lnk)]⟩:Tpl) (⟨1,2,0,0⟩:Chg)).1)==1) (.br 736 ((((cP (⟨[(⟨1,true⟩:Rtr),(⟨2,true⟩:Rtr),(⟨3,true⟩:Rtr),(⟨4,true⟩:Rtr)],[(⟨1,2,1,1,0⟩:Lnk),(⟨1,3,1,1,0⟩:Lnk),(⟨1,4,1,1,0⟩:Lnk),(⟨2,3,1,1,0⟩:Lnk)]⟩:Tpl) (⟨1,2,0,0⟩:Chg)).map Rnk.v).length:Int)==4) (.el 752 Rnk.v (cP (⟨[(⟨1,true⟩:Rtr),(⟨2,true⟩:Rtr),(⟨3,true⟩:Rtr),(⟨4,true⟩:Rtr)],[(⟨1,2,1,1,0⟩:Lnk),(⟨1,3,1,1,0⟩:Lnk),(⟨1,4,1,1,0⟩:Lnk),(⟨2,3,1,1,0⟩:Lnk)]⟩:Tpl) (⟨1,2,0,0⟩:Chg)) (λR=>Rf ((cP (⟨[(⟨1,true⟩:Rtr),(⟨2,true⟩:Rtr),(⟨3,true⟩:Rtr),(⟨4,true⟩:Rtr)],[(⟨1,2,1,1,0⟩:Lnk),(⟨1,3,1,1,0⟩:Lnk),(⟨1,4,1,1,0⟩:Lnk),(⟨2,3,1,1,0⟩:Lnk)]⟩:Tpl) (⟨1,2,0,0⟩:Chg)).map Rnk.v) (ck (decide (0<((cP (⟨[(⟨1,true⟩:Rtr),(⟨2,true⟩:Rtr),(⟨3,true⟩:Rtr),(⟨4,true⟩:Rtr)],[(⟨1,2,1,1,0⟩:Lnk),(⟨1,3,1,1,0⟩:Lnk),(⟨1,4,1,1,0⟩:Lnk),(⟨2,3,1,1,0⟩:Lnk)]⟩:Tpl) (⟨1,2,0,0⟩:Chg)).length:Int)))
(∀x1,(cP (⟨[(⟨1,true⟩:Rtr),(⟨2,true⟩:Rtr),(⟨3,true⟩:Rtr),(⟨4,true⟩:Rtr)],[(⟨1,2,1,1,0⟩:Lnk),(⟨1,3,1,1,0⟩:Lnk),(⟨1,4,1,1,0⟩:Lnk),(⟨2,3,1,1,0⟩:Lnk)]⟩:Tpl) (⟨1,2,0,0⟩:Chg))[0]?=some x1 →
(R x1)))) λx1 =>
(.br 848 ((x1.r==1) && ((x1.n==1) && true)) (.el 864 Rnk.v (cP (⟨[(⟨1,true⟩:Rtr),(⟨2,true⟩:Rtr),(⟨3,true⟩:Rtr),(⟨4,true⟩:Rtr)],[(⟨1,2,1,1,0⟩:Lnk),(⟨1,3,1,1,0⟩:Lnk),(⟨1,4,1,1,0⟩:Lnk),(⟨2,3,1,1,0⟩:Lnk)]⟩:Tpl) (⟨1,2,0,0⟩:Chg)) (λR=>Rf ((cP (⟨[(⟨1,true⟩:Rtr),(⟨2,true⟩:Rtr),(⟨3,true⟩:Rtr),(⟨4,true⟩:Rtr)],[(⟨1,2,1,1,0⟩:Lnk),(⟨1,3,1,1,0⟩:Lnk),(⟨1,4,1,1,0⟩:Lnk),(⟨2,3,1,1,0⟩:Lnk)]⟩:Tpl) (⟨1,2,0,0⟩:Chg)).map Rnk.v) (ck (decide (3<((cP (⟨[(⟨1,true⟩:Rtr),(⟨2,true⟩:Rtr),(⟨3,true⟩:Rtr),(⟨4,true⟩:Rtr)],[(⟨1,2,1,1,0⟩:Lnk),(⟨1,3,1,1,0⟩:Lnk),(⟨1,4,1,1,0⟩:Lnk),(⟨2,3,1,1,0⟩:Lnk)]⟩:Tpl) (⟨1,2,0,0⟩:Chg)).length:Int)))
(∀x2,(cP (⟨[(⟨1,true⟩:Rtr),(⟨2,true⟩:Rtr),(⟨3,true⟩:Rtr),(⟨4,true⟩:Rtr)],[(⟨1,2,1,1,0⟩:Lnk),(⟨1,3,1,1,0⟩:Lnk),(⟨1,4,1,1,0⟩:Lnk),(⟨2,3,1,1,0⟩:Lnk)]⟩:Tpl) (⟨1,2,0,0⟩:Chg))[3]?=some x2 →
(R x2)))) λx2 =>
(.br 960 ((x2.r==4) && ((x2.n==0) && true)) (.req 992 ((cP (⟨[(⟨1,true⟩:Rtr),(⟨2,true⟩:Rtr),(⟨3,true⟩:Rtr),(⟨4,true⟩:Rtr)],[(⟨1,2,1,1,0⟩:Lnk),(⟨1,3,1,1,0⟩:Lnk),(⟨1,4,1,1,0⟩:Lnk),(⟨2,3,1,1,0⟩:Lnk)]⟩:Tpl) (⟨1,2,0,0⟩:Chg)).length≤1000000) λh3 =>
(.callP (HQ (cP (⟨[(⟨1,true⟩:Rtr),(⟨2,true⟩:Rtr),(⟨3,true⟩:Rtr),(⟨4,true⟩:Rtr)],[(⟨1,2,1,1,0⟩:Lnk),(⟨1,3,1,1,0⟩:Lnk),(⟨1,4,1,1,0⟩:Lnk),(⟨2,3,1,1,0⟩:Lnk)]⟩:Tpl) (⟨1,2,0,0⟩:Chg)) [4] h3)
(.br 1040 (D5 (cP (⟨[(⟨1,true⟩:Rtr),(⟨2,true⟩:Rtr),(⟨3,true⟩:Rtr),(⟨4,true⟩:Rtr)],[(⟨1,2,1,1,0⟩:Lnk),(⟨1,3,1,1,0⟩:Lnk),(⟨1,4,1,1,0⟩:Lnk),(⟨2,3,1,1,0⟩:Lnk)]⟩:Tpl) (⟨1,2,0,0⟩:Chg)) [4]) (.req 1072 ((cP (⟨[(⟨1,true⟩:Rtr),(⟨2,true⟩:Rtr),(⟨3,true⟩:Rtr),(⟨4,true⟩:Rtr)],[(⟨1,2,1,1,0⟩:Lnk),(⟨1,3,1,1,0⟩:Lnk),(⟨1,4,1,1,0⟩:Lnk),(⟨2,3,1,1,0⟩:Lnk)]⟩:Tpl) (⟨1,2,0,0⟩:Chg)).length≤1000000) λh4 =>
(.callP (HQ (cP (⟨[(⟨1,true⟩:Rtr),(⟨2,true⟩:Rtr),(⟨3,true⟩:Rtr),(⟨4,true⟩:Rtr)],[(⟨1,2,1,1,0⟩:Lnk),(⟨1,3,1,1,0⟩:Lnk),(⟨1,4,1,1,0⟩:Lnk),(⟨2,3,1,1,0⟩:Lnk)]⟩:Tpl) (⟨1,2,0,0⟩:Chg)) [1] h4)
(.ret (!(D5 (cP (⟨[(⟨1,true⟩:Rtr),(⟨2,true⟩:Rtr),(⟨3,true⟩:Rtr),(⟨4,true⟩:Rtr)],[(⟨1,2,1,1,0⟩:Lnk),(⟨1,3,1,1,0⟩:Lnk),(⟨1,4,1,1,0⟩:Lnk),(⟨2,3,1,1,0⟩:Lnk)]⟩:Tpl) (⟨1,2,0,0⟩:Chg)) [1])))))
(.ret (false)))))
(.ret (false))))
(.ret (false))))
(.ret (false)))
(.ret (false)))
(.ret (false)))
(.ret (false)))))
def ve(r0:Bool):=(sy).vp s6 r0
theorem Mb(ok:Mc):ve true:=by
  dsimp only[ve,sy,noS,Ax.vp,Ax.vc];simp only[vcU,rfU,List.length_map]
  rw[show({ rs:=[{ id:=1,cap:=true },{ id:=2,cap:=true },{ id:=3,cap:=true },{ id:=4,cap:=true }],ls:=[{ a:=1,b:=2,ca:=1,cb:=1,w:=0 },{ a:=1,b:=3,ca:=1,cb:=1,w:=0 },{ a:=1,b:=4,ca:=1,cb:=1,w:=0 },{ a:=2,b:=3,ca:=1,cb:=1,w:=0 }] }:Tpl)=T18 from rfl,MB,C3.1,C3.2]
  simp[D5,vh]
def Cn:PC Tryz.prog:=⟨15,[],[],s6 true,ax.of_ok λok=>aw (sh:=.k) (enc:=s6) (a:=(sy).an) (Mb ok) (by kernel_rfl) (AV.pureB_ok rfl),aq (by kernel_rfl)⟩
set_option pp.deepTerms true
set_option pp.maxSteps 100000
def K5(l:List Tbl)(router:Int):=okL [.sl 4 (l.map Tbl.v) false,.int router]
def Gg(l:List Tbl)(router:Int)(t0:Int):NF:=⟨[(1,.k,.int router),(4,.k,.ref 0 0),(11,.k,.sl 4 (l.map Tbl.v) false),(12,.k,.int ((l.map Tbl.v).length:Int)),(13,.k,.int t0)],[.box (.agg [.int 0,.int 0,.int 0,.sl 0 [] true])]⟩
def Gf(x1:Tbl)(t1:Int×List Rw):NF:=⟨[(4,.k,.ref 0 0),(8,.k,.ref 1 0),(24,.k,.sl 2 (x1.rows.map Rw.v) false),(25,.k,.int ((x1.rows.map Rw.v).length:Int)),(26,.k,.int t1.1)],[.box (.agg [.int 0,.int 0,.int 0,.sl 0 [] true]),.box (.agg [.int x1.router,.int x1.sub,.int x1.len,.vec 2]),.vec 2 (t1.2.map Rw.v) (ae (λ_=>rfl) t1.2)]⟩
@[reducible] def B0:Nat→Type
 | 0=>Int
 | 1=>Int×List Rw
 | _=>Unit
def rj(r:Tbl×Bool):AV:=.tup [Tbl.v r.1,.bool r.2]
def rh(l:List Tbl)(router:Int)(I0:Int→Prop)(m0:Int→Nat)(I1:Int→Tbl→(Int×List Rw)→Prop)(m1:Int→Tbl→(Int×List Rw)→Nat):Ax Tryz.prog B0 (Tbl×Bool):=
 (.loop 0 (Gg l router) I0 m0 ((0):Int) [0] λ(t0:Int) b0 =>
(.br 17 (decide (t0<((l.map Tbl.v).length:Int))) (.elI 17 Tbl.v l t0 λx1 =>
(.br 145 (x1.router==router) (.cmdL (.nilB 161 3 2) (.loop 1 (Gf x1) (I1 t0 x1) (m1 t0 x1) (0,[]) [0,161,289] λ(t1:Int×List Rw) b1 =>
(.br 19 (decide (t1.1<((x1.rows.map Rw.v).length:Int))) (.elI 19 Rw.v x1.rows t1.1 λx2 =>
(.req 179 (x2.nx.length≤1000000) λh3 =>
(.callP (uW x2.nx h3)
(.apX 227 Rw.v t1.2 [x2] (t1.2.length+1)
(.bk 1 b1 (W (t1.1+1),t1.2++[x2]) [0,1,227])))))
(.fz 2 Rw.v t1.2 (λ_=>rfl) (.ret ((⟨x1.router,x1.sub,x1.len,t1.2⟩:Tbl),true))))))
(.bk 0 b0 ((W (t0+1)):Int) [0])))
(.ret ((⟨0,0,0,[]⟩:Tbl),false))))
def uj(l:List Tbl)(router:Int)(I0:Int→Prop)(m0:Int→Nat)(I1:Int→Tbl→(Int×List Rw)→Prop)(m1:Int→Tbl→(Int×List Rw)→Nat)(r0:Tbl×Bool):=(rh l router I0 m0 I1 m1).vp rj r0
theorem K4(l:List Tbl)(router:Int)(h:lp l)(ok:K5 l router):∃I0 m0 I1 m1,uj l router I0 m0 I1 m1 (gu l router):=by
 refine⟨λi=>bi l (λb=>(b.router==router)=false) i,λi=>l.length-i.toNat,λ_ b s=>eK b.rows (λx=>[x]) s.1 s.2,λ_ b s=>b.rows.length-s.1.toNat,?_⟩
 dsimp only[uj,rh,B0,Ax.vp,Ax.vc];simp only[vcU,rfU,List.length_map]
 refine⟨bi.zero,λi hi=>⟨λc=>⟨hi.idx,c,λb hb=>⟨λq=>⟨eK.zero,λs hs=>⟨λd=>⟨hs.idx,d,λx hx=>⟨?_,?_⟩⟩,λd=>?_⟩⟩,λq=>hi.step (by have:=h.1;omega) hb q⟩⟩,λc=>?_⟩⟩
 ·have:=(h.2 b (cB hb)).2 x (cB hx);omega
 ·have hr:=(h.2 b (cB hb)).1
  have:=hs.len (b:=1) λx _=>by simp
  exact⟨by omega,hs.step (by omega) hx rfl⟩
 ·have e:=mw (p:=λb:Tbl=>b.router==router) hi hb q
  unfold gu
  rw[e,hs.done d]
  have:(b.rows.flatMap λx=>[x])=b.rows:=by simp
  rw[this]
 ·have e:=rp (p:=λb:Tbl=>b.router==router) hi c
  unfold gu;rw[e]
def B1(l:List Tbl)(router:Int)(h:lp l):PC Tryz.prog:=⟨68,[(.s 4),.k],[.sl 4 (l.map Tbl.v) false,.int router],rj (gu l router),ax.of_ok λok=>(K4 l router h ok).elim λI0 h=>h.elim λm0 h=>h.elim λI1 h=>h.elim λm1 h=>aw (sh:=(.a [(.a [.k,.k,.k,(.s 2)]),.k])) (enc:=rj) (a:=(rh l router I0 m0 I1 m1).an) h (by kernel_rfl) (AV.pureB_ok rfl),aq (by kernel_rfl)⟩
def CP(b:List Tbl)(ch:List Int)(x:Tbl):Tbl:=if(gu b x.router).2=true∧x.router∈ch then(gu b x.router).1 else x
def tE(a b:List Tbl)(ch:List Int):List Tbl:=a.map (CP b ch)
def OD(old:List Tbl)(new:List Tbl)(changed:List Int):=okL [.sl 4 (old.map Tbl.v) false,.sl 4 (new.map Tbl.v) false,.sl 1 (changed.map AV.int) false]
def JT(old:List Tbl)(new:List Tbl)(changed:List Int)(t0:Int×List Tbl):NF:=⟨[(1,.k,.sl 4 (new.map Tbl.v) false),(2,.k,.sl 1 (changed.map AV.int) false),(7,.k,.vec 0),(14,.k,.sl 4 (old.map Tbl.v) false),(15,.k,.int ((old.map Tbl.v).length:Int)),(16,.k,.int t0.1)],[.vec 4 (t0.2.map Tbl.v) (ae (λ_=>rfl) t0.2)]⟩
def JS(old:List Tbl)(new:List Tbl)(changed:List Int)(t0:Int×List Tbl)(x1:Tbl)(t1:Bool):NF:=⟨[(1,.k,.sl 4 (new.map Tbl.v) false),(2,.k,.sl 1 (changed.map AV.int) false),(7,.k,.vec 0),(10,.k,.ref 1 0),(12,.k,.ref 2 0),(14,.k,.sl 4 (old.map Tbl.v) false),(15,.k,.int ((old.map Tbl.v).length:Int)),(16,.k,.int t0.1),(41,.k,.bool t1)],[.vec 4 (t0.2.map Tbl.v) (ae (λ_=>rfl) t0.2),.box ((Tbl.v ((gu [x1] x1.router).1))),.box ((Tbl.v ((gu new x1.router).1)))]⟩
@[reducible] def Fz:Nat→Type
 | 0=>Int×List Tbl
 | 1=>Bool
 | _=>Unit
def wV(r:List Tbl):AV:=.sl 4 (r.map Tbl.v) false
def wU(old:List Tbl)(new:List Tbl)(changed:List Int)(I0:(Int×List Tbl)→Prop)(m0:(Int×List Tbl)→Nat)(I1:Int×List Tbl→Tbl→Bool→Prop):Ax Tryz.prog Fz ((List Tbl)):=
 (.cmdL (.nilT 7 4) (.loop 0 (JT old new changed) I0 m0 (0,[]) [80] λ(t0:Int×List Tbl) b0 =>
(.br 17 (decide (t0.1<((old.map Tbl.v).length:Int))) (.elI 17 Tbl.v old t0.1 λx1 =>
(.req 145 (lp [x1]) λh2 =>
(.callP (B1 [x1] x1.router h2)
(.req 305 (lp new) λh3 =>
(.callP (B1 new x1.router h3)
(.join 1 (JS old new changed t0 x1) (λ(t1:Bool)=>I1 t0 x1 t1) (λb1=>(.br 449 ((gu new x1.router).2) (.callP (eP changed x1.router)
(.bk 1 b1 ((decide (x1.router∈changed)):Bool) [0,209,369]))
(.bk 1 b1 ((false):Bool) [0,209,369]))) λ(t1:Bool) =>
(.br 3 t1 (.apX 83 Tbl.v t0.2 [(gu new x1.router).1] (t0.2.length+1)
(.bk 0 b0 (W (t0.1+1),t0.2++[(gu new x1.router).1]) [83]))
(.apX 51 Tbl.v t0.2 [(gu [x1] x1.router).1] (t0.2.length+1)
(.bk 0 b0 (W (t0.1+1),t0.2++[(gu [x1] x1.router).1]) [51])))))))))
(.fz 0 Tbl.v t0.2 (λ_=>rfl) (.ret (t0.2))))))
def AN(old:List Tbl)(new:List Tbl)(changed:List Int)(I0:(Int×List Tbl)→Prop)(m0:(Int×List Tbl)→Nat)(I1:Int×List Tbl→Tbl→Bool→Prop)(r0:List Tbl):=(wU old new changed I0 m0 I1).vp wV r0
theorem JR(x:Tbl):(gu [x] x.router).1=x:=by unfold gu;simp
theorem OB(a b:List Tbl)(ch:List Int)(h0:lp a)(h1:lp b)(ok:OD a b ch):∃I0 m0 I1,AN a b ch I0 m0 I1 (tE a b ch):=by
 refine⟨λs=>eK a (λx=>[CP b ch x]) s.1 s.2,λs=>a.length-s.1.toNat,λ_ x u=>u=decide ((gu b x.router).2=true∧x.router∈ch),?_⟩
 dsimp only[AN,wU,Fz,Ax.vp,Ax.vc];simp only[vcU,rfU,List.length_map]
 refine⟨eK.zero,λs hs=>⟨λc=>⟨hs.idx,c,λx hx=>⟨⟨by simp,λz hz=>by rw[List.mem_singleton.mp hz];exact h0.2 x (cB hx)⟩,h1,⟨λe=>by simp[e],λe=>by simp[e]⟩,?_⟩⟩,λc=>?_⟩⟩
 ·rintro _ rfl
  have hl:=hs.len (b:=1) λx _=>by simp
  have:=h0.1
  refine⟨λe=>⟨by omega,hs.step (by omega) hx ?_⟩,λe=>⟨by omega,hs.step (by omega) hx ?_⟩⟩
  ·unfold CP;rw[if_pos (of_decide_eq_true e)]
  ·unfold CP;rw[if_neg (of_decide_eq_false e),JR]
 ·rw[hs.done c]
  unfold tE
  exact List.map_eq_flatMap.symm
def OC(old:List Tbl)(new:List Tbl)(changed:List Int)(h0:lp old)(h1:lp new):PC Tryz.prog:=⟨23,[(.s 4),(.s 4),(.s 1)],[.sl 4 (old.map Tbl.v) false,.sl 4 (new.map Tbl.v) false,.sl 1 (changed.map AV.int) false],wV (tE old new changed),ax.of_ok λok=>(OB old new changed h0 h1 ok).elim λI0 h=>h.elim λm0 h=>h.elim λI1 h=>aw (sh:=(.s 4)) (enc:=wV) (a:=(wU old new changed I0 m0 I1).an) h (by kernel_rfl) (AV.pureB_ok rfl),aq (by kernel_rfl)⟩
def okI(l:List Tbl)(id:Int):Bool:=(List.range 8).all λk=>decide (j4 l id (k:Nat)=[])
def jX(l:List Tbl):Bool:=(jv l==0) && l.all λb=>b.rows.all λr=>okI l r.id
theorem qx{l:List Tbl}{id:Int}:okI l id=true↔∀k:Nat,k<8→j4 l id k=[]:=by
 unfold okI;simp only[List.all_eq_true,List.mem_range,decide_eq_true_iff]
structure vm (l:List Tbl) (M:List (Int×Bool)):Prop where
  nd:(av M).Nodup
  ok:∀id,aB M id false=true→okI l id=true
theorem vm.put{l:List Tbl}{M:List (Int×Bool)}(h:vm l M){id:Int}(hi:okI l id=true):vm l (bo M id true):=by
 have hn':=dy (x:=id) (v:=true) h.nd
 refine⟨hn',λx hx=>?_⟩
 by_cases e:x=id
 ·rw[e];exact hi
 ·cases q:aY (bo M id true) x with
  | false=>rw[bV q]at hx;cases hx
  | true =>
   rcases(bP h.nd).mp (bI (z:=false) q)with q2|⟨q2,_⟩
   ·exact absurd (congrArg Prod.fst q2) e
   ·exact h.ok x (by rw[dD h.nd q2];exact hx)
def Ef(l:List Tbl):=okL [.sl 4 (l.map Tbl.v) false]
def IQ(l:List Tbl)(t0:Int×(List (Int×Bool))):NF:=⟨[(0,.k,.sl 4 (l.map Tbl.v) false),(3,.k,.mref 0),(13,.k,.sl 4 (l.map Tbl.v) false),(14,.k,.int ((l.map Tbl.v).length:Int)),(15,.k,.int t0.1)],[.map none (t0.2.map λp=>MK.n p.1) (t0.2.map λp=>AV.bool p.2) (ae (λ_=>rfl) _)]⟩
def IP(l:List Tbl)(t0:Int×(List (Int×Bool)))(x1:Tbl)(t1:Int×(List (Int×Bool))):NF:=⟨[(0,.k,.sl 4 (l.map Tbl.v) false),(3,.k,.mref 0),(13,.k,.sl 4 (l.map Tbl.v) false),(14,.k,.int ((l.map Tbl.v).length:Int)),(15,.k,.int t0.1),(20,.k,.sl 2 (x1.rows.map Rw.v) false),(21,.k,.int ((x1.rows.map Rw.v).length:Int)),(22,.k,.int t1.1)],[.map none (t1.2.map λp=>MK.n p.1) (t1.2.map λp=>AV.bool p.2) (ae (λ_=>rfl) _)]⟩
def IN(l:List Tbl)(t0:Int×(List (Int×Bool)))(x1:Tbl)(t1:Int×(List (Int×Bool)))(x2:Rw)(t2:Int):NF:=⟨[(0,.k,.sl 4 (l.map Tbl.v) false),(3,.k,.mref 0),(7,.k,.ref 1 0),(13,.k,.sl 4 (l.map Tbl.v) false),(14,.k,.int ((l.map Tbl.v).length:Int)),(15,.k,.int t0.1),(20,.k,.sl 2 (x1.rows.map Rw.v) false),(21,.k,.int ((x1.rows.map Rw.v).length:Int)),(22,.k,.int t1.1),(33,.k,.int t2)],[.map none ((bo t1.2 x2.id true).map λp=>MK.n p.1) ((bo t1.2 x2.id true).map λp=>AV.bool p.2) (ae (λ_=>rfl) _),.box (.agg [.int x2.id,.sl 1 (x2.nx.map AV.int) false])]⟩
@[reducible] def Ee:Nat→Type
 | 0=>Int×(List (Int×Bool))
 | 1=>Int×(List (Int×Bool))
 | 2=>Int
 | _=>Unit
def vR(r:Bool):AV:=.bool r
def vQ(l:List Tbl)(I0:(Int×(List (Int×Bool)))→Prop)(m0:(Int×(List (Int×Bool)))→Nat)(I1:Int×(List (Int×Bool))→Tbl→(Int×(List (Int×Bool)))→Prop)(m1:Int×(List (Int×Bool))→Tbl→(Int×(List (Int×Bool)))→Nat)(I2:Int×(List (Int×Bool))→Tbl→Int×(List (Int×Bool))→Rw→Int→Prop)(m2:Int×(List (Int×Bool))→Tbl→Int×(List (Int×Bool))→Rw→Int→Nat):Ax Tryz.prog Ee (Bool):=
 (.callP (Qs l)
(.br 64 ((jv l) != 0) (.ret (false))
(.loop 0 (IQ l) I0 m0 (0,([]:List (Int×Bool))) [64] λ(t0:Int×(List (Int×Bool))) b0 =>
(.br 17 (decide (t0.1<((l.map Tbl.v).length:Int))) (.elI 17 Tbl.v l t0.1 λx1 =>
(.loop 1 (IP l t0 x1) (I1 t0 x1) (m1 t0 x1) (0,t0.2) [0] λ(t1:Int×(List (Int×Bool))) b1 =>
(.br 17 (decide (t1.1<((x1.rows.map Rw.v).length:Int))) (.elI 17 Rw.v x1.rows t1.1 λx2 =>
(.mn 129 (jA AV.bool t1.2 x2.id false) (.br 145 (aB t1.2 x2.id false) (.bk 1 b1 (W (t1.1+1),t1.2) [0])
(.mn 193 (nk AV.bool t1.2 x2.id true) (.loop 2 (IN l t0 x1 t1 x2) (I2 t0 x1 t1 x2) (m2 t0 x1 t1 x2) ((0):Int) [0,49] λ(t2:Int) b2 =>
(.br 18 (decide (t2<8)) (.req 114 (jv l=0) λh3 =>
(.req 114 (0≤t2∧t2<8) λh4 =>
(.callP (OH l x2.id t2 h3 h4)
(.br 162 (decide (0<(((j4 l x2.id t2).map AV.int).length:Int))) (.ret (false))
(.bk 2 b2 ((W (t2+1)):Int) [0,1])))))
(.bk 1 b1 (W (t1.1+1),bo t1.2 x2.id true) [0])))))))
(.bk 0 b0 (W (t0.1+1),t1.2) [0]))))
(.ret (true))))))
def zP(l:List Tbl)(I0:(Int×(List (Int×Bool)))→Prop)(m0:(Int×(List (Int×Bool)))→Nat)(I1:Int×(List (Int×Bool))→Tbl→(Int×(List (Int×Bool)))→Prop)(m1:Int×(List (Int×Bool))→Tbl→(Int×(List (Int×Bool)))→Nat)(I2:Int×(List (Int×Bool))→Tbl→Int×(List (Int×Bool))→Rw→Int→Prop)(m2:Int×(List (Int×Bool))→Tbl→Int×(List (Int×Bool))→Rw→Int→Nat)(r0:Bool):=(vQ l I0 m0 I1 m1 I2 m2).vp vR r0
theorem ND(l:List Tbl)(ok:Ef l):∃I0 m0 I1 m1 I2 m2,zP l I0 m0 I1 m1 I2 m2 (jX l):=by
 refine⟨λs=>bi l (λb=>∀r∈b.rows,okI l r.id=true) s.1∧vm l s.2,λs=>l.length-s.1.toNat,
  λ_ b s=>bi b.rows (λr=>okI l r.id=true) s.1∧vm l s.2,λ_ b s=>b.rows.length-s.1.toNat,
  λ_ b s r i=>∃k:Nat,i=k∧k≤8∧∀j:Nat,j<k→j4 l r.id j=[],λ_ _ _ _ i=>8-i.toNat,?_⟩
 simp only[Ef,okU,Blk.ok,aL,List.length_map]at ok
 dsimp only[zP,vQ,Ee,Ax.vp,Ax.vc];simp only[vcU,rfU,List.length_map]
 refine⟨λq=>by unfold jX;simp at q;simp[q],λq=>?_⟩
 have q:jv l=0:=by simpa using q
 obtain⟨hl,hb,_⟩:=gD q
 have hr:jX l=l.all λb=>b.rows.all λr=>okI l r.id:=by unfold jX;rw[q];rfl
 rw[hr]
 refine⟨⟨bi.zero,List.nodup_nil,λid h=>by rw[bV (by unfold aY av;simp)]at h;cases h⟩,λs hs=>⟨λc=>⟨hs.1.idx,c,λb hbk=>⟨⟨bi.zero,hs.2⟩,λu hu=>⟨λd=>⟨hu.1.idx,d,λr hrk=>⟨λe=>?_,λe=>⟨⟨0,rfl,by omega,λj hj=>by omega⟩,?_⟩⟩⟩,λd=>?_⟩⟩⟩,λc=>?_⟩⟩
 ·have:=(iR (hb b (cB hbk))).2.2.1
  obtain⟨g1,g2⟩:=hu.1.step (by omega) hrk (hu.2.ok _ e)
  exact⟨⟨g1,hu.2⟩,g2⟩
 ·rintro _ ⟨k,rfl,hk,hj⟩
  refine⟨λe=>⟨q,⟨by omega,by omega⟩,λe1=>?_,λe1=>?_⟩,λe=>?_⟩
  ·rw[eq_comm,List.all_eq_false]
   refine⟨b,cB hbk,?_⟩
   rw[Bool.not_eq_true,List.all_eq_false]
   refine⟨r,cB hrk,?_⟩
   rw[qx]
   intro h
   rw[h k (by omega)]at e1;simp at e1
  ·have w:W ((k:Int)+1)=((k+1:Nat):Int):=bM (n:=8) (by omega) (by omega)
   rw[w]
   refine⟨⟨k+1,rfl,by omega,λj hj'=>?_⟩,by omega⟩
   by_cases e2:j=k
   ·subst e2;exact List.length_eq_zero_iff.mp (by omega)
   ·exact hj j (by omega)
  ·have hok:okI l r.id=true:=qx.mpr λj hj'=>hj j (by omega)
   have:=(iR (hb b (cB hbk))).2.2.1
   obtain⟨g1,g2⟩:=hu.1.step (by omega) hrk hok
   exact⟨⟨g1,hu.2.put hok⟩,g2⟩
 ·obtain⟨g1,g2⟩:=hs.1.step (by omega) hbk (λr hr=>hu.1.done d r hr)
  exact⟨⟨g1,hu.2⟩,g2⟩
 ·rw[eq_comm,List.all_eq_true]
  exact λb hb'=>List.all_eq_true.mpr λr hr=>hs.1.done c b hb' r hr
def vS(l:List Tbl):PC Tryz.prog:=⟨30,[(.s 4)],[.sl 4 (l.map Tbl.v) false],vR (jX l),ax.of_ok λok=>(ND l ok).elim λI0 h=>h.elim λm0 h=>h.elim λI1 h=>h.elim λm1 h=>h.elim λI2 h=>h.elim λm2 h=>aw (sh:=.k) (enc:=vR) (a:=(vQ l I0 m0 I1 m1 I2 m2).an) h (by kernel_rfl) (AV.pureB_ok rfl),aq (by kernel_rfl)⟩
def apS(s:Bool×Lnk×List Lnk)(l:Lnk):Bool×Lnk×List Lnk:=
  if l.a=s.2.1.a∧l.b=s.2.1.b then(true,{ s.2.1 with w:=l.w },s.2.2++[{ s.2.1 with w:=l.w }])
  else if s.1=false∧aQ s.2.1 l then(true,s.2.1,s.2.2++[s.2.1]++[l])
  else(s.1,s.2.1,s.2.2++[l])
def apF(s:Bool×Lnk×List Lnk):List Lnk:=if s.1=false then s.2.2++[s.2.1]else s.2.2
theorem HO{x:Lnk}:∀(l:List Lnk) (out:List Lnk),(∀y∈l,aQ y x)→l.foldl apS (false,x,out)=(false,x,out++l)
 | [],out,_=>by simp
 | y::l,out,h=>by
  have hy:=h y (by simp)
  have e:apS (false,x,out) y=(false,x,out++[y]):=by
   unfold apS
   rw[if_neg (by unfold aQ at hy;simp only;omega),if_neg (by unfold aQ at hy ⊢;simp only;omega)]
  rw[List.foldl_cons,e,HO l _ (λz hz=>h z (by simp[hz]))]
  simp
theorem zb{x:Lnk}:∀(l:List Lnk) (out:List Lnk),(∀y∈l,aQ x y)→l.foldl apS (true,x,out)=(true,x,out++l)
 | [],out,_=>by simp
 | y::l,out,h=>by
  have hy:=h y (by simp)
  have e:apS (true,x,out) y=(true,x,out++[y]):=by
   unfold apS
   rw[if_neg (by unfold aQ at hy;simp only;omega),if_neg (by simp)]
  rw[List.foldl_cons,e,zb l _ (λz hz=>h z (by simp[hz]))]
  simp
theorem qJ{x y z:Lnk}(h:aQ x y)(k:aQ y z):aQ x z:=by unfold aQ at *;omega
theorem li{l:List Lnk}(h:l.Pairwise aQ)(x:Lnk):(∀k y,k<aN l x→l[k]?=some y→aQ y x)∧(∀k y,aN l x≤k→l[k]?=some y→¬aQ y x)∧aN l x≤l.length:=by
 obtain⟨s1,s2,s3⟩:=kP (lt:=lv x) (l:=l) (λa b u v hab hu hv e=>by
  have h1:=f8 h hab hu hv
  unfold lv at e ⊢
  exact decide_eq_true (qJ h1 (of_decide_eq_true e))) (f:=l.length) (i:=0) (j:=l.length) (by omega) (by omega) (Nat.le_refl _) (λk x hk=>by omega) (λk x hk hx=>by have:=ap hx;omega)
 exact⟨λk y hk hy=>of_decide_eq_true (s1 k y hk hy),λk y hk hy=>of_decide_eq_false (s2 k y hk hy),s3⟩
theorem QV{l:List Lnk}(h:l.Pairwise aQ)(x:Lnk):apF (l.foldl apS (false,x,[]))=if cp l x=true then l.set (aN l x) { x with w:=(l.getD (aN l x) ⟨0,0,0,0,0⟩).w } else bD l (aN l x) x:=by
  obtain⟨s1,s2,s3⟩:=li h x
  have hsplit:l=l.take (aN l x)++l.drop (aN l x):=(List.take_append_drop _ _).symm
  have htk:∀y∈l.take (aN l x),aQ y x:=λy hy=>by
    obtain⟨j,hj,rfl⟩:=List.mem_take_iff_getElem.mp hy
    exact s1 j _ (by omega) (List.getElem?_eq_getElem (by omega))
  have hf:l.foldl apS (false,x,[])=(l.drop (aN l x)).foldl apS (false,x,l.take (aN l x)):=by
    conv=>lhs;rw[hsplit]
    rw[List.foldl_append,HO _ _ htk,List.nil_append]
  have hh:cp l x=(l[aN l x]?).any (gC x):=rfl
  rw[hf]
  by_cases hp:aN l x<l.length
  · have hz:l[aN l x]?=some l[aN l x]:=List.getElem?_eq_getElem hp
    have hd:l.drop (aN l x)=l[aN l x]::l.drop (aN l x+1):=List.drop_eq_getElem_cons hp
    generalize l[aN l x]=z at hz hd
    have hr:∀y∈l.drop (aN l x+1),aQ z y:=λy hy=>by
      obtain⟨j,hj⟩:=List.mem_iff_getElem?.mp hy
      rw[List.getElem?_drop]at hj
      exact f8 h (by omega) hz hj
    have hnz:=s2 _ z (Nat.le_refl _) hz
    rw[hd,List.foldl_cons]
    by_cases e:z.a=x.a∧z.b=x.b
    · have hit:cp l x=true:=by rw[hh,hz];simp[gC,e]
      have e1:apS (false,x,l.take (aN l x)) z=(true,{ x with w:=z.w },l.take (aN l x)++[{ x with w:=z.w }]):=by unfold apS;rw[if_pos e]
      rw[e1,zb _ _ (λy hy=>by have:=hr y hy;unfold aQ at *;simp only;omega),if_pos hit]
      unfold apF
      simp only[Bool.true_eq_false,if_false]
      rw[List.getD_eq_getElem?_getD,hz,List.set_eq_take_append_cons_drop,if_pos hp]
      simp
    · have hit:¬cp l x=true:=by rw[hh,hz];simp[gC];exact λq=>λq2=>e ⟨q,q2⟩
      have hxz:aQ x z:=by unfold aQ at *;omega
      have e1:apS (false,x,l.take (aN l x)) z=(true,x,l.take (aN l x)++[x]++[z]):=by unfold apS;rw[if_neg e,if_pos ⟨rfl,hxz⟩]
      rw[e1,zb _ _ (λy hy=>qJ hxz (hr y hy)),if_neg hit]
      unfold apF bD
      simp only[Bool.true_eq_false,if_false]
      rw[hd];simp
  · have hp':aN l x=l.length:=by omega
    have hit:¬cp l x=true:=by rw[hh,List.getElem?_eq_none (by omega)];simp
    rw[if_neg hit,List.drop_of_length_le (by omega)]
    unfold apF bD
    rw[List.drop_of_length_le (show l.length≤aN l x by omega)]
    simp
theorem FD{y y':Lnk}(ha:y.a=y'.a)(hb:y.b=y'.b):lv y=lv y'∧gC y=gC y':=by
 constructor
 ·funext x;exact decide_eq_decide.mpr (by unfold aQ;rw[ha,hb])
 ·funext x;exact decide_eq_decide.mpr (by rw[ha,hb])
theorem kA(c:Chg):(aP c).a=(o8 c.a c.b).a∧(aP c).b=(o8 c.a c.b).b:=by
 unfold aP o8 eo dP
 by_cases h:c.b<c.a
 ·rw[if_pos h];simp only;(repeat' split)<;>omega
 ·rw[if_neg h];simp only;(repeat' split)<;>omega
theorem rb{t:Tpl}(hc:aD t=0)(c:Chg):cp t.ls (aP c)=(be t c.a c.b).2:=by
 rw[←(Al hc c.a c.b).1]
 unfold cp
 rw[(FD (kA c).1 (kA c).2).1,(FD (kA c).1 (kA c).2).2]
theorem Ia{t:Tpl}(hc:aD t=0)(c:Chg)(hit:cp t.ls (aP c)=true):C6 t ⟨[⟨c.a,c.b⟩],[]⟩=⟨t.rs,eC t.ls (aN t.ls (aP c))⟩:=by
 have hO:=aC hc
 have h:=hO.ord
 obtain⟨s1,s2,s3⟩:=li h (aP c)
 have hh:cp t.ls (aP c)=(t.ls[aN t.ls (aP c)]?).any (gC (aP c)):=rfl
 have hp:aN t.ls (aP c)<t.ls.length:=by
  refine Classical.byContradiction λq=>?_
  rw[hh,List.getElem?_eq_none (by omega)]at hit;simp at hit
 have hz:t.ls[aN t.ls (aP c)]?=some t.ls[aN t.ls (aP c)]:=List.getElem?_eq_getElem hp
 have hd:t.ls.drop (aN t.ls (aP c))=t.ls[aN t.ls (aP c)]::t.ls.drop (aN t.ls (aP c)+1):=List.drop_eq_getElem_cons hp
 have hsplit:t.ls=t.ls.take (aN t.ls (aP c))++t.ls.drop (aN t.ls (aP c)):=(List.take_append_drop _ _).symm
 generalize t.ls[aN t.ls (aP c)]=z at hz hd
 have hzk:z.a=(aP c).a∧z.b=(aP c).b:=by rw[hh,hz]at hit;simpa[gC]using hit
 have hg:∀y∈t.ls,(!gone ⟨[⟨c.a,c.b⟩],[]⟩ y)=!(decide (y.a=z.a∧y.b=z.b)):=λy hy=>by
  have hlt:=hO.lt y hy
  have hzl:=hO.lt z (List.mem_of_getElem? hz)
  congr 1
  unfold gone nmd
  rw[Bool.eq_iff_iff,decide_eq_true_iff,hzk.1,hzk.2]
  unfold aP
  simp
  by_cases e:c.b<c.a
  ·rw[if_pos e];simp only;omega
  ·rw[if_neg e];simp only;unfold aP at hzk;rw[if_neg e]at hzk;simp only at hzk;omega
 unfold C6
 rw[if_pos hc]
 congr 1
 ·simp
 ·rw[List.filter_congr hg]
  conv=>lhs;rw[hsplit,hd]
  rw[List.filter_append,List.filter_cons,if_neg (by simp)]
  unfold eC
  congr 1
  ·refine List.filter_eq_self.mpr λy hy=>?_
   obtain⟨j,hj,rfl⟩:=List.mem_take_iff_getElem.mp hy
   have:=f8 h (show j<aN t.ls (aP c) by omega) (List.getElem?_eq_getElem (by omega)) hz
   simp only[Bool.not_eq_true',decide_eq_false_iff_not]
   unfold aQ at this;omega
  ·refine List.filter_eq_self.mpr λy hy=>?_
   obtain⟨j,hj⟩:=List.mem_iff_getElem?.mp hy
   rw[List.getElem?_drop]at hj
   have:=f8 h (show aN t.ls (aP c)<aN t.ls (aP c)+1+j by omega) hz hj
   simp only[Bool.not_eq_true',decide_eq_false_iff_not]
   unfold aQ at this;omega
set_option pp.deepTerms true
set_option pp.maxSteps 100000
def HN(t:Tpl)(c:Chg):=okL [.agg [.sl 2 (t.rs.map Rtr.v) false,.sl 5 (t.ls.map Lnk.v) false],.agg [.int c.a,.int c.b,.int c.ca,.int c.cb]]
def My(t:Tpl)(c:Chg)(t0:Bool):NF:=⟨[(2,.k,.ref 0 0),(3,.k,.ref 1 0),(4,.k,.ref 2 0),(29,.k,.bool t0)],[.box (.agg [.sl 2 (t.rs.map Rtr.v) false,.sl 5 (t.ls.map Lnk.v) false]),.box (.agg [.int c.a,.int c.b,.int c.ca,.int c.cb]),.box (.agg [.sl 0 [] true,.sl 0 [] true])]⟩
def Mx(t:Tpl)(c:Chg)(t1:Bool):NF:=⟨[(2,.k,.ref 0 0),(3,.k,.ref 1 0),(4,.k,.ref 2 0),(6,.k,.bool t1)],[.box (.agg [.sl 2 (t.rs.map Rtr.v) false,.sl 5 (t.ls.map Lnk.v) false]),.box (.agg [.int c.a,.int c.b,.int c.ca,.int c.cb]),.box (.agg [.sl 0 [] true,.sl 0 [] true])]⟩
def Mw(t:Tpl)(c:Chg)(t2:Bool):NF:=⟨[(2,.k,.ref 0 0),(3,.k,.ref 1 0),(4,.k,.ref 2 0),(6,.k,.bool (c.cb==0)),(58,.k,.bool t2)],[.box (.agg [.sl 2 (t.rs.map Rtr.v) false,.sl 5 (t.ls.map Lnk.v) false]),.box (.agg [.int c.a,.int c.b,.int c.ca,.int c.cb]),.box (.agg [.sl 0 [] true,.sl 0 [] true])]⟩
def Mv(t:Tpl)(c:Chg)(t3:Bool):NF:=⟨[(2,.k,.ref 0 0),(3,.k,.ref 1 0),(4,.k,.ref 2 0),(6,.k,.bool false),(58,.k,.bool t3)],[.box (.agg [.sl 2 (t.rs.map Rtr.v) false,.sl 5 (t.ls.map Lnk.v) false]),.box (.agg [.int c.a,.int c.b,.int c.ca,.int c.cb]),.box (.agg [.sl 0 [] true,.sl 0 [] true])]⟩
def Mt(t:Tpl)(c:Chg)(t1:Bool)(t4:Bool):NF:=⟨[(2,.k,.ref 0 0),(3,.k,.ref 1 0),(4,.k,.ref 2 0),(6,.k,.bool t1),(8,.k,.bool ((be t c.a c.b).2)),(73,.k,.bool t4)],[.box (.agg [.sl 2 (t.rs.map Rtr.v) false,.sl 5 (t.ls.map Lnk.v) false]),.box (.agg [.int c.a,.int c.b,.int c.ca,.int c.cb]),.box (.agg [.sl 0 [] true,.sl 0 [] true])]⟩
def Ms(t:Tpl)(c:Chg)(t5:Lnk):NF:=⟨[(2,.k,.ref 0 0),(4,.k,.ref 1 0),(8,.k,.bool ((be t c.a c.b).2)),(9,.k,.ref 2 0)],[.box (.agg [.sl 2 (t.rs.map Rtr.v) false,.sl 5 (t.ls.map Lnk.v) false]),.box (.agg [.sl 0 [] true,.sl 0 [] true]),.box (.agg [.int t5.a,.int t5.b,.int t5.ca,.int t5.cb,.int t5.w])]⟩
def Mr(t:Tpl)(t5:Lnk)(t6:Bool):NF:=⟨[(2,.k,.ref 0 0),(4,.k,.ref 1 0),(9,.k,.ref 2 0),(115,.k,.bool t6)],[.box (.agg [.sl 2 (t.rs.map Rtr.v) false,.sl 5 (t.ls.map Lnk.v) false]),.box (.agg [.sl 0 [] true,.sl 0 [] true]),.box (.agg [.int t5.a,.int t5.b,.int t5.ca,.int t5.cb,.int t5.w])]⟩
def Mq(t:Tpl)(t7:Bool×Int×Lnk×List Lnk):NF:=⟨[(2,.k,.ref 0 0),(4,.k,.ref 1 0),(9,.k,.ref 2 0),(10,.k,.ref 3 0),(11,.k,.bool t7.1),(12,.k,.int t7.2.1)],[.box (.agg [.sl 2 (t.rs.map Rtr.v) false,.sl 5 (t.ls.map Lnk.v) false]),.box (.agg [.sl 0 [] true,.sl 0 [] true]),.box (.agg [.int t7.2.2.1.a,.int t7.2.2.1.b,.int t7.2.2.1.ca,.int t7.2.2.1.cb,.int t7.2.2.1.w]),.box (.agg [.sl 2 (t.rs.map Rtr.v) false,.vec 4]),.vec 5 (t7.2.2.2.map Lnk.v) (ae (λ_=>rfl) t7.2.2.2)]⟩
def Mp(t:Tpl)(t7:Bool×Int×Lnk×List Lnk)(x1:Lnk)(t8:Bool):NF:=⟨[(2,.k,.ref 0 0),(4,.k,.ref 1 0),(9,.k,.ref 2 0),(10,.k,.ref 3 0),(11,.k,.bool t7.1),(12,.k,.int t7.2.1),(13,.k,.ref 5 0),(143,.k,.bool t8)],[.box (.agg [.sl 2 (t.rs.map Rtr.v) false,.sl 5 (t.ls.map Lnk.v) false]),.box (.agg [.sl 0 [] true,.sl 0 [] true]),.box (.agg [.int t7.2.2.1.a,.int t7.2.2.1.b,.int t7.2.2.1.ca,.int t7.2.2.1.cb,.int t7.2.2.1.w]),.box (.agg [.sl 2 (t.rs.map Rtr.v) false,.vec 4]),.vec 5 (t7.2.2.2.map Lnk.v) (ae (λ_=>rfl) t7.2.2.2),.box (.agg [.int x1.a,.int x1.b,.int x1.ca,.int x1.cb,.int x1.w])]⟩
def Mo(t:Tpl)(t7:Bool×Int×Lnk×List Lnk)(x1:Lnk)(t9:Bool):NF:=⟨[(2,.k,.ref 0 0),(4,.k,.ref 1 0),(9,.k,.ref 2 0),(10,.k,.ref 3 0),(11,.k,.bool t7.1),(12,.k,.int t7.2.1),(13,.k,.ref 5 0),(175,.k,.bool t9)],[.box (.agg [.sl 2 (t.rs.map Rtr.v) false,.sl 5 (t.ls.map Lnk.v) false]),.box (.agg [.sl 0 [] true,.sl 0 [] true]),.box (.agg [.int t7.2.2.1.a,.int t7.2.2.1.b,.int t7.2.2.1.ca,.int t7.2.2.1.cb,.int t7.2.2.1.w]),.box (.agg [.sl 2 (t.rs.map Rtr.v) false,.vec 4]),.vec 5 (t7.2.2.2.map Lnk.v) (ae (λ_=>rfl) t7.2.2.2),.box (.agg [.int x1.a,.int x1.b,.int x1.ca,.int x1.cb,.int x1.w])]⟩
@[reducible] def HM:Nat→Type
 | 0=>Bool
 | 1=>Bool
 | 2=>Bool
 | 3=>Bool
 | 4=>Bool
 | 5=>Lnk
 | 6=>Bool
 | 7=>Bool×Int×Lnk×List Lnk
 | 8=>Bool
 | 9=>Bool
 | _=>Unit
def za(r:Tpl×Int):AV:=.tup [Tpl.v r.1,.int r.2]
def yZ(t:Tpl)(c:Chg)(I0:Bool→Prop)(I1:Bool→Bool→Prop)(I2:Bool→Bool→Prop)(I3:Bool→Bool→Prop)(I4:Bool→Bool→Bool→Prop)(I5:Bool→Bool→Bool→Lnk→Prop)(I6:Bool→Bool→Bool→Lnk→Bool→Prop)(I7:Bool→Bool→Bool→Lnk→Bool→(Bool×Int×Lnk×List Lnk)→Prop)(m7:Bool→Bool→Bool→Lnk→Bool→(Bool×Int×Lnk×List Lnk)→Nat)(I8:Bool→Bool→Bool→Lnk→Bool→Bool×Int×Lnk×List Lnk→Lnk→Bool→Prop)(I9:Bool→Bool→Bool→Lnk→Bool→Bool×Int×Lnk×List Lnk→Lnk→Bool→Bool→Prop):Ax Tryz.prog HM (Tpl×Int):=
 (.callP (oj t)
(.br 112 ((aD t) != 0) (.ret ((⟨[],[]⟩:Tpl),1))
(.pass (.join 0 (My t c) (λ(t0:Bool)=>I0 t0) (λb0=>(.callP (nK t c.a)
(.br 208 (!(aG t c.a)) (.bk 0 b0 ((true):Bool) [0,16,32])
(.callP (nK t c.b)
(.bk 0 b0 ((!(aG t c.b)):Bool) [0,16,32]))))) λ(t0:Bool) =>
(.br 3 t0 (.ret ((⟨[],[]⟩:Tpl),4))
(.br 83 (c.a==c.b) (.ret ((⟨[],[]⟩:Tpl),8))
(.join2 1 (Mx t c) (λ(t1:Bool)=>I1 t0 t1) (λb1=>(.br 147 (c.ca==0) (.join 2 (Mw t c) (λ(t2:Bool)=>I2 t0 t2) (λb2=>(.br 275 (!(c.cb==0)) (.callP (lE c.ca)
(.br 355 (!(dT c.ca)) (.bk 2 b2 ((true):Bool) [0,1,2])
(.callP (lE c.cb)
(.bk 2 b2 ((!(dT c.cb)):Bool) [0,1,2]))))
(.bk 2 b2 ((false):Bool) [0,1,2]))) λ(t2:Bool) =>
(.br 3 t2 (.ret ((⟨[],[]⟩:Tpl),2))
(.bk 1 b1 ((c.cb==0):Bool) [0,1,2])))
(.join 3 (Mv t c) (λ(t3:Bool)=>I3 t0 t3) (λb3=>(.callP (lE c.ca)
(.br 355 (!(dT c.ca)) (.bk 3 b3 ((true):Bool) [0,1,2])
(.callP (lE c.cb)
(.bk 3 b3 ((!(dT c.cb)):Bool) [0,1,2]))))) λ(t3:Bool) =>
(.br 3 t3 (.ret ((⟨[],[]⟩:Tpl),2))
(.bk 1 b1 ((false):Bool) [0,1,2]))))) λ(t1:Bool) =>
(.callP (wu t c.a c.b)
(.pass (.join 4 (Mt t c t1) (λ(t4:Bool)=>I4 t0 t1 t4) (λb4=>(.br 211 t1 (.bk 4 b4 ((!((be t c.a c.b).2)):Bool) [0,1,2])
(.bk 4 b4 ((false):Bool) [0,1,2]))) λ(t4:Bool) =>
(.br 3 t4 (.ret ((⟨[],[]⟩:Tpl),9))
(.br 19 t1 (.callP (Nj t (⟨[(⟨c.a,c.b⟩:Hop)],[]⟩:Flr))
(.ret (C6 t (⟨[(⟨c.a,c.b⟩:Hop)],[]⟩:Flr),0)))
(.pass (.join 5 (Ms t c) (λ(t5:Lnk)=>I5 t0 t1 t4 t5) (λb5=>(.br 275 (decide (c.b<c.a)) (.bk 5 b5 (((⟨c.b,c.a,c.cb,c.ca,0⟩:Lnk)):Lnk) [0,2,163])
(.bk 5 b5 (((⟨c.a,c.b,c.ca,c.cb,0⟩:Lnk)):Lnk) [0,2,163]))) λ(t5:Lnk) =>
(.pass (.join 6 (Mr t t5) (λ(t6:Bool)=>I6 t0 t1 t4 t5 t6) (λb6=>(.br 51 (!((be t c.a c.b).2)) (.bk 6 b6 ((((t.ls.map Lnk.v).length:Int)==60):Bool) [0,1,2])
(.bk 6 b6 ((false):Bool) [0,1,2]))) λ(t6:Bool) =>
(.br 3 t6 (.ret ((⟨[],[]⟩:Tpl),3))
(.cmdL (.nilB 51 1 5) (.loop 7 (Mq t) (I7 t0 t1 t4 t5 t6) (m7 t0 t1 t4 t5 t6) (false,0,t5,[]) [0,1,2,51,115] λ(t7:Bool×Int×Lnk×List Lnk) b7 =>
(.br 85 (decide (t7.2.1<((t.ls.map Lnk.v).length:Int))) (.elI 133 Lnk.v t.ls t7.2.1 λx1 =>
(.pass (.join 8 (Mp t t7 x1) (λ(t8:Bool)=>I8 t0 t1 t4 t5 t6 t7 x1 t8) (λb8=>(.br 293 (x1.a==t7.2.2.1.a) (.bk 8 b8 ((x1.b==t7.2.2.1.b):Bool) [0,1,2,3,4,165])
(.bk 8 b8 ((false):Bool) [0,1,2,3,4,165]))) λ(t8:Bool) =>
(.br 6 t8 (.apX 134 Lnk.v t7.2.2.2 [(⟨t7.2.2.1.a,t7.2.2.1.b,t7.2.2.1.ca,t7.2.2.1.cb,x1.w⟩:Lnk)] (t7.2.2.2.length+1)
(.bk 7 b7 (true,W (t7.2.1+1),(⟨t7.2.2.1.a,t7.2.2.1.b,t7.2.2.1.ca,t7.2.2.1.cb,x1.w⟩:Lnk),t7.2.2.2++[(⟨t7.2.2.1.a,t7.2.2.1.b,t7.2.2.1.ca,t7.2.2.1.cb,x1.w⟩:Lnk)]) [0,1,2,3,134]))
(.pass (.join 9 (Mo t t7 x1) (λ(t9:Bool)=>I9 t0 t1 t4 t5 t6 t7 x1 t8 t9) (λb9=>(.br 54 (!t7.1) (.br 150 (decide (t7.2.2.1.a<x1.a)) (.bk 9 b9 ((true):Bool) [0,1,2,3,4,5])
(.br 246 (t7.2.2.1.a==x1.a) (.bk 9 b9 ((decide (t7.2.2.1.b<x1.b)):Bool) [0,1,2,3,4,5])
(.bk 9 b9 ((false):Bool) [0,1,2,3,4,5])))
(.bk 9 b9 ((false):Bool) [0,1,2,3,4,5]))) λ(t9:Bool) =>
(.br 6 t9 (.apX 70 Lnk.v t7.2.2.2 [t7.2.2.1] (t7.2.2.2.length+1)
(.apX 198 Lnk.v (t7.2.2.2++[t7.2.2.1]) [x1] ((t7.2.2.2++[t7.2.2.1]).length+1)
(.bk 7 b7 (true,W (t7.2.1+1),t7.2.2.1,(t7.2.2.2++[t7.2.2.1])++[x1]) [0,1,2,3,198])))
(.apX 70 Lnk.v t7.2.2.2 [x1] (t7.2.2.2.length+1)
(.bk 7 b7 (t7.1,W (t7.2.1+1),t7.2.2.1,t7.2.2.2++[x1]) [0,1,2,3,70])))))))))
(.br 117 (!t7.1) (.apX 181 Lnk.v t7.2.2.2 [t7.2.2.1] (t7.2.2.2.length+1)
(.fz 181 Lnk.v (t7.2.2.2++[t7.2.2.1]) (λ_=>rfl) (.ret ((⟨t.rs,t7.2.2.2++[t7.2.2.1]⟩:Tpl),0))))
(.fz 4 Lnk.v t7.2.2.2 (λ_=>rfl) (.ret ((⟨t.rs,t7.2.2.2⟩:Tpl),0))))))))))))))))))))))))
def Cr(t:Tpl)(c:Chg)(I0:Bool→Prop)(I1:Bool→Bool→Prop)(I2:Bool→Bool→Prop)(I3:Bool→Bool→Prop)(I4:Bool→Bool→Bool→Prop)(I5:Bool→Bool→Bool→Lnk→Prop)(I6:Bool→Bool→Bool→Lnk→Bool→Prop)(I7:Bool→Bool→Bool→Lnk→Bool→(Bool×Int×Lnk×List Lnk)→Prop)(m7:Bool→Bool→Bool→Lnk→Bool→(Bool×Int×Lnk×List Lnk)→Nat)(I8:Bool→Bool→Bool→Lnk→Bool→Bool×Int×Lnk×List Lnk→Lnk→Bool→Prop)(I9:Bool→Bool→Bool→Lnk→Bool→Bool×Int×Lnk×List Lnk→Lnk→Bool→Bool→Prop)(r0:Tpl×Int):=(yZ t c I0 I1 I2 I3 I4 I5 I6 I7 m7 I8 I9).vp za r0
abbrev wd(c:Chg):Prop:=cf c=false∧(dT c.ca=false∨dT c.cb=false)
theorem Cs:∀(l:List Lnk) (s:Bool×Lnk×List Lnk),(l.foldl apS s).2.2.length≤s.2.2.length+2 * l.length
 | [],s=>by simp
 | y::l,s=>by
  have h1:=Cs l (apS s y)
  have h2:(apS s y).2.2.length≤s.2.2.length+2:=by
   unfold apS;split
   ·simp
   ·split<;>simp
  rw[List.foldl_cons,List.length_cons];omega
theorem QT(t:Tpl)(c:Chg)(ok:HN t c):∃I0 I1 I2 I3 I4 I5 I6 I7 m7 I8 I9,Cr t c I0 I1 I2 I3 I4 I5 I6 I7 m7 I8 I9 (bg t c):=by
 refine⟨λb=>b=decide (hs5 t c.a=false∨hs5 t c.b=false),λ_ b=>b=cf c∧¬wd c,λ_ b=>b=decide (wd c),λ_ b=>b=decide (wd c),
  λ_ g b=>(g=cf c∧¬wd c)∧b=decide (cf c=true∧cp t.ls (aP c)=false),λ_ g _ x=>x=aP c,λ_ _ _ x b=>b=decide (cp t.ls (aP c)=false∧t.ls.length=60),
  λ_ _ _ _ _ s=>∃k:Nat,s.2.1=k∧k≤t.ls.length∧(t.ls.take k).foldl apS (false,aP c,[])=(s.1,s.2.2.1,s.2.2.2),λ_ _ _ _ _ s=>t.ls.length-s.2.1.toNat,
  λ_ _ _ _ _ s x b=>b=decide (x.a=s.2.2.1.a∧x.b=s.2.2.1.b),λ_ _ _ _ _ s x _ b=>b=decide (s.1=false∧aQ s.2.2.1 x),?_⟩
 simp only[HN,okU,Blk.ok,aL,List.length_map]at ok
 dsimp only[Cr,yZ,HM,Ax.vp,Ax.vc];simp only[vcU,rfU,List.length_map]
 unfold bg
 refine⟨λq=>by rw[if_pos (by simpa using q)],λq=>?_⟩
 have q:aD t=0:=by simpa using q
 have hh:∀r,aG t r=hs5 t r:=λr=>by unfold hs5;rw[q];rfl
 have hl2:=(cd q).2
 have hO:=aC q
 rw[if_neg (by simpa using q),hh,hh,←rb q c]
 refine⟨⟨λd=>by rw[eq_comm,decide_eq_true_iff];exact .inl (by simpa using d),λd=>by rw[Bool.eq_iff_iff,decide_eq_true_iff];simp at d ⊢;simp[d]⟩,?_⟩
 rintro _ rfl
 refine⟨λd=>by rw[if_pos (of_decide_eq_true d)],λd=>?_⟩
 rw[if_neg (of_decide_eq_false d)]
 refine⟨λd=>by rw[if_pos (eq_of_beq d)],λd=>?_⟩
 rw[if_neg (by simpa using d)]
 refine⟨⟨λe=>⟨⟨λe2=>⟨λg=>?_,λg=>?_⟩,λe2=>?_⟩,?_⟩,λe=>⟨⟨λg=>?_,λg=>?_⟩,?_⟩⟩,?_⟩
 ·rw[eq_comm,decide_eq_true_iff];exact⟨by unfold cf;simp at e2;simp[e2],.inl (by simpa using g)⟩
 ·rw[Bool.eq_iff_iff,decide_eq_true_iff];unfold wd cf;simp at e2 g ⊢;simp[e2,g]
 ·rw[eq_comm,decide_eq_false_iff_not];unfold wd cf;simp at e e2 ⊢;simp[e,e2]
 ·rintro _ rfl
  exact⟨λg=>by rw[if_pos (of_decide_eq_true g)],λg=>⟨by unfold cf;rw[e];rfl,of_decide_eq_false g⟩⟩
 ·rw[eq_comm,decide_eq_true_iff];exact⟨by unfold cf;rw[e];rfl,.inl (by simpa using g)⟩
 ·rw[Bool.eq_iff_iff,decide_eq_true_iff];unfold wd cf;simp at e g ⊢;simp[e,g]
 ·rintro _ rfl
  exact⟨λg=>by rw[if_pos (of_decide_eq_true g)],λg=>⟨by unfold cf;rw[e];rfl,of_decide_eq_false g⟩⟩
 rintro _ ⟨rfl,hr⟩
 rw[if_neg hr]
 refine⟨⟨λe=>⟨⟨rfl,hr⟩,by rw[Bool.eq_iff_iff,decide_eq_true_iff];simp[e]⟩,λe=>⟨⟨rfl,hr⟩,by rw[eq_comm,decide_eq_false_iff_not];simp[e]⟩⟩,?_⟩
 rintro _ ⟨_,rfl⟩
 refine⟨λg=>by rw[if_pos (of_decide_eq_true g)],λg9=>?_⟩
 have g9:=of_decide_eq_false g9
 rw[if_neg g9]
 refine⟨λe=>?_,λe=>⟨⟨λg=>by unfold aP;rw[if_pos g],λg=>by unfold aP;rw[if_neg g]⟩,?_⟩⟩
 ·have hit:cp t.ls (aP c)=true:=by simpa[e]using g9
  rw[if_neg (by simp[hit]),if_pos e,Ia q c hit]
 rintro _ rfl
 refine⟨⟨λg=>?_,λg=>?_⟩,?_⟩
 ·rw[Bool.eq_iff_iff,decide_eq_true_iff,beq_iff_eq];simp at g;simp[g];omega
 ·rw[eq_comm,decide_eq_false_iff_not];simp at g;simp[g]
 rintro _ rfl
 refine⟨λg=>by rw[if_pos (of_decide_eq_true g)],λg=>?_⟩
 rw[if_neg (of_decide_eq_false g),if_neg (by simp[e])]
 refine⟨⟨0,rfl,by omega,rfl⟩,?_⟩
 rintro⟨dn,_,x,out⟩ ⟨k,rfl,hk,hF⟩
 simp only at hF ⊢
 have hlen:=Cs (t.ls.take k) (false,aP c,[])
 rw[hF,List.length_take]at hlen
 simp only[List.length_nil]at hlen
 refine⟨λg=>⟨by omega,g,λy hy=>?_⟩,λg=>?_⟩
 ·rw[Int.toNat_natCast]at hy
  have hs:(t.ls.take (k+1)).foldl apS (false,aP c,[])=apS (dn,x,out) y:=by rw[aU hy,List.foldl_append,hF];rfl
  have w:W ((k:Int)+1)=((k+1:Nat):Int):=bM (n:=t.ls.length) (by omega) (by omega)
  rw[w]
  refine⟨⟨λa=>by rw[Bool.eq_iff_iff,beq_iff_eq,decide_eq_true_iff];simp at a;simp[a],λa=>by simp at a;simp[a]⟩,?_⟩
  rintro _ rfl
  refine⟨λa=>⟨by omega,⟨k+1,rfl,by omega,?_⟩,by omega⟩,λa=>⟨⟨λb=>⟨λg1=>?_,λg1=>⟨λg2=>?_,λg2=>?_⟩⟩,λb=>?_⟩,?_⟩⟩
  ·rw[hs];unfold apS;rw[if_pos (of_decide_eq_true a)]
  ·rw[eq_comm,decide_eq_true_iff];exact⟨by simpa using b,.inl g1⟩
  ·rw[decide_eq_decide];simp at b g2;unfold aQ;simp[b,g2]
  ·rw[eq_comm,decide_eq_false_iff_not];simp at g2;unfold aQ;rintro⟨_,h|h⟩<;>omega
  ·rw[eq_comm,decide_eq_false_iff_not];simp at b;simp[b]
  rintro _ rfl
  have a':=of_decide_eq_false a
  refine⟨λb=>⟨by omega,by simp;omega,⟨k+1,rfl,by omega,?_⟩,by omega⟩,λb=>⟨by omega,⟨k+1,rfl,by omega,?_⟩,by omega⟩⟩
  ·rw[hs];unfold apS;rw[if_neg a',if_pos (of_decide_eq_true b)]
  ·rw[hs];unfold apS;rw[if_neg a',if_neg (of_decide_eq_false b)]
 ·have hfin:=QV hO.ord (aP c)
  rw[List.take_of_length_le (by omega)]at hF
  rw[hF]at hfin
  unfold apF at hfin
  refine⟨λa=>⟨by omega,?_⟩,λa=>?_⟩
  ·have a:dn=false:=by simpa using a
   subst a
   simp only[if_true]at hfin
   rw[hfin];split<;>rfl
  ·have a:dn=true:=by simpa using a
   subst a
   simp only[Bool.true_eq_false,if_false]at hfin
   rw[hfin];split<;>rfl
def QU(t:Tpl)(c:Chg):PC Tryz.prog:=⟨32,[(.a [(.s 2),(.s 5)]),.k],[.agg [.sl 2 (t.rs.map Rtr.v) false,.sl 5 (t.ls.map Lnk.v) false],.agg [.int c.a,.int c.b,.int c.ca,.int c.cb]],za (bg t c),ax.of_ok λok=>(QT t c ok).elim λI0 h=>h.elim λI1 h=>h.elim λI2 h=>h.elim λI3 h=>h.elim λI4 h=>h.elim λI5 h=>h.elim λI6 h=>h.elim λI7 h=>h.elim λm7 h=>h.elim λI8 h=>h.elim λI9 h=>aw (sh:=(.a [(.a [(.s 2),(.s 5)]),.k])) (enc:=za) (a:=(yZ t c I0 I1 I2 I3 I4 I5 I6 I7 m7 I8 I9).an) h (by kernel_rfl) (AV.pureB_ok rfl),aq (by kernel_rfl)⟩
def kD(t:Tpl)(c:Chg):Int×Int:=
 if ¬(bg t c).2=0 then(0,(bg t c).2)
 else if cf c=true∨((be t c.a c.b).2=true∧(be t c.a c.b).1≤c.ca∧(be t c.b c.a).1≤c.cb)then(1,0)
 else if(be t c.a c.b).2=false∨(c.ca≤(be t c.a c.b).1∧c.cb≤(be t c.b c.a).1)then(2,0)
 else(0,8)
def B6(t:Tpl)(c:Chg):List Hop:=
 (if(be t c.a c.b).2=false∨¬c.ca=(be t c.a c.b).1 then [⟨c.a,c.b⟩]else [])++(if(be t c.a c.b).2=false∨¬c.cb=(be t c.b c.a).1 then [⟨c.b,c.a⟩]else [])
theorem L7{t:Tpl}(h:Rj t):aD t=0:=by
 unfold aD
 have h1:=h.nr
 have h2:=h.nl
 rw[if_neg (by omega),if_neg (not_not_intro h.rg),if_neg (not_not_intro h.asc),if_neg (not_not_intro h.lr),if_neg (not_not_intro h.has),if_neg (not_not_intro h.lt),if_neg (not_not_intro h.ord)]
theorem spl_L{l:List Lnk}(h:l.Pairwise aQ)(x:Lnk):∃A M B,l=A++M++B∧A.length=aN l x∧(∀y∈A,aQ y x)∧(∀y∈B,aQ x y) ∧
  ((cp l x=true∧∃z,M=[z]∧z.a=x.a∧z.b=x.b)∨(cp l x=false∧M=[])):=by
 obtain⟨s1,s2,s3⟩:=li h x
 have hsplit:l=l.take (aN l x)++l.drop (aN l x):=(List.take_append_drop _ _).symm
 have htk:∀y∈l.take (aN l x),aQ y x:=λy hy=>by
  obtain⟨j,hj,rfl⟩:=List.mem_take_iff_getElem.mp hy
  exact s1 j _ (by omega) (List.getElem?_eq_getElem (by omega))
 have hlen:(l.take (aN l x)).length=aN l x:=by rw[List.length_take];omega
 have hh:cp l x=(l[aN l x]?).any (gC x):=rfl
 by_cases hp:aN l x<l.length
 ·have hz:l[aN l x]?=some l[aN l x]:=List.getElem?_eq_getElem hp
  have hd:l.drop (aN l x)=l[aN l x]::l.drop (aN l x+1):=List.drop_eq_getElem_cons hp
  generalize l[aN l x]=z at hz hd
  have hr:∀y∈l.drop (aN l x+1),aQ z y:=λy hy=>by
   obtain⟨j,hj⟩:=List.mem_iff_getElem?.mp hy
   rw[List.getElem?_drop]at hj
   exact f8 h (by omega) hz hj
  have hnz:=s2 _ z (Nat.le_refl _) hz
  by_cases e:z.a=x.a∧z.b=x.b
  ·refine⟨l.take (aN l x),[z],l.drop (aN l x+1),?_,hlen,htk,λy hy=>?_,.inl ⟨?_,z,rfl,e⟩⟩
   ·conv=>lhs;rw[hsplit,hd]
    simp
   ·have:=hr y hy;unfold aQ at *;omega
   ·rw[hh,hz];simp[gC,e]
  ·have hxz:aQ x z:=by unfold aQ at *;omega
   refine⟨l.take (aN l x),[],l.drop (aN l x),?_,hlen,htk,λy hy=>?_,.inr ⟨?_,rfl⟩⟩
   ·conv=>lhs;rw[hsplit]
    simp
   ·rw[hd]at hy
    rcases List.mem_cons.mp hy with rfl|hy
    ·exact hxz
    ·exact qJ hxz (hr y hy)
   ·rw[hh,hz];simp[gC];exact λq=>λq2=>e ⟨q,q2⟩
 ·refine⟨l.take (aN l x),[],l.drop (aN l x),?_,hlen,htk,λy hy=>?_,.inr ⟨?_,rfl⟩⟩
  ·conv=>lhs;rw[hsplit]
   simp
  ·rw[List.drop_of_length_le (by omega)]at hy;simp at hy
  ·rw[hh,List.getElem?_eq_none (by omega)];rfl
theorem KR{α:Type}{A B:List α}{z:α}{k:Nat}(h:A.length=k):eC (A++[z]++B) k=A++B:=by
 subst h;unfold eC
 have e:A++[z]++B=A++(z::B):=by simp
 rw[e,List.take_left]
 have:A++z::B=(A++[z])++B:=by simp
 rw[this,show A.length+1=(A++[z]).length by simp,List.drop_left]
theorem Ko{α:Type}{A B:List α}{z:α}{k:Nat}(h:A.length=k):bD (A++[]++B) k z=A++[z]++B:=by
 subst h;unfold bD
 rw[List.append_nil,List.take_left,List.drop_left]
theorem Ej{α:Type}{A B:List α}{x v:α}{k:Nat}(h:A.length=k):(A++[x]++B).set k v=A++[v]++B:=by
 have e:A++[x]++B=A++(x::B):=by simp
 rw[e,pH h];simp
structure HY (t:Tpl) (c:Chg) (t':Tpl):Prop where
  ex:∃A M N B,t.ls=A++M++B∧t'.ls=A++N++B∧(∀y∈A,aQ y (aP c))∧(∀y∈B,aQ (aP c) y)∧(∀y∈M,y.a=(aP c).a∧y.b=(aP c).b) ∧
    ((cf c=true∧N=[])∨(cf c=false∧∃w,(0≤w∧w≤1000)∧N=[{ aP c with w:=w }]))∧M.length≤1∧N.length≤1∧((be t c.a c.b).2=true↔M≠[])
  rs:t'.rs=t.rs
  nl:t'.ls.length≤60
  ha:aG t c.a=true
  hb:aG t c.b=true
  ne:c.a≠c.b
  co:cf c=false→dT c.ca=true∧dT c.cb=true
  rm:cf c=true→(be t c.a c.b).2=true
theorem Cp{t:Tpl}{c:Chg}(h:(bg t c).2=0):aD t=0∧HY t c (bg t c).1:=by
 have hc:aD t=0:=by
  refine Classical.byContradiction λq=>?_
  unfold bg at h;rw[if_pos q]at h;cases h
 refine⟨hc,?_⟩
 have hO:=aC hc
 obtain⟨A,M,B,e0,e1,e2,e3,e4⟩:=spl_L hO.ord (aP c)
 have hM:(be t c.a c.b).2=true↔M≠[]:=by
  rw[←rb hc]
  rcases e4 with⟨g,z,rfl,_⟩|⟨g,rfl⟩
  ·simp[g]
  ·simp[g]
 have hMk:(∀y∈M,y.a=(aP c).a∧y.b=(aP c).b)∧M.length≤1:=by
  rcases e4 with⟨g,z,rfl,gz⟩|⟨g,rfl⟩
  ·exact⟨λy hy=>by rw[List.mem_singleton.mp hy];exact gz,by simp⟩
  ·simp
 have hnl:=hO.nl
 unfold bg at h ⊢
 rw[if_neg (not_not_intro hc)]at h ⊢
 by_cases c1:hs5 t c.a=false∨hs5 t c.b=false
 ·rw[if_pos c1]at h;cases h
 rw[if_neg c1]at h ⊢
 by_cases c2:c.a=c.b
 ·rw[if_pos c2]at h;cases h
 rw[if_neg c2]at h ⊢
 by_cases c3:cf c=false∧(dT c.ca=false∨dT c.cb=false)
 ·rw[if_pos c3]at h;cases h
 rw[if_neg c3]at h ⊢
 by_cases c4:cf c=true∧cp t.ls (aP c)=false
 ·rw[if_pos c4]at h;cases h
 rw[if_neg c4]at h ⊢
 by_cases c5:cp t.ls (aP c)=false∧t.ls.length=60
 ·rw[if_pos c5]at h;cases h
 rw[if_neg c5]
 have ha:aG t c.a=true:=by
  have:hs5 t c.a=true:=by simp at c1;exact c1.1
  exact(dq.mp this).2
 have hb:aG t c.b=true:=by
  have:hs5 t c.b=true:=by simp at c1;exact c1.2
  exact(dq.mp this).2
 have hco:cf c=false→dT c.ca=true∧dT c.cb=true:=λq=>by
  simp[q]at c3;exact c3
 have hrm:cf c=true→(be t c.a c.b).2=true:=λq=>by
  rw[←rb hc];simpa[q]using c4
 by_cases c6:cf c=true
 ·rw[if_pos c6]
  have g:cp t.ls (aP c)=true:=by simpa[c6]using c4
  rcases e4 with⟨_,z,rfl,gz⟩|⟨g',_⟩
  ·have e5:eC t.ls (aN t.ls (aP c))=A++[]++B:=by
    rw[←e1,e0,KR rfl];simp
   refine⟨⟨A,[z],[],B,e0,e5,e2,e3,hMk.1,.inl ⟨c6,rfl⟩,by simp,by simp,hM⟩,rfl,?_,ha,hb,c2,hco,hrm⟩
   simp only[e5];rw[e0]at hnl;simp at hnl ⊢;omega
  ·rw[g]at g';cases g'
 rw[if_neg c6]
 have c6':cf c=false:=by simpa using c6
 by_cases c7:cp t.ls (aP c)=true
 ·rw[if_pos c7]
  rcases e4 with⟨_,z,rfl,gz⟩|⟨g',_⟩
  ·have e6:t.ls.getD (aN t.ls (aP c)) ⟨0,0,0,0,0⟩=z:=by
    rw[←e1,e0,List.getD_eq_getElem?_getD,List.append_assoc,List.getElem?_append_right (Nat.le_refl _)];simp
   have hw:=(hO.lr z (by rw[e0];simp)).2.2
   have e5:t.ls.set (aN t.ls (aP c)) { aP c with w:=z.w }=A++[{ aP c with w:=z.w }]++B:=by
    rw[←e1];conv=>lhs;rw[e0]
    exact Ej rfl
   rw[e6]
   refine⟨⟨A,[z],_,B,e0,e5,e2,e3,hMk.1,.inr ⟨c6',z.w,hw,rfl⟩,by simp,by simp,hM⟩,rfl,?_,ha,hb,c2,hco,hrm⟩
   simp only[List.length_set];exact hnl
  ·rw[c7]at g';cases g'
 ·rw[if_neg c7]
  rcases e4 with⟨g',_⟩|⟨g',rfl⟩
  ·exact absurd g' c7
  ·have e5:bD t.ls (aN t.ls (aP c)) (aP c)=A++[{ aP c with w:=0 }]++B:=by
    have:aP c={ aP c with w:=0 }:=by unfold aP;split<;>rfl
    rw[←this,←e1];conv=>lhs;rw[e0]
    exact Ko rfl
   refine⟨⟨A,[],_,B,e0,e5,e2,e3,hMk.1,.inr ⟨c6',0,by omega,rfl⟩,by simp,by simp,hM⟩,rfl,?_,ha,hb,c2,hco,hrm⟩
   have:¬t.ls.length=60:=λq=>c5 ⟨g',q⟩
   simp only[e5]
   rw[e0]at this hnl;simp at this hnl ⊢;omega
theorem qK{c:Chg}(h:c.a≠c.b):(aP c).a<(aP c).b∧(((aP c).a=c.a∧(aP c).b=c.b∧(aP c).ca=c.ca∧(aP c).cb=c.cb)∨((aP c).a=c.b∧(aP c).b=c.a∧(aP c).ca=c.cb∧(aP c).cb=c.ca)):=by
 unfold aP
 split
 ·simp;omega
 ·simp;omega
theorem NX{A M N B:List Lnk}{x:Lnk}(h:(A++M++B).Pairwise aQ)(hA:∀y∈A,aQ y x)(hB:∀y∈B,aQ x y)(hN:N.length≤1)(hk:∀y∈N,y.a=x.a∧y.b=x.b):(A++N++B).Pairwise aQ:=by
 rw[List.append_assoc,List.pairwise_append]at h ⊢
 obtain⟨h1,h2,h3⟩:=h
 rw[List.pairwise_append]at h2 ⊢
 refine⟨h1,⟨?_,h2.2.1,λa ha b hb=>?_⟩,λa ha b hb=>?_⟩
 ·match N,hN with
  | [],_=>exact List.Pairwise.nil
  | [z],_=>exact List.pairwise_singleton _ _
 ·have:=hB b hb;have:=hk a ha;unfold aQ at *;omega
 ·rcases List.mem_append.mp hb with hb|hb
  ·have:=hA a ha;have:=hk b hb;unfold aQ at *;omega
  ·exact h3 a ha b (List.mem_append_right _ hb)
theorem gU{t t':Tpl}(h:t'.rs=t.rs)(x:Int):aG t' x=aG t x:=by unfold aG;rw[h]
theorem jk{t t':Tpl}{c:Chg}(hc:aD t=0)(h:HY t c t'):aD t'=0:=by
 obtain⟨⟨A,M,N,B,e0,e1,hA,hB,hM,hN,hm,hn,_⟩,hr,hl,ha,hb,hne,hco,_⟩:=h
 have hO:=aC hc
 obtain⟨k1,k2⟩:=qK hne
 have hNk:∀y∈N,(y.a=(aP c).a∧y.b=(aP c).b)∧fO y:=λy hy=>by
  rcases hN with⟨_,rfl⟩|⟨hr,w,hw,rfl⟩
  ·simp at hy
  ·rw[List.mem_singleton.mp hy]
   obtain⟨c1,c2⟩:=hco hr
   refine⟨⟨rfl,rfl⟩,?_⟩
   unfold fO
   simp only
   rcases k2 with⟨_,_,q1,q2⟩|⟨_,_,q1,q2⟩
   ·rw[q1,q2];exact⟨c1,c2,hw⟩
   ·rw[q1,q2];exact⟨c2,c1,hw⟩
 have hmem:∀y∈t'.ls,y∈N∨y∈t.ls:=λy hy=>by
  rw[e1]at hy;rw[e0]
  simp only[List.mem_append]at hy ⊢
  rcases hy with(hy|hy)|hy
  ·exact .inr (.inl (.inl hy))
  ·exact .inl hy
  ·exact .inr (.inr hy)
 refine L7 ⟨by rw[hr];exact hO.nr,hl,by rw[hr];exact hO.rg,by rw[hr];exact hO.asc,λy hy=>?_,λy hy=>?_,λy hy=>?_,?_⟩
 ·rcases hmem y hy with g|g
  ·exact(hNk y g).2
  ·exact hO.lr y g
 ·rw[gU hr,gU hr]
  rcases hmem y hy with g|g
  ·obtain⟨⟨q1,q2⟩,_⟩:=hNk y g
   rw[q1,q2]
   rcases k2 with⟨r1,r2,_⟩|⟨r1,r2,_⟩<;>rw[r1,r2]
   ·exact⟨ha,hb⟩
   ·exact⟨hb,ha⟩
  ·exact hO.has y g
 ·rcases hmem y hy with g|g
  ·obtain⟨⟨q1,q2⟩,_⟩:=hNk y g
   omega
  ·exact hO.lt y g
 ·have:=hO.ord
  rw[e0]at this
  rw[e1]
  exact NX this hA hB hn (λy hy=>(hNk y hy).1)
def onC(c:Chg)(u v:Int):Prop:=(u=c.a∧v=c.b)∨(u=c.b∧v=c.a)
theorem kJ{t t':Tpl}{c:Chg}(hc:aD t=0)(h:HY t c t'){u v k:Int}(hn:¬onC c u v):cz t' u v k↔cz t u v k:=by
 have hc':=jk hc h
 obtain⟨⟨A,M,N,B,e0,e1,hA,hB,hM,hN,hm,hn',_⟩,hr,hl,ha,hb,hne,hco,_⟩:=h
 obtain⟨k1,k2⟩:=qK hne
 unfold onC at hn
 have hNk:∀y∈N,y.a=(aP c).a∧y.b=(aP c).b:=λy hy=>by
  rcases hN with⟨_,rfl⟩|⟨hr,w,hw,rfl⟩
  ·simp at hy
  ·rw[List.mem_singleton.mp hy];exact⟨rfl,rfl⟩
 unfold cz
 rw[e0,e1]
 simp only[List.mem_append]
 constructor
 ·rintro⟨l,(hl|hl)|hl,q⟩
  ·exact⟨l,.inl (.inl hl),q⟩
  ·have:=hNk l hl;omega
  ·exact⟨l,.inr hl,q⟩
 ·rintro⟨l,(hl|hl)|hl,q⟩
  ·exact⟨l,.inl (.inl hl),q⟩
  ·have:=hM l hl;omega
  ·exact⟨l,.inr hl,q⟩
theorem eO{t t':Tpl}{c:Chg}(hc:aD t=0)(h:HY t c t'){k:Int}:(cz t' c.a c.b k↔cf c=false∧k=c.ca)∧(cz t' c.b c.a k↔cf c=false∧k=c.cb):=by
 obtain⟨⟨A,M,N,B,e0,e1,hA,hB,hM,hN,hm,hn',_⟩,hr,hl,ha,hb,hne,hco,_⟩:=h
 obtain⟨k1,k2⟩:=qK hne
 have hoff:∀y,y∈A∨y∈B→¬(y.a=c.a∧y.b=c.b)∧¬(y.b=c.a∧y.a=c.b):=λy hy=>by
  have:aQ y (aP c)∨aQ (aP c) y:=hy.elim (λq=>.inl (hA y q)) (λq=>.inr (hB y q))
  have hlt:=(aC hc).lt y (by rw[e0];simp only[List.mem_append];rcases hy with q|q<;>simp[q])
  unfold aQ at this;omega
 have key:∀u v,(u=c.a∧v=c.b∨u=c.b∧v=c.a)→(cz t' u v k↔∃l∈N,(l.a=u∧l.b=v∧l.ca=k)∨(l.b=u∧l.a=v∧l.cb=k)):=λu v huv=>by
  unfold cz
  rw[e1]
  simp only[List.mem_append]
  constructor
  ·rintro⟨l,(hl|hl)|hl,q⟩
   ·have:=hoff l (.inl hl);omega
   ·exact⟨l,hl,q⟩
   ·have:=hoff l (.inr hl);omega
  ·rintro⟨l,hl,q⟩
   exact⟨l,.inl (.inr hl),q⟩
 rw[key c.a c.b (.inl ⟨rfl,rfl⟩),key c.b c.a (.inr ⟨rfl,rfl⟩)]
 rcases hN with⟨hr,rfl⟩|⟨hr,w,hw,rfl⟩
 ·simp[hr]
 ·simp only[List.mem_singleton,exists_eq_left,hr,true_and]
  omega
theorem i9{t:Tpl}(hc:aD t=0)(u v:Int):(be t u v).2=true↔∃k,cz t u v k:=by
 constructor
 ·intro h;exact⟨(be t u v).1,(cm hc).mpr (Prod.ext rfl h)⟩
 ·rintro⟨k,h⟩;rw[(cm hc).mp h]
theorem uy{t:Tpl}{u v k:Int}(h:cz t u v k):∃k',cz t v u k':=by
 obtain⟨l,hl,⟨h1,h2,h3⟩|⟨h1,h2,h3⟩⟩:=h
 ·exact⟨l.cb,l,hl,.inr ⟨h2,h1,rfl⟩⟩
 ·exact⟨l.ca,l,hl,.inl ⟨h2,h1,rfl⟩⟩
theorem ED{t:Tpl}{u v:Int}(h:(be t u v).2=false):be t u v=(0,false):=by
 unfold be at *
 split at h
 ·cases h
 ·rfl
theorem EC{t t':Tpl}{c:Chg}(hc:aD t=0)(h:HY t c t'):be t' c.a c.b=(if cf c=true then(0,false)else(c.ca,true))∧be t' c.b c.a=(if cf c=true then(0,false)else(c.cb,true)):=by
 have hc':=jk hc h
 cases hr:cf c with
 | true =>
  simp only[if_true]
  constructor
  ·refine ED ?_
   rw[Bool.eq_false_iff];intro q
   obtain⟨k,q⟩:=(i9 hc' _ _).mp q
   have:=((eO hc h).1.mp q).1
   rw[hr]at this;cases this
  ·refine ED ?_
   rw[Bool.eq_false_iff];intro q
   obtain⟨k,q⟩:=(i9 hc' _ _).mp q
   have:=((eO hc h).2.mp q).1
   rw[hr]at this;cases this
 | false =>
  rw[if_neg (by simp),if_neg (by simp)]
  exact⟨(cm hc').mp ((eO hc h).1.mpr ⟨hr,rfl⟩),(cm hc').mp ((eO hc h).2.mpr ⟨hr,rfl⟩)⟩
theorem Ak{t:Tpl}(hc:aD t=0)(u v:Int):(be t v u).2=(be t u v).2:=by
 rw[Bool.eq_iff_iff,i9 hc,i9 hc]
 exact⟨λ⟨k,h⟩=>uy h,λ⟨k,h⟩=>uy h⟩
theorem ji{t:Tpl}(hc:aD t=0)(u v:Int):bz t u v=be t u v:=by unfold bz;rw[if_neg (not_not_intro hc)]
theorem cmp3(x a:Int):(x<a∧¬a≤x∧¬a<x∧x≤a∧¬x=a)∨(x=a∧a≤x∧¬a<x∧x≤a∧¬x<a)∨(a<x∧a≤x∧¬x<a∧¬x≤a∧¬x=a):=by omega
theorem NR(t:Tpl)(c:Chg):kD t c=((aI t c).1,(aI t c).2.2.2)∧((aI t c).2.2.2=0→B6 t c=(aI t c).2.2.1):=by
 by_cases h:(bg t c).2=0
 case neg =>
  unfold kD aI
  rw[if_pos h,if_pos h]
  exact⟨rfl,λe=>absurd e h⟩
 obtain⟨hc,hS⟩:=Cp h
 have hc':=jk hc hS
 obtain⟨p1,p2⟩:=EC hc hS
 have hsym:=Ak hc c.a c.b
 have q1:=λe=>eS hc (f:=c.a) (g:=c.b) e
 have q2:=λe=>eS hc (f:=c.b) (g:=c.a) e
 have hrm:=hS.rm
 have hco:=hS.co
 unfold kD aI B6 eW
 rw[if_neg (not_not_intro h),if_neg (not_not_intro h)]
 simp only[List.any_cons,List.any_nil,List.filter_cons,List.filter_nil,upH,dnH,chH,ji hc,ji hc',p1,p2]
 clear p1 p2 hS hc' h
 generalize be t c.a c.b=p at *
 generalize be t c.b c.a=q at *
 obtain⟨a,ok⟩:=p
 obtain⟨b,ok'⟩:=q
 simp only at hsym q1 q2 hrm
 subst hsym
 cases hr:cf c with
 | true =>
  have ok':=hrm hr
  subst ok'
  have:=q1 rfl
  have:=q2 rfl
  have e:c.ca=0∧c.cb=0:=by unfold cf at hr;simpa using hr
  rw[e.1,e.2]
  have a1:¬(0:Int)=a:=by omega
  have b1:¬(0:Int)=b:=by omega
  simp[a1,b1]
 | false =>
  cases ok' with
  | false=>simp
  | true =>
   rcases cmp3 c.ca a with⟨x1,x2,x3,x4,x5⟩|⟨x1,x2,x3,x4,x5⟩|⟨x1,x2,x3,x4,x5⟩<;>rcases cmp3 c.cb b with⟨y1,y2,y3,y4,y5⟩|⟨y1,y2,y3,y4,y5⟩|⟨y1,y2,y3,y4,y5⟩<;>simp[x1,x2,x3,x4,x5,y1,y2,y3,y4,y5]
theorem lJ{t:Tpl}(hc:aD t=0){d:Int}(hd:aG t d=true)(u:Int):at6 t (to6 t d) u=if(aM t u d).2=true then(aM t u d).1 else gB:=by
 rw[zH hc hd,rU hc]
 by_cases h:aY (cJ (inG t) d) u=true
 ·rw[if_pos h,if_pos h];simp
 ·rw[if_neg h,if_neg h];simp
theorem dW{t:Tpl}(hc:aD t=0){x y d:Int}:y∈iE t x d↔∃w,cz t x y w∧(aM t x d).2=true∧(aM t y d).2=true∧w+(aM t y d).1=(aM t x d).1:=by
 unfold iE
 constructor
 ·intro h
  split at h
  ·cases h
  rename_i e
  have hd:aG t d=true:=by
   have:hs5 t d=true:=by simp at e;exact e.2
   exact(dq.mp this).2
  unfold eA at h
  split at h
  ·cases h
  rename_i e1
  obtain⟨h1,h2⟩:=List.mem_filter.mp h
  unfold okN at h2
  simp only[Bool.and_eq_true,decide_eq_true_iff,beq_iff_eq]at h2
  rw[lJ hc hd,lJ hc hd]at h2
  rw[lJ hc hd]at e1
  have h1:=(AJ hc).mp h1
  have hp:=eS hc h1
  have cy:(aM t y d).2=true:=by
   refine Classical.byContradiction λq=>?_
   rw[if_neg q]at h2;unfold gB at h2;omega
  have cx:(aM t x d).2=true:=by
   refine Classical.byContradiction λq=>?_
   rw[if_neg q]at e1;unfold gB at e1;omega
  rw[if_pos cy,if_pos cx]at h2
  obtain⟨_,_,b1,b2⟩:=aX (bj cy)
  rw[dm (by omega)]at h2
  exact⟨_,(cm hc).mpr (Prod.ext rfl h1),cx,cy,h2.2⟩
 ·rintro⟨w,he,cx,cy,e⟩
  obtain⟨_,hx,hd⟩:=dU cx
  have hw:=he.cost hc
  have hp:=(cm hc).mp he
  obtain⟨_,_,b1,b2⟩:=aX (bj cy)
  obtain⟨_,_,d1,d2⟩:=aX (bj cx)
  rw[if_neg (by rw[dq.mpr ⟨hc,hx⟩,dq.mpr ⟨hc,hd⟩];simp)]
  unfold eA
  rw[if_neg (by rw[lJ hc hd,if_pos cx];omega)]
  refine List.mem_filter.mpr ⟨(AJ hc).mpr (by rw[hp]),?_⟩
  unfold okN
  rw[lJ hc hd,lJ hc hd,if_pos cx,if_pos cy,hp]
  simp only[Bool.and_eq_true,decide_eq_true_iff,beq_iff_eq]
  exact⟨by omega,by rw[dm (by omega)];exact e⟩
def o4(t:Tpl)(f g:Int)(h:Hop):Bool:=(bz t h.a h.b).2 && ((aM t f g).2 && ((aM t f h.a).2 && ((aM t h.b g).2 && (W (W ((aM t f h.a).1+(bz t h.a h.b).1)+(aM t h.b g).1)==(aM t f g).1))))
theorem mg{t:Tpl}(hc:aD t=0){f g:Int}{h:Hop}(he:(bz t h.a h.b).2=true):o4 t f g h=jn (cV t) f g h (bz t h.a h.b).1:=by
 have hp:1≤(bz t h.a h.b).1∧(bz t h.a h.b).1≤1000:=by rw[ji hc]at he ⊢;exact eS hc he
 rw[Bool.eq_iff_iff,gL hp]
 unfold o4
 simp only[Bool.and_eq_true,beq_iff_eq,he,true_and]
 constructor
 ·rintro⟨h1,h2,h3,h4⟩
  obtain⟨_,_,p1,p2⟩:=aX (bj h2)
  obtain⟨_,_,q1,q2⟩:=aX (bj h3)
  rw[dm (n:=(aM t f h.a).1+_) (by omega),dm (by omega)]at h4
  exact⟨h2,h3,h1,h4⟩
 ·rintro⟨h2,h3,h1,h4⟩
  obtain⟨_,_,p1,p2⟩:=aX (bj h2)
  obtain⟨_,_,q1,q2⟩:=aX (bj h3)
  rw[dm (n:=(aM t f h.a).1+_) (by omega),dm (by omega)]
  exact⟨h1,h2,h3,h4⟩
def bhA(t:Tpl)(h:Hop)(x y:Int)(r:Rtr):Bool:=o4 t x r.id h && (decide (y∈iE t x r.id) && o4 t y r.id h)
def bhO(t:Tpl)(x y:Int)(h:Hop):Bool:=(x != h.a) && t.rs.any (bhA t h x y)
def ot(t:Tpl)(l:List Hop)(x y:Int):Bool:=l.any (bhO t x y)
theorem iG{α:Type}(f:Rws→α→Rws)(Q:α→Int→Int→Prop)(hf:∀M a,(av M).Nodup→(av (f M a)).Nodup∧∀x y,y∈aB (f M a) x []↔y∈aB M x []∨Q a x y) :
  ∀(l:List α) (M:Rws),(av M).Nodup→(av (l.foldl f M)).Nodup∧∀x y,y∈aB (l.foldl f M) x []↔y∈aB M x []∨∃a∈l,Q a x y
 | [],M,h=>⟨h,λx y=>by simp⟩
 | a::l,M,h=>by
  obtain⟨h1,h2⟩:=hf M a h
  obtain⟨h3,h4⟩:=iG f Q hf l (f M a) h1
  refine⟨h3,λx y=>?_⟩
  rw[List.foldl_cons,h4,h2]
  simp[or_assoc]
def beC(t:Tpl)(h:Hop)(c d x y w:Int):Bool:=(x != h.a) && (jn (cV t) x d ⟨x,y⟩ w && (jn (cV t) x d h c && jn (cV t) y d h c))
theorem LV(t:Tpl)(h:Hop)(c d:Int)(M:Rws)(s:Int×Int×Int)(hn:(av M).Nodup):(av (beI t h c d M s)).Nodup∧∀x y,y∈aB (beI t h c d M s) x []↔y∈aB M x []∨(x=s.1∧y=s.2.1∧beC t h c d s.1 s.2.1 s.2.2=true):=by
 have e:beQ t h c d s.1 s.2.1 s.2.2 M=(beC t h c d s.1 s.2.1 s.2.2 && !decide (s.2.1∈aB M s.1 [])):=by
  unfold beQ beC;simp only[Bool.and_assoc]
 unfold beI
 split
 ·rename_i q
  rw[e]at q
  simp only[Bool.and_eq_true,Bool.not_eq_true',decide_eq_false_iff_not]at q
  refine⟨Aj hn _ _,λx y=>?_⟩
  rw[wn hn]
  split
  ·rename_i e1;subst e1;simp[q.1]
  ·rename_i e1;simp[e1]
 ·rename_i q
  rw[e]at q
  refine⟨hn,λx y=>⟨.inl,?_⟩⟩
  rintro(h|⟨rfl,rfl,h⟩)
  ·exact h
  ·simpa[h]using q
theorem Cg{t:Tpl}(hc:aD t=0)(ds:List Hop)(x y:Int):y∈aB (eZ t ds) x []↔(be t x y).2=true∧ot t ds x y=true:=by
 have h1:=λh c d=>iG (beI t h c d) (λs x y=>x=s.1∧y=s.2.1∧beC t h c d s.1 s.2.1 s.2.2=true) (λM s hn=>LV t h c d M s hn)
 have h2:=λh c d=>iG (be2 t h c d) (λl x y=>∃s∈lst l,x=s.1∧y=s.2.1∧beC t h c d s.1 s.2.1 s.2.2=true) (λM l hn=>h1 h c d (lst l) M hn)
 have h3:=λh c=>iG (be3 t h c) (λd x y=>∃l∈t.ls,∃s∈lst l,x=s.1∧y=s.2.1∧beC t h c d.id s.1 s.2.1 s.2.2=true) (λM d hn=>h2 h c d.id t.ls M hn)
 have h4:=iG (be4 t) (λh x y=>(bz t h.a h.b).2=true∧∃d∈t.rs,∃l∈t.ls,∃s∈lst l,x=s.1∧y=s.2.1∧beC t h (bz t h.a h.b).1 d.id s.1 s.2.1 s.2.2=true) (λM h hn=>by
  unfold be4
  split
  ·rename_i e
   obtain⟨g1,g2⟩:=h3 h (bz t h.a h.b).1 t.rs M hn
   exact⟨g1,λx y=>by rw[g2];simp only[e,true_and]⟩
  ·rename_i e;exact⟨hn,λx y=>by simp[e]⟩)
 unfold eZ
 rw[(h4 ds [] List.nodup_nil).2]
 have e0:aB ([]:Rws) x []=[]:=bV (by unfold aY av;simp)
 rw[e0]
 have hes:∀(F:Int→Prop),(∃l∈t.ls,∃s∈lst l,x=s.1∧y=s.2.1∧F s.2.2)↔∃w,cz t x y w∧F w:=λF=>by
  unfold cz lst
  constructor
  ·rintro⟨l,hl,s,hs,e1,e2,hF⟩
   simp only[List.mem_cons,List.not_mem_nil,or_false]at hs
   rcases hs with rfl|rfl
   ·exact⟨l.ca,⟨l,hl,.inl ⟨e1.symm,e2.symm,rfl⟩⟩,hF⟩
   ·exact⟨l.cb,⟨l,hl,.inr ⟨e1.symm,e2.symm,rfl⟩⟩,hF⟩
  ·rintro⟨w,⟨l,hl,⟨e1,e2,e3⟩|⟨e1,e2,e3⟩⟩,hF⟩
   ·exact⟨l,hl,(l.a,l.b,l.ca),by simp,e1.symm,e2.symm,by rw[e3];exact hF⟩
   ·exact⟨l,hl,(l.b,l.a,l.cb),by simp,e1.symm,e2.symm,by rw[e3];exact hF⟩
 have hes':∀(h:Hop) (c d:Int),(∃l∈t.ls,∃s∈lst l,x=s.1∧y=s.2.1∧beC t h c d s.1 s.2.1 s.2.2=true)↔∃w,cz t x y w∧beC t h c d x y w=true:=λh c d=>by
  rw[←hes (λw=>beC t h c d x y w=true)]
  constructor
  ·rintro⟨l,hl,s,hs,rfl,rfl,hF⟩;exact⟨l,hl,s,hs,rfl,rfl,hF⟩
  ·rintro⟨l,hl,s,hs,rfl,rfl,hF⟩;exact⟨l,hl,s,hs,rfl,rfl,hF⟩
 simp only[hes']
 have hbe:∀(h:Hop) (d:Rtr),(bz t h.a h.b).2=true→((∃w,cz t x y w∧beC t h (bz t h.a h.b).1 d.id x y w=true)↔(x≠h.a∧(be t x y).2=true∧bhA t h x y d=true)):=λh d he=>by
  have u1:=mg hc (f:=x) (g:=d.id) he
  have u2:=mg hc (f:=y) (g:=d.id) he
  unfold bhA beC
  rw[u1,u2]
  simp only[Bool.and_eq_true,bne_iff_ne,ne_eq,decide_eq_true_iff,dW hc]
  constructor
  ·rintro⟨w,hw,g1,g2,g3,g4⟩
   obtain⟨a1,a2,a3,a4⟩:=(gL (hw.cost hc)).mp g2
   have:=kM a1
   simp only at a2 a4
   exact⟨g1,(i9 hc _ _).mpr ⟨w,hw⟩,g3,⟨w,hw,a3,a2,by omega⟩,g4⟩
  ·rintro⟨g1,_,g3,⟨w,hw,a3,a2,a4⟩,g4⟩
   have hx:=(dU a3).2.1
   have hxx:aM t x x=(0,true):=by
    obtain⟨m,hm,e⟩:=fT hc hx (Pth.nil (t:=t) (g:=x))
    have:=(aX e).2.2
    rw[e];congr 1;omega
   refine⟨w,hw,g1,(gL (hw.cost hc)).mpr ⟨by rw[hxx],a2,a3,by rw[hxx];simp only;omega⟩,g3,g4⟩
 unfold ot
 rw[List.any_eq_true]
 simp only[List.not_mem_nil,false_or]
 constructor
 ·rintro⟨h,hh,he,d,hd,q⟩
  obtain⟨q1,q2,q3⟩:=(hbe h d he).mp q
  refine⟨q2,h,hh,?_⟩
  unfold bhO
  rw[Bool.and_eq_true,bne_iff_ne,List.any_eq_true]
  exact⟨q1,d,hd,q3⟩
 ·rintro⟨q2,h,hh,q⟩
  unfold bhO at q
  rw[Bool.and_eq_true,bne_iff_ne,List.any_eq_true]at q
  obtain⟨q1,d,hd,q3⟩:=q
  have he:(bz t h.a h.b).2=true:=by
   unfold bhA o4 at q3
   simp only[Bool.and_eq_true]at q3
   exact q3.1.1
  exact⟨h,hh,he,d,hd,(hbe h d he).mpr ⟨q1,q2,q3⟩⟩
def te(k:Int)(g:Tpl)(ds:List Hop)(x y:Int):Bool:=
 ((k==1) && ((be g y x).2 && ot g ds y x)) || ((k==2) && ((be g x y).2 && ot g ds x y))
theorem mO{t:Tpl}{c:Chg}(h:(aI t c).2.2.2=0):(aI t c).1=1∨(aI t c).1=2:=by
 have:=(fv h).2.1
 unfold aI at h ⊢
 rw[if_neg (not_not_intro this)]at h ⊢
 split
 ·rename_i q;rw[if_pos q]at h;cases h
 ·split
  ·exact .inr rfl
  ·exact .inl rfl
theorem kj{t:Tpl}{c:Chg}(h:(aI t c).2.2.2=0):aD (aI t c).2.1=0∧(aI t c).2.1.rs=t.rs:=by
 obtain⟨hc,ha,_,_,hg⟩:=fv h
 obtain⟨_,hS⟩:=Cp ha
 rcases hg with hg|hg<;>rw[hg]
 ·exact⟨hc,rfl⟩
 ·exact⟨jk hc hS,hS.rs⟩
theorem Ae(t:Tpl)(c:Chg)(h:(aI t c).2.2.2=0):(aI t c).2.1=if(aI t c).1=2 then(bg t c).1 else t:=by
 have:=(fv h).2.1
 unfold aI at h ⊢
 rw[if_neg (not_not_intro this)]at h ⊢
 split
 ·rename_i q;rw[if_pos q]at h;cases h
 ·split<;>rfl
theorem En{t:Tpl}{c:Chg}(h:(aI t c).2.2.2=0)(x y:Int):y∈aB (fW t c) x []↔te (aI t c).1 (aI t c).2.1 (aI t c).2.2.1 x y=true:=by
 obtain⟨hg,_⟩:=kj h
 have hk:=mO h
 unfold fW te
 generalize (aI t c).2.1=g at *
 generalize (aI t c).2.2.1=ds at *
 generalize (aI t c).1=k at *
 rcases hk with rfl|rfl
 ·rw[if_pos rfl,(jU (kS g ds) (mB g ds).nd (lf _)).2,Cg hg];simp
 ·rw[if_neg (by decide),Cg hg];simp
theorem rnk_D{t:Tpl}{c:Chg}(h:(aI t c).2.2.2=0):∃D:Int→Nat,(∀r x,x∈aB (fW t c) r []→D x<D r)∧∀r,D r<200000:=by
 obtain⟨hc,ha,hd,hl,hg⟩:=fv h
 unfold fW
 generalize (aI t c).2.1=g at *
 generalize (aI t c).2.2.1=ds at *
 have hB:=mB g ds
 have hdec:∀r x,x∈aB (eZ g ds) r []→msr g c x<msr g c r:=λr x hx=>by
  obtain⟨h0,h1,h2⟩:=hB.bh r x hx
  exact AM (hd h0 h1) h2
 have hle:=Fu g c
 by_cases k:(aI t c).1=1
 ·rw[if_pos k]
  refine⟨λx=>150000-msr g c x,λr x hx=>?_,λr=>by show 150000-msr g c r<200000;omega⟩
  show 150000-msr g c x<150000-msr g c r
  have:=hdec x r (((jU (kS g ds) hB.nd (lf _)).2 r x).mp hx)
  have:=hle x;have:=hle r;omega
 ·rw[if_neg k]
  exact⟨msr g c,hdec,λr=>by have:=hle r;omega⟩
theorem pS(A:Rws):∀(f:Nat) (r:Int),f≤1000000→0≤rkP A f r∧rkP A f r≤f
 | 0,r,_=>by simp[rkP]
 | f+1,r,h=>by
  unfold rkP
  obtain⟨h1,h2,h3⟩:=lq (λx=>W (1+rkP A f x)) (aB A r []) 0
  refine⟨h1,?_⟩
  rcases h3 with h3|⟨x,hx,h3⟩
  ·rw[h3];omega
  ·rw[h3]
   have:=pS A f x (by omega)
   rw[dm (by omega)];omega
structure RkO (n:List Rtr) (rel:Int→Int→Bool) (P:Int→Int):Prop where
  nn:∀x,0≤P x
  up:∀x y,rel x y=true→P y+1≤P x
  att:∀x,P x=0∨∃y,rel x y=true∧P x=P y+1∧∃r∈n,r.id=y
  le:∀r∈n,P r.id+1≤n.length
theorem NJ{t:Tpl}{c:Chg}(h:(aI t c).2.2.2=0):RkO t.rs (te (aI t c).1 (aI t c).2.1 (aI t c).2.2.1) (rkP (fW t c) 200000):=by
 obtain⟨D,hD,hN⟩:=rnk_D h
 obtain⟨hgc,hrs⟩:=kj h
 have hm:=En h
 have hf:∀r,rkP (fW t c) 200000 r=mxL (λx=>rkP (fW t c) 200000 x+1) (aB (fW t c) r []) 0:=λr=>by
  conv=>lhs;unfold rkP
  refine qE 0 (λ_=>Iff.rfl) λx hx=>?_
  have h1:=hD r x hx
  have h2:=hN r
  rw[mM hD 199999 200000 x (by omega) (by omega)]
  have:=pS (fW t c) 200000 x (by omega)
  rw[dm (by omega)];omega
 have hel:∀x y,te (aI t c).1 (aI t c).2.1 (aI t c).2.2.1 x y=true→∃r∈t.rs,r.id=y:=λx y hr=>by
  have:∃a b,(be (aI t c).2.1 a b).2=true∧(y=a∨y=b):=by
   unfold te at hr
   simp only[Bool.or_eq_true,Bool.and_eq_true]at hr
   rcases hr with⟨_,hr,_⟩|⟨_,hr,_⟩
   ·exact⟨_,_,hr,.inl rfl⟩
   ·exact⟨_,_,hr,.inr rfl⟩
  obtain⟨a,b,h1,h2⟩:=this
  obtain⟨k,hk⟩:=(i9 hgc a b).mp h1
  obtain⟨ha,hb⟩:=hk.has hgc
  rw[gU hrs]at ha hb
  rcases h2 with rfl|rfl
  ·exact bZ.mp ha
  ·exact bZ.mp hb
 generalize te (aI t c).1 (aI t c).2.1 (aI t c).2.2.1=rel at *
 have hnn:∀x,0≤rkP (fW t c) 200000 x:=λx=>(pS _ 200000 x (by omega)).1
 generalize rkP (fW t c) 200000=P at *
 have hup:∀x y,rel x y=true→P y+1≤P x:=λx y hr=>by
  rw[hf x]
  exact(lq (λx=>P x+1) (aB (fW t c) x []) 0).2.1 y ((hm x y).mpr hr)
 have hatt:∀x,P x=0∨∃y,rel x y=true∧P x=P y+1∧∃r∈t.rs,r.id=y:=λx=>by
  rcases(lq (λx=>P x+1) (aB (fW t c) x []) 0).2.2 with e|⟨y,hy,e⟩
  ·exact .inl (by rw[hf x];exact e)
  ·have hr:=(hm x y).mp hy
   exact .inr ⟨y,hr,by rw[hf x];exact e,hel x y hr⟩
 refine⟨hnn,hup,hatt,λr hr=>?_⟩
 have key:∀(m:Nat) (r:Rtr),r∈t.rs→D r.id≤m→∀v:Int,0≤v→v≤P r.id→v∈t.rs.map λr=>P r.id:=λm=>by
  induction m with
  | zero =>
   intro r hr hm' v h0 hv
   rcases hatt r.id with e|⟨y,hy,e,r',hr',rfl⟩
   ·exact List.mem_map.mpr ⟨r,hr,by omega⟩
   ·have:=hD _ _ ((hm _ _).mpr hy);omega
  | succ m ih =>
   intro r hr hm' v h0 hv
   rcases hatt r.id with e|⟨y,hy,e,r',hr',rfl⟩
   ·exact List.mem_map.mpr ⟨r,hr,by omega⟩
   ·by_cases q:v=P r.id
    ·exact List.mem_map.mpr ⟨r,hr,q.symm⟩
    ·have:=hD _ _ ((hm _ _).mpr hy)
     exact ih r' hr' (by omega) v h0 (by omega)
 have hsub:((List.range ((P r.id).toNat+1)).map λk:Nat=>(k:Int)) ⊆ t.rs.map λr=>P r.id:=λv hv=>by
  obtain⟨k,hk,rfl⟩:=List.mem_map.mp hv
  have:=List.mem_range.mp hk
  have:=hnn r.id
  exact key (D r.id) r hr (Nat.le_refl _) k (by omega) (by omega)
 have hnd:((List.range ((P r.id).toNat+1)).map λk:Nat=>(k:Int)).Nodup:=List.Pairwise.map _ (λa b h=>by omega) List.nodup_range
 have:=List.Nodup.length_le_of_subset hnd hsub
 rw[List.length_map,List.length_map,List.length_range]at this
 have:=hnn r.id
 omega
structure Gov (G O:Tpl) (ds:List Hop):Prop where
  hG:aD G=0
  hO:aD O=0
  rs:O.rs=G.rs
  le:∀{u v k},cz O u v k→∃k',k'≤k∧cz G u v k'
  eq:∀{u v k},cz G u v k→cz O u v k∨⟨u,v⟩∈ds
theorem Jm{t:Tpl}{c:Chg}(h:(aI t c).2.2.2=0):Gov (aI t c).2.1 (if(aI t c).1=2 then t else(bg t c).1) (aI t c).2.2.1:=by
 have hk:=mO h
 have hg:=Ae t c h
 obtain⟨h1,h2⟩:=NR t c
 have ha:=(fv h).2.1
 obtain⟨hc,hS⟩:=Cp ha
 have hc':=jk hc hS
 have hds:=h2 h
 have e1:(kD t c).1=(aI t c).1:=by rw[h1]
 have e2:(kD t c).2=0:=by rw[h1];exact h
 obtain⟨p1,p2⟩:=EC hc hS
 have hsym:=Ak hc c.a c.b
 rw[←hds,hg,←e1]
 rw[←e1]at hk
 have hon:∀{u v k},onC c u v→cz (bg t c).1 u v k→cf c=false∧((u=c.a∧v=c.b∧k=c.ca)∨(u=c.b∧v=c.a∧k=c.cb)):=λ{u v k} hn he=>by
  rcases hn with⟨rfl,rfl⟩|⟨rfl,rfl⟩
  ·obtain⟨q1,q2⟩:=(eO hc hS).1.mp he
   exact⟨q1,.inl ⟨rfl,rfl,q2⟩⟩
  ·obtain⟨q1,q2⟩:=(eO hc hS).2.mp he
   exact⟨q1,.inr ⟨rfl,rfl,q2⟩⟩
 have hon2:∀{u v k},onC c u v→cz t u v k→(be t c.a c.b).2=true∧((u=c.a∧v=c.b∧k=(be t c.a c.b).1)∨(u=c.b∧v=c.a∧k=(be t c.b c.a).1)):=λ{u v k} hn he=>by
  have he:=(cm hc).mp he
  rcases hn with⟨rfl,rfl⟩|⟨rfl,rfl⟩
  ·rw[he];exact⟨rfl,.inl ⟨rfl,rfl,rfl⟩⟩
  ·rw[←hsym,he];exact⟨rfl,.inr ⟨rfl,rfl,rfl⟩⟩
 have hdm:∀{u v k},onC c u v→(cf c=false∧(be t c.a c.b).2=true∧(u=c.a→v=c.b→c.ca=(be t c.a c.b).1→k=c.ca→False)∧(u=c.b→v=c.a→c.cb=(be t c.b c.a).1→k=c.cb→False))∨(be t c.a c.b).2=false∨cf c=true→((u=c.a∧v=c.b∧(k=c.ca∨k=(be t c.a c.b).1))∨(u=c.b∧v=c.a∧(k=c.cb∨k=(be t c.b c.a).1)))→(⟨u,v⟩:Hop)∈B6 t c:=λ{u v k} hn hq hk=>by
  have q1:=λe=>eS hc (f:=c.a) (g:=c.b) e
  have q2:=λe=>eS hc (f:=c.b) (g:=c.a) e
  rw[hsym]at q2
  have hr0:cf c=true→c.ca=0∧c.cb=0:=λq=>by unfold cf at q;simpa using q
  unfold B6
  rw[List.mem_append]
  rcases hk with⟨rfl,rfl,hk⟩|⟨rfl,rfl,hk⟩
  ·refine .inl ?_
   rw[if_pos]
   ·exact List.mem_singleton.mpr rfl
   ·rcases hq with⟨r1,r2,r3,_⟩|hq|hq
    ·exact .inr λe=>r3 rfl rfl e (by omega)
    ·exact .inl hq
    ·cases q:(be t c.a c.b).2 with
     | false=>exact .inl rfl
     | true=>exact .inr (by have:=q1 q;have:=hr0 hq;omega)
  ·refine .inr ?_
   rw[if_pos]
   ·exact List.mem_singleton.mpr rfl
   ·rcases hq with⟨r1,r2,_,r3⟩|hq|hq
    ·exact .inr λe=>r3 rfl rfl e (by omega)
    ·exact .inl hq
    ·cases q:(be t c.a c.b).2 with
     | false=>exact .inl rfl
     | true=>exact .inr (by have:=q2 q;have:=hr0 hq;omega)
 by_cases k2:(kD t c).1=2
 ·rw[if_pos k2,if_pos k2]
  have hle:cf c=false∧((be t c.a c.b).2=false∨c.ca≤(be t c.a c.b).1∧c.cb≤(be t c.b c.a).1):=by
   unfold kD at k2 e2
   split at k2
   ·cases k2
   ·split at k2
    ·cases k2
    ·rename_i z1 z2
     rw[if_neg z1,if_neg z2]at e2
     split at k2
     ·rename_i z3
      refine⟨by simpa using λq=>z2 (.inl q),z3⟩
     ·cases k2
  refine⟨hc',hc,hS.rs.symm,λ{u v k} he=>?_,λ{u v k} he=>?_⟩
  ·by_cases hn:onC c u v
   ·obtain⟨q1,q2⟩:=hon2 hn he
    rcases hle.2 with r|⟨r1,r2⟩
    ·rw[q1]at r;cases r
    ·rcases q2 with⟨rfl,rfl,rfl⟩|⟨rfl,rfl,rfl⟩
     ·exact⟨_,r1,(eO hc hS).1.mpr ⟨hle.1,rfl⟩⟩
     ·exact⟨_,r2,(eO hc hS).2.mpr ⟨hle.1,rfl⟩⟩
   ·exact⟨k,Int.le_refl _,(kJ hc hS hn).mpr he⟩
  ·by_cases hn:onC c u v
   ·refine Classical.byContradiction λq=>?_
    have q':¬cz t u v k:=λz=>q (.inl z)
    refine q (.inr (hdm (k:=k) hn ?_ ?_))
    ·cases z:(be t c.a c.b).2 with
     | false=>exact .inr (.inl rfl)
     | true =>
      refine .inl ⟨hle.1,rfl,λa1 a2 a3 a4=>q' ?_,λa1 a2 a3 a4=>q' ?_⟩
      ·rw[a1,a2,a4,a3];exact(cm hc).mpr (Prod.ext rfl z)
      ·rw[a1,a2,a4,a3];exact(cm hc).mpr (Prod.ext rfl (by rw[hsym];exact z))
    ·rcases(hon hn he).2 with⟨a,b,d⟩|⟨a,b,d⟩
     ·exact .inl ⟨a,b,.inl d⟩
     ·exact .inr ⟨a,b,.inl d⟩
   ·exact .inl ((kJ hc hS hn).mp he)
 ·rw[if_neg k2,if_neg k2]
  have hle:cf c=true∨((be t c.a c.b).2=true∧(be t c.a c.b).1≤c.ca∧(be t c.b c.a).1≤c.cb):=by
   have k1:(kD t c).1=1:=by rcases hk with q|q;exact q;exact absurd q k2
   unfold kD at k1
   split at k1
   ·cases k1
   ·split at k1
    ·rename_i z;exact z
    ·split at k1<;>cases k1
  refine⟨hc,hc',hS.rs,λ{u v k} he=>?_,λ{u v k} he=>?_⟩
  ·by_cases hn:onC c u v
   ·obtain⟨q1,q2⟩:=hon hn he
    rcases hle with r|⟨r0,r1,r2⟩
    ·rw[q1]at r;cases r
    ·rcases q2 with⟨rfl,rfl,rfl⟩|⟨rfl,rfl,rfl⟩
     ·exact⟨_,r1,(cm hc).mpr (Prod.ext rfl r0)⟩
     ·exact⟨_,r2,(cm hc).mpr (Prod.ext rfl (by rw[hsym];exact r0))⟩
   ·exact⟨k,Int.le_refl _,(kJ hc hS hn).mp he⟩
  ·by_cases hn:onC c u v
   ·refine Classical.byContradiction λq=>?_
    have q':¬cz (bg t c).1 u v k:=λz=>q (.inl z)
    refine q (.inr (hdm (k:=k) hn ?_ ?_))
    ·cases z:cf c with
     | true=>exact .inr (.inr rfl)
     | false =>
      refine .inl ⟨rfl,(hon2 hn he).1,λa1 a2 a3 a4=>q' ?_,λa1 a2 a3 a4=>q' ?_⟩
      ·rw[a1,a2,a4];exact(eO hc hS).1.mpr ⟨z,rfl⟩
      ·rw[a1,a2,a4];exact(eO hc hS).2.mpr ⟨z,rfl⟩
    ·rcases(hon2 hn he).2 with⟨a,b,d⟩|⟨a,b,d⟩
     ·exact .inl ⟨a,b,.inr d⟩
     ·exact .inr ⟨a,b,.inr d⟩
   ·exact .inl ((kJ hc hS hn).mpr he)
theorem p9{t:Tpl}(hc:aD t=0){f d:Int}{h:Hop}:o4 t f d h=true↔∃c,cz t h.a h.b c∧(aM t f h.a).2=true∧(aM t h.b d).2=true∧(aM t f d).2=true∧(aM t f h.a).1+c+(aM t h.b d).1=(aM t f d).1:=by
 constructor
 ·intro q
  have he:(bz t h.a h.b).2=true:=by unfold o4 at q;simp only[Bool.and_eq_true]at q;exact q.1
  have hp:1≤(bz t h.a h.b).1∧(bz t h.a h.b).1≤1000:=by rw[ji hc]at he ⊢;exact eS hc he
  rw[mg hc he,gL hp]at q
  refine⟨_,(cm hc).mpr ?_,q⟩
  rw[ji hc]at he ⊢;exact Prod.ext rfl he
 ·rintro⟨c,e,q⟩
  have h5:bz t h.a h.b=(c,true):=by rw[ji hc];exact(cm hc).mp e
  rw[mg hc (by rw[h5]),gL (by rw[h5];exact e.cost hc),h5];exact q
theorem Fl{t:Tpl}(hc:aD t=0){x d m:Int}(h:aM t x d=(m,true))(hne:x≠d):∃y,y∈iE t x d:=by
 obtain⟨⟨k,p⟩,hl,_⟩:=aX h
 have hd:=(dU (t:=t) (x:=x) (y:=d) (by rw[h])).2.2
 cases p with
 | nil=>exact absurd rfl hne
 | cons e p =>
  rename_i v w n k'
  obtain⟨m',h1,e'⟩:=fT hc hd p
  obtain⟨⟨k2,p2⟩,_⟩:=aX e'
  have:=hl _ _ (Pth.cons e p2)
  refine⟨v,(dW hc).mpr ⟨_,e,by rw[h],by rw[e'],?_⟩⟩
  rw[h,e'];simp only;omega
theorem ni{t:Tpl}(hc:aD t=0){x y d:Int}(h:y∈iE t x d):(aM t y d).1.toNat<(aM t x d).1.toNat∧(aM t x d).1.toNat≤24000:=by
 obtain⟨w,he,cx,cy,e⟩:=(dW hc).mp h
 have:=he.cost hc
 have:=(aX (bj cy)).2.2
 have:=(aX (bj cx)).2.2
 omega
section
variable {G O : Tpl} {ds : List Hop} (g : Gov G O ds)
include g
theorem Gov.path{d:Int}:∀{k:Nat} {u m:Int},Pth O d k u m→∃m',m'≤m∧Pth G d k u m':=by
 intro k u m p
 induction p with
 | nil=>exact⟨0,Int.le_refl _,.nil⟩
 | cons e p ih =>
  obtain⟨m',h1,q⟩:=ih
  obtain⟨k',h2,e'⟩:=g.le e
  exact⟨_,by omega,.cons e' q⟩
theorem Gov.has(x:Int):aG O x=aG G x:=gU g.rs x
theorem Gov.cos{u d m:Int}(h:aM O u d=(m,true)):∃m',m'≤m∧aM G u d=(m',true):=by
 obtain⟨⟨k,p⟩,_⟩:=aX h
 obtain⟨m',h1,q⟩:=g.path p
 have hd:=(dU (t:=O) (x:=u) (y:=d) (by rw[h])).2.2
 rw[g.has]at hd
 obtain⟨m2,h2,e⟩:=fT g.hG hd q
 exact⟨m2,by omega,e⟩
def Af(G:Tpl)(ds:List Hop)(d x:Int):Prop:=∃h∈ds,o4 G x d h=true
theorem Gov.back{d x y:Int}(hn:y∈iE G x d){h:Hop}(hu:o4 G y d h=true):o4 G x d h=true∧x≠h.a:=by
 obtain⟨w,he,cx,cy,e⟩:=(dW g.hG).mp hn
 have hw:=he.cost g.hG
 obtain⟨c,hc,u1,u2,u3,u4⟩:=(p9 g.hG).mp hu
 obtain⟨m,hm,ex⟩:=iO g.hG he
 obtain⟨a,ha,ea⟩:=gY ex (bj u1)
 obtain⟨m1,h1,e1⟩:=iO g.hG hc
 obtain⟨m2,h2,e2⟩:=gY ea e1
 obtain⟨m3,h3,e3⟩:=gY e2 (bj u2)
 have:(aM G x d).1=m3:=by rw[e3]
 refine⟨(p9 g.hG).mpr ⟨c,hc,by rw[ea],u2,cx,by rw[ea];simp only;omega⟩,?_⟩
 rintro rfl
 have:=(aX (bj u1)).2.2
 have:=(aX ea).2.2
 have:a=0:=by have:=kM (t:=G) (x:=h.a) (by rw[ea]);rw[ea]at this;exact this
 omega
theorem Gov.af{d x y:Int}(hn:y∈iE G x d)(hy:Af G ds d y):Af G ds d x:=by
 obtain⟨h,hh,hu⟩:=hy
 exact⟨h,hh,(g.back hn hu).1⟩
theorem Gov.same{d:Int}:∀(N:Nat) {x m:Int},m.toNat≤N→aM G x d=(m,true)→¬Af G ds d x→aM O x d=(m,true)
 | 0,x,m,hN,h,ha=>by
  have hp:=(aX h).2.2
  by_cases e:x=d
  ·subst e
   have hm:m=0:=by omega
   subst hm
   have hx:=(dU (t:=G) (x:=x) (y:=x) (by rw[h])).2.2
   rw[←g.has]at hx
   obtain⟨m2,h2,e2⟩:=fT g.hO hx (.nil (t:=O) (g:=x))
   have:=(aX e2).2.2
   rw[e2];congr 1;omega
  ·obtain⟨y,hy⟩:=Fl g.hG h e
   obtain⟨w,he,cx,cy,e⟩:=(dW g.hG).mp hy
   have:=he.cost g.hG
   have:=(aX (bj cy)).2.2
   rw[h]at e;simp only at e;omega
 | N+1,x,m,hN,h,ha=>by
  have hp:=(aX h).2.2
  by_cases e:x=d
  ·subst e
   have hm:=kM (t:=G) (x:=x) (by rw[h])
   rw[h]at hm;simp only at hm;subst hm
   have hx:=(dU (t:=G) (x:=x) (y:=x) (by rw[h])).2.2
   rw[←g.has]at hx
   obtain⟨m2,h2,e2⟩:=fT g.hO hx (.nil (t:=O) (g:=x))
   have:=(aX e2).2.2
   rw[e2];congr 1;omega
  ·obtain⟨y,hy⟩:=Fl g.hG h e
   obtain⟨w,he,cx,cy,e⟩:=(dW g.hG).mp hy
   have hw:=he.cost g.hG
   have hy0:=(aX (bj cy)).2.2
   rw[h]at e;simp only at e
   have hye:=Gov.same N (x:=y) (by omega) (bj cy) λq=>ha (g.af hy q)
   have heO:cz O x y w:=by
    rcases g.eq he with q|q
    ·exact q
    ·exfalso
     have hx:=(he.has g.hG).1
     obtain⟨m2,h2,e2⟩:=fT g.hG hx (.nil (t:=G) (g:=x))
     have:=(aX e2).2.2
     exact ha ⟨⟨x,y⟩,q,(p9 g.hG).mpr ⟨w,he,by rw[e2],cy,by rw[h],by rw[e2,h];simp only;omega⟩⟩
   obtain⟨m1,h1,e1⟩:=iO g.hO heO
   obtain⟨m2,h2,e2⟩:=gY e1 hye
   obtain⟨m3,h3,e3⟩:=g.cos e2
   rw[h]at e3
   have:m=m3:=(Prod.mk.inj e3).1
   rw[e2];congr 1;omega
theorem Gov.nexO{d x y:Int}(hn:y∈iE O x d)(ha:¬Af G ds d x):y∈iE G x d:=by
 obtain⟨w,he,cx,cy,e⟩:=(dW g.hO).mp hn
 obtain⟨m,hm,ex⟩:=g.cos (bj cx)
 have hs:=g.same m.toNat (Nat.le_refl _) ex ha
 rw[hs]at e;simp only at e
 obtain⟨w',hw',he'⟩:=g.le he
 obtain⟨n,hn',ey⟩:=g.cos (bj cy)
 obtain⟨m1,h1,e1⟩:=iO g.hG he'
 obtain⟨m2,h2,e2⟩:=gY e1 ey
 rw[ex]at e2
 have:m=m2:=(Prod.mk.inj e2).1
 exact(dW g.hG).mpr ⟨w',he',by rw[ex],by rw[ey],by rw[ex,ey];simp only;omega⟩
open Classical in
noncomputable def mxM(G O:Tpl)(ds:List Hop)(T:Int→Prop)(d x:Int):Nat:=
 if Af G ds d x then(if T x then 100000+(aM G x d).1.toNat else 200000+(aM O x d).1.toNat)else(aM G x d).1.toNat
theorem Gov.falls{T:Int→Prop}{d:Int}(hd:aG G d=true)(hT:∀u v,T u→(be G u v).2=true→ot G ds u v=true→T v){x y:Int}(h:(T x∧y∈iE G x d)∨(¬T x∧y∈iE O x d)):mxM G O ds T d y<mxM G O ds T d x:=by
 unfold mxM
 by_cases hx:Af G ds d x
 ·rw[if_pos hx]
  rcases h with⟨t1,hn⟩|⟨t1,hn⟩
  ·rw[if_pos t1]
   have hl:=ni g.hG hn
   by_cases hy:Af G ds d y
   ·have ty:T y:=by
     obtain⟨h,hh,hu⟩:=hy
     obtain⟨b1,b2⟩:=g.back hn hu
     obtain⟨w,he,_⟩:=(dW g.hG).mp hn
     obtain⟨r,hr,rfl⟩:=bZ.mp hd
     refine hT x y t1 ((i9 g.hG _ _).mpr ⟨w,he⟩) ?_
     unfold ot bhO bhA
     rw[List.any_eq_true]
     refine⟨h,hh,?_⟩
     rw[Bool.and_eq_true,bne_iff_ne,List.any_eq_true]
     exact⟨b2,r,hr,by rw[b1,decide_eq_true hn,hu];rfl⟩
    rw[if_pos hy,if_pos ty];omega
   ·rw[if_neg hy];omega
  ·rw[if_neg t1]
   have hl:=ni g.hO hn
   obtain⟨w,he,cx,cy,e⟩:=(dW g.hO).mp hn
   obtain⟨m,hm,ey⟩:=g.cos (bj cy)
   have h1:=(aX ey).2.2
   have e1:(aM G y d).1=m:=by rw[ey]
   by_cases hy:Af G ds d y
   ·rw[if_pos hy]
    by_cases ty:T y
    ·rw[if_pos ty];omega
    ·rw[if_neg ty];omega
   ·rw[if_neg hy];omega
 ·rw[if_neg hx]
  have hn:y∈iE G x d:=by
   rcases h with⟨_,hn⟩|⟨_,hn⟩
   ·exact hn
   ·exact g.nexO hn hx
  have hy:¬Af G ds d y:=λq=>hx (g.af hn q)
  rw[if_neg hy]
  exact(ni g.hG hn).1
end
theorem Kq{l:List Int}(h:l.Pairwise (·<·))(n:Int):(iJ l n).Pairwise (·<·)∧∀y,y∈iJ l n↔y=n∨y∈l:=by
 have hlo:∀(j:Nat) x,j<fY l n→l[j]?=some x→x<n:=λj x hj hx=>by
  have:=List.not_of_lt_findIdx hj
  rw[List.getElem?_eq_getElem (ap hx)]at hx
  have e:=Option.some.inj hx
  rw[←e];simpa using this
 have hhi:∀(j:Nat) x,fY l n≤j→l[j]?=some x→n≤x:=λj x hj hx=>by
  have hl:=ap hx
  have hp:fY l n<l.length:=by omega
  have h1:(λx=>!decide (x<n)) (l[fY l n]'hp)=true:=List.findIdx_getElem (w:=hp)
  have h2:n≤l[fY l n]'hp:=by simp at h1;exact h1
  rw[List.getElem?_eq_getElem hl]at hx
  have e:=Option.some.inj hx
  by_cases q:fY l n=j
  ·subst q;rw[←e];exact h2
  ·have:=(List.pairwise_iff_getElem.mp h) (fY l n) j hp hl (by omega)
   rw[e]at this;omega
 have hsplit:l=l.take (fY l n)++l.drop (fY l n):=(List.take_append_drop _ _).symm
 have htk:∀y∈l.take (fY l n),y<n:=λy hy=>by
  obtain⟨j,hj,rfl⟩:=List.mem_take_iff_getElem.mp hy
  exact hlo j _ (by omega) (List.getElem?_eq_getElem (by omega))
 have hdr:∀y∈l.drop (fY l n),n≤y:=λy hy=>by
  obtain⟨j,hj⟩:=List.mem_iff_getElem?.mp hy
  rw[List.getElem?_drop]at hj
  exact hhi _ y (by omega) hj
 unfold iJ
 split
 ·rename_i e
  refine⟨h,λy=>⟨.inr,?_⟩⟩
  rintro(rfl|hy)
  ·exact List.mem_of_getElem? e
  ·exact hy
 ·rename_i e
  have hne:∀y∈l.drop (fY l n),n<y:=λy hy=>by
   obtain⟨j,hj⟩:=List.mem_iff_getElem?.mp hy
   rw[List.getElem?_drop]at hj
   have h1:=hhi _ y (by omega) hj
   by_cases q:y=n
   ·subst q
    have hl:=ap hj
    have hp:fY l y<l.length:=by omega
    have h2:=hhi (fY l y) _ (Nat.le_refl _) (List.getElem?_eq_getElem hp)
    by_cases q2:j=0
    ·subst q2;exact absurd hj e
    ·have h3:=(List.pairwise_iff_getElem.mp h) (fY l y) (fY l y+j) hp hl (by omega)
     rw[List.getElem?_eq_getElem hl]at hj
     rw[Option.some.inj hj]at h3;omega
   ·omega
  unfold bD
  rw[hsplit]at h
  rw[List.pairwise_append]at h
  constructor
  ·rw[List.append_assoc,List.pairwise_append]
   refine⟨h.1,?_,λa ha b hb=>?_⟩
   ·rw[List.singleton_append,List.pairwise_cons];exact⟨hne,h.2.1⟩
   ·have:=htk a ha
    rcases List.mem_append.mp hb with hb|hb
    ·rw[List.mem_singleton.mp hb];exact this
    ·have:=hne b hb;omega
  ·intro y
   simp only[List.mem_append,List.mem_singleton]
   conv=>rhs;rw[hsplit,List.mem_append]
   constructor
   ·rintro((q|q)|q)
    ·exact .inr (.inl q)
    ·exact .inl q
    ·exact .inr (.inr q)
   ·rintro(q|q|q)
    ·exact .inl (.inr q)
    ·exact .inl (.inl q)
    ·exact .inr q
theorem Bl:∀(s l:List Int),l.Pairwise (·<·)→(s.foldl iJ l).Pairwise (·<·)∧∀y,y∈s.foldl iJ l↔y∈s∨y∈l
 | [],l,h=>⟨h,λy=>by simp⟩
 | x::s,l,h=>by
  obtain⟨h1,h2⟩:=Kq h x
  obtain⟨h3,h4⟩:=Bl s (iJ l x) h1
  refine⟨h3,λy=>?_⟩
  rw[List.foldl_cons,h4,h2,List.mem_cons]
  constructor
  ·rintro(q|q|q)
   ·exact .inl (.inr q)
   ·exact .inl (.inl q)
   ·exact .inr q
  ·rintro((q|q)|q)
   ·exact .inr (.inl q)
   ·exact .inl q
   ·exact .inr (.inr q)
theorem LG{t:Tpl}(hc:aD t=0)(h:jx t=true){q:Int}(hq:aG t q=true):od t q=true:=by
 obtain⟨r,hr,e⟩:=List.any_eq_true.mp hq
 unfold od
 rw[hc]
 cases z:t.rs.find? (isR q)with
 | none=>have:=List.find?_eq_none.mp z r hr;exact absurd e this
 | some y =>
  have hy:=List.mem_of_find?_eq_some z
  unfold jx at h
  rw[Bool.not_eq_true',List.any_eq_false]at h
  have:=h y hy
  unfold Hg at this
  simp at this
  simp[this]
theorem qZ{t:Tpl}(hc:aD t=0)(h:jx t=true)(f g:Int):(eV t f g).Pairwise (·<·)∧∀y∈eV t f g,y∈iE t f g:=by
 unfold eV iE
 by_cases e:hs5 t f=false∨hs5 t g=false
 ·rw[if_pos (by rcases e with e|e<;>simp[e])];simp
 rw[if_neg e]
 split
 ·simp
 have hst:∀q∈eA t (to6 t g) f,od t q=true:=λq hq=>LG hc h (sS hc hq)
 have hf:∀(s:List Int) (a b:List Int),(∀q∈s,od t q=true)→s.foldl (iK t) (a,b)=(a,s.foldl iJ b):=λs=>by
  induction s with
  | nil=>intro a b _;rfl
  | cons x s ih =>
   intro a b hs
   rw[List.foldl_cons,List.foldl_cons]
   have:iK t (a,b) x=(a,iJ b x):=by unfold iK;rw[if_pos (hs x (by simp))]
   rw[this]
   exact ih a _ λq hq=>hs q (by simp[hq])
 have e2:uf t (to6 t g) 25 0 [f] []=(eA t (to6 t g) f).foldl iJ []:=by
  rw[uf]
  simp only[List.getElem?_cons_zero]
  rw[hf _ _ _ hst,uf]
  simp
 rw[e2]
 obtain⟨h1,h2⟩:=Bl (eA t (to6 t g) f) [] List.Pairwise.nil
 exact⟨h1,λy hy=>by rcases(h2 y).mp hy with q|q;exact q;simp at q⟩
theorem Kv{t:Tpl}(hc:aD t=0)(h:jx t=true)(f g:Int):f ∉ eV t f g∧(∀y∈eV t f g,aG t y=true)∧(eV t f g).length≤24:=by
 obtain⟨h1,h2⟩:=qZ hc h f g
 have hh:∀y∈eV t f g,aG t y=true:=λy hy=>by
  obtain⟨w,he,_⟩:=(dW hc).mp (h2 y hy)
  exact(he.has hc).2
 refine⟨λq=>?_,hh,?_⟩
 ·have:=(ni hc (h2 f q)).1;omega
 ·have hnd:(eV t f g).Nodup:=h1.imp λq=>by omega
  have:=List.Nodup.length_le_of_subset hnd (show eV t f g ⊆ t.rs.map (·.id)from λy hy=>bC.mpr (hh y hy))
  rw[List.length_map]at this
  have:=(cd hc).1;omega
theorem Br{t:Tpl}(hc:aD t=0){x:Int}(h:aG t x=true):1≤x∧x≤99:=by
 obtain⟨r,hr,rfl⟩:=bZ.mp h
 exact(aC hc).rg r hr
theorem QD{t:Tpl}(hc:aD t=0)(h:jx t=true){p:Pln}(hp:cH p=true){r:Int}(hr:aG t r=true):kO (gJ t p r)=0:=by
 unfold cH at hp
 simp only[Bool.and_eq_true,decide_eq_true_iff]at hp
 obtain⟨⟨p1,p2,p3⟩,q1,q2,q3⟩:=hp
 have hrr:=Br hc hr
 have hnx:∀e∈p.es,(fp t r e).nx.Pairwise (·<·)∧(fp t r e).nx.length≤24∧(∀y∈(fp t r e).nx,1≤y∧y≤99)∧(1<(fp t r e).nx.length→r ∉ (fp t r e).nx):=λe he=>by
  unfold fp
  simp only
  split
  ·refine⟨List.pairwise_singleton _ _,by simp,λy hy=>by rw[List.mem_singleton.mp hy];exact hrr,λq=>by simp at q⟩
  ·split
   ·obtain⟨a1,a2,a3⟩:=Kv hc h r e.router
    exact⟨(qZ hc h r e.router).1,a3,λy hy=>Br hc (a2 y hy),λ_=>a1⟩
   ·simp
 have hrow:∀z∈(gJ t p r).rows,∃e∈p.es,z=fp t r e:=λz hz=>by
  obtain⟨e,he,rfl⟩:=List.mem_map.mp hz;exact⟨e,he,rfl⟩
 unfold kO
 rw[if_neg,if_neg,if_neg,if_neg]
 ·rw[Bool.not_eq_true,List.any_eq_false]
  intro z hz
  obtain⟨e,he,rfl⟩:=hrow z hz
  unfold jG
  simp only[Bool.and_eq_true,decide_eq_true_iff,not_and]
  exact λq=>(hnx e he).2.2.2 q
 ·refine not_not_intro ⟨λz hz=>?_,?_⟩
  ·obtain⟨e,he,rfl⟩:=hrow z hz
   unfold lK;exact decide_eq_true (hnx e he).1
  ·show(p.es.map (fp t r)).Pairwise _
   rw[List.pairwise_map]at q3 ⊢
   exact q3
 ·rw[Bool.not_eq_true]
  unfold jB
  rw[Bool.or_eq_false_iff,decide_eq_false_iff_not,List.any_eq_false]
  refine⟨by show ¬256<(p.es.map (fp t r)).length;rw[List.length_map];omega,λz hz=>?_⟩
  obtain⟨e,he,rfl⟩:=hrow z hz
  unfold js;have:=(hnx e he).2.1;simp;omega
 ·rw[Bool.not_eq_true]
  unfold kr
  rw[Bool.or_eq_false_iff,List.any_eq_false]
  constructor
  ·unfold hdB
   have a1:inP r 1 99=true:=by unfold inP;simp;omega
   have a2:inP p.sub 0 7=true:=by unfold inP;simp;omega
   show(!((inP r 1 99 && inP p.sub 0 7) && (cY p.len || (p.len==0 && decide ((p.es.map (fp t r)).length=0)))))=false
   rw[a1,a2]
   rcases p2 with e|⟨e1,e2⟩
   ·simp[e]
   ·simp[e1,e2]
  ·intro z hz
   obtain⟨e,he,rfl⟩:=hrow z hz
   have:=(q1 e he).1
   unfold jq
   rw[Bool.or_eq_true,not_or]
   constructor
   ·show ¬(!inP e.id 1 256)=true
    have:inP e.id 1 256=true:=by unfold inP;simp;omega
    simp[this]
   ·rw[Bool.not_eq_true,List.any_eq_false]
    intro y hy
    have:=(hnx e he).2.2.1 y hy
    unfold lk inP;simp;omega
def fh(F:Int→Tpl)(p:Pln)(rs:List Rtr):List Tbl:=rs.map λx=>gJ (F x.id) p x.id
structure MF (F:Int→Tpl) (rs:List Rtr):Prop where
  ok:∀x,aD (F x)=0
  cap:∀x,jx (F x)=true
  rs:∀x,(F x).rs=rs
theorem vI{F:Int→Tpl}{p:Pln}{rs:List Rtr}(h:MF F rs)(hp:cH p=true):jv (fh F p rs)=0:=by
 have hrs:=h.rs 0
 have hO:=aC (h.ok 0)
 have hB:∀b∈fh F p rs,kO b=0∧b.sub=p.sub∧b.len=p.len:=λb hb=>by
  obtain⟨x,hx,rfl⟩:=List.mem_map.mp hb
  exact⟨QD (h.ok _) (h.cap _) hp (bZ.mpr ⟨x,by rw[h.rs];exact hx,rfl⟩),rfl,rfl⟩
 have hd:∀b∈fh F p rs,(hd0 (fh F p rs)).sub=p.sub∧(hd0 (fh F p rs)).len=p.len:=λb hb=>by
  cases q:fh F p rs with
  | nil=>rw[q]at hb;simp at hb
  | cons c l=>have:=hB c (by rw[q];simp);exact this.2
 unfold jv
 rw[if_neg,if_neg,if_neg,if_neg]
 ·rw[Bool.not_eq_true,List.any_eq_false]
  intro b hb
  obtain⟨d1,d2⟩:=hd b hb
  obtain⟨_,e1,e2⟩:=hB b hb
  unfold lD
  rw[d1,d2,e1,e2];simp
 ·refine not_not_intro ?_
  unfold yU fh
  rw[List.pairwise_map]
  have:=hO.asc
  rw[hrs]at this
  exact this
 ·rw[Bool.not_eq_true,List.any_eq_false]
  intro b hb
  unfold kT
  rw[(hB b hb).1];simp
 ·unfold fh
  rw[List.length_map]
  have:=hO.nr
  rw[hrs]at this;omega
theorem Cu{t:Tpl}{p:Pln}(hc:aD t=0)(h:jx t=true)(hp:cH p=true):jK t p=(fh (λ_=>t) p t.rs,0):=by
 unfold jK fh
 rw[if_neg (by simp[hc,hp])]
 congr 1
 have:∀l:List Rtr,(∀x∈l,x.cap=true)→(l.flatMap λx=>if x.cap=true then [gJ t p x.id]else [])=l.map λx=>gJ t p x.id:=λl=>by
  induction l with
  | nil=>intro _;rfl
  | cons x l ih =>
   intro hl
   rw[List.flatMap_cons,if_pos (hl x (by simp)),ih λy hy=>hl y (by simp[hy])];rfl
 refine this _ λx hx=>?_
 unfold jx at h
 rw[Bool.not_eq_true',List.any_eq_false]at h
 have:=h x hx
 unfold Hg at this
 simpa using this
theorem Bz{F:Int→Tpl}{p:Pln}{rs:List Rtr}{r:Int}:((fh F p rs).find? λb=>b.router==r)=if(rs.any λx=>x.id==r)=true then some (gJ (F r) p r)else none:=by
 unfold fh
 induction rs with
 | nil=>rfl
 | cons x l ih =>
  rw[List.map_cons,List.find?_cons]
  by_cases e:x.id=r
  ·have:((gJ (F x.id) p x.id).router==r)=true:=by show(x.id==r)=true;simpa using e
   rw[this,e];simp[e]
  ·have:((gJ (F x.id) p x.id).router==r)=false:=by show(x.id==r)=false;simpa using e
   rw[this]
   have e':(x.id==r)=false:=by simpa using e
   simp only[List.any_cons,e',Bool.false_or];exact ih
theorem JQ{t t':Tpl}{p:Pln}{rs:List Rtr}{ch:List Int}:tE (fh (λ_=>t) p rs) (fh (λ_=>t') p rs) ch=fh (λx=>if x∈ch then t' else t) p rs:=by
 unfold tE
 conv=>lhs;arg 2;unfold fh
 conv=>rhs;unfold fh
 rw[List.map_map]
 refine List.map_congr_left λx hx=>?_
 show CP (fh (λ_=>t') p rs) ch (gJ t p x.id)=_
 have hf:gu (fh (λ_=>t') p rs) x.id=(gJ t' p x.id,true):=by
  unfold gu
  rw[Bz,if_pos (List.any_eq_true.mpr ⟨x,hx,by simp⟩)]
 unfold CP
 show(if(gu (fh (λ_=>t') p rs) x.id).2=true∧x.id∈ch then(gu (fh (λ_=>t') p rs) x.id).1 else gJ t p x.id)=gJ (if x.id∈ch then t' else t) p x.id
 rw[hf]
 by_cases e:x.id∈ch
 ·rw[if_pos ⟨rfl,e⟩,if_pos e]
 ·rw[if_neg (λq=>e q.2),if_neg e]
theorem vJ{F:Int→Tpl}{p:Pln}{rs:List Rtr}(h:MF F rs){id pl x:Int}(hn:nxT (fh F p rs) id pl x≠0):∃e,(p.es.find? λe=>e.id==id)=some e∧nxT (fh F p rs) id pl x∈iE (F x) x e.router:=by
 unfold nxT at hn ⊢
 rw[Bz]at hn ⊢
 by_cases c:(rs.any λy=>y.id==x)=true
 ·rw[if_pos c]at hn ⊢
  simp only at hn ⊢
  by_cases c2:mc (gJ (F x) p x) id pl=x
  ·rw[if_pos c2]at hn;exact absurd rfl hn
  rw[if_neg c2]at hn ⊢
  unfold mc sW at hn c2 ⊢
  have hfd:((gJ (F x) p x).rows.find? λr=>r.id==id)=(p.es.find? λe=>e.id==id).map (fp (F x) x):=by
   show((p.es.map (fp (F x) x)).find? λr=>r.id==id)=_
   rw[List.find?_map];rfl
  rw[hfd]at hn c2 ⊢
  cases z:p.es.find? λe=>e.id==id with
  | none=>rw[z]at hn;simp[nI]at hn
  | some e =>
   rw[z]at hn c2
   refine⟨e,rfl,?_⟩
   simp only[Option.map_some]at hn c2 ⊢
   have hm:nI (fp (F x) x e).nx pl∈(fp (F x) x e).nx:=by
    unfold nI at hn ⊢
    split at hn
    ·exact absurd rfl hn
    ·rename_i q
     rw[if_neg q]
     rw[List.getD_eq_getElem?_getD]at hn ⊢
     cases z2:(fp (F x) x e).nx[(pl.tmod (fp (F x) x e).nx.length).toNat]? with
     | none=>rw[z2]at hn;exact absurd rfl hn
     | some y=>exact List.mem_of_getElem? z2
   generalize nI (fp (F x) x e).nx pl=y at *
   unfold fp at hm
   simp only at hm
   split at hm
   ·exact absurd (List.mem_singleton.mp hm) c2
   ·split at hm
    ·exact(qZ (h.ok x) (h.cap x) x e.router).2 y hm
    ·simp at hm
 ·rw[if_neg c]at hn;exact absurd rfl hn
theorem lw{l:List Tbl}(ha:jv l=0){id pl:Int}{M:Int→Nat}(h:∀x,nxT l id pl x≠0→M (nxT l id pl x)<M x):j4 l id pl=[]:=by
 refine Classical.byContradiction λhne=>?_
 obtain⟨b,m,hb,hB,_,_⟩:=F2 (GT ha) rfl hne
 have key:∀j,j≤m→M (itN (nxT l id pl) b j)+j≤M b:=λj=>by
  induction j with
  | zero=>intro _;exact Nat.le_refl _
  | succ j ih =>
   intro hj
   have h1:=ih (by omega)
   have h2:nxT l id pl (itN (nxT l id pl) b j)≠0:=by
    by_cases e:j+1=m
    ·have:=hB.2.1
     rw[←e]at this
     show itN (nxT l id pl) b (j+1)≠0
     rw[this];exact hb
    ·exact(hB.2.2 (j+1) (by omega) (by omega)).2
   have h3:=h _ h2
   show M (nxT l id pl (itN (nxT l id pl) b j))+(j+1)≤M b
   omega
 have:=key m (Nat.le_refl _)
 rw[hB.2.1]at this
 have:=hB.1;omega
set_option pp.deepTerms true
set_option pp.maxSteps 100000
def isB(g:Tpl)(ds:List Hop)(x y:Int):Bool:=(be g x y).2 && ot g ds x y
structure Rh (rs:List Rtr) (g:Tpl) (ds:List Hop) (a b:Nat) (M:List Bool):Prop where
  ln:M.length=576
  el:∀p q x y,rs[p]?=some x→rs[q]?=some y→(p<a∨p=a∧q<b)→M[p * 24+q]?=some (isB g ds x.id y.id)
theorem Rh.set{rs:List Rtr}{g:Tpl}{ds:List Hop}{a b:Nat}{M:List Bool}(h:Rh rs g ds a b M)(hn:rs.length≤24){x y:Rtr}(hx:rs[a]?=some x)(hy:rs[b]?=some y){v:Bool}(hv:v=isB g ds x.id y.id):Rh rs g ds a (b+1) (M.set (a * 24+b) v):=by
 refine⟨by rw[List.length_set];exact h.ln,λp q x' y' hx' hy' hpq=>?_⟩
 have:=ap hx;have:=ap hy;have:=ap hx';have:=ap hy'
 rw[List.getElem?_set]
 by_cases e:a * 24+b=p * 24+q
 ·have e1:a=p:=by omega
  have e2:b=q:=by omega
  subst e1;subst e2
  rw[hx]at hx';cases hx'
  rw[hy]at hy';cases hy'
  rw[if_pos rfl,if_pos (by rw[h.ln];omega),hv]
 ·rw[if_neg e]
  exact h.el p q x' y' hx' hy' (by omega)
def lF(L:List Int)(p:Nat)(k:Int):Chg×Nat:=
 (⟨W (1+Mod (au L p) k),W (1+Mod (au L (ab L p)) k),rng L (ab L (ab L p)) 1 6,rng L (ab L (ab L (ab L p))) 1 6⟩,ab L (ab L (ab L (ab L p))))
def Qx(L:List Int)(p:Nat)(l:Lnk):Chg×Nat:=
 if Mod (au L p) 6=0 then(⟨l.a,l.b,0,0⟩,ab L p)
 else if Mod (au L p) 6=1 then(⟨l.a,l.b,W (l.ca+rng L (ab L p) 1 4),l.cb⟩,ab L (ab L p))
 else if Mod (au L p) 6=2 then(⟨l.a,l.b,W (l.ca+rng L (ab L p) 0 4),W (l.cb+rng L (ab L (ab L p)) 0 4)⟩,ab L (ab L (ab L p)))
 else if Mod (au L p) 6=3 then(⟨l.a,l.b,rng L (ab L p) 1 l.ca,rng L (ab L (ab L p)) 1 l.cb⟩,ab L (ab L (ab L p)))
 else if Mod (au L p) 6=4 then(⟨l.b,l.a,W (l.cb+Mod (au L (ab L p)) 3),W (l.ca+Mod (au L (ab L (ab L p))) 3)⟩,ab L (ab L (ab L p)))
 else(⟨l.a,l.b,l.ca,1⟩,ab L p)
def oA(L:List Int)(p:Nat)(g:Tpl):Chg×Nat:=
 if 0<g.ls.length then
  (if 0<Mod (au L (lF L p g.rs.length).2) 4 then
   (match g.ls[(Mod (au L (ab L (lF L p g.rs.length).2)) g.ls.length).toNat]? with
    | some l=>Qx L (ab L (ab L (lF L p g.rs.length).2)) l
    | none=>((lF L p g.rs.length).1,0))
   else((lF L p g.rs.length).1,ab L (lF L p g.rs.length).2))
 else lF L p g.rs.length
def chgN(L:List Int)(p:Nat)(c:Chg):Chg×Nat:=
 if Mod (au L p) 4=0 then(⟨Mod (au L (ab L p)) 9,c.b,c.ca,c.cb⟩,ab L (ab L p))
 else if Mod (au L p) 4=1 then(⟨c.a,c.a,c.ca,c.cb⟩,ab L p)
 else if Mod (au L p) 4=2 then(⟨c.a,c.b,ei L (ab L p),c.cb⟩,ab L (ab L p))
 else(⟨c.a,c.b,0,Mod (au L (ab L p)) 2⟩,ab L (ab L p))
def cA(L:List Int)(p:Nat)(g:Tpl)(n:Int):Chg×Nat:=
 if 0<n then
  (if fI L (oA L p g).2 n=true then chgN L (ab L (oA L p g).2) (oA L p g).1 else((oA L p g).1,ab L (oA L p g).2))
 else oA L p g
def yM(L:List Int)(p:Nat)(g:Tpl)(n:Int):=okL [.ref 0 0,.agg [.sl 2 (g.rs.map Rtr.v) false,.sl 5 (g.ls.map Lnk.v) false],.int n]∧(.box (.agg [.sl 1 (L.map AV.int) false,.int p]):Blk).ok
def LA(L:List Int)(n:Int)(t0:Chg×Nat):NF:=⟨[(0,.k,.ref 0 0),(2,.k,.int n),(6,.k,.ref 1 0),(8,.k,.ref 2 0)],[.box (.agg [.sl 1 (L.map AV.int) false,.int t0.2]),.box (.agg [.int 0,.int 0,.int 0,.int 0]),.box (.agg [.int t0.1.a,.int t0.1.b,.int t0.1.ca,.int t0.1.cb])]⟩
def L9(L:List Int)(p:Nat)(g:Tpl)(n:Int)(t1:Bool×Nat):NF:=⟨[(0,.k,.ref 0 0),(2,.k,.int n),(4,.k,.ref 1 0),(6,.k,.ref 2 0),(8,.k,.ref 3 0),(34,.k,.bool t1.1)],[.box (.agg [.sl 1 (L.map AV.int) false,.int t1.2]),.box (.agg [.sl 2 (g.rs.map Rtr.v) false,.sl 5 (g.ls.map Lnk.v) false]),.box (.agg [.int 0,.int 0,.int 0,.int 0]),.box (.agg [.int (W (1+(Mod (au L p) ((g.rs.map Rtr.v).length:Int)))),.int (W (1+(Mod (au L (ab L p)) ((g.rs.map Rtr.v).length:Int)))),.int (rng L (ab L (ab L p)) 1 6),.int (rng L (ab L (ab L (ab L p))) 1 6)])]⟩
def L8(L:List Int)(t0:Chg×Nat)(t2:Bool×Nat):NF:=⟨[(0,.k,.ref 0 0),(6,.k,.ref 1 0),(8,.k,.ref 2 0),(117,.k,.bool t2.1)],[.box (.agg [.sl 1 (L.map AV.int) false,.int t2.2]),.box (.agg [.int 0,.int 0,.int 0,.int 0]),.box (.agg [.int t0.1.a,.int t0.1.b,.int t0.1.ca,.int t0.1.cb])]⟩
@[reducible] def GZ:Nat→Type
 | 0=>Chg×Nat
 | 1=>Bool×Nat
 | 2=>Bool×Nat
 | _=>Unit
def sj(r:Tap×Chg):AV:=.agg [.int r.2.a,.int r.2.b,.int r.2.ca,.int r.2.cb]
def sk(r:Tap×Chg):List (Option Blk):=[some (.box (.agg [.sl 1 (r.1.L.map AV.int) false,.int r.1.p]))]
def yL(L:List Int)(p:Nat)(g:Tpl)(n:Int)(I0:(Chg×Nat)→Prop)(I1:(Bool×Nat)→Prop)(I2:Chg×Nat→(Bool×Nat)→Prop):Ax Tryz.prog GZ (Tap×Chg):=
 (.callH [0] (bR L p ((g.rs.map Rtr.v).length:Int)) 129
(.callH [0] (bR L (ab L p) ((g.rs.map Rtr.v).length:Int)) 193
(.callH [0] (fG L (ab L (ab L p)) 1 6) 241
(.callH [0] (fG L (ab L (ab L (ab L p))) 1 6) 273
(.join 0 (LA L n) (λ(t0:Chg×Nat)=>I0 t0) (λb0=>(.join 1 (L9 L p g n) (λ(t1:Bool×Nat)=>I1 t1) (λb1=>(.br 417 (decide (0<((g.ls.map Lnk.v).length:Int))) (.callH [0] (bR L (ab L (ab L (ab L (ab L p)))) 4) 433
(.bk 1 b1 (decide (0<(Mod (au L (ab L (ab L (ab L (ab L p))))) 4)),ab L (ab L (ab L (ab L (ab L p))))) [0,1,17,305]))
(.bk 1 b1 (false,ab L (ab L (ab L (ab L p)))) [0,1,17,305]))) λ(t1:Bool×Nat) =>
(.br 4 t1.1 (.callH [0] (bR L t1.2 ((g.ls.map Lnk.v).length:Int)) 100
(.elI 116 Lnk.v g.ls (Mod (au L t1.2) ((g.ls.map Lnk.v).length:Int)) λx1 =>
(.callH [0] (bR L (ab L t1.2) 6) 356
(.br 404 ((Mod (au L (ab L t1.2)) 6)==0) (.bk 0 b0 ((⟨x1.a,x1.b,0,0⟩:Chg),ab L (ab L t1.2)) [0,2,3])
(.br 436 ((Mod (au L (ab L t1.2)) 6)==1) (.callH [0] (fG L (ab L (ab L t1.2)) 1 4) 484
(.bk 0 b0 ((⟨x1.a,x1.b,W (x1.ca+(rng L (ab L (ab L t1.2)) 1 4)),x1.cb⟩:Chg),ab L (ab L (ab L t1.2))) [0,2,3]))
(.br 468 ((Mod (au L (ab L t1.2)) 6)==2) (.callH [0] (fG L (ab L (ab L t1.2)) 0 4) 516
(.callH [0] (fG L (ab L (ab L (ab L t1.2))) 0 4) 596
(.bk 0 b0 ((⟨x1.a,x1.b,W (x1.ca+(rng L (ab L (ab L t1.2)) 0 4)),W (x1.cb+(rng L (ab L (ab L (ab L t1.2))) 0 4))⟩:Chg),ab L (ab L (ab L (ab L t1.2)))) [0,2,3])))
(.br 500 ((Mod (au L (ab L t1.2)) 6)==3) (.callH [0] (fG L (ab L (ab L t1.2)) 1 x1.ca) 548
(.callH [0] (fG L (ab L (ab L (ab L t1.2))) 1 x1.cb) 612
(.bk 0 b0 ((⟨x1.a,x1.b,rng L (ab L (ab L t1.2)) 1 x1.ca,rng L (ab L (ab L (ab L t1.2))) 1 x1.cb⟩:Chg),ab L (ab L (ab L (ab L t1.2)))) [0,2,3])))
(.br 532 ((Mod (au L (ab L t1.2)) 6)==4) (.callH [0] (bR L (ab L (ab L t1.2)) 3) 644
(.callH [0] (bR L (ab L (ab L (ab L t1.2))) 3) 724
(.bk 0 b0 ((⟨x1.b,x1.a,W (x1.cb+(Mod (au L (ab L (ab L t1.2))) 3)),W (x1.ca+(Mod (au L (ab L (ab L (ab L t1.2)))) 3))⟩:Chg),ab L (ab L (ab L (ab L t1.2)))) [0,2,3])))
(.bk 0 b0 ((⟨x1.a,x1.b,x1.ca,1⟩:Chg),ab L (ab L t1.2)) [0,2,3])))))))))
(.bk 0 b0 ((⟨W (1+(Mod (au L p) ((g.rs.map Rtr.v).length:Int))),W (1+(Mod (au L (ab L p)) ((g.rs.map Rtr.v).length:Int))),rng L (ab L (ab L p)) 1 6,rng L (ab L (ab L (ab L p))) 1 6⟩:Chg),t1.2) [0,2,3])))) λ(t0:Chg×Nat) =>
(.pass (.join 2 (L8 L t0) (λ(t2:Bool×Nat)=>I2 t0 t2) (λb2=>(.br 51 (decide (0<n)) (.callH [0] (lm L t0.2 n) 83
(.bk 2 b2 (fI L t0.2 n,ab L t0.2) [0,1,2]))
(.bk 2 b2 (false,t0.2) [0,1,2]))) λ(t2:Bool×Nat) =>
(.br 3 t2.1 (.callH [0] (bR L t2.2 4) 19
(.br 67 ((Mod (au L t2.2) 4)==0) (.callH [0] (bR L (ab L t2.2) 9) 83
(.retH ((⟨L,ab L (ab L t2.2)⟩:Tap),(⟨Mod (au L (ab L t2.2)) 9,t0.1.b,t0.1.ca,t0.1.cb⟩:Chg)) ⟨[(6,.k,.ref 1 0)],[.box (.agg [.sl 1 (L.map AV.int) false,.int (((ab L (ab L t2.2)):Nat):Int)]),.box (.agg [.int (Mod (au L (ab L t2.2)) 9),.int t0.1.b,.int t0.1.ca,.int t0.1.cb])]⟩ [0,1]))
(.br 99 ((Mod (au L t2.2) 4)==1) (.retH ((⟨L,ab L t2.2⟩:Tap),(⟨t0.1.a,t0.1.a,t0.1.ca,t0.1.cb⟩:Chg)) ⟨[(6,.k,.ref 1 0)],[.box (.agg [.sl 1 (L.map AV.int) false,.int (ab L t2.2)]),.box (.agg [.int t0.1.a,.int t0.1.a,.int t0.1.ca,.int t0.1.cb])]⟩ [0,1])
(.br 131 ((Mod (au L t2.2) 4)==2) (.callH [0] (kX L (ab L t2.2)) 147
(.retH ((⟨L,ab L (ab L t2.2)⟩:Tap),(⟨t0.1.a,t0.1.b,ei L (ab L t2.2),t0.1.cb⟩:Chg)) ⟨[(6,.k,.ref 1 0)],[.box (.agg [.sl 1 (L.map AV.int) false,.int (((ab L (ab L t2.2)):Nat):Int)]),.box (.agg [.int t0.1.a,.int t0.1.b,.int (ei L (ab L t2.2)),.int t0.1.cb])]⟩ [0,1]))
(.callH [0] (bR L (ab L t2.2) 2) 147
(.retH ((⟨L,ab L (ab L t2.2)⟩:Tap),(⟨t0.1.a,t0.1.b,0,Mod (au L (ab L t2.2)) 2⟩:Chg)) ⟨[(6,.k,.ref 1 0)],[.box (.agg [.sl 1 (L.map AV.int) false,.int (((ab L (ab L t2.2)):Nat):Int)]),.box (.agg [.int t0.1.a,.int t0.1.b,.int 0,.int (Mod (au L (ab L t2.2)) 2)])]⟩ [0,1]))))))
(.retH ((⟨L,t2.2⟩:Tap),t0.1) ⟨[(6,.k,.ref 1 0)],[.box (.agg [.sl 1 (L.map AV.int) false,.int t2.2]),.box (.agg [.int t0.1.a,.int t0.1.b,.int t0.1.ca,.int t0.1.cb])]⟩ [0,1])))))))))
def Cb(L:List Int)(p:Nat)(g:Tpl)(n:Int)(I0:(Chg×Nat)→Prop)(I1:(Bool×Nat)→Prop)(I2:Chg×Nat→(Bool×Nat)→Prop)(r0:Tap×Chg):=(yL L p g n I0 I1 I2).vc sj sk r0
theorem Qy(L:List Int)(p:Nat)(g:Tpl)(n:Int)(ok:yM L p g n):∃I0 I1 I2,Cb L p g n I0 I1 I2 ((⟨L,(cA L p g n).2⟩:Tap),(cA L p g n).1):=by
 refine⟨λs=>s=oA L p g,λu=>u=(decide (0<g.ls.length∧0<Mod (au L (lF L p g.rs.length).2) 4),if 0<g.ls.length then ab L (lF L p g.rs.length).2 else(lF L p g.rs.length).2),λs u=>u=(decide (0<n∧fI L s.2 n=true),if 0<n then ab L s.2 else s.2),?_⟩
 simp only[yM,okU,Blk.ok,aL,List.length_map]at ok
 dsimp only[Cb,yL,GZ,Ax.vp,Ax.vc];simp only[vcU,rfU,List.length_map]
 have e0:(lF L p g.rs.length).2=ab L (ab L (ab L (ab L p))):=rfl
 refine⟨⟨⟨λc=>?_,λc=>?_⟩,?_⟩,?_⟩
 ·have c:0<g.ls.length:=by omega
  rw[e0,if_pos c]
  congr 1
  rw[decide_eq_decide];exact⟨λh=>⟨c,h⟩,λh=>h.2⟩
 ·have c:¬0<g.ls.length:=by omega
  rw[e0,if_neg c]
  congr 1
  rw[eq_comm,decide_eq_false_iff_not];exact λh=>c h.1
 ·rintro _ rfl
  simp only
  refine⟨λc=>?_,λc=>?_⟩
  ·obtain⟨c1,c2⟩:=of_decide_eq_true c
   rw[if_pos c1]
   have hm:=cU (x:=au L (ab L (lF L p g.rs.length).2)) (show 1≤(g.ls.length:Int) by omega)
   refine⟨hm.1,hm.2,λx hx=>?_⟩
   have e:oA L p g=Qx L (ab L (ab L (lF L p g.rs.length).2)) x:=by unfold oA;rw[if_pos c1,if_pos c2,hx]
   rw[e]
   unfold Qx
   refine⟨λd=>by rw[if_pos (eq_of_beq d)],λd=>?_⟩
   rw[if_neg (by simpa using d)]
   refine⟨λd=>by rw[if_pos (eq_of_beq d)],λd=>?_⟩
   rw[if_neg (by simpa using d)]
   refine⟨λd=>by rw[if_pos (eq_of_beq d)],λd=>?_⟩
   rw[if_neg (by simpa using d)]
   refine⟨λd=>by rw[if_pos (eq_of_beq d)],λd=>?_⟩
   rw[if_neg (by simpa using d)]
   exact⟨λd=>by rw[if_pos (eq_of_beq d)],λd=>by rw[if_neg (by simpa using d)]⟩
  ·have c:=of_decide_eq_false c
   unfold oA
   by_cases c1:0<g.ls.length
   ·rw[if_pos c1,if_pos c1,if_neg (λh=>c ⟨c1,h⟩)];rfl
   ·rw[if_neg c1,if_neg c1];rfl
 ·rintro _ rfl
  refine⟨⟨λc=>?_,λc=>?_⟩,?_⟩
  ·rw[if_pos c];simp[c]
  ·rw[if_neg c];simp[c]
  rintro _ rfl
  simp only
  unfold cA
  refine⟨λc=>?_,λc=>?_⟩
  ·obtain⟨c1,c2⟩:=of_decide_eq_true c
   rw[if_pos c1,if_pos c1,if_pos c2]
   unfold chgN
   refine⟨λd=>by rw[if_pos (eq_of_beq d)],λd=>?_⟩
   rw[if_neg (by simpa using d)]
   refine⟨λd=>by rw[if_pos (eq_of_beq d)],λd=>?_⟩
   rw[if_neg (by simpa using d)]
   exact⟨λd=>by rw[if_pos (eq_of_beq d)],λd=>by rw[if_neg (by simpa using d)]⟩
  ·have c:=of_decide_eq_false c
   by_cases c1:0<n
   ·rw[if_pos c1,if_pos c1,if_neg (λh=>c ⟨c1,h⟩)]
   ·rw[if_neg c1,if_neg c1]
def Qz(L:List Int)(p:Nat)(g:Tpl)(n:Int):HC Tryz.prog:=⟨9,[.k,(.a [(.s 2),(.s 5)]),.k],[.ref 0 0,.agg [.sl 2 (g.rs.map Rtr.v) false,.sl 5 (g.ls.map Lnk.v) false],.int n],[.box (.agg [.sl 1 (L.map AV.int) false,.int p])],sj ((⟨L,(cA L p g n).2⟩:Tap),(cA L p g n).1),sk ((⟨L,(cA L p g n).2⟩:Tap),(cA L p g n).1),aO.of_okh λok ok2=>have ok:yM L p g n:=⟨ok,ok2 _ (by simp)⟩;(Qy L p g n ok).elim λI0 h=>h.elim λI1 h=>h.elim λI2 h=>dX (sh:=.k) (enc:=sj) (hB:=sk) (a:=(yL L p g n I0 I1 I2).an) h (by kernel_rfl),aq (by kernel_rfl),gc.of (by simp[hcB,dG,AV.belB,allB,fJ,eT,sj,sk,ae (v:=AV.int) (λ_=>rfl),ae (v:=Lnk.v) (λ_=>rfl),ae (v:=Rtr.v) (λ_=>rfl)])⟩
end Go.Proofs.YtdoacjojljgdcaaGreat
