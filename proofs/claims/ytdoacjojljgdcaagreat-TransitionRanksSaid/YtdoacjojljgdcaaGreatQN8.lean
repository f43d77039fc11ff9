/- Texts joined: BH1 BH2 BH3 BH4 RK1 RK2 RK3 RK4 RK5 RK6 RF4 RF5. -/
import Derived.Test.YtdoacjojljgdcaaGreatQN7
set_option linter.unusedVariables false
set_option linter.unusedSimpArgs false
set_option linter.unusedSectionVars false
namespace Go.Proofs.YtdoacjojljgdcaaGreat
open Go Go.Am
def be_ca:AC:=.reg [⟨(some 72),.faddr 0 (.t 16),none⟩,⟨(some 73),.load false 1 (.t 72),none⟩,⟨(some 74),.faddr 0 (.t 8),none⟩,⟨(some 75),.load false 1 (.t 74),none⟩,⟨(some 76),.bin .neq (.t 73) (.t 75),none⟩,⟨(some 77),.move (.t 76),none⟩,⟨(some 78),.move (.t 6),(some (77,true))⟩,⟨(some 79),.faddr 0 (.t 16),(some (77,true))⟩,⟨(some 80),.load false 1 (.t 79),(some (77,true))⟩,⟨(some 81),.faddr 0 (.t 12),(some (77,true))⟩,⟨(some 82),.load false 1 (.t 81),(some (77,true))⟩,⟨(some 83),.faddr 0 (.t 16),(some (77,true))⟩,⟨(some 84),.load false 1 (.t 83),(some (77,true))⟩,⟨(some 85),.faddr 1 (.t 16),(some (77,true))⟩,⟨(some 86),.load false 1 (.t 85),(some (77,true))⟩,⟨(some 87),.build [(.val (.int .i64 0)),(.val (.int .i64 0))] [(0,1,(.t 84)),(1,1,(.t 86))],(some (77,true))⟩,⟨(some 88),.faddr 2 (.t 16),(some (77,true))⟩,⟨(some 89),.load false 1 (.t 88),(some (77,true))⟩,⟨(some 90),.call (.c (.func 94 [])) [(.t 78),(.t 80),(.t 82),(.t 87),(.t 89)],(some (77,true))⟩,⟨(some 91),.pick (.t 77) (.t 90) (.c (.val (.bool false))),none⟩,⟨(some 17),.move (.t 91),none⟩]
def be_cb:AC:=.reg [⟨(some 92),.move (.t 17),none⟩,⟨(some 93),.move (.t 92),none⟩,⟨(some 94),.move (.t 6),(some (93,true))⟩,⟨(some 95),.faddr 0 (.t 16),(some (93,true))⟩,⟨(some 96),.load false 1 (.t 95),(some (93,true))⟩,⟨(some 97),.faddr 0 (.t 12),(some (93,true))⟩,⟨(some 98),.load false 1 (.t 97),(some (93,true))⟩,⟨(some 99),.load true 2 (.t 8),(some (93,true))⟩,⟨(some 100),.move (.t 9),(some (93,true))⟩,⟨(some 101),.call (.c (.func 94 [])) [(.t 94),(.t 96),(.t 98),(.t 99),(.t 100)],(some (93,true))⟩,⟨(some 102),.pick (.t 93) (.t 101) (.c (.val (.bool false))),none⟩,⟨(some 103),.move (.t 102),none⟩,⟨(some 104),.move (.t 6),(some (103,true))⟩,⟨(some 105),.faddr 1 (.t 16),(some (103,true))⟩,⟨(some 106),.load false 1 (.t 105),(some (103,true))⟩,⟨(some 107),.faddr 0 (.t 12),(some (103,true))⟩,⟨(some 108),.load false 1 (.t 107),(some (103,true))⟩,⟨(some 109),.load true 2 (.t 8),(some (103,true))⟩,⟨(some 110),.move (.t 9),(some (103,true))⟩,⟨(some 111),.call (.c (.func 94 [])) [(.t 104),(.t 106),(.t 108),(.t 109),(.t 110)],(some (103,true))⟩,⟨(some 112),.pick (.t 103) (.t 111) (.c (.val (.bool false))),none⟩,⟨(some 113),.move (.t 112),none⟩,⟨(some 114),.move (.t 5),(some (113,true))⟩,⟨(some 115),.faddr 0 (.t 16),(some (113,true))⟩,⟨(some 116),.load false 1 (.t 115),(some (113,true))⟩,⟨(some 117),.mget none ((.sl 0 [] true)) false (.t 114) (.t 116),(some (113,true))⟩,⟨(some 118),.faddr 1 (.t 16),(some (113,true))⟩,⟨(some 119),.load false 1 (.t 118),(some (113,true))⟩,⟨(some 120),.call (.c (.func 69 [])) [(.t 117),(.t 119)],(some (113,true))⟩,⟨(some 121),.un .not (.t 120),(some (113,true))⟩,⟨(some 122),.pick (.t 113) (.t 121) (.c (.val (.bool false))),none⟩]
def be_cd:AC:=.dreg [⟨(some 123),.move (.t 5),none⟩,⟨(some 124),.faddr 0 (.t 16),none⟩,⟨(some 125),.load false 1 (.t 124),none⟩,⟨(some 126),.move (.t 5),none⟩,⟨(some 127),.faddr 0 (.t 16),none⟩,⟨(some 128),.load false 1 (.t 127),none⟩,⟨(some 129),.mget none ((.sl 0 [] true)) false (.t 126) (.t 128),none⟩,⟨(some 130),.faddr 1 (.t 16),none⟩,⟨(some 131),.load false 1 (.t 130),none⟩,⟨(some 132),.lit 1 1 (.val (.int .i64 0)) [(0,(.t 131))],none⟩,⟨(some 133),.append 1 8 (.t 129) (.t 132),none⟩,⟨none,.mset none (.t 123) (.t 125) (.t 133),none⟩] [(2,5),(2,6),(2,8),(5,8),(6,8),(2,9),(5,9),(6,9),(2,10)]
def be_in:AC:=.seq be_ca (.seq be_cb (.cond (.t 122) be_cd .skip))
abbrev disV(t:Tpl):AV:=.mp (some 2) ((disT t).map λp=>kHop p.1) ((disT t).map λp=>AV.int p.2)
structure BeB (t:Tpl) (ds:List Hop) (s:S3) (M:Rws):Prop where
  nx:112≤s.nx
  t1:s.tm 1=.sl 2 (ds.map Hop.v) false
  t2:s.tm 2=.ref 0 0
  h0:s.hp 0=some (.box (Tpl.v t))
  t5:s.tm 5=.mref 32
  t6:s.tm 6=disV t
  fam:∃ns,Fam s.hp s.nx 32 ns M
structure Kp (R:Nat→Prop) (s s':S3):Prop where
  nx:s.nx≤s'.nx
  tm:∀r,R r→s'.tm r=s.tm r
  hp:∀b x,b<s.nx→s.hp b=some (.box x)→s'.hp b=some (.box x)
def beQ(t:Tpl)(h:Hop)(c d x y w:Int)(M:Rws):Bool:=(x != h.a) && (thrT (disT t) x d ⟨x,y⟩ w && (thrT (disT t) x d h c && (thrT (disT t) y d h c && !(decide (y∈mval M x [])))))
def beI(t:Tpl)(h:Hop)(c d:Int)(M:Rws)(s:Int×Int×Int):Rws:=if beQ t h c d s.1 s.2.1 s.2.2 M=true then pu M s.1 s.2.1 else M
def beR(r:Nat):Prop:=r<17∨17<r∧r<72
theorem be_in_ok(t:Tpl)(ds:List Hop)(h:Hop)(c d x y w:Int)(fl:AV)(s:S3)(M:Rws)(bh bd bs:Nat)(hB:BeB t ds s M)(g8:s.tm 8=.ref bh 0)(g9:s.tm 9=.int c)(g12:s.tm 12=.ref bd 0)(g16:s.tm 16=.ref bs 0)
  (hh:s.hp bh=some (.box (.agg [.int h.a,.int h.b]))) (hd:s.hp bd=some (.box (.agg [.int d,fl]))) (hs:s.hp bs=some (.box (.agg [.int x,.int y,.int w]))) (hbs:bs<s.nx) (hl:(mval M x []).length≤1000000) (k:Nat) (Q:X→S3→Prop)
  (hQ:∀s',Kp beR s s'→BeB t ds s' (beI t h c d M (x,y,w))→Q .normal s'):AWP Tryz.prog 0 k be_in Q s:=by
 obtain⟨tm,hp,nx⟩:=s
 obtain⟨n1,t1,t2,h0,t5,t6,ns,hF⟩:=hB
 simp only at n1 t1 t2 h0 t5 t6 hF g8 g9 g12 g16 hh hd hs hbs
 unfold be_in be_ca be_cb be_cd
 have hR:∀{r:Nat} {tm':Nat→AV},(∀r,beR r→tm' r=tm r)→beR r→tm' r=tm r:=λh1 h2=>h1 _ h2
 refine AWP.seq' ?_
 suffices HB:∀tm' nx',nx≤nx'→(∀r,beR r→tm' r=tm r)→tm' 17=.bool ((x != h.a) && thrT (disT t) x d ⟨x,y⟩ w)→AWP Tryz.prog 0 k (.seq be_cb (.cond (.t 122) be_cd .skip)) Q ⟨tm',hp,nx'⟩ by
  cases e1:(x != h.a)with
  | false =>
   rw[e1]at HB
   refine AWP.reg' λK hK=>?_
   try simp only[stepS,stepD,stepM,eq_self,implies_true,forall_eq_or_imp,forall_eq,Nat.reduceEqDiff,↓reduceIte,Nat.reduceAdd,Nat.reduceLeDiff,Nat.reduceSub,Nat.reduceMul,Nat.reduceLT,Int.reduceBEq,Int.reduceBNe,Int.reduceToNat,Int.reduceLT,Int.reduceLE,Int.reduceAdd,Int.reduceSub,Int.reduceMul,reduceCtorEq,g16,g8,hs,hh,e1]
   refine hK _ _ _ ?_
   clear hK K
   exact HB _ _ (by omega) (λr hr=>by unfold beR at hr;simp only[upd_ap];repeat rw[if_neg (by omega)]) rfl
  | true =>
   rw[e1]at HB
   refine AWP.reg' λK hK=>?_
   try simp only[stepS,stepD,stepM,eq_self,implies_true,forall_eq_or_imp,forall_eq,Nat.reduceEqDiff,↓reduceIte,Nat.reduceAdd,Nat.reduceLeDiff,Nat.reduceSub,Nat.reduceMul,Nat.reduceLT,Int.reduceBEq,Int.reduceBNe,Int.reduceToNat,Int.reduceLT,Int.reduceLE,Int.reduceAdd,Int.reduceSub,Int.reduceMul,reduceCtorEq,g16,g8,hs,hh,e1,g12,hd,t6]
   refine evT_pure ((thrP_c (disT t) x d ⟨x,y⟩ w).ok) (thrP_c (disT t) x d ⟨x,y⟩ w).fn rfl (by rfl) (by repeat' (first|exact trivial|assumption|refine And.intro ?_ ?_)) ?_
   try simp only[stepS,stepD,stepM,eq_self,implies_true,forall_eq_or_imp,forall_eq,Nat.reduceEqDiff,↓reduceIte,Nat.reduceAdd,Nat.reduceLeDiff,Nat.reduceSub,Nat.reduceMul,Nat.reduceLT,Int.reduceBEq,Int.reduceBNe,Int.reduceToNat,Int.reduceLT,Int.reduceLE,Int.reduceAdd,Int.reduceSub,Int.reduceMul,reduceCtorEq]
   refine hK _ _ _ ?_
   clear hK K
   exact HB _ _ (by omega) (λr hr=>by unfold beR at hr;simp only[upd_ap];repeat rw[if_neg (by omega)]) rfl
 clear hR
 intro tm1 nx1 hnx1 hR1 h17
 have g6':tm1 6=disV t:=(hR1 6 (.inl (by omega))).trans t6
 have g8':tm1 8=.ref bh 0:=(hR1 8 (.inl (by omega))).trans g8
 have g9':tm1 9=.int c:=(hR1 9 (.inl (by omega))).trans g9
 have g12':tm1 12=.ref bd 0:=(hR1 12 (.inl (by omega))).trans g12
 have g16':tm1 16=.ref bs 0:=(hR1 16 (.inl (by omega))).trans g16
 have g5':tm1 5=.mref 32:=(hR1 5 (.inl (by omega))).trans t5
 refine AWP.seq' ?_
 suffices HC:∀tm' nx',nx≤nx'→(∀r,beR r→tm' r=tm r)→tm' 122=.bool (beQ t h c d x y w M)→AWP Tryz.prog 0 k (.cond (.t 122) be_cd .skip) Q ⟨tm',hp,nx'⟩ by
  have fin:∀{tm':Nat→AV},(∀r,beR r→tm' r=tm1 r)→∀r,beR r→tm' r=tm r:=λh r hr=>(h r hr).trans (hR1 r hr)
  unfold beQ at HC
  cases e1:((x != h.a) && thrT (disT t) x d ⟨x,y⟩ w)with
  | false =>
   rw[e1]at h17
   rw[←Bool.and_assoc,e1,Bool.false_and]at HC
   refine AWP.reg' λK hK=>?_
   try simp only[stepS,stepD,stepM,eq_self,implies_true,forall_eq_or_imp,forall_eq,Nat.reduceEqDiff,↓reduceIte,Nat.reduceAdd,Nat.reduceLeDiff,Nat.reduceSub,Nat.reduceMul,Nat.reduceLT,Int.reduceBEq,Int.reduceBNe,Int.reduceToNat,Int.reduceLT,Int.reduceLE,Int.reduceAdd,Int.reduceSub,Int.reduceMul,reduceCtorEq,h17]
   refine hK _ _ _ ?_
   clear hK K
   exact HC _ _ (by omega) (fin λr hr=>by unfold beR at hr;simp only[upd_ap];repeat rw[if_neg (by omega)]) rfl
  | true =>
   rw[e1]at h17
   rw[←Bool.and_assoc,e1,Bool.true_and]at HC
   cases e2:thrT (disT t) x d h c with
   | false =>
    have p2:PSpec Tryz.prog (thrP_c (disT t) x d h c).f (thrP_c (disT t) x d h c).args (.bool false):=by rw[←e2];exact(thrP_c (disT t) x d h c).ok
    rw[e2,Bool.false_and]at HC
    refine AWP.reg' λK hK=>?_
    try simp only[stepS,stepD,stepM,eq_self,implies_true,forall_eq_or_imp,forall_eq,Nat.reduceEqDiff,↓reduceIte,Nat.reduceAdd,Nat.reduceLeDiff,Nat.reduceSub,Nat.reduceMul,Nat.reduceLT,Int.reduceBEq,Int.reduceBNe,Int.reduceToNat,Int.reduceLT,Int.reduceLE,Int.reduceAdd,Int.reduceSub,Int.reduceMul,reduceCtorEq,h17,g6',g16',hs,g12',hd,g8',hh,g9']
    refine evT_pure (p2) (thrP_c (disT t) x d h c).fn rfl (by rfl) (by repeat' (first|exact trivial|assumption|refine And.intro ?_ ?_)) ?_
    try simp only[stepS,stepD,stepM,eq_self,implies_true,forall_eq_or_imp,forall_eq,Nat.reduceEqDiff,↓reduceIte,Nat.reduceAdd,Nat.reduceLeDiff,Nat.reduceSub,Nat.reduceMul,Nat.reduceLT,Int.reduceBEq,Int.reduceBNe,Int.reduceToNat,Int.reduceLT,Int.reduceLE,Int.reduceAdd,Int.reduceSub,Int.reduceMul,reduceCtorEq]
    refine hK _ _ _ ?_
    clear hK K
    exact HC _ _ (by omega) (fin λr hr=>by unfold beR at hr;simp only[upd_ap];repeat rw[if_neg (by omega)]) rfl
   | true =>
    have p2:PSpec Tryz.prog (thrP_c (disT t) x d h c).f (thrP_c (disT t) x d h c).args (.bool true):=by rw[←e2];exact(thrP_c (disT t) x d h c).ok
    rw[e2,Bool.true_and]at HC
    cases e3:thrT (disT t) y d h c with
    | false =>
     have p3:PSpec Tryz.prog (thrP_c (disT t) y d h c).f (thrP_c (disT t) y d h c).args (.bool false):=by rw[←e3];exact(thrP_c (disT t) y d h c).ok
     rw[e3,Bool.false_and]at HC
     refine AWP.reg' λK hK=>?_
     try simp only[stepS,stepD,stepM,eq_self,implies_true,forall_eq_or_imp,forall_eq,Nat.reduceEqDiff,↓reduceIte,Nat.reduceAdd,Nat.reduceLeDiff,Nat.reduceSub,Nat.reduceMul,Nat.reduceLT,Int.reduceBEq,Int.reduceBNe,Int.reduceToNat,Int.reduceLT,Int.reduceLE,Int.reduceAdd,Int.reduceSub,Int.reduceMul,reduceCtorEq,h17,g6',g16',hs,g12',hd,g8',hh,g9']
     refine evT_pure (p2) (thrP_c (disT t) x d h c).fn rfl (by rfl) (by repeat' (first|exact trivial|assumption|refine And.intro ?_ ?_)) ?_
     try simp only[stepS,stepD,stepM,eq_self,implies_true,forall_eq_or_imp,forall_eq,Nat.reduceEqDiff,↓reduceIte,Nat.reduceAdd,Nat.reduceLeDiff,Nat.reduceSub,Nat.reduceMul,Nat.reduceLT,Int.reduceBEq,Int.reduceBNe,Int.reduceToNat,Int.reduceLT,Int.reduceLE,Int.reduceAdd,Int.reduceSub,Int.reduceMul,reduceCtorEq,g6',g16',hs,g12',hd,g8',hh,g9']
     refine evT_pure (p3) (thrP_c (disT t) y d h c).fn rfl (by rfl) (by repeat' (first|exact trivial|assumption|refine And.intro ?_ ?_)) ?_
     try simp only[stepS,stepD,stepM,eq_self,implies_true,forall_eq_or_imp,forall_eq,Nat.reduceEqDiff,↓reduceIte,Nat.reduceAdd,Nat.reduceLeDiff,Nat.reduceSub,Nat.reduceMul,Nat.reduceLT,Int.reduceBEq,Int.reduceBNe,Int.reduceToNat,Int.reduceLT,Int.reduceLE,Int.reduceAdd,Int.reduceSub,Int.reduceMul,reduceCtorEq]
     refine hK _ _ _ ?_
     clear hK K
     exact HC _ _ (by omega) (fin λr hr=>by unfold beR at hr;simp only[upd_ap];repeat rw[if_neg (by omega)]) rfl
    | true =>
     have p3:PSpec Tryz.prog (thrP_c (disT t) y d h c).f (thrP_c (disT t) y d h c).args (.bool true):=by rw[←e3];exact(thrP_c (disT t) y d h c).ok
     rw[e3,Bool.true_and]at HC
     cases e4:mhas M x with
     | false =>
      have q1:=λz v kk=>(hF.no e4 z v kk).1
      rw[mval_no e4]at HC
      refine AWP.reg' λK hK=>?_
      try simp only[stepS,stepD,stepM,eq_self,implies_true,forall_eq_or_imp,forall_eq,Nat.reduceEqDiff,↓reduceIte,Nat.reduceAdd,Nat.reduceLeDiff,Nat.reduceSub,Nat.reduceMul,Nat.reduceLT,Int.reduceBEq,Int.reduceBNe,Int.reduceToNat,Int.reduceLT,Int.reduceLE,Int.reduceAdd,Int.reduceSub,Int.reduceMul,reduceCtorEq,h17,g6',g16',hs,g12',hd,g8',hh,g9']
      refine evT_pure (p2) (thrP_c (disT t) x d h c).fn rfl (by rfl) (by repeat' (first|exact trivial|assumption|refine And.intro ?_ ?_)) ?_
      try simp only[stepS,stepD,stepM,eq_self,implies_true,forall_eq_or_imp,forall_eq,Nat.reduceEqDiff,↓reduceIte,Nat.reduceAdd,Nat.reduceLeDiff,Nat.reduceSub,Nat.reduceMul,Nat.reduceLT,Int.reduceBEq,Int.reduceBNe,Int.reduceToNat,Int.reduceLT,Int.reduceLE,Int.reduceAdd,Int.reduceSub,Int.reduceMul,reduceCtorEq,g6',g16',hs,g12',hd,g8',hh,g9']
      refine evT_pure (p3) (thrP_c (disT t) y d h c).fn rfl (by rfl) (by repeat' (first|exact trivial|assumption|refine And.intro ?_ ?_)) ?_
      try simp only[stepS,stepD,stepM,eq_self,implies_true,forall_eq_or_imp,forall_eq,Nat.reduceEqDiff,↓reduceIte,Nat.reduceAdd,Nat.reduceLeDiff,Nat.reduceSub,Nat.reduceMul,Nat.reduceLT,Int.reduceBEq,Int.reduceBNe,Int.reduceToNat,Int.reduceLT,Int.reduceLE,Int.reduceAdd,Int.reduceSub,Int.reduceMul,reduceCtorEq,g5',g16',hs,hF.hm,evA_mget,mapA,AV.key,MK.fits,q1 _ .unk none,and_self,true_and]
      have p4:PSpec Tryz.prog (contI_c [] y).f [.sl 0 [] true,.int y] (.bool false):=PSpec.sub (show PSpec _ _ [.sl 1 [] false,.int y] (.bool false)from(contI_c [] y).ok) ⟨Sub.nil,Sub.refl,trivial⟩ Sub.refl
      refine evT_pure (p4) (contI_c [] y).fn rfl (by rfl) (by repeat' (first|exact trivial|assumption|refine And.intro ?_ ?_)) ?_
      try simp only[stepS,stepD,stepM,eq_self,implies_true,forall_eq_or_imp,forall_eq,Nat.reduceEqDiff,↓reduceIte,Nat.reduceAdd,Nat.reduceLeDiff,Nat.reduceSub,Nat.reduceMul,Nat.reduceLT,Int.reduceBEq,Int.reduceBNe,Int.reduceToNat,Int.reduceLT,Int.reduceLE,Int.reduceAdd,Int.reduceSub,Int.reduceMul,reduceCtorEq]
      refine hK _ _ _ ?_
      clear hK K
      exact HC _ _ (by omega) (fin λr hr=>by unfold beR at hr;simp only[upd_ap];repeat rw[if_neg (by omega)]) rfl
     | true =>
      obtain⟨i0,b0,y1,y2,y3,y4,y5,y6⟩:=hF.yes e4
      refine AWP.reg' λK hK=>?_
      try simp only[stepS,stepD,stepM,eq_self,implies_true,forall_eq_or_imp,forall_eq,Nat.reduceEqDiff,↓reduceIte,Nat.reduceAdd,Nat.reduceLeDiff,Nat.reduceSub,Nat.reduceMul,Nat.reduceLT,Int.reduceBEq,Int.reduceBNe,Int.reduceToNat,Int.reduceLT,Int.reduceLE,Int.reduceAdd,Int.reduceSub,Int.reduceMul,reduceCtorEq,h17,g6',g16',hs,g12',hd,g8',hh,g9']
      refine evT_pure (p2) (thrP_c (disT t) x d h c).fn rfl (by rfl) (by repeat' (first|exact trivial|assumption|refine And.intro ?_ ?_)) ?_
      try simp only[stepS,stepD,stepM,eq_self,implies_true,forall_eq_or_imp,forall_eq,Nat.reduceEqDiff,↓reduceIte,Nat.reduceAdd,Nat.reduceLeDiff,Nat.reduceSub,Nat.reduceMul,Nat.reduceLT,Int.reduceBEq,Int.reduceBNe,Int.reduceToNat,Int.reduceLT,Int.reduceLE,Int.reduceAdd,Int.reduceSub,Int.reduceMul,reduceCtorEq,g6',g16',hs,g12',hd,g8',hh,g9']
      refine evT_pure (p3) (thrP_c (disT t) y d h c).fn rfl (by rfl) (by repeat' (first|exact trivial|assumption|refine And.intro ?_ ?_)) ?_
      try simp only[stepS,stepD,stepM,eq_self,implies_true,forall_eq_or_imp,forall_eq,Nat.reduceEqDiff,↓reduceIte,Nat.reduceAdd,Nat.reduceLeDiff,Nat.reduceSub,Nat.reduceMul,Nat.reduceLT,Int.reduceBEq,Int.reduceBNe,Int.reduceToNat,Int.reduceLT,Int.reduceLE,Int.reduceAdd,Int.reduceSub,Int.reduceMul,reduceCtorEq,g5',g16',hs,hF.hm,evA_mget,mapA,AV.key,MK.fits,y5,and_self,true_and]
      refine evT_lend [b0] (show PSpec Tryz.prog (contI_c (mval M x []) y).f [.sl 1 ((mval M x []).map AV.int) false,.int y] (.bool (decide (y∈mval M x [])))from(contI_c (mval M x []) y).ok) (contI_c (mval M x []) y).fn rfl rfl ⟨View.vec (by simp) y4 (pureBL_ok (pureBL_map (λ_=>rfl) _)),View.pure trivial,trivial⟩ trivial ?_
      try simp only[stepS,stepD,stepM,eq_self,implies_true,forall_eq_or_imp,forall_eq,Nat.reduceEqDiff,↓reduceIte,Nat.reduceAdd,Nat.reduceLeDiff,Nat.reduceSub,Nat.reduceMul,Nat.reduceLT,Int.reduceBEq,Int.reduceBNe,Int.reduceToNat,Int.reduceLT,Int.reduceLE,Int.reduceAdd,Int.reduceSub,Int.reduceMul,reduceCtorEq]
      refine hK _ _ _ ?_
      clear hK K
      exact HC _ _ (by omega) (fin λr hr=>by unfold beR at hr;simp only[upd_ap];repeat rw[if_neg (by omega)]) rfl
 clear hR1 h17 g6' g8' g9' g12' g16' g5' hnx1 tm1 nx1
 intro tm1 nx1 hnx1 hR1 h122
 have g16':tm1 16=.ref bs 0:=(hR1 16 (.inl (by omega))).trans g16
 have g5':tm1 5=.mref 32:=(hR1 5 (.inl (by omega))).trans t5
 have hB0:∀(tm':Nat→AV) (hp':Hp) (nx':Nat) (M':Rws),112≤nx'→(∀r,beR r→tm' r=tm r)→hp' 0=hp 0→(∃ns,Fam hp' nx' 32 ns M')→BeB t ds ⟨tm',hp',nx'⟩ M':=λtm' hp' nx' M' hn hr h0' hf =>
  ⟨hn,(hr 1 (.inl (by omega))).trans t1,(hr 2 (.inl (by omega))).trans t2,h0'.trans h0,(hr 5 (.inl (by omega))).trans t5,(hr 6 (.inl (by omega))).trans t6,hf⟩
 refine AWP.cond (b:=beQ t h c d x y w M) h122 (λhq=>?_) (λhq=>?_)
 case refine_2 =>
  refine AWP.skip (hQ _ ⟨hnx1,λr hr=>hR1 r hr,λb z hb hz=>hz⟩ ?_)
  unfold beI
  rw[if_neg (by simp[hq])]
  exact hB0 _ _ _ _ (by omega) hR1 rfl ⟨ns,hF.keep (λ_ _ _=>rfl) hnx1⟩
 have hI:beI t h c d M (x,y,w)=pu M x y:=by unfold beI;rw[if_pos hq]
 rw[hI]at hQ
 obtain⟨f32a,f32b,f32c,f32d⟩:=nxF (show 32<nx1 by omega)
 obtain⟨fsa,fsb,fsc,fsd⟩:=nxF (show bs<nx1 by omega)
 have hml:=maxLen_eq
 have hbs32:(bs=32)=False:=by simp;rintro rfl;rw[hF.hm]at hs;cases hs
 have hbs32':(32=bs)=False:=by simp;rintro rfl;rw[hF.hm]at hs;cases hs
 cases e4:mhas M x with
 | false =>
  have q1:=λz v kk=>(hF.no e4 z v kk).1
  have q2:=λz v kk=>(hF.no e4 z v kk).2
  refine AWP.dreg' λK hK=>?_
  try simp only[stepS,stepD,stepM,eq_self,implies_true,forall_eq_or_imp,forall_eq,Nat.reduceEqDiff,↓reduceIte,Nat.reduceAdd,Nat.reduceLeDiff,Nat.reduceSub,Nat.reduceMul,Nat.reduceLT,Int.reduceBEq,Int.reduceBNe,Int.reduceToNat,Int.reduceLT,Int.reduceLE,Int.reduceAdd,Int.reduceSub,Int.reduceMul,reduceCtorEq,g5',g16',hs,hF.hm,evA_mget,evA_mset,mapA,AV.key,MK.fits,q1 _ .unk none,and_self,true_and]
  refine evD_lit ?_
  try simp only[stepS,stepD,stepM,eq_self,implies_true,forall_eq_or_imp,forall_eq,Nat.reduceEqDiff,↓reduceIte,Nat.reduceAdd,Nat.reduceLeDiff,Nat.reduceSub,Nat.reduceMul,Nat.reduceLT,Int.reduceBEq,Int.reduceBNe,Int.reduceToNat,Int.reduceLT,Int.reduceLE,Int.reduceAdd,Int.reduceSub,Int.reduceMul,reduceCtorEq,g5',g16',hs,hF.hm,evA_mget,evA_mset,mapA,AV.key,MK.fits,and_self,true_and,appendA,srcA,f32a,f32b,f32c,f32d,Nat.add_assoc]
  refine⟨⟨by decide,by omega⟩,?_⟩
  refine⟨?_,hK _ _ _ (hQ _ ⟨by dsimp only;omega,λr hr=>?_,λb z hb hz=>?_⟩ (hB0 _ _ _ _ (by omega) (λr hr=>?_) ?_ ⟨ns++[nx1+160],hF.put_no e4 (f:=nx1+160) (by omega) (by omega) ?_ ?_ λb hb hne=>?_⟩))⟩
  ·simp[parOk,disj,heapy,AOp.opers,refIds,evO,upd_ap,fsa,fsb,f32a,f32b,hbs32,hbs32']
  ·have hr':=hr;unfold beR at hr';simp only[upd_ap];repeat rw[if_neg (by omega)]
   exact hR1 r hr
  ·have hb1:b<nx:=hb
   have hz1:hp b=some (.box z):=hz
   have e32:b≠32:=λc=>by subst c;rw[hF.hm]at hz1;cases hz1
   simp only[upd_ap,if_neg e32];rw[if_neg (by omega)];exact hz1
  ·have hr':=hr;unfold beR at hr';simp only[upd_ap];repeat rw[if_neg (by omega)]
   exact hR1 r hr
  ·simp only[upd_ap];rw[if_neg (by omega),if_neg (by omega),if_neg (by omega)]
  ·simp only[upd_ap,↓reduceIte];exact congrArg some (q2 (.sl 0 [] true) _ none)
  ·simp only[upd_ap,f32b,↓reduceIte]
  ·simp only[upd_ap,if_neg hne];rw[if_neg (by omega)]
 | true =>
  obtain⟨i0,b0,y1,y2,y3,y4,y5,y6⟩:=hF.yes e4
  have hb0:=hF.lt b0 (List.mem_of_getElem? y1)
  obtain⟨b0a,b0b,_,_⟩:=nxF (show b0<nx1 by omega)
  have hb32:(32=b0)=False:=by simp;rintro rfl;exact hF.bm_no (List.mem_of_getElem? y1)
  have hb32':(b0=32)=False:=by simp;rintro rfl;exact hF.bm_no (List.mem_of_getElem? y1)
  have hbs0:(bs=b0)=False:=by simp;rintro rfl;rw[hs]at y4;cases y4
  have hbs0':(b0=bs)=False:=by simp;rintro rfl;rw[hs]at y4;cases y4
  refine AWP.dreg' λK hK=>?_
  try simp only[stepS,stepD,stepM,eq_self,implies_true,forall_eq_or_imp,forall_eq,Nat.reduceEqDiff,↓reduceIte,Nat.reduceAdd,Nat.reduceLeDiff,Nat.reduceSub,Nat.reduceMul,Nat.reduceLT,Int.reduceBEq,Int.reduceBNe,Int.reduceToNat,Int.reduceLT,Int.reduceLE,Int.reduceAdd,Int.reduceSub,Int.reduceMul,reduceCtorEq,g5',g16',hs,hF.hm,evA_mget,evA_mset,mapA,AV.key,MK.fits,y5,and_self,true_and]
  refine evD_lit ?_
  try simp only[stepS,stepD,stepM,eq_self,implies_true,forall_eq_or_imp,forall_eq,Nat.reduceEqDiff,↓reduceIte,Nat.reduceAdd,Nat.reduceLeDiff,Nat.reduceSub,Nat.reduceMul,Nat.reduceLT,Int.reduceBEq,Int.reduceBNe,Int.reduceToNat,Int.reduceLT,Int.reduceLE,Int.reduceAdd,Int.reduceSub,Int.reduceMul,reduceCtorEq,g5',g16',hs,hF.hm,evA_mget,evA_mset,mapA,AV.key,MK.fits,and_self,true_and,appendA,srcA,y4,f32a,f32b,f32c,f32d,hb32,hb32',Nat.add_assoc,List.length_map]
  refine⟨⟨by omega,by omega⟩,?_⟩
  refine⟨?_,hK _ _ _ (hQ _ ⟨by dsimp only;omega,λr hr=>?_,λb z hb hz=>?_⟩ (hB0 _ _ _ _ (by omega) (λr hr=>?_) ?_ ⟨ns.set i0 (nx1+160),hF.put_yes e4 y1 y2 y3 (f:=nx1+160) (by omega) (by omega) ?_ ?_ λb hb hne hnb=>?_⟩))⟩
  ·simp[parOk,disj,heapy,AOp.opers,refIds,evO,upd_ap,fsa,fsb,f32a,f32b,hbs32,hbs32',hbs0,hbs0',hb32,hb32']
  ·have hr':=hr;unfold beR at hr';simp only[upd_ap];repeat rw[if_neg (by omega)]
   exact hR1 r hr
  ·have hb1:b<nx:=hb
   have hz1:hp b=some (.box z):=hz
   have e32:b≠32:=λc=>by subst c;rw[hF.hm]at hz1;cases hz1
   have eb0:b≠b0:=λc=>by subst c;rw[y4]at hz1;cases hz1
   simp only[upd_ap,if_neg e32,if_neg eb0];rw[if_neg (by omega)];exact hz1
  ·have hr':=hr;unfold beR at hr';simp only[upd_ap];repeat rw[if_neg (by omega)]
   exact hR1 r hr
  ·have hb00:(0=b0)=False:=by simp;rintro rfl;rw[h0]at y4;cases y4
   simp only[upd_ap,hb00];rw[if_neg (by omega),if_neg (by omega),if_neg (by omega)];rfl
  ·simp only[upd_ap,↓reduceIte];exact congrArg some (y6 none _)
  ·simp only[upd_ap,f32b,↓reduceIte]
  ·simp only[upd_ap,if_neg hne,if_neg hnb];rw[if_neg (by omega)]
def be_c4:AC:=.seq (.reg [⟨(some 52),.faddr 0 (.t 14),none⟩,⟨(some 53),.load false 1 (.t 52),none⟩,⟨(some 54),.faddr 1 (.t 14),none⟩,⟨(some 55),.load false 1 (.t 54),none⟩,⟨(some 56),.faddr 2 (.t 14),none⟩,⟨(some 57),.load false 1 (.t 56),none⟩,⟨(some 58),.build [(.val (.int .i64 0)),(.val (.int .i64 0)),(.val (.int .i64 0))] [(0,1,(.t 53)),(1,1,(.t 55)),(2,1,(.t 57))],none⟩,⟨(some 59),.faddr 1 (.t 14),none⟩,⟨(some 60),.load false 1 (.t 59),none⟩,⟨(some 61),.faddr 0 (.t 14),none⟩,⟨(some 62),.load false 1 (.t 61),none⟩,⟨(some 63),.faddr 3 (.t 14),none⟩,⟨(some 64),.load false 1 (.t 63),none⟩,⟨(some 65),.build [(.val (.int .i64 0)),(.val (.int .i64 0)),(.val (.int .i64 0))] [(0,1,(.t 60)),(1,1,(.t 62)),(2,1,(.t 64))],none⟩,⟨(some 66),.lit 3 2 (.agg [(.val (.int .i64 0)),(.val (.int .i64 0)),(.val (.int .i64 0))]) [(0,(.t 58)),(1,(.t 65))],none⟩,⟨(some 67),.len (.t 66),none⟩,⟨(some 68),.move (.c (.val (.int .i64 0))),none⟩])
 (.block 6 (.loop (.seq (.reg [⟨(some 69),.bin .lss (.t 68) (.t 67),none⟩])
 (.seq (.cond (.t 69) (.skip) (.exit 6))
 (.seq (.block 7 (.seq (.reg [⟨(some 70),.iaddr 3 (.t 66) (.t 68),none⟩,⟨(some 71),.load true 3 (.t 70),none⟩,⟨(some 16),.box (.c (.agg [(.val (.int .i64 0)),(.val (.int .i64 0)),(.val (.int .i64 0))])),none⟩,⟨none,.store 3 (.t 16) (.t 71),none⟩])
 be_in))
 (.reg [⟨(some 134),.bin .add (.t 68) (.c (.val (.int .i64 1))),none⟩,⟨(some 68),.move (.t 134),none⟩]))))))
def be_c3:AC:=.seq (.reg [⟨(some 45),.faddr 1 (.t 2),none⟩,⟨(some 46),.load false 1 (.t 45),none⟩,⟨(some 47),.len (.t 46),none⟩,⟨(some 48),.move (.c (.val (.int .i64 0))),none⟩])
 (.block 4 (.loop (.seq (.reg [⟨(some 49),.bin .lss (.t 48) (.t 47),none⟩])
 (.seq (.cond (.t 49) (.skip) (.exit 4))
 (.seq (.block 5 (.seq (.reg [⟨(some 50),.iaddr 5 (.t 46) (.t 48),none⟩,⟨(some 51),.load true 5 (.t 50),none⟩,⟨(some 14),.box (.c (.agg [(.val (.int .i64 0)),(.val (.int .i64 0)),(.val (.int .i64 0)),(.val (.int .i64 0)),(.val (.int .i64 0))])),none⟩,⟨none,.store 5 (.t 14) (.t 51),none⟩])
 be_c4))
 (.reg [⟨(some 135),.bin .add (.t 48) (.c (.val (.int .i64 1))),none⟩,⟨(some 48),.move (.t 135),none⟩]))))))
def be_c2:AC:=.seq (.reg [⟨(some 38),.faddr 0 (.t 2),none⟩,⟨(some 39),.load false 1 (.t 38),none⟩,⟨(some 40),.len (.t 39),none⟩,⟨(some 41),.move (.c (.val (.int .i64 0))),none⟩])
 (.block 2 (.loop (.seq (.reg [⟨(some 42),.bin .lss (.t 41) (.t 40),none⟩])
 (.seq (.cond (.t 42) (.skip) (.exit 2))
 (.seq (.block 3 (.seq (.reg [⟨(some 43),.iaddr 2 (.t 39) (.t 41),none⟩,⟨(some 44),.load true 2 (.t 43),none⟩,⟨(some 12),.box (.c (.agg [(.val (.int .i64 0)),(.val (.bool false))])),none⟩,⟨none,.store 2 (.t 12) (.t 44),none⟩])
 be_c3))
 (.reg [⟨(some 136),.bin .add (.t 41) (.c (.val (.int .i64 1))),none⟩,⟨(some 41),.move (.t 136),none⟩]))))))
def lst(l:Lnk):List (Int×Int×Int):=[(l.a,l.b,l.ca),(l.b,l.a,l.cb)]
def be2(t:Tpl)(h:Hop)(c d:Int)(M:Rws)(l:Lnk):Rws:=(lst l).foldl (beI t h c d) M
def be3(t:Tpl)(h:Hop)(c:Int)(M:Rws)(d:Rtr):Rws:=t.ls.foldl (be2 t h c d.id) M
structure RowI (t:Tpl) (M:Rws):Prop where
  nd:∀p∈M,p.2.Nodup
  el:∀p∈M,∀y∈p.2,has5 t y=true
  ky:∀p∈M,has5 t p.1=true
theorem has5_mem{t:Tpl}{y:Int}:has5 t y=true↔y∈t.rs.map (·.id):=by
 unfold has5
 rw[List.any_eq_true,List.mem_map]
 constructor
 ·rintro⟨r,hr,e⟩;exact⟨r,hr,eq_of_beq e⟩
 ·rintro⟨r,hr,rfl⟩;exact⟨r,hr,beq_self_eq_true _⟩
theorem RowI.pu{t:Tpl}{M:Rws}(h:RowI t M){x y:Int}(hx:has5 t x=true)(hy:has5 t y=true)(hn:y ∉ mval M x []):RowI t (pu M x y):=by
 have hv:(mval M x []).Nodup∧∀z∈mval M x [],has5 t z=true:=by
  cases e:mhas M x with
  | false=>rw[mval_no e];exact⟨List.nodup_nil,λz hz=>by simp at hz⟩
  | true=>exact⟨h.nd _ (mval_mem e),h.el _ (mval_mem e)⟩
 have key:∀p∈Go.Proofs.YtdoacjojljgdcaaGreat.pu M x y,p∈M∨p=(x,mval M x []++[y]):=λp hp=>by
  unfold Go.Proofs.YtdoacjojljgdcaaGreat.pu at hp
  cases e:mhas M x with
  | false =>
   rw[mput_no e]at hp
   rcases List.mem_append.mp hp with hp|hp
   ·exact .inl hp
   ·exact .inr (List.mem_singleton.mp hp)
  | true=>rw[mput_yes e]at hp;exact List.mem_or_eq_of_mem_set hp
 refine⟨λp hp=>?_,λp hp z hz=>?_,λp hp=>?_⟩
 ·rcases key p hp with hp|rfl
  ·exact h.nd p hp
  ·exact List.nodup_append.mpr ⟨hv.1,by simp,λa ha b hb=>by rw[List.mem_singleton.mp hb];rintro rfl;exact hn ha⟩
 ·rcases key p hp with hp|rfl
  ·exact h.el p hp z hz
  ·rcases List.mem_append.mp hz with hz|hz
   ·exact hv.2 z hz
   ·rw[List.mem_singleton.mp hz];exact hy
 ·rcases key p hp with hp|rfl
  ·exact h.ky p hp
  ·exact hx
theorem RowI.len{t:Tpl}{M:Rws}(h:RowI t M)(hc:chk5 t=0):∀p∈M,p.2.length≤24:=λp hp=>by
 have:=List.Nodup.length_le_of_subset (h.nd p hp) (show p.2 ⊆ t.rs.map (·.id)from λy hy=>has5_mem.mp (h.el p hp y hy))
 rw[List.length_map]at this
 have:=(chk5_len hc).1;omega
theorem RowI.val{t:Tpl}{M:Rws}(h:RowI t M)(hc:chk5 t=0)(x:Int):(mval M x []).length≤24:=by
 cases e:mhas M x with
 | false=>rw[mval_no e];simp
 | true=>exact h.len hc _ (mval_mem e)
theorem RowI.beI{t:Tpl}{M:Rws}(h:RowI t M){hp:Hop}{c d:Int}{s:Int×Int×Int}(hx:has5 t s.1=true)(hy:has5 t s.2.1=true):RowI t (beI t hp c d M s):=by
 unfold Go.Proofs.YtdoacjojljgdcaaGreat.beI
 split
 ·rename_i e
  refine h.pu hx hy ?_
  unfold beQ at e
  simp only[Bool.and_eq_true,Bool.not_eq_true',decide_eq_false_iff_not]at e
  exact e.2.2.2.2
 ·exact h
theorem BeB.keep{t:Tpl}{ds:List Hop}{s s':S3}{M:Rws}(h:BeB t ds s M)(hn:s.nx≤s'.nx)(ht:∀r,r<7→s'.tm r=s.tm r)(hh:∀b,b<s.nx→s'.hp b=s.hp b):BeB t ds s' M:=by
 obtain⟨n1,t1,t2,h0,t5,t6,ns,hF⟩:=h
 exact⟨by omega,(ht 1 (by omega)).trans t1,(ht 2 (by omega)).trans t2,(hh 0 (by omega)).trans h0,(ht 5 (by omega)).trans t5,(ht 6 (by omega)).trans t6,ns,hF.keep (λb hb _=>hh b hb) hn⟩
theorem foldl_snoc{α β:Type}(f:β→α→β)(b:β){l:List α}{k:Nat}{x:α}(h:l[k]?=some x):(l.take (k+1)).foldl f b=f ((l.take k).foldl f b) x:=by rw[take_succ h,List.foldl_append];rfl
def r4(r:Nat):Prop:=r<16∨18≤r∧r<52
def r3(r:Nat):Prop:=r<14∨18≤r∧r<45
def r2(r:Nat):Prop:=r<12∨18≤r∧r<38
theorem be_c4_ok(t:Tpl)(hc:chk5 t=0)(ds:List Hop)(h:Hop)(c d:Int)(fl:AV)(l:Lnk)(hlm:l∈t.ls)(s:S3)(M:Rws)(hI:RowI t M)(bh bd bl:Nat)(hB:BeB t ds s M)(g8:s.tm 8=.ref bh 0)(g9:s.tm 9=.int c)(g12:s.tm 12=.ref bd 0)(g14:s.tm 14=.ref bl 0)
  (hh:s.hp bh=some (.box (.agg [.int h.a,.int h.b]))) (hd:s.hp bd=some (.box (.agg [.int d,fl]))) (hl:s.hp bl=some (.box (Lnk.v l))) (b1:bh<s.nx) (b2:bd<s.nx) (b3:bl<s.nx) (k:Nat) (Q:X→S3→Prop)
  (hQ:∀s',Kp r4 s s'→BeB t ds s' (be2 t h c d M l)→RowI t (be2 t h c d M l)→Q .normal s'):AWP Tryz.prog 0 k be_c4 Q s:=by
 obtain⟨hla,hlb⟩:=(chk5_good hc).has l hlm
 have hmem:∀z∈lst l,has5 t z.1=true∧has5 t z.2.1=true:=λz hz=>by
  unfold lst at hz
  simp only[List.mem_cons,List.not_mem_nil,or_false]at hz
  rcases hz with rfl|rfl
  ·exact⟨hla,hlb⟩
  ·exact⟨hlb,hla⟩
 obtain⟨tm,hp,nx⟩:=s
 simp only at g8 g9 g12 g14 hh hd hl b1 b2 b3
 unfold be_c4
 refine AWP.seq' ?_
 refine AWP.reg' λK hK=>?_
 try simp only[stepS,stepD,stepM,eq_self,implies_true,forall_eq_or_imp,forall_eq,Nat.reduceEqDiff,↓reduceIte,Nat.reduceAdd,Nat.reduceLeDiff,Nat.reduceSub,Nat.reduceMul,Nat.reduceLT,Int.reduceBEq,Int.reduceBNe,Int.reduceToNat,Int.reduceLT,Int.reduceLE,Int.reduceAdd,Int.reduceSub,Int.reduceMul,reduceCtorEq,g14,hl,Lnk.v]
 refine evT_lit ?_
 try simp only[stepS,stepD,stepM,eq_self,implies_true,forall_eq_or_imp,forall_eq,Nat.reduceEqDiff,↓reduceIte,Nat.reduceAdd,Nat.reduceLeDiff,Nat.reduceSub,Nat.reduceMul,Nat.reduceLT,Int.reduceBEq,Int.reduceBNe,Int.reduceToNat,Int.reduceLT,Int.reduceLE,Int.reduceAdd,Int.reduceSub,Int.reduceMul,reduceCtorEq,g14,hl,Lnk.v]
 refine hK _ _ _ ?_
 clear hK K
 refine AWP.block ?_
 refine AWP.loopS (λu:S3×Nat=>u.1) (λu=>(u.2≤2∧RowI t (((lst l).take u.2).foldl (beI t h c d) M))∧Kp r4 ⟨tm,hp,nx⟩ u.1∧BeB t ds u.1 (((lst l).take u.2).foldl (beI t h c d) M) ∧
  u.1.tm 66=.sl 3 ((lst l).map λz=>AV.agg [.int z.1,.int z.2.1,.int z.2.2]) true∧u.1.tm 67=.int 2∧u.1.tm 68=.int (u.2:Nat)) (λu=>2-u.2) (i0:=(_,0)) ?_ Weak.refl ?_
 ·refine⟨⟨Nat.zero_le _,hI⟩,⟨by dsimp only;omega,λr hr=>?_,λb x _ hx=>hx⟩,hB.keep (by dsimp only;omega) (λr hr=>?_) (λ_ _=>rfl),rfl,rfl,rfl⟩
  ·unfold r4 at hr;simp only[upd_ap];repeat rw[if_neg (by omega)]
  ·simp only[upd_ap];repeat rw[if_neg (by omega)]
 ·rintro⟨⟨tm1,hp1,nx1⟩,z⟩ ⟨⟨hz,hI1⟩,hK1,hB1,t66,t67,t68⟩
  simp only at hz hI1 t66 t67 t68 ⊢
  refine AWP.seq' ?_
  refine AWP.reg' λK hK=>?_
  try simp only[stepS,stepD,stepM,eq_self,implies_true,forall_eq_or_imp,forall_eq,Nat.reduceEqDiff,↓reduceIte,Nat.reduceAdd,Nat.reduceLeDiff,Nat.reduceSub,Nat.reduceMul,Nat.reduceLT,Int.reduceBEq,Int.reduceBNe,Int.reduceToNat,Int.reduceLT,Int.reduceLE,Int.reduceAdd,Int.reduceSub,Int.reduceMul,reduceCtorEq,t67,t68]
  refine hK _ _ _ ?_
  clear hK K
  refine AWP.seq' ?_
  refine AWP.cond (b:=decide ((z:Int)<2)) rfl (λe=>?_) (λe=>?_)
  ·have e:z<2:=by have:=of_decide_eq_true e;omega
   refine AWP.skip ?_
   refine AWP.seq' (AWP.block (AWP.seq' ?_))
   have hzl:z<(lst l).length:=e
   have hy:(lst l)[z]?=some (lst l)[z]:=List.getElem?_eq_getElem hzl
   generalize (lst l)[z]=sz at hy
   obtain⟨x,y,w⟩:=sz
   obtain⟨hx5,hy5⟩:=hmem _ (List.mem_of_getElem? hy)
   have hge:((lst l).map λz=>AV.agg [.int z.1,.int z.2.1,.int z.2.2]).getD z .unk=.agg [.int x,.int y,.int w]:=by rw[List.getD_eq_getElem?_getD,List.getElem?_map,hy];rfl
   have hll:(lst l).length=2:=rfl
   have k8:=(hK1.tm 8 (.inl (by omega))).trans g8
   have k9:=(hK1.tm 9 (.inl (by omega))).trans g9
   have k12:=(hK1.tm 12 (.inl (by omega))).trans g12
   have kh:=hK1.hp _ _ b1 hh
   have kd:=hK1.hp _ _ b2 hd
   have kn:nx≤nx1:=hK1.nx
   simp only at k8 k9 k12 kh kd
   refine AWP.reg' λK hK=>?_
   try simp only[stepS,stepD,stepM,eq_self,implies_true,forall_eq_or_imp,forall_eq,Nat.reduceEqDiff,↓reduceIte,Nat.reduceAdd,Nat.reduceLeDiff,Nat.reduceSub,Nat.reduceMul,Nat.reduceLT,Int.reduceBEq,Int.reduceBNe,Int.reduceToNat,Int.reduceLT,Int.reduceLE,Int.reduceAdd,Int.reduceSub,Int.reduceMul,reduceCtorEq,t66,t68,hge,hll,Int.toNat_natCast,List.length_map]
   refine⟨⟨by omega,by omega⟩,?_⟩
   refine hK _ _ _ ?_
   clear hK K
   have hpl:∀(v1 v2 v3:Option Blk) b,b<nx1→upd (upd (upd hp1 (nx1+16+16+16) v1) (nx1+16+16+16) v2) (nx1+16+16+16) v3 b=hp1 b:=λv1 v2 v3 b hb=>by
    simp only[upd_ap];repeat rw[if_neg (by omega)]
   refine be_in_ok t ds h c d x y w fl _ (((lst l).take z).foldl (beI t h c d) M) bh bd (nx1+16+16+16) (hB1.keep (by dsimp only;omega) (λr hr=>?_) (λb hb=>hpl _ _ _ b hb)) ?_ ?_ ?_ rfl ?_ ?_ (upd_same _ _ _) (by dsimp only;omega) (by have:=hI1.val hc x;omega) k _ (λs' hk hb=>?_)
   ·simp only[upd_ap];repeat rw[if_neg (by omega)]
   ·simp only[upd_ap];exact k8
   ·simp only[upd_ap];exact k9
   ·simp only[upd_ap];exact k12
   ·dsimp only;rw[hpl _ _ _ _ (by omega)];exact kh
   ·dsimp only;rw[hpl _ _ _ _ (by omega)];exact kd
   ·obtain⟨tm2,hp2,nx2⟩:=s'
    refine(show AWP _ _ _ _ _ _ from ?_)
    have q66:tm2 66=_:=(hk.tm 66 (.inr ⟨by omega,by omega⟩)).trans t66
    have q67:tm2 67=_:=(hk.tm 67 (.inr ⟨by omega,by omega⟩)).trans t67
    have q68:tm2 68=_:=(hk.tm 68 (.inr ⟨by omega,by omega⟩)).trans t68
    have hw:IntKind.i64.wrap ((z:Int)+1)=((z+1:Nat):Int):=wrapN (by omega) (by omega)
    refine AWP.reg' λK hK=>?_
    try simp only[stepS,stepD,stepM,eq_self,implies_true,forall_eq_or_imp,forall_eq,Nat.reduceEqDiff,↓reduceIte,Nat.reduceAdd,Nat.reduceLeDiff,Nat.reduceSub,Nat.reduceMul,Nat.reduceLT,Int.reduceBEq,Int.reduceBNe,Int.reduceToNat,Int.reduceLT,Int.reduceLE,Int.reduceAdd,Int.reduceSub,Int.reduceMul,reduceCtorEq,q68,hw]
    refine hK _ _ _ ?_
    clear hK K
    have hkn:nx1+16+16+16+16+16≤nx2:=hk.nx
    have hF1:((lst l).take (z+1)).foldl (beI t h c d) M=beI t h c d (((lst l).take z).foldl (beI t h c d) M) (x,y,w):=foldl_snoc _ _ hy
    refine⟨(_,z+1),⟨⟨by dsimp only;omega,?_⟩,⟨by dsimp only;omega,λr hr=>?_,λb v hb hv=>?_⟩,?_,?_,?_,?_⟩,by dsimp only;omega,Weak.refl⟩
    ·dsimp only;rw[hF1];exact hI1.beI hx5 hy5
    ·have hr':=hr
     unfold r4 at hr'
     have e1:=hk.tm r (by unfold beR;omega)
     have e2:=hK1.tm r hr
     dsimp only at e1 e2 ⊢
     simp only[upd_ap]at e1 ⊢
     rw[if_neg (by omega),if_neg (by omega),e1]
     repeat rw[if_neg (by omega)]
     exact e2
    ·have e2:=hK1.hp b v hb hv
     have hb':b<nx:=hb
     refine hk.hp b v (by dsimp only;omega) ?_
     dsimp only
     rw[hpl _ _ _ _ (by omega)];exact e2
    ·dsimp only;rw[hF1];exact hb.keep (by dsimp only;omega) (λr hr=>by simp only[upd_ap];repeat rw[if_neg (by omega)]) (λ_ _=>rfl)
    ·simp only[upd_ap];exact q66
    ·simp only[upd_ap];exact q67
    ·simp only[upd_ap];rfl
  ·have e:z=2:=by have:=of_decide_eq_false e;omega
   subst e
   refine AWP.exit ?_
   refine(show Q .normal _ from ?_)
   have hT:(lst l).take 2=lst l:=rfl
   rw[hT]at hI1 hB1
   refine hQ _ ⟨?_,λr hr=>?_,λb x hb hx=>hK1.hp b x hb hx⟩ (hB1.keep (by dsimp only;omega) (λr hr=>?_) (λ_ _=>rfl)) hI1
   ·have:=hK1.nx;dsimp only at this ⊢;omega
   ·have e2:=hK1.tm r hr
    unfold r4 at hr;dsimp only at e2 ⊢;simp only[upd_ap];rw[if_neg (by omega)];exact e2
   ·simp only[upd_ap];rw[if_neg (by omega)]
theorem be_c3_ok(t:Tpl)(hc:chk5 t=0)(ds:List Hop)(h:Hop)(c:Int)(d:Int)(fl:AV)(s:S3)(M:Rws)(hI:RowI t M)(bh bd:Nat)(hB:BeB t ds s M)(g8:s.tm 8=.ref bh 0)(g9:s.tm 9=.int c)(g12:s.tm 12=.ref bd 0)
  (hh:s.hp bh=some (.box (.agg [.int h.a,.int h.b]))) (hd:s.hp bd=some (.box (.agg [.int d,fl]))) (b1:bh<s.nx) (b2:bd<s.nx) (k:Nat) (Q:X→S3→Prop)
  (hQ:∀s',Kp r3 s s'→BeB t ds s' (t.ls.foldl (be2 t h c d) M)→RowI t (t.ls.foldl (be2 t h c d) M)→Q .normal s'):AWP Tryz.prog 0 k be_c3 Q s:=by
 have hnl:=chk5_len hc
 have hml:=maxLen_eq
 obtain⟨tm,hp,nx⟩:=s
 simp only at g8 g9 g12 hd hh b1 b2
 have q2:=hB.t2
 have q0:=hB.h0
 simp only at q2 q0
 unfold be_c3
 refine AWP.seq' ?_
 refine AWP.reg' λK hK=>?_
 try simp only[stepS,stepD,stepM,eq_self,implies_true,forall_eq_or_imp,forall_eq,Nat.reduceEqDiff,↓reduceIte,Nat.reduceAdd,Nat.reduceLeDiff,Nat.reduceSub,Nat.reduceMul,Nat.reduceLT,Int.reduceBEq,Int.reduceBNe,Int.reduceToNat,Int.reduceLT,Int.reduceLE,Int.reduceAdd,Int.reduceSub,Int.reduceMul,reduceCtorEq,q2,q0,Tpl.v,List.length_map]
 repeat (refine And.intro (by omega) ?_)
 refine hK _ _ _ ?_
 clear hK K
 refine AWP.block ?_
 refine AWP.loopS (λu:S3×Nat=>u.1) (λu=>(u.2≤t.ls.length∧RowI t ((t.ls.take u.2).foldl (be2 t h c d) M))∧Kp r3 ⟨tm,hp,nx⟩ u.1∧BeB t ds u.1 ((t.ls.take u.2).foldl (be2 t h c d) M) ∧
  u.1.tm 46=.sl 5 (t.ls.map Lnk.v) false∧u.1.tm 47=.int t.ls.length∧u.1.tm 48=.int (u.2:Nat)) (λu=>t.ls.length-u.2) (i0:=(_,0)) ?_ Weak.refl ?_
 ·refine⟨⟨Nat.zero_le _,hI⟩,⟨by dsimp only;omega,λr hr=>?_,λb x _ hx=>hx⟩,hB.keep (by dsimp only;omega) (λr hr=>?_) (λ_ _=>rfl),rfl,rfl,rfl⟩
  ·unfold r3 at hr;simp only[upd_ap];repeat rw[if_neg (by omega)]
  ·simp only[upd_ap];repeat rw[if_neg (by omega)]
 ·rintro⟨⟨tm1,hp1,nx1⟩,z⟩ ⟨⟨hz,hI1⟩,hK1,hB1,tL,tN,tI⟩
  simp only at hz hI1 tL tN tI ⊢
  refine AWP.seq' ?_
  refine AWP.reg' λK hK=>?_
  try simp only[stepS,stepD,stepM,eq_self,implies_true,forall_eq_or_imp,forall_eq,Nat.reduceEqDiff,↓reduceIte,Nat.reduceAdd,Nat.reduceLeDiff,Nat.reduceSub,Nat.reduceMul,Nat.reduceLT,Int.reduceBEq,Int.reduceBNe,Int.reduceToNat,Int.reduceLT,Int.reduceLE,Int.reduceAdd,Int.reduceSub,Int.reduceMul,reduceCtorEq,tN,tI]
  refine hK _ _ _ ?_
  clear hK K
  refine AWP.seq' ?_
  refine AWP.cond (b:=decide ((z:Int)<(t.ls.length:Int))) rfl (λe=>?_) (λe=>?_)
  ·have e:z<t.ls.length:=by have:=of_decide_eq_true e;omega
   refine AWP.skip ?_
   refine AWP.seq' (AWP.block (AWP.seq' ?_))
   have hy:t.ls[z]?=some t.ls[z]:=List.getElem?_eq_getElem e
   generalize t.ls[z]=x at hy
   have hge:(t.ls.map Lnk.v).getD z .unk=Lnk.v x:=by rw[List.getD_eq_getElem?_getD,List.getElem?_map,hy];rfl
   have k8:=(hK1.tm 8 (.inl (by omega))).trans g8
   have k9:=(hK1.tm 9 (.inl (by omega))).trans g9
   have k12:=(hK1.tm 12 (.inl (by omega))).trans g12
   have kh:=hK1.hp _ _ b1 hh
   have kd:=hK1.hp _ _ b2 hd
   have kn:nx≤nx1:=hK1.nx
   simp only at k8 k9 kh k12 kd
   refine AWP.reg' λK hK=>?_
   try simp only[stepS,stepD,stepM,eq_self,implies_true,forall_eq_or_imp,forall_eq,Nat.reduceEqDiff,↓reduceIte,Nat.reduceAdd,Nat.reduceLeDiff,Nat.reduceSub,Nat.reduceMul,Nat.reduceLT,Int.reduceBEq,Int.reduceBNe,Int.reduceToNat,Int.reduceLT,Int.reduceLE,Int.reduceAdd,Int.reduceSub,Int.reduceMul,reduceCtorEq,tL,tI,hge,Int.toNat_natCast,List.length_map,Lnk.v]
   refine⟨⟨by omega,by omega⟩,?_⟩
   refine hK _ _ _ ?_
   clear hK K
   have hpl:∀(v1 v2 v3:Option Blk) b,b<nx1→upd (upd (upd hp1 (nx1+16+16+16) v1) (nx1+16+16+16) v2) (nx1+16+16+16) v3 b=hp1 b:=λv1 v2 v3 b hb=>by
    simp only[upd_ap];repeat rw[if_neg (by omega)]
   have hBn:BeB t ds ⟨_,_,_⟩ ((t.ls.take z).foldl (be2 t h c d) M):=hB1.keep (s':=⟨upd (upd (upd (upd tm1 49 (AV.bool (decide ((z:Int)<(t.ls.length:Int))))) 50 ((Lnk.v x).rptr 0)) 51 (Lnk.v x)) 14 (.ref (nx1+16+16+16) 0),upd (upd (upd hp1 (nx1+16+16+16) (some (.box (.agg [.int 0,.int 0,.int 0,.int 0,.int 0])))) (nx1+16+16+16) none) (nx1+16+16+16) (some (.box (Lnk.v x))),nx1+16+16+16+16+16⟩) (by dsimp only;omega) (λr hr=>by simp only[upd_ap];repeat rw[if_neg (by omega)]) (λb hb=>hpl _ _ _ b hb)
   refine be_c4_ok t hc ds h c d fl x (List.mem_of_getElem? hy) _ _ hI1 bh bd (nx1+16+16+16) hBn ?_ ?_ ?_ rfl ?_ ?_ (upd_same _ _ _) ?_ ?_ ?_ k _ (λs' hk hb hi=>?_)
   ·simp only[upd_ap];exact k8
   ·simp only[upd_ap];exact k9
   ·simp only[upd_ap];exact k12
   ·dsimp only;rw[hpl _ _ _ _ (by omega)];exact kh
   ·dsimp only;rw[hpl _ _ _ _ (by omega)];exact kd
   ·dsimp only;omega
   ·dsimp only;omega
   ·dsimp only;omega
   ·obtain⟨tm2,hp2,nx2⟩:=s'
    refine(show AWP _ _ _ _ _ _ from ?_)
    have qL:tm2 46=_:=(hk.tm 46 (.inr ⟨by omega,by omega⟩)).trans tL
    have qN:tm2 47=_:=(hk.tm 47 (.inr ⟨by omega,by omega⟩)).trans tN
    have qI:tm2 48=_:=(hk.tm 48 (.inr ⟨by omega,by omega⟩)).trans tI
    have hw:IntKind.i64.wrap ((z:Int)+1)=((z+1:Nat):Int):=wrapN (by omega) (by omega)
    refine AWP.reg' λK hK=>?_
    try simp only[stepS,stepD,stepM,eq_self,implies_true,forall_eq_or_imp,forall_eq,Nat.reduceEqDiff,↓reduceIte,Nat.reduceAdd,Nat.reduceLeDiff,Nat.reduceSub,Nat.reduceMul,Nat.reduceLT,Int.reduceBEq,Int.reduceBNe,Int.reduceToNat,Int.reduceLT,Int.reduceLE,Int.reduceAdd,Int.reduceSub,Int.reduceMul,reduceCtorEq,qI,hw]
    refine hK _ _ _ ?_
    clear hK K
    have hkn:nx1+16+16+16+16+16≤nx2:=hk.nx
    have hF1:(t.ls.take (z+1)).foldl (be2 t h c d) M=(be2 t h c d) ((t.ls.take z).foldl (be2 t h c d) M) x:=foldl_snoc _ _ hy
    refine⟨(_,z+1),⟨⟨by dsimp only;omega,?_⟩,⟨by dsimp only;omega,λr hr=>?_,λb v hb' hv=>?_⟩,?_,?_,?_,?_⟩,by dsimp only;omega,Weak.refl⟩
    ·dsimp only;rw[hF1];exact hi
    ·have hr':=hr
     unfold r3 at hr'
     have e1:=hk.tm r (by unfold r4;omega)
     have e2:=hK1.tm r hr
     dsimp only at e1 e2 ⊢
     simp only[upd_ap]at e1 ⊢
     rw[if_neg (by omega),if_neg (by omega),e1]
     repeat rw[if_neg (by omega)]
     exact e2
    ·have e2:=hK1.hp b v hb' hv
     have hb':b<nx:=hb'
     refine hk.hp b v (by dsimp only;omega) ?_
     dsimp only
     rw[hpl _ _ _ _ (by omega)];exact e2
    ·dsimp only;rw[hF1];exact hb.keep (by dsimp only;omega) (λr hr=>by simp only[upd_ap];repeat rw[if_neg (by omega)]) (λ_ _=>rfl)
    ·simp only[upd_ap];exact qL
    ·simp only[upd_ap];exact qN
    ·simp only[upd_ap];rfl
  ·have e:z=t.ls.length:=by have:=of_decide_eq_false e;omega
   subst e
   refine AWP.exit ?_
   refine(show Q .normal _ from ?_)
   rw[List.take_length]at hI1 hB1
   refine hQ _ ⟨?_,λr hr=>?_,λb x hb hx=>hK1.hp b x hb hx⟩ (hB1.keep (by dsimp only;omega) (λr hr=>?_) (λ_ _=>rfl)) hI1
   ·have:=hK1.nx;dsimp only at this ⊢;omega
   ·have e2:=hK1.tm r hr
    unfold r3 at hr;dsimp only at e2 ⊢;simp only[upd_ap];rw[if_neg (by omega)];exact e2
   ·simp only[upd_ap];rw[if_neg (by omega)]
theorem be_c2_ok(t:Tpl)(hc:chk5 t=0)(ds:List Hop)(h:Hop)(c:Int)  (s:S3) (M:Rws) (hI:RowI t M) (bh:Nat) (hB:BeB t ds s M) (g8:s.tm 8=.ref bh 0) (g9:s.tm 9=.int c) 
  (hh:s.hp bh=some (.box (.agg [.int h.a,.int h.b])))  (b1:bh<s.nx) (k:Nat) (Q:X→S3→Prop)
  (hQ:∀s',Kp r2 s s'→BeB t ds s' (t.rs.foldl (be3 t h c) M)→RowI t (t.rs.foldl (be3 t h c) M)→Q .normal s'):AWP Tryz.prog 0 k be_c2 Q s:=by
 have hnl:=chk5_len hc
 have hml:=maxLen_eq
 obtain⟨tm,hp,nx⟩:=s
 simp only at g8 g9  hh b1
 have q2:=hB.t2
 have q0:=hB.h0
 simp only at q2 q0
 unfold be_c2
 refine AWP.seq' ?_
 refine AWP.reg' λK hK=>?_
 try simp only[stepS,stepD,stepM,eq_self,implies_true,forall_eq_or_imp,forall_eq,Nat.reduceEqDiff,↓reduceIte,Nat.reduceAdd,Nat.reduceLeDiff,Nat.reduceSub,Nat.reduceMul,Nat.reduceLT,Int.reduceBEq,Int.reduceBNe,Int.reduceToNat,Int.reduceLT,Int.reduceLE,Int.reduceAdd,Int.reduceSub,Int.reduceMul,reduceCtorEq,q2,q0,Tpl.v,List.length_map]
 repeat (refine And.intro (by omega) ?_)
 refine hK _ _ _ ?_
 clear hK K
 refine AWP.block ?_
 refine AWP.loopS (λu:S3×Nat=>u.1) (λu=>(u.2≤t.rs.length∧RowI t ((t.rs.take u.2).foldl (be3 t h c) M))∧Kp r2 ⟨tm,hp,nx⟩ u.1∧BeB t ds u.1 ((t.rs.take u.2).foldl (be3 t h c) M) ∧
  u.1.tm 39=.sl 2 (t.rs.map Rtr.v) false∧u.1.tm 40=.int t.rs.length∧u.1.tm 41=.int (u.2:Nat)) (λu=>t.rs.length-u.2) (i0:=(_,0)) ?_ Weak.refl ?_
 ·refine⟨⟨Nat.zero_le _,hI⟩,⟨by dsimp only;omega,λr hr=>?_,λb x _ hx=>hx⟩,hB.keep (by dsimp only;omega) (λr hr=>?_) (λ_ _=>rfl),rfl,rfl,rfl⟩
  ·unfold r2 at hr;simp only[upd_ap];repeat rw[if_neg (by omega)]
  ·simp only[upd_ap];repeat rw[if_neg (by omega)]
 ·rintro⟨⟨tm1,hp1,nx1⟩,z⟩ ⟨⟨hz,hI1⟩,hK1,hB1,tL,tN,tI⟩
  simp only at hz hI1 tL tN tI ⊢
  refine AWP.seq' ?_
  refine AWP.reg' λK hK=>?_
  try simp only[stepS,stepD,stepM,eq_self,implies_true,forall_eq_or_imp,forall_eq,Nat.reduceEqDiff,↓reduceIte,Nat.reduceAdd,Nat.reduceLeDiff,Nat.reduceSub,Nat.reduceMul,Nat.reduceLT,Int.reduceBEq,Int.reduceBNe,Int.reduceToNat,Int.reduceLT,Int.reduceLE,Int.reduceAdd,Int.reduceSub,Int.reduceMul,reduceCtorEq,tN,tI]
  refine hK _ _ _ ?_
  clear hK K
  refine AWP.seq' ?_
  refine AWP.cond (b:=decide ((z:Int)<(t.rs.length:Int))) rfl (λe=>?_) (λe=>?_)
  ·have e:z<t.rs.length:=by have:=of_decide_eq_true e;omega
   refine AWP.skip ?_
   refine AWP.seq' (AWP.block (AWP.seq' ?_))
   have hy:t.rs[z]?=some t.rs[z]:=List.getElem?_eq_getElem e
   generalize t.rs[z]=x at hy
   have hge:(t.rs.map Rtr.v).getD z .unk=Rtr.v x:=by rw[List.getD_eq_getElem?_getD,List.getElem?_map,hy];rfl
   have k8:=(hK1.tm 8 (.inl (by omega))).trans g8
   have k9:=(hK1.tm 9 (.inl (by omega))).trans g9
   skip
   have kh:=hK1.hp _ _ b1 hh
   skip
   have kn:nx≤nx1:=hK1.nx
   simp only at k8 k9 kh 
   refine AWP.reg' λK hK=>?_
   try simp only[stepS,stepD,stepM,eq_self,implies_true,forall_eq_or_imp,forall_eq,Nat.reduceEqDiff,↓reduceIte,Nat.reduceAdd,Nat.reduceLeDiff,Nat.reduceSub,Nat.reduceMul,Nat.reduceLT,Int.reduceBEq,Int.reduceBNe,Int.reduceToNat,Int.reduceLT,Int.reduceLE,Int.reduceAdd,Int.reduceSub,Int.reduceMul,reduceCtorEq,tL,tI,hge,Int.toNat_natCast,List.length_map,Rtr.v]
   refine⟨⟨by omega,by omega⟩,?_⟩
   refine hK _ _ _ ?_
   clear hK K
   have hpl:∀(v1 v2 v3:Option Blk) b,b<nx1→upd (upd (upd hp1 (nx1+16+16+16) v1) (nx1+16+16+16) v2) (nx1+16+16+16) v3 b=hp1 b:=λv1 v2 v3 b hb=>by
    simp only[upd_ap];repeat rw[if_neg (by omega)]
   have hBn:BeB t ds ⟨_,_,_⟩ ((t.rs.take z).foldl (be3 t h c) M):=hB1.keep (s':=⟨upd (upd (upd (upd tm1 42 (AV.bool (decide ((z:Int)<(t.rs.length:Int))))) 43 ((Rtr.v x).rptr 0)) 44 (Rtr.v x)) 12 (.ref (nx1+16+16+16) 0),upd (upd (upd hp1 (nx1+16+16+16) (some (.box (.agg [.int 0,.bool false])))) (nx1+16+16+16) none) (nx1+16+16+16) (some (.box (Rtr.v x))),nx1+16+16+16+16+16⟩) (by dsimp only;omega) (λr hr=>by simp only[upd_ap];repeat rw[if_neg (by omega)]) (λb hb=>hpl _ _ _ b hb)
   refine be_c3_ok t hc ds h c x.id (.bool x.cap) _ _ hI1 bh (nx1+16+16+16) hBn ?_ ?_ rfl ?_ (upd_same _ _ _) ?_ ?_ k _ (λs' hk hb hi=>?_)
   ·simp only[upd_ap];exact k8
   ·simp only[upd_ap];exact k9
   ·dsimp only;rw[hpl _ _ _ _ (by omega)];exact kh
   ·dsimp only;omega
   ·dsimp only;omega
   ·obtain⟨tm2,hp2,nx2⟩:=s'
    refine(show AWP _ _ _ _ _ _ from ?_)
    have qL:tm2 39=_:=(hk.tm 39 (.inr ⟨by omega,by omega⟩)).trans tL
    have qN:tm2 40=_:=(hk.tm 40 (.inr ⟨by omega,by omega⟩)).trans tN
    have qI:tm2 41=_:=(hk.tm 41 (.inr ⟨by omega,by omega⟩)).trans tI
    have hw:IntKind.i64.wrap ((z:Int)+1)=((z+1:Nat):Int):=wrapN (by omega) (by omega)
    refine AWP.reg' λK hK=>?_
    try simp only[stepS,stepD,stepM,eq_self,implies_true,forall_eq_or_imp,forall_eq,Nat.reduceEqDiff,↓reduceIte,Nat.reduceAdd,Nat.reduceLeDiff,Nat.reduceSub,Nat.reduceMul,Nat.reduceLT,Int.reduceBEq,Int.reduceBNe,Int.reduceToNat,Int.reduceLT,Int.reduceLE,Int.reduceAdd,Int.reduceSub,Int.reduceMul,reduceCtorEq,qI,hw]
    refine hK _ _ _ ?_
    clear hK K
    have hkn:nx1+16+16+16+16+16≤nx2:=hk.nx
    have hF1:(t.rs.take (z+1)).foldl (be3 t h c) M=(be3 t h c) ((t.rs.take z).foldl (be3 t h c) M) x:=foldl_snoc _ _ hy
    refine⟨(_,z+1),⟨⟨by dsimp only;omega,?_⟩,⟨by dsimp only;omega,λr hr=>?_,λb v hb' hv=>?_⟩,?_,?_,?_,?_⟩,by dsimp only;omega,Weak.refl⟩
    ·dsimp only;rw[hF1];exact hi
    ·have hr':=hr
     unfold r2 at hr'
     have e1:=hk.tm r (by unfold r3;omega)
     have e2:=hK1.tm r hr
     dsimp only at e1 e2 ⊢
     simp only[upd_ap]at e1 ⊢
     rw[if_neg (by omega),if_neg (by omega),e1]
     repeat rw[if_neg (by omega)]
     exact e2
    ·have e2:=hK1.hp b v hb' hv
     have hb':b<nx:=hb'
     refine hk.hp b v (by dsimp only;omega) ?_
     dsimp only
     rw[hpl _ _ _ _ (by omega)];exact e2
    ·dsimp only;rw[hF1];exact hb.keep (by dsimp only;omega) (λr hr=>by simp only[upd_ap];repeat rw[if_neg (by omega)]) (λ_ _=>rfl)
    ·simp only[upd_ap];exact qL
    ·simp only[upd_ap];exact qN
    ·simp only[upd_ap];rfl
  ·have e:z=t.rs.length:=by have:=of_decide_eq_false e;omega
   subst e
   refine AWP.exit ?_
   refine(show Q .normal _ from ?_)
   rw[List.take_length]at hI1 hB1
   refine hQ _ ⟨?_,λr hr=>?_,λb x hb hx=>hK1.hp b x hb hx⟩ (hB1.keep (by dsimp only;omega) (λr hr=>?_) (λ_ _=>rfl)) hI1
   ·have:=hK1.nx;dsimp only at this ⊢;omega
   ·have e2:=hK1.tm r hr
    unfold r2 at hr;dsimp only at e2 ⊢;simp only[upd_ap];rw[if_neg (by omega)];exact e2
   ·simp only[upd_ap];rw[if_neg (by omega)]
def cf49:AF:=
 ⟨139,2,[.tmp 4],
 .seq (.reg [⟨(some 2),.box (.t 0),none⟩,⟨(some 4),.move (.c (.val (.map none))),none⟩])
 (.seq (.reg [⟨(some 18),.mkm none,none⟩,⟨(some 5),.move (.t 18),none⟩])
 (.seq (.reg [⟨(some 19),.load true 2 (.t 2),none⟩,⟨(some 20),.call (.c (.func 93 [])) [(.t 19)],none⟩,⟨(some 6),.move (.t 20),none⟩])
 (.seq (.seq (.reg [⟨(some 21),.move (.t 1),none⟩,⟨(some 22),.len (.t 21),none⟩,⟨(some 23),.move (.c (.val (.int .i64 0))),none⟩])
 (.block 0 (.loop (.seq (.reg [⟨(some 24),.bin .lss (.t 23) (.t 22),none⟩])
 (.seq (.cond (.t 24) (.skip) (.exit 0))
 (.seq (.block 1 (.seq (.reg [⟨(some 25),.iaddr 2 (.t 21) (.t 23),none⟩,⟨(some 26),.load true 2 (.t 25),none⟩,⟨(some 8),.box (.c (.agg [(.val (.int .i64 0)),(.val (.int .i64 0))])),none⟩,⟨none,.store 2 (.t 8) (.t 26),none⟩])
 (.seq (.reg [⟨(some 28),.load true 2 (.t 2),none⟩,⟨(some 29),.faddr 0 (.t 8),none⟩,⟨(some 30),.load false 1 (.t 29),none⟩,⟨(some 31),.faddr 1 (.t 8),none⟩,⟨(some 32),.load false 1 (.t 31),none⟩,⟨(some 33),.call (.c (.func 92 [])) [(.t 28),(.t 30),(.t 32)],none⟩,⟨(some 27),.move (.t 33),none⟩,⟨(some 34),.ext 0 (.t 27),none⟩,⟨(some 35),.ext 1 (.t 27),none⟩,⟨(some 9),.move (.t 34),none⟩,⟨(some 10),.move (.t 35),none⟩])
 (.seq (.seq (.reg [⟨(some 36),.move (.t 10),none⟩,⟨(some 37),.un .not (.t 36),none⟩])
 (.cond (.t 37) (.exit 1) (.skip)))
 (.seq (.reg [⟨(some 38),.faddr 0 (.t 2),none⟩,⟨(some 39),.load false 1 (.t 38),none⟩,⟨(some 40),.len (.t 39),none⟩,⟨(some 41),.move (.c (.val (.int .i64 0))),none⟩])
 (.block 2 (.loop (.seq (.reg [⟨(some 42),.bin .lss (.t 41) (.t 40),none⟩])
 (.seq (.cond (.t 42) (.skip) (.exit 2))
 (.seq (.block 3 (.seq (.reg [⟨(some 43),.iaddr 2 (.t 39) (.t 41),none⟩,⟨(some 44),.load true 2 (.t 43),none⟩,⟨(some 12),.box (.c (.agg [(.val (.int .i64 0)),(.val (.bool false))])),none⟩,⟨none,.store 2 (.t 12) (.t 44),none⟩])
 (.seq (.reg [⟨(some 45),.faddr 1 (.t 2),none⟩,⟨(some 46),.load false 1 (.t 45),none⟩,⟨(some 47),.len (.t 46),none⟩,⟨(some 48),.move (.c (.val (.int .i64 0))),none⟩])
 (.block 4 (.loop (.seq (.reg [⟨(some 49),.bin .lss (.t 48) (.t 47),none⟩])
 (.seq (.cond (.t 49) (.skip) (.exit 4))
 (.seq (.block 5 (.seq (.reg [⟨(some 50),.iaddr 5 (.t 46) (.t 48),none⟩,⟨(some 51),.load true 5 (.t 50),none⟩,⟨(some 14),.box (.c (.agg [(.val (.int .i64 0)),(.val (.int .i64 0)),(.val (.int .i64 0)),(.val (.int .i64 0)),(.val (.int .i64 0))])),none⟩,⟨none,.store 5 (.t 14) (.t 51),none⟩])
 (.seq (.reg [⟨(some 52),.faddr 0 (.t 14),none⟩,⟨(some 53),.load false 1 (.t 52),none⟩,⟨(some 54),.faddr 1 (.t 14),none⟩,⟨(some 55),.load false 1 (.t 54),none⟩,⟨(some 56),.faddr 2 (.t 14),none⟩,⟨(some 57),.load false 1 (.t 56),none⟩,⟨(some 58),.build [(.val (.int .i64 0)),(.val (.int .i64 0)),(.val (.int .i64 0))] [(0,1,(.t 53)),(1,1,(.t 55)),(2,1,(.t 57))],none⟩,⟨(some 59),.faddr 1 (.t 14),none⟩,⟨(some 60),.load false 1 (.t 59),none⟩,⟨(some 61),.faddr 0 (.t 14),none⟩,⟨(some 62),.load false 1 (.t 61),none⟩,⟨(some 63),.faddr 3 (.t 14),none⟩,⟨(some 64),.load false 1 (.t 63),none⟩,⟨(some 65),.build [(.val (.int .i64 0)),(.val (.int .i64 0)),(.val (.int .i64 0))] [(0,1,(.t 60)),(1,1,(.t 62)),(2,1,(.t 64))],none⟩,⟨(some 66),.lit 3 2 (.agg [(.val (.int .i64 0)),(.val (.int .i64 0)),(.val (.int .i64 0))]) [(0,(.t 58)),(1,(.t 65))],none⟩,⟨(some 67),.len (.t 66),none⟩,⟨(some 68),.move (.c (.val (.int .i64 0))),none⟩])
 (.block 6 (.loop (.seq (.reg [⟨(some 69),.bin .lss (.t 68) (.t 67),none⟩])
 (.seq (.cond (.t 69) (.skip) (.exit 6))
 (.seq (.block 7 (.seq (.reg [⟨(some 70),.iaddr 3 (.t 66) (.t 68),none⟩,⟨(some 71),.load true 3 (.t 70),none⟩,⟨(some 16),.box (.c (.agg [(.val (.int .i64 0)),(.val (.int .i64 0)),(.val (.int .i64 0))])),none⟩,⟨none,.store 3 (.t 16) (.t 71),none⟩])
 (.seq (.reg [⟨(some 72),.faddr 0 (.t 16),none⟩,⟨(some 73),.load false 1 (.t 72),none⟩,⟨(some 74),.faddr 0 (.t 8),none⟩,⟨(some 75),.load false 1 (.t 74),none⟩,⟨(some 76),.bin .neq (.t 73) (.t 75),none⟩,⟨(some 77),.move (.t 76),none⟩,⟨(some 78),.move (.t 6),(some (77,true))⟩,⟨(some 79),.faddr 0 (.t 16),(some (77,true))⟩,⟨(some 80),.load false 1 (.t 79),(some (77,true))⟩,⟨(some 81),.faddr 0 (.t 12),(some (77,true))⟩,⟨(some 82),.load false 1 (.t 81),(some (77,true))⟩,⟨(some 83),.faddr 0 (.t 16),(some (77,true))⟩,⟨(some 84),.load false 1 (.t 83),(some (77,true))⟩,⟨(some 85),.faddr 1 (.t 16),(some (77,true))⟩,⟨(some 86),.load false 1 (.t 85),(some (77,true))⟩,⟨(some 87),.build [(.val (.int .i64 0)),(.val (.int .i64 0))] [(0,1,(.t 84)),(1,1,(.t 86))],(some (77,true))⟩,⟨(some 88),.faddr 2 (.t 16),(some (77,true))⟩,⟨(some 89),.load false 1 (.t 88),(some (77,true))⟩,⟨(some 90),.call (.c (.func 94 [])) [(.t 78),(.t 80),(.t 82),(.t 87),(.t 89)],(some (77,true))⟩,⟨(some 91),.pick (.t 77) (.t 90) (.c (.val (.bool false))),none⟩,⟨(some 17),.move (.t 91),none⟩])
 (.seq (.reg [⟨(some 92),.move (.t 17),none⟩,⟨(some 93),.move (.t 92),none⟩,⟨(some 94),.move (.t 6),(some (93,true))⟩,⟨(some 95),.faddr 0 (.t 16),(some (93,true))⟩,⟨(some 96),.load false 1 (.t 95),(some (93,true))⟩,⟨(some 97),.faddr 0 (.t 12),(some (93,true))⟩,⟨(some 98),.load false 1 (.t 97),(some (93,true))⟩,⟨(some 99),.load true 2 (.t 8),(some (93,true))⟩,⟨(some 100),.move (.t 9),(some (93,true))⟩,⟨(some 101),.call (.c (.func 94 [])) [(.t 94),(.t 96),(.t 98),(.t 99),(.t 100)],(some (93,true))⟩,⟨(some 102),.pick (.t 93) (.t 101) (.c (.val (.bool false))),none⟩,⟨(some 103),.move (.t 102),none⟩,⟨(some 104),.move (.t 6),(some (103,true))⟩,⟨(some 105),.faddr 1 (.t 16),(some (103,true))⟩,⟨(some 106),.load false 1 (.t 105),(some (103,true))⟩,⟨(some 107),.faddr 0 (.t 12),(some (103,true))⟩,⟨(some 108),.load false 1 (.t 107),(some (103,true))⟩,⟨(some 109),.load true 2 (.t 8),(some (103,true))⟩,⟨(some 110),.move (.t 9),(some (103,true))⟩,⟨(some 111),.call (.c (.func 94 [])) [(.t 104),(.t 106),(.t 108),(.t 109),(.t 110)],(some (103,true))⟩,⟨(some 112),.pick (.t 103) (.t 111) (.c (.val (.bool false))),none⟩,⟨(some 113),.move (.t 112),none⟩,⟨(some 114),.move (.t 5),(some (113,true))⟩,⟨(some 115),.faddr 0 (.t 16),(some (113,true))⟩,⟨(some 116),.load false 1 (.t 115),(some (113,true))⟩,⟨(some 117),.mget none ((.sl 0 [] true)) false (.t 114) (.t 116),(some (113,true))⟩,⟨(some 118),.faddr 1 (.t 16),(some (113,true))⟩,⟨(some 119),.load false 1 (.t 118),(some (113,true))⟩,⟨(some 120),.call (.c (.func 69 [])) [(.t 117),(.t 119)],(some (113,true))⟩,⟨(some 121),.un .not (.t 120),(some (113,true))⟩,⟨(some 122),.pick (.t 113) (.t 121) (.c (.val (.bool false))),none⟩])
 (.cond (.t 122) (.dreg [⟨(some 123),.move (.t 5),none⟩,⟨(some 124),.faddr 0 (.t 16),none⟩,⟨(some 125),.load false 1 (.t 124),none⟩,⟨(some 126),.move (.t 5),none⟩,⟨(some 127),.faddr 0 (.t 16),none⟩,⟨(some 128),.load false 1 (.t 127),none⟩,⟨(some 129),.mget none ((.sl 0 [] true)) false (.t 126) (.t 128),none⟩,⟨(some 130),.faddr 1 (.t 16),none⟩,⟨(some 131),.load false 1 (.t 130),none⟩,⟨(some 132),.lit 1 1 (.val (.int .i64 0)) [(0,(.t 131))],none⟩,⟨(some 133),.append 1 8 (.t 129) (.t 132),none⟩,⟨none,.mset none (.t 123) (.t 125) (.t 133),none⟩] [(2,5),(2,6),(2,8),(5,8),(6,8),(2,9),(5,9),(6,9),(2,10)]) (.skip))))))
 (.reg [⟨(some 134),.bin .add (.t 68) (.c (.val (.int .i64 1))),none⟩,⟨(some 68),.move (.t 134),none⟩])))))))))
 (.reg [⟨(some 135),.bin .add (.t 48) (.c (.val (.int .i64 1))),none⟩,⟨(some 48),.move (.t 135),none⟩])))))))))
 (.reg [⟨(some 136),.bin .add (.t 41) (.c (.val (.int .i64 1))),none⟩,⟨(some 41),.move (.t 136),none⟩])))))))))))
 (.reg [⟨(some 137),.bin .add (.t 23) (.c (.val (.int .i64 1))),none⟩,⟨(some 23),.move (.t 137),none⟩])))))))
 (.seq (.reg [⟨(some 138),.move (.t 5),none⟩,⟨(some 4),.move (.t 138),none⟩])
 (.ret)))))⟩
theorem cf49_ok:cFunc Tryz.prog Tryz.f49=some cf49:=by kernel_rfl
def be4(t:Tpl)(M:Rws)(h:Hop):Rws:=if(cos5 t h.a h.b).2=true then t.rs.foldl (be3 t h (cos5 t h.a h.b).1) M else M
def behT(t:Tpl)(ds:List Hop):Rws:=ds.foldl (be4 t) []
def r1(r:Nat):Prop:=r<8∨18≤r∧r<24
theorem cos5_chk{t:Tpl}{f g:Int}(h:(cos5 t f g).2=true):chk5 t=0:=by
 unfold cos5 at h
 split at h
 ·cases h
 ·rename_i e;exact Classical.not_not.mp e
theorem behind_S(t:Tpl)(ds:List Hop)(hd:ds.length≤1000):HSpec Tryz.prog 49 [Tpl.v t,.sl 2 (ds.map Hop.v) false] [] (.mref 0) [some (frzR (behT t ds))]:=by
 refine HSpec.walk Tryz.func49 cf49_ok (by simp[cf49]) ?_
 unfold cf49
 simp only[initT,initH,List.length_cons,List.length_nil]
 refine AWP.seq' ?_
 refine AWP.reg' λK hK=>?_
 try simp only[stepS,stepD,stepM,eq_self,implies_true,forall_eq_or_imp,forall_eq,Nat.reduceEqDiff,↓reduceIte,Nat.reduceAdd,Nat.reduceLeDiff,Nat.reduceSub,Nat.reduceMul,Nat.reduceLT,Int.reduceBEq,Int.reduceBNe,Int.reduceToNat,Int.reduceLT,Int.reduceLE,Int.reduceAdd,Int.reduceSub,Int.reduceMul,reduceCtorEq]
 refine⟨rfl,?_⟩
 refine hK _ _ _ ?_
 clear hK K
 refine AWP.seq' ?_
 refine AWP.reg' λK hK=>?_
 try simp only[stepS,stepD,stepM,eq_self,implies_true,forall_eq_or_imp,forall_eq,Nat.reduceEqDiff,↓reduceIte,Nat.reduceAdd,Nat.reduceLeDiff,Nat.reduceSub,Nat.reduceMul,Nat.reduceLT,Int.reduceBEq,Int.reduceBNe,Int.reduceToNat,Int.reduceLT,Int.reduceLE,Int.reduceAdd,Int.reduceSub,Int.reduceMul,reduceCtorEq,evA_mkm]
 refine hK _ _ _ ?_
 clear hK K
 refine AWP.seq' ?_
 refine AWP.reg' λK hK=>?_
 try simp only[stepS,stepD,stepM,eq_self,implies_true,forall_eq_or_imp,forall_eq,Nat.reduceEqDiff,↓reduceIte,Nat.reduceAdd,Nat.reduceLeDiff,Nat.reduceSub,Nat.reduceMul,Nat.reduceLT,Int.reduceBEq,Int.reduceBNe,Int.reduceToNat,Int.reduceLT,Int.reduceLE,Int.reduceAdd,Int.reduceSub,Int.reduceMul,reduceCtorEq,Tpl.v]
 refine evT_pure (show PSpec Tryz.prog (allP_c t).f [Tpl.v t] (disV t)from(allP_c t).ok) (allP_c t).fn rfl rfl ?_ ?_
 ·exact⟨⟨trivial,trivial,trivial⟩,trivial⟩
 try simp only[stepS,stepD,stepM,eq_self,implies_true,forall_eq_or_imp,forall_eq,Nat.reduceEqDiff,↓reduceIte,Nat.reduceAdd,Nat.reduceLeDiff,Nat.reduceSub,Nat.reduceMul,Nat.reduceLT,Int.reduceBEq,Int.reduceBNe,Int.reduceToNat,Int.reduceLT,Int.reduceLE,Int.reduceAdd,Int.reduceSub,Int.reduceMul,reduceCtorEq]
 refine hK _ _ _ ?_
 clear hK K
 refine AWP.seq' (AWP.seq' ?_)
 refine AWP.reg' λK hK=>?_
 try simp only[stepS,stepD,stepM,eq_self,implies_true,forall_eq_or_imp,forall_eq,Nat.reduceEqDiff,↓reduceIte,Nat.reduceAdd,Nat.reduceLeDiff,Nat.reduceSub,Nat.reduceMul,Nat.reduceLT,Int.reduceBEq,Int.reduceBNe,Int.reduceToNat,Int.reduceLT,Int.reduceLE,Int.reduceAdd,Int.reduceSub,Int.reduceMul,reduceCtorEq,List.length_map]
 repeat (refine And.intro (by omega) ?_)
 refine hK _ _ _ ?_
 clear hK K
 refine AWP.block ?_
 have hml:=maxLen_eq
 refine AWP.loopS (λu:S3×Nat=>u.1) (λu=>(u.2≤ds.length∧RowI t ((ds.take u.2).foldl (be4 t) []))∧BeB t ds u.1 ((ds.take u.2).foldl (be4 t) []) ∧
  u.1.tm 21=.sl 2 (ds.map Hop.v) false∧u.1.tm 22=.int ds.length∧u.1.tm 23=.int (u.2:Nat)) (λu=>ds.length-u.2) (i0:=(_,0)) ?_ Weak.refl ?_
 ·exact⟨⟨Nat.zero_le _,⟨λp hp=>by simp at hp,λp hp=>by simp at hp,λp hp=>by simp at hp⟩⟩,⟨by dsimp only;omega,rfl,rfl,rfl,rfl,rfl,[],⟨rfl,rfl,List.nodup_nil,List.nodup_nil,by simp,by dsimp only;omega,by simp⟩⟩,rfl,rfl,rfl⟩
 ·rintro⟨⟨tm1,hp1,nx1⟩,z⟩ ⟨⟨hz,hI1⟩,hB1,t21,t22,t23⟩
  simp only at hz hI1 t21 t22 t23 ⊢
  refine AWP.seq' ?_
  refine AWP.reg' λK hK=>?_
  try simp only[stepS,stepD,stepM,eq_self,implies_true,forall_eq_or_imp,forall_eq,Nat.reduceEqDiff,↓reduceIte,Nat.reduceAdd,Nat.reduceLeDiff,Nat.reduceSub,Nat.reduceMul,Nat.reduceLT,Int.reduceBEq,Int.reduceBNe,Int.reduceToNat,Int.reduceLT,Int.reduceLE,Int.reduceAdd,Int.reduceSub,Int.reduceMul,reduceCtorEq,t22,t23]
  refine hK _ _ _ ?_
  clear hK K
  refine AWP.seq' ?_
  refine AWP.cond (b:=decide ((z:Int)<(ds.length:Int))) rfl (λe=>?_) (λe=>?_)
  ·have e:z<ds.length:=by have:=of_decide_eq_true e;omega
   refine AWP.skip ?_
   refine AWP.seq' (AWP.block (AWP.seq' ?_))
   have hy:ds[z]?=some ds[z]:=List.getElem?_eq_getElem e
   generalize ds[z]=h at hy
   have hge:(ds.map Hop.v).getD z .unk=Hop.v h:=by rw[List.getD_eq_getElem?_getD,List.getElem?_map,hy];rfl
   have k2:=hB1.t2
   have k0:=hB1.h0
   have kn:=hB1.nx
   simp only at k2 k0 kn
   obtain⟨f0,_⟩:=nxF (show 0<nx1 by omega)
   refine AWP.reg' λK hK=>?_
   try simp only[stepS,stepD,stepM,eq_self,implies_true,forall_eq_or_imp,forall_eq,Nat.reduceEqDiff,↓reduceIte,Nat.reduceAdd,Nat.reduceLeDiff,Nat.reduceSub,Nat.reduceMul,Nat.reduceLT,Int.reduceBEq,Int.reduceBNe,Int.reduceToNat,Int.reduceLT,Int.reduceLE,Int.reduceAdd,Int.reduceSub,Int.reduceMul,reduceCtorEq,t21,t23,hge,Int.toNat_natCast,List.length_map,Hop.v]
   refine⟨⟨by omega,by omega⟩,?_⟩
   refine hK _ _ _ ?_
   clear hK K
   refine AWP.seq' ?_
   refine AWP.reg' λK hK=>?_
   try simp only[stepS,stepD,stepM,eq_self,implies_true,forall_eq_or_imp,forall_eq,Nat.reduceEqDiff,↓reduceIte,Nat.reduceAdd,Nat.reduceLeDiff,Nat.reduceSub,Nat.reduceMul,Nat.reduceLT,Int.reduceBEq,Int.reduceBNe,Int.reduceToNat,Int.reduceLT,Int.reduceLE,Int.reduceAdd,Int.reduceSub,Int.reduceMul,reduceCtorEq,k2,k0,f0,Tpl.v,Nat.add_assoc]
   refine evT_pure (show PSpec Tryz.prog (cosP_c t h.a h.b).f [Tpl.v t,.int h.a,.int h.b] (.tup [.int (cos5 t h.a h.b).1,.bool (cos5 t h.a h.b).2])from(cosP_c t h.a h.b).ok) (cosP_c t h.a h.b).fn rfl rfl ?_ ?_
   ·exact⟨⟨trivial,trivial,trivial⟩,trivial,trivial,trivial⟩
   try simp only[stepS,stepD,stepM,eq_self,implies_true,forall_eq_or_imp,forall_eq,Nat.reduceEqDiff,↓reduceIte,Nat.reduceAdd,Nat.reduceLeDiff,Nat.reduceSub,Nat.reduceMul,Nat.reduceLT,Int.reduceBEq,Int.reduceBNe,Int.reduceToNat,Int.reduceLT,Int.reduceLE,Int.reduceAdd,Int.reduceSub,Int.reduceMul,reduceCtorEq,Nat.add_assoc]
   refine hK _ _ _ ?_
   clear hK K
   have hF1:(ds.take (z+1)).foldl (be4 t) []=be4 t ((ds.take z).foldl (be4 t) []) h:=foldl_snoc _ _ hy
   have hw:IntKind.i64.wrap ((z:Int)+1)=((z+1:Nat):Int):=wrapN (by omega) (by omega)
   refine AWP.seq' (AWP.seq' ?_)
   refine AWP.reg' λK hK=>?_
   try simp only[stepS,stepD,stepM,eq_self,implies_true,forall_eq_or_imp,forall_eq,Nat.reduceEqDiff,↓reduceIte,Nat.reduceAdd,Nat.reduceLeDiff,Nat.reduceSub,Nat.reduceMul,Nat.reduceLT,Int.reduceBEq,Int.reduceBNe,Int.reduceToNat,Int.reduceLT,Int.reduceLE,Int.reduceAdd,Int.reduceSub,Int.reduceMul,reduceCtorEq]
   refine hK _ _ _ ?_
   clear hK K
   cases e1:(cos5 t h.a h.b).2 with
   | false =>
    refine AWP.cond (b:=true) rfl (λ_=>AWP.exit ?_) (λh=>by cases h)
    refine(show AWP _ _ _ _ _ _ from ?_)
    have hF2:be4 t ((ds.take z).foldl (be4 t) []) h=(ds.take z).foldl (be4 t) []:=by unfold be4;rw[if_neg (by simp[e1])]
    rw[hF2]at hF1
    refine AWP.reg' λK hK=>?_
    try simp only[stepS,stepD,stepM,eq_self,implies_true,forall_eq_or_imp,forall_eq,Nat.reduceEqDiff,↓reduceIte,Nat.reduceAdd,Nat.reduceLeDiff,Nat.reduceSub,Nat.reduceMul,Nat.reduceLT,Int.reduceBEq,Int.reduceBNe,Int.reduceToNat,Int.reduceLT,Int.reduceLE,Int.reduceAdd,Int.reduceSub,Int.reduceMul,reduceCtorEq,t23,hw]
    refine hK _ _ _ ?_
    clear hK K
    refine⟨(_,z+1),⟨⟨by dsimp only;omega,?_⟩,?_,?_,?_,?_⟩,by dsimp only;omega,Weak.refl⟩
    ·dsimp only;rw[hF1];exact hI1
    ·dsimp only;rw[hF1]
     refine hB1.keep (by dsimp only;omega) (λr hr=>by simp only[upd_ap];repeat rw[if_neg (by omega)]) (λb hb=>?_)
     have hb':b<nx1:=hb
     simp only[upd_ap];repeat rw[if_neg (by omega)]
    ·simp only[upd_ap];exact t21
    ·simp only[upd_ap];exact t22
    ·simp only[upd_ap];rfl
   | true =>
    have hc:=cos5_chk e1
    refine AWP.cond (b:=false) rfl (λh=>by cases h) (λ_=>AWP.skip ?_)
    refine(show AWP _ _ _ be_c2 _ _ from ?_)
    have hF2:be4 t ((ds.take z).foldl (be4 t) []) h=t.rs.foldl (be3 t h (cos5 t h.a h.b).1) ((ds.take z).foldl (be4 t) []):=by unfold be4;rw[if_pos e1]
    rw[hF2]at hF1
    refine be_c2_ok t hc ds h (cos5 t h.a h.b).1 _ _ hI1 (nx1+48) (hB1.keep ?_ (λr hr=>?_) (λb hb=>?_)) rfl rfl ?_ ?_ _ _ (λs' hk hb hi=>?_)
    ·dsimp only;omega
    ·simp only[upd_ap];repeat rw[if_neg (by omega)]
    ·have hb':b<nx1:=hb
     simp only[upd_ap];repeat rw[if_neg (by omega)]
    ·simp only[upd_ap,↓reduceIte]
    ·dsimp only;omega
    ·obtain⟨tm2,hp2,nx2⟩:=s'
     refine(show AWP _ _ _ _ _ _ from ?_)
     have q21:tm2 21=_:=(hk.tm 21 (.inr ⟨by omega,by omega⟩)).trans t21
     have q22:tm2 22=_:=(hk.tm 22 (.inr ⟨by omega,by omega⟩)).trans t22
     have q23:tm2 23=_:=(hk.tm 23 (.inr ⟨by omega,by omega⟩)).trans t23
     refine AWP.reg' λK hK=>?_
     try simp only[stepS,stepD,stepM,eq_self,implies_true,forall_eq_or_imp,forall_eq,Nat.reduceEqDiff,↓reduceIte,Nat.reduceAdd,Nat.reduceLeDiff,Nat.reduceSub,Nat.reduceMul,Nat.reduceLT,Int.reduceBEq,Int.reduceBNe,Int.reduceToNat,Int.reduceLT,Int.reduceLE,Int.reduceAdd,Int.reduceSub,Int.reduceMul,reduceCtorEq,q23,hw]
     refine hK _ _ _ ?_
     clear hK K
     refine⟨(_,z+1),⟨⟨by dsimp only;omega,?_⟩,?_,?_,?_,?_⟩,by dsimp only;omega,Weak.refl⟩
     ·dsimp only;rw[hF1];exact hi
     ·dsimp only;rw[hF1]
      exact hb.keep (by dsimp only;omega) (λr hr=>by simp only[upd_ap];repeat rw[if_neg (by omega)]) (λ_ _=>rfl)
     ·simp only[upd_ap];exact q21
     ·simp only[upd_ap];exact q22
     ·simp only[upd_ap];rfl
  ·have e:z=ds.length:=by have:=of_decide_eq_false e;omega
   subst e
   refine AWP.exit ?_
   rw[List.take_length]at hI1
   have hB1':BeB t ds ⟨tm1,hp1,nx1⟩ (behT t ds):=by have:=hB1;dsimp only at this;rw[List.take_length]at this;exact this
   obtain⟨n1,_,_,_,t5,_,ns,hF⟩:=hB1'
   simp only at n1 t5 hF
   refine(show AWP _ _ _ _ _ _ from ?_)
   refine AWP.seq' ?_
   refine AWP.reg' λK hK=>?_
   try simp only[stepS,stepD,stepM,eq_self,implies_true,forall_eq_or_imp,forall_eq,Nat.reduceEqDiff,↓reduceIte,Nat.reduceAdd,Nat.reduceLeDiff,Nat.reduceSub,Nat.reduceMul,Nat.reduceLT,Int.reduceBEq,Int.reduceBNe,Int.reduceToNat,Int.reduceLT,Int.reduceLE,Int.reduceAdd,Int.reduceSub,Int.reduceMul,reduceCtorEq,t5]
   refine hK _ _ _ ?_
   clear hK K
   refine(show AWP _ _ _ _ _ _ from ?_)
   obtain⟨hp',w,h1,h2⟩:=(hF.keep (nx':=nx1+16+16+16) (λ_ _ _=>rfl) (by omega)).give (k:=0) (n:=139) (tm:=upd (upd (upd tm1 24 (AV.bool (decide ((ds.length:Int)<(ds.length:Int))))) 138 (AV.mref 32)) 4 (AV.mref 32))
   refine AWP.ret (fin_weak w (fin_ren [32] [(4,.mref 0)] rfl rfl ?_ ?_ rfl (by decide) ?_ (by simp)))
   ·simp only[List.mem_singleton,forall_eq]
    exact⟨rfl,show(0:Nat)<1 by omega⟩
   ·refine⟨⟨?_,?_⟩,trivial⟩
    ·show hp' 32=_
     rw[h1,frzR,Blk.ren,renL_pure _ (frz_pure _)]
    ·exact belL_pure (frz_pure _)
   ·intro b hb
    omega
def cf51:AF:=
 ⟨38,4,[.tmp 5],
 .seq (.reg [⟨(some 5),.move (.c (.val (.int .i64 0))),none⟩])
 (.seq (.seq (.reg [⟨(some 12),.load false 1 (.t 1),none⟩,⟨(some 13),.move (.t 0),none⟩,⟨(some 14),.mget none ((.val (.int .i64 0))) true (.t 12) (.t 13),none⟩,⟨(some 11),.move (.t 14),none⟩,⟨(some 15),.ext 0 (.t 11),none⟩,⟨(some 16),.ext 1 (.t 11),none⟩,⟨(some 6),.move (.t 15),none⟩,⟨(some 7),.move (.t 16),none⟩])
 (.seq (.reg [⟨(some 17),.move (.t 7),none⟩])
 (.cond (.t 17) (.seq (.reg [⟨(some 18),.move (.t 6),none⟩,⟨(some 5),.move (.t 18),none⟩])
 (.ret)) (.skip))))
 (.seq (.reg [⟨(some 8),.move (.c (.val (.int .i64 0))),none⟩])
 (.seq (.seq (.reg [⟨(some 19),.load false 1 (.t 2),none⟩,⟨(some 20),.move (.t 0),none⟩,⟨(some 21),.mget none ((.sl 0 [] true)) false (.t 19) (.t 20),none⟩,⟨(some 22),.len (.t 21),none⟩,⟨(some 23),.move (.c (.val (.int .i64 0))),none⟩])
 (.block 0 (.loop (.seq (.reg [⟨(some 24),.bin .lss (.t 23) (.t 22),none⟩])
 (.seq (.cond (.t 24) (.skip) (.exit 0))
 (.seq (.block 1 (.seq (.reg [⟨(some 25),.iaddr 1 (.t 21) (.t 23),none⟩,⟨(some 26),.load false 1 (.t 25),none⟩,⟨(some 10),.move (.t 26),none⟩])
 (.reg [⟨(some 27),.move (.t 8),none⟩,⟨(some 28),.load false 1 (.t 3),none⟩,⟨(some 29),.move (.t 10),none⟩,⟨(some 30),.call (.t 28) [(.t 29)],none⟩,⟨(some 31),.bin .add (.c (.val (.int .i64 1))) (.t 30),none⟩,⟨(some 32),.max [(.t 27),(.t 31)],none⟩,⟨(some 8),.move (.t 32),none⟩])))
 (.reg [⟨(some 33),.bin .add (.t 23) (.c (.val (.int .i64 1))),none⟩,⟨(some 23),.move (.t 33),none⟩])))))))
 (.seq (.reg [⟨(some 34),.load false 1 (.t 1),none⟩,⟨(some 35),.move (.t 0),none⟩,⟨(some 36),.move (.t 8),none⟩,⟨none,.mset none (.t 34) (.t 35) (.t 36),none⟩])
 (.seq (.reg [⟨(some 37),.move (.t 8),none⟩,⟨(some 5),.move (.t 37),none⟩])
 (.ret))))))⟩
theorem cf51_ok:cFunc Tryz.prog Tryz.f51=some cf51:=by kernel_rfl
def rkS(f:Int→Dis→Int×Dis)(s:Int×Dis)(x:Int):Int×Dis:=(maxI s.1 (W (1+(f x s.2).1)),(f x s.2).2)
def rkF(A:Rws):Nat→Int→Dis→Int×Dis
 | 0,_,kn=>(0,kn)
 | f+1,r,kn=>if mhas kn r=true then(mval kn r 0,kn)else
  (((mval A r []).foldl (rkS (rkF A f)) (0,kn)).1,mput ((mval A r []).foldl (rkS (rkF A f)) (0,kn)).2 r ((mval A r []).foldl (rkS (rkF A f)) (0,kn)).1)
abbrev mpR(A:Rws):AV:=.mp none (kyL A) (A.map λp=>AV.sl 1 (p.2.map AV.int) false)
abbrev knB(kn:Dis):Blk:=.map none (kn.map λp=>MK.n p.1) (kn.map λp=>AV.int p.2)
def rkH(A:Rws)(kn:Dis):List Blk:=[.box (.mref 3),.box (mpR A),.box (.func 51 [.ref 0 0,.ref 1 0,.ref 2 0]),knB kn]
def rk_c:AC:=.block 0 (.loop (.seq (.reg [⟨(some 24),.bin .lss (.t 23) (.t 22),none⟩])
 (.seq (.cond (.t 24) (.skip) (.exit 0))
 (.seq (.block 1 (.seq (.reg [⟨(some 25),.iaddr 1 (.t 21) (.t 23),none⟩,⟨(some 26),.load false 1 (.t 25),none⟩,⟨(some 10),.move (.t 26),none⟩])
 (.reg [⟨(some 27),.move (.t 8),none⟩,⟨(some 28),.load false 1 (.t 3),none⟩,⟨(some 29),.move (.t 10),none⟩,⟨(some 30),.call (.t 28) [(.t 29)],none⟩,⟨(some 31),.bin .add (.c (.val (.int .i64 1))) (.t 30),none⟩,⟨(some 32),.max [(.t 27),(.t 31)],none⟩,⟨(some 8),.move (.t 32),none⟩])))
 (.reg [⟨(some 33),.bin .add (.t 23) (.c (.val (.int .i64 1))),none⟩,⟨(some 23),.move (.t 33),none⟩])))))
structure RkS (A:Rws) (r n:Int) (kn:Dis) (s:S3):Prop where
  nx:4≤s.nx
  t0:s.tm 0=.int r
  t1:s.tm 1=.ref 0 0
  t2:s.tm 2=.ref 1 0
  t3:s.tm 3=.ref 2 0
  t8:s.tm 8=.int n
  h0:s.hp 0=some (.box (.mref 3))
  h1:s.hp 1=some (.box (mpR A))
  h2:s.hp 2=some (.box (.func 51 [.ref 0 0,.ref 1 0,.ref 2 0]))
  h3:s.hp 3=some (knB kn)
theorem kn_pure(kn:Dis):pureL (kn.map λp=>AV.int p.2):=pureBL_ok (pureBL_map (λ_=>rfl) _)
theorem call_rkB{A:Rws}{n fr:Nat}{x v:Int}{kn kn':Dis}{hp:Hp}(b0 b1 b2 b3:Nat)(hnd:[b0,b1,b2,b3].Nodup)(hs:HSpec Tryz.prog 51 [.int x,.ref 0 0,.ref 1 0,.ref 2 0] (rkH A kn) (.int v) ((rkH A kn').map some))
  (k0:hp b0=some (.box (.mref b3))) (k1:hp b1=some (.box (mpR A))) (k2:hp b2=some (.box (.func 51 [.ref b0 0,.ref b1 0,.ref b2 0]))) (k3:hp b3=some (knB kn)) :
  CallOk Tryz.prog n 51 [.int x,.ref b0 0,.ref b1 0,.ref b2 0] fr hp [b0,b1,b2,b3] (.int v) (effL [(b0,some (.box (.mref b3))),(b1,some (.box (mpR A))),(b2,some (.box (.func 51 [.ref b0 0,.ref b1 0,.ref b2 0]))),(b3,some (knB kn'))]):=by
 have e0:piOf [b0,b1,b2,b3] fr 0=b0:=rfl
 have e1:piOf [b0,b1,b2,b3] fr 1=b1:=rfl
 have e2:piOf [b0,b1,b2,b3] fr 2=b2:=rfl
 have e3:piOf [b0,b1,b2,b3] fr 3=b3:=rfl
 have kp:=λ(π:Nat→Nat) (kn:Dis)=>renL_pure π (kn_pure kn)
 have bl:∀(kn:Dis) y,y∈rkH A kn→y.bel 4:=λkn y hy=>by
  unfold rkH at hy
  simp only[List.mem_cons,List.not_mem_nil,or_false]at hy
  rcases hy with rfl|rfl|rfl|rfl
  ·show(3:Nat)<4;omega
  ·trivial
  ·exact⟨show(0:Nat)<4 by omega,show(1:Nat)<4 by omega,show(2:Nat)<4 by omega,trivial⟩
  ·exact belL_pure (kn_pure kn)
 have rn:∀(kn:Dis),(rkH A kn).map (Blk.ren (piOf [b0,b1,b2,b3] fr))=[.box (.mref b3),.box (mpR A),.box (.func 51 [.ref b0 0,.ref b1 0,.ref b2 0]),knB kn]:=λkn=>by
  unfold rkH
  simp only[List.map_cons,List.map_nil,Blk.ren,kp,AV.ren,renL,e0,e1,e2,e3]
 have key:=CallOk.hand (n:=n) (f:=fr) (hp:=hp) ⟨_,Tryz.func51,by kernel_rfl,by kernel_rfl⟩ hs [b0,b1,b2,b3] rfl hnd ⟨trivial,show(0:Nat)<4 by omega,show(1:Nat)<4 by omega,show(2:Nat)<4 by omega,trivial⟩ (λi b y h1 h2=>by
  refine⟨bl kn y (List.mem_of_getElem? h2),?_⟩
  have h3:((rkH A kn).map (Blk.ren (piOf [b0,b1,b2,b3] fr)))[i]?=some (y.ren (piOf [b0,b1,b2,b3] fr)):=by rw[List.getElem?_map,h2];rfl
  rw[rn kn]at h3
  match i with
  | 0=>cases h1;exact k0.trans h3
  | 1=>cases h1;exact k1.trans h3
  | 2=>cases h1;exact k2.trans h3
  | 3=>cases h1;exact k3.trans h3
  | i+4=>simp at h1) (by simp[rkH]) (by simp[rkH]) trivial (λy hy=>by
   rw[List.mem_map]at hy
   obtain⟨z,hz,e⟩:=hy
   cases e
   have:=bl kn' y hz
   simpa[rkH]using this)
 have e4:handEff [b0,b1,b2,b3] fr ((rkH A kn').map some)=effL [(b0,some (.box (.mref b3))),(b1,some (.box (mpR A))),(b2,some (.box (.func 51 [.ref b0 0,.ref b1 0,.ref b2 0]))),(b3,some (knB kn'))]:=by
  have:=rn kn'
  unfold rkH at this ⊢
  simp only[List.map_cons,List.map_nil,List.cons.injEq,and_true]at this
  obtain⟨g0,g1,g2,g3⟩:=this
  simp only[handEff,List.map_cons,List.map_nil,List.zipIdx_cons,List.zipIdx_nil,Nat.zero_add,Option.map_some,e0,e1,e2,e3,g0,g1,g2,g3,Nat.reduceAdd]
 rw[e4]at key
 simpa only[renL,AV.ren,e0,e1,e2]using key
theorem rk_l(A:Rws)(f:Nat)(D:Int→Nat)(ih:∀(r:Int) (kn:Dis),D r<f→HSpec Tryz.prog 51 [.int r,.ref 0 0,.ref 1 0,.ref 2 0] (rkH A kn) (.int (rkF A f r kn).1) ((rkH A (rkF A f r kn).2).map some))
  (r:Int) (row:List Int) (hl:row.length≤1000000) (hr:∀x∈row,D x<f) (kn:Dis) (s:S3) (hS:RkS A r 0 kn s) (t21:s.tm 21=.sl 1 (row.map AV.int) false) (t22:s.tm 22=.int row.length) (t23:s.tm 23=.int 0) (Q:X→S3→Prop)
  (hQ:∀s',RkS A r (row.foldl (rkS (rkF A f)) (0,kn)).1 (row.foldl (rkS (rkF A f)) (0,kn)).2 s'→Q .normal s'):AWP Tryz.prog 4 38 rk_c Q s:=by
 have hml:=maxLen_eq
 unfold rk_c
 refine AWP.block ?_
 refine AWP.loopS (λu:S3×Nat=>u.1) (λu=>u.2≤row.length∧RkS A r ((row.take u.2).foldl (rkS (rkF A f)) (0,kn)).1 ((row.take u.2).foldl (rkS (rkF A f)) (0,kn)).2 u.1 ∧
  u.1.tm 21=.sl 1 (row.map AV.int) false∧u.1.tm 22=.int row.length∧u.1.tm 23=.int (u.2:Nat)) (λu=>row.length-u.2) (i0:=(_,0)) ⟨Nat.zero_le _,hS,t21,t22,t23⟩ Weak.refl ?_
 rintro⟨⟨tm1,hp1,nx1⟩,z⟩ ⟨hz,⟨n1,s0,s1,s2,s3,s8,k0,k1,k2,k3⟩,q21,q22,q23⟩
 simp only at hz n1 s0 s1 s2 s3 s8 k0 k1 k2 k3 q21 q22 q23 ⊢
 refine AWP.seq' ?_
 refine AWP.reg' λK hK=>?_
 try simp only[stepS,stepD,stepM,eq_self,implies_true,forall_eq_or_imp,forall_eq,Nat.reduceEqDiff,↓reduceIte,Nat.reduceAdd,Nat.reduceLeDiff,Nat.reduceSub,Nat.reduceMul,Nat.reduceLT,Int.reduceBEq,Int.reduceBNe,Int.reduceToNat,Int.reduceLT,Int.reduceLE,Int.reduceAdd,Int.reduceSub,Int.reduceMul,reduceCtorEq,q22,q23]
 refine hK _ _ _ ?_
 clear hK K
 refine AWP.seq' ?_
 refine AWP.cond (b:=decide ((z:Int)<(row.length:Int))) rfl (λe=>?_) (λe=>?_)
 ·have e:z<row.length:=by have:=of_decide_eq_true e;omega
  refine AWP.skip ?_
  refine AWP.seq' (AWP.block (AWP.seq' ?_))
  have hy:row[z]?=some row[z]:=List.getElem?_eq_getElem e
  generalize row[z]=x at hy
  have hge:(row.map AV.int).getD z .unk=.int x:=by rw[List.getD_eq_getElem?_getD,List.getElem?_map,hy];rfl
  refine AWP.reg' λK hK=>?_
  try simp only[stepS,stepD,stepM,eq_self,implies_true,forall_eq_or_imp,forall_eq,Nat.reduceEqDiff,↓reduceIte,Nat.reduceAdd,Nat.reduceLeDiff,Nat.reduceSub,Nat.reduceMul,Nat.reduceLT,Int.reduceBEq,Int.reduceBNe,Int.reduceToNat,Int.reduceLT,Int.reduceLE,Int.reduceAdd,Int.reduceSub,Int.reduceMul,reduceCtorEq,q21,q23,hge,Int.toNat_natCast,List.length_map]
  refine⟨⟨by omega,by omega⟩,?_⟩
  refine hK _ _ _ ?_
  clear hK K
  refine(show AWP _ _ _ _ _ _ from ?_)
  generalize hP:(row.take z).foldl (rkS (rkF A f)) (0,kn)=p at *
  have hx:=ih x p.2 (hr x (List.mem_of_getElem? hy))
  refine AWP.reg' λK hK=>?_
  try simp only[stepS,stepD,stepM,eq_self,implies_true,forall_eq_or_imp,forall_eq,Nat.reduceEqDiff,↓reduceIte,Nat.reduceAdd,Nat.reduceLeDiff,Nat.reduceSub,Nat.reduceMul,Nat.reduceLT,Int.reduceBEq,Int.reduceBNe,Int.reduceToNat,Int.reduceLT,Int.reduceLE,Int.reduceAdd,Int.reduceSub,Int.reduceMul,reduceCtorEq,s3,s8,k2]
  refine evT_call rfl (by rfl) (call_rkB 0 1 2 3 (by decide) hx k0 k1 k2 k3) ?_
  rw[hpEff_cons,hpEff_cons,hpEff_cons,hpEff_cons,hpEff_nil]
  try simp only[stepS,stepD,stepM,eq_self,implies_true,forall_eq_or_imp,forall_eq,Nat.reduceEqDiff,↓reduceIte,Nat.reduceAdd,Nat.reduceLeDiff,Nat.reduceSub,Nat.reduceMul,Nat.reduceLT,Int.reduceBEq,Int.reduceBNe,Int.reduceToNat,Int.reduceLT,Int.reduceLE,Int.reduceAdd,Int.reduceSub,Int.reduceMul,reduceCtorEq,foldA,foldI]
  refine hK _ _ _ ?_
  clear hK K
  refine(show AWP _ _ _ _ _ _ from ?_)
  have hw:IntKind.i64.wrap ((z:Int)+1)=((z+1:Nat):Int):=wrapN (by omega) (by omega)
  refine AWP.reg' λK hK=>?_
  try simp only[stepS,stepD,stepM,eq_self,implies_true,forall_eq_or_imp,forall_eq,Nat.reduceEqDiff,↓reduceIte,Nat.reduceAdd,Nat.reduceLeDiff,Nat.reduceSub,Nat.reduceMul,Nat.reduceLT,Int.reduceBEq,Int.reduceBNe,Int.reduceToNat,Int.reduceLT,Int.reduceLE,Int.reduceAdd,Int.reduceSub,Int.reduceMul,reduceCtorEq,q23,hw]
  refine hK _ _ _ ?_
  clear hK K
  have hF:(row.take (z+1)).foldl (rkS (rkF A f)) (0,kn)=rkS (rkF A f) p x:=by rw[foldl_snoc _ _ hy,hP]
  refine⟨(_,z+1),⟨by dsimp only;omega,?_,?_,?_,rfl⟩,by dsimp only;omega,Weak.refl⟩
  ·dsimp only
   rw[hF]
   exact⟨by dsimp only;omega,s0,s1,s2,s3,rfl,rfl,rfl,rfl,rfl⟩
  ·exact q21
  ·exact q22
 ·have e:z=row.length:=by have:=of_decide_eq_false e;omega
  subst e
  refine AWP.exit ?_
  refine(show Q .normal _ from ?_)
  rw[List.take_length]at s8 k3
  exact hQ _ ⟨by dsimp only;omega,s0,s1,s2,s3,s8,k0,k1,k2,k3⟩
theorem rank1_S(A:Rws)(D:Int→Nat)(hA:∀p∈A,p.2.length≤1000000)(hD:∀r x,x∈mval A r []→D x<D r):∀(f:Nat) (r:Int) (kn:Dis),D r<f →
  HSpec Tryz.prog 51 [.int r,.ref 0 0,.ref 1 0,.ref 2 0] (rkH A kn) (.int (rkF A f r kn).1) ((rkH A (rkF A f r kn).2).map some)
 | 0,r,kn,h=>absurd h (by omega)
 | f+1,r,kn,h=>by
  have ih:=rank1_S A D hA hD f
  have hinj:∀x y:Int,MK.n x=MK.n y→x=y:=λx y h=>MK.n.inj h
  have e1:=mgetA_plain (kf:=MK.n) (vf:=AV.int) (l:=kn) (x:=r) hinj 0 true
  have hrow:(mval A r []).length≤1000000:=by
   cases e:mhas A r with
   | false=>rw[mval_no e];simp
   | true=>exact hA _ (mval_mem e)
  refine HSpec.walk Tryz.func51 cf51_ok (by simp[cf51]) ?_
  unfold cf51 rkH
  simp only[initT,initH,List.length_cons,List.length_nil]
  refine AWP.seq' ?_
  refine AWP.reg' λK hK=>?_
  try simp only[stepS,stepD,stepM,eq_self,implies_true,forall_eq_or_imp,forall_eq,Nat.reduceEqDiff,↓reduceIte,Nat.reduceAdd,Nat.reduceLeDiff,Nat.reduceSub,Nat.reduceMul,Nat.reduceLT,Int.reduceBEq,Int.reduceBNe,Int.reduceToNat,Int.reduceLT,Int.reduceLE,Int.reduceAdd,Int.reduceSub,Int.reduceMul,reduceCtorEq]
  refine hK _ _ _ ?_
  clear hK K
  refine AWP.seq' (AWP.seq' ?_)
  refine AWP.reg' λK hK=>?_
  try simp only[stepS,stepD,stepM,eq_self,implies_true,forall_eq_or_imp,forall_eq,Nat.reduceEqDiff,↓reduceIte,Nat.reduceAdd,Nat.reduceLeDiff,Nat.reduceSub,Nat.reduceMul,Nat.reduceLT,Int.reduceBEq,Int.reduceBNe,Int.reduceToNat,Int.reduceLT,Int.reduceLE,Int.reduceAdd,Int.reduceSub,Int.reduceMul,reduceCtorEq,evA_mget,mapA,AV.key,MK.fits,and_self,true_and,e1,cond_true]
  refine hK _ _ _ ?_
  clear hK K
  refine AWP.seq' ?_
  refine AWP.reg' λK hK=>?_
  try simp only[stepS,stepD,stepM,eq_self,implies_true,forall_eq_or_imp,forall_eq,Nat.reduceEqDiff,↓reduceIte,Nat.reduceAdd,Nat.reduceLeDiff,Nat.reduceSub,Nat.reduceMul,Nat.reduceLT,Int.reduceBEq,Int.reduceBNe,Int.reduceToNat,Int.reduceLT,Int.reduceLE,Int.reduceAdd,Int.reduceSub,Int.reduceMul,reduceCtorEq]
  refine hK _ _ _ ?_
  clear hK K
  cases hk:mhas kn r with
  | true =>
   have hr:rkF A (f+1) r kn=(mval kn r 0,kn):=by rw[rkF,if_pos hk]
   rw[hr]
   refine AWP.cond (b:=true) rfl (λ_=>?_) (λh=>by cases h)
   refine AWP.seq' ?_
   refine AWP.reg' λK hK=>?_
   try simp only[stepS,stepD,stepM,eq_self,implies_true,forall_eq_or_imp,forall_eq,Nat.reduceEqDiff,↓reduceIte,Nat.reduceAdd,Nat.reduceLeDiff,Nat.reduceSub,Nat.reduceMul,Nat.reduceLT,Int.reduceBEq,Int.reduceBNe,Int.reduceToNat,Int.reduceLT,Int.reduceLE,Int.reduceAdd,Int.reduceSub,Int.reduceMul,reduceCtorEq]
   refine hK _ _ _ ?_
   clear hK K
   exact AWP.ret (fin_ret rfl rfl ⟨rfl,rfl,rfl,rfl,trivial⟩)
  | false =>
   refine AWP.cond (b:=false) rfl (λh=>by cases h) (λ_=>AWP.skip ?_)
   refine(show AWP _ _ _ _ _ _ from ?_)
   refine AWP.seq' ?_
   refine AWP.reg' λK hK=>?_
   try simp only[stepS,stepD,stepM,eq_self,implies_true,forall_eq_or_imp,forall_eq,Nat.reduceEqDiff,↓reduceIte,Nat.reduceAdd,Nat.reduceLeDiff,Nat.reduceSub,Nat.reduceMul,Nat.reduceLT,Int.reduceBEq,Int.reduceBNe,Int.reduceToNat,Int.reduceLT,Int.reduceLE,Int.reduceAdd,Int.reduceSub,Int.reduceMul,reduceCtorEq]
   refine hK _ _ _ ?_
   clear hK K
   refine AWP.seq' (AWP.seq' ?_)
   have hinj':=mgetB_has (kf:=MK.n) (vf:=λl:List Int=>AV.sl 1 (l.map AV.int) false) (l:=A) (x:=r) (z:=[]) (zz:=.sl 0 [] true) (ok:=false) hinj
   have hinj2:=mgetB_not (kf:=MK.n) (vf:=λl:List Int=>AV.sl 1 (l.map AV.int) false) (l:=A) (x:=r) (zz:=.sl 0 [] true) (ok:=false) hinj
   have hr:rkF A (f+1) r kn=(((mval A r []).foldl (rkS (rkF A f)) (0,kn)).1,mput ((mval A r []).foldl (rkS (rkF A f)) (0,kn)).2 r ((mval A r []).foldl (rkS (rkF A f)) (0,kn)).1):=by rw[rkF,if_neg (by simp[hk])]
   rw[hr]
   generalize hrv:mval A r []=row at *
   generalize hP:row.foldl (rkS (rkF A f)) (0,kn)=p at *
   cases ha:mhas A r with
   | true =>
    have e2:=hinj' ha
    simp only[cond_false]at e2
    refine AWP.reg' λK hK=>?_
    try simp only[stepS,stepD,stepM,eq_self,implies_true,forall_eq_or_imp,forall_eq,Nat.reduceEqDiff,↓reduceIte,Nat.reduceAdd,Nat.reduceLeDiff,Nat.reduceSub,Nat.reduceMul,Nat.reduceLT,Int.reduceBEq,Int.reduceBNe,Int.reduceToNat,Int.reduceLT,Int.reduceLE,Int.reduceAdd,Int.reduceSub,Int.reduceMul,reduceCtorEq,evA_mget,mapA,AV.key,MK.fits,and_self,true_and,e2,kyL,List.length_map]
    refine hK _ _ _ ?_
    clear hK K
    refine(show AWP Tryz.prog 4 38 rk_c _ _ from ?_)
    refine rk_l A f D ih r row hrow (λx hx=>by have:=hD r x (by rw[hrv];exact hx);omega) kn _ ⟨by dsimp only;omega,rfl,rfl,rfl,rfl,rfl,rfl,rfl,rfl,rfl⟩ (by simp only[upd_ap];rfl) (by simp only[upd_ap];rfl) rfl _ (λs' hS=>?_)
    rw[hP]at hS
    obtain⟨tm1,hp1,nx1⟩:=s'
    obtain⟨n1,s0,s1,s2,s3,s8,k0,k1,k2,k3⟩:=hS
    simp only at n1 s0 s1 s2 s3 s8 k0 k1 k2 k3
    refine(show AWP _ _ _ _ _ _ from ?_)
    have e3:=msetA_plain (kf:=MK.n) (vf:=AV.int) (l:=p.2) (x:=r) hinj none p.1
    refine AWP.seq' ?_
    refine AWP.reg' λK hK=>?_
    try simp only[stepS,stepD,stepM,eq_self,implies_true,forall_eq_or_imp,forall_eq,Nat.reduceEqDiff,↓reduceIte,Nat.reduceAdd,Nat.reduceLeDiff,Nat.reduceSub,Nat.reduceMul,Nat.reduceLT,Int.reduceBEq,Int.reduceBNe,Int.reduceToNat,Int.reduceLT,Int.reduceLE,Int.reduceAdd,Int.reduceSub,Int.reduceMul,reduceCtorEq,s0,s1,s8,k0,k3,evA_mset,AV.key,MK.fits,and_self,true_and,e3]
    refine hK _ _ _ ?_
    clear hK K
    refine AWP.seq' ?_
    refine AWP.reg' λK hK=>?_
    try simp only[stepS,stepD,stepM,eq_self,implies_true,forall_eq_or_imp,forall_eq,Nat.reduceEqDiff,↓reduceIte,Nat.reduceAdd,Nat.reduceLeDiff,Nat.reduceSub,Nat.reduceMul,Nat.reduceLT,Int.reduceBEq,Int.reduceBNe,Int.reduceToNat,Int.reduceLT,Int.reduceLE,Int.reduceAdd,Int.reduceSub,Int.reduceMul,reduceCtorEq,s8]
    refine hK _ _ _ ?_
    clear hK K
    exact AWP.ret (fin_ret rfl rfl ⟨k0,k1,k2,rfl,trivial⟩)
   | false =>
    have e2:=hinj2 ha
    simp only[cond_false]at e2
    have hr0:row=[]:=by rw[←hrv,mval_no ha]
    subst hr0
    refine AWP.reg' λK hK=>?_
    try simp only[stepS,stepD,stepM,eq_self,implies_true,forall_eq_or_imp,forall_eq,Nat.reduceEqDiff,↓reduceIte,Nat.reduceAdd,Nat.reduceLeDiff,Nat.reduceSub,Nat.reduceMul,Nat.reduceLT,Int.reduceBEq,Int.reduceBNe,Int.reduceToNat,Int.reduceLT,Int.reduceLE,Int.reduceAdd,Int.reduceSub,Int.reduceMul,reduceCtorEq,evA_mget,mapA,AV.key,MK.fits,and_self,true_and,e2,kyL,List.length_map]
    refine hK _ _ _ ?_
    clear hK K
    refine AWP.weak (Weak.subT 21 (y:=.sl 1 [] false) Sub.nil) ?_
    refine(show AWP Tryz.prog 4 38 rk_c _ _ from ?_)
    refine rk_l A f D ih r [] hrow (λx hx=>by simp at hx) kn _ ⟨by dsimp only;omega,rfl,rfl,rfl,rfl,rfl,rfl,rfl,rfl,rfl⟩ rfl rfl rfl _ (λs' hS=>?_)
    rw[hP]at hS
    obtain⟨tm1,hp1,nx1⟩:=s'
    obtain⟨n1,s0,s1,s2,s3,s8,k0,k1,k2,k3⟩:=hS
    simp only at n1 s0 s1 s2 s3 s8 k0 k1 k2 k3
    refine(show AWP _ _ _ _ _ _ from ?_)
    have e3:=msetA_plain (kf:=MK.n) (vf:=AV.int) (l:=p.2) (x:=r) hinj none p.1
    refine AWP.seq' ?_
    refine AWP.reg' λK hK=>?_
    try simp only[stepS,stepD,stepM,eq_self,implies_true,forall_eq_or_imp,forall_eq,Nat.reduceEqDiff,↓reduceIte,Nat.reduceAdd,Nat.reduceLeDiff,Nat.reduceSub,Nat.reduceMul,Nat.reduceLT,Int.reduceBEq,Int.reduceBNe,Int.reduceToNat,Int.reduceLT,Int.reduceLE,Int.reduceAdd,Int.reduceSub,Int.reduceMul,reduceCtorEq,s0,s1,s8,k0,k3,evA_mset,AV.key,MK.fits,and_self,true_and,e3]
    refine hK _ _ _ ?_
    clear hK K
    refine AWP.seq' ?_
    refine AWP.reg' λK hK=>?_
    try simp only[stepS,stepD,stepM,eq_self,implies_true,forall_eq_or_imp,forall_eq,Nat.reduceEqDiff,↓reduceIte,Nat.reduceAdd,Nat.reduceLeDiff,Nat.reduceSub,Nat.reduceMul,Nat.reduceLT,Int.reduceBEq,Int.reduceBNe,Int.reduceToNat,Int.reduceLT,Int.reduceLE,Int.reduceAdd,Int.reduceSub,Int.reduceMul,reduceCtorEq,s8]
    refine hK _ _ _ ?_
    clear hK K
    exact AWP.ret (fin_ret rfl rfl ⟨k0,k1,k2,rfl,trivial⟩)
def rk_t:AC:=.seq (.reg [⟨(some 34),.mkm none,none⟩,⟨(some 11),.box (.c (.val (.map none))),none⟩,⟨none,.store 1 (.t 11) (.t 34),none⟩])
 (.seq (.reg [⟨(some 12),.box (.c (.val (.nilFunc))),none⟩])
 (.seq (.reg [⟨(some 35),.mkf 51 [(.t 11),(.t 10),(.t 12)],none⟩,⟨none,.store 1 (.t 12) (.t 35),none⟩])
 (.seq (.reg [⟨(some 13),.move (.c (.sl 0 [] true)),none⟩])
 (.seq (.seq (.reg [⟨(some 36),.faddr 0 (.t 2),none⟩,⟨(some 37),.load false 1 (.t 36),none⟩,⟨(some 38),.len (.t 37),none⟩,⟨(some 39),.move (.c (.val (.int .i64 0))),none⟩])
 (.block 0 (.loop (.seq (.reg [⟨(some 40),.bin .lss (.t 39) (.t 38),none⟩])
 (.seq (.cond (.t 40) (.skip) (.exit 0))
 (.seq (.block 1 (.seq (.reg [⟨(some 41),.iaddr 2 (.t 37) (.t 39),none⟩,⟨(some 42),.load true 2 (.t 41),none⟩,⟨(some 15),.box (.c (.agg [(.val (.int .i64 0)),(.val (.bool false))])),none⟩,⟨none,.store 2 (.t 15) (.t 42),none⟩])
 (.dreg [⟨(some 43),.move (.t 13),none⟩,⟨(some 44),.faddr 0 (.t 15),none⟩,⟨(some 45),.load false 1 (.t 44),none⟩,⟨(some 46),.load false 1 (.t 12),none⟩,⟨(some 47),.faddr 0 (.t 15),none⟩,⟨(some 48),.load false 1 (.t 47),none⟩,⟨(some 49),.call (.t 46) [(.t 48)],none⟩,⟨(some 50),.build [(.val (.int .i64 0)),(.val (.int .i64 0))] [(0,1,(.t 45)),(1,1,(.t 49))],none⟩,⟨(some 51),.lit 2 1 (.agg [(.val (.int .i64 0)),(.val (.int .i64 0))]) [(0,(.t 50))],none⟩,⟨(some 52),.append 2 16 (.t 43) (.t 51),none⟩,⟨(some 13),.move (.t 52),none⟩] [(2,3),(2,5),(3,5),(2,6)])))
 (.reg [⟨(some 53),.bin .add (.t 39) (.c (.val (.int .i64 1))),none⟩,⟨(some 39),.move (.t 53),none⟩])))))))
 (.seq (.reg [⟨(some 54),.move (.t 13),none⟩,⟨(some 4),.move (.t 54),none⟩,⟨(some 5),.move (.c (.val (.int .i64 0))),none⟩])
 (.ret))))))
def rkO(A:Rws)(N:Nat)(s:List Rnk×Dis)(r:Rtr):List Rnk×Dis:=(s.1++[⟨r.id,(rkF A N r.id s.2).1⟩],(rkF A N r.id s.2).2)
theorem rk_tail(t:Tpl)(A:Rws)(D:Int→Nat)(N:Nat)(hA:∀p∈A,p.2.length≤1000000)(hD:∀r x,x∈mval A r []→D x<D r)(hN:∀r,D r<N)(ht:t.rs.length≤1000)(tm:Nat→AV)(hp:Hp)(t2:tm 2=.ref 0 0)(h0:hp 0=some (.box (Tpl.v t)))
  (t10:tm 10=.ref 352 0) (h10:hp 352=some (.box (mpR A))):AWP Tryz.prog 0 55 rk_t (fin 0 55 [.tmp 4,.tmp 5] (.tup [.sl 2 ((t.rs.foldl (rkO A N) ([],[])).1.map Rnk.v) false,.int 0]) []) ⟨tm,hp,1000⟩:=by
 have hml:=maxLen_eq
 unfold rk_t
 refine AWP.seq' ?_
 refine AWP.reg' λK hK=>?_
 try simp only[stepS,stepD,stepM,eq_self,implies_true,forall_eq_or_imp,forall_eq,Nat.reduceEqDiff,↓reduceIte,Nat.reduceAdd,Nat.reduceLeDiff,Nat.reduceSub,Nat.reduceMul,Nat.reduceLT,Int.reduceBEq,Int.reduceBNe,Int.reduceToNat,Int.reduceLT,Int.reduceLE,Int.reduceAdd,Int.reduceSub,Int.reduceMul,reduceCtorEq,evA_mkm]
 refine hK _ _ _ ?_
 clear hK K
 refine AWP.seq' ?_
 refine AWP.reg' λK hK=>?_
 try simp only[stepS,stepD,stepM,eq_self,implies_true,forall_eq_or_imp,forall_eq,Nat.reduceEqDiff,↓reduceIte,Nat.reduceAdd,Nat.reduceLeDiff,Nat.reduceSub,Nat.reduceMul,Nat.reduceLT,Int.reduceBEq,Int.reduceBNe,Int.reduceToNat,Int.reduceLT,Int.reduceLE,Int.reduceAdd,Int.reduceSub,Int.reduceMul,reduceCtorEq]
 refine hK _ _ _ ?_
 clear hK K
 refine AWP.seq' ?_
 refine AWP.reg' λK hK=>?_
 try simp only[stepS,stepD,stepM,eq_self,implies_true,forall_eq_or_imp,forall_eq,Nat.reduceEqDiff,↓reduceIte,Nat.reduceAdd,Nat.reduceLeDiff,Nat.reduceSub,Nat.reduceMul,Nat.reduceLT,Int.reduceBEq,Int.reduceBNe,Int.reduceToNat,Int.reduceLT,Int.reduceLE,Int.reduceAdd,Int.reduceSub,Int.reduceMul,reduceCtorEq,t10]
 refine hK _ _ _ ?_
 clear hK K
 refine AWP.seq' ?_
 refine AWP.reg' λK hK=>?_
 try simp only[stepS,stepD,stepM,eq_self,implies_true,forall_eq_or_imp,forall_eq,Nat.reduceEqDiff,↓reduceIte,Nat.reduceAdd,Nat.reduceLeDiff,Nat.reduceSub,Nat.reduceMul,Nat.reduceLT,Int.reduceBEq,Int.reduceBNe,Int.reduceToNat,Int.reduceLT,Int.reduceLE,Int.reduceAdd,Int.reduceSub,Int.reduceMul,reduceCtorEq]
 refine hK _ _ _ ?_
 clear hK K
 refine AWP.seq' (AWP.seq' ?_)
 refine AWP.reg' λK hK=>?_
 try simp only[stepS,stepD,stepM,eq_self,implies_true,forall_eq_or_imp,forall_eq,Nat.reduceEqDiff,↓reduceIte,Nat.reduceAdd,Nat.reduceLeDiff,Nat.reduceSub,Nat.reduceMul,Nat.reduceLT,Int.reduceBEq,Int.reduceBNe,Int.reduceToNat,Int.reduceLT,Int.reduceLE,Int.reduceAdd,Int.reduceSub,Int.reduceMul,reduceCtorEq,t2,h0,Tpl.v,List.length_map]
 repeat (refine And.intro (by omega) ?_)
 refine hK _ _ _ ?_
 clear hK K
 refine AWP.block ?_
 refine AWP.weak (Weak.nilvec (k:=0) 13 0 2 (by simp only[upd_ap];rfl) (Nat.zero_le _)) ?_
 refine AWP.loopS (λu:S3×Nat=>u.1) (λu=>u.2≤t.rs.length∧(1177≤u.1.nx∧u.1.tm 12=.ref 1048 0∧u.1.tm 37=.sl 2 (t.rs.map Rtr.v) false∧u.1.tm 38=.int t.rs.length∧u.1.tm 39=.int (u.2:Nat)) ∧
  (u.1.hp 1016=some (.box (.mref 1000))∧u.1.hp 352=some (.box (mpR A))∧u.1.hp 1048=some (.box (.func 51 [.ref 1016 0,.ref 352 0,.ref 1048 0]))∧u.1.hp 1000=some (knB ((t.rs.take u.2).foldl (rkO A N) ([],[])).2)) ∧
  ∃b,u.1.tm 13=.vec b∧b<u.1.nx∧u.1.hp b=some (.vec 2 (((t.rs.take u.2).foldl (rkO A N) ([],[])).1.map Rnk.v))) (λu=>t.rs.length-u.2) (i0:=(_,0)) ?_ Weak.refl ?_
 ·exact⟨Nat.zero_le _,⟨Nat.le_refl _,rfl,rfl,rfl,rfl⟩,⟨rfl,h10,rfl,rfl⟩,1176,rfl,by dsimp only;omega,rfl⟩
 ·rintro⟨⟨tm1,hp1,nx1⟩,z⟩ ⟨hz,⟨n1,q12,q37,q38,q39⟩,⟨k0,k1,k2,k3⟩,b,qb,hb,kb⟩
  simp only at hz n1 q12 q37 q38 q39 k0 k1 k2 k3 qb hb kb ⊢
  refine AWP.seq' ?_
  refine AWP.reg' λK hK=>?_
  try simp only[stepS,stepD,stepM,eq_self,implies_true,forall_eq_or_imp,forall_eq,Nat.reduceEqDiff,↓reduceIte,Nat.reduceAdd,Nat.reduceLeDiff,Nat.reduceSub,Nat.reduceMul,Nat.reduceLT,Int.reduceBEq,Int.reduceBNe,Int.reduceToNat,Int.reduceLT,Int.reduceLE,Int.reduceAdd,Int.reduceSub,Int.reduceMul,reduceCtorEq,q38,q39]
  refine hK _ _ _ ?_
  clear hK K
  refine AWP.seq' ?_
  refine AWP.cond (b:=decide ((z:Int)<(t.rs.length:Int))) rfl (λe=>?_) (λe=>?_)
  ·have e:z<t.rs.length:=by have:=of_decide_eq_true e;omega
   refine AWP.skip ?_
   refine AWP.seq' (AWP.block (AWP.seq' ?_))
   have hy:t.rs[z]?=some t.rs[z]:=List.getElem?_eq_getElem e
   generalize t.rs[z]=x at hy
   have hge:(t.rs.map Rtr.v).getD z .unk=Rtr.v x:=by rw[List.getD_eq_getElem?_getD,List.getElem?_map,hy];rfl
   refine AWP.reg' λK hK=>?_
   try simp only[stepS,stepD,stepM,eq_self,implies_true,forall_eq_or_imp,forall_eq,Nat.reduceEqDiff,↓reduceIte,Nat.reduceAdd,Nat.reduceLeDiff,Nat.reduceSub,Nat.reduceMul,Nat.reduceLT,Int.reduceBEq,Int.reduceBNe,Int.reduceToNat,Int.reduceLT,Int.reduceLE,Int.reduceAdd,Int.reduceSub,Int.reduceMul,reduceCtorEq,q37,q39,hge,Int.toNat_natCast,List.length_map,Rtr.v]
   refine⟨⟨by omega,by omega⟩,?_⟩
   refine hK _ _ _ ?_
   clear hK K
   refine(show AWP _ _ _ _ _ _ from ?_)
   have hF:(t.rs.take (z+1)).foldl (rkO A N) ([],[])=rkO A N ((t.rs.take z).foldl (rkO A N) ([],[])) x:=foldl_snoc _ _ hy
   have hpl:((t.rs.take z).foldl (rkO A N) ([],[])).1.length≤1000:=by
    have:∀(l:List Rtr) (s:List Rnk×Dis),(l.foldl (rkO A N) s).1.length=s.1.length+l.length:=λl=>by
     induction l with
     | nil=>intro s;rfl
     | cons r l ih=>intro s;rw[List.foldl_cons,ih];simp[rkO];omega
    rw[this,List.length_take];simp;omega
   generalize hP:(t.rs.take z).foldl (rkO A N) ([],[])=p at *
   have hx:=rank1_S A D hA hD N x.id p.2 (hN _)
   obtain⟨f1048,_⟩:=nxF (show 1048<nx1 by omega)
   refine AWP.dreg' λK hK=>?_
   try simp only[stepS,stepD,stepM,eq_self,implies_true,forall_eq_or_imp,forall_eq,Nat.reduceEqDiff,↓reduceIte,Nat.reduceAdd,Nat.reduceLeDiff,Nat.reduceSub,Nat.reduceMul,Nat.reduceLT,Int.reduceBEq,Int.reduceBNe,Int.reduceToNat,Int.reduceLT,Int.reduceLE,Int.reduceAdd,Int.reduceSub,Int.reduceMul,reduceCtorEq,qb,q12,k2,f1048,Nat.add_assoc]
   have hpl2:∀(v1 v2 v3:Option Blk) b,b<nx1→upd (upd (upd hp1 (nx1+48) v1) (nx1+48) v2) (nx1+48) v3 b=hp1 b:=λv1 v2 v3 b hb=>by
    simp only[upd_ap];repeat rw[if_neg (by omega)]
   have hne:∀{c:Nat} {y:Blk},hp1 c=some y→(∀es,y≠.vec 2 es)→(b=c)=False∧(c=b)=False:=λh1 h2=>by
    refine⟨eq_false λe=>?_,eq_false λe=>?_⟩
    ·subst e;rw[kb]at h1;cases h1;exact h2 _ rfl
    ·subst e;rw[kb]at h1;cases h1;exact h2 _ rfl
   obtain⟨nb0,nb0'⟩:=hne k0 (λ_ h=>by cases h)
   obtain⟨nb1,nb1'⟩:=hne k1 (λ_ h=>by cases h)
   obtain⟨nb2,nb2'⟩:=hne k2 (λ_ h=>by cases h)
   obtain⟨nb3,nb3'⟩:=hne k3 (λ_ h=>by cases h)
   obtain⟨fb,fb',_,_⟩:=nxF hb
   refine evD_call [1016,352,1048,1000] rfl (by rfl) (call_rkB 1016 352 1048 1000 (by decide) hx ((hpl2 _ _ _ _ (by omega)).trans k0) ((hpl2 _ _ _ _ (by omega)).trans k1) ((hpl2 _ _ _ _ (by omega)).trans k2) ((hpl2 _ _ _ _ (by omega)).trans k3)) (λc h=>?_) ?_
   ·by_cases a0:c=1016
    ·simp[a0]
    by_cases a1:c=352
    ·simp[a1]
    by_cases a2:c=1048
    ·simp[a2]
    by_cases a3:c=1000
    ·simp[a3]
    exact absurd (by simp[effL,noEff,a0,a1,a2,a3]) h
   rw[hpEff_cons,hpEff_cons,hpEff_cons,hpEff_cons,hpEff_nil]
   try simp only[stepS,stepD,stepM,eq_self,implies_true,forall_eq_or_imp,forall_eq,Nat.reduceEqDiff,↓reduceIte,Nat.reduceAdd,Nat.reduceLeDiff,Nat.reduceSub,Nat.reduceMul,Nat.reduceLT,Int.reduceBEq,Int.reduceBNe,Int.reduceToNat,Int.reduceLT,Int.reduceLE,Int.reduceAdd,Int.reduceSub,Int.reduceMul,reduceCtorEq]
   refine evD_lit ?_
   try simp only[stepS,stepD,stepM,eq_self,implies_true,forall_eq_or_imp,forall_eq,Nat.reduceEqDiff,↓reduceIte,Nat.reduceAdd,Nat.reduceLeDiff,Nat.reduceSub,Nat.reduceMul,Nat.reduceLT,Int.reduceBEq,Int.reduceBNe,Int.reduceToNat,Int.reduceLT,Int.reduceLE,Int.reduceAdd,Int.reduceSub,Int.reduceMul,reduceCtorEq,appendA,srcA,nb0,nb1,nb2,nb3,nb0',nb1',nb2',nb3',fb,fb',kb,Nat.add_assoc,List.length_map]
   obtain⟨g1,g1',_⟩:=nxF (show 1016<nx1 by omega)
   obtain⟨g2,g2',_⟩:=nxF (show 352<nx1 by omega)
   obtain⟨g3,g3',_⟩:=nxF (show 1048<nx1 by omega)
   obtain⟨g4,g4',_⟩:=nxF (show 1000<nx1 by omega)
   refine⟨⟨by omega,by omega⟩,?_,?_⟩
   ·simp[parOk,disj,heapy,AOp.opers,refIds,evO,upd_ap,g1,g2,g3,g4,g1',g2',g3',g4']
   refine hK _ _ _ ?_
   clear hK K
   refine(show AWP _ _ _ _ _ _ from ?_)
   have hw:IntKind.i64.wrap ((z:Int)+1)=((z+1:Nat):Int):=wrapN (by omega) (by omega)
   refine AWP.reg' λK hK=>?_
   try simp only[stepS,stepD,stepM,eq_self,implies_true,forall_eq_or_imp,forall_eq,Nat.reduceEqDiff,↓reduceIte,Nat.reduceAdd,Nat.reduceLeDiff,Nat.reduceSub,Nat.reduceMul,Nat.reduceLT,Int.reduceBEq,Int.reduceBNe,Int.reduceToNat,Int.reduceLT,Int.reduceLE,Int.reduceAdd,Int.reduceSub,Int.reduceMul,reduceCtorEq,q39,hw]
   refine hK _ _ _ ?_
   clear hK K
   refine⟨(_,z+1),⟨by dsimp only;omega,⟨by dsimp only;omega,?_,?_,?_,rfl⟩,⟨?_,?_,?_,?_⟩,nx1+224,rfl,by dsimp only;omega,?_⟩,by dsimp only;omega,Weak.refl⟩
   ·exact q12
   ·exact q37
   ·exact q38
   ·simp only[upd_ap,g1,nb0',↓reduceIte,Nat.reduceEqDiff]
   ·simp only[upd_ap,g2,nb1',↓reduceIte,Nat.reduceEqDiff]
   ·simp only[upd_ap,g3,nb2',↓reduceIte,Nat.reduceEqDiff]
   ·dsimp only;rw[hF];simp only[upd_ap,g4,nb3',↓reduceIte,Nat.reduceEqDiff];rfl
   ·dsimp only;rw[hF];simp only[upd_ap,↓reduceIte];unfold rkO;rw[List.map_append];rfl
  ·have e:z=t.rs.length:=by have:=of_decide_eq_false e;omega
   subst e
   refine AWP.exit ?_
   rw[List.take_length]at kb
   refine(show AWP _ _ _ _ _ _ from ?_)
   refine AWP.seq' ?_
   refine AWP.reg' λK hK=>?_
   try simp only[stepS,stepD,stepM,eq_self,implies_true,forall_eq_or_imp,forall_eq,Nat.reduceEqDiff,↓reduceIte,Nat.reduceAdd,Nat.reduceLeDiff,Nat.reduceSub,Nat.reduceMul,Nat.reduceLT,Int.reduceBEq,Int.reduceBNe,Int.reduceToNat,Int.reduceLT,Int.reduceLE,Int.reduceAdd,Int.reduceSub,Int.reduceMul,reduceCtorEq,qb]
   refine hK _ _ _ ?_
   clear hK K
   refine(show AWP _ _ _ _ _ _ from ?_)
   refine AWP.ret (fin_weak (Weak.giveT (es:=(t.rs.foldl (rkO A N) ([],[])).1.map Rnk.v) 4 b (by simp only[upd_ap];rfl) kb (pureBL_ok (pureBL_map (λ_=>rfl) _))) (fin_ret rfl rfl trivial))
def cf12:AF:=
 ⟨55,2,[.tmp 4,.tmp 5],
 .seq (.reg [⟨(some 2),.box (.t 0),none⟩,⟨(some 3),.box (.t 1),none⟩,⟨(some 4),.move (.c (.sl 0 [] true)),none⟩,⟨(some 5),.move (.c (.val (.int .i64 0))),none⟩])
 (.seq (.reg [⟨(some 17),.load true 2 (.t 2),none⟩,⟨(some 18),.load true 4 (.t 3),none⟩,⟨(some 19),.call (.c (.func 47 [])) [(.t 17),(.t 18)],none⟩,⟨(some 16),.move (.t 19),none⟩,⟨(some 20),.ext 0 (.t 16),none⟩,⟨(some 21),.ext 1 (.t 16),none⟩,⟨(some 22),.ext 2 (.t 16),none⟩,⟨(some 23),.ext 3 (.t 16),none⟩,⟨(some 7),.box (.c (.agg [(.sl 0 [] true),(.sl 0 [] true)])),none⟩,⟨(some 6),.move (.t 20),none⟩,⟨none,.store 2 (.t 7) (.t 21),none⟩,⟨(some 8),.move (.t 22),none⟩,⟨(some 9),.move (.t 23),none⟩])
 (.seq (.seq (.reg [⟨(some 24),.move (.t 9),none⟩,⟨(some 25),.bin .neq (.t 24) (.c (.val (.int .i64 0))),none⟩])
 (.cond (.t 25) (.seq (.reg [⟨(some 26),.move (.t 9),none⟩,⟨(some 4),.move (.c (.sl 0 [] true)),none⟩,⟨(some 5),.move (.t 26),none⟩])
 (.ret)) (.skip)))
 (.seq (.reg [⟨(some 27),.load true 2 (.t 7),none⟩,⟨(some 28),.move (.t 8),none⟩,⟨(some 29),.call (.c (.func 49 [])) [(.t 27),(.t 28)],none⟩,⟨(some 10),.box (.c (.val (.map none))),none⟩,⟨none,.store 1 (.t 10) (.t 29),none⟩])
 (.seq (.seq (.reg [⟨(some 30),.move (.t 6),none⟩,⟨(some 31),.bin .eql (.t 30) (.c (.val (.int .i64 1))),none⟩])
 (.cond (.t 31) (.reg [⟨(some 32),.load false 1 (.t 10),none⟩,⟨(some 33),.call (.c (.func 50 [])) [(.t 32)],none⟩,⟨none,.store 1 (.t 10) (.t 33),none⟩]) (.skip)))
 (.seq (.reg [⟨(some 34),.mkm none,none⟩,⟨(some 11),.box (.c (.val (.map none))),none⟩,⟨none,.store 1 (.t 11) (.t 34),none⟩])
 (.seq (.reg [⟨(some 12),.box (.c (.val (.nilFunc))),none⟩])
 (.seq (.reg [⟨(some 35),.mkf 51 [(.t 11),(.t 10),(.t 12)],none⟩,⟨none,.store 1 (.t 12) (.t 35),none⟩])
 (.seq (.reg [⟨(some 13),.move (.c (.sl 0 [] true)),none⟩])
 (.seq (.seq (.reg [⟨(some 36),.faddr 0 (.t 2),none⟩,⟨(some 37),.load false 1 (.t 36),none⟩,⟨(some 38),.len (.t 37),none⟩,⟨(some 39),.move (.c (.val (.int .i64 0))),none⟩])
 (.block 0 (.loop (.seq (.reg [⟨(some 40),.bin .lss (.t 39) (.t 38),none⟩])
 (.seq (.cond (.t 40) (.skip) (.exit 0))
 (.seq (.block 1 (.seq (.reg [⟨(some 41),.iaddr 2 (.t 37) (.t 39),none⟩,⟨(some 42),.load true 2 (.t 41),none⟩,⟨(some 15),.box (.c (.agg [(.val (.int .i64 0)),(.val (.bool false))])),none⟩,⟨none,.store 2 (.t 15) (.t 42),none⟩])
 (.dreg [⟨(some 43),.move (.t 13),none⟩,⟨(some 44),.faddr 0 (.t 15),none⟩,⟨(some 45),.load false 1 (.t 44),none⟩,⟨(some 46),.load false 1 (.t 12),none⟩,⟨(some 47),.faddr 0 (.t 15),none⟩,⟨(some 48),.load false 1 (.t 47),none⟩,⟨(some 49),.call (.t 46) [(.t 48)],none⟩,⟨(some 50),.build [(.val (.int .i64 0)),(.val (.int .i64 0))] [(0,1,(.t 45)),(1,1,(.t 49))],none⟩,⟨(some 51),.lit 2 1 (.agg [(.val (.int .i64 0)),(.val (.int .i64 0))]) [(0,(.t 50))],none⟩,⟨(some 52),.append 2 16 (.t 43) (.t 51),none⟩,⟨(some 13),.move (.t 52),none⟩] [(2,3),(2,5),(3,5),(2,6)])))
 (.reg [⟨(some 53),.bin .add (.t 39) (.c (.val (.int .i64 1))),none⟩,⟨(some 39),.move (.t 53),none⟩])))))))
 (.seq (.reg [⟨(some 54),.move (.t 13),none⟩,⟨(some 4),.move (.t 54),none⟩,⟨(some 5),.move (.c (.val (.int .i64 0))),none⟩])
 (.ret)))))))))))⟩
theorem cf12_ok:cFunc Tryz.prog Tryz.f12=some cf12:=by kernel_rfl
theorem Weak.giveBox{k n:Nat}{tm:Nat→AV}{hp:Hp}{nx:Nat}{kq:Option Nat}{ks:List MK}{vs:List AV}(b0 b:Nat)(h0:hp b0=some (.box (.mref b)))(hb:hp b=some (.map kq ks vs))(hx:pureL vs) :
  Weak k n ⟨tm,hp,nx⟩ ⟨tm,upd (upd hp b none) b0 (some (.box (.mp kq ks vs))),nx⟩:=by
 have hne:b0≠b:=λe=>by subst e;rw[h0]at hb;cases hb
 refine Weak.give b rfl (λu=>.inr Give.refl) (λb' x hx'=>?_) (by show hp b≠none;rw[hb];simp)
 have hx':upd (upd hp b none) b0 (some (.box (.mp kq ks vs))) b'=some x:=hx'
 by_cases e:b'=b0
 ·subst e;rw[upd_same]at hx';cases hx'
  exact⟨hne,.inr ⟨_,_,h0,rfl,rfl,Give.map hb hx⟩⟩
 ·rw[upd_ne _ _ e]at hx'
  by_cases e2:b'=b
  ·subst e2;rw[upd_same]at hx';cases hx'
  ·rw[upd_ne _ _ e2]at hx';exact⟨e2,.inl hx'⟩
theorem Weak.up{k n:Nat}{tm:Nat→AV}{hp:Hp}{nx nx':Nat}(h:nx≤nx'):Weak k n ⟨tm,hp,nx⟩ ⟨tm,hp,nx'⟩:=by
 rintro P c a w ⟨h0,A,μ,H⟩
 exact⟨h0,A,μ,H.free λb hb=>Nat.le_trans h hb⟩
theorem call_newM{P:Program}{fid:FuncId}{n f:Nat}{args:List AV}{L:Rws}{hp:Hp}(hs:HSpec P fid args [] (.mref 0) [some (frzR L)])(hf:FnOk P fid)(h1:pureL args):CallOk P n fid args f hp [] (.mref f) (effL [(f,some (frzR L))]):=by
 have key:=CallOk.hand (n:=n) (f:=f) (hp:=hp) hf hs [] rfl (by simp) (belL_pure h1) (λi c y e1 e2=>by simp at e1) (by simp) (by simp) (show(0:Nat)<1 by omega) (λy hy=>by simp at hy;subst hy;exact belL_pure (frz_pure _))
 have e0:piOf [] f 0=f:=rfl
 have e1:(frzR L).ren (piOf [] f)=frzR L:=by unfold frzR;rw[Blk.ren,renL_pure _ (frz_pure _)]
 have e3:handEff [] f [some (frzR L)]=effL [(f,some (frzR L))]:=by simp[handEff,List.zipIdx,e0,e1]
 rw[e3]at key
 simpa only[renL_pure _ h1,AV.ren,e0]using key
def TOk(L:Rws)(is:List Nat):Prop:=is.Nodup∧(∀i∈is,i<L.length)∧∀i,i<L.length→i∈is
theorem CallE.mono{P:Program}{n f:Nat}{fid:FuncId}{args:List AV}{hp:Hp}{foot:List Nat}{Q Q':AV→Eff→Prop}(h:CallE P n fid args f hp foot Q)(hq:∀v e,Q v e→Q' v e):CallE P n fid args f hp foot Q':=
 ⟨h.1,λc A μ fr tm' hp' a w cargs h1 h2 h3 h4=>(h.2 c A μ fr tm' hp' a w cargs h1 h2 h3 h4).mono λe' w'=>by rintro⟨v,e,q,r⟩;exact⟨v,e,hq v e q,r⟩⟩
theorem callE_turned{L:Rws}(hL:RwsOk L){n f b:Nat}{hp:Hp}(hb:hp b=some (frzR L)) :
  CallE Tryz.prog n 50 [.mref b] f hp [b] (λv e=>∃is,TOk L is∧v=.mref f∧e=effL [(b,none),(f,some (frzR (trnL L is)))]):=by
 have e0:piOf [b] f 0=b:=rfl
 have e1:piOf [b] f 1=f:=rfl
 have rn:∀L,(frzR L).ren (piOf [b] f)=frzR L:=λL=>by unfold frzR;rw[Blk.ren,renL_pure _ (frz_pure _)]
 have key:=CallE.hand (n:=n) (f:=f) (hp:=hp) ⟨_,Tryz.func50,by kernel_rfl,by kernel_rfl⟩ (turned_E L hL) [b] rfl (by simp) ⟨show(0:Nat)<1 by omega,trivial⟩ (λi c y h1 h2=>by
  match i with
  | 0=>cases h1;cases h2;exact⟨belL_pure (frz_pure _),hb.trans (congrArg some (rn L).symm)⟩
  | i+1=>simp at h1) (λr h'=>by
   rintro⟨is,_,_,_,rfl,rfl⟩
   exact⟨by simp,by simp,show(1:Nat)<2 by omega,λx hx=>by simp at hx;subst hx;exact belL_pure (frz_pure _)⟩)
 refine CallE.mono (by simpa only[renL,AV.ren,e0]using key) ?_
 rintro v e ⟨r,h',⟨is,i1,i2,i3,rfl,rfl⟩,rfl,rfl⟩
 refine⟨is,⟨i1,i2,i3⟩,by rw[AV.ren,e1],?_⟩
 simp[handEff,List.zipIdx,e0,e1,rn]
def MsrOk(t:Tpl)(A:Rws)(R:List Rnk):Prop:=∃(D:Int→Nat) (N:Nat),(∀p∈A,p.2.length≤1000000)∧(∀r x,x∈mval A r []→D x<D r)∧(∀r,D r<N)∧R=(t.rs.foldl (rkO A N) ([],[])).1
theorem ranks_S(t:Tpl)(c:Chg)(R:List Rnk)(hb:(redT t c).2.2.2=0→t.rs.length≤1000∧(redT t c).2.2.1.length≤1000∧RwsOk (behT (redT t c).2.1 (redT t c).2.2.1))
    (h2:(redT t c).2.2.2=0→¬(redT t c).1=1→MsrOk t (behT (redT t c).2.1 (redT t c).2.2.1) R)
    (h1:(redT t c).2.2.2=0→(redT t c).1=1→∀is,TOk (behT (redT t c).2.1 (redT t c).2.2.1) is→MsrOk t (trnL (behT (redT t c).2.1 (redT t c).2.2.1) is) R)
    (hR:¬(redT t c).2.2.2=0→R=[]):HSpec Tryz.prog 12 [Tpl.v t,Chg.v c] [] (.tup [.sl 2 (R.map Rnk.v) false,.int (redT t c).2.2.2]) []:=by
  refine HSpec.walk Tryz.func12 cf12_ok (by simp[cf12]) ?_
  unfold cf12
  simp only[initT,initH,List.length_cons,List.length_nil]
  have hred:PSpec Tryz.prog (redP_c t c).f [Tpl.v t,Chg.v c] (.tup [.int (redT t c).1,Tpl.v (redT t c).2.1,.sl 2 ((redT t c).2.2.1.map Hop.v) false,.int (redT t c).2.2.2]):=(redP_c t c).ok
  generalize redT t c=q at *
  obtain⟨kd,g,ds,er⟩:=q
  simp only at hb h2 h1 hR hred ⊢
  refine AWP.seq' ?_
  refine AWP.reg' λK hK=>?_
  try simp only[stepS,stepD,stepM,eq_self,implies_true,forall_eq_or_imp,forall_eq,Nat.reduceEqDiff,↓reduceIte,Nat.reduceAdd,Nat.reduceLeDiff,Nat.reduceSub,Nat.reduceMul,Nat.reduceLT,Int.reduceBEq,Int.reduceBNe,Int.reduceToNat,Int.reduceLT,Int.reduceLE,Int.reduceAdd,Int.reduceSub,Int.reduceMul,reduceCtorEq]
  refine⟨rfl,rfl,?_⟩
  refine hK _ _ _ ?_
  clear hK K
  refine AWP.seq' ?_
  refine AWP.reg' λK hK=>?_
  try simp only[stepS,stepD,stepM,eq_self,implies_true,forall_eq_or_imp,forall_eq,Nat.reduceEqDiff,↓reduceIte,Nat.reduceAdd,Nat.reduceLeDiff,Nat.reduceSub,Nat.reduceMul,Nat.reduceLT,Int.reduceBEq,Int.reduceBNe,Int.reduceToNat,Int.reduceLT,Int.reduceLE,Int.reduceAdd,Int.reduceSub,Int.reduceMul,reduceCtorEq,Tpl.v,Chg.v]
  refine evT_pure hred (redP_c t c).fn rfl rfl ⟨⟨trivial,trivial,trivial⟩,⟨trivial,trivial,trivial,trivial,trivial⟩,trivial⟩ ?_
  try simp only[stepS,stepD,stepM,eq_self,implies_true,forall_eq_or_imp,forall_eq,Nat.reduceEqDiff,↓reduceIte,Nat.reduceAdd,Nat.reduceLeDiff,Nat.reduceSub,Nat.reduceMul,Nat.reduceLT,Int.reduceBEq,Int.reduceBNe,Int.reduceToNat,Int.reduceLT,Int.reduceLE,Int.reduceAdd,Int.reduceSub,Int.reduceMul,reduceCtorEq,Tpl.v]
  refine hK _ _ _ ?_
  clear hK K
  refine AWP.seq' (AWP.seq' ?_)
  refine AWP.reg' λK hK=>?_
  try simp only[stepS,stepD,stepM,eq_self,implies_true,forall_eq_or_imp,forall_eq,Nat.reduceEqDiff,↓reduceIte,Nat.reduceAdd,Nat.reduceLeDiff,Nat.reduceSub,Nat.reduceMul,Nat.reduceLT,Int.reduceBEq,Int.reduceBNe,Int.reduceToNat,Int.reduceLT,Int.reduceLE,Int.reduceAdd,Int.reduceSub,Int.reduceMul,reduceCtorEq]
  refine hK _ _ _ ?_
  clear hK K
  by_cases he:er=0
  case neg =>
    refine AWP.cond (b := true) (by have : (er != 0) = true := by simpa using he
                                    rw[←this];rfl) (λ_=>?_) (λh=>by cases h)
    refine AWP.seq' ?_
    refine AWP.reg' λK hK=>?_
    try simp only[stepS,stepD,stepM,eq_self,implies_true,forall_eq_or_imp,forall_eq,Nat.reduceEqDiff,↓reduceIte,Nat.reduceAdd,Nat.reduceLeDiff,Nat.reduceSub,Nat.reduceMul,Nat.reduceLT,Int.reduceBEq,Int.reduceBNe,Int.reduceToNat,Int.reduceLT,Int.reduceLE,Int.reduceAdd,Int.reduceSub,Int.reduceMul,reduceCtorEq]
    refine hK _ _ _ ?_
    clear hK K
    rw[hR he]
    refine AWP.ret (fin_weak (Weak.subT 4 (y:=.sl 2 [] false) Sub.nil) (fin_ret rfl rfl trivial))
  subst he
  obtain⟨b1,b2,b3⟩:=hb rfl
  refine AWP.cond (b:=false) rfl (λh=>by cases h) (λ_=>AWP.skip ?_)
  refine(show AWP _ _ _ _ _ _ from ?_)
  refine AWP.seq' ?_
  refine AWP.reg' λK hK=>?_
  try simp only[stepS,stepD,stepM,eq_self,implies_true,forall_eq_or_imp,forall_eq,Nat.reduceEqDiff,↓reduceIte,Nat.reduceAdd,Nat.reduceLeDiff,Nat.reduceSub,Nat.reduceMul,Nat.reduceLT,Int.reduceBEq,Int.reduceBNe,Int.reduceToNat,Int.reduceLT,Int.reduceLE,Int.reduceAdd,Int.reduceSub,Int.reduceMul,reduceCtorEq,Tpl.v]
  refine evT_call rfl (by rfl) (call_newM (behind_S g ds b2) ⟨_,Tryz.func49,by kernel_rfl,by kernel_rfl⟩ ⟨⟨trivial,trivial,trivial⟩,trivial,trivial⟩) ?_
  rw[hpEff_one]
  try simp only[stepS,stepD,stepM,eq_self,implies_true,forall_eq_or_imp,forall_eq,Nat.reduceEqDiff,↓reduceIte,Nat.reduceAdd,Nat.reduceLeDiff,Nat.reduceSub,Nat.reduceMul,Nat.reduceLT,Int.reduceBEq,Int.reduceBNe,Int.reduceToNat,Int.reduceLT,Int.reduceLE,Int.reduceAdd,Int.reduceSub,Int.reduceMul,reduceCtorEq]
  refine hK _ _ _ ?_
  clear hK K
  refine AWP.seq' (AWP.seq' ?_)
  refine AWP.reg' λK hK=>?_
  try simp only[stepS,stepD,stepM,eq_self,implies_true,forall_eq_or_imp,forall_eq,Nat.reduceEqDiff,↓reduceIte,Nat.reduceAdd,Nat.reduceLeDiff,Nat.reduceSub,Nat.reduceMul,Nat.reduceLT,Int.reduceBEq,Int.reduceBNe,Int.reduceToNat,Int.reduceLT,Int.reduceLE,Int.reduceAdd,Int.reduceSub,Int.reduceMul,reduceCtorEq]
  refine hK _ _ _ ?_
  clear hK K
  have fin:∀(A:Rws) (tm':Nat→AV) (hp':Hp) (nx' b:Nat),nx'≤1000→MsrOk t A R→tm' 2=.ref 0 0→tm' 10=.ref 352 0→hp' 0=some (.box (Tpl.v t))→hp' 352=some (.box (.mref b))→hp' b=some (frzR A) →
      AWP Tryz.prog 0 55 rk_t (Am.fin 0 55 [.tmp 4,.tmp 5] (.tup [.sl 2 (R.map Rnk.v) false,.int 0]) []) ⟨tm',hp',nx'⟩:=by
    rintro A tm' hp' nx' b hn ⟨D,N,m1,m2,m3,rfl⟩ t2 t10 k0 k10 kb
    refine AWP.weak ((Weak.giveBox 352 b k10 kb (frz_pure _)).trans (Weak.up hn)) ?_
    refine rk_tail t A D N m1 m2 m3 b1 _ _ t2 ?_ t10 ?_
    · have e1:(0:Nat)≠b:=λe=>by subst e;rw[k0]at kb;cases kb
      simp only[upd_ap,if_neg e1];exact k0
    · simp only[upd_ap,↓reduceIte]
  by_cases hk:kd=1
  · refine AWP.cond (b:=true) (by subst hk;rfl) (λ_=>?_) (λh=>by cases h)
    refine AWP.regE (os1:=[_]) (os2:=[_]) ?_
    try simp only[stepS,stepD,stepM,eq_self,implies_true,forall_eq_or_imp,forall_eq,Nat.reduceEqDiff,↓reduceIte,Nat.reduceAdd,Nat.reduceLeDiff,Nat.reduceSub,Nat.reduceMul,Nat.reduceLT,Int.reduceBEq,Int.reduceBNe,Int.reduceToNat,Int.reduceLT,Int.reduceLE,Int.reduceAdd,Int.reduceSub,Int.reduceMul,reduceCtorEq]
    refine⟨_,[],[336],_,rfl,callE_turned b3 rfl,?_⟩
    rintro v e ⟨is,hi,rfl,rfl⟩
    rw[hpEff_cons,hpEff_one]
    try simp only[stepS,stepD,stepM,eq_self,implies_true,forall_eq_or_imp,forall_eq,Nat.reduceEqDiff,↓reduceIte,Nat.reduceAdd,Nat.reduceLeDiff,Nat.reduceSub,Nat.reduceMul,Nat.reduceLT,Int.reduceBEq,Int.reduceBNe,Int.reduceToNat,Int.reduceLT,Int.reduceLE,Int.reduceAdd,Int.reduceSub,Int.reduceMul,reduceCtorEq]
    refine(show AWP _ _ _ _ _ _ from ?_)
    exact fin (trnL (behT g ds) is) _ _ _ 432 (by omega) (h1 rfl hk is hi) rfl rfl rfl rfl rfl
  · refine AWP.cond (b := false) (by have : (kd == 1) = false := by simpa using hk
                                     rw[←this];rfl) (λh=>by cases h) (λ_=>AWP.skip ?_)
    exact fin _ _ _ _ 336 (by omega) (h2 rfl hk) rfl rfl rfl rfl rfl
theorem cos_low{t:Tpl}(hc:chk5 t=0){g u n:Int}{k:Nat}(hg:has5 t g=true)(p:Pth t g k u n):∃m,m≤n∧cos6 t u g=(m,true):=by
 have hk:g∈mkeys (inG t):=by unfold inG;rw[grh_keys,keys_has];exact hg
 have hF:=dijT_fin (in_ok hc) hk
 obtain⟨m,hm,hx⟩:=hF.low ((in_path hc).mpr ⟨k,p⟩)
 refine⟨m,hm,?_⟩
 rw[cos_in hc,if_pos (mhas_iff.mpr ⟨m,hx⟩),mval_eq hF.nd hx]
theorem cos_pth{t:Tpl}{u g m:Int}(e:cos6 t u g=(m,true)):(∃k,Pth t g k u m)∧(∀k n,Pth t g k u n→m≤n)∧0≤m∧m≤24000:=by
 have e2:(cos6 t u g).2=true:=by rw[e]
 obtain⟨hc,hu,hg⟩:=cos6_has e2
 rw[cos_in hc]at e
 by_cases h:mhas (dijT (inG t) g) u=true
 ·rw[if_pos h]at e
  have hm:=mval_mem (z:=0) h
  have e3:mval (dijT (inG t) g) u 0=m:=(Prod.mk.inj e).1
  rw[e3]at hm
  obtain⟨h1,h2⟩:=(in_least hc hg).mp hm
  obtain⟨h3,h4⟩:=dij_pos hc hg hm
  exact⟨h1,h2,h3,h4⟩
 ·rw[if_neg h]at e;cases e
theorem pth_app{t:Tpl}{v w:Int}{j:Nat}{n:Int}(q:Pth t w j v n):∀{k:Nat} {u m:Int},Pth t v k u m→Pth t w (j+k) u (n+m):=by
 intro k u m p
 induction p with
 | nil=>simpa using q
 | cons e p ih =>
  have:=Pth.cons e ih
  rwa [Int.add_assoc]at this
theorem cos_tri{t:Tpl}{u v w a b:Int}(h1:cos6 t u v=(a,true))(h2:cos6 t v w=(b,true)):∃m,m≤a+b∧cos6 t u w=(m,true):=by
 obtain⟨⟨k,p⟩,_⟩:=cos_pth h1
 obtain⟨⟨j,q⟩,_⟩:=cos_pth h2
 obtain⟨hc,_,hw⟩:=cos6_has (t:=t) (x:=v) (y:=w) (by rw[h2])
 obtain⟨m,hm,e⟩:=cos_low hc hw (pth_app q p)
 exact⟨m,by omega,e⟩
theorem cos_edge{t:Tpl}(hc:chk5 t=0){u v c:Int}(e:Edge t u v c):∃m,m≤c∧cos6 t u v=(m,true):=by
 obtain⟨m,hm,q⟩:=cos_low hc (e.has hc).2 (Pth.cons e .nil)
 exact⟨m,by omega,q⟩
theorem cos_self{t:Tpl}{x:Int}(h:(cos6 t x x).2=true):(cos6 t x x).1=0:=by
 have e:cos6 t x x=((cos6 t x x).1,true):=Prod.ext rfl h
 obtain⟨⟨k,p⟩,h2,h3,_⟩:=cos_pth e
 have:=h2 0 0 .nil
 omega
theorem cos_eta{t:Tpl}{x y:Int}(h:(cos6 t x y).2=true):cos6 t x y=((cos6 t x y).1,true):=Prod.ext rfl h
structure BhH (g:Tpl) (h:Hop) (x y:Int):Prop where
  ne:x≠h.a
  xa:(cos6 g x h.a).2=true
  ya:(cos6 g y h.a).2=true
  xb:(cos6 g x h.b).2=true
  yb:(cos6 g y h.b).2=true
  dec:(cos6 g y h.a).1<(cos6 g x h.a).1
  lx:(cos6 g x h.a).1<(cos6 g x h.b).1
  ly:(cos6 g y h.a).1<(cos6 g y h.b).1
theorem thr_iff{t:Tpl}{x d:Int}{h:Hop}{c:Int}(hc:1≤c∧c≤1000):thrT (disT t) x d h c=true↔(cos6 t x h.a).2=true∧(cos6 t h.b d).2=true∧(cos6 t x d).2=true∧(cos6 t x h.a).1+c+(cos6 t h.b d).1=(cos6 t x d).1:=by
 unfold thrT
 obtain⟨ha,hb⟩:=h
 simp only[dis_has,dis_val,Bool.and_eq_true,beq_iff_eq]
 constructor
 ·rintro⟨h1,h2,h3⟩
  obtain⟨_,_,p1,p2⟩:=cos_pth (cos_eta h1)
  obtain⟨_,_,q1,q2⟩:=cos_pth (cos_eta h2)
  rw[W_eq (n:=(cos6 t x ha).1+c) (by omega),W_eq (by omega)]at h3
  refine⟨h1,h2,?_,h3⟩
  cases e:(cos6 t x d).2 with
  | true=>rfl
  | false=>have:=cos6_no e;omega
 ·rintro⟨h1,h2,h3,h4⟩
  obtain⟨_,_,p1,p2⟩:=cos_pth (cos_eta h1)
  obtain⟨_,_,q1,q2⟩:=cos_pth (cos_eta h2)
  refine⟨h1,h2,?_⟩
  rw[W_eq (n:=(cos6 t x ha).1+c) (by omega),W_eq (by omega),h4]
theorem beQ_bh{t:Tpl}{h:Hop}{c d x y w:Int}{M:Rws}(hc:chk5 t=0)(he:Edge t h.a h.b c)(hw:1≤w∧w≤1000)(hq:beQ t h c d x y w M=true):BhH t h x y:=by
 have hcc:=he.cost hc
 unfold beQ at hq
 simp only[Bool.and_eq_true,bne_iff_ne,ne_eq]at hq
 obtain⟨q1,q2,q3,q4,_⟩:=hq
 rw[thr_iff hw]at q2
 rw[thr_iff hcc]at q3 q4
 obtain⟨a1,a2,a3,a4⟩:=q2
 obtain⟨b1,b2,b3,b4⟩:=q3
 obtain⟨c1,c2,c3,c4⟩:=q4
 simp only at a1 a2 a4
 have a0:=cos_self a1
 have key:∀z,(cos6 t z h.a).2=true→(cos6 t z d).2=true→(cos6 t z h.a).1+c+(cos6 t h.b d).1=(cos6 t z d).1→(cos6 t z h.b).2=true∧(cos6 t z h.a).1<(cos6 t z h.b).1:=λz g1 g2 g3=>by
  obtain⟨m,hm,e⟩:=cos_edge hc he
  obtain⟨n,hn,e'⟩:=cos_tri (cos_eta g1) e
  have e2:(cos6 t z h.b).2=true:=by rw[e']
  obtain⟨k,hk,e3⟩:=cos_tri (cos_eta e2) (cos_eta b2)
  have:(cos6 t z d).1=k:=by rw[e3]
  exact⟨e2,by omega⟩
 obtain⟨x1,x2⟩:=key x b1 b3 b4
 obtain⟨y1,y2⟩:=key y c1 c3 c4
 exact⟨q1,b1,c1,x1,y1,by omega,x2,y2⟩
theorem pu_nd{M:Rws}(hn:(mkeys M).Nodup)(k v:Int):(mkeys (pu M k v)).Nodup:=mput_nodup hn
theorem pu_val{M:Rws}(hn:(mkeys M).Nodup)(k v x:Int):mval (pu M k v) x []=if x=k then mval M k []++[v]else mval M x []:=by
 have hn':=pu_nd hn k v
 by_cases e:x=k
 ·subst e
  rw[if_pos rfl]
  exact mval_eq hn' ((mput_mem hn).mpr (.inl rfl))
 ·rw[if_neg e]
  cases h:mhas M x with
  | true=>exact mval_eq hn' ((mput_mem hn).mpr (.inr ⟨mval_mem h,e⟩))
  | false =>
   rw[mval_no h]
   refine mval_no ?_
   unfold pu
   rw[mhas_put hn,h,decide_eq_false e];rfl
structure BeI (t:Tpl) (ds:List Hop) (M:Rws):Prop where
  nd:(mkeys M).Nodup
  bh:∀x y,y∈mval M x []→∃h∈ds,BhH t h x y
  ri:RowI t M
theorem BeI.pu{t:Tpl}{ds:List Hop}{M:Rws}(h:BeI t ds M){h0:Hop}{x y:Int}(hd:h0∈ds)(hb:BhH t h0 x y)(hx:has5 t x=true)(hy:has5 t y=true)(hn:y ∉ mval M x []):BeI t ds (pu M x y):=by
 refine⟨pu_nd h.nd x y,λu v hv=>?_,h.ri.pu hx hy hn⟩
 rw[pu_val h.nd]at hv
 by_cases e:u=x
 ·subst e
  rw[if_pos rfl]at hv
  rcases List.mem_append.mp hv with hv|hv
  ·exact h.bh _ _ hv
  ·rw[List.mem_singleton.mp hv];exact⟨h0,hd,hb⟩
 ·rw[if_neg e]at hv;exact h.bh _ _ hv
theorem BeI.step{t:Tpl}(hc:chk5 t=0){ds:List Hop}{M:Rws}(h:BeI t ds M){h0:Hop}{c d:Int}(hd:h0∈ds)(he:Edge t h0.a h0.b c){s:Int×Int×Int}(hx:has5 t s.1=true)(hy:has5 t s.2.1=true)(hw:1≤s.2.2∧s.2.2≤1000):BeI t ds (beI t h0 c d M s):=by
 unfold Go.Proofs.YtdoacjojljgdcaaGreat.beI
 split
 ·rename_i e
  have e':=e
  unfold beQ at e'
  simp only[Bool.and_eq_true,Bool.not_eq_true',decide_eq_false_iff_not]at e'
  exact h.pu hd (beQ_bh hc he hw e) hx hy e'.2.2.2.2
 ·exact h
theorem foldl_inv{α β:Type}(I:β→Prop)(f:β→α→β):∀(l:List α) (b:β),I b→(∀b x,x∈l→I b→I (f b x))→I (l.foldl f b)
 | [],b,h,_=>h
 | x::l,b,h,hf=>foldl_inv I f l (f b x) (hf b x (by simp) h) λb y hy hb=>hf b y (by simp[hy]) hb
theorem lst_ok{t:Tpl}(hc:chk5 t=0){l:Lnk}(hl:l∈t.ls):∀z∈lst l,has5 t z.1=true∧has5 t z.2.1=true∧1≤z.2.2∧z.2.2≤1000:=λz hz=>by
 have hO:=chk5_good hc
 obtain⟨ha,hb⟩:=hO.has l hl
 obtain⟨c1,c2,_⟩:=hO.lr l hl
 unfold cst5 at c1 c2
 simp only[Bool.and_eq_true,decide_eq_true_iff]at c1 c2
 unfold lst at hz
 simp only[List.mem_cons,List.not_mem_nil,or_false]at hz
 rcases hz with rfl|rfl
 ·exact⟨ha,hb,c1⟩
 ·exact⟨hb,ha,c2⟩
theorem behT_ok(t:Tpl)(ds:List Hop):BeI t ds (behT t ds):=by
 unfold behT
 refine foldl_inv (BeI t ds) (be4 t) ds [] ⟨List.nodup_nil,λx y h=>by rw[mval_no (by unfold mhas mkeys;simp)]at h;simp at h,⟨λp hp=>by simp at hp,λp hp=>by simp at hp,λp hp=>by simp at hp⟩⟩ λM h hh hM=>?_
 unfold be4
 split
 ·rename_i e
  have hc:=cos5_chk e
  have he:Edge t h.a h.b (cos5 t h.a h.b).1:=by
   rw[prc_edge hc]
   have:cos5 t h.a h.b=prc5 t h.a h.b:=by unfold cos5;rw[if_neg (by simp[hc])]
   rw[←this];exact Prod.ext rfl e
  refine foldl_inv (BeI t ds) _ t.rs M hM λM d _ hM=>?_
  unfold be3
  refine foldl_inv (BeI t ds) _ t.ls M hM λM l hl hM=>?_
  unfold be2
  refine foldl_inv (BeI t ds) _ (lst l) M hM λM z hz hM=>?_
  obtain⟨a1,a2,a3⟩:=lst_ok hc hl z hz
  exact hM.step hc hh he a1 a2 a3
 ·exact hM
theorem behT_no{t:Tpl}{ds:List Hop}(hc:¬chk5 t=0):behT t ds=[]:=by
 unfold behT
 refine foldl_inv (λM=>M=[]) (be4 t) ds [] rfl λM h _ hM=>?_
 unfold be4
 rw[if_neg (λe=>hc (cos5_chk e))];exact hM
theorem behT_rws(t:Tpl)(ds:List Hop):RwsOk (behT t ds):=by
 by_cases hc:chk5 t=0
 ·have h:=behT_ok t ds
  have hk:∀x,has5 t x=true→Am.inK .i64 x:=λx hx=>by
   obtain⟨r,hr,rfl⟩:=has5_iff.mp hx
   have:=(chk5_good hc).rg r hr
   rw[inK64];omega
  refine⟨?_,λp hp=>hk _ (h.ri.ky p hp),λp hp=>by have:=h.ri.len hc p hp;omega,λp hp y hy=>hk _ (h.ri.el p hp y hy)⟩
  have:=List.Nodup.length_le_of_subset h.nd (show mkeys (behT t ds) ⊆ t.rs.map (·.id)from λx hx=>by
   obtain⟨v,hv⟩:=mkeys_mem.mp hx
   exact has5_mem.mp (h.ri.ky _ hv))
  rw[List.length_map,mkeys_len]at this
  have:=(chk5_len hc).1;omega
 ·rw[behT_no hc];exact⟨by simp,λp hp=>by simp at hp,λp hp=>by simp at hp,λp hp=>by simp at hp⟩
def dsN(t:Tpl)(x a:Int):Nat:=if(cos6 t x a).2=true then(cos6 t x a).1.toNat else 100000
def msr(t:Tpl)(c:Chg)(x:Int):Nat:=min (dsN t x c.a) (dsN t x c.b)
theorem dsN_le(t:Tpl)(x a:Int):dsN t x a≤100000:=by
 unfold dsN
 split
 ·rename_i h;have:=(cos_pth (cos_eta h)).2.2;omega
 ·omega
theorem msr_le(t:Tpl)(c:Chg)(x:Int):msr t c x≤100000:=by
 unfold msr;have:=dsN_le t x c.a;omega
theorem msr_dec{t:Tpl}{c:Chg}{h:Hop}(hh:h∈hopsC c){x y:Int}(hb:BhH t h x y):msr t c y<msr t c x:=by
 obtain⟨_,xa,ya,xb,yb,d,lx,ly⟩:=hb
 have p1:=(cos_pth (cos_eta xa)).2.2
 have p2:=(cos_pth (cos_eta ya)).2.2
 have p3:=(cos_pth (cos_eta xb)).2.2
 have p4:=(cos_pth (cos_eta yb)).2.2
 have e1:dsN t x h.a=(cos6 t x h.a).1.toNat:=if_pos xa
 have e2:dsN t y h.a=(cos6 t y h.a).1.toNat:=if_pos ya
 have e3:dsN t x h.b=(cos6 t x h.b).1.toNat:=if_pos xb
 have e4:dsN t y h.b=(cos6 t y h.b).1.toNat:=if_pos yb
 unfold hopsC at hh
 simp only[List.mem_cons,List.not_mem_nil,or_false]at hh
 unfold msr
 rcases hh with rfl|rfl
 ·simp only at e1 e2 e3 e4 d lx ly p1 p2 p3 p4;omega
 ·simp only at e1 e2 e3 e4 d lx ly p1 p2 p3 p4;omega
def mxL(g:Int→Int)(l:List Int)(n:Int):Int:=l.foldl (λn x=>maxI n (g x)) n
theorem maxI_le(a b:Int):a≤maxI a b∧b≤maxI a b∧(maxI a b=a∨maxI a b=b):=by
 unfold maxI;split<;>omega
theorem mxL_ok(g:Int→Int):∀(l:List Int) (n:Int),n≤mxL g l n∧(∀x∈l,g x≤mxL g l n)∧(mxL g l n=n∨∃x∈l,mxL g l n=g x)
 | [],n=>⟨Int.le_refl _,λx hx=>by simp at hx,.inl rfl⟩
 | x::l,n=>by
  obtain⟨h1,h2,h3⟩:=mxL_ok g l (maxI n (g x))
  obtain⟨m1,m2,m3⟩:=maxI_le n (g x)
  have e:mxL g (x::l) n=mxL g l (maxI n (g x)):=rfl
  rw[e]
  refine⟨by omega,λy hy=>?_,?_⟩
  ·rcases List.mem_cons.mp hy with rfl|hy
   ·omega
   ·exact h2 y hy
  ·rcases h3 with h3|⟨y,hy,h3⟩
   ·rcases m3 with m3|m3
    ·exact .inl (by omega)
    ·exact .inr ⟨x,by simp,by omega⟩
   ·exact .inr ⟨y,by simp[hy],h3⟩
theorem mxL_eq{g g':Int→Int}{l l':List Int}(n:Int)(hm:∀x,x∈l↔x∈l')(hg:∀x∈l,g x=g' x):mxL g l n=mxL g' l' n:=by
 obtain⟨a1,a2,a3⟩:=mxL_ok g l n
 obtain⟨b1,b2,b3⟩:=mxL_ok g' l' n
 refine Int.le_antisymm ?_ ?_
 ·rcases a3 with a3|⟨x,hx,a3⟩
  ·omega
  ·have:=b2 x ((hm x).mp hx);rw[←hg x hx]at this;omega
 ·rcases b3 with b3|⟨x,hx,b3⟩
  ·omega
  ·have h':=(hm x).mpr hx
   have:=a2 x h';rw[hg x h']at this;omega
def rkP(A:Rws):Nat→Int→Int
 | 0,_=>0
 | f+1,r=>mxL (λx=>W (1+rkP A f x)) (mval A r []) 0
theorem rkP_fuel{A:Rws}{D:Int→Nat}(hD:∀r x,x∈mval A r []→D x<D r):∀(f g:Nat) (r:Int),D r<f→D r<g→rkP A f r=rkP A g r
 | 0,_,r,h,_=>absurd h (by omega)
 | _,0,r,_,h=>absurd h (by omega)
 | f+1,g+1,r,h1,h2=>by
  unfold rkP
  exact mxL_eq 0 (λ_=>Iff.rfl) λx hx=>by have:=hD r x hx;rw[rkP_fuel hD f g x (by omega) (by omega)]
theorem rkP_mem{A A':Rws}(h:∀r x,x∈mval A r []↔x∈mval A' r []):∀(f:Nat) (r:Int),rkP A f r=rkP A' f r
 | 0,_=>rfl
 | f+1,r=>by
  unfold rkP
  exact mxL_eq 0 (h r) λx _=>by rw[rkP_mem h f x]
structure KnOk (A:Rws) (N:Nat) (kn:Dis):Prop where
  nd:(mkeys kn).Nodup
  val:∀p∈kn,p.2=rkP A N p.1
theorem rkF_ok{A:Rws}{D:Int→Nat}(hD:∀r x,x∈mval A r []→D x<D r)(N:Nat)(hN:∀r,D r<N):∀(f:Nat) (r:Int) (kn:Dis),D r<f→KnOk A N kn→(rkF A f r kn).1=rkP A N r∧KnOk A N (rkF A f r kn).2
 | 0,r,kn,h,_=>absurd h (by omega)
 | f+1,r,kn,h,hk=>by
  have ih:=rkF_ok hD N hN f
  unfold rkF
  split
  ·rename_i e
   exact⟨hk.val _ (mval_mem e),hk⟩
  ·have key:∀(l:List Int) (n:Int) (kn:Dis),(∀x∈l,x∈mval A r [])→KnOk A N kn→(l.foldl (rkS (rkF A f)) (n,kn)).1=mxL (λx=>W (1+rkP A N x)) l n∧KnOk A N (l.foldl (rkS (rkF A f)) (n,kn)).2:=λl=>by
    induction l with
    | nil=>intro n kn _ hk;exact⟨rfl,hk⟩
    | cons x l ihl =>
     intro n kn hl hk
     have hx:=hD r x (hl x (by simp))
     obtain⟨g1,g2⟩:=ih x kn (by omega) hk
     have e:rkS (rkF A f) (n,kn) x=(maxI n (W (1+rkP A N x)),(rkF A f x kn).2):=by unfold rkS;simp only;rw[g1]
     rw[List.foldl_cons,e]
     exact ihl _ _ (λy hy=>hl y (by simp[hy])) g2
   obtain⟨k1,k2⟩:=key (mval A r []) 0 kn (λx hx=>hx) hk
   have e2:rkP A N r=mxL (λx=>W (1+rkP A N x)) (mval A r []) 0:=by
    have hr:=hN r
    match N,hr with
    | N+1,hr =>
     rw[rkP]
     exact mxL_eq 0 (λ_=>Iff.rfl) λx hx=>by have:=hD r x hx;rw[rkP_fuel hD N (N+1) x (by omega) (by omega)]
   refine⟨by rw[e2];exact k1,mput_nodup k2.nd,λp hp=>?_⟩
   rcases(mput_mem k2.nd).mp hp with rfl|⟨hp,_⟩
   ·simp only;rw[e2];exact k1
   ·exact k2.val p hp
theorem rkO_eq{A:Rws}{D:Int→Nat}(hD:∀r x,x∈mval A r []→D x<D r)(N:Nat)(hN:∀r,D r<N):∀(l:List Rtr) (s:List Rnk×Dis),KnOk A N s.2→(l.foldl (rkO A N) s).1=s.1++l.map λr=>⟨r.id,rkP A N r.id⟩
 | [],s,_=>by simp
 | r::l,s,h=>by
  obtain⟨g1,g2⟩:=rkF_ok hD N hN N r.id s.2 (hN _) h
  rw[List.foldl_cons,rkO_eq hD N hN l (rkO A N s r) g2]
  unfold rkO
  simp only[List.map_cons,List.append_assoc,List.cons_append,List.nil_append,g1]
theorem msr_ok{t:Tpl}{A:Rws}{D:Int→Nat}{N:Nat}(hA:∀p∈A,p.2.length≤1000000)(hD:∀r x,x∈mval A r []→D x<D r)(hN:∀r,D r<N):MsrOk t A (t.rs.map λr=>⟨r.id,rkP A N r.id⟩):=
 ⟨D,N,hA,hD,hN,by rw[rkO_eq hD N hN t.rs ([],[]) ⟨List.nodup_nil,λp hp=>by simp at hp⟩];rfl⟩
theorem trn1_ok(x:Int):∀(l:List Int) (M:Rws) (m:Nat),(mkeys M).Nodup→(∀p∈M,p.2.length≤m)→(mkeys (trn1 x M l)).Nodup∧(∀p∈trn1 x M l,p.2.length≤m+l.length)∧∀y z,z∈mval (trn1 x M l) y []↔z∈mval M y []∨z=x∧y∈l
 | [],M,m,hn,hm=>⟨hn,λp hp=>by have:=hm p hp;simpa using this,λy z=>by simp[trn1]⟩
 | v::l,M,m,hn,hm=>by
  obtain⟨g1,g2,g3⟩:=trn1_ok x l (pu M v x) (m+1) (pu_nd hn v x) (pu_len hm v x)
  have e:trn1 x M (v::l)=trn1 x (pu M v x) l:=rfl
  rw[e]
  refine⟨g1,λp hp=>by have:=g2 p hp;rw[List.length_cons];omega,λy z=>?_⟩
  rw[g3,pu_val hn]
  by_cases e:y=v
  ·subst e;rw[if_pos rfl];simp[or_assoc];constructor
   ·rintro(h|h|h)
    ·exact .inl h
    ·exact .inr h
    ·exact .inr h.1
   ·rintro(h|h)
    ·exact .inl h
    ·exact .inr (.inl h)
  ·rw[if_neg e];simp[e]
theorem trnL_ok{L:Rws}(hr:∀p∈L,p.2.length≤100):∀(is:List Nat) (M:Rws) (m:Nat),(mkeys M).Nodup→(∀p∈M,p.2.length≤m)→(∀i∈is,i<L.length) →
  (mkeys (is.foldl (λM i=>trn1 (L.getD i (0,[])).1 M (L.getD i (0,[])).2) M)).Nodup∧(∀p∈is.foldl (λM i=>trn1 (L.getD i (0,[])).1 M (L.getD i (0,[])).2) M,p.2.length≤m+100 * is.length) ∧
  ∀y z,z∈mval (is.foldl (λM i=>trn1 (L.getD i (0,[])).1 M (L.getD i (0,[])).2) M) y []↔z∈mval M y []∨∃i∈is,∃l,L[i]?=some (z,l)∧y∈l
 | [],M,m,hn,hm,_=>⟨hn,λp hp=>by have:=hm p hp;simpa using this,λy z=>by simp⟩
 | i::is,M,m,hn,hm,hi=>by
  have hil:=hi i (by simp)
  have hg:L[i]?=some L[i]:=List.getElem?_eq_getElem hil
  have hgd:L.getD i (0,[])=L[i]:=by rw[List.getD_eq_getElem?_getD,hg];rfl
  have hlen:=hr _ (List.mem_of_getElem? hg)
  obtain⟨g1,g2,g3⟩:=trn1_ok (L.getD i (0,[])).1 (L.getD i (0,[])).2 M m hn hm
  obtain⟨k1,k2,k3⟩:=trnL_ok hr is _ _ g1 g2 (λj hj=>hi j (by simp[hj]))
  rw[List.foldl_cons]
  refine⟨k1,λp hp=>by have:=k2 p hp;rw[hgd]at this;rw[List.length_cons];omega,λy z=>?_⟩
  rw[k3,g3,hgd]
  constructor
  ·rintro((h|⟨rfl,h⟩)|⟨j,hj,l,h1,h2⟩)
   ·exact .inl h
   ·exact .inr ⟨i,by simp,L[i].2,by rw[hg],h⟩
   ·exact .inr ⟨j,by simp[hj],l,h1,h2⟩
  ·rintro(h|⟨j,hj,l,h1,h2⟩)
   ·exact .inl (.inl h)
   ·rcases List.mem_cons.mp hj with rfl|hj
    ·rw[hg]at h1
     have e:=Option.some.inj h1
     rw[e]
     exact .inl (.inr ⟨rfl,h2⟩)
    ·exact .inr ⟨j,hj,l,h1,h2⟩
theorem turn_mem{L:Rws}(hL:RwsOk L)(hn:(mkeys L).Nodup){is:List Nat}(hi:TOk L is):(∀p∈trnL L is,p.2.length≤1000000)∧∀y z,z∈mval (trnL L is) y []↔y∈mval L z []:=by
 obtain⟨i1,i2,i3⟩:=hi
 obtain⟨_,k2,k3⟩:=trnL_ok hL.row is [] 0 List.nodup_nil (λp hp=>by simp at hp) i2
 have hl:=List.Nodup.length_le_of_subset i1 (show is ⊆ List.range L.length from λa ha=>List.mem_range.mpr (i2 a ha))
 rw[List.length_range]at hl
 have:=hL.len
 refine⟨λp hp=>by have:=k2 p hp;omega,λy z=>(k3 y z).trans ?_⟩
 constructor
 ·rintro(h|⟨i,hi,l,h1,h2⟩)
  ·rw[mval_no (by unfold mhas mkeys;simp)]at h;simp at h
  ·rw[mval_eq hn (List.mem_of_getElem? h1)];exact h2
 ·intro h
  refine .inr ?_
  cases e:mhas L z with
  | false=>rw[mval_no e]at h;simp at h
  | true =>
   obtain⟨i,hi⟩:=List.mem_iff_getElem?.mp (mval_mem (z:=[]) e)
   exact⟨i,i3 i (lt_of_get hi),_,hi,h⟩
theorem redT_ok{t:Tpl}{c:Chg}(h:(redT t c).2.2.2=0):chk5 t=0∧(aplT t c).2=0∧(∀x∈(redT t c).2.2.1,x∈hopsC c)∧(redT t c).2.2.1.length≤2∧((redT t c).2.1=t∨(redT t c).2.1=(aplT t c).1):=by
 have e:(aplT t c).2=0:=by
  refine Classical.byContradiction λq=>?_
  unfold redT at h
  rw[if_pos q]at h;exact q h
 have hc:chk5 t=0:=by
  refine Classical.byContradiction λq=>?_
  unfold aplT at e
  rw[if_pos q]at e;cases e
 have hl:((hopsC c).filter (chH t (aplT t c).1)).length≤2:=List.length_filter_le _ _
 refine⟨hc,e,?_⟩
 unfold redT at h ⊢
 rw[if_neg (by simp[e])]at h ⊢
 split
 ·rename_i q;rw[if_pos q]at h;cases h
 ·split
  ·exact⟨λx hx=>(List.mem_filter.mp hx).1,hl,.inr rfl⟩
  ·exact⟨λx hx=>(List.mem_filter.mp hx).1,hl,.inl rfl⟩
def rnkA(t:Tpl)(c:Chg):Rws:=if(redT t c).1=1 then trnL (behT (redT t c).2.1 (redT t c).2.2.1) (List.range (behT (redT t c).2.1 (redT t c).2.2.1).length)else behT (redT t c).2.1 (redT t c).2.2.1
def rnkR(t:Tpl)(c:Chg):List Rnk:=if(redT t c).2.2.2=0 then t.rs.map λr=>⟨r.id,rkP (rnkA t c) 200000 r.id⟩else []
theorem range_TOk(L:Rws):TOk L (List.range L.length):=⟨List.nodup_range,λi hi=>List.mem_range.mp hi,λi hi=>List.mem_range.mpr hi⟩
theorem rnkA_msr{t:Tpl}{c:Chg}(h:(redT t c).2.2.2=0):(¬(redT t c).1=1→MsrOk t (behT (redT t c).2.1 (redT t c).2.2.1) (rnkR t c))∧((redT t c).1=1→∀is,TOk (behT (redT t c).2.1 (redT t c).2.2.1) is→MsrOk t (trnL (behT (redT t c).2.1 (redT t c).2.2.1) is) (rnkR t c)):=by
 obtain⟨hc,ha,hd,hl,hg⟩:=redT_ok h
 unfold rnkR rnkA
 rw[if_pos h]
 generalize (redT t c).2.1=g at *
 generalize (redT t c).2.2.1=ds at *
 have hB:=behT_ok g ds
 have hR:=behT_rws g ds
 have hdec:∀r x,x∈mval (behT g ds) r []→msr g c x<msr g c r:=λr x hx=>by
  obtain⟨h0,h1,h2⟩:=hB.bh r x hx
  exact msr_dec (hd h0 h1) h2
 have hle:=msr_le g c
 refine⟨λk=>?_,λk is hi=>?_⟩
 ·rw[if_neg k]
  exact msr_ok (D:=msr g c) (N:=200000) (λp hp=>by have:=hR.row p hp;omega) hdec (λr=>by have:=hle r;omega)
 ·rw[if_pos k]
  obtain⟨m1,m2⟩:=turn_mem hR hB.nd hi
  obtain⟨_,n2⟩:=turn_mem hR hB.nd (range_TOk _)
  have e:(t.rs.map λr=>(⟨r.id,rkP (trnL (behT g ds) (List.range (behT g ds).length)) 200000 r.id⟩:Rnk))=t.rs.map λr=>⟨r.id,rkP (trnL (behT g ds) is) 200000 r.id⟩:=by
   refine List.map_congr_left λr _=>?_
   rw[rkP_mem (λy z=>(n2 y z).trans (m2 y z).symm)]
  rw[e]
  exact msr_ok (D:=λx=>150000-msr g c x) (N:=200000) m1 (λr x hx=>by
   have:=hdec x r ((m2 r x).mp hx)
   have:=hle x;have:=hle r;omega) (λr=>by omega)
theorem ranks_P(t:Tpl)(c:Chg):PSpec Tryz.prog 12 [Tpl.v t,Chg.v c] (.tup [.sl 2 ((rnkR t c).map Rnk.v) false,.int (redT t c).2.2.2]):=by
 refine HSpec.pure (ranks_S t c (rnkR t c) (λh=>?_) (λh=>(rnkA_msr h).1) (λh=>(rnkA_msr h).2) (λh=>by unfold rnkR;rw[if_neg h])) ⟨trivial,trivial,trivial⟩
 obtain⟨hc,ha,hd,hl,hg⟩:=redT_ok h
 have:=(chk5_len hc).1
 exact⟨by omega,by omega,behT_rws _ _⟩
def ranks_c(t:Tpl)(c:Chg):PC Tryz.prog:=⟨12,[(.a [(.s 2),(.s 5)]),.k],[.agg [.sl 2 (t.rs.map Rtr.v) false,.sl 5 (t.ls.map Lnk.v) false],.agg [.int c.a,.int c.b,.int c.ca,.int c.cb]],.tup [.sl 2 ((rnkR t c).map Rnk.v) false,.int (redT t c).2.2.2],ranks_P t c,fnB_ok (by kernel_rfl)⟩
theorem at_cos{t:Tpl}(hc:chk5 t=0){d:Int}(hd:has5 t d=true)(u:Int):at6 t (to6 t d) u=if(cos6 t u d).2=true then(cos6 t u d).1 else far6:=by
 rw[to6_dij hc hd,cos_in hc]
 by_cases h:mhas (dijT (inG t) d) u=true
 ·rw[if_pos h,if_pos h];simp
 ·rw[if_neg h,if_neg h];simp
theorem nex_mem{t:Tpl}(hc:chk5 t=0){x y d:Int}:y∈nex6 t x d↔∃w,Edge t x y w∧(cos6 t x d).2=true∧(cos6 t y d).2=true∧w+(cos6 t y d).1=(cos6 t x d).1:=by
 unfold nex6
 constructor
 ·intro h
  split at h
  ·cases h
  rename_i e
  have hd:has5 t d=true:=by
   have:hs5 t d=true:=by simp at e;exact e.2
   exact(hs5_iff.mp this).2
  unfold stp6 at h
  split at h
  ·cases h
  rename_i e1
  obtain⟨h1,h2⟩:=List.mem_filter.mp h
  unfold okN at h2
  simp only[Bool.and_eq_true,decide_eq_true_iff,beq_iff_eq]at h2
  rw[at_cos hc hd,at_cos hc hd]at h2
  rw[at_cos hc hd]at e1
  have h1:=(nea_mem hc).mp h1
  have hp:=prc5_pos hc h1
  have cy:(cos6 t y d).2=true:=by
   refine Classical.byContradiction λq=>?_
   rw[if_neg q]at h2;unfold far6 at h2;omega
  have cx:(cos6 t x d).2=true:=by
   refine Classical.byContradiction λq=>?_
   rw[if_neg q]at e1;unfold far6 at e1;omega
  rw[if_pos cy,if_pos cx]at h2
  obtain⟨_,_,b1,b2⟩:=cos_pth (cos_eta cy)
  rw[W_eq (by omega)]at h2
  exact⟨_,(prc_edge hc).mpr (Prod.ext rfl h1),cx,cy,h2.2⟩
 ·rintro⟨w,he,cx,cy,e⟩
  obtain⟨_,hx,hd⟩:=cos6_has cx
  have hw:=he.cost hc
  have hp:=(prc_edge hc).mp he
  obtain⟨_,_,b1,b2⟩:=cos_pth (cos_eta cy)
  obtain⟨_,_,d1,d2⟩:=cos_pth (cos_eta cx)
  rw[if_neg (by rw[hs5_iff.mpr ⟨hc,hx⟩,hs5_iff.mpr ⟨hc,hd⟩];simp)]
  unfold stp6
  rw[if_neg (by rw[at_cos hc hd,if_pos cx];omega)]
  refine List.mem_filter.mpr ⟨(nea_mem hc).mpr (by rw[hp]),?_⟩
  unfold okN
  rw[at_cos hc hd,at_cos hc hd,if_pos cx,if_pos cy,hp]
  simp only[Bool.and_eq_true,decide_eq_true_iff,beq_iff_eq]
  exact⟨by omega,by rw[W_eq (by omega)];exact e⟩
def use6(t:Tpl)(f g:Int)(h:Hop):Bool:=(cos5 t h.a h.b).2 && ((cos6 t f g).2 && ((cos6 t f h.a).2 && ((cos6 t h.b g).2 && (W (W ((cos6 t f h.a).1+(cos5 t h.a h.b).1)+(cos6 t h.b g).1)==(cos6 t f g).1))))
def use6_a(t:Tpl)(from_:Int)(to_:Int)(h_:Hop):Prop:=okL [.agg [.sl 2 (t.rs.map Rtr.v) false,.sl 5 (t.ls.map Lnk.v) false],.int from_,.int to_,.agg [.int h_.a,.int h_.b]]
def use6_e(r:Bool):AV:=.bool r
def use6_x(t:Tpl)(from_:Int)(to_:Int)(h_:Hop):Ax Tryz.prog noS (Bool):=
 (.callP (cos5_c t h_.a h_.b)
(.callP (cos6_c t from_ to_)
(.callP (cos6_c t from_ h_.a)
(.callP (cos6_c t h_.b to_)
(.br 720 ((cos5 t h_.a h_.b).2) (.br 768 ((cos6 t from_ to_).2) (.br 816 ((cos6 t from_ h_.a).2) (.br 864 ((cos6 t h_.b to_).2) (.ret ((W ((W (((cos6 t from_ h_.a).1)+((cos5 t h_.a h_.b).1)))+((cos6 t h_.b to_).1)))==((cos6 t from_ to_).1)))
(.ret (false)))
(.ret (false)))
(.ret (false)))
(.ret (false)))))))
def use6_vc(t:Tpl)(from_:Int)(to_:Int)(h_:Hop)(r0:Bool):Prop:=(use6_x t from_ to_ h_).vp use6_e r0
theorem use6_p(t:Tpl)(f g:Int)(h:Hop)(ok:use6_a t f g h):use6_vc t f g h (use6 t f g h):=by
 dsimp only[use6_vc,use6_x,noS,Ax.vp,Ax.vc];simp only[vcU,rfU,List.length_map]
 unfold use6
 cases q0:(cos5 t h.a h.b).2<;>cases q1:(cos6 t f g).2<;>cases q2:(cos6 t f h.a).2<;>cases q3:(cos6 t h.b g).2<;>simp<;>rfl
def use6_c(t:Tpl)(from_:Int)(to_:Int)(h_:Hop):PC Tryz.prog:=⟨95,[(.a [(.s 2),(.s 5)]),.k,.k,.k],[.agg [.sl 2 (t.rs.map Rtr.v) false,.sl 5 (t.ls.map Lnk.v) false],.int from_,.int to_,.agg [.int h_.a,.int h_.b]],use6_e (use6 t from_ to_ h_),PSpec.of_ok λok=>mxP_of (sh:=.k) (enc:=use6_e) (a:=(use6_x t from_ to_ h_).an) (use6_p t from_ to_ h_ ok) (by kernel_rfl) (AV.pureB_ok rfl),fnB_ok (by kernel_rfl)⟩
theorem use_thr{t:Tpl}(hc:chk5 t=0){f g:Int}{h:Hop}(he:(cos5 t h.a h.b).2=true):use6 t f g h=thrT (disT t) f g h (cos5 t h.a h.b).1:=by
 have hp:1≤(cos5 t h.a h.b).1∧(cos5 t h.a h.b).1≤1000:=by rw[cos5_eq hc]at he ⊢;exact prc5_pos hc he
 rw[Bool.eq_iff_iff,thr_iff hp]
 unfold use6
 simp only[Bool.and_eq_true,beq_iff_eq,he,true_and]
 constructor
 ·rintro⟨h1,h2,h3,h4⟩
  obtain⟨_,_,p1,p2⟩:=cos_pth (cos_eta h2)
  obtain⟨_,_,q1,q2⟩:=cos_pth (cos_eta h3)
  rw[W_eq (n:=(cos6 t f h.a).1+_) (by omega),W_eq (by omega)]at h4
  exact⟨h2,h3,h1,h4⟩
 ·rintro⟨h2,h3,h1,h4⟩
  obtain⟨_,_,p1,p2⟩:=cos_pth (cos_eta h2)
  obtain⟨_,_,q1,q2⟩:=cos_pth (cos_eta h3)
  rw[W_eq (n:=(cos6 t f h.a).1+_) (by omega),W_eq (by omega)]
  exact⟨h1,h2,h3,h4⟩
def bhA(t:Tpl)(h:Hop)(x y:Int)(r:Rtr):Bool:=use6 t x r.id h && (decide (y∈nex6 t x r.id) && use6 t y r.id h)
def bhO(t:Tpl)(x y:Int)(h:Hop):Bool:=(x != h.a) && t.rs.any (bhA t h x y)
def bhd18(t:Tpl)(l:List Hop)(x y:Int):Bool:=l.any (bhO t x y)
def bhd18_a(t:Tpl)(l:(List Hop))(x:Int)(y:Int):Prop:=okL [.agg [.sl 2 (t.rs.map Rtr.v) false,.sl 5 (t.ls.map Lnk.v) false],.sl 2 (l.map Hop.v) false,.int x,.int y]
def bhd18_n0(t:Tpl)(l:(List Hop))(x:Int)(y:Int)(t0:Int):NF:=⟨[(1,.k,.sl 2 (l.map Hop.v) false),(2,.k,.int x),(3,.k,.int y),(4,.k,.ref 0 0),(9,.k,.int t0)],[.box (.agg [.sl 2 (t.rs.map Rtr.v) false,.sl 5 (t.ls.map Lnk.v) false])]⟩
def bhd18_n1(t:Tpl)(l:(List Hop))(x:Int)(y:Int)(t0:Int)(t1:Int):NF:=⟨[(1,.k,.sl 2 (l.map Hop.v) false),(2,.k,.int x),(3,.k,.int y),(4,.k,.ref 0 0),(9,.k,.int t0),(10,.k,.int t1)],[.box (.agg [.sl 2 (t.rs.map Rtr.v) false,.sl 5 (t.ls.map Lnk.v) false])]⟩
def bhd18_n2(t:Tpl)(l:(List Hop))(x:Int)(y:Int)(t0:Int)(t1:Int)(t2:Bool):NF:=⟨[(1,.k,.sl 2 (l.map Hop.v) false),(2,.k,.int x),(3,.k,.int y),(4,.k,.ref 0 0),(9,.k,.int t0),(10,.k,.int t1),(31,.k,.bool t2)],[.box (.agg [.sl 2 (t.rs.map Rtr.v) false,.sl 5 (t.ls.map Lnk.v) false])]⟩
def bhd18_n3(t:Tpl)(l:(List Hop))(x:Int)(y:Int)(t0:Int)(t1:Int)(t3:Bool):NF:=⟨[(1,.k,.sl 2 (l.map Hop.v) false),(2,.k,.int x),(3,.k,.int y),(4,.k,.ref 0 0),(9,.k,.int t0),(10,.k,.int t1),(65,.k,.bool t3)],[.box (.agg [.sl 2 (t.rs.map Rtr.v) false,.sl 5 (t.ls.map Lnk.v) false])]⟩
@[reducible] def bhd18_s:Nat→Type
 | 0=>Int
 | 1=>Int
 | 2=>Bool
 | 3=>Bool
 | _=>Unit
def bhd18_e(r:Bool):AV:=.bool r
def bhd18_x(t:Tpl)(l:(List Hop))(x:Int)(y:Int)(I0:Int→Prop)(m0:Int→Nat)(I1:Int→Int→Prop)(m1:Int→Int→Nat)(I2:Int→Int→Bool→Prop)(I3:Int→Int→Bool→Rtr→Bool→Prop):Ax Tryz.prog bhd18_s (Bool):=
 (.loop 0 (bhd18_n0 t l x y) I0 m0 ((0):Int) [0] λ(t0:Int) b0 =>
(.br 65 (decide (t0<((l.map Hop.v).length:Int))) (.loop 1 (bhd18_n1 t l x y t0) (I1 t0) (m1 t0) ((0):Int) [0] λ(t1:Int) b1 =>
(.pass (.join 2 (bhd18_n2 t l x y t0 t1) (λ(t2:Bool)=>I2 t0 t1 t2) (λb2=>(.br 97 (decide (t1<((t.rs.map Rtr.v).length:Int))) (.elI 145 Hop.v l t0 λx1 =>
(.bk 2 b2 ((x != x1.a):Bool) [0]))
(.bk 2 b2 ((false):Bool) [0]))) λ(t2:Bool) =>
(.br 1 t2 (.elI 49 Rtr.v t.rs t1 λx2 =>
(.join 3 (bhd18_n3 t l x y t0 t1) (λ(t3:Bool)=>I3 t0 t1 t2 x2 t3) (λb3=>(.elI 193 Hop.v l t0 λx3 =>
(.callP (use6_c t x x2.id x3)
(.br 257 (use6 t x x2.id x3) (.callP (nex6_c t x x2.id)
(.callP (hasI_c (nex6 t x x2.id) y)
(.br 385 (decide (y∈(nex6 t x x2.id))) (.elI 465 Hop.v l t0 λx4 =>
(.callP (use6_c t y x2.id x4)
(.bk 3 b3 ((use6 t y x2.id x4):Bool) [0])))
(.bk 3 b3 ((false):Bool) [0]))))
(.bk 3 b3 ((false):Bool) [0]))))) λ(t3:Bool) =>
(.br 1 t3 (.ret (true))
(.bk 1 b1 ((W (t1+1)):Int) [0]))))
(.bk 0 b0 ((W (t0+1)):Int) [0])))))
(.ret (false))))
def bhd18_vc(t:Tpl)(l:(List Hop))(x:Int)(y:Int)(I0:Int→Prop)(m0:Int→Nat)(I1:Int→Int→Prop)(m1:Int→Int→Nat)(I2:Int→Int→Bool→Prop)(I3:Int→Int→Bool→Rtr→Bool→Prop)(r0:Bool):Prop:=(bhd18_x t l x y I0 m0 I1 m1 I2 I3).vp bhd18_e r0
theorem bhd18_p(t:Tpl)(l:List Hop)(x y:Int)(ok:bhd18_a t l x y):∃I0 m0 I1 m1 I2 I3,bhd18_vc t l x y I0 m0 I1 m1 I2 I3 (bhd18 t l x y):=by
 refine⟨λi=>ForI l (λh=>bhO t x y h=false) i,λi=>l.length-i.toNat,λi k=>∀h,l[i.toNat]?=some h→ForI t.rs (λr=>bhA t h x y r=false) k,λ_ k=>t.rs.length-k.toNat,
  λi k b=>∀h,l[i.toNat]?=some h→b=decide (k<t.rs.length∧x≠h.a),λi _ _ r b=>∀h,l[i.toNat]?=some h→b=bhA t h x y r,?_⟩
 simp only[bhd18_a,okU,Blk.ok,plainV,List.length_map]at ok
 dsimp only[bhd18_vc,bhd18_x,bhd18_s,Ax.vp,Ax.vc];simp only[vcU,rfU,List.length_map]
 refine⟨ForI.zero,λi hi=>⟨λc=>?_,λc=>?_⟩⟩
 ·obtain⟨h,hx⟩:∃h,l[i.toNat]?=some h:=⟨_,List.getElem?_eq_getElem (by have:=hi.idx;omega)⟩
  have hx':∀{p:Hop→Prop},p h→∀g,l[i.toNat]?=some g→p g:=λq g hg=>by rw[hx]at hg;cases hg;exact q
  refine⟨hx' ForI.zero,λk hk=>⟨⟨λd=>⟨hi.idx,c,hx' (hx' ?_)⟩,λd=>hx' ?_⟩,λb hb=>⟨λe=>?_,λe=>?_⟩⟩⟩
  ·rw[Bool.eq_iff_iff,bne_iff_ne,decide_eq_true_iff];exact⟨λq=>⟨d,q⟩,λq=>q.2⟩
  ·rw[eq_comm,decide_eq_false_iff_not];exact λq=>d q.1
  ·have hk:=hk _ hx
   have hb:=hb _ hx
   subst hb
   obtain⟨e1,e2⟩:=of_decide_eq_true e
   refine⟨hk.idx,e1,λr hr=>⟨⟨hi.idx,c,hx' ⟨λa1=>⟨λa2=>⟨hi.idx,c,hx' (hx' ?_)⟩,λa2=>hx' ?_⟩,λa1=>hx' ?_⟩⟩,λz hz=>⟨λq=>?_,λq=>?_⟩⟩⟩
   ·unfold bhA;rw[a1,decide_eq_true a2];rfl
   ·unfold bhA;rw[a1,decide_eq_false a2];rfl
   ·unfold bhA;rw[a1];rfl
   ·have hz:=hz _ hx
    subst hz
    unfold bhd18
    rw[eq_comm,List.any_eq_true]
    refine⟨h,at_mem hx,?_⟩
    unfold bhO
    rw[Bool.and_eq_true,bne_iff_ne,List.any_eq_true]
    exact⟨e2,r,at_mem hr,q⟩
   ·have hz:=hz _ hx
    subst hz
    obtain⟨g1,g2⟩:=hk.step (by omega) hr q
    exact⟨hx' g1,g2⟩
  ·have hk:=hk _ hx
   have hb:=hb _ hx
   subst hb
   refine hi.step (by omega) hx ?_
   unfold bhO
   rw[Bool.and_eq_false_iff,bne_eq_false_iff_eq]
   by_cases e2:x=h.a
   ·exact .inl e2
   ·refine .inr (List.any_eq_false.mpr λr hr=>by rw[hk.done (λq=>of_decide_eq_false e ⟨q,e2⟩) r hr];simp)
 ·unfold bhd18
  rw[eq_comm]
  exact List.any_eq_false.mpr λh hh=>by rw[hi.done c h hh];simp
def bhd18_c(t:Tpl)(l:(List Hop))(x:Int)(y:Int):PC Tryz.prog:=⟨54,[(.a [(.s 2),(.s 5)]),(.s 2),.k,.k],[.agg [.sl 2 (t.rs.map Rtr.v) false,.sl 5 (t.ls.map Lnk.v) false],.sl 2 (l.map Hop.v) false,.int x,.int y],bhd18_e (bhd18 t l x y),PSpec.of_ok λok=>(bhd18_p t l x y ok).elim λI0 h=>h.elim λm0 h=>h.elim λI1 h=>h.elim λm1 h=>h.elim λI2 h=>h.elim λI3 h=>mxP_of (sh:=.k) (enc:=bhd18_e) (a:=(bhd18_x t l x y I0 m0 I1 m1 I2 I3).an) h (by kernel_rfl) (AV.pureB_ok rfl),fnB_ok (by kernel_rfl)⟩
theorem mem_fold{α:Type}(f:Rws→α→Rws)(Q:α→Int→Int→Prop)(hf:∀M a,(mkeys M).Nodup→(mkeys (f M a)).Nodup∧∀x y,y∈mval (f M a) x []↔y∈mval M x []∨Q a x y) :
  ∀(l:List α) (M:Rws),(mkeys M).Nodup→(mkeys (l.foldl f M)).Nodup∧∀x y,y∈mval (l.foldl f M) x []↔y∈mval M x []∨∃a∈l,Q a x y
 | [],M,h=>⟨h,λx y=>by simp⟩
 | a::l,M,h=>by
  obtain⟨h1,h2⟩:=hf M a h
  obtain⟨h3,h4⟩:=mem_fold f Q hf l (f M a) h1
  refine⟨h3,λx y=>?_⟩
  rw[List.foldl_cons,h4,h2]
  simp[or_assoc]
def beC(t:Tpl)(h:Hop)(c d x y w:Int):Bool:=(x != h.a) && (thrT (disT t) x d ⟨x,y⟩ w && (thrT (disT t) x d h c && thrT (disT t) y d h c))
theorem beI_mem(t:Tpl)(h:Hop)(c d:Int)(M:Rws)(s:Int×Int×Int)(hn:(mkeys M).Nodup):(mkeys (beI t h c d M s)).Nodup∧∀x y,y∈mval (beI t h c d M s) x []↔y∈mval M x []∨(x=s.1∧y=s.2.1∧beC t h c d s.1 s.2.1 s.2.2=true):=by
 have e:beQ t h c d s.1 s.2.1 s.2.2 M=(beC t h c d s.1 s.2.1 s.2.2 && !decide (s.2.1∈mval M s.1 [])):=by
  unfold beQ beC;simp only[Bool.and_assoc]
 unfold beI
 split
 ·rename_i q
  rw[e]at q
  simp only[Bool.and_eq_true,Bool.not_eq_true',decide_eq_false_iff_not]at q
  refine⟨pu_nd hn _ _,λx y=>?_⟩
  rw[pu_val hn]
  split
  ·rename_i e1;subst e1;simp[q.1]
  ·rename_i e1;simp[e1]
 ·rename_i q
  rw[e]at q
  refine⟨hn,λx y=>⟨.inl,?_⟩⟩
  rintro(h|⟨rfl,rfl,h⟩)
  ·exact h
  ·simpa[h]using q
theorem beh_mem{t:Tpl}(hc:chk5 t=0)(ds:List Hop)(x y:Int):y∈mval (behT t ds) x []↔(prc5 t x y).2=true∧bhd18 t ds x y=true:=by
 have h1:=λh c d=>mem_fold (beI t h c d) (λs x y=>x=s.1∧y=s.2.1∧beC t h c d s.1 s.2.1 s.2.2=true) (λM s hn=>beI_mem t h c d M s hn)
 have h2:=λh c d=>mem_fold (be2 t h c d) (λl x y=>∃s∈lst l,x=s.1∧y=s.2.1∧beC t h c d s.1 s.2.1 s.2.2=true) (λM l hn=>h1 h c d (lst l) M hn)
 have h3:=λh c=>mem_fold (be3 t h c) (λd x y=>∃l∈t.ls,∃s∈lst l,x=s.1∧y=s.2.1∧beC t h c d.id s.1 s.2.1 s.2.2=true) (λM d hn=>h2 h c d.id t.ls M hn)
 have h4:=mem_fold (be4 t) (λh x y=>(cos5 t h.a h.b).2=true∧∃d∈t.rs,∃l∈t.ls,∃s∈lst l,x=s.1∧y=s.2.1∧beC t h (cos5 t h.a h.b).1 d.id s.1 s.2.1 s.2.2=true) (λM h hn=>by
  unfold be4
  split
  ·rename_i e
   obtain⟨g1,g2⟩:=h3 h (cos5 t h.a h.b).1 t.rs M hn
   exact⟨g1,λx y=>by rw[g2];simp only[e,true_and]⟩
  ·rename_i e;exact⟨hn,λx y=>by simp[e]⟩)
 unfold behT
 rw[(h4 ds [] List.nodup_nil).2]
 have e0:mval ([]:Rws) x []=[]:=mval_no (by unfold mhas mkeys;simp)
 rw[e0]
 have hes:∀(F:Int→Prop),(∃l∈t.ls,∃s∈lst l,x=s.1∧y=s.2.1∧F s.2.2)↔∃w,Edge t x y w∧F w:=λF=>by
  unfold Edge lst
  constructor
  ·rintro⟨l,hl,s,hs,e1,e2,hF⟩
   simp only[List.mem_cons,List.not_mem_nil,or_false]at hs
   rcases hs with rfl|rfl
   ·exact⟨l.ca,⟨l,hl,.inl ⟨e1.symm,e2.symm,rfl⟩⟩,hF⟩
   ·exact⟨l.cb,⟨l,hl,.inr ⟨e1.symm,e2.symm,rfl⟩⟩,hF⟩
  ·rintro⟨w,⟨l,hl,⟨e1,e2,e3⟩|⟨e1,e2,e3⟩⟩,hF⟩
   ·exact⟨l,hl,(l.a,l.b,l.ca),by simp,e1.symm,e2.symm,by rw[e3];exact hF⟩
   ·exact⟨l,hl,(l.b,l.a,l.cb),by simp,e1.symm,e2.symm,by rw[e3];exact hF⟩
 have hes':∀(h:Hop) (c d:Int),(∃l∈t.ls,∃s∈lst l,x=s.1∧y=s.2.1∧beC t h c d s.1 s.2.1 s.2.2=true)↔∃w,Edge t x y w∧beC t h c d x y w=true:=λh c d=>by
  rw[←hes (λw=>beC t h c d x y w=true)]
  constructor
  ·rintro⟨l,hl,s,hs,rfl,rfl,hF⟩;exact⟨l,hl,s,hs,rfl,rfl,hF⟩
  ·rintro⟨l,hl,s,hs,rfl,rfl,hF⟩;exact⟨l,hl,s,hs,rfl,rfl,hF⟩
 simp only[hes']
 have hbe:∀(h:Hop) (d:Rtr),(cos5 t h.a h.b).2=true→((∃w,Edge t x y w∧beC t h (cos5 t h.a h.b).1 d.id x y w=true)↔(x≠h.a∧(prc5 t x y).2=true∧bhA t h x y d=true)):=λh d he=>by
  have u1:=use_thr hc (f:=x) (g:=d.id) he
  have u2:=use_thr hc (f:=y) (g:=d.id) he
  unfold bhA beC
  rw[u1,u2]
  simp only[Bool.and_eq_true,bne_iff_ne,ne_eq,decide_eq_true_iff,nex_mem hc]
  constructor
  ·rintro⟨w,hw,g1,g2,g3,g4⟩
   obtain⟨a1,a2,a3,a4⟩:=(thr_iff (hw.cost hc)).mp g2
   have:=cos_self a1
   simp only at a2 a4
   exact⟨g1,(prc_of hc _ _).mpr ⟨w,hw⟩,g3,⟨w,hw,a3,a2,by omega⟩,g4⟩
  ·rintro⟨g1,_,g3,⟨w,hw,a3,a2,a4⟩,g4⟩
   have hx:=(cos6_has a3).2.1
   have hxx:cos6 t x x=(0,true):=by
    obtain⟨m,hm,e⟩:=cos_low hc hx (Pth.nil (t:=t) (g:=x))
    have:=(cos_pth e).2.2
    rw[e];congr 1;omega
   refine⟨w,hw,g1,(thr_iff (hw.cost hc)).mpr ⟨by rw[hxx],a2,a3,by rw[hxx];simp only;omega⟩,g3,g4⟩
 unfold bhd18
 rw[List.any_eq_true]
 simp only[List.not_mem_nil,false_or]
 constructor
 ·rintro⟨h,hh,he,d,hd,q⟩
  obtain⟨q1,q2,q3⟩:=(hbe h d he).mp q
  refine⟨q2,h,hh,?_⟩
  unfold bhO
  rw[Bool.and_eq_true,bne_iff_ne,List.any_eq_true]
  exact⟨q1,d,hd,q3⟩
 ·rintro⟨q2,h,hh,q⟩
  unfold bhO at q
  rw[Bool.and_eq_true,bne_iff_ne,List.any_eq_true]at q
  obtain⟨q1,d,hd,q3⟩:=q
  have he:(cos5 t h.a h.b).2=true:=by
   unfold bhA use6 at q3
   simp only[Bool.and_eq_true]at q3
   exact q3.1.1
  exact⟨h,hh,he,d,hd,(hbe h d he).mpr ⟨q1,q2,q3⟩⟩
def relR(k:Int)(g:Tpl)(ds:List Hop)(x y:Int):Bool:=
 ((k==1) && ((prc5 g y x).2 && bhd18 g ds y x)) || ((k==2) && ((prc5 g x y).2 && bhd18 g ds x y))
theorem red_kind{t:Tpl}{c:Chg}(h:(redT t c).2.2.2=0):(redT t c).1=1∨(redT t c).1=2:=by
 have:=(redT_ok h).2.1
 unfold redT at h ⊢
 rw[if_neg (not_not_intro this)]at h ⊢
 split
 ·rename_i q;rw[if_pos q]at h;cases h
 ·split
  ·exact .inr rfl
  ·exact .inl rfl
theorem red_chk{t:Tpl}{c:Chg}(h:(redT t c).2.2.2=0):chk5 (redT t c).2.1=0∧(redT t c).2.1.rs=t.rs:=by
 obtain⟨hc,ha,_,_,hg⟩:=redT_ok h
 obtain⟨_,hS⟩:=apl_S ha
 rcases hg with hg|hg<;>rw[hg]
 ·exact⟨hc,rfl⟩
 ·exact⟨apl_chk hc hS,hS.rs⟩
theorem rnkA_mem{t:Tpl}{c:Chg}(h:(redT t c).2.2.2=0)(x y:Int):y∈mval (rnkA t c) x []↔relR (redT t c).1 (redT t c).2.1 (redT t c).2.2.1 x y=true:=by
 obtain⟨hg,_⟩:=red_chk h
 have hk:=red_kind h
 unfold rnkA relR
 generalize (redT t c).2.1=g at *
 generalize (redT t c).2.2.1=ds at *
 generalize (redT t c).1=k at *
 rcases hk with rfl|rfl
 ·rw[if_pos rfl,(turn_mem (behT_rws g ds) (behT_ok g ds).nd (range_TOk _)).2,beh_mem hg];simp
 ·rw[if_neg (by decide),beh_mem hg];simp
theorem rnk_D{t:Tpl}{c:Chg}(h:(redT t c).2.2.2=0):∃D:Int→Nat,(∀r x,x∈mval (rnkA t c) r []→D x<D r)∧∀r,D r<200000:=by
 obtain⟨hc,ha,hd,hl,hg⟩:=redT_ok h
 unfold rnkA
 generalize (redT t c).2.1=g at *
 generalize (redT t c).2.2.1=ds at *
 have hB:=behT_ok g ds
 have hdec:∀r x,x∈mval (behT g ds) r []→msr g c x<msr g c r:=λr x hx=>by
  obtain⟨h0,h1,h2⟩:=hB.bh r x hx
  exact msr_dec (hd h0 h1) h2
 have hle:=msr_le g c
 by_cases k:(redT t c).1=1
 ·rw[if_pos k]
  refine⟨λx=>150000-msr g c x,λr x hx=>?_,λr=>by show 150000-msr g c r<200000;omega⟩
  show 150000-msr g c x<150000-msr g c r
  have:=hdec x r (((turn_mem (behT_rws g ds) hB.nd (range_TOk _)).2 r x).mp hx)
  have:=hle x;have:=hle r;omega
 ·rw[if_neg k]
  exact⟨msr g c,hdec,λr=>by have:=hle r;omega⟩
theorem rkP_rng(A:Rws):∀(f:Nat) (r:Int),f≤1000000→0≤rkP A f r∧rkP A f r≤f
 | 0,r,_=>by simp[rkP]
 | f+1,r,h=>by
  unfold rkP
  obtain⟨h1,h2,h3⟩:=mxL_ok (λx=>W (1+rkP A f x)) (mval A r []) 0
  refine⟨h1,?_⟩
  rcases h3 with h3|⟨x,hx,h3⟩
  ·rw[h3];omega
  ·rw[h3]
   have:=rkP_rng A f x (by omega)
   rw[W_eq (by omega)];omega
structure RkO (n:List Rtr) (rel:Int→Int→Bool) (P:Int→Int):Prop where
  nn:∀x,0≤P x
  up:∀x y,rel x y=true→P y+1≤P x
  att:∀x,P x=0∨∃y,rel x y=true∧P x=P y+1∧∃r∈n,r.id=y
  le:∀r∈n,P r.id+1≤n.length
theorem rnk_ok{t:Tpl}{c:Chg}(h:(redT t c).2.2.2=0):RkO t.rs (relR (redT t c).1 (redT t c).2.1 (redT t c).2.2.1) (rkP (rnkA t c) 200000):=by
 obtain⟨D,hD,hN⟩:=rnk_D h
 obtain⟨hgc,hrs⟩:=red_chk h
 have hm:=rnkA_mem h
 have hf:∀r,rkP (rnkA t c) 200000 r=mxL (λx=>rkP (rnkA t c) 200000 x+1) (mval (rnkA t c) r []) 0:=λr=>by
  conv=>lhs;unfold rkP
  refine mxL_eq 0 (λ_=>Iff.rfl) λx hx=>?_
  have h1:=hD r x hx
  have h2:=hN r
  rw[rkP_fuel hD 199999 200000 x (by omega) (by omega)]
  have:=rkP_rng (rnkA t c) 200000 x (by omega)
  rw[W_eq (by omega)];omega
 have hel:∀x y,relR (redT t c).1 (redT t c).2.1 (redT t c).2.2.1 x y=true→∃r∈t.rs,r.id=y:=λx y hr=>by
  have:∃a b,(prc5 (redT t c).2.1 a b).2=true∧(y=a∨y=b):=by
   unfold relR at hr
   simp only[Bool.or_eq_true,Bool.and_eq_true]at hr
   rcases hr with⟨_,hr,_⟩|⟨_,hr,_⟩
   ·exact⟨_,_,hr,.inl rfl⟩
   ·exact⟨_,_,hr,.inr rfl⟩
  obtain⟨a,b,h1,h2⟩:=this
  obtain⟨k,hk⟩:=(prc_of hgc a b).mp h1
  obtain⟨ha,hb⟩:=hk.has hgc
  rw[has5_rs hrs]at ha hb
  rcases h2 with rfl|rfl
  ·exact has5_iff.mp ha
  ·exact has5_iff.mp hb
 generalize relR (redT t c).1 (redT t c).2.1 (redT t c).2.2.1=rel at *
 have hnn:∀x,0≤rkP (rnkA t c) 200000 x:=λx=>(rkP_rng _ 200000 x (by omega)).1
 generalize rkP (rnkA t c) 200000=P at *
 have hup:∀x y,rel x y=true→P y+1≤P x:=λx y hr=>by
  rw[hf x]
  exact(mxL_ok (λx=>P x+1) (mval (rnkA t c) x []) 0).2.1 y ((hm x y).mpr hr)
 have hatt:∀x,P x=0∨∃y,rel x y=true∧P x=P y+1∧∃r∈t.rs,r.id=y:=λx=>by
  rcases(mxL_ok (λx=>P x+1) (mval (rnkA t c) x []) 0).2.2 with e|⟨y,hy,e⟩
  ·exact .inl (by rw[hf x];exact e)
  ·have hr:=(hm x y).mp hy
   exact .inr ⟨y,hr,by rw[hf x];exact e,hel x y hr⟩
 refine⟨hnn,hup,hatt,λr hr=>?_⟩
 have key:∀(m:Nat) (r:Rtr),r∈t.rs→D r.id≤m→∀v:Int,0≤v→v≤P r.id→v∈t.rs.map λr=>P r.id:=λm=>by
  induction m with
  | zero =>
   intro r hr hm' v h0 hv
   rcases hatt r.id with e|⟨y,hy,e,r',hr',rfl⟩
   ·exact List.mem_map.mpr ⟨r,hr,by omega⟩
   ·have:=hD _ _ ((hm _ _).mpr hy);omega
  | succ m ih =>
   intro r hr hm' v h0 hv
   rcases hatt r.id with e|⟨y,hy,e,r',hr',rfl⟩
   ·exact List.mem_map.mpr ⟨r,hr,by omega⟩
   ·by_cases q:v=P r.id
    ·exact List.mem_map.mpr ⟨r,hr,q.symm⟩
    ·have:=hD _ _ ((hm _ _).mpr hy)
     exact ih r' hr' (by omega) v h0 (by omega)
 have hsub:((List.range ((P r.id).toNat+1)).map λk:Nat=>(k:Int)) ⊆ t.rs.map λr=>P r.id:=λv hv=>by
  obtain⟨k,hk,rfl⟩:=List.mem_map.mp hv
  have:=List.mem_range.mp hk
  have:=hnn r.id
  exact key (D r.id) r hr (Nat.le_refl _) k (by omega) (by omega)
 have hnd:((List.range ((P r.id).toNat+1)).map λk:Nat=>(k:Int)).Nodup:=List.Pairwise.map _ (λa b h=>by omega) List.nodup_range
 have:=List.Nodup.length_le_of_subset hnd hsub
 rw[List.length_map,List.length_map,List.length_range]at this
 have:=hnn r.id
 omega
end Go.Proofs.YtdoacjojljgdcaaGreat
