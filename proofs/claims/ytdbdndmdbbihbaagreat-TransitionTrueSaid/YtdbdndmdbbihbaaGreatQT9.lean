/- Texts joined: BH1 BH2 BH3 BH4 RK1 RK2 RK3 RK4 RK5 RK6 TW AO TT. -/
import Derived.Test.YtdbdndmdbbihbaaGreatQT8
set_option linter.unusedVariables false
set_option linter.unusedSimpArgs false
set_option linter.unusedSectionVars false
namespace Go.Proofs.YtdbdndmdbbihbaaGreat
open Go Go.Am
def Mk:AC:=.reg [⟨(some 72),.faddr 0 (.t 16),none⟩,⟨(some 73),.load false 1 (.t 72),none⟩,⟨(some 74),.faddr 0 (.t 8),none⟩,⟨(some 75),.load false 1 (.t 74),none⟩,⟨(some 76),.bin .neq (.t 73) (.t 75),none⟩,⟨(some 77),.move (.t 76),none⟩,⟨(some 78),.move (.t 6),(some (77,true))⟩,⟨(some 79),.faddr 0 (.t 16),(some (77,true))⟩,⟨(some 80),.load false 1 (.t 79),(some (77,true))⟩,⟨(some 81),.faddr 0 (.t 12),(some (77,true))⟩,⟨(some 82),.load false 1 (.t 81),(some (77,true))⟩,⟨(some 83),.faddr 0 (.t 16),(some (77,true))⟩,⟨(some 84),.load false 1 (.t 83),(some (77,true))⟩,⟨(some 85),.faddr 1 (.t 16),(some (77,true))⟩,⟨(some 86),.load false 1 (.t 85),(some (77,true))⟩,⟨(some 87),.build [(.val (.int .i64 0)),(.val (.int .i64 0))] [(0,1,(.t 84)),(1,1,(.t 86))],(some (77,true))⟩,⟨(some 88),.faddr 2 (.t 16),(some (77,true))⟩,⟨(some 89),.load false 1 (.t 88),(some (77,true))⟩,⟨(some 90),.call (.c (.func 97 [])) [(.t 78),(.t 80),(.t 82),(.t 87),(.t 89)],(some (77,true))⟩,⟨(some 91),.pick (.t 77) (.t 90) (.c (.val (.bool false))),none⟩,⟨(some 17),.move (.t 91),none⟩]
def GK:AC:=.reg [⟨(some 92),.move (.t 17),none⟩,⟨(some 93),.move (.t 92),none⟩,⟨(some 94),.move (.t 6),(some (93,true))⟩,⟨(some 95),.faddr 0 (.t 16),(some (93,true))⟩,⟨(some 96),.load false 1 (.t 95),(some (93,true))⟩,⟨(some 97),.faddr 0 (.t 12),(some (93,true))⟩,⟨(some 98),.load false 1 (.t 97),(some (93,true))⟩,⟨(some 99),.load true 2 (.t 8),(some (93,true))⟩,⟨(some 100),.move (.t 9),(some (93,true))⟩,⟨(some 101),.call (.c (.func 97 [])) [(.t 94),(.t 96),(.t 98),(.t 99),(.t 100)],(some (93,true))⟩,⟨(some 102),.pick (.t 93) (.t 101) (.c (.val (.bool false))),none⟩,⟨(some 103),.move (.t 102),none⟩,⟨(some 104),.move (.t 6),(some (103,true))⟩,⟨(some 105),.faddr 1 (.t 16),(some (103,true))⟩,⟨(some 106),.load false 1 (.t 105),(some (103,true))⟩,⟨(some 107),.faddr 0 (.t 12),(some (103,true))⟩,⟨(some 108),.load false 1 (.t 107),(some (103,true))⟩,⟨(some 109),.load true 2 (.t 8),(some (103,true))⟩,⟨(some 110),.move (.t 9),(some (103,true))⟩,⟨(some 111),.call (.c (.func 97 [])) [(.t 104),(.t 106),(.t 108),(.t 109),(.t 110)],(some (103,true))⟩,⟨(some 112),.pick (.t 103) (.t 111) (.c (.val (.bool false))),none⟩,⟨(some 113),.move (.t 112),none⟩,⟨(some 114),.move (.t 5),(some (113,true))⟩,⟨(some 115),.faddr 0 (.t 16),(some (113,true))⟩,⟨(some 116),.load false 1 (.t 115),(some (113,true))⟩,⟨(some 117),.mget none ((.sl 0 [] true)) false (.t 114) (.t 116),(some (113,true))⟩,⟨(some 118),.faddr 1 (.t 16),(some (113,true))⟩,⟨(some 119),.load false 1 (.t 118),(some (113,true))⟩,⟨(some 120),.call (.c (.func 72 [])) [(.t 117),(.t 119)],(some (113,true))⟩,⟨(some 121),.un .not (.t 120),(some (113,true))⟩,⟨(some 122),.pick (.t 113) (.t 121) (.c (.val (.bool false))),none⟩]
def B6:AC:=.dreg [⟨(some 123),.move (.t 5),none⟩,⟨(some 124),.faddr 0 (.t 16),none⟩,⟨(some 125),.load false 1 (.t 124),none⟩,⟨(some 126),.move (.t 5),none⟩,⟨(some 127),.faddr 0 (.t 16),none⟩,⟨(some 128),.load false 1 (.t 127),none⟩,⟨(some 129),.mget none ((.sl 0 [] true)) false (.t 126) (.t 128),none⟩,⟨(some 130),.faddr 1 (.t 16),none⟩,⟨(some 131),.load false 1 (.t 130),none⟩,⟨(some 132),.lit 1 1 (.val (.int .i64 0)) [(0,(.t 131))],none⟩,⟨(some 133),.append 1 8 (.t 129) (.t 132),none⟩,⟨none,.mset none (.t 123) (.t 125) (.t 133),none⟩] [(2,5),(2,6),(2,8),(5,8),(6,8),(2,9),(5,9),(6,9),(2,10)]
def GJ:AC:=.seq Mk (.seq GK (.cond (.t 122) B6 .skip))
abbrev OR(t:Tpl):AV:=.mp (some 2) ((cZ t).map λp=>mC p.1) ((cZ t).map λp=>AV.int p.2)
structure BeB (t:Tpl) (ds:List Hop) (s:S3) (M:Rws):Prop where
  nx:112≤s.nx
  t1:s.tm 1=.sl 2 (ds.map Hop.v) false
  t2:s.tm 2=.ref 0 0
  h0:s.hp 0=some (.box (Tpl.v t))
  t5:s.tm 5=.mref 32
  t6:s.tm 6=OR t
  fam:∃ns,Fam s.hp s.nx 32 ns M
structure Kp (R:Nat→Prop) (s s':S3):Prop where
  nx:s.nx≤s'.nx
  tm:∀r,R r→s'.tm r=s.tm r
  hp:∀b x,b<s.nx→s.hp b=some (.box x)→s'.hp b=some (.box x)
def beQ(t:Tpl)(h:Hop)(c d x y w:Int)(M:Rws):Bool:=(x != h.a) && (lm (cZ t) x d ⟨x,y⟩ w && (lm (cZ t) x d h c && (lm (cZ t) y d h c && !(decide (y∈az M x [])))))
def beI(t:Tpl)(h:Hop)(c d:Int)(M:Rws)(s:Int×Int×Int):Rws:=if beQ t h c d s.1 s.2.1 s.2.2 M=true then pu M s.1 s.2.1 else M
def beR(r:Nat):Prop:=r<17∨17<r∧r<72
theorem GI(t:Tpl)(ds:List Hop)(h:Hop)(c d x y w:Int)(fl:AV)(s:S3)(M:Rws)(bh bd bs:Nat)(hB:BeB t ds s M)(g8:s.tm 8=.ref bh 0)(g9:s.tm 9=.int c)(g12:s.tm 12=.ref bd 0)(g16:s.tm 16=.ref bs 0)
  (hh:s.hp bh=some (.box (.agg [.int h.a,.int h.b]))) (hd:s.hp bd=some (.box (.agg [.int d,fl]))) (hs:s.hp bs=some (.box (.agg [.int x,.int y,.int w]))) (hbs:bs<s.nx) (hl:(az M x []).length≤1000000) (k:Nat) (Q:X→S3→Prop)
  (hQ:∀s',Kp beR s s'→BeB t ds s' (beI t h c d M (x,y,w))→Q .normal s'):AWP Tryz.prog 0 k GJ Q s:=by
 obtain⟨tm,hp,nx⟩:=s
 obtain⟨n1,t1,t2,h0,t5,t6,ns,hF⟩:=hB
 simp only at n1 t1 t2 h0 t5 t6 hF g8 g9 g12 g16 hh hd hs hbs
 unfold GJ Mk GK B6
 have hR:∀{r:Nat} {tm':Nat→AV},(∀r,beR r→tm' r=tm r)→beR r→tm' r=tm r:=λh1 h2=>h1 _ h2
 refine AWP.seq' ?_
 suffices HB:∀tm' nx',nx≤nx'→(∀r,beR r→tm' r=tm r)→tm' 17=.bool ((x != h.a) && lm (cZ t) x d ⟨x,y⟩ w)→AWP Tryz.prog 0 k (.seq GK (.cond (.t 122) B6 .skip)) Q ⟨tm',hp,nx'⟩ by
  cases e1:(x != h.a)with
  | false =>
   rw[e1]at HB
   refine AWP.reg' λK hK=>?_
   try simp only[ak,am,al,eq_self,implies_true,forall_eq_or_imp,forall_eq,Nat.reduceEqDiff,↓reduceIte,Nat.reduceAdd,Nat.reduceLeDiff,Nat.reduceSub,Nat.reduceMul,Nat.reduceLT,Int.reduceBEq,Int.reduceBNe,Int.reduceToNat,Int.reduceLT,Int.reduceLE,Int.reduceAdd,Int.reduceSub,Int.reduceMul,reduceCtorEq,g16,g8,hs,hh,e1]
   refine hK _ _ _ ?_
   clear hK K
   exact HB _ _ (by omega) (λr hr=>by unfold beR at hr;simp only[ah];repeat rw[if_neg (by omega)]) rfl
  | true =>
   rw[e1]at HB
   refine AWP.reg' λK hK=>?_
   try simp only[ak,am,al,eq_self,implies_true,forall_eq_or_imp,forall_eq,Nat.reduceEqDiff,↓reduceIte,Nat.reduceAdd,Nat.reduceLeDiff,Nat.reduceSub,Nat.reduceMul,Nat.reduceLT,Int.reduceBEq,Int.reduceBNe,Int.reduceToNat,Int.reduceLT,Int.reduceLE,Int.reduceAdd,Int.reduceSub,Int.reduceMul,reduceCtorEq,g16,g8,hs,hh,e1,g12,hd,t6]
   refine cG ((cp (cZ t) x d ⟨x,y⟩ w).ok) (cp (cZ t) x d ⟨x,y⟩ w).fn rfl (by rfl) (by repeat' (first|exact trivial|assumption|refine And.intro ?_ ?_)) ?_
   try simp only[ak,am,al,eq_self,implies_true,forall_eq_or_imp,forall_eq,Nat.reduceEqDiff,↓reduceIte,Nat.reduceAdd,Nat.reduceLeDiff,Nat.reduceSub,Nat.reduceMul,Nat.reduceLT,Int.reduceBEq,Int.reduceBNe,Int.reduceToNat,Int.reduceLT,Int.reduceLE,Int.reduceAdd,Int.reduceSub,Int.reduceMul,reduceCtorEq]
   refine hK _ _ _ ?_
   clear hK K
   exact HB _ _ (by omega) (λr hr=>by unfold beR at hr;simp only[ah];repeat rw[if_neg (by omega)]) rfl
 clear hR
 intro tm1 nx1 hnx1 hR1 h17
 have g6':tm1 6=OR t:=(hR1 6 (.inl (by omega))).trans t6
 have g8':tm1 8=.ref bh 0:=(hR1 8 (.inl (by omega))).trans g8
 have g9':tm1 9=.int c:=(hR1 9 (.inl (by omega))).trans g9
 have g12':tm1 12=.ref bd 0:=(hR1 12 (.inl (by omega))).trans g12
 have g16':tm1 16=.ref bs 0:=(hR1 16 (.inl (by omega))).trans g16
 have g5':tm1 5=.mref 32:=(hR1 5 (.inl (by omega))).trans t5
 refine AWP.seq' ?_
 suffices HC:∀tm' nx',nx≤nx'→(∀r,beR r→tm' r=tm r)→tm' 122=.bool (beQ t h c d x y w M)→AWP Tryz.prog 0 k (.cond (.t 122) B6 .skip) Q ⟨tm',hp,nx'⟩ by
  have fin:∀{tm':Nat→AV},(∀r,beR r→tm' r=tm1 r)→∀r,beR r→tm' r=tm r:=λh r hr=>(h r hr).trans (hR1 r hr)
  unfold beQ at HC
  cases e1:((x != h.a) && lm (cZ t) x d ⟨x,y⟩ w)with
  | false =>
   rw[e1]at h17
   rw[←Bool.and_assoc,e1,Bool.false_and]at HC
   refine AWP.reg' λK hK=>?_
   try simp only[ak,am,al,eq_self,implies_true,forall_eq_or_imp,forall_eq,Nat.reduceEqDiff,↓reduceIte,Nat.reduceAdd,Nat.reduceLeDiff,Nat.reduceSub,Nat.reduceMul,Nat.reduceLT,Int.reduceBEq,Int.reduceBNe,Int.reduceToNat,Int.reduceLT,Int.reduceLE,Int.reduceAdd,Int.reduceSub,Int.reduceMul,reduceCtorEq,h17]
   refine hK _ _ _ ?_
   clear hK K
   exact HC _ _ (by omega) (fin λr hr=>by unfold beR at hr;simp only[ah];repeat rw[if_neg (by omega)]) rfl
  | true =>
   rw[e1]at h17
   rw[←Bool.and_assoc,e1,Bool.true_and]at HC
   cases e2:lm (cZ t) x d h c with
   | false =>
    have p2:aw Tryz.prog (cp (cZ t) x d h c).f (cp (cZ t) x d h c).args (.bool false):=by rw[←e2];exact(cp (cZ t) x d h c).ok
    rw[e2,Bool.false_and]at HC
    refine AWP.reg' λK hK=>?_
    try simp only[ak,am,al,eq_self,implies_true,forall_eq_or_imp,forall_eq,Nat.reduceEqDiff,↓reduceIte,Nat.reduceAdd,Nat.reduceLeDiff,Nat.reduceSub,Nat.reduceMul,Nat.reduceLT,Int.reduceBEq,Int.reduceBNe,Int.reduceToNat,Int.reduceLT,Int.reduceLE,Int.reduceAdd,Int.reduceSub,Int.reduceMul,reduceCtorEq,h17,g6',g16',hs,g12',hd,g8',hh,g9']
    refine cG (p2) (cp (cZ t) x d h c).fn rfl (by rfl) (by repeat' (first|exact trivial|assumption|refine And.intro ?_ ?_)) ?_
    try simp only[ak,am,al,eq_self,implies_true,forall_eq_or_imp,forall_eq,Nat.reduceEqDiff,↓reduceIte,Nat.reduceAdd,Nat.reduceLeDiff,Nat.reduceSub,Nat.reduceMul,Nat.reduceLT,Int.reduceBEq,Int.reduceBNe,Int.reduceToNat,Int.reduceLT,Int.reduceLE,Int.reduceAdd,Int.reduceSub,Int.reduceMul,reduceCtorEq]
    refine hK _ _ _ ?_
    clear hK K
    exact HC _ _ (by omega) (fin λr hr=>by unfold beR at hr;simp only[ah];repeat rw[if_neg (by omega)]) rfl
   | true =>
    have p2:aw Tryz.prog (cp (cZ t) x d h c).f (cp (cZ t) x d h c).args (.bool true):=by rw[←e2];exact(cp (cZ t) x d h c).ok
    rw[e2,Bool.true_and]at HC
    cases e3:lm (cZ t) y d h c with
    | false =>
     have p3:aw Tryz.prog (cp (cZ t) y d h c).f (cp (cZ t) y d h c).args (.bool false):=by rw[←e3];exact(cp (cZ t) y d h c).ok
     rw[e3,Bool.false_and]at HC
     refine AWP.reg' λK hK=>?_
     try simp only[ak,am,al,eq_self,implies_true,forall_eq_or_imp,forall_eq,Nat.reduceEqDiff,↓reduceIte,Nat.reduceAdd,Nat.reduceLeDiff,Nat.reduceSub,Nat.reduceMul,Nat.reduceLT,Int.reduceBEq,Int.reduceBNe,Int.reduceToNat,Int.reduceLT,Int.reduceLE,Int.reduceAdd,Int.reduceSub,Int.reduceMul,reduceCtorEq,h17,g6',g16',hs,g12',hd,g8',hh,g9']
     refine cG (p2) (cp (cZ t) x d h c).fn rfl (by rfl) (by repeat' (first|exact trivial|assumption|refine And.intro ?_ ?_)) ?_
     try simp only[ak,am,al,eq_self,implies_true,forall_eq_or_imp,forall_eq,Nat.reduceEqDiff,↓reduceIte,Nat.reduceAdd,Nat.reduceLeDiff,Nat.reduceSub,Nat.reduceMul,Nat.reduceLT,Int.reduceBEq,Int.reduceBNe,Int.reduceToNat,Int.reduceLT,Int.reduceLE,Int.reduceAdd,Int.reduceSub,Int.reduceMul,reduceCtorEq,g6',g16',hs,g12',hd,g8',hh,g9']
     refine cG (p3) (cp (cZ t) y d h c).fn rfl (by rfl) (by repeat' (first|exact trivial|assumption|refine And.intro ?_ ?_)) ?_
     try simp only[ak,am,al,eq_self,implies_true,forall_eq_or_imp,forall_eq,Nat.reduceEqDiff,↓reduceIte,Nat.reduceAdd,Nat.reduceLeDiff,Nat.reduceSub,Nat.reduceMul,Nat.reduceLT,Int.reduceBEq,Int.reduceBNe,Int.reduceToNat,Int.reduceLT,Int.reduceLE,Int.reduceAdd,Int.reduceSub,Int.reduceMul,reduceCtorEq]
     refine hK _ _ _ ?_
     clear hK K
     exact HC _ _ (by omega) (fin λr hr=>by unfold beR at hr;simp only[ah];repeat rw[if_neg (by omega)]) rfl
    | true =>
     have p3:aw Tryz.prog (cp (cZ t) y d h c).f (cp (cZ t) y d h c).args (.bool true):=by rw[←e3];exact(cp (cZ t) y d h c).ok
     rw[e3,Bool.true_and]at HC
     cases e4:aU M x with
     | false =>
      have q1:=λz v kk=>(hF.no e4 z v kk).1
      rw[cn e4]at HC
      refine AWP.reg' λK hK=>?_
      try simp only[ak,am,al,eq_self,implies_true,forall_eq_or_imp,forall_eq,Nat.reduceEqDiff,↓reduceIte,Nat.reduceAdd,Nat.reduceLeDiff,Nat.reduceSub,Nat.reduceMul,Nat.reduceLT,Int.reduceBEq,Int.reduceBNe,Int.reduceToNat,Int.reduceLT,Int.reduceLE,Int.reduceAdd,Int.reduceSub,Int.reduceMul,reduceCtorEq,h17,g6',g16',hs,g12',hd,g8',hh,g9']
      refine cG (p2) (cp (cZ t) x d h c).fn rfl (by rfl) (by repeat' (first|exact trivial|assumption|refine And.intro ?_ ?_)) ?_
      try simp only[ak,am,al,eq_self,implies_true,forall_eq_or_imp,forall_eq,Nat.reduceEqDiff,↓reduceIte,Nat.reduceAdd,Nat.reduceLeDiff,Nat.reduceSub,Nat.reduceMul,Nat.reduceLT,Int.reduceBEq,Int.reduceBNe,Int.reduceToNat,Int.reduceLT,Int.reduceLE,Int.reduceAdd,Int.reduceSub,Int.reduceMul,reduceCtorEq,g6',g16',hs,g12',hd,g8',hh,g9']
      refine cG (p3) (cp (cZ t) y d h c).fn rfl (by rfl) (by repeat' (first|exact trivial|assumption|refine And.intro ?_ ?_)) ?_
      try simp only[ak,am,al,eq_self,implies_true,forall_eq_or_imp,forall_eq,Nat.reduceEqDiff,↓reduceIte,Nat.reduceAdd,Nat.reduceLeDiff,Nat.reduceSub,Nat.reduceMul,Nat.reduceLT,Int.reduceBEq,Int.reduceBNe,Int.reduceToNat,Int.reduceLT,Int.reduceLE,Int.reduceAdd,Int.reduceSub,Int.reduceMul,reduceCtorEq,g5',g16',hs,hF.hm,bo,du,AV.key,MK.fits,q1 _ .unk none,and_self,true_and]
      have p4:aw Tryz.prog (eY [] y).f [.sl 0 [] true,.int y] (.bool false):=aw.sub (show aw _ _ [.sl 1 [] false,.int y] (.bool false)from(eY [] y).ok) ⟨Sub.nil,Sub.refl,trivial⟩ Sub.refl
      refine cG (p4) (eY [] y).fn rfl (by rfl) (by repeat' (first|exact trivial|assumption|refine And.intro ?_ ?_)) ?_
      try simp only[ak,am,al,eq_self,implies_true,forall_eq_or_imp,forall_eq,Nat.reduceEqDiff,↓reduceIte,Nat.reduceAdd,Nat.reduceLeDiff,Nat.reduceSub,Nat.reduceMul,Nat.reduceLT,Int.reduceBEq,Int.reduceBNe,Int.reduceToNat,Int.reduceLT,Int.reduceLE,Int.reduceAdd,Int.reduceSub,Int.reduceMul,reduceCtorEq]
      refine hK _ _ _ ?_
      clear hK K
      exact HC _ _ (by omega) (fin λr hr=>by unfold beR at hr;simp only[ah];repeat rw[if_neg (by omega)]) rfl
     | true =>
      obtain⟨i0,b0,y1,y2,y3,y4,y5,y6⟩:=hF.yes e4
      refine AWP.reg' λK hK=>?_
      try simp only[ak,am,al,eq_self,implies_true,forall_eq_or_imp,forall_eq,Nat.reduceEqDiff,↓reduceIte,Nat.reduceAdd,Nat.reduceLeDiff,Nat.reduceSub,Nat.reduceMul,Nat.reduceLT,Int.reduceBEq,Int.reduceBNe,Int.reduceToNat,Int.reduceLT,Int.reduceLE,Int.reduceAdd,Int.reduceSub,Int.reduceMul,reduceCtorEq,h17,g6',g16',hs,g12',hd,g8',hh,g9']
      refine cG (p2) (cp (cZ t) x d h c).fn rfl (by rfl) (by repeat' (first|exact trivial|assumption|refine And.intro ?_ ?_)) ?_
      try simp only[ak,am,al,eq_self,implies_true,forall_eq_or_imp,forall_eq,Nat.reduceEqDiff,↓reduceIte,Nat.reduceAdd,Nat.reduceLeDiff,Nat.reduceSub,Nat.reduceMul,Nat.reduceLT,Int.reduceBEq,Int.reduceBNe,Int.reduceToNat,Int.reduceLT,Int.reduceLE,Int.reduceAdd,Int.reduceSub,Int.reduceMul,reduceCtorEq,g6',g16',hs,g12',hd,g8',hh,g9']
      refine cG (p3) (cp (cZ t) y d h c).fn rfl (by rfl) (by repeat' (first|exact trivial|assumption|refine And.intro ?_ ?_)) ?_
      try simp only[ak,am,al,eq_self,implies_true,forall_eq_or_imp,forall_eq,Nat.reduceEqDiff,↓reduceIte,Nat.reduceAdd,Nat.reduceLeDiff,Nat.reduceSub,Nat.reduceMul,Nat.reduceLT,Int.reduceBEq,Int.reduceBNe,Int.reduceToNat,Int.reduceLT,Int.reduceLE,Int.reduceAdd,Int.reduceSub,Int.reduceMul,reduceCtorEq,g5',g16',hs,hF.hm,bo,du,AV.key,MK.fits,y5,and_self,true_and]
      refine tC [b0] (show aw Tryz.prog (eY (az M x []) y).f [.sl 1 ((az M x []).map AV.int) false,.int y] (.bool (decide (y∈az M x [])))from(eY (az M x []) y).ok) (eY (az M x []) y).fn rfl rfl ⟨dr.vec (by simp) y4 (aB (ab (λ_=>rfl) _)),dr.pure trivial,trivial⟩ trivial ?_
      try simp only[ak,am,al,eq_self,implies_true,forall_eq_or_imp,forall_eq,Nat.reduceEqDiff,↓reduceIte,Nat.reduceAdd,Nat.reduceLeDiff,Nat.reduceSub,Nat.reduceMul,Nat.reduceLT,Int.reduceBEq,Int.reduceBNe,Int.reduceToNat,Int.reduceLT,Int.reduceLE,Int.reduceAdd,Int.reduceSub,Int.reduceMul,reduceCtorEq]
      refine hK _ _ _ ?_
      clear hK K
      exact HC _ _ (by omega) (fin λr hr=>by unfold beR at hr;simp only[ah];repeat rw[if_neg (by omega)]) rfl
 clear hR1 h17 g6' g8' g9' g12' g16' g5' hnx1 tm1 nx1
 intro tm1 nx1 hnx1 hR1 h122
 have g16':tm1 16=.ref bs 0:=(hR1 16 (.inl (by omega))).trans g16
 have g5':tm1 5=.mref 32:=(hR1 5 (.inl (by omega))).trans t5
 have hB0:∀(tm':Nat→AV) (hp':Hp) (nx':Nat) (M':Rws),112≤nx'→(∀r,beR r→tm' r=tm r)→hp' 0=hp 0→(∃ns,Fam hp' nx' 32 ns M')→BeB t ds ⟨tm',hp',nx'⟩ M':=λtm' hp' nx' M' hn hr h0' hf =>
  ⟨hn,(hr 1 (.inl (by omega))).trans t1,(hr 2 (.inl (by omega))).trans t2,h0'.trans h0,(hr 5 (.inl (by omega))).trans t5,(hr 6 (.inl (by omega))).trans t6,hf⟩
 refine AWP.cond (b:=beQ t h c d x y w M) h122 (λhq=>?_) (λhq=>?_)
 case refine_2 =>
  refine AWP.skip (hQ _ ⟨hnx1,λr hr=>hR1 r hr,λb z hb hz=>hz⟩ ?_)
  unfold beI
  rw[if_neg (by simp[hq])]
  exact hB0 _ _ _ _ (by omega) hR1 rfl ⟨ns,hF.keep (λ_ _ _=>rfl) hnx1⟩
 have hI:beI t h c d M (x,y,w)=pu M x y:=by unfold beI;rw[if_pos hq]
 rw[hI]at hQ
 obtain⟨f32a,f32b,f32c,f32d⟩:=nxF (show 32<nx1 by omega)
 obtain⟨fsa,fsb,fsc,fsd⟩:=nxF (show bs<nx1 by omega)
 have hml:=bj
 have hbs32:(bs=32)=False:=by simp;rintro rfl;rw[hF.hm]at hs;cases hs
 have hbs32':(32=bs)=False:=by simp;rintro rfl;rw[hF.hm]at hs;cases hs
 cases e4:aU M x with
 | false =>
  have q1:=λz v kk=>(hF.no e4 z v kk).1
  have q2:=λz v kk=>(hF.no e4 z v kk).2
  refine AWP.dreg' λK hK=>?_
  try simp only[ak,am,al,eq_self,implies_true,forall_eq_or_imp,forall_eq,Nat.reduceEqDiff,↓reduceIte,Nat.reduceAdd,Nat.reduceLeDiff,Nat.reduceSub,Nat.reduceMul,Nat.reduceLT,Int.reduceBEq,Int.reduceBNe,Int.reduceToNat,Int.reduceLT,Int.reduceLE,Int.reduceAdd,Int.reduceSub,Int.reduceMul,reduceCtorEq,g5',g16',hs,hF.hm,bo,bC,du,AV.key,MK.fits,q1 _ .unk none,and_self,true_and]
  refine gD ?_
  try simp only[ak,am,al,eq_self,implies_true,forall_eq_or_imp,forall_eq,Nat.reduceEqDiff,↓reduceIte,Nat.reduceAdd,Nat.reduceLeDiff,Nat.reduceSub,Nat.reduceMul,Nat.reduceLT,Int.reduceBEq,Int.reduceBNe,Int.reduceToNat,Int.reduceLT,Int.reduceLE,Int.reduceAdd,Int.reduceSub,Int.reduceMul,reduceCtorEq,g5',g16',hs,hF.hm,bo,bC,du,AV.key,MK.fits,and_self,true_and,aZ,dN,f32a,f32b,f32c,f32d,Nat.add_assoc]
  refine⟨⟨by decide,by omega⟩,?_⟩
  refine⟨?_,hK _ _ _ (hQ _ ⟨by dsimp only;omega,λr hr=>?_,λb z hb hz=>?_⟩ (hB0 _ _ _ _ (by omega) (λr hr=>?_) ?_ ⟨ns++[nx1+160],hF.put_no e4 (f:=nx1+160) (by omega) (by omega) ?_ ?_ λb hb hne=>?_⟩))⟩
  ·simp[gO,ni,bB,AOp.opers,aN,evO,ah,fsa,fsb,f32a,f32b,hbs32,hbs32']
  ·have hr':=hr;unfold beR at hr';simp only[ah];repeat rw[if_neg (by omega)]
   exact hR1 r hr
  ·have hb1:b<nx:=hb
   have hz1:hp b=some (.box z):=hz
   have e32:b≠32:=λc=>by subst c;rw[hF.hm]at hz1;cases hz1
   simp only[ah,if_neg e32];rw[if_neg (by omega)];exact hz1
  ·have hr':=hr;unfold beR at hr';simp only[ah];repeat rw[if_neg (by omega)]
   exact hR1 r hr
  ·simp only[ah];rw[if_neg (by omega),if_neg (by omega),if_neg (by omega)]
  ·simp only[ah,↓reduceIte];exact congrArg some (q2 (.sl 0 [] true) _ none)
  ·simp only[ah,f32b,↓reduceIte]
  ·simp only[ah,if_neg hne];rw[if_neg (by omega)]
 | true =>
  obtain⟨i0,b0,y1,y2,y3,y4,y5,y6⟩:=hF.yes e4
  have hb0:=hF.lt b0 (List.mem_of_getElem? y1)
  obtain⟨b0a,b0b,_,_⟩:=nxF (show b0<nx1 by omega)
  have hb32:(32=b0)=False:=by simp;rintro rfl;exact hF.bm_no (List.mem_of_getElem? y1)
  have hb32':(b0=32)=False:=by simp;rintro rfl;exact hF.bm_no (List.mem_of_getElem? y1)
  have hbs0:(bs=b0)=False:=by simp;rintro rfl;rw[hs]at y4;cases y4
  have hbs0':(b0=bs)=False:=by simp;rintro rfl;rw[hs]at y4;cases y4
  refine AWP.dreg' λK hK=>?_
  try simp only[ak,am,al,eq_self,implies_true,forall_eq_or_imp,forall_eq,Nat.reduceEqDiff,↓reduceIte,Nat.reduceAdd,Nat.reduceLeDiff,Nat.reduceSub,Nat.reduceMul,Nat.reduceLT,Int.reduceBEq,Int.reduceBNe,Int.reduceToNat,Int.reduceLT,Int.reduceLE,Int.reduceAdd,Int.reduceSub,Int.reduceMul,reduceCtorEq,g5',g16',hs,hF.hm,bo,bC,du,AV.key,MK.fits,y5,and_self,true_and]
  refine gD ?_
  try simp only[ak,am,al,eq_self,implies_true,forall_eq_or_imp,forall_eq,Nat.reduceEqDiff,↓reduceIte,Nat.reduceAdd,Nat.reduceLeDiff,Nat.reduceSub,Nat.reduceMul,Nat.reduceLT,Int.reduceBEq,Int.reduceBNe,Int.reduceToNat,Int.reduceLT,Int.reduceLE,Int.reduceAdd,Int.reduceSub,Int.reduceMul,reduceCtorEq,g5',g16',hs,hF.hm,bo,bC,du,AV.key,MK.fits,and_self,true_and,aZ,dN,y4,f32a,f32b,f32c,f32d,hb32,hb32',Nat.add_assoc,List.length_map]
  refine⟨⟨by omega,by omega⟩,?_⟩
  refine⟨?_,hK _ _ _ (hQ _ ⟨by dsimp only;omega,λr hr=>?_,λb z hb hz=>?_⟩ (hB0 _ _ _ _ (by omega) (λr hr=>?_) ?_ ⟨ns.set i0 (nx1+160),hF.put_yes e4 y1 y2 y3 (f:=nx1+160) (by omega) (by omega) ?_ ?_ λb hb hne hnb=>?_⟩))⟩
  ·simp[gO,ni,bB,AOp.opers,aN,evO,ah,fsa,fsb,f32a,f32b,hbs32,hbs32',hbs0,hbs0',hb32,hb32']
  ·have hr':=hr;unfold beR at hr';simp only[ah];repeat rw[if_neg (by omega)]
   exact hR1 r hr
  ·have hb1:b<nx:=hb
   have hz1:hp b=some (.box z):=hz
   have e32:b≠32:=λc=>by subst c;rw[hF.hm]at hz1;cases hz1
   have eb0:b≠b0:=λc=>by subst c;rw[y4]at hz1;cases hz1
   simp only[ah,if_neg e32,if_neg eb0];rw[if_neg (by omega)];exact hz1
  ·have hr':=hr;unfold beR at hr';simp only[ah];repeat rw[if_neg (by omega)]
   exact hR1 r hr
  ·have hb00:(0=b0)=False:=by simp;rintro rfl;rw[h0]at y4;cases y4
   simp only[ah,hb00];rw[if_neg (by omega),if_neg (by omega),if_neg (by omega)];rfl
  ·simp only[ah,↓reduceIte];exact congrArg some (y6 none _)
  ·simp only[ah,f32b,↓reduceIte]
  ·simp only[ah,if_neg hne,if_neg hnb];rw[if_neg (by omega)]
def GM:AC:=.seq (.reg [⟨(some 52),.faddr 0 (.t 14),none⟩,⟨(some 53),.load false 1 (.t 52),none⟩,⟨(some 54),.faddr 1 (.t 14),none⟩,⟨(some 55),.load false 1 (.t 54),none⟩,⟨(some 56),.faddr 2 (.t 14),none⟩,⟨(some 57),.load false 1 (.t 56),none⟩,⟨(some 58),.build [(.val (.int .i64 0)),(.val (.int .i64 0)),(.val (.int .i64 0))] [(0,1,(.t 53)),(1,1,(.t 55)),(2,1,(.t 57))],none⟩,⟨(some 59),.faddr 1 (.t 14),none⟩,⟨(some 60),.load false 1 (.t 59),none⟩,⟨(some 61),.faddr 0 (.t 14),none⟩,⟨(some 62),.load false 1 (.t 61),none⟩,⟨(some 63),.faddr 3 (.t 14),none⟩,⟨(some 64),.load false 1 (.t 63),none⟩,⟨(some 65),.build [(.val (.int .i64 0)),(.val (.int .i64 0)),(.val (.int .i64 0))] [(0,1,(.t 60)),(1,1,(.t 62)),(2,1,(.t 64))],none⟩,⟨(some 66),.lit 3 2 (.agg [(.val (.int .i64 0)),(.val (.int .i64 0)),(.val (.int .i64 0))]) [(0,(.t 58)),(1,(.t 65))],none⟩,⟨(some 67),.len (.t 66),none⟩,⟨(some 68),.move (.c (.val (.int .i64 0))),none⟩])
 (.block 6 (.loop (.seq (.reg [⟨(some 69),.bin .lss (.t 68) (.t 67),none⟩])
 (.seq (.cond (.t 69) (.skip) (.exit 6))
 (.seq (.block 7 (.seq (.reg [⟨(some 70),.iaddr 3 (.t 66) (.t 68),none⟩,⟨(some 71),.load true 3 (.t 70),none⟩,⟨(some 16),.box (.c (.agg [(.val (.int .i64 0)),(.val (.int .i64 0)),(.val (.int .i64 0))])),none⟩,⟨none,.store 3 (.t 16) (.t 71),none⟩])
 GJ))
 (.reg [⟨(some 134),.bin .add (.t 68) (.c (.val (.int .i64 1))),none⟩,⟨(some 68),.move (.t 134),none⟩]))))))
def GO:AC:=.seq (.reg [⟨(some 45),.faddr 1 (.t 2),none⟩,⟨(some 46),.load false 1 (.t 45),none⟩,⟨(some 47),.len (.t 46),none⟩,⟨(some 48),.move (.c (.val (.int .i64 0))),none⟩])
 (.block 4 (.loop (.seq (.reg [⟨(some 49),.bin .lss (.t 48) (.t 47),none⟩])
 (.seq (.cond (.t 49) (.skip) (.exit 4))
 (.seq (.block 5 (.seq (.reg [⟨(some 50),.iaddr 5 (.t 46) (.t 48),none⟩,⟨(some 51),.load true 5 (.t 50),none⟩,⟨(some 14),.box (.c (.agg [(.val (.int .i64 0)),(.val (.int .i64 0)),(.val (.int .i64 0)),(.val (.int .i64 0)),(.val (.int .i64 0))])),none⟩,⟨none,.store 5 (.t 14) (.t 51),none⟩])
 GM))
 (.reg [⟨(some 135),.bin .add (.t 48) (.c (.val (.int .i64 1))),none⟩,⟨(some 48),.move (.t 135),none⟩]))))))
def GQ:AC:=.seq (.reg [⟨(some 38),.faddr 0 (.t 2),none⟩,⟨(some 39),.load false 1 (.t 38),none⟩,⟨(some 40),.len (.t 39),none⟩,⟨(some 41),.move (.c (.val (.int .i64 0))),none⟩])
 (.block 2 (.loop (.seq (.reg [⟨(some 42),.bin .lss (.t 41) (.t 40),none⟩])
 (.seq (.cond (.t 42) (.skip) (.exit 2))
 (.seq (.block 3 (.seq (.reg [⟨(some 43),.iaddr 2 (.t 39) (.t 41),none⟩,⟨(some 44),.load true 2 (.t 43),none⟩,⟨(some 12),.box (.c (.agg [(.val (.int .i64 0)),(.val (.bool false))])),none⟩,⟨none,.store 2 (.t 12) (.t 44),none⟩])
 GO))
 (.reg [⟨(some 136),.bin .add (.t 41) (.c (.val (.int .i64 1))),none⟩,⟨(some 41),.move (.t 136),none⟩]))))))
def lst(l:Lnk):List (Int×Int×Int):=[(l.a,l.b,l.ca),(l.b,l.a,l.cb)]
def be2(t:Tpl)(h:Hop)(c d:Int)(M:Rws)(l:Lnk):Rws:=(lst l).foldl (beI t h c d) M
def be3(t:Tpl)(h:Hop)(c:Int)(M:Rws)(d:Rtr):Rws:=t.ls.foldl (be2 t h c d.id) M
structure fL (t:Tpl) (M:Rws):Prop where
  nd:∀p∈M,p.2.Nodup
  el:∀p∈M,∀y∈p.2,aI t y=true
  ky:∀p∈M,aI t p.1=true
theorem tl{t:Tpl}{y:Int}:aI t y=true↔y∈t.rs.map (·.id):=by
 unfold aI
 rw[List.any_eq_true,List.mem_map]
 constructor
 ·rintro⟨r,hr,e⟩;exact⟨r,hr,eq_of_beq e⟩
 ·rintro⟨r,hr,rfl⟩;exact⟨r,hr,beq_self_eq_true _⟩
theorem fL.pu{t:Tpl}{M:Rws}(h:fL t M){x y:Int}(hx:aI t x=true)(hy:aI t y=true)(hn:y ∉ az M x []):fL t (pu M x y):=by
 have hv:(az M x []).Nodup∧∀z∈az M x [],aI t z=true:=by
  cases e:aU M x with
  | false=>rw[cn e];exact⟨List.nodup_nil,λz hz=>by simp at hz⟩
  | true=>exact⟨h.nd _ (bG e),h.el _ (bG e)⟩
 have key:∀p∈Go.Proofs.YtdbdndmdbbihbaaGreat.pu M x y,p∈M∨p=(x,az M x []++[y]):=λp hp=>by
  unfold Go.Proofs.YtdbdndmdbbihbaaGreat.pu at hp
  cases e:aU M x with
  | false =>
   rw[pO e]at hp
   rcases List.mem_append.mp hp with hp|hp
   ·exact .inl hp
   ·exact .inr (List.mem_singleton.mp hp)
  | true=>rw[mo e]at hp;exact List.mem_or_eq_of_mem_set hp
 refine⟨λp hp=>?_,λp hp z hz=>?_,λp hp=>?_⟩
 ·rcases key p hp with hp|rfl
  ·exact h.nd p hp
  ·exact List.nodup_append.mpr ⟨hv.1,by simp,λa ha b hb=>by rw[List.mem_singleton.mp hb];rintro rfl;exact hn ha⟩
 ·rcases key p hp with hp|rfl
  ·exact h.el p hp z hz
  ·rcases List.mem_append.mp hz with hz|hz
   ·exact hv.2 z hz
   ·rw[List.mem_singleton.mp hz];exact hy
 ·rcases key p hp with hp|rfl
  ·exact h.ky p hp
  ·exact hx
theorem fL.len{t:Tpl}{M:Rws}(h:fL t M)(hc:aJ t=0):∀p∈M,p.2.length≤24:=λp hp=>by
 have:=List.Nodup.length_le_of_subset (h.nd p hp) (show p.2 ⊆ t.rs.map (·.id)from λy hy=>tl.mp (h.el p hp y hy))
 rw[List.length_map]at this
 have:=(cH hc).1;omega
theorem fL.val{t:Tpl}{M:Rws}(h:fL t M)(hc:aJ t=0)(x:Int):(az M x []).length≤24:=by
 cases e:aU M x with
 | false=>rw[cn e];simp
 | true=>exact h.len hc _ (bG e)
theorem fL.beI{t:Tpl}{M:Rws}(h:fL t M){hp:Hop}{c d:Int}{s:Int×Int×Int}(hx:aI t s.1=true)(hy:aI t s.2.1=true):fL t (beI t hp c d M s):=by
 unfold Go.Proofs.YtdbdndmdbbihbaaGreat.beI
 split
 ·rename_i e
  refine h.pu hx hy ?_
  unfold beQ at e
  simp only[Bool.and_eq_true,Bool.not_eq_true',decide_eq_false_iff_not]at e
  exact e.2.2.2.2
 ·exact h
theorem BeB.keep{t:Tpl}{ds:List Hop}{s s':S3}{M:Rws}(h:BeB t ds s M)(hn:s.nx≤s'.nx)(ht:∀r,r<7→s'.tm r=s.tm r)(hh:∀b,b<s.nx→s'.hp b=s.hp b):BeB t ds s' M:=by
 obtain⟨n1,t1,t2,h0,t5,t6,ns,hF⟩:=h
 exact⟨by omega,(ht 1 (by omega)).trans t1,(ht 2 (by omega)).trans t2,(hh 0 (by omega)).trans h0,(ht 5 (by omega)).trans t5,(ht 6 (by omega)).trans t6,ns,hF.keep (λb hb _=>hh b hb) hn⟩
theorem ef{α β:Type}(f:β→α→β)(b:β){l:List α}{k:Nat}{x:α}(h:l[k]?=some x):(l.take (k+1)).foldl f b=f ((l.take k).foldl f b) x:=by rw[aV h,List.foldl_append];rfl
def r4(r:Nat):Prop:=r<16∨18≤r∧r<52
def r3(r:Nat):Prop:=r<14∨18≤r∧r<45
def r2(r:Nat):Prop:=r<12∨18≤r∧r<38
theorem GL(t:Tpl)(hc:aJ t=0)(ds:List Hop)(h:Hop)(c d:Int)(fl:AV)(l:Lnk)(hlm:l∈t.ls)(s:S3)(M:Rws)(hI:fL t M)(bh bd bl:Nat)(hB:BeB t ds s M)(g8:s.tm 8=.ref bh 0)(g9:s.tm 9=.int c)(g12:s.tm 12=.ref bd 0)(g14:s.tm 14=.ref bl 0)
  (hh:s.hp bh=some (.box (.agg [.int h.a,.int h.b]))) (hd:s.hp bd=some (.box (.agg [.int d,fl]))) (hl:s.hp bl=some (.box (Lnk.v l))) (b1:bh<s.nx) (b2:bd<s.nx) (b3:bl<s.nx) (k:Nat) (Q:X→S3→Prop)
  (hQ:∀s',Kp r4 s s'→BeB t ds s' (be2 t h c d M l)→fL t (be2 t h c d M l)→Q .normal s'):AWP Tryz.prog 0 k GM Q s:=by
 obtain⟨hla,hlb⟩:=(aC hc).has l hlm
 have hmem:∀z∈lst l,aI t z.1=true∧aI t z.2.1=true:=λz hz=>by
  unfold lst at hz
  simp only[List.mem_cons,List.not_mem_nil,or_false]at hz
  rcases hz with rfl|rfl
  ·exact⟨hla,hlb⟩
  ·exact⟨hlb,hla⟩
 obtain⟨tm,hp,nx⟩:=s
 simp only at g8 g9 g12 g14 hh hd hl b1 b2 b3
 unfold GM
 refine AWP.seq' ?_
 refine AWP.reg' λK hK=>?_
 try simp only[ak,am,al,eq_self,implies_true,forall_eq_or_imp,forall_eq,Nat.reduceEqDiff,↓reduceIte,Nat.reduceAdd,Nat.reduceLeDiff,Nat.reduceSub,Nat.reduceMul,Nat.reduceLT,Int.reduceBEq,Int.reduceBNe,Int.reduceToNat,Int.reduceLT,Int.reduceLE,Int.reduceAdd,Int.reduceSub,Int.reduceMul,reduceCtorEq,g14,hl,Lnk.v]
 refine qv ?_
 try simp only[ak,am,al,eq_self,implies_true,forall_eq_or_imp,forall_eq,Nat.reduceEqDiff,↓reduceIte,Nat.reduceAdd,Nat.reduceLeDiff,Nat.reduceSub,Nat.reduceMul,Nat.reduceLT,Int.reduceBEq,Int.reduceBNe,Int.reduceToNat,Int.reduceLT,Int.reduceLE,Int.reduceAdd,Int.reduceSub,Int.reduceMul,reduceCtorEq,g14,hl,Lnk.v]
 refine hK _ _ _ ?_
 clear hK K
 refine AWP.block ?_
 refine AWP.loopS (λu:S3×Nat=>u.1) (λu=>(u.2≤2∧fL t (((lst l).take u.2).foldl (beI t h c d) M))∧Kp r4 ⟨tm,hp,nx⟩ u.1∧BeB t ds u.1 (((lst l).take u.2).foldl (beI t h c d) M) ∧
  u.1.tm 66=.sl 3 ((lst l).map λz=>AV.agg [.int z.1,.int z.2.1,.int z.2.2]) true∧u.1.tm 67=.int 2∧u.1.tm 68=.int (u.2:Nat)) (λu=>2-u.2) (i0:=(_,0)) ?_ ay.refl ?_
 ·refine⟨⟨Nat.zero_le _,hI⟩,⟨by dsimp only;omega,λr hr=>?_,λb x _ hx=>hx⟩,hB.keep (by dsimp only;omega) (λr hr=>?_) (λ_ _=>rfl),rfl,rfl,rfl⟩
  ·unfold r4 at hr;simp only[ah];repeat rw[if_neg (by omega)]
  ·simp only[ah];repeat rw[if_neg (by omega)]
 ·rintro⟨⟨tm1,hp1,nx1⟩,z⟩ ⟨⟨hz,hI1⟩,hK1,hB1,t66,t67,t68⟩
  simp only at hz hI1 t66 t67 t68 ⊢
  refine AWP.seq' ?_
  refine AWP.reg' λK hK=>?_
  try simp only[ak,am,al,eq_self,implies_true,forall_eq_or_imp,forall_eq,Nat.reduceEqDiff,↓reduceIte,Nat.reduceAdd,Nat.reduceLeDiff,Nat.reduceSub,Nat.reduceMul,Nat.reduceLT,Int.reduceBEq,Int.reduceBNe,Int.reduceToNat,Int.reduceLT,Int.reduceLE,Int.reduceAdd,Int.reduceSub,Int.reduceMul,reduceCtorEq,t67,t68]
  refine hK _ _ _ ?_
  clear hK K
  refine AWP.seq' ?_
  refine AWP.cond (b:=decide ((z:Int)<2)) rfl (λe=>?_) (λe=>?_)
  ·have e:z<2:=by have:=of_decide_eq_true e;omega
   refine AWP.skip ?_
   refine AWP.seq' (AWP.block (AWP.seq' ?_))
   have hzl:z<(lst l).length:=e
   have hy:(lst l)[z]?=some (lst l)[z]:=List.getElem?_eq_getElem hzl
   generalize (lst l)[z]=sz at hy
   obtain⟨x,y,w⟩:=sz
   obtain⟨hx5,hy5⟩:=hmem _ (List.mem_of_getElem? hy)
   have hge:((lst l).map λz=>AV.agg [.int z.1,.int z.2.1,.int z.2.2]).getD z .unk=.agg [.int x,.int y,.int w]:=by rw[List.getD_eq_getElem?_getD,List.getElem?_map,hy];rfl
   have hll:(lst l).length=2:=rfl
   have k8:=(hK1.tm 8 (.inl (by omega))).trans g8
   have k9:=(hK1.tm 9 (.inl (by omega))).trans g9
   have k12:=(hK1.tm 12 (.inl (by omega))).trans g12
   have kh:=hK1.hp _ _ b1 hh
   have kd:=hK1.hp _ _ b2 hd
   have kn:nx≤nx1:=hK1.nx
   simp only at k8 k9 k12 kh kd
   refine AWP.reg' λK hK=>?_
   try simp only[ak,am,al,eq_self,implies_true,forall_eq_or_imp,forall_eq,Nat.reduceEqDiff,↓reduceIte,Nat.reduceAdd,Nat.reduceLeDiff,Nat.reduceSub,Nat.reduceMul,Nat.reduceLT,Int.reduceBEq,Int.reduceBNe,Int.reduceToNat,Int.reduceLT,Int.reduceLE,Int.reduceAdd,Int.reduceSub,Int.reduceMul,reduceCtorEq,t66,t68,hge,hll,Int.toNat_natCast,List.length_map]
   refine⟨⟨by omega,by omega⟩,?_⟩
   refine hK _ _ _ ?_
   clear hK K
   have hpl:∀(v1 v2 v3:Option Blk) b,b<nx1→upd (upd (upd hp1 (nx1+16+16+16) v1) (nx1+16+16+16) v2) (nx1+16+16+16) v3 b=hp1 b:=λv1 v2 v3 b hb=>by
    simp only[ah];repeat rw[if_neg (by omega)]
   refine GI t ds h c d x y w fl _ (((lst l).take z).foldl (beI t h c d) M) bh bd (nx1+16+16+16) (hB1.keep (by dsimp only;omega) (λr hr=>?_) (λb hb=>hpl _ _ _ b hb)) ?_ ?_ ?_ rfl ?_ ?_ (ai _ _ _) (by dsimp only;omega) (by have:=hI1.val hc x;omega) k _ (λs' hk hb=>?_)
   ·simp only[ah];repeat rw[if_neg (by omega)]
   ·simp only[ah];exact k8
   ·simp only[ah];exact k9
   ·simp only[ah];exact k12
   ·dsimp only;rw[hpl _ _ _ _ (by omega)];exact kh
   ·dsimp only;rw[hpl _ _ _ _ (by omega)];exact kd
   ·obtain⟨tm2,hp2,nx2⟩:=s'
    refine(show AWP _ _ _ _ _ _ from ?_)
    have q66:tm2 66=_:=(hk.tm 66 (.inr ⟨by omega,by omega⟩)).trans t66
    have q67:tm2 67=_:=(hk.tm 67 (.inr ⟨by omega,by omega⟩)).trans t67
    have q68:tm2 68=_:=(hk.tm 68 (.inr ⟨by omega,by omega⟩)).trans t68
    have hw:IntKind.i64.wrap ((z:Int)+1)=((z+1:Nat):Int):=j8 (by omega) (by omega)
    refine AWP.reg' λK hK=>?_
    try simp only[ak,am,al,eq_self,implies_true,forall_eq_or_imp,forall_eq,Nat.reduceEqDiff,↓reduceIte,Nat.reduceAdd,Nat.reduceLeDiff,Nat.reduceSub,Nat.reduceMul,Nat.reduceLT,Int.reduceBEq,Int.reduceBNe,Int.reduceToNat,Int.reduceLT,Int.reduceLE,Int.reduceAdd,Int.reduceSub,Int.reduceMul,reduceCtorEq,q68,hw]
    refine hK _ _ _ ?_
    clear hK K
    have hkn:nx1+16+16+16+16+16≤nx2:=hk.nx
    have hF1:((lst l).take (z+1)).foldl (beI t h c d) M=beI t h c d (((lst l).take z).foldl (beI t h c d) M) (x,y,w):=ef _ _ hy
    refine⟨(_,z+1),⟨⟨by dsimp only;omega,?_⟩,⟨by dsimp only;omega,λr hr=>?_,λb v hb hv=>?_⟩,?_,?_,?_,?_⟩,by dsimp only;omega,ay.refl⟩
    ·dsimp only;rw[hF1];exact hI1.beI hx5 hy5
    ·have hr':=hr
     unfold r4 at hr'
     have e1:=hk.tm r (by unfold beR;omega)
     have e2:=hK1.tm r hr
     dsimp only at e1 e2 ⊢
     simp only[ah]at e1 ⊢
     rw[if_neg (by omega),if_neg (by omega),e1]
     repeat rw[if_neg (by omega)]
     exact e2
    ·have e2:=hK1.hp b v hb hv
     have hb':b<nx:=hb
     refine hk.hp b v (by dsimp only;omega) ?_
     dsimp only
     rw[hpl _ _ _ _ (by omega)];exact e2
    ·dsimp only;rw[hF1];exact hb.keep (by dsimp only;omega) (λr hr=>by simp only[ah];repeat rw[if_neg (by omega)]) (λ_ _=>rfl)
    ·simp only[ah];exact q66
    ·simp only[ah];exact q67
    ·simp only[ah];rfl
  ·have e:z=2:=by have:=of_decide_eq_false e;omega
   subst e
   refine AWP.exit ?_
   refine(show Q .normal _ from ?_)
   have hT:(lst l).take 2=lst l:=rfl
   rw[hT]at hI1 hB1
   refine hQ _ ⟨?_,λr hr=>?_,λb x hb hx=>hK1.hp b x hb hx⟩ (hB1.keep (by dsimp only;omega) (λr hr=>?_) (λ_ _=>rfl)) hI1
   ·have:=hK1.nx;dsimp only at this ⊢;omega
   ·have e2:=hK1.tm r hr
    unfold r4 at hr;dsimp only at e2 ⊢;simp only[ah];rw[if_neg (by omega)];exact e2
   ·simp only[ah];rw[if_neg (by omega)]
theorem GN(t:Tpl)(hc:aJ t=0)(ds:List Hop)(h:Hop)(c:Int)(d:Int)(fl:AV)(s:S3)(M:Rws)(hI:fL t M)(bh bd:Nat)(hB:BeB t ds s M)(g8:s.tm 8=.ref bh 0)(g9:s.tm 9=.int c)(g12:s.tm 12=.ref bd 0)
  (hh:s.hp bh=some (.box (.agg [.int h.a,.int h.b]))) (hd:s.hp bd=some (.box (.agg [.int d,fl]))) (b1:bh<s.nx) (b2:bd<s.nx) (k:Nat) (Q:X→S3→Prop)
  (hQ:∀s',Kp r3 s s'→BeB t ds s' (t.ls.foldl (be2 t h c d) M)→fL t (t.ls.foldl (be2 t h c d) M)→Q .normal s'):AWP Tryz.prog 0 k GO Q s:=by
 have hnl:=cH hc
 have hml:=bj
 obtain⟨tm,hp,nx⟩:=s
 simp only at g8 g9 g12 hd hh b1 b2
 have q2:=hB.t2
 have q0:=hB.h0
 simp only at q2 q0
 unfold GO
 refine AWP.seq' ?_
 refine AWP.reg' λK hK=>?_
 try simp only[ak,am,al,eq_self,implies_true,forall_eq_or_imp,forall_eq,Nat.reduceEqDiff,↓reduceIte,Nat.reduceAdd,Nat.reduceLeDiff,Nat.reduceSub,Nat.reduceMul,Nat.reduceLT,Int.reduceBEq,Int.reduceBNe,Int.reduceToNat,Int.reduceLT,Int.reduceLE,Int.reduceAdd,Int.reduceSub,Int.reduceMul,reduceCtorEq,q2,q0,Tpl.v,List.length_map]
 repeat (refine And.intro (by omega) ?_)
 refine hK _ _ _ ?_
 clear hK K
 refine AWP.block ?_
 refine AWP.loopS (λu:S3×Nat=>u.1) (λu=>(u.2≤t.ls.length∧fL t ((t.ls.take u.2).foldl (be2 t h c d) M))∧Kp r3 ⟨tm,hp,nx⟩ u.1∧BeB t ds u.1 ((t.ls.take u.2).foldl (be2 t h c d) M) ∧
  u.1.tm 46=.sl 5 (t.ls.map Lnk.v) false∧u.1.tm 47=.int t.ls.length∧u.1.tm 48=.int (u.2:Nat)) (λu=>t.ls.length-u.2) (i0:=(_,0)) ?_ ay.refl ?_
 ·refine⟨⟨Nat.zero_le _,hI⟩,⟨by dsimp only;omega,λr hr=>?_,λb x _ hx=>hx⟩,hB.keep (by dsimp only;omega) (λr hr=>?_) (λ_ _=>rfl),rfl,rfl,rfl⟩
  ·unfold r3 at hr;simp only[ah];repeat rw[if_neg (by omega)]
  ·simp only[ah];repeat rw[if_neg (by omega)]
 ·rintro⟨⟨tm1,hp1,nx1⟩,z⟩ ⟨⟨hz,hI1⟩,hK1,hB1,tL,tN,tI⟩
  simp only at hz hI1 tL tN tI ⊢
  refine AWP.seq' ?_
  refine AWP.reg' λK hK=>?_
  try simp only[ak,am,al,eq_self,implies_true,forall_eq_or_imp,forall_eq,Nat.reduceEqDiff,↓reduceIte,Nat.reduceAdd,Nat.reduceLeDiff,Nat.reduceSub,Nat.reduceMul,Nat.reduceLT,Int.reduceBEq,Int.reduceBNe,Int.reduceToNat,Int.reduceLT,Int.reduceLE,Int.reduceAdd,Int.reduceSub,Int.reduceMul,reduceCtorEq,tN,tI]
  refine hK _ _ _ ?_
  clear hK K
  refine AWP.seq' ?_
  refine AWP.cond (b:=decide ((z:Int)<(t.ls.length:Int))) rfl (λe=>?_) (λe=>?_)
  ·have e:z<t.ls.length:=by have:=of_decide_eq_true e;omega
   refine AWP.skip ?_
   refine AWP.seq' (AWP.block (AWP.seq' ?_))
   have hy:t.ls[z]?=some t.ls[z]:=List.getElem?_eq_getElem e
   generalize t.ls[z]=x at hy
   have hge:(t.ls.map Lnk.v).getD z .unk=Lnk.v x:=by rw[List.getD_eq_getElem?_getD,List.getElem?_map,hy];rfl
   have k8:=(hK1.tm 8 (.inl (by omega))).trans g8
   have k9:=(hK1.tm 9 (.inl (by omega))).trans g9
   have k12:=(hK1.tm 12 (.inl (by omega))).trans g12
   have kh:=hK1.hp _ _ b1 hh
   have kd:=hK1.hp _ _ b2 hd
   have kn:nx≤nx1:=hK1.nx
   simp only at k8 k9 kh k12 kd
   refine AWP.reg' λK hK=>?_
   try simp only[ak,am,al,eq_self,implies_true,forall_eq_or_imp,forall_eq,Nat.reduceEqDiff,↓reduceIte,Nat.reduceAdd,Nat.reduceLeDiff,Nat.reduceSub,Nat.reduceMul,Nat.reduceLT,Int.reduceBEq,Int.reduceBNe,Int.reduceToNat,Int.reduceLT,Int.reduceLE,Int.reduceAdd,Int.reduceSub,Int.reduceMul,reduceCtorEq,tL,tI,hge,Int.toNat_natCast,List.length_map,Lnk.v]
   refine⟨⟨by omega,by omega⟩,?_⟩
   refine hK _ _ _ ?_
   clear hK K
   have hpl:∀(v1 v2 v3:Option Blk) b,b<nx1→upd (upd (upd hp1 (nx1+16+16+16) v1) (nx1+16+16+16) v2) (nx1+16+16+16) v3 b=hp1 b:=λv1 v2 v3 b hb=>by
    simp only[ah];repeat rw[if_neg (by omega)]
   have hBn:BeB t ds ⟨_,_,_⟩ ((t.ls.take z).foldl (be2 t h c d) M):=hB1.keep (s':=⟨upd (upd (upd (upd tm1 49 (AV.bool (decide ((z:Int)<(t.ls.length:Int))))) 50 ((Lnk.v x).rptr 0)) 51 (Lnk.v x)) 14 (.ref (nx1+16+16+16) 0),upd (upd (upd hp1 (nx1+16+16+16) (some (.box (.agg [.int 0,.int 0,.int 0,.int 0,.int 0])))) (nx1+16+16+16) none) (nx1+16+16+16) (some (.box (Lnk.v x))),nx1+16+16+16+16+16⟩) (by dsimp only;omega) (λr hr=>by simp only[ah];repeat rw[if_neg (by omega)]) (λb hb=>hpl _ _ _ b hb)
   refine GL t hc ds h c d fl x (List.mem_of_getElem? hy) _ _ hI1 bh bd (nx1+16+16+16) hBn ?_ ?_ ?_ rfl ?_ ?_ (ai _ _ _) ?_ ?_ ?_ k _ (λs' hk hb hi=>?_)
   ·simp only[ah];exact k8
   ·simp only[ah];exact k9
   ·simp only[ah];exact k12
   ·dsimp only;rw[hpl _ _ _ _ (by omega)];exact kh
   ·dsimp only;rw[hpl _ _ _ _ (by omega)];exact kd
   ·dsimp only;omega
   ·dsimp only;omega
   ·dsimp only;omega
   ·obtain⟨tm2,hp2,nx2⟩:=s'
    refine(show AWP _ _ _ _ _ _ from ?_)
    have qL:tm2 46=_:=(hk.tm 46 (.inr ⟨by omega,by omega⟩)).trans tL
    have qN:tm2 47=_:=(hk.tm 47 (.inr ⟨by omega,by omega⟩)).trans tN
    have qI:tm2 48=_:=(hk.tm 48 (.inr ⟨by omega,by omega⟩)).trans tI
    have hw:IntKind.i64.wrap ((z:Int)+1)=((z+1:Nat):Int):=j8 (by omega) (by omega)
    refine AWP.reg' λK hK=>?_
    try simp only[ak,am,al,eq_self,implies_true,forall_eq_or_imp,forall_eq,Nat.reduceEqDiff,↓reduceIte,Nat.reduceAdd,Nat.reduceLeDiff,Nat.reduceSub,Nat.reduceMul,Nat.reduceLT,Int.reduceBEq,Int.reduceBNe,Int.reduceToNat,Int.reduceLT,Int.reduceLE,Int.reduceAdd,Int.reduceSub,Int.reduceMul,reduceCtorEq,qI,hw]
    refine hK _ _ _ ?_
    clear hK K
    have hkn:nx1+16+16+16+16+16≤nx2:=hk.nx
    have hF1:(t.ls.take (z+1)).foldl (be2 t h c d) M=(be2 t h c d) ((t.ls.take z).foldl (be2 t h c d) M) x:=ef _ _ hy
    refine⟨(_,z+1),⟨⟨by dsimp only;omega,?_⟩,⟨by dsimp only;omega,λr hr=>?_,λb v hb' hv=>?_⟩,?_,?_,?_,?_⟩,by dsimp only;omega,ay.refl⟩
    ·dsimp only;rw[hF1];exact hi
    ·have hr':=hr
     unfold r3 at hr'
     have e1:=hk.tm r (by unfold r4;omega)
     have e2:=hK1.tm r hr
     dsimp only at e1 e2 ⊢
     simp only[ah]at e1 ⊢
     rw[if_neg (by omega),if_neg (by omega),e1]
     repeat rw[if_neg (by omega)]
     exact e2
    ·have e2:=hK1.hp b v hb' hv
     have hb':b<nx:=hb'
     refine hk.hp b v (by dsimp only;omega) ?_
     dsimp only
     rw[hpl _ _ _ _ (by omega)];exact e2
    ·dsimp only;rw[hF1];exact hb.keep (by dsimp only;omega) (λr hr=>by simp only[ah];repeat rw[if_neg (by omega)]) (λ_ _=>rfl)
    ·simp only[ah];exact qL
    ·simp only[ah];exact qN
    ·simp only[ah];rfl
  ·have e:z=t.ls.length:=by have:=of_decide_eq_false e;omega
   subst e
   refine AWP.exit ?_
   refine(show Q .normal _ from ?_)
   rw[List.take_length]at hI1 hB1
   refine hQ _ ⟨?_,λr hr=>?_,λb x hb hx=>hK1.hp b x hb hx⟩ (hB1.keep (by dsimp only;omega) (λr hr=>?_) (λ_ _=>rfl)) hI1
   ·have:=hK1.nx;dsimp only at this ⊢;omega
   ·have e2:=hK1.tm r hr
    unfold r3 at hr;dsimp only at e2 ⊢;simp only[ah];rw[if_neg (by omega)];exact e2
   ·simp only[ah];rw[if_neg (by omega)]
theorem GP(t:Tpl)(hc:aJ t=0)(ds:List Hop)(h:Hop)(c:Int)  (s:S3) (M:Rws) (hI:fL t M) (bh:Nat) (hB:BeB t ds s M) (g8:s.tm 8=.ref bh 0) (g9:s.tm 9=.int c) 
  (hh:s.hp bh=some (.box (.agg [.int h.a,.int h.b])))  (b1:bh<s.nx) (k:Nat) (Q:X→S3→Prop)
  (hQ:∀s',Kp r2 s s'→BeB t ds s' (t.rs.foldl (be3 t h c) M)→fL t (t.rs.foldl (be3 t h c) M)→Q .normal s'):AWP Tryz.prog 0 k GQ Q s:=by
 have hnl:=cH hc
 have hml:=bj
 obtain⟨tm,hp,nx⟩:=s
 simp only at g8 g9  hh b1
 have q2:=hB.t2
 have q0:=hB.h0
 simp only at q2 q0
 unfold GQ
 refine AWP.seq' ?_
 refine AWP.reg' λK hK=>?_
 try simp only[ak,am,al,eq_self,implies_true,forall_eq_or_imp,forall_eq,Nat.reduceEqDiff,↓reduceIte,Nat.reduceAdd,Nat.reduceLeDiff,Nat.reduceSub,Nat.reduceMul,Nat.reduceLT,Int.reduceBEq,Int.reduceBNe,Int.reduceToNat,Int.reduceLT,Int.reduceLE,Int.reduceAdd,Int.reduceSub,Int.reduceMul,reduceCtorEq,q2,q0,Tpl.v,List.length_map]
 repeat (refine And.intro (by omega) ?_)
 refine hK _ _ _ ?_
 clear hK K
 refine AWP.block ?_
 refine AWP.loopS (λu:S3×Nat=>u.1) (λu=>(u.2≤t.rs.length∧fL t ((t.rs.take u.2).foldl (be3 t h c) M))∧Kp r2 ⟨tm,hp,nx⟩ u.1∧BeB t ds u.1 ((t.rs.take u.2).foldl (be3 t h c) M) ∧
  u.1.tm 39=.sl 2 (t.rs.map Rtr.v) false∧u.1.tm 40=.int t.rs.length∧u.1.tm 41=.int (u.2:Nat)) (λu=>t.rs.length-u.2) (i0:=(_,0)) ?_ ay.refl ?_
 ·refine⟨⟨Nat.zero_le _,hI⟩,⟨by dsimp only;omega,λr hr=>?_,λb x _ hx=>hx⟩,hB.keep (by dsimp only;omega) (λr hr=>?_) (λ_ _=>rfl),rfl,rfl,rfl⟩
  ·unfold r2 at hr;simp only[ah];repeat rw[if_neg (by omega)]
  ·simp only[ah];repeat rw[if_neg (by omega)]
 ·rintro⟨⟨tm1,hp1,nx1⟩,z⟩ ⟨⟨hz,hI1⟩,hK1,hB1,tL,tN,tI⟩
  simp only at hz hI1 tL tN tI ⊢
  refine AWP.seq' ?_
  refine AWP.reg' λK hK=>?_
  try simp only[ak,am,al,eq_self,implies_true,forall_eq_or_imp,forall_eq,Nat.reduceEqDiff,↓reduceIte,Nat.reduceAdd,Nat.reduceLeDiff,Nat.reduceSub,Nat.reduceMul,Nat.reduceLT,Int.reduceBEq,Int.reduceBNe,Int.reduceToNat,Int.reduceLT,Int.reduceLE,Int.reduceAdd,Int.reduceSub,Int.reduceMul,reduceCtorEq,tN,tI]
  refine hK _ _ _ ?_
  clear hK K
  refine AWP.seq' ?_
  refine AWP.cond (b:=decide ((z:Int)<(t.rs.length:Int))) rfl (λe=>?_) (λe=>?_)
  ·have e:z<t.rs.length:=by have:=of_decide_eq_true e;omega
   refine AWP.skip ?_
   refine AWP.seq' (AWP.block (AWP.seq' ?_))
   have hy:t.rs[z]?=some t.rs[z]:=List.getElem?_eq_getElem e
   generalize t.rs[z]=x at hy
   have hge:(t.rs.map Rtr.v).getD z .unk=Rtr.v x:=by rw[List.getD_eq_getElem?_getD,List.getElem?_map,hy];rfl
   have k8:=(hK1.tm 8 (.inl (by omega))).trans g8
   have k9:=(hK1.tm 9 (.inl (by omega))).trans g9
   skip
   have kh:=hK1.hp _ _ b1 hh
   skip
   have kn:nx≤nx1:=hK1.nx
   simp only at k8 k9 kh 
   refine AWP.reg' λK hK=>?_
   try simp only[ak,am,al,eq_self,implies_true,forall_eq_or_imp,forall_eq,Nat.reduceEqDiff,↓reduceIte,Nat.reduceAdd,Nat.reduceLeDiff,Nat.reduceSub,Nat.reduceMul,Nat.reduceLT,Int.reduceBEq,Int.reduceBNe,Int.reduceToNat,Int.reduceLT,Int.reduceLE,Int.reduceAdd,Int.reduceSub,Int.reduceMul,reduceCtorEq,tL,tI,hge,Int.toNat_natCast,List.length_map,Rtr.v]
   refine⟨⟨by omega,by omega⟩,?_⟩
   refine hK _ _ _ ?_
   clear hK K
   have hpl:∀(v1 v2 v3:Option Blk) b,b<nx1→upd (upd (upd hp1 (nx1+16+16+16) v1) (nx1+16+16+16) v2) (nx1+16+16+16) v3 b=hp1 b:=λv1 v2 v3 b hb=>by
    simp only[ah];repeat rw[if_neg (by omega)]
   have hBn:BeB t ds ⟨_,_,_⟩ ((t.rs.take z).foldl (be3 t h c) M):=hB1.keep (s':=⟨upd (upd (upd (upd tm1 42 (AV.bool (decide ((z:Int)<(t.rs.length:Int))))) 43 ((Rtr.v x).rptr 0)) 44 (Rtr.v x)) 12 (.ref (nx1+16+16+16) 0),upd (upd (upd hp1 (nx1+16+16+16) (some (.box (.agg [.int 0,.bool false])))) (nx1+16+16+16) none) (nx1+16+16+16) (some (.box (Rtr.v x))),nx1+16+16+16+16+16⟩) (by dsimp only;omega) (λr hr=>by simp only[ah];repeat rw[if_neg (by omega)]) (λb hb=>hpl _ _ _ b hb)
   refine GN t hc ds h c x.id (.bool x.cap) _ _ hI1 bh (nx1+16+16+16) hBn ?_ ?_ rfl ?_ (ai _ _ _) ?_ ?_ k _ (λs' hk hb hi=>?_)
   ·simp only[ah];exact k8
   ·simp only[ah];exact k9
   ·dsimp only;rw[hpl _ _ _ _ (by omega)];exact kh
   ·dsimp only;omega
   ·dsimp only;omega
   ·obtain⟨tm2,hp2,nx2⟩:=s'
    refine(show AWP _ _ _ _ _ _ from ?_)
    have qL:tm2 39=_:=(hk.tm 39 (.inr ⟨by omega,by omega⟩)).trans tL
    have qN:tm2 40=_:=(hk.tm 40 (.inr ⟨by omega,by omega⟩)).trans tN
    have qI:tm2 41=_:=(hk.tm 41 (.inr ⟨by omega,by omega⟩)).trans tI
    have hw:IntKind.i64.wrap ((z:Int)+1)=((z+1:Nat):Int):=j8 (by omega) (by omega)
    refine AWP.reg' λK hK=>?_
    try simp only[ak,am,al,eq_self,implies_true,forall_eq_or_imp,forall_eq,Nat.reduceEqDiff,↓reduceIte,Nat.reduceAdd,Nat.reduceLeDiff,Nat.reduceSub,Nat.reduceMul,Nat.reduceLT,Int.reduceBEq,Int.reduceBNe,Int.reduceToNat,Int.reduceLT,Int.reduceLE,Int.reduceAdd,Int.reduceSub,Int.reduceMul,reduceCtorEq,qI,hw]
    refine hK _ _ _ ?_
    clear hK K
    have hkn:nx1+16+16+16+16+16≤nx2:=hk.nx
    have hF1:(t.rs.take (z+1)).foldl (be3 t h c) M=(be3 t h c) ((t.rs.take z).foldl (be3 t h c) M) x:=ef _ _ hy
    refine⟨(_,z+1),⟨⟨by dsimp only;omega,?_⟩,⟨by dsimp only;omega,λr hr=>?_,λb v hb' hv=>?_⟩,?_,?_,?_,?_⟩,by dsimp only;omega,ay.refl⟩
    ·dsimp only;rw[hF1];exact hi
    ·have hr':=hr
     unfold r2 at hr'
     have e1:=hk.tm r (by unfold r3;omega)
     have e2:=hK1.tm r hr
     dsimp only at e1 e2 ⊢
     simp only[ah]at e1 ⊢
     rw[if_neg (by omega),if_neg (by omega),e1]
     repeat rw[if_neg (by omega)]
     exact e2
    ·have e2:=hK1.hp b v hb' hv
     have hb':b<nx:=hb'
     refine hk.hp b v (by dsimp only;omega) ?_
     dsimp only
     rw[hpl _ _ _ _ (by omega)];exact e2
    ·dsimp only;rw[hF1];exact hb.keep (by dsimp only;omega) (λr hr=>by simp only[ah];repeat rw[if_neg (by omega)]) (λ_ _=>rfl)
    ·simp only[ah];exact qL
    ·simp only[ah];exact qN
    ·simp only[ah];rfl
  ·have e:z=t.rs.length:=by have:=of_decide_eq_false e;omega
   subst e
   refine AWP.exit ?_
   refine(show Q .normal _ from ?_)
   rw[List.take_length]at hI1 hB1
   refine hQ _ ⟨?_,λr hr=>?_,λb x hb hx=>hK1.hp b x hb hx⟩ (hB1.keep (by dsimp only;omega) (λr hr=>?_) (λ_ _=>rfl)) hI1
   ·have:=hK1.nx;dsimp only at this ⊢;omega
   ·have e2:=hK1.tm r hr
    unfold r2 at hr;dsimp only at e2 ⊢;simp only[ah];rw[if_neg (by omega)];exact e2
   ·simp only[ah];rw[if_neg (by omega)]
def PG:AF:=
 ⟨139,2,[.tmp 4],
 .seq (.reg [⟨(some 2),.box (.t 0),none⟩,⟨(some 4),.move (.c (.val (.map none))),none⟩])
 (.seq (.reg [⟨(some 18),.mkm none,none⟩,⟨(some 5),.move (.t 18),none⟩])
 (.seq (.reg [⟨(some 19),.load true 2 (.t 2),none⟩,⟨(some 20),.call (.c (.func 96 [])) [(.t 19)],none⟩,⟨(some 6),.move (.t 20),none⟩])
 (.seq (.seq (.reg [⟨(some 21),.move (.t 1),none⟩,⟨(some 22),.len (.t 21),none⟩,⟨(some 23),.move (.c (.val (.int .i64 0))),none⟩])
 (.block 0 (.loop (.seq (.reg [⟨(some 24),.bin .lss (.t 23) (.t 22),none⟩])
 (.seq (.cond (.t 24) (.skip) (.exit 0))
 (.seq (.block 1 (.seq (.reg [⟨(some 25),.iaddr 2 (.t 21) (.t 23),none⟩,⟨(some 26),.load true 2 (.t 25),none⟩,⟨(some 8),.box (.c (.agg [(.val (.int .i64 0)),(.val (.int .i64 0))])),none⟩,⟨none,.store 2 (.t 8) (.t 26),none⟩])
 (.seq (.reg [⟨(some 28),.load true 2 (.t 2),none⟩,⟨(some 29),.faddr 0 (.t 8),none⟩,⟨(some 30),.load false 1 (.t 29),none⟩,⟨(some 31),.faddr 1 (.t 8),none⟩,⟨(some 32),.load false 1 (.t 31),none⟩,⟨(some 33),.call (.c (.func 95 [])) [(.t 28),(.t 30),(.t 32)],none⟩,⟨(some 27),.move (.t 33),none⟩,⟨(some 34),.ext 0 (.t 27),none⟩,⟨(some 35),.ext 1 (.t 27),none⟩,⟨(some 9),.move (.t 34),none⟩,⟨(some 10),.move (.t 35),none⟩])
 (.seq (.seq (.reg [⟨(some 36),.move (.t 10),none⟩,⟨(some 37),.un .not (.t 36),none⟩])
 (.cond (.t 37) (.exit 1) (.skip)))
 (.seq (.reg [⟨(some 38),.faddr 0 (.t 2),none⟩,⟨(some 39),.load false 1 (.t 38),none⟩,⟨(some 40),.len (.t 39),none⟩,⟨(some 41),.move (.c (.val (.int .i64 0))),none⟩])
 (.block 2 (.loop (.seq (.reg [⟨(some 42),.bin .lss (.t 41) (.t 40),none⟩])
 (.seq (.cond (.t 42) (.skip) (.exit 2))
 (.seq (.block 3 (.seq (.reg [⟨(some 43),.iaddr 2 (.t 39) (.t 41),none⟩,⟨(some 44),.load true 2 (.t 43),none⟩,⟨(some 12),.box (.c (.agg [(.val (.int .i64 0)),(.val (.bool false))])),none⟩,⟨none,.store 2 (.t 12) (.t 44),none⟩])
 (.seq (.reg [⟨(some 45),.faddr 1 (.t 2),none⟩,⟨(some 46),.load false 1 (.t 45),none⟩,⟨(some 47),.len (.t 46),none⟩,⟨(some 48),.move (.c (.val (.int .i64 0))),none⟩])
 (.block 4 (.loop (.seq (.reg [⟨(some 49),.bin .lss (.t 48) (.t 47),none⟩])
 (.seq (.cond (.t 49) (.skip) (.exit 4))
 (.seq (.block 5 (.seq (.reg [⟨(some 50),.iaddr 5 (.t 46) (.t 48),none⟩,⟨(some 51),.load true 5 (.t 50),none⟩,⟨(some 14),.box (.c (.agg [(.val (.int .i64 0)),(.val (.int .i64 0)),(.val (.int .i64 0)),(.val (.int .i64 0)),(.val (.int .i64 0))])),none⟩,⟨none,.store 5 (.t 14) (.t 51),none⟩])
 (.seq (.reg [⟨(some 52),.faddr 0 (.t 14),none⟩,⟨(some 53),.load false 1 (.t 52),none⟩,⟨(some 54),.faddr 1 (.t 14),none⟩,⟨(some 55),.load false 1 (.t 54),none⟩,⟨(some 56),.faddr 2 (.t 14),none⟩,⟨(some 57),.load false 1 (.t 56),none⟩,⟨(some 58),.build [(.val (.int .i64 0)),(.val (.int .i64 0)),(.val (.int .i64 0))] [(0,1,(.t 53)),(1,1,(.t 55)),(2,1,(.t 57))],none⟩,⟨(some 59),.faddr 1 (.t 14),none⟩,⟨(some 60),.load false 1 (.t 59),none⟩,⟨(some 61),.faddr 0 (.t 14),none⟩,⟨(some 62),.load false 1 (.t 61),none⟩,⟨(some 63),.faddr 3 (.t 14),none⟩,⟨(some 64),.load false 1 (.t 63),none⟩,⟨(some 65),.build [(.val (.int .i64 0)),(.val (.int .i64 0)),(.val (.int .i64 0))] [(0,1,(.t 60)),(1,1,(.t 62)),(2,1,(.t 64))],none⟩,⟨(some 66),.lit 3 2 (.agg [(.val (.int .i64 0)),(.val (.int .i64 0)),(.val (.int .i64 0))]) [(0,(.t 58)),(1,(.t 65))],none⟩,⟨(some 67),.len (.t 66),none⟩,⟨(some 68),.move (.c (.val (.int .i64 0))),none⟩])
 (.block 6 (.loop (.seq (.reg [⟨(some 69),.bin .lss (.t 68) (.t 67),none⟩])
 (.seq (.cond (.t 69) (.skip) (.exit 6))
 (.seq (.block 7 (.seq (.reg [⟨(some 70),.iaddr 3 (.t 66) (.t 68),none⟩,⟨(some 71),.load true 3 (.t 70),none⟩,⟨(some 16),.box (.c (.agg [(.val (.int .i64 0)),(.val (.int .i64 0)),(.val (.int .i64 0))])),none⟩,⟨none,.store 3 (.t 16) (.t 71),none⟩])
 (.seq (.reg [⟨(some 72),.faddr 0 (.t 16),none⟩,⟨(some 73),.load false 1 (.t 72),none⟩,⟨(some 74),.faddr 0 (.t 8),none⟩,⟨(some 75),.load false 1 (.t 74),none⟩,⟨(some 76),.bin .neq (.t 73) (.t 75),none⟩,⟨(some 77),.move (.t 76),none⟩,⟨(some 78),.move (.t 6),(some (77,true))⟩,⟨(some 79),.faddr 0 (.t 16),(some (77,true))⟩,⟨(some 80),.load false 1 (.t 79),(some (77,true))⟩,⟨(some 81),.faddr 0 (.t 12),(some (77,true))⟩,⟨(some 82),.load false 1 (.t 81),(some (77,true))⟩,⟨(some 83),.faddr 0 (.t 16),(some (77,true))⟩,⟨(some 84),.load false 1 (.t 83),(some (77,true))⟩,⟨(some 85),.faddr 1 (.t 16),(some (77,true))⟩,⟨(some 86),.load false 1 (.t 85),(some (77,true))⟩,⟨(some 87),.build [(.val (.int .i64 0)),(.val (.int .i64 0))] [(0,1,(.t 84)),(1,1,(.t 86))],(some (77,true))⟩,⟨(some 88),.faddr 2 (.t 16),(some (77,true))⟩,⟨(some 89),.load false 1 (.t 88),(some (77,true))⟩,⟨(some 90),.call (.c (.func 97 [])) [(.t 78),(.t 80),(.t 82),(.t 87),(.t 89)],(some (77,true))⟩,⟨(some 91),.pick (.t 77) (.t 90) (.c (.val (.bool false))),none⟩,⟨(some 17),.move (.t 91),none⟩])
 (.seq (.reg [⟨(some 92),.move (.t 17),none⟩,⟨(some 93),.move (.t 92),none⟩,⟨(some 94),.move (.t 6),(some (93,true))⟩,⟨(some 95),.faddr 0 (.t 16),(some (93,true))⟩,⟨(some 96),.load false 1 (.t 95),(some (93,true))⟩,⟨(some 97),.faddr 0 (.t 12),(some (93,true))⟩,⟨(some 98),.load false 1 (.t 97),(some (93,true))⟩,⟨(some 99),.load true 2 (.t 8),(some (93,true))⟩,⟨(some 100),.move (.t 9),(some (93,true))⟩,⟨(some 101),.call (.c (.func 97 [])) [(.t 94),(.t 96),(.t 98),(.t 99),(.t 100)],(some (93,true))⟩,⟨(some 102),.pick (.t 93) (.t 101) (.c (.val (.bool false))),none⟩,⟨(some 103),.move (.t 102),none⟩,⟨(some 104),.move (.t 6),(some (103,true))⟩,⟨(some 105),.faddr 1 (.t 16),(some (103,true))⟩,⟨(some 106),.load false 1 (.t 105),(some (103,true))⟩,⟨(some 107),.faddr 0 (.t 12),(some (103,true))⟩,⟨(some 108),.load false 1 (.t 107),(some (103,true))⟩,⟨(some 109),.load true 2 (.t 8),(some (103,true))⟩,⟨(some 110),.move (.t 9),(some (103,true))⟩,⟨(some 111),.call (.c (.func 97 [])) [(.t 104),(.t 106),(.t 108),(.t 109),(.t 110)],(some (103,true))⟩,⟨(some 112),.pick (.t 103) (.t 111) (.c (.val (.bool false))),none⟩,⟨(some 113),.move (.t 112),none⟩,⟨(some 114),.move (.t 5),(some (113,true))⟩,⟨(some 115),.faddr 0 (.t 16),(some (113,true))⟩,⟨(some 116),.load false 1 (.t 115),(some (113,true))⟩,⟨(some 117),.mget none ((.sl 0 [] true)) false (.t 114) (.t 116),(some (113,true))⟩,⟨(some 118),.faddr 1 (.t 16),(some (113,true))⟩,⟨(some 119),.load false 1 (.t 118),(some (113,true))⟩,⟨(some 120),.call (.c (.func 72 [])) [(.t 117),(.t 119)],(some (113,true))⟩,⟨(some 121),.un .not (.t 120),(some (113,true))⟩,⟨(some 122),.pick (.t 113) (.t 121) (.c (.val (.bool false))),none⟩])
 (.cond (.t 122) (.dreg [⟨(some 123),.move (.t 5),none⟩,⟨(some 124),.faddr 0 (.t 16),none⟩,⟨(some 125),.load false 1 (.t 124),none⟩,⟨(some 126),.move (.t 5),none⟩,⟨(some 127),.faddr 0 (.t 16),none⟩,⟨(some 128),.load false 1 (.t 127),none⟩,⟨(some 129),.mget none ((.sl 0 [] true)) false (.t 126) (.t 128),none⟩,⟨(some 130),.faddr 1 (.t 16),none⟩,⟨(some 131),.load false 1 (.t 130),none⟩,⟨(some 132),.lit 1 1 (.val (.int .i64 0)) [(0,(.t 131))],none⟩,⟨(some 133),.append 1 8 (.t 129) (.t 132),none⟩,⟨none,.mset none (.t 123) (.t 125) (.t 133),none⟩] [(2,5),(2,6),(2,8),(5,8),(6,8),(2,9),(5,9),(6,9),(2,10)]) (.skip))))))
 (.reg [⟨(some 134),.bin .add (.t 68) (.c (.val (.int .i64 1))),none⟩,⟨(some 68),.move (.t 134),none⟩])))))))))
 (.reg [⟨(some 135),.bin .add (.t 48) (.c (.val (.int .i64 1))),none⟩,⟨(some 48),.move (.t 135),none⟩])))))))))
 (.reg [⟨(some 136),.bin .add (.t 41) (.c (.val (.int .i64 1))),none⟩,⟨(some 41),.move (.t 136),none⟩])))))))))))
 (.reg [⟨(some 137),.bin .add (.t 23) (.c (.val (.int .i64 1))),none⟩,⟨(some 23),.move (.t 137),none⟩])))))))
 (.seq (.reg [⟨(some 138),.move (.t 5),none⟩,⟨(some 4),.move (.t 138),none⟩])
 (.ret)))))⟩
theorem Lg:fp Tryz.prog Tryz.f53=some PG:=by kernel_rfl
def be4(t:Tpl)(M:Rws)(h:Hop):Rws:=if(bR t h.a h.b).2=true then t.rs.foldl (be3 t h (bR t h.a h.b).1) M else M
def ft(t:Tpl)(ds:List Hop):Rws:=ds.foldl (be4 t) []
def r1(r:Nat):Prop:=r<8∨18≤r∧r<24
theorem nt{t:Tpl}{f g:Int}(h:(bR t f g).2=true):aJ t=0:=by
 unfold bR at h
 split at h
 ·cases h
 ·rename_i e;exact Classical.not_not.mp e
theorem GH(t:Tpl)(ds:List Hop)(hd:ds.length≤1000):aH Tryz.prog 53 [Tpl.v t,.sl 2 (ds.map Hop.v) false] [] (.mref 0) [some (gY (ft t ds))]:=by
 refine aH.walk Tryz.func53 Lg (by simp[PG]) ?_
 unfold PG
 simp only[eT,fm,List.length_cons,List.length_nil]
 refine AWP.seq' ?_
 refine AWP.reg' λK hK=>?_
 try simp only[ak,am,al,eq_self,implies_true,forall_eq_or_imp,forall_eq,Nat.reduceEqDiff,↓reduceIte,Nat.reduceAdd,Nat.reduceLeDiff,Nat.reduceSub,Nat.reduceMul,Nat.reduceLT,Int.reduceBEq,Int.reduceBNe,Int.reduceToNat,Int.reduceLT,Int.reduceLE,Int.reduceAdd,Int.reduceSub,Int.reduceMul,reduceCtorEq]
 refine⟨rfl,?_⟩
 refine hK _ _ _ ?_
 clear hK K
 refine AWP.seq' ?_
 refine AWP.reg' λK hK=>?_
 try simp only[ak,am,al,eq_self,implies_true,forall_eq_or_imp,forall_eq,Nat.reduceEqDiff,↓reduceIte,Nat.reduceAdd,Nat.reduceLeDiff,Nat.reduceSub,Nat.reduceMul,Nat.reduceLT,Int.reduceBEq,Int.reduceBNe,Int.reduceToNat,Int.reduceLT,Int.reduceLE,Int.reduceAdd,Int.reduceSub,Int.reduceMul,reduceCtorEq,q9]
 refine hK _ _ _ ?_
 clear hK K
 refine AWP.seq' ?_
 refine AWP.reg' λK hK=>?_
 try simp only[ak,am,al,eq_self,implies_true,forall_eq_or_imp,forall_eq,Nat.reduceEqDiff,↓reduceIte,Nat.reduceAdd,Nat.reduceLeDiff,Nat.reduceSub,Nat.reduceMul,Nat.reduceLT,Int.reduceBEq,Int.reduceBNe,Int.reduceToNat,Int.reduceLT,Int.reduceLE,Int.reduceAdd,Int.reduceSub,Int.reduceMul,reduceCtorEq,Tpl.v]
 refine cG (show aw Tryz.prog (yI t).f [Tpl.v t] (OR t)from(yI t).ok) (yI t).fn rfl rfl ?_ ?_
 ·exact⟨⟨trivial,trivial,trivial⟩,trivial⟩
 try simp only[ak,am,al,eq_self,implies_true,forall_eq_or_imp,forall_eq,Nat.reduceEqDiff,↓reduceIte,Nat.reduceAdd,Nat.reduceLeDiff,Nat.reduceSub,Nat.reduceMul,Nat.reduceLT,Int.reduceBEq,Int.reduceBNe,Int.reduceToNat,Int.reduceLT,Int.reduceLE,Int.reduceAdd,Int.reduceSub,Int.reduceMul,reduceCtorEq]
 refine hK _ _ _ ?_
 clear hK K
 refine AWP.seq' (AWP.seq' ?_)
 refine AWP.reg' λK hK=>?_
 try simp only[ak,am,al,eq_self,implies_true,forall_eq_or_imp,forall_eq,Nat.reduceEqDiff,↓reduceIte,Nat.reduceAdd,Nat.reduceLeDiff,Nat.reduceSub,Nat.reduceMul,Nat.reduceLT,Int.reduceBEq,Int.reduceBNe,Int.reduceToNat,Int.reduceLT,Int.reduceLE,Int.reduceAdd,Int.reduceSub,Int.reduceMul,reduceCtorEq,List.length_map]
 repeat (refine And.intro (by omega) ?_)
 refine hK _ _ _ ?_
 clear hK K
 refine AWP.block ?_
 have hml:=bj
 refine AWP.loopS (λu:S3×Nat=>u.1) (λu=>(u.2≤ds.length∧fL t ((ds.take u.2).foldl (be4 t) []))∧BeB t ds u.1 ((ds.take u.2).foldl (be4 t) []) ∧
  u.1.tm 21=.sl 2 (ds.map Hop.v) false∧u.1.tm 22=.int ds.length∧u.1.tm 23=.int (u.2:Nat)) (λu=>ds.length-u.2) (i0:=(_,0)) ?_ ay.refl ?_
 ·exact⟨⟨Nat.zero_le _,⟨λp hp=>by simp at hp,λp hp=>by simp at hp,λp hp=>by simp at hp⟩⟩,⟨by dsimp only;omega,rfl,rfl,rfl,rfl,rfl,[],⟨rfl,rfl,List.nodup_nil,List.nodup_nil,by simp,by dsimp only;omega,by simp⟩⟩,rfl,rfl,rfl⟩
 ·rintro⟨⟨tm1,hp1,nx1⟩,z⟩ ⟨⟨hz,hI1⟩,hB1,t21,t22,t23⟩
  simp only at hz hI1 t21 t22 t23 ⊢
  refine AWP.seq' ?_
  refine AWP.reg' λK hK=>?_
  try simp only[ak,am,al,eq_self,implies_true,forall_eq_or_imp,forall_eq,Nat.reduceEqDiff,↓reduceIte,Nat.reduceAdd,Nat.reduceLeDiff,Nat.reduceSub,Nat.reduceMul,Nat.reduceLT,Int.reduceBEq,Int.reduceBNe,Int.reduceToNat,Int.reduceLT,Int.reduceLE,Int.reduceAdd,Int.reduceSub,Int.reduceMul,reduceCtorEq,t22,t23]
  refine hK _ _ _ ?_
  clear hK K
  refine AWP.seq' ?_
  refine AWP.cond (b:=decide ((z:Int)<(ds.length:Int))) rfl (λe=>?_) (λe=>?_)
  ·have e:z<ds.length:=by have:=of_decide_eq_true e;omega
   refine AWP.skip ?_
   refine AWP.seq' (AWP.block (AWP.seq' ?_))
   have hy:ds[z]?=some ds[z]:=List.getElem?_eq_getElem e
   generalize ds[z]=h at hy
   have hge:(ds.map Hop.v).getD z .unk=Hop.v h:=by rw[List.getD_eq_getElem?_getD,List.getElem?_map,hy];rfl
   have k2:=hB1.t2
   have k0:=hB1.h0
   have kn:=hB1.nx
   simp only at k2 k0 kn
   obtain⟨f0,_⟩:=nxF (show 0<nx1 by omega)
   refine AWP.reg' λK hK=>?_
   try simp only[ak,am,al,eq_self,implies_true,forall_eq_or_imp,forall_eq,Nat.reduceEqDiff,↓reduceIte,Nat.reduceAdd,Nat.reduceLeDiff,Nat.reduceSub,Nat.reduceMul,Nat.reduceLT,Int.reduceBEq,Int.reduceBNe,Int.reduceToNat,Int.reduceLT,Int.reduceLE,Int.reduceAdd,Int.reduceSub,Int.reduceMul,reduceCtorEq,t21,t23,hge,Int.toNat_natCast,List.length_map,Hop.v]
   refine⟨⟨by omega,by omega⟩,?_⟩
   refine hK _ _ _ ?_
   clear hK K
   refine AWP.seq' ?_
   refine AWP.reg' λK hK=>?_
   try simp only[ak,am,al,eq_self,implies_true,forall_eq_or_imp,forall_eq,Nat.reduceEqDiff,↓reduceIte,Nat.reduceAdd,Nat.reduceLeDiff,Nat.reduceSub,Nat.reduceMul,Nat.reduceLT,Int.reduceBEq,Int.reduceBNe,Int.reduceToNat,Int.reduceLT,Int.reduceLE,Int.reduceAdd,Int.reduceSub,Int.reduceMul,reduceCtorEq,k2,k0,f0,Tpl.v,Nat.add_assoc]
   refine cG (show aw Tryz.prog (nm t h.a h.b).f [Tpl.v t,.int h.a,.int h.b] (.tup [.int (bR t h.a h.b).1,.bool (bR t h.a h.b).2])from(nm t h.a h.b).ok) (nm t h.a h.b).fn rfl rfl ?_ ?_
   ·exact⟨⟨trivial,trivial,trivial⟩,trivial,trivial,trivial⟩
   try simp only[ak,am,al,eq_self,implies_true,forall_eq_or_imp,forall_eq,Nat.reduceEqDiff,↓reduceIte,Nat.reduceAdd,Nat.reduceLeDiff,Nat.reduceSub,Nat.reduceMul,Nat.reduceLT,Int.reduceBEq,Int.reduceBNe,Int.reduceToNat,Int.reduceLT,Int.reduceLE,Int.reduceAdd,Int.reduceSub,Int.reduceMul,reduceCtorEq,Nat.add_assoc]
   refine hK _ _ _ ?_
   clear hK K
   have hF1:(ds.take (z+1)).foldl (be4 t) []=be4 t ((ds.take z).foldl (be4 t) []) h:=ef _ _ hy
   have hw:IntKind.i64.wrap ((z:Int)+1)=((z+1:Nat):Int):=j8 (by omega) (by omega)
   refine AWP.seq' (AWP.seq' ?_)
   refine AWP.reg' λK hK=>?_
   try simp only[ak,am,al,eq_self,implies_true,forall_eq_or_imp,forall_eq,Nat.reduceEqDiff,↓reduceIte,Nat.reduceAdd,Nat.reduceLeDiff,Nat.reduceSub,Nat.reduceMul,Nat.reduceLT,Int.reduceBEq,Int.reduceBNe,Int.reduceToNat,Int.reduceLT,Int.reduceLE,Int.reduceAdd,Int.reduceSub,Int.reduceMul,reduceCtorEq]
   refine hK _ _ _ ?_
   clear hK K
   cases e1:(bR t h.a h.b).2 with
   | false =>
    refine AWP.cond (b:=true) rfl (λ_=>AWP.exit ?_) (λh=>by cases h)
    refine(show AWP _ _ _ _ _ _ from ?_)
    have hF2:be4 t ((ds.take z).foldl (be4 t) []) h=(ds.take z).foldl (be4 t) []:=by unfold be4;rw[if_neg (by simp[e1])]
    rw[hF2]at hF1
    refine AWP.reg' λK hK=>?_
    try simp only[ak,am,al,eq_self,implies_true,forall_eq_or_imp,forall_eq,Nat.reduceEqDiff,↓reduceIte,Nat.reduceAdd,Nat.reduceLeDiff,Nat.reduceSub,Nat.reduceMul,Nat.reduceLT,Int.reduceBEq,Int.reduceBNe,Int.reduceToNat,Int.reduceLT,Int.reduceLE,Int.reduceAdd,Int.reduceSub,Int.reduceMul,reduceCtorEq,t23,hw]
    refine hK _ _ _ ?_
    clear hK K
    refine⟨(_,z+1),⟨⟨by dsimp only;omega,?_⟩,?_,?_,?_,?_⟩,by dsimp only;omega,ay.refl⟩
    ·dsimp only;rw[hF1];exact hI1
    ·dsimp only;rw[hF1]
     refine hB1.keep (by dsimp only;omega) (λr hr=>by simp only[ah];repeat rw[if_neg (by omega)]) (λb hb=>?_)
     have hb':b<nx1:=hb
     simp only[ah];repeat rw[if_neg (by omega)]
    ·simp only[ah];exact t21
    ·simp only[ah];exact t22
    ·simp only[ah];rfl
   | true =>
    have hc:=nt e1
    refine AWP.cond (b:=false) rfl (λh=>by cases h) (λ_=>AWP.skip ?_)
    refine(show AWP _ _ _ GQ _ _ from ?_)
    have hF2:be4 t ((ds.take z).foldl (be4 t) []) h=t.rs.foldl (be3 t h (bR t h.a h.b).1) ((ds.take z).foldl (be4 t) []):=by unfold be4;rw[if_pos e1]
    rw[hF2]at hF1
    refine GP t hc ds h (bR t h.a h.b).1 _ _ hI1 (nx1+48) (hB1.keep ?_ (λr hr=>?_) (λb hb=>?_)) rfl rfl ?_ ?_ _ _ (λs' hk hb hi=>?_)
    ·dsimp only;omega
    ·simp only[ah];repeat rw[if_neg (by omega)]
    ·have hb':b<nx1:=hb
     simp only[ah];repeat rw[if_neg (by omega)]
    ·simp only[ah,↓reduceIte]
    ·dsimp only;omega
    ·obtain⟨tm2,hp2,nx2⟩:=s'
     refine(show AWP _ _ _ _ _ _ from ?_)
     have q21:tm2 21=_:=(hk.tm 21 (.inr ⟨by omega,by omega⟩)).trans t21
     have q22:tm2 22=_:=(hk.tm 22 (.inr ⟨by omega,by omega⟩)).trans t22
     have q23:tm2 23=_:=(hk.tm 23 (.inr ⟨by omega,by omega⟩)).trans t23
     refine AWP.reg' λK hK=>?_
     try simp only[ak,am,al,eq_self,implies_true,forall_eq_or_imp,forall_eq,Nat.reduceEqDiff,↓reduceIte,Nat.reduceAdd,Nat.reduceLeDiff,Nat.reduceSub,Nat.reduceMul,Nat.reduceLT,Int.reduceBEq,Int.reduceBNe,Int.reduceToNat,Int.reduceLT,Int.reduceLE,Int.reduceAdd,Int.reduceSub,Int.reduceMul,reduceCtorEq,q23,hw]
     refine hK _ _ _ ?_
     clear hK K
     refine⟨(_,z+1),⟨⟨by dsimp only;omega,?_⟩,?_,?_,?_,?_⟩,by dsimp only;omega,ay.refl⟩
     ·dsimp only;rw[hF1];exact hi
     ·dsimp only;rw[hF1]
      exact hb.keep (by dsimp only;omega) (λr hr=>by simp only[ah];repeat rw[if_neg (by omega)]) (λ_ _=>rfl)
     ·simp only[ah];exact q21
     ·simp only[ah];exact q22
     ·simp only[ah];rfl
  ·have e:z=ds.length:=by have:=of_decide_eq_false e;omega
   subst e
   refine AWP.exit ?_
   rw[List.take_length]at hI1
   have hB1':BeB t ds ⟨tm1,hp1,nx1⟩ (ft t ds):=by have:=hB1;dsimp only at this;rw[List.take_length]at this;exact this
   obtain⟨n1,_,_,_,t5,_,ns,hF⟩:=hB1'
   simp only at n1 t5 hF
   refine(show AWP _ _ _ _ _ _ from ?_)
   refine AWP.seq' ?_
   refine AWP.reg' λK hK=>?_
   try simp only[ak,am,al,eq_self,implies_true,forall_eq_or_imp,forall_eq,Nat.reduceEqDiff,↓reduceIte,Nat.reduceAdd,Nat.reduceLeDiff,Nat.reduceSub,Nat.reduceMul,Nat.reduceLT,Int.reduceBEq,Int.reduceBNe,Int.reduceToNat,Int.reduceLT,Int.reduceLE,Int.reduceAdd,Int.reduceSub,Int.reduceMul,reduceCtorEq,t5]
   refine hK _ _ _ ?_
   clear hK K
   refine(show AWP _ _ _ _ _ _ from ?_)
   obtain⟨hp',w,h1,h2⟩:=(hF.keep (nx':=nx1+16+16+16) (λ_ _ _=>rfl) (by omega)).give (k:=0) (n:=139) (tm:=upd (upd (upd tm1 24 (AV.bool (decide ((ds.length:Int)<(ds.length:Int))))) 138 (AV.mref 32)) 4 (AV.mref 32))
   refine AWP.ret (gf w (gC [32] [(4,.mref 0)] rfl rfl ?_ ?_ rfl (by decide) ?_ (by simp)))
   ·simp only[List.mem_singleton,forall_eq]
    exact⟨rfl,show(0:Nat)<1 by omega⟩
   ·refine⟨⟨?_,?_⟩,trivial⟩
    ·show hp' 32=_
     rw[h1,gY,Blk.ren,aT _ (dB _)]
    ·exact aQ (dB _)
   ·intro b hb
    omega
def PE:AF:=
 ⟨38,4,[.tmp 5],
 .seq (.reg [⟨(some 5),.move (.c (.val (.int .i64 0))),none⟩])
 (.seq (.seq (.reg [⟨(some 12),.load false 1 (.t 1),none⟩,⟨(some 13),.move (.t 0),none⟩,⟨(some 14),.mget none ((.val (.int .i64 0))) true (.t 12) (.t 13),none⟩,⟨(some 11),.move (.t 14),none⟩,⟨(some 15),.ext 0 (.t 11),none⟩,⟨(some 16),.ext 1 (.t 11),none⟩,⟨(some 6),.move (.t 15),none⟩,⟨(some 7),.move (.t 16),none⟩])
 (.seq (.reg [⟨(some 17),.move (.t 7),none⟩])
 (.cond (.t 17) (.seq (.reg [⟨(some 18),.move (.t 6),none⟩,⟨(some 5),.move (.t 18),none⟩])
 (.ret)) (.skip))))
 (.seq (.reg [⟨(some 8),.move (.c (.val (.int .i64 0))),none⟩])
 (.seq (.seq (.reg [⟨(some 19),.load false 1 (.t 2),none⟩,⟨(some 20),.move (.t 0),none⟩,⟨(some 21),.mget none ((.sl 0 [] true)) false (.t 19) (.t 20),none⟩,⟨(some 22),.len (.t 21),none⟩,⟨(some 23),.move (.c (.val (.int .i64 0))),none⟩])
 (.block 0 (.loop (.seq (.reg [⟨(some 24),.bin .lss (.t 23) (.t 22),none⟩])
 (.seq (.cond (.t 24) (.skip) (.exit 0))
 (.seq (.block 1 (.seq (.reg [⟨(some 25),.iaddr 1 (.t 21) (.t 23),none⟩,⟨(some 26),.load false 1 (.t 25),none⟩,⟨(some 10),.move (.t 26),none⟩])
 (.reg [⟨(some 27),.move (.t 8),none⟩,⟨(some 28),.load false 1 (.t 3),none⟩,⟨(some 29),.move (.t 10),none⟩,⟨(some 30),.call (.t 28) [(.t 29)],none⟩,⟨(some 31),.bin .add (.c (.val (.int .i64 1))) (.t 30),none⟩,⟨(some 32),.max [(.t 27),(.t 31)],none⟩,⟨(some 8),.move (.t 32),none⟩])))
 (.reg [⟨(some 33),.bin .add (.t 23) (.c (.val (.int .i64 1))),none⟩,⟨(some 23),.move (.t 33),none⟩])))))))
 (.seq (.reg [⟨(some 34),.load false 1 (.t 1),none⟩,⟨(some 35),.move (.t 0),none⟩,⟨(some 36),.move (.t 8),none⟩,⟨none,.mset none (.t 34) (.t 35) (.t 36),none⟩])
 (.seq (.reg [⟨(some 37),.move (.t 8),none⟩,⟨(some 5),.move (.t 37),none⟩])
 (.ret))))))⟩
theorem Le:fp Tryz.prog Tryz.f55=some PE:=by kernel_rfl
def rkS(f:Int→Dis→Int×Dis)(s:Int×Dis)(x:Int):Int×Dis:=(dj s.1 (W (1+(f x s.2).1)),(f x s.2).2)
def rkF(A:Rws):Nat→Int→Dis→Int×Dis
 | 0,_,kn=>(0,kn)
 | f+1,r,kn=>if aU kn r=true then(az kn r 0,kn)else
  (((az A r []).foldl (rkS (rkF A f)) (0,kn)).1,bi ((az A r []).foldl (rkS (rkF A f)) (0,kn)).2 r ((az A r []).foldl (rkS (rkF A f)) (0,kn)).1)
abbrev mpR(A:Rws):AV:=.mp none (kyL A) (A.map λp=>AV.sl 1 (p.2.map AV.int) false)
abbrev knB(kn:Dis):Blk:=.map none (kn.map λp=>MK.n p.1) (kn.map λp=>AV.int p.2)
def rkH(A:Rws)(kn:Dis):List Blk:=[.box (.mref 3),.box (mpR A),.box (.func 55 [.ref 0 0,.ref 1 0,.ref 2 0]),knB kn]
def Ix:AC:=.block 0 (.loop (.seq (.reg [⟨(some 24),.bin .lss (.t 23) (.t 22),none⟩])
 (.seq (.cond (.t 24) (.skip) (.exit 0))
 (.seq (.block 1 (.seq (.reg [⟨(some 25),.iaddr 1 (.t 21) (.t 23),none⟩,⟨(some 26),.load false 1 (.t 25),none⟩,⟨(some 10),.move (.t 26),none⟩])
 (.reg [⟨(some 27),.move (.t 8),none⟩,⟨(some 28),.load false 1 (.t 3),none⟩,⟨(some 29),.move (.t 10),none⟩,⟨(some 30),.call (.t 28) [(.t 29)],none⟩,⟨(some 31),.bin .add (.c (.val (.int .i64 1))) (.t 30),none⟩,⟨(some 32),.max [(.t 27),(.t 31)],none⟩,⟨(some 8),.move (.t 32),none⟩])))
 (.reg [⟨(some 33),.bin .add (.t 23) (.c (.val (.int .i64 1))),none⟩,⟨(some 23),.move (.t 33),none⟩])))))
structure RkS (A:Rws) (r n:Int) (kn:Dis) (s:S3):Prop where
  nx:4≤s.nx
  t0:s.tm 0=.int r
  t1:s.tm 1=.ref 0 0
  t2:s.tm 2=.ref 1 0
  t3:s.tm 3=.ref 2 0
  t8:s.tm 8=.int n
  h0:s.hp 0=some (.box (.mref 3))
  h1:s.hp 1=some (.box (mpR A))
  h2:s.hp 2=some (.box (.func 55 [.ref 0 0,.ref 1 0,.ref 2 0]))
  h3:s.hp 3=some (knB kn)
theorem Av(kn:Dis):aR (kn.map λp=>AV.int p.2):=aB (ab (λ_=>rfl) _)
theorem ul{A:Rws}{n fr:Nat}{x v:Int}{kn kn':Dis}{hp:Hp}(b0 b1 b2 b3:Nat)(hnd:[b0,b1,b2,b3].Nodup)(hs:aH Tryz.prog 55 [.int x,.ref 0 0,.ref 1 0,.ref 2 0] (rkH A kn) (.int v) ((rkH A kn').map some))
  (k0:hp b0=some (.box (.mref b3))) (k1:hp b1=some (.box (mpR A))) (k2:hp b2=some (.box (.func 55 [.ref b0 0,.ref b1 0,.ref b2 0]))) (k3:hp b3=some (knB kn)) :
  aY Tryz.prog n 55 [.int x,.ref b0 0,.ref b1 0,.ref b2 0] fr hp [b0,b1,b2,b3] (.int v) (dX [(b0,some (.box (.mref b3))),(b1,some (.box (mpR A))),(b2,some (.box (.func 55 [.ref b0 0,.ref b1 0,.ref b2 0]))),(b3,some (knB kn'))]):=by
 have e0:aS [b0,b1,b2,b3] fr 0=b0:=rfl
 have e1:aS [b0,b1,b2,b3] fr 1=b1:=rfl
 have e2:aS [b0,b1,b2,b3] fr 2=b2:=rfl
 have e3:aS [b0,b1,b2,b3] fr 3=b3:=rfl
 have kp:=λ(π:Nat→Nat) (kn:Dis)=>aT π (Av kn)
 have bl:∀(kn:Dis) y,y∈rkH A kn→y.bel 4:=λkn y hy=>by
  unfold rkH at hy
  simp only[List.mem_cons,List.not_mem_nil,or_false]at hy
  rcases hy with rfl|rfl|rfl|rfl
  ·show(3:Nat)<4;omega
  ·trivial
  ·exact⟨show(0:Nat)<4 by omega,show(1:Nat)<4 by omega,show(2:Nat)<4 by omega,trivial⟩
  ·exact aQ (Av kn)
 have rn:∀(kn:Dis),(rkH A kn).map (Blk.ren (aS [b0,b1,b2,b3] fr))=[.box (.mref b3),.box (mpR A),.box (.func 55 [.ref b0 0,.ref b1 0,.ref b2 0]),knB kn]:=λkn=>by
  unfold rkH
  simp only[List.map_cons,List.map_nil,Blk.ren,kp,AV.ren,dt,e0,e1,e2,e3]
 have key:=aY.hand (n:=n) (f:=fr) (hp:=hp) ⟨_,Tryz.func55,by kernel_rfl,by kernel_rfl⟩ hs [b0,b1,b2,b3] rfl hnd ⟨trivial,show(0:Nat)<4 by omega,show(1:Nat)<4 by omega,show(2:Nat)<4 by omega,trivial⟩ (λi b y h1 h2=>by
  refine⟨bl kn y (List.mem_of_getElem? h2),?_⟩
  have h3:((rkH A kn).map (Blk.ren (aS [b0,b1,b2,b3] fr)))[i]?=some (y.ren (aS [b0,b1,b2,b3] fr)):=by rw[List.getElem?_map,h2];rfl
  rw[rn kn]at h3
  match i with
  | 0=>cases h1;exact k0.trans h3
  | 1=>cases h1;exact k1.trans h3
  | 2=>cases h1;exact k2.trans h3
  | 3=>cases h1;exact k3.trans h3
  | i+4=>simp at h1) (by simp[rkH]) (by simp[rkH]) trivial (λy hy=>by
   rw[List.mem_map]at hy
   obtain⟨z,hz,e⟩:=hy
   cases e
   have:=bl kn' y hz
   simpa[rkH]using this)
 have e4:cz [b0,b1,b2,b3] fr ((rkH A kn').map some)=dX [(b0,some (.box (.mref b3))),(b1,some (.box (mpR A))),(b2,some (.box (.func 55 [.ref b0 0,.ref b1 0,.ref b2 0]))),(b3,some (knB kn'))]:=by
  have:=rn kn'
  unfold rkH at this ⊢
  simp only[List.map_cons,List.map_nil,List.cons.injEq,and_true]at this
  obtain⟨g0,g1,g2,g3⟩:=this
  simp only[cz,List.map_cons,List.map_nil,List.zipIdx_cons,List.zipIdx_nil,Nat.zero_add,Option.map_some,e0,e1,e2,e3,g0,g1,g2,g3,Nat.reduceAdd]
 rw[e4]at key
 simpa only[dt,AV.ren,e0,e1,e2]using key
theorem rk_l(A:Rws)(f:Nat)(D:Int→Nat)(ih:∀(r:Int) (kn:Dis),D r<f→aH Tryz.prog 55 [.int r,.ref 0 0,.ref 1 0,.ref 2 0] (rkH A kn) (.int (rkF A f r kn).1) ((rkH A (rkF A f r kn).2).map some))
  (r:Int) (row:List Int) (hl:row.length≤1000000) (hr:∀x∈row,D x<f) (kn:Dis) (s:S3) (hS:RkS A r 0 kn s) (t21:s.tm 21=.sl 1 (row.map AV.int) false) (t22:s.tm 22=.int row.length) (t23:s.tm 23=.int 0) (Q:X→S3→Prop)
  (hQ:∀s',RkS A r (row.foldl (rkS (rkF A f)) (0,kn)).1 (row.foldl (rkS (rkF A f)) (0,kn)).2 s'→Q .normal s'):AWP Tryz.prog 4 38 Ix Q s:=by
 have hml:=bj
 unfold Ix
 refine AWP.block ?_
 refine AWP.loopS (λu:S3×Nat=>u.1) (λu=>u.2≤row.length∧RkS A r ((row.take u.2).foldl (rkS (rkF A f)) (0,kn)).1 ((row.take u.2).foldl (rkS (rkF A f)) (0,kn)).2 u.1 ∧
  u.1.tm 21=.sl 1 (row.map AV.int) false∧u.1.tm 22=.int row.length∧u.1.tm 23=.int (u.2:Nat)) (λu=>row.length-u.2) (i0:=(_,0)) ⟨Nat.zero_le _,hS,t21,t22,t23⟩ ay.refl ?_
 rintro⟨⟨tm1,hp1,nx1⟩,z⟩ ⟨hz,⟨n1,s0,s1,s2,s3,s8,k0,k1,k2,k3⟩,q21,q22,q23⟩
 simp only at hz n1 s0 s1 s2 s3 s8 k0 k1 k2 k3 q21 q22 q23 ⊢
 refine AWP.seq' ?_
 refine AWP.reg' λK hK=>?_
 try simp only[ak,am,al,eq_self,implies_true,forall_eq_or_imp,forall_eq,Nat.reduceEqDiff,↓reduceIte,Nat.reduceAdd,Nat.reduceLeDiff,Nat.reduceSub,Nat.reduceMul,Nat.reduceLT,Int.reduceBEq,Int.reduceBNe,Int.reduceToNat,Int.reduceLT,Int.reduceLE,Int.reduceAdd,Int.reduceSub,Int.reduceMul,reduceCtorEq,q22,q23]
 refine hK _ _ _ ?_
 clear hK K
 refine AWP.seq' ?_
 refine AWP.cond (b:=decide ((z:Int)<(row.length:Int))) rfl (λe=>?_) (λe=>?_)
 ·have e:z<row.length:=by have:=of_decide_eq_true e;omega
  refine AWP.skip ?_
  refine AWP.seq' (AWP.block (AWP.seq' ?_))
  have hy:row[z]?=some row[z]:=List.getElem?_eq_getElem e
  generalize row[z]=x at hy
  have hge:(row.map AV.int).getD z .unk=.int x:=by rw[List.getD_eq_getElem?_getD,List.getElem?_map,hy];rfl
  refine AWP.reg' λK hK=>?_
  try simp only[ak,am,al,eq_self,implies_true,forall_eq_or_imp,forall_eq,Nat.reduceEqDiff,↓reduceIte,Nat.reduceAdd,Nat.reduceLeDiff,Nat.reduceSub,Nat.reduceMul,Nat.reduceLT,Int.reduceBEq,Int.reduceBNe,Int.reduceToNat,Int.reduceLT,Int.reduceLE,Int.reduceAdd,Int.reduceSub,Int.reduceMul,reduceCtorEq,q21,q23,hge,Int.toNat_natCast,List.length_map]
  refine⟨⟨by omega,by omega⟩,?_⟩
  refine hK _ _ _ ?_
  clear hK K
  refine(show AWP _ _ _ _ _ _ from ?_)
  generalize hP:(row.take z).foldl (rkS (rkF A f)) (0,kn)=p at *
  have hx:=ih x p.2 (hr x (List.mem_of_getElem? hy))
  refine AWP.reg' λK hK=>?_
  try simp only[ak,am,al,eq_self,implies_true,forall_eq_or_imp,forall_eq,Nat.reduceEqDiff,↓reduceIte,Nat.reduceAdd,Nat.reduceLeDiff,Nat.reduceSub,Nat.reduceMul,Nat.reduceLT,Int.reduceBEq,Int.reduceBNe,Int.reduceToNat,Int.reduceLT,Int.reduceLE,Int.reduceAdd,Int.reduceSub,Int.reduceMul,reduceCtorEq,s3,s8,k2]
  refine i9 rfl (by rfl) (ul 0 1 2 3 (by decide) hx k0 k1 k2 k3) ?_
  rw[cq,cq,cq,cq,kI]
  try simp only[ak,am,al,eq_self,implies_true,forall_eq_or_imp,forall_eq,Nat.reduceEqDiff,↓reduceIte,Nat.reduceAdd,Nat.reduceLeDiff,Nat.reduceSub,Nat.reduceMul,Nat.reduceLT,Int.reduceBEq,Int.reduceBNe,Int.reduceToNat,Int.reduceLT,Int.reduceLE,Int.reduceAdd,Int.reduceSub,Int.reduceMul,reduceCtorEq,fC,gb]
  refine hK _ _ _ ?_
  clear hK K
  refine(show AWP _ _ _ _ _ _ from ?_)
  have hw:IntKind.i64.wrap ((z:Int)+1)=((z+1:Nat):Int):=j8 (by omega) (by omega)
  refine AWP.reg' λK hK=>?_
  try simp only[ak,am,al,eq_self,implies_true,forall_eq_or_imp,forall_eq,Nat.reduceEqDiff,↓reduceIte,Nat.reduceAdd,Nat.reduceLeDiff,Nat.reduceSub,Nat.reduceMul,Nat.reduceLT,Int.reduceBEq,Int.reduceBNe,Int.reduceToNat,Int.reduceLT,Int.reduceLE,Int.reduceAdd,Int.reduceSub,Int.reduceMul,reduceCtorEq,q23,hw]
  refine hK _ _ _ ?_
  clear hK K
  have hF:(row.take (z+1)).foldl (rkS (rkF A f)) (0,kn)=rkS (rkF A f) p x:=by rw[ef _ _ hy,hP]
  refine⟨(_,z+1),⟨by dsimp only;omega,?_,?_,?_,rfl⟩,by dsimp only;omega,ay.refl⟩
  ·dsimp only
   rw[hF]
   exact⟨by dsimp only;omega,s0,s1,s2,s3,rfl,rfl,rfl,rfl,rfl⟩
  ·exact q21
  ·exact q22
 ·have e:z=row.length:=by have:=of_decide_eq_false e;omega
  subst e
  refine AWP.exit ?_
  refine(show Q .normal _ from ?_)
  rw[List.take_length]at s8 k3
  exact hQ _ ⟨by dsimp only;omega,s0,s1,s2,s3,s8,k0,k1,k2,k3⟩
theorem zH(A:Rws)(D:Int→Nat)(hA:∀p∈A,p.2.length≤1000000)(hD:∀r x,x∈az A r []→D x<D r):∀(f:Nat) (r:Int) (kn:Dis),D r<f →
  aH Tryz.prog 55 [.int r,.ref 0 0,.ref 1 0,.ref 2 0] (rkH A kn) (.int (rkF A f r kn).1) ((rkH A (rkF A f r kn).2).map some)
 | 0,r,kn,h=>absurd h (by omega)
 | f+1,r,kn,h=>by
  have ih:=zH A D hA hD f
  have hinj:∀x y:Int,MK.n x=MK.n y→x=y:=λx y h=>MK.n.inj h
  have e1:=kZ (kf:=MK.n) (vf:=AV.int) (l:=kn) (x:=r) hinj 0 true
  have hrow:(az A r []).length≤1000000:=by
   cases e:aU A r with
   | false=>rw[cn e];simp
   | true=>exact hA _ (bG e)
  refine aH.walk Tryz.func55 Le (by simp[PE]) ?_
  unfold PE rkH
  simp only[eT,fm,List.length_cons,List.length_nil]
  refine AWP.seq' ?_
  refine AWP.reg' λK hK=>?_
  try simp only[ak,am,al,eq_self,implies_true,forall_eq_or_imp,forall_eq,Nat.reduceEqDiff,↓reduceIte,Nat.reduceAdd,Nat.reduceLeDiff,Nat.reduceSub,Nat.reduceMul,Nat.reduceLT,Int.reduceBEq,Int.reduceBNe,Int.reduceToNat,Int.reduceLT,Int.reduceLE,Int.reduceAdd,Int.reduceSub,Int.reduceMul,reduceCtorEq]
  refine hK _ _ _ ?_
  clear hK K
  refine AWP.seq' (AWP.seq' ?_)
  refine AWP.reg' λK hK=>?_
  try simp only[ak,am,al,eq_self,implies_true,forall_eq_or_imp,forall_eq,Nat.reduceEqDiff,↓reduceIte,Nat.reduceAdd,Nat.reduceLeDiff,Nat.reduceSub,Nat.reduceMul,Nat.reduceLT,Int.reduceBEq,Int.reduceBNe,Int.reduceToNat,Int.reduceLT,Int.reduceLE,Int.reduceAdd,Int.reduceSub,Int.reduceMul,reduceCtorEq,bo,du,AV.key,MK.fits,and_self,true_and,e1,cond_true]
  refine hK _ _ _ ?_
  clear hK K
  refine AWP.seq' ?_
  refine AWP.reg' λK hK=>?_
  try simp only[ak,am,al,eq_self,implies_true,forall_eq_or_imp,forall_eq,Nat.reduceEqDiff,↓reduceIte,Nat.reduceAdd,Nat.reduceLeDiff,Nat.reduceSub,Nat.reduceMul,Nat.reduceLT,Int.reduceBEq,Int.reduceBNe,Int.reduceToNat,Int.reduceLT,Int.reduceLE,Int.reduceAdd,Int.reduceSub,Int.reduceMul,reduceCtorEq]
  refine hK _ _ _ ?_
  clear hK K
  cases hk:aU kn r with
  | true =>
   have hr:rkF A (f+1) r kn=(az kn r 0,kn):=by rw[rkF,if_pos hk]
   rw[hr]
   refine AWP.cond (b:=true) rfl (λ_=>?_) (λh=>by cases h)
   refine AWP.seq' ?_
   refine AWP.reg' λK hK=>?_
   try simp only[ak,am,al,eq_self,implies_true,forall_eq_or_imp,forall_eq,Nat.reduceEqDiff,↓reduceIte,Nat.reduceAdd,Nat.reduceLeDiff,Nat.reduceSub,Nat.reduceMul,Nat.reduceLT,Int.reduceBEq,Int.reduceBNe,Int.reduceToNat,Int.reduceLT,Int.reduceLE,Int.reduceAdd,Int.reduceSub,Int.reduceMul,reduceCtorEq]
   refine hK _ _ _ ?_
   clear hK K
   exact AWP.ret (jW rfl rfl ⟨rfl,rfl,rfl,rfl,trivial⟩)
  | false =>
   refine AWP.cond (b:=false) rfl (λh=>by cases h) (λ_=>AWP.skip ?_)
   refine(show AWP _ _ _ _ _ _ from ?_)
   refine AWP.seq' ?_
   refine AWP.reg' λK hK=>?_
   try simp only[ak,am,al,eq_self,implies_true,forall_eq_or_imp,forall_eq,Nat.reduceEqDiff,↓reduceIte,Nat.reduceAdd,Nat.reduceLeDiff,Nat.reduceSub,Nat.reduceMul,Nat.reduceLT,Int.reduceBEq,Int.reduceBNe,Int.reduceToNat,Int.reduceLT,Int.reduceLE,Int.reduceAdd,Int.reduceSub,Int.reduceMul,reduceCtorEq]
   refine hK _ _ _ ?_
   clear hK K
   refine AWP.seq' (AWP.seq' ?_)
   have hinj':=kC (kf:=MK.n) (vf:=λl:List Int=>AV.sl 1 (l.map AV.int) false) (l:=A) (x:=r) (z:=[]) (zz:=.sl 0 [] true) (ok:=false) hinj
   have hinj2:=nU (kf:=MK.n) (vf:=λl:List Int=>AV.sl 1 (l.map AV.int) false) (l:=A) (x:=r) (zz:=.sl 0 [] true) (ok:=false) hinj
   have hr:rkF A (f+1) r kn=(((az A r []).foldl (rkS (rkF A f)) (0,kn)).1,bi ((az A r []).foldl (rkS (rkF A f)) (0,kn)).2 r ((az A r []).foldl (rkS (rkF A f)) (0,kn)).1):=by rw[rkF,if_neg (by simp[hk])]
   rw[hr]
   generalize hrv:az A r []=row at *
   generalize hP:row.foldl (rkS (rkF A f)) (0,kn)=p at *
   cases ha:aU A r with
   | true =>
    have e2:=hinj' ha
    simp only[cond_false]at e2
    refine AWP.reg' λK hK=>?_
    try simp only[ak,am,al,eq_self,implies_true,forall_eq_or_imp,forall_eq,Nat.reduceEqDiff,↓reduceIte,Nat.reduceAdd,Nat.reduceLeDiff,Nat.reduceSub,Nat.reduceMul,Nat.reduceLT,Int.reduceBEq,Int.reduceBNe,Int.reduceToNat,Int.reduceLT,Int.reduceLE,Int.reduceAdd,Int.reduceSub,Int.reduceMul,reduceCtorEq,bo,du,AV.key,MK.fits,and_self,true_and,e2,kyL,List.length_map]
    refine hK _ _ _ ?_
    clear hK K
    refine(show AWP Tryz.prog 4 38 Ix _ _ from ?_)
    refine rk_l A f D ih r row hrow (λx hx=>by have:=hD r x (by rw[hrv];exact hx);omega) kn _ ⟨by dsimp only;omega,rfl,rfl,rfl,rfl,rfl,rfl,rfl,rfl,rfl⟩ (by simp only[ah];rfl) (by simp only[ah];rfl) rfl _ (λs' hS=>?_)
    rw[hP]at hS
    obtain⟨tm1,hp1,nx1⟩:=s'
    obtain⟨n1,s0,s1,s2,s3,s8,k0,k1,k2,k3⟩:=hS
    simp only at n1 s0 s1 s2 s3 s8 k0 k1 k2 k3
    refine(show AWP _ _ _ _ _ _ from ?_)
    have e3:=iw (kf:=MK.n) (vf:=AV.int) (l:=p.2) (x:=r) hinj none p.1
    refine AWP.seq' ?_
    refine AWP.reg' λK hK=>?_
    try simp only[ak,am,al,eq_self,implies_true,forall_eq_or_imp,forall_eq,Nat.reduceEqDiff,↓reduceIte,Nat.reduceAdd,Nat.reduceLeDiff,Nat.reduceSub,Nat.reduceMul,Nat.reduceLT,Int.reduceBEq,Int.reduceBNe,Int.reduceToNat,Int.reduceLT,Int.reduceLE,Int.reduceAdd,Int.reduceSub,Int.reduceMul,reduceCtorEq,s0,s1,s8,k0,k3,bC,AV.key,MK.fits,and_self,true_and,e3]
    refine hK _ _ _ ?_
    clear hK K
    refine AWP.seq' ?_
    refine AWP.reg' λK hK=>?_
    try simp only[ak,am,al,eq_self,implies_true,forall_eq_or_imp,forall_eq,Nat.reduceEqDiff,↓reduceIte,Nat.reduceAdd,Nat.reduceLeDiff,Nat.reduceSub,Nat.reduceMul,Nat.reduceLT,Int.reduceBEq,Int.reduceBNe,Int.reduceToNat,Int.reduceLT,Int.reduceLE,Int.reduceAdd,Int.reduceSub,Int.reduceMul,reduceCtorEq,s8]
    refine hK _ _ _ ?_
    clear hK K
    exact AWP.ret (jW rfl rfl ⟨k0,k1,k2,rfl,trivial⟩)
   | false =>
    have e2:=hinj2 ha
    simp only[cond_false]at e2
    have hr0:row=[]:=by rw[←hrv,cn ha]
    subst hr0
    refine AWP.reg' λK hK=>?_
    try simp only[ak,am,al,eq_self,implies_true,forall_eq_or_imp,forall_eq,Nat.reduceEqDiff,↓reduceIte,Nat.reduceAdd,Nat.reduceLeDiff,Nat.reduceSub,Nat.reduceMul,Nat.reduceLT,Int.reduceBEq,Int.reduceBNe,Int.reduceToNat,Int.reduceLT,Int.reduceLE,Int.reduceAdd,Int.reduceSub,Int.reduceMul,reduceCtorEq,bo,du,AV.key,MK.fits,and_self,true_and,e2,kyL,List.length_map]
    refine hK _ _ _ ?_
    clear hK K
    refine AWP.weak (ay.subT 21 (y:=.sl 1 [] false) Sub.nil) ?_
    refine(show AWP Tryz.prog 4 38 Ix _ _ from ?_)
    refine rk_l A f D ih r [] hrow (λx hx=>by simp at hx) kn _ ⟨by dsimp only;omega,rfl,rfl,rfl,rfl,rfl,rfl,rfl,rfl,rfl⟩ rfl rfl rfl _ (λs' hS=>?_)
    rw[hP]at hS
    obtain⟨tm1,hp1,nx1⟩:=s'
    obtain⟨n1,s0,s1,s2,s3,s8,k0,k1,k2,k3⟩:=hS
    simp only at n1 s0 s1 s2 s3 s8 k0 k1 k2 k3
    refine(show AWP _ _ _ _ _ _ from ?_)
    have e3:=iw (kf:=MK.n) (vf:=AV.int) (l:=p.2) (x:=r) hinj none p.1
    refine AWP.seq' ?_
    refine AWP.reg' λK hK=>?_
    try simp only[ak,am,al,eq_self,implies_true,forall_eq_or_imp,forall_eq,Nat.reduceEqDiff,↓reduceIte,Nat.reduceAdd,Nat.reduceLeDiff,Nat.reduceSub,Nat.reduceMul,Nat.reduceLT,Int.reduceBEq,Int.reduceBNe,Int.reduceToNat,Int.reduceLT,Int.reduceLE,Int.reduceAdd,Int.reduceSub,Int.reduceMul,reduceCtorEq,s0,s1,s8,k0,k3,bC,AV.key,MK.fits,and_self,true_and,e3]
    refine hK _ _ _ ?_
    clear hK K
    refine AWP.seq' ?_
    refine AWP.reg' λK hK=>?_
    try simp only[ak,am,al,eq_self,implies_true,forall_eq_or_imp,forall_eq,Nat.reduceEqDiff,↓reduceIte,Nat.reduceAdd,Nat.reduceLeDiff,Nat.reduceSub,Nat.reduceMul,Nat.reduceLT,Int.reduceBEq,Int.reduceBNe,Int.reduceToNat,Int.reduceLT,Int.reduceLE,Int.reduceAdd,Int.reduceSub,Int.reduceMul,reduceCtorEq,s8]
    refine hK _ _ _ ?_
    clear hK K
    exact AWP.ret (jW rfl rfl ⟨k0,k1,k2,rfl,trivial⟩)
def MW:AC:=.seq (.reg [⟨(some 34),.mkm none,none⟩,⟨(some 11),.box (.c (.val (.map none))),none⟩,⟨none,.store 1 (.t 11) (.t 34),none⟩])
 (.seq (.reg [⟨(some 12),.box (.c (.val (.nilFunc))),none⟩])
 (.seq (.reg [⟨(some 35),.mkf 55 [(.t 11),(.t 10),(.t 12)],none⟩,⟨none,.store 1 (.t 12) (.t 35),none⟩])
 (.seq (.reg [⟨(some 13),.move (.c (.sl 0 [] true)),none⟩])
 (.seq (.seq (.reg [⟨(some 36),.faddr 0 (.t 2),none⟩,⟨(some 37),.load false 1 (.t 36),none⟩,⟨(some 38),.len (.t 37),none⟩,⟨(some 39),.move (.c (.val (.int .i64 0))),none⟩])
 (.block 0 (.loop (.seq (.reg [⟨(some 40),.bin .lss (.t 39) (.t 38),none⟩])
 (.seq (.cond (.t 40) (.skip) (.exit 0))
 (.seq (.block 1 (.seq (.reg [⟨(some 41),.iaddr 2 (.t 37) (.t 39),none⟩,⟨(some 42),.load true 2 (.t 41),none⟩,⟨(some 15),.box (.c (.agg [(.val (.int .i64 0)),(.val (.bool false))])),none⟩,⟨none,.store 2 (.t 15) (.t 42),none⟩])
 (.dreg [⟨(some 43),.move (.t 13),none⟩,⟨(some 44),.faddr 0 (.t 15),none⟩,⟨(some 45),.load false 1 (.t 44),none⟩,⟨(some 46),.load false 1 (.t 12),none⟩,⟨(some 47),.faddr 0 (.t 15),none⟩,⟨(some 48),.load false 1 (.t 47),none⟩,⟨(some 49),.call (.t 46) [(.t 48)],none⟩,⟨(some 50),.build [(.val (.int .i64 0)),(.val (.int .i64 0))] [(0,1,(.t 45)),(1,1,(.t 49))],none⟩,⟨(some 51),.lit 2 1 (.agg [(.val (.int .i64 0)),(.val (.int .i64 0))]) [(0,(.t 50))],none⟩,⟨(some 52),.append 2 16 (.t 43) (.t 51),none⟩,⟨(some 13),.move (.t 52),none⟩] [(2,3),(2,5),(3,5),(2,6)])))
 (.reg [⟨(some 53),.bin .add (.t 39) (.c (.val (.int .i64 1))),none⟩,⟨(some 39),.move (.t 53),none⟩])))))))
 (.seq (.reg [⟨(some 54),.move (.t 13),none⟩,⟨(some 4),.move (.t 54),none⟩,⟨(some 5),.move (.c (.val (.int .i64 0))),none⟩])
 (.ret))))))
def rkO(A:Rws)(N:Nat)(s:List Rnk×Dis)(r:Rtr):List Rnk×Dis:=(s.1++[⟨r.id,(rkF A N r.id s.2).1⟩],(rkF A N r.id s.2).2)
theorem Iw(t:Tpl)(A:Rws)(D:Int→Nat)(N:Nat)(hA:∀p∈A,p.2.length≤1000000)(hD:∀r x,x∈az A r []→D x<D r)(hN:∀r,D r<N)(ht:t.rs.length≤1000)(tm:Nat→AV)(hp:Hp)(t2:tm 2=.ref 0 0)(h0:hp 0=some (.box (Tpl.v t)))
  (t10:tm 10=.ref 352 0) (h10:hp 352=some (.box (mpR A))):AWP Tryz.prog 0 55 MW (fin 0 55 [.tmp 4,.tmp 5] (.tup [.sl 2 ((t.rs.foldl (rkO A N) ([],[])).1.map Rnk.v) false,.int 0]) []) ⟨tm,hp,1000⟩:=by
 have hml:=bj
 unfold MW
 refine AWP.seq' ?_
 refine AWP.reg' λK hK=>?_
 try simp only[ak,am,al,eq_self,implies_true,forall_eq_or_imp,forall_eq,Nat.reduceEqDiff,↓reduceIte,Nat.reduceAdd,Nat.reduceLeDiff,Nat.reduceSub,Nat.reduceMul,Nat.reduceLT,Int.reduceBEq,Int.reduceBNe,Int.reduceToNat,Int.reduceLT,Int.reduceLE,Int.reduceAdd,Int.reduceSub,Int.reduceMul,reduceCtorEq,q9]
 refine hK _ _ _ ?_
 clear hK K
 refine AWP.seq' ?_
 refine AWP.reg' λK hK=>?_
 try simp only[ak,am,al,eq_self,implies_true,forall_eq_or_imp,forall_eq,Nat.reduceEqDiff,↓reduceIte,Nat.reduceAdd,Nat.reduceLeDiff,Nat.reduceSub,Nat.reduceMul,Nat.reduceLT,Int.reduceBEq,Int.reduceBNe,Int.reduceToNat,Int.reduceLT,Int.reduceLE,Int.reduceAdd,Int.reduceSub,Int.reduceMul,reduceCtorEq]
 refine hK _ _ _ ?_
 clear hK K
 refine AWP.seq' ?_
 refine AWP.reg' λK hK=>?_
 try simp only[ak,am,al,eq_self,implies_true,forall_eq_or_imp,forall_eq,Nat.reduceEqDiff,↓reduceIte,Nat.reduceAdd,Nat.reduceLeDiff,Nat.reduceSub,Nat.reduceMul,Nat.reduceLT,Int.reduceBEq,Int.reduceBNe,Int.reduceToNat,Int.reduceLT,Int.reduceLE,Int.reduceAdd,Int.reduceSub,Int.reduceMul,reduceCtorEq,t10]
 refine hK _ _ _ ?_
 clear hK K
 refine AWP.seq' ?_
 refine AWP.reg' λK hK=>?_
 try simp only[ak,am,al,eq_self,implies_true,forall_eq_or_imp,forall_eq,Nat.reduceEqDiff,↓reduceIte,Nat.reduceAdd,Nat.reduceLeDiff,Nat.reduceSub,Nat.reduceMul,Nat.reduceLT,Int.reduceBEq,Int.reduceBNe,Int.reduceToNat,Int.reduceLT,Int.reduceLE,Int.reduceAdd,Int.reduceSub,Int.reduceMul,reduceCtorEq]
 refine hK _ _ _ ?_
 clear hK K
 refine AWP.seq' (AWP.seq' ?_)
 refine AWP.reg' λK hK=>?_
 try simp only[ak,am,al,eq_self,implies_true,forall_eq_or_imp,forall_eq,Nat.reduceEqDiff,↓reduceIte,Nat.reduceAdd,Nat.reduceLeDiff,Nat.reduceSub,Nat.reduceMul,Nat.reduceLT,Int.reduceBEq,Int.reduceBNe,Int.reduceToNat,Int.reduceLT,Int.reduceLE,Int.reduceAdd,Int.reduceSub,Int.reduceMul,reduceCtorEq,t2,h0,Tpl.v,List.length_map]
 repeat (refine And.intro (by omega) ?_)
 refine hK _ _ _ ?_
 clear hK K
 refine AWP.block ?_
 refine AWP.weak (ay.nilvec (k:=0) 13 0 2 (by simp only[ah];rfl) (Nat.zero_le _)) ?_
 refine AWP.loopS (λu:S3×Nat=>u.1) (λu=>u.2≤t.rs.length∧(1177≤u.1.nx∧u.1.tm 12=.ref 1048 0∧u.1.tm 37=.sl 2 (t.rs.map Rtr.v) false∧u.1.tm 38=.int t.rs.length∧u.1.tm 39=.int (u.2:Nat)) ∧
  (u.1.hp 1016=some (.box (.mref 1000))∧u.1.hp 352=some (.box (mpR A))∧u.1.hp 1048=some (.box (.func 55 [.ref 1016 0,.ref 352 0,.ref 1048 0]))∧u.1.hp 1000=some (knB ((t.rs.take u.2).foldl (rkO A N) ([],[])).2)) ∧
  ∃b,u.1.tm 13=.vec b∧b<u.1.nx∧u.1.hp b=some (.vec 2 (((t.rs.take u.2).foldl (rkO A N) ([],[])).1.map Rnk.v))) (λu=>t.rs.length-u.2) (i0:=(_,0)) ?_ ay.refl ?_
 ·exact⟨Nat.zero_le _,⟨Nat.le_refl _,rfl,rfl,rfl,rfl⟩,⟨rfl,h10,rfl,rfl⟩,1176,rfl,by dsimp only;omega,rfl⟩
 ·rintro⟨⟨tm1,hp1,nx1⟩,z⟩ ⟨hz,⟨n1,q12,q37,q38,q39⟩,⟨k0,k1,k2,k3⟩,b,qb,hb,kb⟩
  simp only at hz n1 q12 q37 q38 q39 k0 k1 k2 k3 qb hb kb ⊢
  refine AWP.seq' ?_
  refine AWP.reg' λK hK=>?_
  try simp only[ak,am,al,eq_self,implies_true,forall_eq_or_imp,forall_eq,Nat.reduceEqDiff,↓reduceIte,Nat.reduceAdd,Nat.reduceLeDiff,Nat.reduceSub,Nat.reduceMul,Nat.reduceLT,Int.reduceBEq,Int.reduceBNe,Int.reduceToNat,Int.reduceLT,Int.reduceLE,Int.reduceAdd,Int.reduceSub,Int.reduceMul,reduceCtorEq,q38,q39]
  refine hK _ _ _ ?_
  clear hK K
  refine AWP.seq' ?_
  refine AWP.cond (b:=decide ((z:Int)<(t.rs.length:Int))) rfl (λe=>?_) (λe=>?_)
  ·have e:z<t.rs.length:=by have:=of_decide_eq_true e;omega
   refine AWP.skip ?_
   refine AWP.seq' (AWP.block (AWP.seq' ?_))
   have hy:t.rs[z]?=some t.rs[z]:=List.getElem?_eq_getElem e
   generalize t.rs[z]=x at hy
   have hge:(t.rs.map Rtr.v).getD z .unk=Rtr.v x:=by rw[List.getD_eq_getElem?_getD,List.getElem?_map,hy];rfl
   refine AWP.reg' λK hK=>?_
   try simp only[ak,am,al,eq_self,implies_true,forall_eq_or_imp,forall_eq,Nat.reduceEqDiff,↓reduceIte,Nat.reduceAdd,Nat.reduceLeDiff,Nat.reduceSub,Nat.reduceMul,Nat.reduceLT,Int.reduceBEq,Int.reduceBNe,Int.reduceToNat,Int.reduceLT,Int.reduceLE,Int.reduceAdd,Int.reduceSub,Int.reduceMul,reduceCtorEq,q37,q39,hge,Int.toNat_natCast,List.length_map,Rtr.v]
   refine⟨⟨by omega,by omega⟩,?_⟩
   refine hK _ _ _ ?_
   clear hK K
   refine(show AWP _ _ _ _ _ _ from ?_)
   have hF:(t.rs.take (z+1)).foldl (rkO A N) ([],[])=rkO A N ((t.rs.take z).foldl (rkO A N) ([],[])) x:=ef _ _ hy
   have hpl:((t.rs.take z).foldl (rkO A N) ([],[])).1.length≤1000:=by
    have:∀(l:List Rtr) (s:List Rnk×Dis),(l.foldl (rkO A N) s).1.length=s.1.length+l.length:=λl=>by
     induction l with
     | nil=>intro s;rfl
     | cons r l ih=>intro s;rw[List.foldl_cons,ih];simp[rkO];omega
    rw[this,List.length_take];simp;omega
   generalize hP:(t.rs.take z).foldl (rkO A N) ([],[])=p at *
   have hx:=zH A D hA hD N x.id p.2 (hN _)
   obtain⟨f1048,_⟩:=nxF (show 1048<nx1 by omega)
   refine AWP.dreg' λK hK=>?_
   try simp only[ak,am,al,eq_self,implies_true,forall_eq_or_imp,forall_eq,Nat.reduceEqDiff,↓reduceIte,Nat.reduceAdd,Nat.reduceLeDiff,Nat.reduceSub,Nat.reduceMul,Nat.reduceLT,Int.reduceBEq,Int.reduceBNe,Int.reduceToNat,Int.reduceLT,Int.reduceLE,Int.reduceAdd,Int.reduceSub,Int.reduceMul,reduceCtorEq,qb,q12,k2,f1048,Nat.add_assoc]
   have hpl2:∀(v1 v2 v3:Option Blk) b,b<nx1→upd (upd (upd hp1 (nx1+48) v1) (nx1+48) v2) (nx1+48) v3 b=hp1 b:=λv1 v2 v3 b hb=>by
    simp only[ah];repeat rw[if_neg (by omega)]
   have hne:∀{c:Nat} {y:Blk},hp1 c=some y→(∀es,y≠.vec 2 es)→(b=c)=False∧(c=b)=False:=λh1 h2=>by
    refine⟨eq_false λe=>?_,eq_false λe=>?_⟩
    ·subst e;rw[kb]at h1;cases h1;exact h2 _ rfl
    ·subst e;rw[kb]at h1;cases h1;exact h2 _ rfl
   obtain⟨nb0,nb0'⟩:=hne k0 (λ_ h=>by cases h)
   obtain⟨nb1,nb1'⟩:=hne k1 (λ_ h=>by cases h)
   obtain⟨nb2,nb2'⟩:=hne k2 (λ_ h=>by cases h)
   obtain⟨nb3,nb3'⟩:=hne k3 (λ_ h=>by cases h)
   obtain⟨fb,fb',_,_⟩:=nxF hb
   refine F7 [1016,352,1048,1000] rfl (by rfl) (ul 1016 352 1048 1000 (by decide) hx ((hpl2 _ _ _ _ (by omega)).trans k0) ((hpl2 _ _ _ _ (by omega)).trans k1) ((hpl2 _ _ _ _ (by omega)).trans k2) ((hpl2 _ _ _ _ (by omega)).trans k3)) (λc h=>?_) ?_
   ·by_cases a0:c=1016
    ·simp[a0]
    by_cases a1:c=352
    ·simp[a1]
    by_cases a2:c=1048
    ·simp[a2]
    by_cases a3:c=1000
    ·simp[a3]
    exact absurd (by simp[dX,c8,a0,a1,a2,a3]) h
   rw[cq,cq,cq,cq,kI]
   try simp only[ak,am,al,eq_self,implies_true,forall_eq_or_imp,forall_eq,Nat.reduceEqDiff,↓reduceIte,Nat.reduceAdd,Nat.reduceLeDiff,Nat.reduceSub,Nat.reduceMul,Nat.reduceLT,Int.reduceBEq,Int.reduceBNe,Int.reduceToNat,Int.reduceLT,Int.reduceLE,Int.reduceAdd,Int.reduceSub,Int.reduceMul,reduceCtorEq]
   refine gD ?_
   try simp only[ak,am,al,eq_self,implies_true,forall_eq_or_imp,forall_eq,Nat.reduceEqDiff,↓reduceIte,Nat.reduceAdd,Nat.reduceLeDiff,Nat.reduceSub,Nat.reduceMul,Nat.reduceLT,Int.reduceBEq,Int.reduceBNe,Int.reduceToNat,Int.reduceLT,Int.reduceLE,Int.reduceAdd,Int.reduceSub,Int.reduceMul,reduceCtorEq,aZ,dN,nb0,nb1,nb2,nb3,nb0',nb1',nb2',nb3',fb,fb',kb,Nat.add_assoc,List.length_map]
   obtain⟨g1,g1',_⟩:=nxF (show 1016<nx1 by omega)
   obtain⟨g2,g2',_⟩:=nxF (show 352<nx1 by omega)
   obtain⟨g3,g3',_⟩:=nxF (show 1048<nx1 by omega)
   obtain⟨g4,g4',_⟩:=nxF (show 1000<nx1 by omega)
   refine⟨⟨by omega,by omega⟩,?_,?_⟩
   ·simp[gO,ni,bB,AOp.opers,aN,evO,ah,g1,g2,g3,g4,g1',g2',g3',g4']
   refine hK _ _ _ ?_
   clear hK K
   refine(show AWP _ _ _ _ _ _ from ?_)
   have hw:IntKind.i64.wrap ((z:Int)+1)=((z+1:Nat):Int):=j8 (by omega) (by omega)
   refine AWP.reg' λK hK=>?_
   try simp only[ak,am,al,eq_self,implies_true,forall_eq_or_imp,forall_eq,Nat.reduceEqDiff,↓reduceIte,Nat.reduceAdd,Nat.reduceLeDiff,Nat.reduceSub,Nat.reduceMul,Nat.reduceLT,Int.reduceBEq,Int.reduceBNe,Int.reduceToNat,Int.reduceLT,Int.reduceLE,Int.reduceAdd,Int.reduceSub,Int.reduceMul,reduceCtorEq,q39,hw]
   refine hK _ _ _ ?_
   clear hK K
   refine⟨(_,z+1),⟨by dsimp only;omega,⟨by dsimp only;omega,?_,?_,?_,rfl⟩,⟨?_,?_,?_,?_⟩,nx1+224,rfl,by dsimp only;omega,?_⟩,by dsimp only;omega,ay.refl⟩
   ·exact q12
   ·exact q37
   ·exact q38
   ·simp only[ah,g1,nb0',↓reduceIte,Nat.reduceEqDiff]
   ·simp only[ah,g2,nb1',↓reduceIte,Nat.reduceEqDiff]
   ·simp only[ah,g3,nb2',↓reduceIte,Nat.reduceEqDiff]
   ·dsimp only;rw[hF];simp only[ah,g4,nb3',↓reduceIte,Nat.reduceEqDiff];rfl
   ·dsimp only;rw[hF];simp only[ah,↓reduceIte];unfold rkO;rw[List.map_append];rfl
  ·have e:z=t.rs.length:=by have:=of_decide_eq_false e;omega
   subst e
   refine AWP.exit ?_
   rw[List.take_length]at kb
   refine(show AWP _ _ _ _ _ _ from ?_)
   refine AWP.seq' ?_
   refine AWP.reg' λK hK=>?_
   try simp only[ak,am,al,eq_self,implies_true,forall_eq_or_imp,forall_eq,Nat.reduceEqDiff,↓reduceIte,Nat.reduceAdd,Nat.reduceLeDiff,Nat.reduceSub,Nat.reduceMul,Nat.reduceLT,Int.reduceBEq,Int.reduceBNe,Int.reduceToNat,Int.reduceLT,Int.reduceLE,Int.reduceAdd,Int.reduceSub,Int.reduceMul,reduceCtorEq,qb]
   refine hK _ _ _ ?_
   clear hK K
   refine(show AWP _ _ _ _ _ _ from ?_)
   refine AWP.ret (gf (ay.giveT (es:=(t.rs.foldl (rkO A N) ([],[])).1.map Rnk.v) 4 b (by simp only[ah];rfl) kb (aB (ab (λ_=>rfl) _))) (jW rfl rfl trivial))
def PH:AF:=
 ⟨55,2,[.tmp 4,.tmp 5],
 .seq (.reg [⟨(some 2),.box (.t 0),none⟩,⟨(some 3),.box (.t 1),none⟩,⟨(some 4),.move (.c (.sl 0 [] true)),none⟩,⟨(some 5),.move (.c (.val (.int .i64 0))),none⟩])
 (.seq (.reg [⟨(some 17),.load true 2 (.t 2),none⟩,⟨(some 18),.load true 4 (.t 3),none⟩,⟨(some 19),.call (.c (.func 51 [])) [(.t 17),(.t 18)],none⟩,⟨(some 16),.move (.t 19),none⟩,⟨(some 20),.ext 0 (.t 16),none⟩,⟨(some 21),.ext 1 (.t 16),none⟩,⟨(some 22),.ext 2 (.t 16),none⟩,⟨(some 23),.ext 3 (.t 16),none⟩,⟨(some 7),.box (.c (.agg [(.sl 0 [] true),(.sl 0 [] true)])),none⟩,⟨(some 6),.move (.t 20),none⟩,⟨none,.store 2 (.t 7) (.t 21),none⟩,⟨(some 8),.move (.t 22),none⟩,⟨(some 9),.move (.t 23),none⟩])
 (.seq (.seq (.reg [⟨(some 24),.move (.t 9),none⟩,⟨(some 25),.bin .neq (.t 24) (.c (.val (.int .i64 0))),none⟩])
 (.cond (.t 25) (.seq (.reg [⟨(some 26),.move (.t 9),none⟩,⟨(some 4),.move (.c (.sl 0 [] true)),none⟩,⟨(some 5),.move (.t 26),none⟩])
 (.ret)) (.skip)))
 (.seq (.reg [⟨(some 27),.load true 2 (.t 7),none⟩,⟨(some 28),.move (.t 8),none⟩,⟨(some 29),.call (.c (.func 53 [])) [(.t 27),(.t 28)],none⟩,⟨(some 10),.box (.c (.val (.map none))),none⟩,⟨none,.store 1 (.t 10) (.t 29),none⟩])
 (.seq (.seq (.reg [⟨(some 30),.move (.t 6),none⟩,⟨(some 31),.bin .eql (.t 30) (.c (.val (.int .i64 1))),none⟩])
 (.cond (.t 31) (.reg [⟨(some 32),.load false 1 (.t 10),none⟩,⟨(some 33),.call (.c (.func 54 [])) [(.t 32)],none⟩,⟨none,.store 1 (.t 10) (.t 33),none⟩]) (.skip)))
 (.seq (.reg [⟨(some 34),.mkm none,none⟩,⟨(some 11),.box (.c (.val (.map none))),none⟩,⟨none,.store 1 (.t 11) (.t 34),none⟩])
 (.seq (.reg [⟨(some 12),.box (.c (.val (.nilFunc))),none⟩])
 (.seq (.reg [⟨(some 35),.mkf 55 [(.t 11),(.t 10),(.t 12)],none⟩,⟨none,.store 1 (.t 12) (.t 35),none⟩])
 (.seq (.reg [⟨(some 13),.move (.c (.sl 0 [] true)),none⟩])
 (.seq (.seq (.reg [⟨(some 36),.faddr 0 (.t 2),none⟩,⟨(some 37),.load false 1 (.t 36),none⟩,⟨(some 38),.len (.t 37),none⟩,⟨(some 39),.move (.c (.val (.int .i64 0))),none⟩])
 (.block 0 (.loop (.seq (.reg [⟨(some 40),.bin .lss (.t 39) (.t 38),none⟩])
 (.seq (.cond (.t 40) (.skip) (.exit 0))
 (.seq (.block 1 (.seq (.reg [⟨(some 41),.iaddr 2 (.t 37) (.t 39),none⟩,⟨(some 42),.load true 2 (.t 41),none⟩,⟨(some 15),.box (.c (.agg [(.val (.int .i64 0)),(.val (.bool false))])),none⟩,⟨none,.store 2 (.t 15) (.t 42),none⟩])
 (.dreg [⟨(some 43),.move (.t 13),none⟩,⟨(some 44),.faddr 0 (.t 15),none⟩,⟨(some 45),.load false 1 (.t 44),none⟩,⟨(some 46),.load false 1 (.t 12),none⟩,⟨(some 47),.faddr 0 (.t 15),none⟩,⟨(some 48),.load false 1 (.t 47),none⟩,⟨(some 49),.call (.t 46) [(.t 48)],none⟩,⟨(some 50),.build [(.val (.int .i64 0)),(.val (.int .i64 0))] [(0,1,(.t 45)),(1,1,(.t 49))],none⟩,⟨(some 51),.lit 2 1 (.agg [(.val (.int .i64 0)),(.val (.int .i64 0))]) [(0,(.t 50))],none⟩,⟨(some 52),.append 2 16 (.t 43) (.t 51),none⟩,⟨(some 13),.move (.t 52),none⟩] [(2,3),(2,5),(3,5),(2,6)])))
 (.reg [⟨(some 53),.bin .add (.t 39) (.c (.val (.int .i64 1))),none⟩,⟨(some 39),.move (.t 53),none⟩])))))))
 (.seq (.reg [⟨(some 54),.move (.t 13),none⟩,⟨(some 4),.move (.t 54),none⟩,⟨(some 5),.move (.c (.val (.int .i64 0))),none⟩])
 (.ret)))))))))))⟩
theorem Lh:fp Tryz.prog Tryz.f13=some PH:=by kernel_rfl
theorem ay.giveBox{k n:Nat}{tm:Nat→AV}{hp:Hp}{nx:Nat}{kq:Option Nat}{ks:List MK}{vs:List AV}(b0 b:Nat)(h0:hp b0=some (.box (.mref b)))(hb:hp b=some (.map kq ks vs))(hx:aR vs) :
  ay k n ⟨tm,hp,nx⟩ ⟨tm,upd (upd hp b none) b0 (some (.box (.mp kq ks vs))),nx⟩:=by
 have hne:b0≠b:=λe=>by subst e;rw[h0]at hb;cases hb
 refine ay.give b rfl (λu=>.inr bn.refl) (λb' x hx'=>?_) (by show hp b≠none;rw[hb];simp)
 have hx':upd (upd hp b none) b0 (some (.box (.mp kq ks vs))) b'=some x:=hx'
 by_cases e:b'=b0
 ·subst e;rw[ai]at hx';cases hx'
  exact⟨hne,.inr ⟨_,_,h0,rfl,rfl,bn.map hb hx⟩⟩
 ·rw[aj _ _ e]at hx'
  by_cases e2:b'=b
  ·subst e2;rw[ai]at hx';cases hx'
  ·rw[aj _ _ e2]at hx';exact⟨e2,.inl hx'⟩
theorem ay.up{k n:Nat}{tm:Nat→AV}{hp:Hp}{nx nx':Nat}(h:nx≤nx'):ay k n ⟨tm,hp,nx⟩ ⟨tm,hp,nx'⟩:=by
 rintro P c a w ⟨h0,A,μ,H⟩
 exact⟨h0,A,μ,H.free λb hb=>Nat.le_trans h hb⟩
theorem CG{P:Program}{fid:FuncId}{n f:Nat}{args:List AV}{L:Rws}{hp:Hp}(hs:aH P fid args [] (.mref 0) [some (gY L)])(hf:j5 P fid)(h1:aR args):aY P n fid args f hp [] (.mref f) (dX [(f,some (gY L))]):=by
 have key:=aY.hand (n:=n) (f:=f) (hp:=hp) hf hs [] rfl (by simp) (aQ h1) (λi c y e1 e2=>by simp at e1) (by simp) (by simp) (show(0:Nat)<1 by omega) (λy hy=>by simp at hy;subst hy;exact aQ (dB _))
 have e0:aS [] f 0=f:=rfl
 have e1:(gY L).ren (aS [] f)=gY L:=by unfold gY;rw[Blk.ren,aT _ (dB _)]
 have e3:cz [] f [some (gY L)]=dX [(f,some (gY L))]:=by simp[cz,List.zipIdx,e0,e1]
 rw[e3]at key
 simpa only[aT _ h1,AV.ren,e0]using key
def TOk(L:Rws)(is:List Nat):Prop:=is.Nodup∧(∀i∈is,i<L.length)∧∀i,i<L.length→i∈is
theorem iK.mono{P:Program}{n f:Nat}{fid:FuncId}{args:List AV}{hp:Hp}{foot:List Nat}{Q Q':AV→Eff→Prop}(h:iK P n fid args f hp foot Q)(hq:∀v e,Q v e→Q' v e):iK P n fid args f hp foot Q':=
 ⟨h.1,λc A μ fr tm' hp' a w cargs h1 h2 h3 h4=>(h.2 c A μ fr tm' hp' a w cargs h1 h2 h3 h4).mono λe' w'=>by rintro⟨v,e,q,r⟩;exact⟨v,e,hq v e q,r⟩⟩
theorem rl{L:Rws}(hL:uA L){n f b:Nat}{hp:Hp}(hb:hp b=some (gY L)) :
  iK Tryz.prog n 54 [.mref b] f hp [b] (λv e=>∃is,TOk L is∧v=.mref f∧e=dX [(b,none),(f,some (gY (fP L is)))]):=by
 have e0:aS [b] f 0=b:=rfl
 have e1:aS [b] f 1=f:=rfl
 have rn:∀L,(gY L).ren (aS [b] f)=gY L:=λL=>by unfold gY;rw[Blk.ren,aT _ (dB _)]
 have key:=iK.hand (n:=n) (f:=f) (hp:=hp) ⟨_,Tryz.func54,by kernel_rfl,by kernel_rfl⟩ (Db L hL) [b] rfl (by simp) ⟨show(0:Nat)<1 by omega,trivial⟩ (λi c y h1 h2=>by
  match i with
  | 0=>cases h1;cases h2;exact⟨aQ (dB _),hb.trans (congrArg some (rn L).symm)⟩
  | i+1=>simp at h1) (λr h'=>by
   rintro⟨is,_,_,_,rfl,rfl⟩
   exact⟨by simp,by simp,show(1:Nat)<2 by omega,λx hx=>by simp at hx;subst hx;exact aQ (dB _)⟩)
 refine iK.mono (by simpa only[dt,AV.ren,e0]using key) ?_
 rintro v e ⟨r,h',⟨is,i1,i2,i3,rfl,rfl⟩,rfl,rfl⟩
 refine⟨is,⟨i1,i2,i3⟩,by rw[AV.ren,e1],?_⟩
 simp[cz,List.zipIdx,e0,e1,rn]
def o3(t:Tpl)(A:Rws)(R:List Rnk):Prop:=∃(D:Int→Nat) (N:Nat),(∀p∈A,p.2.length≤1000000)∧(∀r x,x∈az A r []→D x<D r)∧(∀r,D r<N)∧R=(t.rs.foldl (rkO A N) ([],[])).1
theorem IK(t:Tpl)(c:Chg)(R:List Rnk)(hb:(bt t c).2.2.2=0→t.rs.length≤1000∧(bt t c).2.2.1.length≤1000∧uA (ft (bt t c).2.1 (bt t c).2.2.1))
    (h2:(bt t c).2.2.2=0→¬(bt t c).1=1→o3 t (ft (bt t c).2.1 (bt t c).2.2.1) R)
    (h1:(bt t c).2.2.2=0→(bt t c).1=1→∀is,TOk (ft (bt t c).2.1 (bt t c).2.2.1) is→o3 t (fP (ft (bt t c).2.1 (bt t c).2.2.1) is) R)
    (hR:¬(bt t c).2.2.2=0→R=[]):aH Tryz.prog 13 [Tpl.v t,Chg.v c] [] (.tup [.sl 2 (R.map Rnk.v) false,.int (bt t c).2.2.2]) []:=by
  refine aH.walk Tryz.func13 Lh (by simp[PH]) ?_
  unfold PH
  simp only[eT,fm,List.length_cons,List.length_nil]
  have hred:aw Tryz.prog (pd t c).f [Tpl.v t,Chg.v c] (.tup [.int (bt t c).1,Tpl.v (bt t c).2.1,.sl 2 ((bt t c).2.2.1.map Hop.v) false,.int (bt t c).2.2.2]):=(pd t c).ok
  generalize bt t c=q at *
  obtain⟨kd,g,ds,er⟩:=q
  simp only at hb h2 h1 hR hred ⊢
  refine AWP.seq' ?_
  refine AWP.reg' λK hK=>?_
  try simp only[ak,am,al,eq_self,implies_true,forall_eq_or_imp,forall_eq,Nat.reduceEqDiff,↓reduceIte,Nat.reduceAdd,Nat.reduceLeDiff,Nat.reduceSub,Nat.reduceMul,Nat.reduceLT,Int.reduceBEq,Int.reduceBNe,Int.reduceToNat,Int.reduceLT,Int.reduceLE,Int.reduceAdd,Int.reduceSub,Int.reduceMul,reduceCtorEq]
  refine⟨rfl,rfl,?_⟩
  refine hK _ _ _ ?_
  clear hK K
  refine AWP.seq' ?_
  refine AWP.reg' λK hK=>?_
  try simp only[ak,am,al,eq_self,implies_true,forall_eq_or_imp,forall_eq,Nat.reduceEqDiff,↓reduceIte,Nat.reduceAdd,Nat.reduceLeDiff,Nat.reduceSub,Nat.reduceMul,Nat.reduceLT,Int.reduceBEq,Int.reduceBNe,Int.reduceToNat,Int.reduceLT,Int.reduceLE,Int.reduceAdd,Int.reduceSub,Int.reduceMul,reduceCtorEq,Tpl.v,Chg.v]
  refine cG hred (pd t c).fn rfl rfl ⟨⟨trivial,trivial,trivial⟩,⟨trivial,trivial,trivial,trivial,trivial⟩,trivial⟩ ?_
  try simp only[ak,am,al,eq_self,implies_true,forall_eq_or_imp,forall_eq,Nat.reduceEqDiff,↓reduceIte,Nat.reduceAdd,Nat.reduceLeDiff,Nat.reduceSub,Nat.reduceMul,Nat.reduceLT,Int.reduceBEq,Int.reduceBNe,Int.reduceToNat,Int.reduceLT,Int.reduceLE,Int.reduceAdd,Int.reduceSub,Int.reduceMul,reduceCtorEq,Tpl.v]
  refine hK _ _ _ ?_
  clear hK K
  refine AWP.seq' (AWP.seq' ?_)
  refine AWP.reg' λK hK=>?_
  try simp only[ak,am,al,eq_self,implies_true,forall_eq_or_imp,forall_eq,Nat.reduceEqDiff,↓reduceIte,Nat.reduceAdd,Nat.reduceLeDiff,Nat.reduceSub,Nat.reduceMul,Nat.reduceLT,Int.reduceBEq,Int.reduceBNe,Int.reduceToNat,Int.reduceLT,Int.reduceLE,Int.reduceAdd,Int.reduceSub,Int.reduceMul,reduceCtorEq]
  refine hK _ _ _ ?_
  clear hK K
  by_cases he:er=0
  case neg =>
    refine AWP.cond (b := true) (by have : (er != 0) = true := by simpa using he
                                    rw[←this];rfl) (λ_=>?_) (λh=>by cases h)
    refine AWP.seq' ?_
    refine AWP.reg' λK hK=>?_
    try simp only[ak,am,al,eq_self,implies_true,forall_eq_or_imp,forall_eq,Nat.reduceEqDiff,↓reduceIte,Nat.reduceAdd,Nat.reduceLeDiff,Nat.reduceSub,Nat.reduceMul,Nat.reduceLT,Int.reduceBEq,Int.reduceBNe,Int.reduceToNat,Int.reduceLT,Int.reduceLE,Int.reduceAdd,Int.reduceSub,Int.reduceMul,reduceCtorEq]
    refine hK _ _ _ ?_
    clear hK K
    rw[hR he]
    refine AWP.ret (gf (ay.subT 4 (y:=.sl 2 [] false) Sub.nil) (jW rfl rfl trivial))
  subst he
  obtain⟨b1,b2,b3⟩:=hb rfl
  refine AWP.cond (b:=false) rfl (λh=>by cases h) (λ_=>AWP.skip ?_)
  refine(show AWP _ _ _ _ _ _ from ?_)
  refine AWP.seq' ?_
  refine AWP.reg' λK hK=>?_
  try simp only[ak,am,al,eq_self,implies_true,forall_eq_or_imp,forall_eq,Nat.reduceEqDiff,↓reduceIte,Nat.reduceAdd,Nat.reduceLeDiff,Nat.reduceSub,Nat.reduceMul,Nat.reduceLT,Int.reduceBEq,Int.reduceBNe,Int.reduceToNat,Int.reduceLT,Int.reduceLE,Int.reduceAdd,Int.reduceSub,Int.reduceMul,reduceCtorEq,Tpl.v]
  refine i9 rfl (by rfl) (CG (GH g ds b2) ⟨_,Tryz.func53,by kernel_rfl,by kernel_rfl⟩ ⟨⟨trivial,trivial,trivial⟩,trivial,trivial⟩) ?_
  rw[kH]
  try simp only[ak,am,al,eq_self,implies_true,forall_eq_or_imp,forall_eq,Nat.reduceEqDiff,↓reduceIte,Nat.reduceAdd,Nat.reduceLeDiff,Nat.reduceSub,Nat.reduceMul,Nat.reduceLT,Int.reduceBEq,Int.reduceBNe,Int.reduceToNat,Int.reduceLT,Int.reduceLE,Int.reduceAdd,Int.reduceSub,Int.reduceMul,reduceCtorEq]
  refine hK _ _ _ ?_
  clear hK K
  refine AWP.seq' (AWP.seq' ?_)
  refine AWP.reg' λK hK=>?_
  try simp only[ak,am,al,eq_self,implies_true,forall_eq_or_imp,forall_eq,Nat.reduceEqDiff,↓reduceIte,Nat.reduceAdd,Nat.reduceLeDiff,Nat.reduceSub,Nat.reduceMul,Nat.reduceLT,Int.reduceBEq,Int.reduceBNe,Int.reduceToNat,Int.reduceLT,Int.reduceLE,Int.reduceAdd,Int.reduceSub,Int.reduceMul,reduceCtorEq]
  refine hK _ _ _ ?_
  clear hK K
  have fin:∀(A:Rws) (tm':Nat→AV) (hp':Hp) (nx' b:Nat),nx'≤1000→o3 t A R→tm' 2=.ref 0 0→tm' 10=.ref 352 0→hp' 0=some (.box (Tpl.v t))→hp' 352=some (.box (.mref b))→hp' b=some (gY A) →
      AWP Tryz.prog 0 55 MW (Am.fin 0 55 [.tmp 4,.tmp 5] (.tup [.sl 2 (R.map Rnk.v) false,.int 0]) []) ⟨tm',hp',nx'⟩:=by
    rintro A tm' hp' nx' b hn ⟨D,N,m1,m2,m3,rfl⟩ t2 t10 k0 k10 kb
    refine AWP.weak ((ay.giveBox 352 b k10 kb (dB _)).trans (ay.up hn)) ?_
    refine Iw t A D N m1 m2 m3 b1 _ _ t2 ?_ t10 ?_
    · have e1:(0:Nat)≠b:=λe=>by subst e;rw[k0]at kb;cases kb
      simp only[ah,if_neg e1];exact k0
    · simp only[ah,↓reduceIte]
  by_cases hk:kd=1
  · refine AWP.cond (b:=true) (by subst hk;rfl) (λ_=>?_) (λh=>by cases h)
    refine AWP.regE (os1:=[_]) (os2:=[_]) ?_
    try simp only[ak,am,al,eq_self,implies_true,forall_eq_or_imp,forall_eq,Nat.reduceEqDiff,↓reduceIte,Nat.reduceAdd,Nat.reduceLeDiff,Nat.reduceSub,Nat.reduceMul,Nat.reduceLT,Int.reduceBEq,Int.reduceBNe,Int.reduceToNat,Int.reduceLT,Int.reduceLE,Int.reduceAdd,Int.reduceSub,Int.reduceMul,reduceCtorEq]
    refine⟨_,[],[336],_,rfl,rl b3 rfl,?_⟩
    rintro v e ⟨is,hi,rfl,rfl⟩
    rw[cq,kH]
    try simp only[ak,am,al,eq_self,implies_true,forall_eq_or_imp,forall_eq,Nat.reduceEqDiff,↓reduceIte,Nat.reduceAdd,Nat.reduceLeDiff,Nat.reduceSub,Nat.reduceMul,Nat.reduceLT,Int.reduceBEq,Int.reduceBNe,Int.reduceToNat,Int.reduceLT,Int.reduceLE,Int.reduceAdd,Int.reduceSub,Int.reduceMul,reduceCtorEq]
    refine(show AWP _ _ _ _ _ _ from ?_)
    exact fin (fP (ft g ds) is) _ _ _ 432 (by omega) (h1 rfl hk is hi) rfl rfl rfl rfl rfl
  · refine AWP.cond (b := false) (by have : (kd == 1) = false := by simpa using hk
                                     rw[←this];rfl) (λh=>by cases h) (λ_=>AWP.skip ?_)
    exact fin _ _ _ _ 336 (by omega) (h2 rfl hk) rfl rfl rfl rfl rfl
theorem Bm{t:Tpl}(hc:aJ t=0){g u n:Int}{k:Nat}(hg:aI t g=true)(p:Pth t g k u n):∃m,m≤n∧bg t u g=(m,true):=by
 have hk:g∈au (inG t):=by unfold inG;rw[be,bv];exact hg
 have hF:=dU (lb hc) hk
 obtain⟨m,hm,hx⟩:=hF.low ((jT hc).mpr ⟨k,p⟩)
 refine⟨m,hm,?_⟩
 rw[xL hc,if_pos (bP.mpr ⟨m,hx⟩),dE hF.nd hx]
theorem dF{t:Tpl}{u g m:Int}(e:bg t u g=(m,true)):(∃k,Pth t g k u m)∧(∀k n,Pth t g k u n→m≤n)∧0≤m∧m≤24000:=by
 have e2:(bg t u g).2=true:=by rw[e]
 obtain⟨hc,hu,hg⟩:=nq e2
 rw[xL hc]at e
 by_cases h:aU (cr (inG t) g) u=true
 ·rw[if_pos h]at e
  have hm:=bG (z:=0) h
  have e3:az (cr (inG t) g) u 0=m:=(Prod.mk.inj e).1
  rw[e3]at hm
  obtain⟨h1,h2⟩:=(mK hc hg).mp hm
  obtain⟨h3,h4⟩:=AS hc hg hm
  exact⟨h1,h2,h3,h4⟩
 ·rw[if_neg h]at e;cases e
theorem IM{t:Tpl}{v w:Int}{j:Nat}{n:Int}(q:Pth t w j v n):∀{k:Nat} {u m:Int},Pth t v k u m→Pth t w (j+k) u (n+m):=by
 intro k u m p
 induction p with
 | nil=>simpa using q
 | cons e p ih =>
  have:=Pth.cons e ih
  rwa [Int.add_assoc]at this
theorem Bi{t:Tpl}{u v w a b:Int}(h1:bg t u v=(a,true))(h2:bg t v w=(b,true)):∃m,m≤a+b∧bg t u w=(m,true):=by
 obtain⟨⟨k,p⟩,_⟩:=dF h1
 obtain⟨⟨j,q⟩,_⟩:=dF h2
 obtain⟨hc,_,hw⟩:=nq (t:=t) (x:=v) (y:=w) (by rw[h2])
 obtain⟨m,hm,e⟩:=Bm hc hw (IM q p)
 exact⟨m,by omega,e⟩
theorem Gc{t:Tpl}(hc:aJ t=0){u v c:Int}(e:fN t u v c):∃m,m≤c∧bg t u v=(m,true):=by
 obtain⟨m,hm,q⟩:=Bm hc (e.has hc).2 (Pth.cons e .nil)
 exact⟨m,by omega,q⟩
theorem Gb{t:Tpl}{x:Int}(h:(bg t x x).2=true):(bg t x x).1=0:=by
 have e:bg t x x=((bg t x x).1,true):=Prod.ext rfl h
 obtain⟨⟨k,p⟩,h2,h3,_⟩:=dF e
 have:=h2 0 0 .nil
 omega
theorem dG{t:Tpl}{x y:Int}(h:(bg t x y).2=true):bg t x y=((bg t x y).1,true):=Prod.ext rfl h
structure BhH (g:Tpl) (h:Hop) (x y:Int):Prop where
  ne:x≠h.a
  xa:(bg g x h.a).2=true
  ya:(bg g y h.a).2=true
  xb:(bg g x h.b).2=true
  yb:(bg g y h.b).2=true
  dec:(bg g y h.a).1<(bg g x h.a).1
  lx:(bg g x h.a).1<(bg g x h.b).1
  ly:(bg g y h.a).1<(bg g y h.b).1
theorem zg{t:Tpl}{x d:Int}{h:Hop}{c:Int}(hc:1≤c∧c≤1000):lm (cZ t) x d h c=true↔(bg t x h.a).2=true∧(bg t h.b d).2=true∧(bg t x d).2=true∧(bg t x h.a).1+c+(bg t h.b d).1=(bg t x d).1:=by
 unfold lm
 obtain⟨ha,hb⟩:=h
 simp only[qE,Kb,Bool.and_eq_true,beq_iff_eq]
 constructor
 ·rintro⟨h1,h2,h3⟩
  obtain⟨_,_,p1,p2⟩:=dF (dG h1)
  obtain⟨_,_,q1,q2⟩:=dF (dG h2)
  rw[dY (n:=(bg t x ha).1+c) (by omega),dY (by omega)]at h3
  refine⟨h1,h2,?_,h3⟩
  cases e:(bg t x d).2 with
  | true=>rfl
  | false=>have:=Bo e;omega
 ·rintro⟨h1,h2,h3,h4⟩
  obtain⟨_,_,p1,p2⟩:=dF (dG h1)
  obtain⟨_,_,q1,q2⟩:=dF (dG h2)
  refine⟨h1,h2,?_⟩
  rw[dY (n:=(bg t x ha).1+c) (by omega),dY (by omega),h4]
theorem PR{t:Tpl}{h:Hop}{c d x y w:Int}{M:Rws}(hc:aJ t=0)(he:fN t h.a h.b c)(hw:1≤w∧w≤1000)(hq:beQ t h c d x y w M=true):BhH t h x y:=by
 have hcc:=he.cost hc
 unfold beQ at hq
 simp only[Bool.and_eq_true,bne_iff_ne,ne_eq]at hq
 obtain⟨q1,q2,q3,q4,_⟩:=hq
 rw[zg hw]at q2
 rw[zg hcc]at q3 q4
 obtain⟨a1,a2,a3,a4⟩:=q2
 obtain⟨b1,b2,b3,b4⟩:=q3
 obtain⟨c1,c2,c3,c4⟩:=q4
 simp only at a1 a2 a4
 have a0:=Gb a1
 have key:∀z,(bg t z h.a).2=true→(bg t z d).2=true→(bg t z h.a).1+c+(bg t h.b d).1=(bg t z d).1→(bg t z h.b).2=true∧(bg t z h.a).1<(bg t z h.b).1:=λz g1 g2 g3=>by
  obtain⟨m,hm,e⟩:=Gc hc he
  obtain⟨n,hn,e'⟩:=Bi (dG g1) e
  have e2:(bg t z h.b).2=true:=by rw[e']
  obtain⟨k,hk,e3⟩:=Bi (dG e2) (dG b2)
  have:(bg t z d).1=k:=by rw[e3]
  exact⟨e2,by omega⟩
 obtain⟨x1,x2⟩:=key x b1 b3 b4
 obtain⟨y1,y2⟩:=key y c1 c3 c4
 exact⟨q1,b1,c1,x1,y1,by omega,x2,y2⟩
theorem DW{M:Rws}(hn:(au M).Nodup)(k v:Int):(au (pu M k v)).Nodup:=dI hn
theorem DV{M:Rws}(hn:(au M).Nodup)(k v x:Int):az (pu M k v) x []=if x=k then az M k []++[v]else az M x []:=by
 have hn':=DW hn k v
 by_cases e:x=k
 ·subst e
  rw[if_pos rfl]
  exact dE hn' ((bK hn).mpr (.inl rfl))
 ·rw[if_neg e]
  cases h:aU M x with
  | true=>exact dE hn' ((bK hn).mpr (.inr ⟨bG h,e⟩))
  | false =>
   rw[cn h]
   refine cn ?_
   unfold pu
   rw[sL hn,h,decide_eq_false e];rfl
structure BeI (t:Tpl) (ds:List Hop) (M:Rws):Prop where
  nd:(au M).Nodup
  bh:∀x y,y∈az M x []→∃h∈ds,BhH t h x y
  ri:fL t M
theorem BeI.pu{t:Tpl}{ds:List Hop}{M:Rws}(h:BeI t ds M){h0:Hop}{x y:Int}(hd:h0∈ds)(hb:BhH t h0 x y)(hx:aI t x=true)(hy:aI t y=true)(hn:y ∉ az M x []):BeI t ds (pu M x y):=by
 refine⟨DW h.nd x y,λu v hv=>?_,h.ri.pu hx hy hn⟩
 rw[DV h.nd]at hv
 by_cases e:u=x
 ·subst e
  rw[if_pos rfl]at hv
  rcases List.mem_append.mp hv with hv|hv
  ·exact h.bh _ _ hv
  ·rw[List.mem_singleton.mp hv];exact⟨h0,hd,hb⟩
 ·rw[if_neg e]at hv;exact h.bh _ _ hv
theorem BeI.step{t:Tpl}(hc:aJ t=0){ds:List Hop}{M:Rws}(h:BeI t ds M){h0:Hop}{c d:Int}(hd:h0∈ds)(he:fN t h0.a h0.b c){s:Int×Int×Int}(hx:aI t s.1=true)(hy:aI t s.2.1=true)(hw:1≤s.2.2∧s.2.2≤1000):BeI t ds (beI t h0 c d M s):=by
 unfold Go.Proofs.YtdbdndmdbbihbaaGreat.beI
 split
 ·rename_i e
  have e':=e
  unfold beQ at e'
  simp only[Bool.and_eq_true,Bool.not_eq_true',decide_eq_false_iff_not]at e'
  exact h.pu hd (PR hc he hw e) hx hy e'.2.2.2.2
 ·exact h
theorem fa{α β:Type}(I:β→Prop)(f:β→α→β):∀(l:List α) (b:β),I b→(∀b x,x∈l→I b→I (f b x))→I (l.foldl f b)
 | [],b,h,_=>h
 | x::l,b,h,hf=>fa I f l (f b x) (hf b x (by simp) h) λb y hy hb=>hf b y (by simp[hy]) hb
theorem NK{t:Tpl}(hc:aJ t=0){l:Lnk}(hl:l∈t.ls):∀z∈lst l,aI t z.1=true∧aI t z.2.1=true∧1≤z.2.2∧z.2.2≤1000:=λz hz=>by
 have hO:=aC hc
 obtain⟨ha,hb⟩:=hO.has l hl
 obtain⟨c1,c2,_⟩:=hO.lr l hl
 unfold gE at c1 c2
 simp only[Bool.and_eq_true,decide_eq_true_iff]at c1 c2
 unfold lst at hz
 simp only[List.mem_cons,List.not_mem_nil,or_false]at hz
 rcases hz with rfl|rfl
 ·exact⟨ha,hb,c1⟩
 ·exact⟨hb,ha,c2⟩
theorem B5(t:Tpl)(ds:List Hop):BeI t ds (ft t ds):=by
 unfold ft
 refine fa (BeI t ds) (be4 t) ds [] ⟨List.nodup_nil,λx y h=>by rw[cn (by unfold aU au;simp)]at h;simp at h,⟨λp hp=>by simp at hp,λp hp=>by simp at hp,λp hp=>by simp at hp⟩⟩ λM h hh hM=>?_
 unfold be4
 split
 ·rename_i e
  have hc:=nt e
  have he:fN t h.a h.b (bR t h.a h.b).1:=by
   rw[DZ hc]
   have:bR t h.a h.b=ec t h.a h.b:=by unfold bR;rw[if_neg (by simp[hc])]
   rw[←this];exact Prod.ext rfl e
  refine fa (BeI t ds) _ t.rs M hM λM d _ hM=>?_
  unfold be3
  refine fa (BeI t ds) _ t.ls M hM λM l hl hM=>?_
  unfold be2
  refine fa (BeI t ds) _ (lst l) M hM λM z hz hM=>?_
  obtain⟨a1,a2,a3⟩:=NK hc hl z hz
  exact hM.step hc hh he a1 a2 a3
 ·exact hM
theorem Ls{t:Tpl}{ds:List Hop}(hc:¬aJ t=0):ft t ds=[]:=by
 unfold ft
 refine fa (λM=>M=[]) (be4 t) ds [] rfl λM h _ hM=>?_
 unfold be4
 rw[if_neg (λe=>hc (nt e))];exact hM
theorem uo(t:Tpl)(ds:List Hop):uA (ft t ds):=by
 by_cases hc:aJ t=0
 ·have h:=B5 t ds
  have hk:∀x,aI t x=true→Am.inK .i64 x:=λx hx=>by
   obtain⟨r,hr,rfl⟩:=eE.mp hx
   have:=(aC hc).rg r hr
   rw[Fe];omega
  refine⟨?_,λp hp=>hk _ (h.ri.ky p hp),λp hp=>by have:=h.ri.len hc p hp;omega,λp hp y hy=>hk _ (h.ri.el p hp y hy)⟩
  have:=List.Nodup.length_le_of_subset h.nd (show au (ft t ds) ⊆ t.rs.map (·.id)from λx hx=>by
   obtain⟨v,hv⟩:=aP.mp hx
   exact tl.mp (h.ri.ky _ hv))
  rw[List.length_map,c9]at this
  have:=(cH hc).1;omega
 ·rw[Ls hc];exact⟨by simp,λp hp=>by simp at hp,λp hp=>by simp at hp,λp hp=>by simp at hp⟩
def dsN(t:Tpl)(x a:Int):Nat:=if(bg t x a).2=true then(bg t x a).1.toNat else 100000
def msr(t:Tpl)(c:Chg)(x:Int):Nat:=min (dsN t x c.a) (dsN t x c.b)
theorem OO(t:Tpl)(x a:Int):dsN t x a≤100000:=by
 unfold dsN
 split
 ·rename_i h;have:=(dF (dG h)).2.2;omega
 ·omega
theorem NG(t:Tpl)(c:Chg)(x:Int):msr t c x≤100000:=by
 unfold msr;have:=OO t x c.a;omega
theorem Jv{t:Tpl}{c:Chg}{h:Hop}(hh:h∈eU c){x y:Int}(hb:BhH t h x y):msr t c y<msr t c x:=by
 obtain⟨_,xa,ya,xb,yb,d,lx,ly⟩:=hb
 have p1:=(dF (dG xa)).2.2
 have p2:=(dF (dG ya)).2.2
 have p3:=(dF (dG xb)).2.2
 have p4:=(dF (dG yb)).2.2
 have e1:dsN t x h.a=(bg t x h.a).1.toNat:=if_pos xa
 have e2:dsN t y h.a=(bg t y h.a).1.toNat:=if_pos ya
 have e3:dsN t x h.b=(bg t x h.b).1.toNat:=if_pos xb
 have e4:dsN t y h.b=(bg t y h.b).1.toNat:=if_pos yb
 unfold eU at hh
 simp only[List.mem_cons,List.not_mem_nil,or_false]at hh
 unfold msr
 rcases hh with rfl|rfl
 ·simp only at e1 e2 e3 e4 d lx ly p1 p2 p3 p4;omega
 ·simp only at e1 e2 e3 e4 d lx ly p1 p2 p3 p4;omega
def mxL(g:Int→Int)(l:List Int)(n:Int):Int:=l.foldl (λn x=>dj n (g x)) n
theorem Jz(a b:Int):a≤dj a b∧b≤dj a b∧(dj a b=a∨dj a b=b):=by
 unfold dj;split<;>omega
theorem wi(g:Int→Int):∀(l:List Int) (n:Int),n≤mxL g l n∧(∀x∈l,g x≤mxL g l n)∧(mxL g l n=n∨∃x∈l,mxL g l n=g x)
 | [],n=>⟨Int.le_refl _,λx hx=>by simp at hx,.inl rfl⟩
 | x::l,n=>by
  obtain⟨h1,h2,h3⟩:=wi g l (dj n (g x))
  obtain⟨m1,m2,m3⟩:=Jz n (g x)
  have e:mxL g (x::l) n=mxL g l (dj n (g x)):=rfl
  rw[e]
  refine⟨by omega,λy hy=>?_,?_⟩
  ·rcases List.mem_cons.mp hy with rfl|hy
   ·omega
   ·exact h2 y hy
  ·rcases h3 with h3|⟨y,hy,h3⟩
   ·rcases m3 with m3|m3
    ·exact .inl (by omega)
    ·exact .inr ⟨x,by simp,by omega⟩
   ·exact .inr ⟨y,by simp[hy],h3⟩
theorem wj{g g':Int→Int}{l l':List Int}(n:Int)(hm:∀x,x∈l↔x∈l')(hg:∀x∈l,g x=g' x):mxL g l n=mxL g' l' n:=by
 obtain⟨a1,a2,a3⟩:=wi g l n
 obtain⟨b1,b2,b3⟩:=wi g' l' n
 refine Int.le_antisymm ?_ ?_
 ·rcases a3 with a3|⟨x,hx,a3⟩
  ·omega
  ·have:=b2 x ((hm x).mp hx);rw[←hg x hx]at this;omega
 ·rcases b3 with b3|⟨x,hx,b3⟩
  ·omega
  ·have h':=(hm x).mpr hx
   have:=a2 x h';rw[hg x h']at this;omega
def rkP(A:Rws):Nat→Int→Int
 | 0,_=>0
 | f+1,r=>mxL (λx=>W (1+rkP A f x)) (az A r []) 0
theorem sj{A:Rws}{D:Int→Nat}(hD:∀r x,x∈az A r []→D x<D r):∀(f g:Nat) (r:Int),D r<f→D r<g→rkP A f r=rkP A g r
 | 0,_,r,h,_=>absurd h (by omega)
 | _,0,r,_,h=>absurd h (by omega)
 | f+1,g+1,r,h1,h2=>by
  unfold rkP
  exact wj 0 (λ_=>Iff.rfl) λx hx=>by have:=hD r x hx;rw[sj hD f g x (by omega) (by omega)]
theorem zC{A A':Rws}(h:∀r x,x∈az A r []↔x∈az A' r []):∀(f:Nat) (r:Int),rkP A f r=rkP A' f r
 | 0,_=>rfl
 | f+1,r=>by
  unfold rkP
  exact wj 0 (h r) λx _=>by rw[zC h f x]
structure Hn (A:Rws) (N:Nat) (kn:Dis):Prop where
  nd:(au kn).Nodup
  val:∀p∈kn,p.2=rkP A N p.1
theorem DB{A:Rws}{D:Int→Nat}(hD:∀r x,x∈az A r []→D x<D r)(N:Nat)(hN:∀r,D r<N):∀(f:Nat) (r:Int) (kn:Dis),D r<f→Hn A N kn→(rkF A f r kn).1=rkP A N r∧Hn A N (rkF A f r kn).2
 | 0,r,kn,h,_=>absurd h (by omega)
 | f+1,r,kn,h,hk=>by
  have ih:=DB hD N hN f
  unfold rkF
  split
  ·rename_i e
   exact⟨hk.val _ (bG e),hk⟩
  ·have key:∀(l:List Int) (n:Int) (kn:Dis),(∀x∈l,x∈az A r [])→Hn A N kn→(l.foldl (rkS (rkF A f)) (n,kn)).1=mxL (λx=>W (1+rkP A N x)) l n∧Hn A N (l.foldl (rkS (rkF A f)) (n,kn)).2:=λl=>by
    induction l with
    | nil=>intro n kn _ hk;exact⟨rfl,hk⟩
    | cons x l ihl =>
     intro n kn hl hk
     have hx:=hD r x (hl x (by simp))
     obtain⟨g1,g2⟩:=ih x kn (by omega) hk
     have e:rkS (rkF A f) (n,kn) x=(dj n (W (1+rkP A N x)),(rkF A f x kn).2):=by unfold rkS;simp only;rw[g1]
     rw[List.foldl_cons,e]
     exact ihl _ _ (λy hy=>hl y (by simp[hy])) g2
   obtain⟨k1,k2⟩:=key (az A r []) 0 kn (λx hx=>hx) hk
   have e2:rkP A N r=mxL (λx=>W (1+rkP A N x)) (az A r []) 0:=by
    have hr:=hN r
    match N,hr with
    | N+1,hr =>
     rw[rkP]
     exact wj 0 (λ_=>Iff.rfl) λx hx=>by have:=hD r x hx;rw[sj hD N (N+1) x (by omega) (by omega)]
   refine⟨by rw[e2];exact k1,dI k2.nd,λp hp=>?_⟩
   rcases(bK k2.nd).mp hp with rfl|⟨hp,_⟩
   ·simp only;rw[e2];exact k1
   ·exact k2.val p hp
theorem DA{A:Rws}{D:Int→Nat}(hD:∀r x,x∈az A r []→D x<D r)(N:Nat)(hN:∀r,D r<N):∀(l:List Rtr) (s:List Rnk×Dis),Hn A N s.2→(l.foldl (rkO A N) s).1=s.1++l.map λr=>⟨r.id,rkP A N r.id⟩
 | [],s,_=>by simp
 | r::l,s,h=>by
  obtain⟨g1,g2⟩:=DB hD N hN N r.id s.2 (hN _) h
  rw[List.foldl_cons,DA hD N hN l (rkO A N s r) g2]
  unfold rkO
  simp only[List.map_cons,List.append_assoc,List.cons_append,List.nil_append,g1]
theorem EB{t:Tpl}{A:Rws}{D:Int→Nat}{N:Nat}(hA:∀p∈A,p.2.length≤1000000)(hD:∀r x,x∈az A r []→D x<D r)(hN:∀r,D r<N):o3 t A (t.rs.map λr=>⟨r.id,rkP A N r.id⟩):=
 ⟨D,N,hA,hD,hN,by rw[DA hD N hN t.rs ([],[]) ⟨List.nodup_nil,λp hp=>by simp at hp⟩];rfl⟩
theorem zd(x:Int):∀(l:List Int) (M:Rws) (m:Nat),(au M).Nodup→(∀p∈M,p.2.length≤m)→(au (iX x M l)).Nodup∧(∀p∈iX x M l,p.2.length≤m+l.length)∧∀y z,z∈az (iX x M l) y []↔z∈az M y []∨z=x∧y∈l
 | [],M,m,hn,hm=>⟨hn,λp hp=>by have:=hm p hp;simpa using this,λy z=>by simp[iX]⟩
 | v::l,M,m,hn,hm=>by
  obtain⟨g1,g2,g3⟩:=zd x l (pu M v x) (m+1) (DW hn v x) (v8 hm v x)
  have e:iX x M (v::l)=iX x (pu M v x) l:=rfl
  rw[e]
  refine⟨g1,λp hp=>by have:=g2 p hp;rw[List.length_cons];omega,λy z=>?_⟩
  rw[g3,DV hn]
  by_cases e:y=v
  ·subst e;rw[if_pos rfl];simp[or_assoc];constructor
   ·rintro(h|h|h)
    ·exact .inl h
    ·exact .inr h
    ·exact .inr h.1
   ·rintro(h|h)
    ·exact .inl h
    ·exact .inr (.inl h)
  ·rw[if_neg e];simp[e]
theorem zc{L:Rws}(hr:∀p∈L,p.2.length≤100):∀(is:List Nat) (M:Rws) (m:Nat),(au M).Nodup→(∀p∈M,p.2.length≤m)→(∀i∈is,i<L.length) →
  (au (is.foldl (λM i=>iX (L.getD i (0,[])).1 M (L.getD i (0,[])).2) M)).Nodup∧(∀p∈is.foldl (λM i=>iX (L.getD i (0,[])).1 M (L.getD i (0,[])).2) M,p.2.length≤m+100 * is.length) ∧
  ∀y z,z∈az (is.foldl (λM i=>iX (L.getD i (0,[])).1 M (L.getD i (0,[])).2) M) y []↔z∈az M y []∨∃i∈is,∃l,L[i]?=some (z,l)∧y∈l
 | [],M,m,hn,hm,_=>⟨hn,λp hp=>by have:=hm p hp;simpa using this,λy z=>by simp⟩
 | i::is,M,m,hn,hm,hi=>by
  have hil:=hi i (by simp)
  have hg:L[i]?=some L[i]:=List.getElem?_eq_getElem hil
  have hgd:L.getD i (0,[])=L[i]:=by rw[List.getD_eq_getElem?_getD,hg];rfl
  have hlen:=hr _ (List.mem_of_getElem? hg)
  obtain⟨g1,g2,g3⟩:=zd (L.getD i (0,[])).1 (L.getD i (0,[])).2 M m hn hm
  obtain⟨k1,k2,k3⟩:=zc hr is _ _ g1 g2 (λj hj=>hi j (by simp[hj]))
  rw[List.foldl_cons]
  refine⟨k1,λp hp=>by have:=k2 p hp;rw[hgd]at this;rw[List.length_cons];omega,λy z=>?_⟩
  rw[k3,g3,hgd]
  constructor
  ·rintro((h|⟨rfl,h⟩)|⟨j,hj,l,h1,h2⟩)
   ·exact .inl h
   ·exact .inr ⟨i,by simp,L[i].2,by rw[hg],h⟩
   ·exact .inr ⟨j,by simp[hj],l,h1,h2⟩
  ·rintro(h|⟨j,hj,l,h1,h2⟩)
   ·exact .inl (.inl h)
   ·rcases List.mem_cons.mp hj with rfl|hj
    ·rw[hg]at h1
     have e:=Option.some.inj h1
     rw[e]
     exact .inl (.inr ⟨rfl,h2⟩)
    ·exact .inr ⟨j,hj,l,h1,h2⟩
theorem rU{L:Rws}(hL:uA L)(hn:(au L).Nodup){is:List Nat}(hi:TOk L is):(∀p∈fP L is,p.2.length≤1000000)∧∀y z,z∈az (fP L is) y []↔y∈az L z []:=by
 obtain⟨i1,i2,i3⟩:=hi
 obtain⟨_,k2,k3⟩:=zc hL.row is [] 0 List.nodup_nil (λp hp=>by simp at hp) i2
 have hl:=List.Nodup.length_le_of_subset i1 (show is ⊆ List.range L.length from λa ha=>List.mem_range.mpr (i2 a ha))
 rw[List.length_range]at hl
 have:=hL.len
 refine⟨λp hp=>by have:=k2 p hp;omega,λy z=>(k3 y z).trans ?_⟩
 constructor
 ·rintro(h|⟨i,hi,l,h1,h2⟩)
  ·rw[cn (by unfold aU au;simp)]at h;simp at h
  ·rw[dE hn (List.mem_of_getElem? h1)];exact h2
 ·intro h
  refine .inr ?_
  cases e:aU L z with
  | false=>rw[cn e]at h;simp at h
  | true =>
   obtain⟨i,hi⟩:=List.mem_iff_getElem?.mp (bG (z:=[]) e)
   exact⟨i,i3 i (aq hi),_,hi,h⟩
theorem zF{t:Tpl}{c:Chg}(h:(bt t c).2.2.2=0):aJ t=0∧(bT t c).2=0∧(∀x∈(bt t c).2.2.1,x∈eU c)∧(bt t c).2.2.1.length≤2∧((bt t c).2.1=t∨(bt t c).2.1=(bT t c).1):=by
 have e:(bT t c).2=0:=by
  refine Classical.byContradiction λq=>?_
  unfold bt at h
  rw[if_pos q]at h;exact q h
 have hc:aJ t=0:=by
  refine Classical.byContradiction λq=>?_
  unfold bT at e
  rw[if_pos q]at e;cases e
 have hl:((eU c).filter (chH t (bT t c).1)).length≤2:=List.length_filter_le _ _
 refine⟨hc,e,?_⟩
 unfold bt at h ⊢
 rw[if_neg (by simp[e])]at h ⊢
 split
 ·rename_i q;rw[if_pos q]at h;cases h
 ·split
  ·exact⟨λx hx=>(List.mem_filter.mp hx).1,hl,.inr rfl⟩
  ·exact⟨λx hx=>(List.mem_filter.mp hx).1,hl,.inl rfl⟩
def rnkA(t:Tpl)(c:Chg):Rws:=if(bt t c).1=1 then fP (ft (bt t c).2.1 (bt t c).2.2.1) (List.range (ft (bt t c).2.1 (bt t c).2.2.1).length)else ft (bt t c).2.1 (bt t c).2.2.1
def fi(t:Tpl)(c:Chg):List Rnk:=if(bt t c).2.2.2=0 then t.rs.map λr=>⟨r.id,rkP (rnkA t c) 200000 r.id⟩else []
theorem BW(L:Rws):TOk L (List.range L.length):=⟨List.nodup_range,λi hi=>List.mem_range.mp hi,λi hi=>List.mem_range.mpr hi⟩
theorem se{t:Tpl}{c:Chg}(h:(bt t c).2.2.2=0):(¬(bt t c).1=1→o3 t (ft (bt t c).2.1 (bt t c).2.2.1) (fi t c))∧((bt t c).1=1→∀is,TOk (ft (bt t c).2.1 (bt t c).2.2.1) is→o3 t (fP (ft (bt t c).2.1 (bt t c).2.2.1) is) (fi t c)):=by
 obtain⟨hc,ha,hd,hl,hg⟩:=zF h
 unfold fi rnkA
 rw[if_pos h]
 generalize (bt t c).2.1=g at *
 generalize (bt t c).2.2.1=ds at *
 have hB:=B5 g ds
 have hR:=uo g ds
 have hdec:∀r x,x∈az (ft g ds) r []→msr g c x<msr g c r:=λr x hx=>by
  obtain⟨h0,h1,h2⟩:=hB.bh r x hx
  exact Jv (hd h0 h1) h2
 have hle:=NG g c
 refine⟨λk=>?_,λk is hi=>?_⟩
 ·rw[if_neg k]
  exact EB (D:=msr g c) (N:=200000) (λp hp=>by have:=hR.row p hp;omega) hdec (λr=>by have:=hle r;omega)
 ·rw[if_pos k]
  obtain⟨m1,m2⟩:=rU hR hB.nd hi
  obtain⟨_,n2⟩:=rU hR hB.nd (BW _)
  have e:(t.rs.map λr=>(⟨r.id,rkP (fP (ft g ds) (List.range (ft g ds).length)) 200000 r.id⟩:Rnk))=t.rs.map λr=>⟨r.id,rkP (fP (ft g ds) is) 200000 r.id⟩:=by
   refine List.map_congr_left λr _=>?_
   rw[zC (λy z=>(n2 y z).trans (m2 y z).symm)]
  rw[e]
  exact EB (D:=λx=>150000-msr g c x) (N:=200000) m1 (λr x hx=>by
   have:=hdec x r ((m2 r x).mp hx)
   have:=hle x;have:=hle r;omega) (λr=>by omega)
theorem IL(t:Tpl)(c:Chg):aw Tryz.prog 13 [Tpl.v t,Chg.v c] (.tup [.sl 2 ((fi t c).map Rnk.v) false,.int (bt t c).2.2.2]):=by
 refine aH.pure (IK t c (fi t c) (λh=>?_) (λh=>(se h).1) (λh=>(se h).2) (λh=>by unfold fi;rw[if_neg h])) ⟨trivial,trivial,trivial⟩
 obtain⟨hc,ha,hd,hl,hg⟩:=zF h
 have:=(cH hc).1
 exact⟨by omega,by omega,uo _ _⟩
def IJ(t:Tpl)(c:Chg):PC Tryz.prog:=⟨13,[(.a [(.s 2),(.s 5)]),.k],[.agg [.sl 2 (t.rs.map Rtr.v) false,.sl 5 (t.ls.map Lnk.v) false],.agg [.int c.a,.int c.b,.int c.ca,.int c.cb]],.tup [.sl 2 ((fi t c).map Rnk.v) false,.int (bt t c).2.2.2],IL t c,ap (by kernel_rfl)⟩
def ux(ch:List Int)(x y:Rnk):Bool:=decide (x.n<y.n) && (!(decide (x.r∈ch)) && decide (y.r∈ch))
def CM(l:List Rnk)(ch:List Int):Bool:=l.all λx=>l.all λy=>!(ux ch x y)
def Hi(l:List Rnk)(changed:List Int):=okL [.sl 2 (l.map Rnk.v) false,.sl 1 (changed.map AV.int) false]
def LE(l:List Rnk)(changed:List Int)(t0:Int):NF:=⟨[(0,.k,.sl 2 (l.map Rnk.v) false),(1,.k,.sl 1 (changed.map AV.int) false),(9,.k,.sl 2 (l.map Rnk.v) false),(10,.k,.int ((l.map Rnk.v).length:Int)),(11,.k,.int t0)],[]⟩
def LD(l:List Rnk)(changed:List Int)(t0:Int)(x1:Rnk)(t1:Int):NF:=⟨[(0,.k,.sl 2 (l.map Rnk.v) false),(1,.k,.sl 1 (changed.map AV.int) false),(6,.k,.ref 0 0),(9,.k,.sl 2 (l.map Rnk.v) false),(10,.k,.int ((l.map Rnk.v).length:Int)),(11,.k,.int t0),(15,.k,.sl 2 (l.map Rnk.v) false),(16,.k,.int ((l.map Rnk.v).length:Int)),(17,.k,.int t1)],[.box (.agg [.int x1.r,.int x1.n])]⟩
def LC(l:List Rnk)(changed:List Int)(t0:Int)(x1:Rnk)(t1:Int)(t2:Bool):NF:=⟨[(0,.k,.sl 2 (l.map Rnk.v) false),(1,.k,.sl 1 (changed.map AV.int) false),(6,.k,.ref 0 0),(9,.k,.sl 2 (l.map Rnk.v) false),(10,.k,.int ((l.map Rnk.v).length:Int)),(11,.k,.int t0),(15,.k,.sl 2 (l.map Rnk.v) false),(16,.k,.int ((l.map Rnk.v).length:Int)),(17,.k,.int t1),(38,.k,.bool t2)],[.box (.agg [.int x1.r,.int x1.n])]⟩
@[reducible] def Hg:Nat→Type
 | 0=>Int
 | 1=>Int
 | 2=>Bool
 | _=>Unit
def yC(r:Bool):AV:=.bool r
def yB(l:List Rnk)(changed:List Int)(I0:Int→Prop)(m0:Int→Nat)(I1:Int→Rnk→Int→Prop)(m1:Int→Rnk→Int→Nat)(I2:Int→Rnk→Int→Rnk→Bool→Prop):Ax Tryz.prog Hg (Bool):=
 (.loop 0 (LE l changed) I0 m0 ((0):Int) [] λ(t0:Int) b0 =>
(.br 16 (decide (t0<((l.map Rnk.v).length:Int))) (.el 16 Rnk.v l (λR=>Rf (l.map Rnk.v) (ck (decide (0≤t0)) (ck (decide (t0<(l.length:Int)))
(∀x1,l[t0.toNat]?=some x1 →
(R x1))))) λx1 =>
(.loop 1 (LD l changed t0 x1) (I1 t0 x1) (m1 t0 x1) ((0):Int) [48] λ(t1:Int) b1 =>
(.br 17 (decide (t1<((l.map Rnk.v).length:Int))) (.el 17 Rnk.v l (λR=>Rf (l.map Rnk.v) (ck (decide (0≤t1)) (ck (decide (t1<(l.length:Int)))
(∀x2,l[t1.toNat]?=some x2 →
(R x2))))) λx2 =>
(.join 2 (LC l changed t0 x1 t1) (λ(t2:Bool)=>I2 t0 x1 t1 x2 t2) (λb2=>(.br 177 (decide (x1.n<x2.n)) (.callP (eY changed x1.r)
(.br 289 (!(decide (x1.r∈changed))) (.callP (eY changed x2.r)
(.bk 2 b2 ((decide (x2.r∈changed)):Bool) [0]))
(.bk 2 b2 ((false):Bool) [0])))
(.bk 2 b2 ((false):Bool) [0]))) λ(t2:Bool) =>
(.br 1 t2 (.ret (false))
(.bk 1 b1 ((W (t1+1)):Int) [0]))))
(.bk 0 b0 ((W (t0+1)):Int) []))))
(.ret (true))))
def BD(l:List Rnk)(changed:List Int)(I0:Int→Prop)(m0:Int→Nat)(I1:Int→Rnk→Int→Prop)(m1:Int→Rnk→Int→Nat)(I2:Int→Rnk→Int→Rnk→Bool→Prop)(r0:Bool):=(yB l changed I0 m0 I1 m1 I2).vp yC r0
theorem Qd(l:List Rnk)(ch:List Int)(h:l.length≤1000000)(ok:Hi l ch):∃I0 m0 I1 m1 I2,BD l ch I0 m0 I1 m1 I2 (CM l ch):=by
 refine⟨λi=>aL l (λx=>(l.all λy=>!(ux ch x y))=true) i,λi=>l.length-i.toNat,λ_ x i=>aL l (λy=>ux ch x y=false) i,λ_ _ i=>l.length-i.toNat,λ_ x _ y b=>b=ux ch x y,?_⟩
 simp only[Hi,okU,Blk.ok,aK,List.length_map]at ok
 dsimp only[BD,yB,Hg,Ax.vp,Ax.vc];simp only[vcU,rfU,List.length_map]
 refine⟨aL.zero,λi hi=>⟨λc=>⟨hi.idx,c,λx hx=>⟨aL.zero,λj hj=>⟨λd=>⟨hj.idx,d,λy hy=>⟨⟨λe=>⟨λe2=>?_,λe2=>?_⟩,λe=>?_⟩,?_⟩⟩,λd=>?_⟩⟩⟩,λc=>?_⟩⟩
 ·unfold ux;rw[decide_eq_true e,e2];rfl
 ·unfold ux;rw[e2];simp
 ·unfold ux;rw[decide_eq_false e];rfl
 ·rintro _ rfl
  refine⟨λe=>?_,λe=>hj.step (by omega) hy e⟩
  refine(Bool.eq_false_iff.mpr λq=>?_).symm
  unfold CM at q
  have:=List.all_eq_true.mp (List.all_eq_true.mp q x (bS hx)) y (bS hy)
  rw[e]at this;cases this
 ·exact hi.step (by omega) hx (List.all_eq_true.mpr λy hy=>by rw[hj.done d y hy];rfl)
 ·exact(List.all_eq_true.mpr λx hx=>hi.done c x hx).symm
def Hh(l:List Rnk)(changed:List Int)(h:l.length≤1000000):PC Tryz.prog:=⟨59,[(.s 2),(.s 1)],[.sl 2 (l.map Rnk.v) false,.sl 1 (changed.map AV.int) false],yC (CM l changed),aw.of_ok λok=>(Qd l changed h ok).elim λI0 h=>h.elim λm0 h=>h.elim λI1 h=>h.elim λm1 h=>h.elim λI2 h=>av (sh:=.k) (enc:=yC) (a:=(yB l changed I0 m0 I1 m1 I2).an) h (by kernel_rfl) (AV.pureB_ok rfl),ap (by kernel_rfl)⟩
def T18:Tpl:=⟨[⟨1,true⟩,⟨2,true⟩,⟨3,true⟩,⟨4,true⟩],[⟨1,2,1,1,0⟩,⟨1,3,1,1,0⟩,⟨1,4,1,1,0⟩,⟨2,3,1,1,0⟩]⟩
theorem BK:(bt T18 ⟨1,2,0,0⟩).1=1∧(bt T18 ⟨1,2,0,0⟩).2.2.2=0:=⟨by kernel_rfl,by kernel_rfl⟩
theorem LQ:fi T18 ⟨1,2,0,0⟩=[⟨1,1⟩,⟨2,0⟩,⟨3,0⟩,⟨4,0⟩]:=by kernel_rfl
def L0:Prop:=okL []
def rz(r:Bool):AV:=.bool r
def rv:Ax Tryz.prog noS (Bool):=
 (.callP (IJ (⟨[(⟨1,true⟩:Rtr),(⟨2,true⟩:Rtr),(⟨3,true⟩:Rtr),(⟨4,true⟩:Rtr)],[(⟨1,2,1,1,0⟩:Lnk),(⟨1,3,1,1,0⟩:Lnk),(⟨1,4,1,1,0⟩:Lnk),(⟨2,3,1,1,0⟩:Lnk)]⟩:Tpl) (⟨1,2,0,0⟩:Chg))
(.callP (NW (⟨[(⟨1,true⟩:Rtr),(⟨2,true⟩:Rtr),(⟨3,true⟩:Rtr),(⟨4,true⟩:Rtr)],[(⟨1,2,1,1,0⟩:Lnk),(⟨1,3,1,1,0⟩:Lnk),(⟨1,4,1,1,0⟩:Lnk),(⟨2,3,1,1,0⟩:Lnk)]⟩:Tpl) (⟨1,2,0,0⟩:Chg))
(.br 528 (((bt (⟨[(⟨1,true⟩:Rtr),(⟨2,true⟩:Rtr),(⟨3,true⟩:Rtr),(⟨4,true⟩:Rtr)],[(⟨1,2,1,1,0⟩:Lnk),(⟨1,3,1,1,0⟩:Lnk),(⟨1,4,1,1,0⟩:Lnk),(⟨2,3,1,1,0⟩:Lnk)]⟩:Tpl) (⟨1,2,0,0⟩:Chg)).2.2.2)==0) (.br 592 (((bt (⟨[(⟨1,true⟩:Rtr),(⟨2,true⟩:Rtr),(⟨3,true⟩:Rtr),(⟨4,true⟩:Rtr)],[(⟨1,2,1,1,0⟩:Lnk),(⟨1,3,1,1,0⟩:Lnk),(⟨1,4,1,1,0⟩:Lnk),(⟨2,3,1,1,0⟩:Lnk)]⟩:Tpl) (⟨1,2,0,0⟩:Chg)).2.2.2)==0) (.br 656 (((bt (⟨[(⟨1,true⟩:Rtr),(⟨2,true⟩:Rtr),(⟨3,true⟩:Rtr),(⟨4,true⟩:Rtr)],[(⟨1,2,1,1,0⟩:Lnk),(⟨1,3,1,1,0⟩:Lnk),(⟨1,4,1,1,0⟩:Lnk),(⟨2,3,1,1,0⟩:Lnk)]⟩:Tpl) (⟨1,2,0,0⟩:Chg)).1)==1) (.br 736 ((((fi (⟨[(⟨1,true⟩:Rtr),(⟨2,true⟩:Rtr),(⟨3,true⟩:Rtr),(⟨4,true⟩:Rtr)],[(⟨1,2,1,1,0⟩:Lnk),(⟨1,3,1,1,0⟩:Lnk),(⟨1,4,1,1,0⟩:Lnk),(⟨2,3,1,1,0⟩:Lnk)]⟩:Tpl) (⟨1,2,0,0⟩:Chg)).map Rnk.v).length:Int)==4) (.el 752 Rnk.v (fi (⟨[(⟨1,true⟩:Rtr),(⟨2,true⟩:Rtr),(⟨3,true⟩:Rtr),(⟨4,true⟩:Rtr)],[(⟨1,2,1,1,0⟩:Lnk),(⟨1,3,1,1,0⟩:Lnk),(⟨1,4,1,1,0⟩:Lnk),(⟨2,3,1,1,0⟩:Lnk)]⟩:Tpl) (⟨1,2,0,0⟩:Chg)) (λR=>Rf ((fi (⟨[(⟨1,true⟩:Rtr),(⟨2,true⟩:Rtr),(⟨3,true⟩:Rtr),(⟨4,true⟩:Rtr)],[(⟨1,2,1,1,0⟩:Lnk),(⟨1,3,1,1,0⟩:Lnk),(⟨1,4,1,1,0⟩:Lnk),(⟨2,3,1,1,0⟩:Lnk)]⟩:Tpl) (⟨1,2,0,0⟩:Chg)).map Rnk.v) (ck (decide (0<((fi (⟨[(⟨1,true⟩:Rtr),(⟨2,true⟩:Rtr),(⟨3,true⟩:Rtr),(⟨4,true⟩:Rtr)],[(⟨1,2,1,1,0⟩:Lnk),(⟨1,3,1,1,0⟩:Lnk),(⟨1,4,1,1,0⟩:Lnk),(⟨2,3,1,1,0⟩:Lnk)]⟩:Tpl) (⟨1,2,0,0⟩:Chg)).length:Int)))
(∀x1,(fi (⟨[(⟨1,true⟩:Rtr),(⟨2,true⟩:Rtr),(⟨3,true⟩:Rtr),(⟨4,true⟩:Rtr)],[(⟨1,2,1,1,0⟩:Lnk),(⟨1,3,1,1,0⟩:Lnk),(⟨1,4,1,1,0⟩:Lnk),(⟨2,3,1,1,0⟩:Lnk)]⟩:Tpl) (⟨1,2,0,0⟩:Chg))[0]?=some x1 →
(R x1)))) λx1 =>
(.br 848 ((x1.r==1) && ((x1.n==1) && true)) (.el 864 Rnk.v (fi (⟨[(⟨1,true⟩:Rtr),(⟨2,true⟩:Rtr),(⟨3,true⟩:Rtr),(⟨4,true⟩:Rtr)],[(⟨1,2,1,1,0⟩:Lnk),(⟨1,3,1,1,0⟩:Lnk),(⟨1,4,1,1,0⟩:Lnk),(⟨2,3,1,1,0⟩:Lnk)]⟩:Tpl) (⟨1,2,0,0⟩:Chg)) (λR=>Rf ((fi (⟨[(⟨1,true⟩:Rtr),(⟨2,true⟩:Rtr),(⟨3,true⟩:Rtr),(⟨4,true⟩:Rtr)],[(⟨1,2,1,1,0⟩:Lnk),(⟨1,3,1,1,0⟩:Lnk),(⟨1,4,1,1,0⟩:Lnk),(⟨2,3,1,1,0⟩:Lnk)]⟩:Tpl) (⟨1,2,0,0⟩:Chg)).map Rnk.v) (ck (decide (3<((fi (⟨[(⟨1,true⟩:Rtr),(⟨2,true⟩:Rtr),(⟨3,true⟩:Rtr),(⟨4,true⟩:Rtr)],[(⟨1,2,1,1,0⟩:Lnk),(⟨1,3,1,1,0⟩:Lnk),(⟨1,4,1,1,0⟩:Lnk),(⟨2,3,1,1,0⟩:Lnk)]⟩:Tpl) (⟨1,2,0,0⟩:Chg)).length:Int)))
(∀x2,(fi (⟨[(⟨1,true⟩:Rtr),(⟨2,true⟩:Rtr),(⟨3,true⟩:Rtr),(⟨4,true⟩:Rtr)],[(⟨1,2,1,1,0⟩:Lnk),(⟨1,3,1,1,0⟩:Lnk),(⟨1,4,1,1,0⟩:Lnk),(⟨2,3,1,1,0⟩:Lnk)]⟩:Tpl) (⟨1,2,0,0⟩:Chg))[3]?=some x2 →
(R x2)))) λx2 =>
(.br 960 ((x2.r==4) && ((x2.n==0) && true)) (.req 992 ((fi (⟨[(⟨1,true⟩:Rtr),(⟨2,true⟩:Rtr),(⟨3,true⟩:Rtr),(⟨4,true⟩:Rtr)],[(⟨1,2,1,1,0⟩:Lnk),(⟨1,3,1,1,0⟩:Lnk),(⟨1,4,1,1,0⟩:Lnk),(⟨2,3,1,1,0⟩:Lnk)]⟩:Tpl) (⟨1,2,0,0⟩:Chg)).length≤1000000) λh3 =>
(.callP (Hh (fi (⟨[(⟨1,true⟩:Rtr),(⟨2,true⟩:Rtr),(⟨3,true⟩:Rtr),(⟨4,true⟩:Rtr)],[(⟨1,2,1,1,0⟩:Lnk),(⟨1,3,1,1,0⟩:Lnk),(⟨1,4,1,1,0⟩:Lnk),(⟨2,3,1,1,0⟩:Lnk)]⟩:Tpl) (⟨1,2,0,0⟩:Chg)) [4] h3)
(.br 1040 (CM (fi (⟨[(⟨1,true⟩:Rtr),(⟨2,true⟩:Rtr),(⟨3,true⟩:Rtr),(⟨4,true⟩:Rtr)],[(⟨1,2,1,1,0⟩:Lnk),(⟨1,3,1,1,0⟩:Lnk),(⟨1,4,1,1,0⟩:Lnk),(⟨2,3,1,1,0⟩:Lnk)]⟩:Tpl) (⟨1,2,0,0⟩:Chg)) [4]) (.req 1072 ((fi (⟨[(⟨1,true⟩:Rtr),(⟨2,true⟩:Rtr),(⟨3,true⟩:Rtr),(⟨4,true⟩:Rtr)],[(⟨1,2,1,1,0⟩:Lnk),(⟨1,3,1,1,0⟩:Lnk),(⟨1,4,1,1,0⟩:Lnk),(⟨2,3,1,1,0⟩:Lnk)]⟩:Tpl) (⟨1,2,0,0⟩:Chg)).length≤1000000) λh4 =>
(.callP (Hh (fi (⟨[(⟨1,true⟩:Rtr),(⟨2,true⟩:Rtr),(⟨3,true⟩:Rtr),(⟨4,true⟩:Rtr)],[(⟨1,2,1,1,0⟩:Lnk),(⟨1,3,1,1,0⟩:Lnk),(⟨1,4,1,1,0⟩:Lnk),(⟨2,3,1,1,0⟩:Lnk)]⟩:Tpl) (⟨1,2,0,0⟩:Chg)) [1] h4)
(.ret (!(CM (fi (⟨[(⟨1,true⟩:Rtr),(⟨2,true⟩:Rtr),(⟨3,true⟩:Rtr),(⟨4,true⟩:Rtr)],[(⟨1,2,1,1,0⟩:Lnk),(⟨1,3,1,1,0⟩:Lnk),(⟨1,4,1,1,0⟩:Lnk),(⟨2,3,1,1,0⟩:Lnk)]⟩:Tpl) (⟨1,2,0,0⟩:Chg)) [1])))))
(.ret (false)))))
(.ret (false))))
(.ret (false))))
(.ret (false)))
(.ret (false)))
(.ret (false)))
(.ret (false)))))
def uu(r0:Bool):=(rv).vp rz r0
theorem Ly(ok:L0):uu true:=by
  dsimp only[uu,rv,noS,Ax.vp,Ax.vc];simp only[vcU,rfU,List.length_map]
  rw[show({ rs:=[{ id:=1,cap:=true },{ id:=2,cap:=true },{ id:=3,cap:=true },{ id:=4,cap:=true }],ls:=[{ a:=1,b:=2,ca:=1,cb:=1,w:=0 },{ a:=1,b:=3,ca:=1,cb:=1,w:=0 },{ a:=1,b:=4,ca:=1,cb:=1,w:=0 },{ a:=2,b:=3,ca:=1,cb:=1,w:=0 }] }:Tpl)=T18 from rfl,LQ,BK.1,BK.2]
  simp[CM,ux]
def Lz:PC Tryz.prog:=⟨16,[],[],rz true,aw.of_ok λok=>av (sh:=.k) (enc:=rz) (a:=(rv).an) (Ly ok) (by kernel_rfl) (AV.pureB_ok rfl),ap (by kernel_rfl)⟩
theorem uT{L:List Int}{p:Nat}{m n:Int}(h1:1≤m)(h2:m≤20):(ba L p m n).1.rs.length≤50:=by
 have hk:=D6 (L:=L) (p:=p) (m:=m) (by omega)
 have hb:(rW L p m).rs.length≤20:=by unfold rW;simp only[jG];omega
 unfold ba
 split
 ·generalize rW L p m=g at hb
  unfold Ik
  split
  ·simp;omega
  ·(repeat' split)<;>simp[qo]<;>omega
 ·exact Nat.le_trans hb (by omega)
theorem tk{t:Tpl}:∀{n:List Int} {s:List Int×List Int},(n.foldl (fZ t) s).2.length≤s.2.length+n.length
 | [],s=>by simp
 | q::n,s=>by
  have h1:=tk (t:=t) (n:=n) (s:=fZ t s q)
  have h2:(fZ t s q).2.length≤s.2.length+1:=by
   unfold fZ
   split
   ·exact sX _ _
   ·split<;>simp
  rw[List.foldl_cons,List.length_cons];omega
theorem ti{t:Tpl}{d:List Int}:∀{f i:Nat} {seen out:List Int},(tj t d f i seen out).length≤out.length+f * t.rs.length
 | 0,i,seen,out=>by simp[tj]
 | f+1,i,seen,out=>by
  rw[tj]
  split
  ·rename_i x _
   have h1:=ti (t:=t) (d:=d) (f:=f) (i:=i+1) (seen:=((cN t d x).foldl (fZ t) (seen,out)).1) (out:=((cN t d x).foldl (fZ t) (seen,out)).2)
   have h2:=tk (t:=t) (n:=cN t d x) (s:=(seen,out))
   have h3:=rX t d x
   simp only at h2
   rw[Nat.succ_mul];omega
  ·exact Nat.le_add_right _ _
theorem Fj{t:Tpl}{f g:Int}:(iz t f g).length≤25 * t.rs.length:=by
 unfold iz
 split
 ·simp
 ·have:=ti (t:=t) (d:=to6 t g) (f:=25) (i:=0) (seen:=[f]) (out:=[])
  simpa using this
theorem LF{t:Tpl}{p:Pln}:(rA t p).1.length≤24∧∀b∈(rA t p).1,okT b:=by
 unfold rA
 split
 ·simp
 ·rename_i h
  have hc:aJ t=0:=Classical.byContradiction λq=>h (.inl q)
  have hp:dH p=true:=by
   cases q:dH p
   ·exact absurd (.inr q) h
   ·rfl
  have hn:=(aC hc).nr
  have hpl:p.es.length≤24:=by
   unfold dH at hp
   rw[Bool.and_eq_true,decide_eq_true_iff]at hp
   exact hp.1.2.2
  constructor
  ·have:∀l:List Rtr,(l.flatMap λx=>if x.cap=true then [n7 t p x.id]else []).length≤l.length:=λl=>by
    induction l with
    | nil=>simp
    | cons y l ih =>
     rw[List.flatMap_cons,List.length_append,List.length_cons]
     have:(if y.cap=true then [n7 t p y.id]else []).length≤1:=by split<;>simp
     omega
   exact Nat.le_trans (this t.rs) hn
  ·intro b hb
   obtain⟨x,hx,hb⟩:=List.mem_flatMap.mp hb
   split at hb
   ·rw[List.mem_singleton.mp hb]
    refine⟨by unfold n7;simp;omega,λr hr=>?_⟩
    unfold n7 at hr
    obtain⟨e,he,rfl⟩:=List.mem_map.mp hr
    unfold um
    simp only
    split
    ·simp
    ·split
     ·have:=Fj (t:=t) (f:=x.id) (g:=e.router)
      have:25 * t.rs.length≤25 * 24:=Nat.mul_le_mul_left _ hn
      omega
     ·simp
   ·cases hb
theorem jI{L:List Int}{c:Int}{rs:List Rtr}:∀{l:List Int} {id:Int} {es:List Edg} {p:Nat},(nH L c rs l id es p).1.2.length≤es.length+l.length
 | [],id,es,p=>by simp[nH]
 | o::l,id,es,p=>by
  rw[nH,List.length_cons]
  split
  ·exact Nat.le_trans jI (by omega)
  ·split
   ·split
    ·refine Nat.le_trans jI ?_
     rw[List.length_append,List.length_singleton];omega
    ·simp only;omega
   ·exact Nat.le_trans jI (by omega)
theorem El{L:List Int}{p:Nat}{g:Tpl}:(f8 L p g 0).1.es.length≤g.rs.length:=by
 unfold f8
 rw[if_neg (λq=>by have:=q.1;omega)]
 show(nG L p g).1.2.length≤_
 unfold nG
 refine Nat.le_trans jI ?_
 have f3:(fU L g.rs.length (ae L (ae L p))).1.length=g.rs.length:=by unfold fU;rw[mi];simp
 simp only[List.length_nil];omega
theorem M0{l:List Tbl}{id pl:Int}(hp:0≤pl){k:Nat}{x:Int}(hx:(fk l id pl)[k]?=some x):∃b,gc l x=(b,true)∧(cP b id).2=true∧¬(cP b id).1.nx.length=0 ∧
  (∀y,(cP b id).1.nx[(pl.tmod (cP b id).1.nx.length).toNat]?=some y→(fk l id pl)[(k+1) % (fk l id pl).length]?=some y)∧∀z,(fk l id pl)[0]?=some z→z≤x:=by
 have hne:fk l id pl≠[]:=λe=>by rw[e]at hx;simp at hx
 have hc:fJ l=0∧0≤pl∧pl<8:=Classical.byContradiction λq=>by unfold fk at hne;rw[if_neg q]at hne;exact hne rfl
 have e:fk l id pl=ji l id pl:=by unfold fk;rw[if_pos hc]
 rw[e]at hx hne ⊢
 obtain⟨b,m,hb,hB,hw,hle⟩:=sO (nw hc.1) rfl hne
 rw[hw]at hx hle ⊢
 have hk:k<m:=by have:=aq hx;rwa [ib]at this
 rw[fO hk]at hx
 cases hx
 have hxm:itN (nxT l id pl) b k∈fG (nxT l id pl) b m:=List.mem_of_getElem? (fO hk)
 have hn0:=gn.ne hb hB hxm
 obtain⟨tb,htm,htr,hf,hh,_⟩:=iQ hn0
 have hn:¬(cP tb id).1.nx.length=0:=λq=>by
  unfold cY qh at hh;rw[if_pos q]at hh;exact hn0 hh.symm
 refine⟨tb,by unfold gc;rw[hf],?_,hn,λy hy=>?_,λz hz=>?_⟩
 ·cases q:(cP tb id).2 with
  | true=>rfl
  | false=>rw[zu q]at hn;exact absurd rfl hn
 ·have hy2:=mO hn hy
  have hy3:y=itN (nxT l id pl) b (k+1):=by rw[←hy2];exact hh
  rw[ib,hy3]
  by_cases q:k+1<m
  ·rw[Nat.mod_eq_of_lt q,fO q]
  ·have q:k+1=m:=by omega
   rw[q,Nat.mod_self,fO hB.1,hB.2.1];rfl
 ·rw[fO hB.1]at hz
  cases hz
  exact hle _ hxm
theorem HD{l:List Tbl}{id pl:Int}:(fk l id pl).length≤24:=by
 unfold fk
 split
 ·rename_i hc
  by_cases hne:ji l id pl=[]
  ·rw[hne];simp
  ·obtain⟨b,m,hb,hB,hw,hle⟩:=sO (nw hc.1) rfl hne
   rw[hw,ib]
   have:=gn.le hb hB (l:=l.map (·.router)) λx hx=>by
    obtain⟨tb,h1,h2,_⟩:=iQ hx
    exact List.mem_map.mpr ⟨tb,h1,h2⟩
   rw[List.length_map]at this
   have:=(gj hc.1).1;omega
 ·simp
theorem Dc{l:List Tbl}{f id pl:Int}(h:(vA l f id pl).2=10):¬(fk l id pl).length=0:=λe=>by
 have e:=List.length_eq_zero_iff.mp e
 unfold vA at h
 split at h
 ·cases h
 ·rename_i hc
  have hc:=Classical.not_not.mp hc
  split at h
  ·cases h
  ·rename_i hp
   have ha:=nw hc
   obtain⟨b,m,hb,hB⟩:=lY ha (iJ.one f) rfl h
   unfold fk at e
   rw[if_pos ⟨hc,by omega,by omega⟩]at e
   exact wo ha e hb hB
set_option pp.deepTerms true
set_option pp.maxSteps 100000
def Dg(t:List Int):=okL [.sl 1 (t.map AV.int) false]
def HN(t0:Tap):NF:=⟨[(3,.k,.ref 0 0)],[.box (.agg [.sl 1 (t0.L.map AV.int) false,.int t0.p])]⟩
def HM(t0:Tap)(t1:List Tbl×Tpl×Pln):NF:=⟨[(3,.k,.ref 0 0),(4,.k,.ref 1 0),(5,.k,.ref 2 0),(6,(.s 4),.sl 4 (t1.1.map Tbl.v) false)],[.box (.agg [.sl 1 (t0.L.map AV.int) false,.int ((((gZ t0.L t0.p 6).2):Nat):Int)]),.box (.agg [.sl 2 (t1.2.1.rs.map Rtr.v) false,.sl 5 (t1.2.1.ls.map Lnk.v) false]),.box (.agg [.int t1.2.2.sub,.int t1.2.2.len,.sl 2 (t1.2.2.es.map Edg.v) false])]⟩
def HL(t0:Tap)(t1:List Tbl×Tpl×Pln)(t2:List Tbl):NF:=⟨[(3,.k,.ref 0 0),(4,.k,.ref 1 0),(5,.k,.ref 2 0),(6,(.s 4),.sl 4 (t2.map Tbl.v) false)],[.box (.agg [.sl 1 (t0.L.map AV.int) false,.int ((((ia t0.L ((t1.2.1.rs.map Rtr.v).length:Int) t1.1 ((gZ t0.L t0.p 6).2)).2):Nat):Int)]),.box (.agg [.sl 2 (t1.2.1.rs.map Rtr.v) false,.sl 5 (t1.2.1.ls.map Lnk.v) false]),.box (.agg [.int t1.2.2.sub,.int t1.2.2.len,.sl 2 (t1.2.2.es.map Edg.v) false])]⟩
def HK(t0:Tap)(t1:List Tbl×Tpl×Pln)(t2:List Tbl)(t3:Int×Nat):NF:=⟨[(3,.k,.ref 0 0),(4,.k,.ref 1 0),(5,.k,.ref 2 0),(6,.k,.sl 4 (t2.map Tbl.v) false),(7,.k,.int t3.1)],[.box (.agg [.sl 1 (t0.L.map AV.int) false,.int t3.2]),.box (.agg [.sl 2 (t1.2.1.rs.map Rtr.v) false,.sl 5 (t1.2.1.ls.map Lnk.v) false]),.box (.agg [.int t1.2.2.sub,.int t1.2.2.len,.sl 2 (t1.2.2.es.map Edg.v) false])]⟩
def HJ(t0:Tap)(t1:List Tbl×Tpl×Pln)(t2:List Tbl)(t3:Int×Nat)(t4:Int):NF:=⟨[(3,.k,.ref 0 0),(4,.k,.ref 1 0),(5,.k,.ref 2 0),(6,.k,.sl 4 (t2.map Tbl.v) false),(7,.k,.int t3.1),(8,.k,.int t4)],[.box (.agg [.sl 1 (t0.L.map AV.int) false,.int (ae t0.L t3.2)]),.box (.agg [.sl 2 (t1.2.1.rs.map Rtr.v) false,.sl 5 (t1.2.1.ls.map Lnk.v) false]),.box (.agg [.int t1.2.2.sub,.int t1.2.2.len,.sl 2 (t1.2.2.es.map Edg.v) false])]⟩
def HI(t0:Tap)(t1:List Tbl×Tpl×Pln)(t2:List Tbl)(t3:Int×Nat)(t4:Int)(t5:List Int):NF:=⟨[(3,.k,.ref 0 0),(4,.k,.ref 1 0),(5,.k,.ref 2 0),(6,.k,.sl 4 (t2.map Tbl.v) false),(7,.k,.int t3.1),(8,.k,.int t4),(9,(.s 1),.sl 1 (t5.map AV.int) false)],[.box (.agg [.sl 1 (t0.L.map AV.int) false,.int (ae t0.L t3.2)]),.box (.agg [.sl 2 (t1.2.1.rs.map Rtr.v) false,.sl 5 (t1.2.1.ls.map Lnk.v) false]),.box (.agg [.int t1.2.2.sub,.int t1.2.2.len,.sl 2 (t1.2.2.es.map Edg.v) false])]⟩
def HH(t0:Tap)(t1:List Tbl×Tpl×Pln)(t2:List Tbl)(t3:Int×Nat)(t4:Int)(t5:List Int)(t6:Int):NF:=⟨[(3,.k,.ref 0 0),(4,.k,.ref 1 0),(5,.k,.ref 2 0),(6,.k,.sl 4 (t2.map Tbl.v) false),(7,.k,.int t3.1),(8,.k,.int t4),(9,.k,.sl 1 (t5.map AV.int) false),(10,.k,.int t6)],[.box (.agg [.sl 1 (t0.L.map AV.int) false,.int (ae t0.L t3.2)]),.box (.agg [.sl 2 (t1.2.1.rs.map Rtr.v) false,.sl 5 (t1.2.1.ls.map Lnk.v) false]),.box (.agg [.int t1.2.2.sub,.int t1.2.2.len,.sl 2 (t1.2.2.es.map Edg.v) false])]⟩
def HG(t0:Tap)(t1:List Tbl×Tpl×Pln)(t2:List Tbl)(t3:Int×Nat)(t4:Int)(t5:List Int)(t6:Int)(t7:Bool×Tbl):NF:=⟨[(3,.k,.ref 0 0),(4,.k,.ref 1 0),(5,.k,.ref 2 0),(6,.k,.sl 4 (t2.map Tbl.v) false),(7,.k,.int t3.1),(8,.k,.int t4),(9,.k,.sl 1 (t5.map AV.int) false),(10,.k,.int t6),(11,.k,.ref 3 0),(12,.k,.bool t7.1)],[.box (.agg [.sl 1 (t0.L.map AV.int) false,.int (ae t0.L t3.2)]),.box (.agg [.sl 2 (t1.2.1.rs.map Rtr.v) false,.sl 5 (t1.2.1.ls.map Lnk.v) false]),.box (.agg [.int t1.2.2.sub,.int t1.2.2.len,.sl 2 (t1.2.2.es.map Edg.v) false]),.box (.agg [.int t7.2.router,.int t7.2.sub,.int t7.2.len,.sl 2 (t7.2.rows.map Rw.v) false])]⟩
def HF(t0:Tap)(t1:List Tbl×Tpl×Pln)(t2:List Tbl)(t3:Int×Nat)(t4:Int)(t5:List Int)(t6:Int)(t7:Bool×Tbl)(t8:Bool×Rw):NF:=⟨[(3,.k,.ref 0 0),(4,.k,.ref 1 0),(5,.k,.ref 2 0),(6,.k,.sl 4 (t2.map Tbl.v) false),(7,.k,.int t3.1),(8,.k,.int t4),(9,.k,.sl 1 (t5.map AV.int) false),(10,.k,.int t6),(12,.k,.bool t7.1),(13,.k,.ref 3 0),(14,.k,.bool t8.1)],[.box (.agg [.sl 1 (t0.L.map AV.int) false,.int (ae t0.L t3.2)]),.box (.agg [.sl 2 (t1.2.1.rs.map Rtr.v) false,.sl 5 (t1.2.1.ls.map Lnk.v) false]),.box (.agg [.int t1.2.2.sub,.int t1.2.2.len,.sl 2 (t1.2.2.es.map Edg.v) false]),.box (.agg [.int t8.2.id,.sl 1 (t8.2.nx.map AV.int) false])]⟩
def HE(t0:Tap)(t1:List Tbl×Tpl×Pln)(t2:List Tbl)(t3:Int×Nat)(t4:Int)(t5:List Int)(t6:Int)(t9:Bool):NF:=⟨[(3,.k,.ref 0 0),(4,.k,.ref 1 0),(5,.k,.ref 2 0),(6,.k,.sl 4 (t2.map Tbl.v) false),(7,.k,.int t3.1),(8,.k,.int t4),(9,.k,.sl 1 (t5.map AV.int) false),(10,.k,.int t6),(116,.k,.bool t9)],[.box (.agg [.sl 1 (t0.L.map AV.int) false,.int (ae t0.L t3.2)]),.box (.agg [.sl 2 (t1.2.1.rs.map Rtr.v) false,.sl 5 (t1.2.1.ls.map Lnk.v) false]),.box (.agg [.int t1.2.2.sub,.int t1.2.2.len,.sl 2 (t1.2.2.es.map Edg.v) false])]⟩
def Df(t0:Tap)(t1:List Tbl×Tpl×Pln)(t2:List Tbl)(t3:Int×Nat)(t5:List Int)(t10:Int):NF:=⟨[(3,.k,.ref 0 0),(4,.k,.ref 1 0),(5,.k,.ref 2 0),(6,.k,.sl 4 (t2.map Tbl.v) false),(7,.k,.int t3.1),(9,.k,.sl 1 (t5.map AV.int) false),(16,.k,.int t10)],[.box (.agg [.sl 1 (t0.L.map AV.int) false,.int ((((kx t0.L (ae t0.L t3.2) t1.2.1 0).2):Nat):Int)]),.box (.agg [.sl 2 (t1.2.1.rs.map Rtr.v) false,.sl 5 (t1.2.1.ls.map Lnk.v) false]),.box (.agg [.int t1.2.2.sub,.int t1.2.2.len,.sl 2 (t1.2.2.es.map Edg.v) false])]⟩
def De(t0:Tap)(t1:List Tbl×Tpl×Pln)(t2:List Tbl)(t3:Int×Nat)(t11:Bool):NF:=⟨[(3,.k,.ref 0 0),(4,.k,.ref 1 0),(5,.k,.ref 2 0),(6,.k,.sl 4 (t2.map Tbl.v) false),(7,.k,.int t3.1),(138,.k,.bool t11)],[.box (.agg [.sl 1 (t0.L.map AV.int) false,.int ((((kx t0.L (ae t0.L t3.2) t1.2.1 0).2):Nat):Int)]),.box (.agg [.sl 2 (t1.2.1.rs.map Rtr.v) false,.sl 5 (t1.2.1.ls.map Lnk.v) false]),.box (.agg [.int t1.2.2.sub,.int t1.2.2.len,.sl 2 (t1.2.2.es.map Edg.v) false])]⟩
@[reducible] def Dd:Nat→Type
 | 0=>Tap
 | 1=>(List Tbl)×Tpl×Pln
 | 2=>(List Tbl)
 | 3=>Int×Nat
 | 4=>Int
 | 5=>(List Int)
 | 6=>Int
 | 7=>Bool×Tbl
 | 8=>Bool×Rw
 | 9=>Bool
 | 10=>Int
 | 11=>Bool
 | _=>Unit
def uR(r:Bool):AV:=.bool r
def uQ(t:List Int)(I3:Tap→(List Tbl)×Tpl×Pln→(List Tbl)→(Int×Nat)→Prop)(m3:Tap→(List Tbl)×Tpl×Pln→(List Tbl)→(Int×Nat)→Nat)(I6:Tap→(List Tbl)×Tpl×Pln→(List Tbl)→Int×Nat→Int→(List Int)→Int→Prop)(m6:Tap→(List Tbl)×Tpl×Pln→(List Tbl)→Int×Nat→Int→(List Int)→Int→Nat)(I9:Tap→(List Tbl)×Tpl×Pln→(List Tbl)→Int×Nat→Int→(List Int)→Int→Bool×Tbl→Bool×Rw→Bool→Prop)(I11:Tap→(List Tbl)×Tpl×Pln→(List Tbl)→Int×Nat→Int→(List Int)→Int→Int→Bool→Prop):Ax Tryz.prog Dd (Bool):=
 (.pass (.join 0 (HN) (λ(t0:Tap)=>t0=(((⟨t.take 600,0⟩:Tap)):Tap)) (λb0=>(.callH [] (N9 t) 32
(.bk 0 b0 (((⟨t.take 600,0⟩:Tap)):Tap) [32]))) λ(t0:Tap) =>
(.join 1 (HM t0) (λ(t1:List Tbl×Tpl×Pln)=>t1=(((gZ t0.L t0.p 6).1.2.2,(gZ t0.L t0.p 6).1.1,(gZ t0.L t0.p 6).1.2.1):List Tbl×Tpl×Pln)) (λb1=>(.req 17 (1≤6∧6≤20) λh1 =>
(.callH [0] (OQ t0.L t0.p 6 h1) 17
(.bk 1 b1 ((gZ t0.L t0.p 6).1.2.2,(gZ t0.L t0.p 6).1.1,(gZ t0.L t0.p 6).1.2.1) [0,97,113])))) λ(t1:List Tbl×Tpl×Pln) =>
(.join 2 (HL t0 t1) (λ(t2:List Tbl)=>t2=(((ia t0.L ((t1.2.1.rs.map Rtr.v).length:Int) t1.1 ((gZ t0.L t0.p 6).2)).1):(List Tbl))) (λb2=>(.req 83 (Jq t1.1) λh2 =>
(.callH [0] (Mo t0.L ((gZ t0.L t0.p 6).2) t1.1 ((t1.2.1.rs.map Rtr.v).length:Int) h2) 83
(.bk 2 b2 (((ia t0.L ((t1.2.1.rs.map Rtr.v).length:Int) t1.1 ((gZ t0.L t0.p 6).2)).1):(List Tbl)) [0,1,2])))) λ(t2:List Tbl) =>
(.loop 3 (HK t0 t1 t2) (I3 t0 t1 t2) (m3 t0 t1 t2) (0,(ia t0.L ((t1.2.1.rs.map Rtr.v).length:Int) t1.1 ((gZ t0.L t0.p 6).2)).2) [0,1,2] λ(t3:Int×Nat) b3 =>
(.br 83 (decide (t3.1<((t1.2.2.es.map Edg.v).length:Int))) (.pass (.join 4 (HJ t0 t1 t2 t3) (λ(t4:Int)=>t4=((Mod (ao t0.L t3.2) 8):Int)) (λb4=>(.callH [0] (c7 t0.L t3.2 8) 99
(.bk 4 b4 ((Mod (ao t0.L t3.2) 8):Int) [0,1,2]))) λ(t4:Int) =>
(.join 5 (HI t0 t1 t2 t3 t4) (λ(t5:List Int)=>(∃x3':Edg,t1.2.2.es[t3.1.toNat]?=some x3'∧t5=((fk t2 x3'.id t4):(List Int)))) (λb5=>(.el 67 Edg.v t1.2.2.es (λR=>Rf (t1.2.2.es.map Edg.v) (ck (decide (0≤t3.1)) (ck (decide (t3.1<(t1.2.2.es.length:Int)))
(∀x3,t1.2.2.es[t3.1.toNat]?=some x3 →
(R x3))))) λx3 =>
(.callP (NM t2 x3.id t4)
(.bk 5 b5 ((fk t2 x3.id t4):(List Int)) [0,1,2])))) λ(t5:List Int) =>
(.loop 6 (HH t0 t1 t2 t3 t4 t5) (I6 t0 t1 t2 t3 t4 t5) (m6 t0 t1 t2 t3 t4 t5) ((0):Int) [0,1,2] λ(t6:Int) b6 =>
(.br 67 (decide (t6<((t5.map AV.int).length:Int))) (.pass (.join 7 (HG t0 t1 t2 t3 t4 t5 t6) (λ(t7:Bool×Tbl)=>(∃x4':Int,t5[t6.toNat]?=some x4'∧t7=(((gc t2 x4').2,(gc t2 x4').1):Bool×Tbl))) (λb7=>(.el 115 AV.int t5 (λR=>Rf (t5.map AV.int) (ck (decide (0≤t6)) (ck (decide (t6<(t5.length:Int)))
(∀x4,t5[t6.toNat]?=some x4 →
(R x4))))) λx4 =>
(.callP (Fx t2 x4)
(.bk 7 b7 ((gc t2 x4).2,(gc t2 x4).1) [0,1,2,211])))) λ(t7:Bool×Tbl) =>
(.join 8 (HF t0 t1 t2 t3 t4 t5 t6 t7) (λ(t8:Bool×Rw)=>(∃x5':Edg,t1.2.2.es[t3.1.toNat]?=some x5'∧t8=(((cP t7.2 x5'.id).2,(cP t7.2 x5'.id).1):Bool×Rw))) (λb8=>(.el 68 Edg.v t1.2.2.es (λR=>Rf (t1.2.2.es.map Edg.v) (ck (decide (0≤t3.1)) (ck (decide (t3.1<(t1.2.2.es.length:Int)))
(∀x5,t1.2.2.es[t3.1.toNat]?=some x5 →
(R x5))))) λx5 =>
(.callP (D2 t7.2 x5.id)
(.bk 8 b8 ((cP t7.2 x5.id).2,(cP t7.2 x5.id).1) [0,1,2,180])))) λ(t8:Bool×Rw) =>
(.join 9 (HE t0 t1 t2 t3 t4 t5 t6) (λ(t9:Bool)=>I9 t0 t1 t2 t3 t4 t5 t6 t7 t8 t9) (λb9=>(.br 52 (!t7.1) (.bk 9 b9 ((true):Bool) [0,1,2])
(.br 116 (!t8.1) (.bk 9 b9 ((true):Bool) [0,1,2])
(.br 212 (((t8.2.nx.map AV.int).length:Int)==0) (.bk 9 b9 ((true):Bool) [0,1,2])
(.say (ck (!(((t8.2.nx.map AV.int).length:Int)==0))) (.el 324 AV.int t8.2.nx (λR=>Rf (t8.2.nx.map AV.int) (ck (decide (0≤(t4.tmod ((t8.2.nx.map AV.int).length:Int)))) (ck (decide ((t4.tmod ((t8.2.nx.map AV.int).length:Int))<(t8.2.nx.length:Int)))
(∀x6,t8.2.nx[(t4.tmod ((t8.2.nx.map AV.int).length:Int)).toNat]?=some x6 →
(R x6))))) λx6 =>
(.say (ck (!(((t5.map AV.int).length:Int)==0))) (.el 452 AV.int t5 (λR=>Rf (t5.map AV.int) (ck (decide (0≤((W (t6+1)).tmod ((t5.map AV.int).length:Int)))) (ck (decide (((W (t6+1)).tmod ((t5.map AV.int).length:Int))<(t5.length:Int)))
(∀x7,t5[((W (t6+1)).tmod ((t5.map AV.int).length:Int)).toNat]?=some x7 →
(R x7))))) λx7 =>
(.br 532 (x6 != x7) (.bk 9 b9 ((true):Bool) [0,1,2])
(.el 564 AV.int t5 (λR=>Rf (t5.map AV.int) (ck (decide (0≤t6)) (ck (decide (t6<(t5.length:Int)))
(∀x8,t5[t6.toNat]?=some x8 →
(R x8))))) λx8 =>
(.el 612 AV.int t5 (λR=>Rf (t5.map AV.int) (ck (decide (0<(t5.length:Int)))
(∀x9,t5[0]?=some x9 →
(R x9)))) λx9 =>
(.bk 9 b9 ((decide (x8<x9)):Bool) [0,1,2])))))))))))) λ(t9:Bool) =>
(.br 3 t9 (.ret (false))
(.bk 6 b6 ((W (t6+1)):Int) [0,1,2]))))))
(.join 10 (Df t0 t1 t2 t3 t5) (λ(t10:Int)=>(∃x10':Edg,t1.2.2.es[t3.1.toNat]?=some x10'∧t10=(((vA t2 ((kx t0.L (ae t0.L t3.2) t1.2.1 0).1) x10'.id t4).2):Int))) (λb10=>(.callH [0] (MR t0.L (ae t0.L t3.2) t1.2.1 0) 115
(.el 179 Edg.v t1.2.2.es (λR=>Rf (t1.2.2.es.map Edg.v) (ck (decide (0≤t3.1)) (ck (decide (t3.1<(t1.2.2.es.length:Int)))
(∀x10,t1.2.2.es[t3.1.toNat]?=some x10 →
(R x10))))) λx10 =>
(.callP (Nh t2 ((kx t0.L (ae t0.L t3.2) t1.2.1 0).1) x10.id t4)
(.bk 10 b10 (((vA t2 ((kx t0.L (ae t0.L t3.2) t1.2.1 0).1) x10.id t4).2):Int) [0,1,2]))))) λ(t10:Int) =>
(.join 11 (De t0 t1 t2 t3) (λ(t11:Bool)=>I11 t0 t1 t2 t3 t4 t5 t6 t10 t11) (λb11=>(.br 51 (t10==10) (.bk 11 b11 ((((t5.map AV.int).length:Int)==0):Bool) [0,1,2])
(.bk 11 b11 ((false):Bool) [0,1,2]))) λ(t11:Bool) =>
(.br 3 t11 (.ret (false))
(.bk 3 b3 (W (t3.1+1),(kx t0.L (ae t0.L t3.2) t1.2.1 0).2) [0,1,2])))))))))
(.callP (Lz )
(.ret (true)))))))))
def zb(t:List Int)(I3:Tap→(List Tbl)×Tpl×Pln→(List Tbl)→(Int×Nat)→Prop)(m3:Tap→(List Tbl)×Tpl×Pln→(List Tbl)→(Int×Nat)→Nat)(I6:Tap→(List Tbl)×Tpl×Pln→(List Tbl)→Int×Nat→Int→(List Int)→Int→Prop)(m6:Tap→(List Tbl)×Tpl×Pln→(List Tbl)→Int×Nat→Int→(List Int)→Int→Nat)(I9:Tap→(List Tbl)×Tpl×Pln→(List Tbl)→Int×Nat→Int→(List Int)→Int→Bool×Tbl→Bool×Rw→Bool→Prop)(I11:Tap→(List Tbl)×Tpl×Pln→(List Tbl)→Int×Nat→Int→(List Int)→Int→Int→Bool→Prop)(r0:Bool):=(uQ t I3 m3 I6 m6 I9 I11).vp uR r0
theorem M1(L:List Int)(ok:Dg L):∃I0 m0 I1 m1 I2 I3,zb L I0 m0 I1 m1 I2 I3 true:=by
 refine⟨λ_ T _ s=>aL T.2.2.es (λ_=>True) s.1,λ_ T _ s=>T.2.2.es.length-s.1.toNat,λ_ _ _ _ _ c i=>aL c (λ_=>True) i,λ_ _ _ _ _ c i=>c.length-i.toNat,λ_ _ _ _ _ _ _ _ _ b=>b=false,λ_ _ _ _ _ _ _ _ b=>b=false,?_⟩
 simp only[Dg,okU,Blk.ok,aK,List.length_map]at ok
 dsimp only[zb,uQ,Dd,Ax.vp,Ax.vc];simp only[vcU,rfU,List.length_map]
 refine⟨trivial,?_⟩
 rintro _ rfl
 refine⟨by simp,?_⟩
 intro (T:List Tbl×Tpl×Pln) hT
 have hes:T.2.2.es.length≤50:=by
  rw[hT]
  refine Nat.le_trans El ?_
  exact uT (by omega) (by omega)
 have hok:Jq T.1:=by
  rw[hT]
  have:=LF (t:=(ba (L.take 600) 0 6 0).1) (p:=(f8 (L.take 600) (ba (L.take 600) 0 6 0).2 (ba (L.take 600) 0 6 0).1 0).1)
  exact⟨Nat.le_trans this.1 (by omega),this.2⟩
 refine⟨⟨hok,trivial⟩,?_⟩
 intro (l:List Tbl) hl
 refine⟨aL.zero,λs hs=>⟨λc=>⟨trivial,λpl hpl=>?_⟩,λ_=>trivial⟩⟩
 have hpm:=eo (x:=ao (L.take 600) s.2) (show(1:Int)≤8 by omega)
 rw[←hpl]at hpm
 refine⟨⟨hs.idx,c,λx hx=>⟨x,hx,rfl⟩⟩,?_⟩
 rintro _ ⟨e,he,rfl⟩
 refine⟨aL.zero,?_⟩
 intro (k:Int) hk
 have hcl:=HD (l:=l) (id:=e.id) (pl:=pl)
 refine⟨λd=>⟨⟨hk.idx,d,λx hx=>⟨x,hx,rfl⟩⟩,?_⟩,λd=>⟨⟨hs.idx,c,λx hx=>⟨x,hx,rfl⟩⟩,?_⟩⟩
 ·rintro _ ⟨x,hx,rfl⟩
  obtain⟨b,hf,hr,hn,hnx,hle⟩:=M0 hpm.1 hx
  refine⟨⟨hs.idx,c,λx hx=>⟨x,hx,rfl⟩⟩,?_⟩
  rintro _ ⟨e',he',rfl⟩
  have:e'=e:=Option.some.inj (he'.symm.trans he)
  subst this
  simp only[hf]
  have hk0:0≤k:=hk.idx
  obtain⟨j,rfl⟩:∃j:Nat,k=j:=⟨k.toNat,by omega⟩
  rw[Int.toNat_natCast]at hx
  have w:W ((j:Int)+1)=((j+1:Nat):Int):=bx (n:=(fk l e'.id pl).length) (by omega) (by omega)
  have hcn:(fk l e'.id pl).length≠0:=by omega
  have hm:((j+1:Nat):Int).tmod (fk l e'.id pl).length=(((j+1) % (fk l e'.id pl).length:Nat):Int):=by rw[Int.tmod_eq_emod_of_nonneg (by omega)];rfl
  have hml:(j+1) % (fk l e'.id pl).length<(fk l e'.id pl).length:=Nat.mod_lt _ (by omega)
  obtain⟨t1,t2⟩:=lN (n:=(cP b e'.id).1.nx.length) hpm.1 hn
  rw[w,hm,Int.toNat_natCast]
  rw[Int.toNat_natCast]at hnx
  simp only[hr,Int.toNat_natCast]
  refine⟨?_,?_⟩
  ·refine⟨λq=>(by cases q),λ_=>⟨λq=>(by cases q),λ_=>⟨λq=>absurd (by simpa using q) hn,λ_=>⟨by simpa using hn,t1,t2,λy hy=>⟨by simpa using hcn,by omega,by omega,λz hz=>⟨λq=>?_,λ_=>⟨hk.idx,d,λu hu=>⟨by omega,λv hv=>?_⟩⟩⟩⟩⟩⟩⟩⟩
   ·have h2:=hnx y hy
    rw[hz]at h2
    have h3:=Option.some.inj h2
    rw[h3]at q;simp at q
   ·rw[hx]at hu;cases hu
    have:=hle v hv;omega
  ·intro (u:Bool) hu
   subst hu
   refine⟨λq=>(by cases q),λ_=>?_⟩
   have:=hk.step (x:=x) (by omega) (by rw[Int.toNat_natCast];exact hx) trivial
   rw[w,Int.toNat_natCast,Int.toNat_natCast]at this;exact this
 ·rintro _ ⟨e',he',rfl⟩
  have:e'=e:=Option.some.inj (he'.symm.trans he)
  subst this
  refine⟨⟨λq=>?_,λq=>trivial⟩,?_⟩
  ·have:=Dc (eq_of_beq q)
   simpa using this
  ·intro (u:Bool) hu
   subst hu
   exact⟨λq=>(by cases q),λ_=>hs.step (by omega) he trivial⟩
def M2(t:List Int):PC Tryz.prog:=⟨5,[(.s 1)],[.sl 1 (t.map AV.int) false],uR true,aw.of_ok λok=>(M1 t ok).elim λI3 h=>h.elim λm3 h=>h.elim λI6 h=>h.elim λm6 h=>h.elim λI9 h=>h.elim λI11 h=>av (sh:=.k) (enc:=uR) (a:=(uQ t I3 m3 I6 m6 I9 I11).an) h (by kernel_rfl) (AV.pureB_ok rfl),ap (by kernel_rfl)⟩
end Go.Proofs.YtdbdndmdbbihbaaGreat
