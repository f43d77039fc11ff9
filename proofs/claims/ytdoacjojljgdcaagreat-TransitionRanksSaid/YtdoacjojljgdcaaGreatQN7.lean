/- Texts joined: TA0 TA1 AP4 AP5 TA2 RF1 RF2 RF3 TA3 TE FA TU. -/
import Derived.Test.YtdoacjojljgdcaaGreatQN6
set_option linter.unusedVariables false
set_option linter.unusedSimpArgs false
set_option linter.unusedSectionVars false
namespace Go.Proofs.YtdoacjojljgdcaaGreat
open Go Go.Am
theorem fin_weak{k n:Nat}{res:List AR}{r:AV}{h':List (Option Blk)}{s s1:S3}(hw:Weak k n s s1)(h:fin k n res r h' .ret s1):fin k n res r h' .ret s:=by
 obtain⟨s',g1,g2⟩:=h
 exact⟨s',hw.trans g1,g2⟩
theorem pureL_append{xs ys:List AV}(h:pureL xs)(h':pureL ys):pureL (xs++ys):=by
 rw[pureL_iff]at *
 intro x hx
 rcases List.mem_append.mp hx with hx|hx
 ·exact h x hx
 ·exact h' x hx
theorem pureL_take{xs:List AV}(h:pureL xs)(n:Nat):pureL (xs.take n):=by
 rw[pureL_iff]at *;exact λx hx=>h x (List.mem_of_mem_take hx)
theorem pureL_drop{xs:List AV}(h:pureL xs)(n:Nat):pureL (xs.drop n):=by
 rw[pureL_iff]at *;exact λx hx=>h x (List.mem_of_mem_drop hx)
theorem pureL_insAt{es:List AV}{x:AV}(h:pureL es)(hx:x.pure)(i:Nat):pureL (insAt es i x):=pureL_append (pureL_append (pureL_take h i) ⟨hx,trivial⟩) (pureL_drop h i)
theorem vec_ren{k m:Nat}{es:List AV}{π:Nat→Nat}(h:pureL es):(Blk.vec k es).ren π=.vec k es∧(Blk.vec k es).bel m:=⟨by rw[Blk.ren,renL_pure _ h],belL_pure h⟩
theorem insAt_map{α β:Type}(f:α→β)(l:List α)(i:Nat)(x:α):insAt (l.map f) i (f x)=(insAt l i x).map f:=by
 simp[insAt]
def cf127:AF:=
 ⟨95,3,[.tmp 6],
 .seq (.reg [⟨(some 6),.move (.c (.sl 0 [] true)),none⟩])
 (.seq (.reg [⟨(some 10),.move (.t 0),none⟩,⟨(some 11),.move (.t 1),none⟩,⟨(some 12),.slice 5 (.t 10) (some (.t 11)) none none,none⟩])
 (.seq (.reg [⟨(some 13),.move (.t 2),none⟩,⟨(some 14),.len (.t 13),none⟩,⟨(some 7),.move (.t 14),none⟩])
 (.seq (.seq (.reg [⟨(some 15),.move (.t 7),none⟩,⟨(some 16),.bin .eql (.t 15) (.c (.val (.int .i64 0))),none⟩])
 (.cond (.t 16) (.seq (.reg [⟨(some 17),.move (.t 0),none⟩,⟨(some 6),.move (.t 17),none⟩])
 (.ret)) (.skip)))
 (.seq (.reg [⟨(some 18),.move (.t 0),none⟩,⟨(some 19),.len (.t 18),none⟩,⟨(some 8),.move (.t 19),none⟩])
 (.seq (.seq (.reg [⟨(some 20),.move (.t 1),none⟩,⟨(some 21),.move (.t 8),none⟩,⟨(some 22),.bin .eql (.t 20) (.t 21),none⟩])
 (.cond (.t 22) (.seq (.reg [⟨(some 23),.move (.t 0),none⟩,⟨(some 24),.move (.t 2),none⟩,⟨(some 25),.append 5 40 (.t 23) (.t 24),none⟩,⟨(some 6),.move (.t 25),none⟩])
 (.ret)) (.skip)))
 (.seq (.seq (.reg [⟨(some 26),.move (.t 8),none⟩,⟨(some 27),.move (.t 7),none⟩,⟨(some 28),.bin .add (.t 26) (.t 27),none⟩,⟨(some 29),.move (.t 0),none⟩,⟨(some 30),.cap (.t 29),none⟩,⟨(some 31),.bin .gtr (.t 28) (.t 30),none⟩])
 (.cond (.t 31) (.seq (.reg [⟨(some 32),.move (.t 0),none⟩,⟨(some 33),.move (.t 1),none⟩,⟨(some 34),.slice 5 (.t 32) none (some (.t 33)) none,none⟩,⟨(some 35),.move (.t 8),none⟩,⟨(some 36),.move (.t 7),none⟩,⟨(some 37),.bin .add (.t 35) (.t 36),none⟩,⟨(some 38),.move (.t 1),none⟩,⟨(some 39),.bin .sub (.t 37) (.t 38),none⟩,⟨(some 40),.appendZ 5 40 ((.agg [(.val (.int .i64 0)),(.val (.int .i64 0)),(.val (.int .i64 0)),(.val (.int .i64 0)),(.val (.int .i64 0))])) (.t 34) (.t 39),none⟩,⟨(some 9),.move (.t 40),none⟩])
 (.seq (.reg [⟨(some 41),.move (.t 9),none⟩,⟨(some 42),.move (.t 1),none⟩,⟨(some 43),.slice 5 (.t 41) (some (.t 42)) none none,none⟩,⟨(some 44),.move (.t 2),none⟩,⟨(some 45),.copy 5 (.t 43) (.t 44),none⟩])
 (.seq (.dreg [⟨(some 46),.move (.t 9),none⟩,⟨(some 47),.move (.t 1),none⟩,⟨(some 48),.move (.t 7),none⟩,⟨(some 49),.bin .add (.t 47) (.t 48),none⟩,⟨(some 50),.slice 5 (.t 46) (some (.t 49)) none none,none⟩,⟨(some 51),.move (.t 0),none⟩,⟨(some 52),.move (.t 1),none⟩,⟨(some 53),.slice 5 (.t 51) (some (.t 52)) none none,none⟩,⟨(some 54),.copy 5 (.t 50) (.t 53),none⟩] [(4,7)])
 (.seq (.reg [⟨(some 55),.move (.t 9),none⟩,⟨(some 6),.move (.t 55),none⟩])
 (.ret))))) (.skip)))
 (.seq (.reg [⟨(some 56),.move (.t 0),none⟩,⟨(some 57),.move (.t 8),none⟩,⟨(some 58),.move (.t 7),none⟩,⟨(some 59),.bin .add (.t 57) (.t 58),none⟩,⟨(some 60),.slice 5 (.t 56) none (some (.t 59)) none,none⟩,⟨(some 0),.move (.t 60),none⟩])
 (.seq (.seq (.reg [⟨(some 61),.move (.t 2),none⟩,⟨(some 62),.move (.t 0),none⟩,⟨(some 63),.move (.t 1),none⟩,⟨(some 64),.move (.t 7),none⟩,⟨(some 65),.bin .add (.t 63) (.t 64),none⟩,⟨(some 66),.slice 5 (.t 62) (some (.t 65)) none none,none⟩,⟨(some 67),.call (.c (.func 153 [])) [(.t 61),(.t 66)],none⟩,⟨(some 68),.un .not (.t 67),none⟩])
 (.cond (.t 68) (.seq (.dreg [⟨(some 69),.move (.t 0),none⟩,⟨(some 70),.move (.t 1),none⟩,⟨(some 71),.move (.t 7),none⟩,⟨(some 72),.bin .add (.t 70) (.t 71),none⟩,⟨(some 73),.slice 5 (.t 69) (some (.t 72)) none none,none⟩,⟨(some 74),.move (.t 0),none⟩,⟨(some 75),.move (.t 1),none⟩,⟨(some 76),.slice 5 (.t 74) (some (.t 75)) none none,none⟩,⟨(some 77),.copy 5 (.t 73) (.t 76),none⟩] [(4,7)])
 (.seq (.reg [⟨(some 78),.move (.t 0),none⟩,⟨(some 79),.move (.t 1),none⟩,⟨(some 80),.slice 5 (.t 78) (some (.t 79)) none none,none⟩,⟨(some 81),.move (.t 2),none⟩,⟨(some 82),.copy 5 (.t 80) (.t 81),none⟩])
 (.seq (.reg [⟨(some 83),.move (.t 0),none⟩,⟨(some 6),.move (.t 83),none⟩])
 (.ret)))) (.skip)))
 (.seq (.reg [⟨(some 84),.move (.t 0),none⟩,⟨(some 85),.move (.t 8),none⟩,⟨(some 86),.slice 5 (.t 84) (some (.t 85)) none none,none⟩,⟨(some 87),.move (.t 2),none⟩,⟨(some 88),.copy 5 (.t 86) (.t 87),none⟩])
 (.seq (.reg [⟨(some 89),.move (.t 0),none⟩,⟨(some 90),.move (.t 1),none⟩,⟨(some 91),.slice 5 (.t 89) (some (.t 90)) none none,none⟩,⟨(some 92),.move (.t 7),none⟩,⟨(some 93),.call (.c (.func 154 [])) [(.t 91),(.t 92)],none⟩])
 (.seq (.reg [⟨(some 94),.move (.t 0),none⟩,⟨(some 6),.move (.t 94),none⟩])
 (.ret))))))))))))⟩
theorem cf127_ok:cFunc Tryz.prog Tryz.f127=some cf127:=by kernel_rfl
theorem overlaps_noneL : (Tryz.f153.name == "runtime.NumGoroutine") = false ∧ Tryz.f153.body.isNone = true := ⟨by kernel_rfl, by kernel_rfl⟩
theorem overlaps_nextL:Extern.findNext Tryz.f153=none:=by kernel_rfl
theorem overlaps_findL:Extern.find Tryz.f153=some (Extern.SlicesOverlaps.overlaps #[28,28] #[4]):=by kernel_rfl
theorem overlaps_sizeL:sizeOf? Tryz.prog 104=some 5:=by kernel_rfl
theorem overlaps_tyL:Program.underlying Tryz.prog 28=some (.slice 104):=by kernel_rfl
theorem Insert_rowL(es:List AV)(x:AV)(i cap:Nat)(hi:i≤es.length)(hx:x.solid=true)(h1:es.length≤cap)(h2:cap≤maxLen)(hs:es.length≤1000000)(hp:pureL es∧x.pure) :
  HSpec Tryz.prog 127 [.vec 0,.int i,.vec 1] [.row 5 es es.length cap,.vec 5 [x]] (.vec 2) [none,none,some (.vec 5 (insAt es i x))]:=by
 have hml:=maxLen_eq
 refine HSpec.walk Tryz.func127 cf127_ok (by simp[cf127]) ?_
 unfold cf127
 simp only[initT,initH,List.length_cons,List.length_nil]
 refine AWP.seq' ?_
 refine AWP.reg' λK hK=>?_
 try simp only[stepS,stepD,stepM,eq_self,implies_true,forall_eq_or_imp,forall_eq,Nat.reduceEqDiff,↓reduceIte,Nat.reduceAdd,Nat.reduceLeDiff,Nat.reduceSub,Nat.reduceMul,Nat.reduceLT,Int.reduceBEq,Int.reduceBNe,Int.reduceToNat,Int.reduceLT,Int.reduceLE,Int.reduceAdd,Int.reduceSub,Int.reduceMul,reduceCtorEq]
 refine hK _ _ _ ?_
 clear hK K
 refine AWP.seq' ?_
 refine AWP.reg' λK hK=>?_
 try simp only[stepS,stepD,stepM,eq_self,implies_true,forall_eq_or_imp,forall_eq,Nat.reduceEqDiff,↓reduceIte,Nat.reduceAdd,Nat.reduceLeDiff,Nat.reduceSub,Nat.reduceMul,Nat.reduceLT,Int.reduceBEq,Int.reduceBNe,Int.reduceToNat,Int.reduceLT,Int.reduceLE,Int.reduceAdd,Int.reduceSub,Int.reduceMul,reduceCtorEq]
 repeat (refine And.intro (by omega) ?_)
 refine hK _ _ _ ?_
 clear hK K
 refine AWP.seq' ?_
 refine AWP.reg' λK hK=>?_
 try simp only[stepS,stepD,stepM,eq_self,implies_true,forall_eq_or_imp,forall_eq,Nat.reduceEqDiff,↓reduceIte,Nat.reduceAdd,Nat.reduceLeDiff,Nat.reduceSub,Nat.reduceMul,Nat.reduceLT,Int.reduceBEq,Int.reduceBNe,Int.reduceToNat,Int.reduceLT,Int.reduceLE,Int.reduceAdd,Int.reduceSub,Int.reduceMul,reduceCtorEq]
 refine hK _ _ _ ?_
 clear hK K
 refine AWP.seq' (AWP.seq' ?_)
 refine AWP.reg' λK hK=>?_
 try simp only[stepS,stepD,stepM,eq_self,implies_true,forall_eq_or_imp,forall_eq,Nat.reduceEqDiff,↓reduceIte,Nat.reduceAdd,Nat.reduceLeDiff,Nat.reduceSub,Nat.reduceMul,Nat.reduceLT,Int.reduceBEq,Int.reduceBNe,Int.reduceToNat,Int.reduceLT,Int.reduceLE,Int.reduceAdd,Int.reduceSub,Int.reduceMul,reduceCtorEq]
 refine hK _ _ _ ?_
 clear hK K
 refine AWP.cond (b:=false) rfl (λh=>by cases h) (λ_=>?_)
 refine AWP.skip ?_
 refine AWP.seq' ?_
 refine AWP.reg' λK hK=>?_
 try simp only[stepS,stepD,stepM,eq_self,implies_true,forall_eq_or_imp,forall_eq,Nat.reduceEqDiff,↓reduceIte,Nat.reduceAdd,Nat.reduceLeDiff,Nat.reduceSub,Nat.reduceMul,Nat.reduceLT,Int.reduceBEq,Int.reduceBNe,Int.reduceToNat,Int.reduceLT,Int.reduceLE,Int.reduceAdd,Int.reduceSub,Int.reduceMul,reduceCtorEq]
 refine hK _ _ _ ?_
 clear hK K
 refine AWP.seq' (AWP.seq' ?_)
 refine AWP.reg' λK hK=>?_
 try simp only[stepS,stepD,stepM,eq_self,implies_true,forall_eq_or_imp,forall_eq,Nat.reduceEqDiff,↓reduceIte,Nat.reduceAdd,Nat.reduceLeDiff,Nat.reduceSub,Nat.reduceMul,Nat.reduceLT,Int.reduceBEq,Int.reduceBNe,Int.reduceToNat,Int.reduceLT,Int.reduceLE,Int.reduceAdd,Int.reduceSub,Int.reduceMul,reduceCtorEq]
 refine hK _ _ _ ?_
 clear hK K
 refine AWP.cond (b:=((i:Int)==(es.length:Int))) rfl (λh=>?_) (λh=>?_)
 ·have h:i=es.length:=by have:=eq_of_beq h;omega
  refine AWP.seq' ?_
  refine AWP.reg' λK hK=>?_
  try simp only[stepS,stepD,stepM,eq_self,implies_true,forall_eq_or_imp,forall_eq,Nat.reduceEqDiff,↓reduceIte,Nat.reduceAdd,Nat.reduceLeDiff,Nat.reduceSub,Nat.reduceMul,Nat.reduceLT,Int.reduceBEq,Int.reduceBNe,Int.reduceToNat,Int.reduceLT,Int.reduceLE,Int.reduceAdd,Int.reduceSub,Int.reduceMul,reduceCtorEq,appendA,srcA]
  repeat (refine And.intro (by omega) ?_)
  refine hK _ _ _ ?_
  clear hK K
  refine AWP.ret (fin_ren [0,1,274] [(6,.vec 2)] rfl rfl ?_ ?_ rfl (by simp) ?_ (by simp))
  ·simp only[List.mem_singleton,forall_eq]
   exact⟨rfl,show(2:Nat)<3 by omega⟩
  ·refine⟨⟨?_,?_⟩,trivial⟩
   ·rw[(vec_ren (m:=0) (pureL_insAt hp.1 hp.2 i)).1]
    show some (Blk.vec 5 (es++[x]))=_
    rw[insAt,h,List.take_length,List.drop_length,List.append_nil]
   ·exact(vec_ren (π:=id) (pureL_insAt hp.1 hp.2 i)).2
  ·intro b hb
   match b,hb with
   | 0,_=>rfl
   | 1,_=>rfl
 have h:¬i=es.length:=by intro e;subst e;simp at h
 refine AWP.skip ?_
 refine AWP.seq' (AWP.seq' ?_)
 have w1:IntKind.i64.wrap ((es.length:Int)+1)=es.length+1:=wrap64 (by omega)
 refine AWP.reg' λK hK=>?_
 try simp only[stepS,stepD,stepM,eq_self,implies_true,forall_eq_or_imp,forall_eq,Nat.reduceEqDiff,↓reduceIte,Nat.reduceAdd,Nat.reduceLeDiff,Nat.reduceSub,Nat.reduceMul,Nat.reduceLT,Int.reduceBEq,Int.reduceBNe,Int.reduceToNat,Int.reduceLT,Int.reduceLE,Int.reduceAdd,Int.reduceSub,Int.reduceMul,reduceCtorEq,w1]
 refine hK _ _ _ ?_
 clear hK K
 refine AWP.cond (b:=decide ((cap:Int)<(es.length:Int)+1)) rfl (λh3=>?_) (λh3=>?_)
 ·have h3:cap=es.length:=by have:=of_decide_eq_true h3;omega
  refine AWP.seq' ?_
  have w2:IntKind.i64.wrap ((es.length:Int)+1-i)=es.length+1-i:=wrap64 (by omega)
  have hlt:¬((es.length:Int)<(i:Int)):=by omega
  refine AWP.reg' λK hK=>?_
  try simp only[stepS,stepD,stepM,eq_self,implies_true,forall_eq_or_imp,forall_eq,Nat.reduceEqDiff,↓reduceIte,Nat.reduceAdd,Nat.reduceLeDiff,Nat.reduceSub,Nat.reduceMul,Nat.reduceLT,Int.reduceBEq,Int.reduceBNe,Int.reduceToNat,Int.reduceLT,Int.reduceLE,Int.reduceAdd,Int.reduceSub,Int.reduceMul,reduceCtorEq,w1,w2,appendZA,Int.toNat_natCast,hlt]
  repeat (refine And.intro (by omega) ?_)
  refine hK _ _ _ ?_
  clear hK K
  have hn:((es.length:Int)+1-i).toNat=es.length+1-i:=by omega
  rw[hn]
  generalize hL:es.take i++List.replicate (es.length+1-i) (AV.agg [AV.val (Value.int IntKind.i64 0),AV.val (Value.int IntKind.i64 0),AV.val (Value.int IntKind.i64 0),AV.val (Value.int IntKind.i64 0),AV.val (Value.int IntKind.i64 0)])=L
  have hLl:L.length=es.length+1:=by rw[←hL];simp;omega
  refine AWP.seq' ?_
  have hpos:0<es.length+1:=by omega
  have hsub:(((es.length+1:Nat):Int)-(i:Int)).toNat=es.length+1-i:=by omega
  have hmin:Nat.min 1 (es.length+1-i)=1:=Nat.min_eq_left (by omega)
  refine AWP.reg' λK hK=>?_
  try simp only[stepS,stepD,stepM,eq_self,implies_true,forall_eq_or_imp,forall_eq,Nat.reduceEqDiff,↓reduceIte,Nat.reduceAdd,Nat.reduceLeDiff,Nat.reduceSub,Nat.reduceMul,Nat.reduceLT,Int.reduceBEq,Int.reduceBNe,Int.reduceToNat,Int.reduceLT,Int.reduceLE,Int.reduceAdd,Int.reduceSub,Int.reduceMul,reduceCtorEq,hLl,copyA,srcP,srcA,Int.toNat_natCast,hpos,hsub,hmin]
  repeat (refine And.intro (by omega) ?_)
  refine hK _ _ _ ?_
  clear hK K
  have ht1:List.take 1 [x]=[x]:=rfl
  have w3:IntKind.i64.wrap ((i:Int)+1)=i+1:=wrap64 (by omega)
  generalize hM:over L i [x]=M
  have hMl:M.length=es.length+1:=by rw[←hM,over_length (by omega),Nat.max_def];split<;>simp at *<;>omega
  refine AWP.seq' ?_
  have ha:((es.length:Int)-(i:Int)).toNat=es.length-i:=by omega
  have hb:(((es.length+1:Nat):Int)-((i:Int)+1)).toNat=es.length-i:=by omega
  have hc:((i:Int)+1).toNat=i+1:=by omega
  have hd:Nat.min (es.length-i) (es.length-i)=es.length-i:=Nat.min_self _
  have he:(es.drop i).take (es.length-i)=es.drop i:=List.take_of_length_le (by simp)
  have hf:(es.drop i).length=es.length-i:=List.length_drop ..
  refine AWP.dreg' λK hK=>?_
  try simp only[stepS,stepD,stepM,eq_self,implies_true,forall_eq_or_imp,forall_eq,Nat.reduceEqDiff,↓reduceIte,Nat.reduceAdd,Nat.reduceLeDiff,Nat.reduceSub,Nat.reduceMul,Nat.reduceLT,Int.reduceBEq,Int.reduceBNe,Int.reduceToNat,Int.reduceLT,Int.reduceLE,Int.reduceAdd,Int.reduceSub,Int.reduceMul,reduceCtorEq,hMl,copyA,srcP,srcA,Int.toNat_natCast,hpos,w3,ha,hb,hc,hd,he,hf]
  repeat (refine And.intro (by omega) ?_)
  refine⟨by rfl,hK _ _ _ ?_⟩
  clear hK K
  refine AWP.seq' ?_
  refine AWP.reg' λK hK=>?_
  try simp only[stepS,stepD,stepM,eq_self,implies_true,forall_eq_or_imp,forall_eq,Nat.reduceEqDiff,↓reduceIte,Nat.reduceAdd,Nat.reduceLeDiff,Nat.reduceSub,Nat.reduceMul,Nat.reduceLT,Int.reduceBEq,Int.reduceBNe,Int.reduceToNat,Int.reduceLT,Int.reduceLE,Int.reduceAdd,Int.reduceSub,Int.reduceMul,reduceCtorEq]
  refine hK _ _ _ ?_
  clear hK K
  have hfin:over M (i+1) (es.drop i)=insAt es i x:=by
   have hLi:L.take i=es.take i:=by
    rw[←hL,List.take_append_of_le_length (by simp;omega),List.take_take,Nat.min_self]
   have hMi:M.take (i+1)=es.take i++[x]:=by
    have e1:(es.take i++[x]).length=i+1:=by simp;omega
    rw[←hM,over,hLi,←e1]
    exact List.take_left
   have hMd:M.drop (i+1+(es.drop i).length)=[]:=List.drop_of_length_le (by rw[hMl,hf];omega)
   unfold over insAt
   rw[hMi,hMd,List.append_nil]
  refine AWP.ret (fin_ren [0,1,466] [(6,.vec 2)] rfl rfl ?_ ?_ rfl (by simp) ?_ (by simp))
  ·simp only[List.mem_singleton,forall_eq]
   exact⟨rfl,show(2:Nat)<3 by omega⟩
  ·refine⟨⟨?_,?_⟩,trivial⟩
   ·rw[(vec_ren (m:=0) (pureL_insAt hp.1 hp.2 i)).1,←hfin]
    rfl
   ·exact(vec_ren (π:=id) (pureL_insAt hp.1 hp.2 i)).2
  ·intro b hb
   match b,hb with
   | 0,_=>rfl
   | 1,_=>rfl
 have h3:es.length+1≤cap:=by have:=of_decide_eq_false h3;omega
 refine AWP.skip ?_
 refine AWP.seq' ?_
 have hgt:((es.length:Int)<(es.length:Int)+1):=by omega
 refine AWP.reg' λK hK=>?_
 try simp only[stepS,stepD,stepM,eq_self,implies_true,forall_eq_or_imp,forall_eq,Nat.reduceEqDiff,↓reduceIte,Nat.reduceAdd,Nat.reduceLeDiff,Nat.reduceSub,Nat.reduceMul,Nat.reduceLT,Int.reduceBEq,Int.reduceBNe,Int.reduceToNat,Int.reduceLT,Int.reduceLE,Int.reduceAdd,Int.reduceSub,Int.reduceMul,reduceCtorEq,w1,hgt]
 repeat (refine And.intro (by omega) ?_)
 refine hK _ _ _ ?_
 clear hK K
 have w3:IntKind.i64.wrap ((i:Int)+1)=i+1:=wrap64 (by omega)
 refine AWP.seq' (AWP.seq' ?_)
 have hn1:((es.length:Int)+1).toNat=es.length+1:=by omega
 refine AWP.reg' λK hK=>?_
 try simp only[stepS,stepD,stepM,eq_self,implies_true,forall_eq_or_imp,forall_eq,Nat.reduceEqDiff,↓reduceIte,Nat.reduceAdd,Nat.reduceLeDiff,Nat.reduceSub,Nat.reduceMul,Nat.reduceLT,Int.reduceBEq,Int.reduceBNe,Int.reduceToNat,Int.reduceLT,Int.reduceLE,Int.reduceAdd,Int.reduceSub,Int.reduceMul,reduceCtorEq,w3,Int.toNat_natCast,hn1]
 repeat (refine And.intro (by omega) ?_)
 refine evT_ext rfl rfl (ext_overlaps Tryz.func153 overlaps_noneL.1 overlaps_noneL.2 overlaps_nextL overlaps_findL overlaps_tyL overlaps_sizeL (by omega) rfl rfl (by omega) (by simp) (by omega)) ?_
 try simp only[stepS,stepD,stepM,eq_self,implies_true,forall_eq_or_imp,forall_eq,Nat.reduceEqDiff,↓reduceIte,Nat.reduceAdd,Nat.reduceLeDiff,Nat.reduceSub,Nat.reduceMul,Nat.reduceLT,Int.reduceBEq,Int.reduceBNe,Int.reduceToNat,Int.reduceLT,Int.reduceLE,Int.reduceAdd,Int.reduceSub,Int.reduceMul,reduceCtorEq,w3]
 refine hK _ _ _ ?_
 clear hK K
 refine AWP.cond (b:=true) rfl (λ_=>?_) (λh=>by cases h)
 refine AWP.seq' ?_
 have hb:(((es.length+1:Nat):Int)-((i:Int)+1)).toNat=es.length-i:=by omega
 have hc:((i:Int)+1).toNat=i+1:=by omega
 have hsub:(((es.length+1:Nat):Int)-(i:Int)).toNat=es.length+1-i:=by omega
 have hd:Nat.min (es.length+1-i) (es.length-i)=es.length-i:=Nat.min_eq_right (by omega)
 have he:(es.drop i).take (es.length+1-i)=es.drop i:=List.take_of_length_le (by simp;omega)
 have he2:(es.drop i).take (es.length-i)=es.drop i:=List.take_of_length_le (by simp)
 have hf:(es.drop i).length=es.length-i:=List.length_drop ..
 refine AWP.dreg' λK hK=>?_
 try simp only[stepS,stepD,stepM,eq_self,implies_true,forall_eq_or_imp,forall_eq,Nat.reduceEqDiff,↓reduceIte,Nat.reduceAdd,Nat.reduceLeDiff,Nat.reduceSub,Nat.reduceMul,Nat.reduceLT,Int.reduceBEq,Int.reduceBNe,Int.reduceToNat,Int.reduceLT,Int.reduceLE,Int.reduceAdd,Int.reduceSub,Int.reduceMul,reduceCtorEq,w3,copyA,srcP,srcA,Int.toNat_natCast,hb,hc,hsub,hd,he,he2,hf]
 repeat (refine And.intro (by omega) ?_)
 refine⟨by rfl,hK _ _ _ ?_⟩
 clear hK K
 have hMl:(over es (i+1) (es.drop i)).length=es.length+1:=by simp[over];omega
 have hMt:(over es (i+1) (es.drop i)).take i=es.take i:=by
  unfold over
  rw[List.append_assoc,List.take_append_of_le_length (by simp;omega),List.take_take,Nat.min_eq_left (by omega)]
 have hMd:(over es (i+1) (es.drop i)).drop (i+1)=es.drop i:=by
  unfold over
  have e1:(es.take (i+1)).length=i+1:=by simp;omega
  have e2:es.drop (i+1+(es.drop i).length)=[]:=List.drop_of_length_le (by simp;omega)
  rw[e2,List.append_nil]
  have e3:=List.drop_left (l₁:=es.take (i+1)) (l₂:=es.drop i)
  rw[e1]at e3;exact e3
 generalize hM:over es (i+1) (es.drop i)=M at *
 refine AWP.seq' ?_
 have hsub:(((es.length+1:Nat):Int)-(i:Int)).toNat=es.length+1-i:=by omega
 have hmin:Nat.min 1 (es.length+1-i)=1:=Nat.min_eq_left (by omega)
 have ht1:List.take 1 [x]=[x]:=rfl
 refine AWP.reg' λK hK=>?_
 try simp only[stepS,stepD,stepM,eq_self,implies_true,forall_eq_or_imp,forall_eq,Nat.reduceEqDiff,↓reduceIte,Nat.reduceAdd,Nat.reduceLeDiff,Nat.reduceSub,Nat.reduceMul,Nat.reduceLT,Int.reduceBEq,Int.reduceBNe,Int.reduceToNat,Int.reduceLT,Int.reduceLE,Int.reduceAdd,Int.reduceSub,Int.reduceMul,reduceCtorEq,hMl,copyA,srcP,srcA,Int.toNat_natCast,hsub,hmin]
 repeat (refine And.intro (by omega) ?_)
 refine hK _ _ _ ?_
 clear hK K
 refine AWP.seq' ?_
 refine AWP.reg' λK hK=>?_
 try simp only[stepS,stepD,stepM,eq_self,implies_true,forall_eq_or_imp,forall_eq,Nat.reduceEqDiff,↓reduceIte,Nat.reduceAdd,Nat.reduceLeDiff,Nat.reduceSub,Nat.reduceMul,Nat.reduceLT,Int.reduceBEq,Int.reduceBNe,Int.reduceToNat,Int.reduceLT,Int.reduceLE,Int.reduceAdd,Int.reduceSub,Int.reduceMul,reduceCtorEq]
 refine hK _ _ _ ?_
 clear hK K
 have hfin:over M i [x]=insAt es i x:=by
  unfold over insAt
  rw[hMt,show i+[x].length=i+1 from rfl,hMd]
 have hfl:(insAt es i x).length=es.length+1:=by unfold insAt;simp;omega
 rw[hfin]
 refine AWP.ret (fin_weak (Weak.row (b:=402) (cap:=cap) (k:=5) (es:=insAt es i x) (by rw[hfl];rfl)) (fin_ren [0,1,402] [(6,.vec 2)] rfl rfl ?_ ?_ rfl (by simp) ?_ (by simp)))
 ·simp only[List.mem_singleton,forall_eq]
  exact⟨rfl,show(2:Nat)<3 by omega⟩
 ·refine⟨⟨?_,?_⟩,trivial⟩
  ·rw[(vec_ren (m:=0) (pureL_insAt hp.1 hp.2 i)).1]
   rfl
  ·exact(vec_ren (π:=id) (pureL_insAt hp.1 hp.2 i)).2
 ·intro b hb
  match b,hb with
  | 0,_=>rfl
  | 1,_=>rfl
theorem Insert_nilL(x:AV)(hx:x.solid=true)(hp:x.pure) :
  HSpec Tryz.prog 127 [.vec 0,.int 0,.vec 1] [.vec 5 [],.vec 5 [x]] (.vec 2) [none,none,some (.vec 5 [x])]:=by
 have hml:=maxLen_eq
 refine HSpec.walk Tryz.func127 cf127_ok (by simp[cf127]) ?_
 unfold cf127
 simp only[initT,initH,List.length_cons,List.length_nil]
 refine AWP.seq' ?_
 refine AWP.reg' λK hK=>?_
 try simp only[stepS,stepD,stepM,eq_self,implies_true,forall_eq_or_imp,forall_eq,Nat.reduceEqDiff,↓reduceIte,Nat.reduceAdd,Nat.reduceLeDiff,Nat.reduceSub,Nat.reduceMul,Nat.reduceLT,Int.reduceBEq,Int.reduceBNe,Int.reduceToNat,Int.reduceLT,Int.reduceLE,Int.reduceAdd,Int.reduceSub,Int.reduceMul,reduceCtorEq]
 refine hK _ _ _ ?_
 clear hK K
 refine AWP.seq' ?_
 refine AWP.reg' λK hK=>?_
 try simp only[stepS,stepD,stepM,eq_self,implies_true,forall_eq_or_imp,forall_eq,Nat.reduceEqDiff,↓reduceIte,Nat.reduceAdd,Nat.reduceLeDiff,Nat.reduceSub,Nat.reduceMul,Nat.reduceLT,Int.reduceBEq,Int.reduceBNe,Int.reduceToNat,Int.reduceLT,Int.reduceLE,Int.reduceAdd,Int.reduceSub,Int.reduceMul,reduceCtorEq]
 refine hK _ _ _ ?_
 clear hK K
 refine AWP.seq' ?_
 refine AWP.reg' λK hK=>?_
 try simp only[stepS,stepD,stepM,eq_self,implies_true,forall_eq_or_imp,forall_eq,Nat.reduceEqDiff,↓reduceIte,Nat.reduceAdd,Nat.reduceLeDiff,Nat.reduceSub,Nat.reduceMul,Nat.reduceLT,Int.reduceBEq,Int.reduceBNe,Int.reduceToNat,Int.reduceLT,Int.reduceLE,Int.reduceAdd,Int.reduceSub,Int.reduceMul,reduceCtorEq]
 refine hK _ _ _ ?_
 clear hK K
 refine AWP.seq' (AWP.seq' ?_)
 refine AWP.reg' λK hK=>?_
 try simp only[stepS,stepD,stepM,eq_self,implies_true,forall_eq_or_imp,forall_eq,Nat.reduceEqDiff,↓reduceIte,Nat.reduceAdd,Nat.reduceLeDiff,Nat.reduceSub,Nat.reduceMul,Nat.reduceLT,Int.reduceBEq,Int.reduceBNe,Int.reduceToNat,Int.reduceLT,Int.reduceLE,Int.reduceAdd,Int.reduceSub,Int.reduceMul,reduceCtorEq]
 refine hK _ _ _ ?_
 clear hK K
 refine AWP.cond (b:=false) rfl (λh=>by cases h) (λ_=>?_)
 refine AWP.skip ?_
 refine AWP.seq' ?_
 refine AWP.reg' λK hK=>?_
 try simp only[stepS,stepD,stepM,eq_self,implies_true,forall_eq_or_imp,forall_eq,Nat.reduceEqDiff,↓reduceIte,Nat.reduceAdd,Nat.reduceLeDiff,Nat.reduceSub,Nat.reduceMul,Nat.reduceLT,Int.reduceBEq,Int.reduceBNe,Int.reduceToNat,Int.reduceLT,Int.reduceLE,Int.reduceAdd,Int.reduceSub,Int.reduceMul,reduceCtorEq]
 refine hK _ _ _ ?_
 clear hK K
 refine AWP.seq' (AWP.seq' ?_)
 refine AWP.reg' λK hK=>?_
 try simp only[stepS,stepD,stepM,eq_self,implies_true,forall_eq_or_imp,forall_eq,Nat.reduceEqDiff,↓reduceIte,Nat.reduceAdd,Nat.reduceLeDiff,Nat.reduceSub,Nat.reduceMul,Nat.reduceLT,Int.reduceBEq,Int.reduceBNe,Int.reduceToNat,Int.reduceLT,Int.reduceLE,Int.reduceAdd,Int.reduceSub,Int.reduceMul,reduceCtorEq]
 refine hK _ _ _ ?_
 clear hK K
 refine AWP.cond (b:=true) rfl (λh=>?_) (λh=>by cases h)
 refine AWP.seq' ?_
 refine AWP.reg' λK hK=>?_
 try simp only[stepS,stepD,stepM,eq_self,implies_true,forall_eq_or_imp,forall_eq,Nat.reduceEqDiff,↓reduceIte,Nat.reduceAdd,Nat.reduceLeDiff,Nat.reduceSub,Nat.reduceMul,Nat.reduceLT,Int.reduceBEq,Int.reduceBNe,Int.reduceToNat,Int.reduceLT,Int.reduceLE,Int.reduceAdd,Int.reduceSub,Int.reduceMul,reduceCtorEq,appendA,srcA]
 repeat (refine And.intro (by omega) ?_)
 refine hK _ _ _ ?_
 clear hK K
 refine AWP.ret (fin_ren [0,1,274] [(6,.vec 2)] rfl rfl ?_ ?_ rfl (by simp) ?_ (by simp))
 ·simp only[List.mem_singleton,forall_eq]
  exact⟨rfl,show(2:Nat)<3 by omega⟩
 ·have hp':pureL [x]:=⟨hp,trivial⟩
  refine⟨⟨?_,?_⟩,trivial⟩
  ·rw[(vec_ren (m:=0) hp').1]
   rfl
  ·exact(vec_ren (π:=id) hp').2
 ·intro b hb
  match b,hb with
  | 0,_=>rfl
  | 1,_=>rfl
theorem Insert_specL(es:List AV)(x:AV)(i:Nat)(hi:i≤es.length)(hx:x.solid=true)(hs:es.length≤1000000)(hp:pureL es∧x.pure) :
  HSpec Tryz.prog 127 [.vec 0,.int i,.vec 1] [.vec 5 es,.vec 5 [x]] (.vec 2) [none,none,some (.vec 5 (insAt es i x))]:=by
 refine HSpec.of_row (λcap h1 h2=>Insert_rowL es x i cap hi hx h1 h2 hs hp) (λh=>?_)
 subst h
 have:i=0:=by simpa using hi
 subst this
 exact Insert_nilL x hx hp.2
theorem Insert_fnL:FnOk Tryz.prog 127:=fnB_ok (by kernel_rfl)
def cf126:AF:=
 ⟨33,3,[.tmp 6],
 .seq (.reg [⟨(some 6),.move (.c (.sl 0 [] true)),none⟩])
 (.seq (.reg [⟨(some 8),.move (.t 0),none⟩,⟨(some 9),.move (.t 1),none⟩,⟨(some 10),.move (.t 2),none⟩,⟨(some 11),.move (.t 0),none⟩,⟨(some 12),.len (.t 11),none⟩,⟨(some 13),.slice 5 (.t 8) (some (.t 9)) (some (.t 10)) (some (.t 12)),none⟩])
 (.seq (.seq (.reg [⟨(some 14),.move (.t 1),none⟩,⟨(some 15),.move (.t 2),none⟩,⟨(some 16),.bin .eql (.t 14) (.t 15),none⟩])
 (.cond (.t 16) (.seq (.reg [⟨(some 17),.move (.t 0),none⟩,⟨(some 6),.move (.t 17),none⟩])
 (.ret)) (.skip)))
 (.seq (.reg [⟨(some 18),.move (.t 0),none⟩,⟨(some 19),.len (.t 18),none⟩,⟨(some 7),.move (.t 19),none⟩])
 (.seq (.dreg [⟨(some 20),.move (.t 0),none⟩,⟨(some 21),.move (.t 1),none⟩,⟨(some 22),.slice 5 (.t 20) none (some (.t 21)) none,none⟩,⟨(some 23),.move (.t 0),none⟩,⟨(some 24),.move (.t 2),none⟩,⟨(some 25),.slice 5 (.t 23) (some (.t 24)) none none,none⟩,⟨(some 26),.append 5 40 (.t 22) (.t 25),none⟩,⟨(some 0),.move (.t 26),none⟩] [(2,5)])
 (.seq (.reg [⟨(some 27),.move (.t 0),none⟩,⟨(some 28),.move (.t 0),none⟩,⟨(some 29),.len (.t 28),none⟩,⟨(some 30),.move (.t 7),none⟩,⟨(some 31),.slice 5 (.t 27) (some (.t 29)) (some (.t 30)) none,none⟩,⟨none,.clear 5 ((.agg [(.val (.int .i64 0)),(.val (.int .i64 0)),(.val (.int .i64 0)),(.val (.int .i64 0)),(.val (.int .i64 0))])) (.t 31),none⟩])
 (.seq (.reg [⟨(some 32),.move (.t 0),none⟩,⟨(some 6),.move (.t 32),none⟩])
 (.ret)))))))⟩
theorem cf126_ok:cFunc Tryz.prog Tryz.f126=some cf126:=by kernel_rfl
theorem Delete_fnL:FnOk Tryz.prog 126:=fnB_ok (by kernel_rfl)
def delAt{α:Type}(es:List α)(i:Nat):List α:=es.take i++es.drop (i+1)
theorem pureL_delAt{es:List AV}(h:pureL es)(i:Nat):pureL (delAt es i):=pureL_append (pureL_take h i) (pureL_drop h (i+1))
theorem Delete_specL(es:List AV)(i:Nat)(hi:i<es.length)(hs:es.length≤1000000)(hp:pureL es) :
  HSpec Tryz.prog 126 [.vec 0,.int i,.int ((i+1:Nat):Int)] [.vec 5 es] (.vec 1) [none,some (.vec 5 (delAt es i))]:=by
 refine HSpec.of_row (λcap h1 h2=>?_) (λh=>by subst h;simp at hi)
 have hml:=maxLen_eq
 refine HSpec.walk Tryz.func126 cf126_ok (by simp[cf126]) ?_
 unfold cf126
 simp only[initT,initH,List.length_cons,List.length_nil]
 have e1:((i:Int)==((i+1:Nat):Int))=false:=by simp;omega
 repeat (first
  | refine AWP.seq' ?_
  | refine AWP.skip ?_
  | (refine AWP.reg' λK hK=>?_;simp only[stepS,stepD,stepM,eq_self,implies_true,forall_eq_or_imp,forall_eq,Nat.reduceEqDiff,↓reduceIte,Nat.reduceAdd,Nat.reduceLeDiff,Nat.reduceSub,Nat.reduceMul,Nat.reduceLT,Int.reduceBEq,Int.reduceBNe,Int.reduceToNat,Int.reduceLT,Int.reduceLE,Int.reduceAdd,Int.reduceSub,Int.reduceMul,reduceCtorEq,e1];(repeat (refine And.intro (by omega) ?_));refine hK _ _ _ ?_;clear hK K))
 refine AWP.cond (b:=false) rfl (λh=>by cases h) (λh=>?_)
 repeat (first
  | refine AWP.seq' ?_
  | refine AWP.skip ?_
  | (refine AWP.reg' λK hK=>?_;simp only[stepS,stepD,stepM,eq_self,implies_true,forall_eq_or_imp,forall_eq,Nat.reduceEqDiff,↓reduceIte,Nat.reduceAdd,Nat.reduceLeDiff,Nat.reduceSub,Nat.reduceMul,Nat.reduceLT,Int.reduceBEq,Int.reduceBNe,Int.reduceToNat,Int.reduceLT,Int.reduceLE,Int.reduceAdd,Int.reduceSub,Int.reduceMul,reduceCtorEq];(repeat (refine And.intro (by omega) ?_));refine hK _ _ _ ?_;clear hK K))
 have g1:((es.length:Int)-((i+1:Nat):Int)).toNat=es.length-(i+1):=by omega
 have g2:((i:Int)-0).toNat=i:=by omega
 have g3:(es.drop (i+1)).take (es.length-(i+1))=es.drop (i+1):=List.take_of_length_le (by simp)
 have g4:(es.drop (i+1)).length=es.length-(i+1):=List.length_drop ..
 have g5:i+(es.length-(i+1))=es.length-1:=by omega
 have g6:¬((es.length:Int)<(i:Int)):=by omega
 have g7:i+1+(es.length-(i+1))≤es.length:=by omega
 refine AWP.dreg' λK hK=>?_
 try simp only[stepS,stepD,stepM,eq_self,implies_true,forall_eq_or_imp,forall_eq,Nat.reduceEqDiff,↓reduceIte,Nat.reduceAdd,Nat.reduceLeDiff,Nat.reduceSub,Nat.reduceMul,Nat.reduceLT,Int.reduceBEq,Int.reduceBNe,Int.reduceToNat,Int.reduceLT,Int.reduceLE,Int.reduceAdd,Int.reduceSub,Int.reduceMul,reduceCtorEq,appendA,srcA,g1,g2,g3,g4,g5,g6,g7]
 repeat (refine And.intro (by omega) ?_)
 refine⟨by rfl,hK _ _ _ ?_⟩
 clear hK K
 have hd:es.take i++es.drop (i+1)=delAt es i:=rfl
 have hdl:(delAt es i).length=es.length-1:=by unfold delAt;simp;omega
 refine AWP.seq' ?_
 have g8:((es.length:Int)-((es.length-1:Nat):Int)).toNat=1:=by omega
 refine AWP.reg' λK hK=>?_
 try simp only[stepS,stepD,stepM,eq_self,implies_true,forall_eq_or_imp,forall_eq,Nat.reduceEqDiff,↓reduceIte,Nat.reduceAdd,Nat.reduceLeDiff,Nat.reduceSub,Nat.reduceMul,Nat.reduceLT,Int.reduceBEq,Int.reduceBNe,Int.reduceToNat,Int.reduceLT,Int.reduceLE,Int.reduceAdd,Int.reduceSub,Int.reduceMul,reduceCtorEq,hd,hdl,g8,clearA]
 repeat (refine And.intro (by omega) ?_)
 refine hK _ _ _ ?_
 clear hK K
 repeat (first
  | refine AWP.seq' ?_
  | refine AWP.skip ?_
  | (refine AWP.reg' λK hK=>?_;simp only[stepS,stepD,stepM,eq_self,implies_true,forall_eq_or_imp,forall_eq,Nat.reduceEqDiff,↓reduceIte,Nat.reduceAdd,Nat.reduceLeDiff,Nat.reduceSub,Nat.reduceMul,Nat.reduceLT,Int.reduceBEq,Int.reduceBNe,Int.reduceToNat,Int.reduceLT,Int.reduceLE,Int.reduceAdd,Int.reduceSub,Int.reduceMul,reduceCtorEq];(repeat (refine And.intro (by omega) ?_));refine hK _ _ _ ?_;clear hK K))
 refine AWP.ret (fin_weak (Weak.row (b:=305) (cap:=cap) (k:=5) (es:=delAt es i) (by rw[hdl];rfl)) (fin_ren [0,305] [(6,.vec 1)] rfl rfl ?_ ?_ rfl (by simp) ?_ (by simp)))
 ·simp only[List.mem_singleton,forall_eq]
  exact⟨rfl,show(1:Nat)<2 by omega⟩
 ·refine⟨⟨?_,?_⟩,trivial⟩
  ·rw[(vec_ren (m:=0) (pureL_delAt hp i)).1]
   rfl
  ·exact(vec_ren (π:=id) (pureL_delAt hp i)).2
 ·intro b hb
  match b,hb with
  | 0,_=>rfl
theorem delAt_map{α β:Type}(f:α→β)(l:List α)(i:Nat):delAt (l.map f) i=(delAt l i).map f:=by simp[delAt]
def delL_h(l:List Lnk)(i j:Int)(hi:(0≤i∧i<l.length)∧j=i+1)(hl:l.length≤1000000):HC Tryz.prog:=
 ⟨126,[.k,.k,.k],[.vec 0,.int i,.int j],[.vec 5 (l.map Lnk.v)],.vec 1,[none,some (.vec 5 ((delAt l i.toNat).map Lnk.v))],by
  have h:=Delete_specL (l.map Lnk.v) i.toNat (by rw[List.length_map];omega) (by simpa using hl) (pureBL_ok (pureBL_map (λ_=>rfl) l))
  rw[delAt_map]at h
  have e1:((i.toNat:Nat):Int)=i:=by omega
  have e2:((i.toNat+1:Nat):Int)=j:=by omega
  rw[e1,e2]at h
  exact h,Delete_fnL,HcOk.of (by simp[hcB,belBL,AV.belB,allB,okBk,okBkO,pureBL_map (v:=Lnk.v) (λ_=>rfl),pureBL,AV.pureB])⟩
def insL_h(l:List Lnk)(x:Lnk)(i:Int)(hi:0≤i∧i≤l.length)(hl:l.length≤1000000):HC Tryz.prog:=
 ⟨127,[.k,.k,.k],[.vec 0,.int i,.vec 1],[.vec 5 (l.map Lnk.v),.vec 5 [x.v]],.vec 2,[none,none,some (.vec 5 ((insAt l i.toNat x).map Lnk.v))],by
  have h:=Insert_specL (l.map Lnk.v) (Lnk.v x) i.toNat (by rw[List.length_map];omega) rfl (by simpa using hl) ⟨pureBL_ok (pureBL_map (λ_=>rfl) l),AV.pureB_ok rfl⟩
  rw[insAt_map]at h
  have e1:((i.toNat:Nat):Int)=i:=by omega
  rw[e1]at h
  exact h,Insert_fnL,HcOk.of (by have e:x.v.pureB=true:=rfl;simp[e,hcB,belBL,AV.belB,allB,okBk,okBkO,pureBL_map (v:=Lnk.v) (λ_=>rfl),pureBL,AV.pureB])⟩
def clnL_a(s:(List Lnk)):Prop:=okL [.sl 5 (s.map Lnk.v) false]
def clnL_e(r:(List Lnk)):AV:=.vec 0
def clnL_b(r:(List Lnk)):List (Option Blk):=[some (.vec 5 (r.map Lnk.v))]
def clnL_x(s:(List Lnk)):Ax Tryz.prog noS ((List Lnk)):=
 (.allB (λb1=>((s.map Lnk.v)≠[]→b1=false)) λb1 =>
(.br 48 (b1 != false) (.cmdL (.nilT 2 5) (.retH [] ⟨[(2,.k,.vec 0)],[.vec 5 [] rfl]⟩ [64]))
(.apX 80 Lnk.v [] s (0+s.length)
(.retH s ⟨[(2,.k,.vec 0)],[.vec 5 (s.map Lnk.v) (pureBL_map (λ_=>rfl) s)]⟩ [80]))))
def clnL_vc(s:(List Lnk))(r0:(List Lnk)):Prop:=(clnL_x s).vc clnL_e clnL_b r0
theorem clnL_p(s:List Lnk)(h:s.length≤1000000)(ok:clnL_a s):clnL_vc s s:=by
 dsimp only[clnL_vc,clnL_x,noS,Ax.vp,Ax.vc];simp only[vcU,rfU,List.length_map]
 intro b hb
 refine⟨λh1=>?_,λ_=>by first|omega|exact⟨by omega,trivial⟩|(trace_state;simpa using h)⟩
 cases s with
 | nil=>rfl
 | cons x s=>simp at hb;simp[hb]at h1
def clnL_h(s:(List Lnk))(h:s.length≤1000000):HC Tryz.prog:=⟨125,[(.s 5)],[.sl 5 (s.map Lnk.v) false],[],clnL_e s,clnL_b s,HSpec.of_okh λok _=>mxH_of (sh:=.k) (enc:=clnL_e) (hB:=clnL_b) (a:=(clnL_x s).an) (clnL_p s h ok) (by kernel_rfl),fnB_ok (by kernel_rfl),HcOk.of (by simp[hcB,belBL,AV.belB,allB,okBk,okBkO,clnL_e,clnL_b,pureBL_map (v:=Lnk.v) (λ_=>rfl)])⟩
def clnR_a(s:(List Rtr)):Prop:=okL [.sl 2 (s.map Rtr.v) false]
def clnR_e(r:(List Rtr)):AV:=.sl 2 (r.map Rtr.v) false
def clnR_x(s:(List Rtr)):Ax Tryz.prog noS ((List Rtr)):=
 (.allB (λb1=>((s.map Rtr.v)≠[]→b1=false)) λb1 =>
(.br 48 (b1 != false) (.ret ([]))
(.apX 80 Rtr.v [] s (0+s.length)
(.fz 80 Rtr.v s (λ_=>rfl) (.ret (s))))))
def clnR_vc(s:(List Rtr))(r0:(List Rtr)):Prop:=(clnR_x s).vp clnR_e r0
theorem clnR_p(s:List Rtr)(h:s.length≤1000000)(ok:clnR_a s):clnR_vc s s:=by
 dsimp only[clnR_vc,clnR_x,noS,Ax.vp,Ax.vc];simp only[vcU,rfU,List.length_map]
 intro b hb
 refine⟨λh1=>?_,λ_=>by first|omega|exact⟨by omega,trivial⟩|(trace_state;simpa using h)⟩
 cases s with
 | nil=>rfl
 | cons x s=>simp at hb;simp[hb]at h1
def clnR_c(s:(List Rtr))(h:s.length≤1000000):PC Tryz.prog:=⟨124,[(.s 2)],[.sl 2 (s.map Rtr.v) false],clnR_e s,PSpec.of_ok λok=>mxP_of (sh:=(.s 2)) (enc:=clnR_e) (a:=(clnR_x s).an) (clnR_p s h ok) (by kernel_rfl) (AV.pureB_ok rfl),fnB_ok (by kernel_rfl)⟩
def fndT(t:Tpl)(r:Int):Rtr×Bool:=if hitR t.rs r=true then(t.rs.getD (posR t.rs r) ⟨0,false⟩,true)else(⟨0,false⟩,false)
def fndR_a(t:Tpl)(router:Int):Prop:=okL [.agg [.sl 2 (t.rs.map Rtr.v) false,.sl 5 (t.ls.map Lnk.v) false],.int router]
def fndR_e(r:Rtr×Bool):AV:=.tup [Rtr.v r.1,.bool r.2]
def fndR_x(t:Tpl)(router:Int):Ax Tryz.prog noS (Rtr×Bool):=
 (.req 96 (t.rs.length≤1000000) λh1 =>
(.callP (bsR_c t.rs router h1)
(.br 224 (!(hitR t.rs router)) (.ret ((⟨0,false⟩:Rtr),false))
(.elI 272 Rtr.v t.rs (posR t.rs router:Int) λx2 =>
(.ret (x2,true))))))
def fndR_vc(t:Tpl)(router:Int)(r0:Rtr×Bool):Prop:=(fndR_x t router).vp fndR_e r0
theorem fndR_p(t:Tpl)(r:Int)(h:t.rs.length≤1000000)(ok:fndR_a t r):fndR_vc t r (fndT t r):=by
 dsimp only[fndR_vc,fndR_x,noS,Ax.vp,Ax.vc];simp only[vcU,rfU,List.length_map]
 unfold fndT
 refine⟨h,λc=>by rw[if_neg (by simpa using c)],λc=>?_⟩
 have c:hitR t.rs r=true:=by simpa using c
 have hp:posR t.rs r<t.rs.length:=by
  refine Classical.byContradiction λq=>?_
  unfold hitR bsH at c
  rw[List.getElem?_eq_none (by unfold posR at q;omega)]at c;cases c
 refine⟨by omega,by omega,λx hx=>?_⟩
 rw[Int.toNat_natCast]at hx
 rw[if_pos c,List.getD_eq_getElem?_getD,hx];rfl
def fndR_c(t:Tpl)(router:Int)(h:t.rs.length≤1000000):PC Tryz.prog:=⟨152,[(.a [(.s 2),(.s 5)]),.k],[.agg [.sl 2 (t.rs.map Rtr.v) false,.sl 5 (t.ls.map Lnk.v) false],.int router],fndR_e (fndT t router),PSpec.of_ok λok=>mxP_of (sh:=.k) (enc:=fndR_e) (a:=(fndR_x t router).an) (fndR_p t router h ok) (by kernel_rfl) (AV.pureB_ok rfl),fnB_ok (by kernel_rfl)⟩
def hasP_a(t:Tpl)(router:Int):Prop:=okL [.agg [.sl 2 (t.rs.map Rtr.v) false,.sl 5 (t.ls.map Lnk.v) false],.int router]
def hasP_e(r:Bool):AV:=.bool r
def hasP_x(t:Tpl)(router:Int):Ax Tryz.prog noS (Bool):=
 (.req 64 (t.rs.length≤1000000) λh1 =>
(.callP (fndR_c t router h1)
(.callP (valP_c t)
(.br 224 (valP t) (.ret ((fndT t router).2))
(.ret (false))))))
def hasP_vc(t:Tpl)(router:Int)(r0:Bool):Prop:=(hasP_x t router).vp hasP_e r0
theorem hasP_p(t:Tpl)(r:Int)(h:t.rs.length≤1000000)(ok:hasP_a t r):hasP_vc t r (hs5 t r):=by
 dsimp only[hasP_vc,hasP_x,noS,Ax.vp,Ax.vc];simp only[vcU,rfU,List.length_map]
 refine⟨h,λc=>?_,λc=>?_⟩
 ·have hc:chk5 t=0:=by unfold valP at c;exact eq_of_beq c
  have e:(fndT t r).2=hitR t.rs r:=by
   unfold fndT;split
   ·rename_i q;rw[q]
   ·rename_i q;simpa using q
  rw[e,(hitR_any (chk5_good hc).asc r).1]
  unfold hs5 has5;rw[hc];rfl
 ·unfold valP at c;unfold hs5;rw[c];rfl
def hasP_c(t:Tpl)(router:Int)(h:t.rs.length≤1000000):PC Tryz.prog:=⟨122,[(.a [(.s 2),(.s 5)]),.k],[.agg [.sl 2 (t.rs.map Rtr.v) false,.sl 5 (t.ls.map Lnk.v) false],.int router],hasP_e (hs5 t router),PSpec.of_ok λok=>mxP_of (sh:=.k) (enc:=hasP_e) (a:=(hasP_x t router).an) (hasP_p t router h ok) (by kernel_rfl) (AV.pureB_ok rfl),fnB_ok (by kernel_rfl)⟩
structure Chg where
  a:Int
  b:Int
  ca:Int
  cb:Int
  deriving DecidableEq
def Chg.v(c:Chg):AV:=.agg [.int c.a,.int c.b,.int c.ca,.int c.cb]
structure Rnk where
  r:Int
  n:Int
  deriving DecidableEq
def Rnk.v(c:Rnk):AV:=.agg [.int c.r,.int c.n]
def rmvC(c:Chg):Bool:=c.ca==0 && c.cb==0
def lnkC(c:Chg):Lnk:=if c.b<c.a then⟨c.b,c.a,c.cb,c.ca,0⟩else⟨c.a,c.b,c.ca,c.cb,0⟩
def aplT(t:Tpl)(c:Chg):Tpl×Int:=
 if ¬chk5 t=0 then(⟨[],[]⟩,1)
 else if hs5 t c.a=false∨hs5 t c.b=false then(⟨[],[]⟩,4)
 else if c.a=c.b then(⟨[],[]⟩,8)
 else if rmvC c=false∧(cst5 c.ca=false∨cst5 c.cb=false)then(⟨[],[]⟩,2)
 else if rmvC c=true∧hitL t.ls (lnkC c)=false then(⟨[],[]⟩,9)
 else if hitL t.ls (lnkC c)=false∧t.ls.length=60 then(⟨[],[]⟩,3)
 else if rmvC c=true then(⟨t.rs,delAt t.ls (posL t.ls (lnkC c))⟩,0)
 else if hitL t.ls (lnkC c)=true then(⟨t.rs,t.ls.set (posL t.ls (lnkC c)) { lnkC c with w:=(t.ls.getD (posL t.ls (lnkC c)) ⟨0,0,0,0,0⟩).w }⟩,0)
 else(⟨t.rs,insAt t.ls (posL t.ls (lnkC c)) (lnkC c)⟩,0)
theorem bsI_le{α:Type}{lt:α→Bool}{l:List α}:∀{f i j:Nat},i≤j→bsI lt l f i j≤j
 | 0,i,j,h=>h
 | f+1,i,j,h=>by
  unfold bsI
  split
  ·split
   ·split
    ·exact bsI_le (by omega)
    ·have:=@bsI_le α lt l f i ((i+j) / 2) (by omega)
     omega
   ·exact h
  ·exact h
theorem posL_le(l:List Lnk)(y:Lnk):posL l y≤l.length:=bsI_le (Nat.zero_le _)
def aplP_a(t:Tpl)(c:Chg):Prop:=okL [.agg [.sl 2 (t.rs.map Rtr.v) false,.sl 5 (t.ls.map Lnk.v) false],.agg [.int c.a,.int c.b,.int c.ca,.int c.cb]]
def aplP_n0(t:Tpl)(c:Chg)(t0:Lnk):NF:=⟨[(2,.k,.ref 0 0),(3,.k,.ref 1 0),(4,.k,.ref 2 0),(6,.k,.ref 3 0)],[.box (.agg [.sl 2 (t.rs.map Rtr.v) false,.sl 5 (t.ls.map Lnk.v) false]),.box (.agg [.int c.a,.int c.b,.int c.ca,.int c.cb]),.box (.agg [.sl 0 [] true,.sl 0 [] true]),.box (.agg [.int t0.a,.int t0.b,.int t0.ca,.int t0.cb,.int t0.w])]⟩
def aplP_n1(t:Tpl)(c:Chg)(t0:Lnk)(t1:Bool):NF:=⟨[(2,.k,.ref 0 0),(3,.k,.ref 1 0),(4,.k,.ref 2 0),(6,.k,.ref 3 0),(7,.k,.bool t1)],[.box (.agg [.sl 2 (t.rs.map Rtr.v) false,.sl 5 (t.ls.map Lnk.v) false]),.box (.agg [.int c.a,.int c.b,.int c.ca,.int c.cb]),.box (.agg [.sl 0 [] true,.sl 0 [] true]),.box (.agg [.int t0.a,.int t0.b,.int t0.ca,.int t0.cb,.int t0.w])]⟩
def aplP_n2(t:Tpl)(c:Chg)(t0:Lnk)(t1:Bool)(t2:Bool):NF:=⟨[(2,.k,.ref 0 0),(3,.k,.ref 1 0),(4,.k,.ref 2 0),(6,.k,.ref 3 0),(7,.k,.bool t1),(8,.k,.int (posL t.ls t0:Int)),(9,.k,.bool (hitL t.ls t0)),(53,.k,.bool t2)],[.box (.agg [.sl 2 (t.rs.map Rtr.v) false,.sl 5 (t.ls.map Lnk.v) false]),.box (.agg [.int c.a,.int c.b,.int c.ca,.int c.cb]),.box (.agg [.sl 0 [] true,.sl 0 [] true]),.box (.agg [.int t0.a,.int t0.b,.int t0.ca,.int t0.cb,.int t0.w])]⟩
def aplP_n3(t:Tpl)(t0:Lnk)(t1:Bool)(t3:Bool):NF:=⟨[(2,.k,.ref 0 0),(4,.k,.ref 1 0),(6,.k,.ref 2 0),(7,.k,.bool t1),(8,.k,.int (posL t.ls t0:Int)),(9,.k,.bool (hitL t.ls t0)),(74,.k,.bool t3)],[.box (.agg [.sl 2 (t.rs.map Rtr.v) false,.sl 5 (t.ls.map Lnk.v) false]),.box (.agg [.sl 0 [] true,.sl 0 [] true]),.box (.agg [.int t0.a,.int t0.b,.int t0.ca,.int t0.cb,.int t0.w])]⟩
def aplP_n4(t:Tpl)(t0:Lnk)(t1:Bool)(t4:Bool):NF:=⟨[(2,.k,.ref 0 0),(4,.k,.ref 1 0),(6,.k,.ref 2 0),(7,.k,.bool t1),(8,.k,.int (posL t.ls t0:Int)),(9,.k,.bool (hitL t.ls t0)),(90,.k,.bool t4)],[.box (.agg [.sl 2 (t.rs.map Rtr.v) false,.sl 5 (t.ls.map Lnk.v) false]),.box (.agg [.sl 0 [] true,.sl 0 [] true]),.box (.agg [.int t0.a,.int t0.b,.int t0.ca,.int t0.cb,.int t0.w])]⟩
def aplP_n5(t:Tpl)(t0:Lnk)(t1:Bool)(t5:Bool):NF:=⟨[(2,.k,.ref 0 0),(4,.k,.ref 1 0),(6,.k,.ref 2 0),(7,.k,.bool t1),(8,.k,.int (posL t.ls t0:Int)),(9,.k,.bool (hitL t.ls t0)),(97,.k,.bool t5)],[.box (.agg [.sl 2 (t.rs.map Rtr.v) false,.sl 5 (t.ls.map Lnk.v) false]),.box (.agg [.sl 0 [] true,.sl 0 [] true]),.box (.agg [.int t0.a,.int t0.b,.int t0.ca,.int t0.cb,.int t0.w])]⟩
@[reducible] def aplP_s:Nat→Type
 | 0=>Lnk
 | 1=>Bool
 | 2=>Bool
 | 3=>Bool
 | 4=>Bool
 | 5=>Bool
 | _=>Unit
def aplP_e(r:Tpl×Int):AV:=.tup [Tpl.v r.1,.int r.2]
def aplP_x(t:Tpl)(c:Chg)(I0:Lnk→Prop)(I1:Lnk→Bool→Prop)(I2:Lnk→Bool→Bool→Prop)(I3:Lnk→Bool→Bool→Bool→Prop)(I4:Lnk→Bool→Bool→Bool→Bool→Prop)(I5:Lnk→Bool→Bool→Bool→Bool→Bool→Prop):Ax Tryz.prog aplP_s (Tpl×Int):=
 (.callP (valP_c t)
(.br 112 (!(valP t)) (.ret ((⟨[],[]⟩:Tpl),1))
(.pass (.join 0 (aplP_n0 t c) (λ(t0:Lnk)=>I0 t0) (λb0=>(.br 368 (decide (c.b<c.a)) (.bk 0 b0 (((⟨c.b,c.a,c.cb,c.ca,0⟩:Lnk)):Lnk) [0,16,32,256])
(.bk 0 b0 (((⟨c.a,c.b,c.ca,c.cb,0⟩:Lnk)):Lnk) [0,16,32,256]))) λ(t0:Lnk) =>
(.join 1 (aplP_n1 t c t0) (λ(t1:Bool)=>I1 t0 t1) (λb1=>(.br 68 (c.ca==0) (.bk 1 b1 ((c.cb==0):Bool) [0,1,2,3])
(.bk 1 b1 ((false):Bool) [0,1,2,3]))) λ(t1:Bool) =>
(.req 52 (t.ls.length≤1000000) λh1 =>
(.callP (bsL_c t.ls t0 h1)
(.pass (.join 2 (aplP_n2 t c t0 t1) (λ(t2:Bool)=>I2 t0 t1 t2) (λb2=>(.req 196 (t.rs.length≤1000000) λh2 =>
(.callP (hasP_c t c.a h2)
(.br 244 (!(hs5 t c.a)) (.bk 2 b2 ((true):Bool) [0,1,2,3])
(.req 292 (t.rs.length≤1000000) λh3 =>
(.callP (hasP_c t c.b h3)
(.bk 2 b2 ((!(hs5 t c.b)):Bool) [0,1,2,3]))))))) λ(t2:Bool) =>
(.br 4 t2 (.ret ((⟨[],[]⟩:Tpl),4))
(.br 100 (c.a==c.b) (.ret ((⟨[],[]⟩:Tpl),8))
(.join 3 (aplP_n3 t t0 t1) (λ(t3:Bool)=>I3 t0 t1 t2 t3) (λb3=>(.br 148 (!t1) (.callP (inT_c c.ca 1 1000)
(.br 228 (!(inT c.ca 1 1000)) (.bk 3 b3 ((true):Bool) [0,2,3])
(.callP (inT_c c.cb 1 1000)
(.bk 3 b3 ((!(inT c.cb 1 1000)):Bool) [0,2,3]))))
(.bk 3 b3 ((false):Bool) [0,2,3]))) λ(t3:Bool) =>
(.br 3 t3 (.ret ((⟨[],[]⟩:Tpl),2))
(.join 4 (aplP_n4 t t0 t1) (λ(t4:Bool)=>I4 t0 t1 t2 t3 t4) (λb4=>(.br 35 t1 (.bk 4 b4 ((!(hitL t.ls t0)):Bool) [0,1,2])
(.bk 4 b4 ((false):Bool) [0,1,2]))) λ(t4:Bool) =>
(.br 3 t4 (.ret ((⟨[],[]⟩:Tpl),9))
(.join 5 (aplP_n5 t t0 t1) (λ(t5:Bool)=>I5 t0 t1 t2 t3 t4 t5) (λb5=>(.br 51 (!(hitL t.ls t0)) (.bk 5 b5 ((((t.ls.map Lnk.v).length:Int)==60):Bool) [0,1,2])
(.bk 5 b5 ((false):Bool) [0,1,2]))) λ(t5:Bool) =>
(.br 3 t5 (.ret ((⟨[],[]⟩:Tpl),3))
(.req 35 (t.rs.length≤1000000) λh4 =>
(.callP (clnR_c t.rs h4)
(.req 83 (t.ls.length≤1000000) λh5 =>
(.callH [] (clnL_h t.ls h5) 83
(.br 179 t1 (.req 259 ((0≤(posL t.ls t0:Int)∧(posL t.ls t0:Int)<t.ls.length)∧(W ((posL t.ls t0:Int)+1))=(posL t.ls t0:Int)+1) λh6 =>
(.req 259 (t.ls.length≤1000000) λh7 =>
(.callH [83] (delL_h t.ls (posL t.ls t0:Int) (W ((posL t.ls t0:Int)+1)) h6 h7) 259
(.fz 259 Lnk.v (delAt t.ls (Int.toNat (posL t.ls t0:Int))) (λ_=>rfl) (.ret ((⟨t.rs,delAt t.ls (Int.toNat (posL t.ls t0:Int))⟩:Tpl),0))))))
(.br 211 (hitL t.ls t0) (.elJ 291 Lnk.v t.ls (posL t.ls t0:Int) λx8 =>
(.stJ 419 Lnk.v t.ls (posL t.ls t0:Int) (λy9=>(⟨t0.a,t0.b,t0.ca,t0.cb,x8.w⟩:Lnk)) λy9 =>
(.fz 83 Lnk.v (t.ls.set ((posL t.ls t0:Int).toNat) (⟨t0.a,t0.b,t0.ca,t0.cb,x8.w⟩:Lnk)) (λ_=>rfl) (.ret ((⟨t.rs,t.ls.set ((posL t.ls t0:Int).toNat) (⟨t0.a,t0.b,t0.ca,t0.cb,x8.w⟩:Lnk)⟩:Tpl),0)))))
(.own 275 (.req 291 (0≤(posL t.ls t0:Int)∧(posL t.ls t0:Int)≤t.ls.length) λh10 =>
(.req 291 (t.ls.length≤1000000) λh11 =>
(.callH [83,275] (insL_h t.ls t0 (posL t.ls t0:Int) h10 h11) 291
(.fz 291 Lnk.v (insAt t.ls (Int.toNat (posL t.ls t0:Int)) t0) (λ_=>rfl) (.ret ((⟨t.rs,insAt t.ls (Int.toNat (posL t.ls t0:Int)) t0⟩:Tpl),0))))))))))))))))))))))))))))))
def aplP_vc(t:Tpl)(c:Chg)(I0:Lnk→Prop)(I1:Lnk→Bool→Prop)(I2:Lnk→Bool→Bool→Prop)(I3:Lnk→Bool→Bool→Bool→Prop)(I4:Lnk→Bool→Bool→Bool→Bool→Prop)(I5:Lnk→Bool→Bool→Bool→Bool→Bool→Prop)(r0:Tpl×Int):Prop:=(aplP_x t c I0 I1 I2 I3 I4 I5).vp aplP_e r0
theorem aplP_p(t:Tpl)(c:Chg)(ok:aplP_a t c):∃I0 I1 I2 I3 I4 I5,aplP_vc t c I0 I1 I2 I3 I4 I5 (aplT t c):=by
 refine⟨λl=>l=lnkC c,λl b=>l=lnkC c∧b=rmvC c,λl b u=>(l=lnkC c∧b=rmvC c)∧u=decide (hs5 t c.a=false∨hs5 t c.b=false),
  λl b _ u=>(l=lnkC c∧b=rmvC c)∧u=decide (rmvC c=false∧(cst5 c.ca=false∨cst5 c.cb=false)),
  λl b _ _ u=>(l=lnkC c∧b=rmvC c)∧u=decide (rmvC c=true∧hitL t.ls (lnkC c)=false),
  λl b _ _ _ u=>(l=lnkC c∧b=rmvC c)∧u=decide (hitL t.ls (lnkC c)=false∧t.ls.length=60),?_⟩
 simp only[aplP_a,okU,Blk.ok,plainV,List.length_map]at ok
 dsimp only[aplP_vc,aplP_x,aplP_s,Ax.vp,Ax.vc];simp only[vcU,rfU,List.length_map]
 have e1:valP t=decide (chk5 t=0):=by unfold valP;rw[Bool.eq_iff_iff];simp
 have e2:∀x,inT x 1 1000=cst5 x:=λx=>by unfold inT cst5;rfl
 rw[e1,e2,e2]
 unfold aplT
 refine⟨λq=>by rw[if_pos (by simpa using q)],λq=>?_⟩
 have q:chk5 t=0:=by simpa using q
 have hl:=(chk5_len q).1
 have hl2:=(chk5_len q).2
 rw[if_neg (by simpa using q)]
 refine⟨⟨λd=>by unfold lnkC;rw[if_pos d],λd=>by unfold lnkC;rw[if_neg d]⟩,?_⟩
 rintro _ rfl
 refine⟨⟨λd=>⟨rfl,by unfold rmvC;rw[d];rfl⟩,λd=>⟨rfl,by unfold rmvC;rw[d];rfl⟩⟩,?_⟩
 rintro _ ⟨_,rfl⟩
 refine⟨by omega,⟨by omega,λd=>⟨⟨rfl,rfl⟩,by rw[eq_comm,decide_eq_true_iff];exact .inl (by simpa using d)⟩,λd=>⟨by omega,⟨rfl,rfl⟩,by rw[Bool.eq_iff_iff,decide_eq_true_iff];simp at d ⊢;simp[d]⟩⟩,?_⟩
 rintro _ ⟨_,rfl⟩
 refine⟨λd=>by rw[if_pos (of_decide_eq_true d)],λd=>?_⟩
 rw[if_neg (of_decide_eq_false d)]
 refine⟨λd=>by rw[if_pos (eq_of_beq d)],λd=>?_⟩
 rw[if_neg (by simpa using d)]
 refine⟨⟨λd=>⟨λg=>⟨⟨rfl,rfl⟩,?_⟩,λg=>⟨⟨rfl,rfl⟩,?_⟩⟩,λd=>⟨⟨rfl,rfl⟩,?_⟩⟩,?_⟩
 ·rw[eq_comm,decide_eq_true_iff];exact⟨by simpa using d,.inl (by simpa using g)⟩
 ·rw[Bool.eq_iff_iff,decide_eq_true_iff];simp at d g ⊢;simp[d,g]
 ·rw[eq_comm,decide_eq_false_iff_not];simp at d;simp[d]
 rintro _ ⟨_,rfl⟩
 refine⟨λd=>by rw[if_pos (of_decide_eq_true d)],λd=>?_⟩
 rw[if_neg (of_decide_eq_false d)]
 refine⟨⟨λd=>⟨⟨rfl,rfl⟩,by rw[Bool.eq_iff_iff,decide_eq_true_iff];simp[d]⟩,λd=>⟨⟨rfl,rfl⟩,by rw[eq_comm,decide_eq_false_iff_not];simp[d]⟩⟩,?_⟩
 rintro _ ⟨_,rfl⟩
 refine⟨λd=>by rw[if_pos (of_decide_eq_true d)],λd9=>?_⟩
 rw[if_neg (of_decide_eq_false d9)]
 have d9:=of_decide_eq_false d9
 refine⟨⟨λd=>⟨⟨rfl,rfl⟩,?_⟩,λd=>⟨⟨rfl,rfl⟩,?_⟩⟩,?_⟩
 ·rw[Bool.eq_iff_iff,decide_eq_true_iff,beq_iff_eq];simp at d;simp[d];omega
 ·rw[eq_comm,decide_eq_false_iff_not];simp at d;simp[d]
 rintro _ ⟨_,rfl⟩
 refine⟨λd=>by rw[if_pos (of_decide_eq_true d)],λd=>?_⟩
 rw[if_neg (of_decide_eq_false d)]
 have hp:hitL t.ls (lnkC c)=true→posL t.ls (lnkC c)<t.ls.length:=λg=>by
  refine Classical.byContradiction λr=>?_
  unfold hitL bsH at g
  rw[List.getElem?_eq_none (by unfold posL at r;omega)]at g;cases g
 have hq:=posL_le t.ls (lnkC c)
 refine⟨by omega,by omega,λd=>?_,λd=>⟨λg=>?_,λg=>⟨⟨by omega,by omega⟩,by omega,?_⟩⟩⟩
 ·have g:hitL t.ls (lnkC c)=true:=by simpa[d]using d9
  have:=hp g
  refine⟨⟨⟨by omega,by omega⟩,?_⟩,by omega,?_⟩
  ·exact W_eq (by omega)
  ·rw[if_pos d,Int.toNat_natCast]
 ·have:=hp g
  have r:(bif decide (0≤(posL t.ls (lnkC c):Int))then decide ((posL t.ls (lnkC c):Int)<t.ls.length)else false)=true:=by
   rw[decide_eq_true (by omega),decide_eq_true (by omega)];rfl
  refine⟨r,by omega,λx hx=>⟨r,by omega,λy hy=>?_⟩⟩
  rw[Int.toNat_natCast]at hx
  rw[if_neg (by simp[d]),if_pos g,Int.toNat_natCast,List.getD_eq_getElem?_getD,hx]
  rfl
 ·rw[if_neg (by simp[d]),if_neg (by simp[g]),Int.toNat_natCast]
def aplP_c(t:Tpl)(c:Chg):PC Tryz.prog:=⟨91,[(.a [(.s 2),(.s 5)]),.k],[.agg [.sl 2 (t.rs.map Rtr.v) false,.sl 5 (t.ls.map Lnk.v) false],.agg [.int c.a,.int c.b,.int c.ca,.int c.cb]],aplP_e (aplT t c),PSpec.of_ok λok=>(aplP_p t c ok).elim λI0 h=>h.elim λI1 h=>h.elim λI2 h=>h.elim λI3 h=>h.elim λI4 h=>h.elim λI5 h=>mxP_of (sh:=(.a [(.a [(.s 2),(.s 5)]),.k])) (enc:=aplP_e) (a:=(aplP_x t c I0 I1 I2 I3 I4 I5).an) h (by kernel_rfl) (AV.pureB_ok rfl),fnB_ok (by kernel_rfl)⟩
def apS(s:Bool×Lnk×List Lnk)(l:Lnk):Bool×Lnk×List Lnk:=
  if l.a=s.2.1.a∧l.b=s.2.1.b then(true,{ s.2.1 with w:=l.w },s.2.2++[{ s.2.1 with w:=l.w }])
  else if s.1=false∧lnkL s.2.1 l then(true,s.2.1,s.2.2++[s.2.1]++[l])
  else(s.1,s.2.1,s.2.2++[l])
def apF(s:Bool×Lnk×List Lnk):List Lnk:=if s.1=false then s.2.2++[s.2.1]else s.2.2
theorem apS_lo{x:Lnk}:∀(l:List Lnk) (out:List Lnk),(∀y∈l,lnkL y x)→l.foldl apS (false,x,out)=(false,x,out++l)
 | [],out,_=>by simp
 | y::l,out,h=>by
  have hy:=h y (by simp)
  have e:apS (false,x,out) y=(false,x,out++[y]):=by
   unfold apS
   rw[if_neg (by unfold lnkL at hy;simp only;omega),if_neg (by unfold lnkL at hy ⊢;simp only;omega)]
  rw[List.foldl_cons,e,apS_lo l _ (λz hz=>h z (by simp[hz]))]
  simp
theorem apS_hi{x:Lnk}:∀(l:List Lnk) (out:List Lnk),(∀y∈l,lnkL x y)→l.foldl apS (true,x,out)=(true,x,out++l)
 | [],out,_=>by simp
 | y::l,out,h=>by
  have hy:=h y (by simp)
  have e:apS (true,x,out) y=(true,x,out++[y]):=by
   unfold apS
   rw[if_neg (by unfold lnkL at hy;simp only;omega),if_neg (by simp)]
  rw[List.foldl_cons,e,apS_hi l _ (λz hz=>h z (by simp[hz]))]
  simp
theorem lnkL_tr{x y z:Lnk}(h:lnkL x y)(k:lnkL y z):lnkL x z:=by unfold lnkL at *;omega
theorem posL_spec{l:List Lnk}(h:l.Pairwise lnkL)(x:Lnk):(∀k y,k<posL l x→l[k]?=some y→lnkL y x)∧(∀k y,posL l x≤k→l[k]?=some y→¬lnkL y x)∧posL l x≤l.length:=by
 obtain⟨s1,s2,s3⟩:=bsI_spec (lt:=ltLk x) (l:=l) (λa b u v hab hu hv e=>by
  have h1:=lnk_get h hab hu hv
  unfold ltLk at e ⊢
  exact decide_eq_true (lnkL_tr h1 (of_decide_eq_true e))) (f:=l.length) (i:=0) (j:=l.length) (by omega) (by omega) (Nat.le_refl _) (λk x hk=>by omega) (λk x hk hx=>by have:=lt_of_get hx;omega)
 exact⟨λk y hk hy=>of_decide_eq_true (s1 k y hk hy),λk y hk hy=>of_decide_eq_false (s2 k y hk hy),s3⟩
theorem apF_eq{l:List Lnk}(h:l.Pairwise lnkL)(x:Lnk):apF (l.foldl apS (false,x,[]))=if hitL l x=true then l.set (posL l x) { x with w:=(l.getD (posL l x) ⟨0,0,0,0,0⟩).w } else insAt l (posL l x) x:=by
  obtain⟨s1,s2,s3⟩:=posL_spec h x
  have hsplit:l=l.take (posL l x)++l.drop (posL l x):=(List.take_append_drop _ _).symm
  have htk:∀y∈l.take (posL l x),lnkL y x:=λy hy=>by
    obtain⟨j,hj,rfl⟩:=List.mem_take_iff_getElem.mp hy
    exact s1 j _ (by omega) (List.getElem?_eq_getElem (by omega))
  have hf:l.foldl apS (false,x,[])=(l.drop (posL l x)).foldl apS (false,x,l.take (posL l x)):=by
    conv=>lhs;rw[hsplit]
    rw[List.foldl_append,apS_lo _ _ htk,List.nil_append]
  have hh:hitL l x=(l[posL l x]?).any (eqLk x):=rfl
  rw[hf]
  by_cases hp:posL l x<l.length
  · have hz:l[posL l x]?=some l[posL l x]:=List.getElem?_eq_getElem hp
    have hd:l.drop (posL l x)=l[posL l x]::l.drop (posL l x+1):=List.drop_eq_getElem_cons hp
    generalize l[posL l x]=z at hz hd
    have hr:∀y∈l.drop (posL l x+1),lnkL z y:=λy hy=>by
      obtain⟨j,hj⟩:=List.mem_iff_getElem?.mp hy
      rw[List.getElem?_drop]at hj
      exact lnk_get h (by omega) hz hj
    have hnz:=s2 _ z (Nat.le_refl _) hz
    rw[hd,List.foldl_cons]
    by_cases e:z.a=x.a∧z.b=x.b
    · have hit:hitL l x=true:=by rw[hh,hz];simp[eqLk,e]
      have e1:apS (false,x,l.take (posL l x)) z=(true,{ x with w:=z.w },l.take (posL l x)++[{ x with w:=z.w }]):=by unfold apS;rw[if_pos e]
      rw[e1,apS_hi _ _ (λy hy=>by have:=hr y hy;unfold lnkL at *;simp only;omega),if_pos hit]
      unfold apF
      simp only[Bool.true_eq_false,if_false]
      rw[List.getD_eq_getElem?_getD,hz,List.set_eq_take_append_cons_drop,if_pos hp]
      simp
    · have hit:¬hitL l x=true:=by rw[hh,hz];simp[eqLk];exact λq=>λq2=>e ⟨q,q2⟩
      have hxz:lnkL x z:=by unfold lnkL at *;omega
      have e1:apS (false,x,l.take (posL l x)) z=(true,x,l.take (posL l x)++[x]++[z]):=by unfold apS;rw[if_neg e,if_pos ⟨rfl,hxz⟩]
      rw[e1,apS_hi _ _ (λy hy=>lnkL_tr hxz (hr y hy)),if_neg hit]
      unfold apF insAt
      simp only[Bool.true_eq_false,if_false]
      rw[hd];simp
  · have hp':posL l x=l.length:=by omega
    have hit:¬hitL l x=true:=by rw[hh,List.getElem?_eq_none (by omega)];simp
    rw[if_neg hit,List.drop_of_length_le (by omega)]
    unfold apF insAt
    rw[List.drop_of_length_le (show l.length≤posL l x by omega)]
    simp
theorem key_eq{y y':Lnk}(ha:y.a=y'.a)(hb:y.b=y'.b):ltLk y=ltLk y'∧eqLk y=eqLk y':=by
 constructor
 ·funext x;exact decide_eq_decide.mpr (by unfold lnkL;rw[ha,hb])
 ·funext x;exact decide_eq_decide.mpr (by rw[ha,hb])
theorem lnkC_key(c:Chg):(lnkC c).a=(lkey c.a c.b).a∧(lnkC c).b=(lkey c.a c.b).b:=by
 unfold lnkC lkey minI maxI
 by_cases h:c.b<c.a
 ·rw[if_pos h];simp only;(repeat' split)<;>omega
 ·rw[if_neg h];simp only;(repeat' split)<;>omega
theorem hit_key{t:Tpl}(hc:chk5 t=0)(c:Chg):hitL t.ls (lnkC c)=(prc5 t c.a c.b).2:=by
 rw[←(prc_key hc c.a c.b).1]
 unfold hitL
 rw[(key_eq (lnkC_key c).1 (lnkC_key c).2).1,(key_eq (lnkC_key c).1 (lnkC_key c).2).2]
theorem wit_one{t:Tpl}(hc:chk5 t=0)(c:Chg)(hit:hitL t.ls (lnkC c)=true):witT t ⟨[⟨c.a,c.b⟩],[]⟩=⟨t.rs,delAt t.ls (posL t.ls (lnkC c))⟩:=by
 have hO:=chk5_good hc
 have h:=hO.ord
 obtain⟨s1,s2,s3⟩:=posL_spec h (lnkC c)
 have hh:hitL t.ls (lnkC c)=(t.ls[posL t.ls (lnkC c)]?).any (eqLk (lnkC c)):=rfl
 have hp:posL t.ls (lnkC c)<t.ls.length:=by
  refine Classical.byContradiction λq=>?_
  rw[hh,List.getElem?_eq_none (by omega)]at hit;simp at hit
 have hz:t.ls[posL t.ls (lnkC c)]?=some t.ls[posL t.ls (lnkC c)]:=List.getElem?_eq_getElem hp
 have hd:t.ls.drop (posL t.ls (lnkC c))=t.ls[posL t.ls (lnkC c)]::t.ls.drop (posL t.ls (lnkC c)+1):=List.drop_eq_getElem_cons hp
 have hsplit:t.ls=t.ls.take (posL t.ls (lnkC c))++t.ls.drop (posL t.ls (lnkC c)):=(List.take_append_drop _ _).symm
 generalize t.ls[posL t.ls (lnkC c)]=z at hz hd
 have hzk:z.a=(lnkC c).a∧z.b=(lnkC c).b:=by rw[hh,hz]at hit;simpa[eqLk]using hit
 have hg:∀y∈t.ls,(!gone ⟨[⟨c.a,c.b⟩],[]⟩ y)=!(decide (y.a=z.a∧y.b=z.b)):=λy hy=>by
  have hlt:=hO.lt y hy
  have hzl:=hO.lt z (List.mem_of_getElem? hz)
  congr 1
  unfold gone nmd
  rw[Bool.eq_iff_iff,decide_eq_true_iff,hzk.1,hzk.2]
  unfold lnkC
  simp
  by_cases e:c.b<c.a
  ·rw[if_pos e];simp only;omega
  ·rw[if_neg e];simp only;unfold lnkC at hzk;rw[if_neg e]at hzk;simp only at hzk;omega
 unfold witT
 rw[if_pos hc]
 congr 1
 ·simp
 ·rw[List.filter_congr hg]
  conv=>lhs;rw[hsplit,hd]
  rw[List.filter_append,List.filter_cons,if_neg (by simp)]
  unfold delAt
  congr 1
  ·refine List.filter_eq_self.mpr λy hy=>?_
   obtain⟨j,hj,rfl⟩:=List.mem_take_iff_getElem.mp hy
   have:=lnk_get h (show j<posL t.ls (lnkC c) by omega) (List.getElem?_eq_getElem (by omega)) hz
   simp only[Bool.not_eq_true',decide_eq_false_iff_not]
   unfold lnkL at this;omega
  ·refine List.filter_eq_self.mpr λy hy=>?_
   obtain⟨j,hj⟩:=List.mem_iff_getElem?.mp hy
   rw[List.getElem?_drop]at hj
   have:=lnk_get h (show posL t.ls (lnkC c)<posL t.ls (lnkC c)+1+j by omega) hz hj
   simp only[Bool.not_eq_true',decide_eq_false_iff_not]
   unfold lnkL at this;omega
set_option pp.deepTerms true
set_option pp.maxSteps 100000
def apl5_a(t:Tpl)(c:Chg):Prop:=okL [.agg [.sl 2 (t.rs.map Rtr.v) false,.sl 5 (t.ls.map Lnk.v) false],.agg [.int c.a,.int c.b,.int c.ca,.int c.cb]]
def apl5_n0(t:Tpl)(c:Chg)(t0:Bool):NF:=⟨[(2,.k,.ref 0 0),(3,.k,.ref 1 0),(4,.k,.ref 2 0),(29,.k,.bool t0)],[.box (.agg [.sl 2 (t.rs.map Rtr.v) false,.sl 5 (t.ls.map Lnk.v) false]),.box (.agg [.int c.a,.int c.b,.int c.ca,.int c.cb]),.box (.agg [.sl 0 [] true,.sl 0 [] true])]⟩
def apl5_n1(t:Tpl)(c:Chg)(t1:Bool):NF:=⟨[(2,.k,.ref 0 0),(3,.k,.ref 1 0),(4,.k,.ref 2 0),(6,.k,.bool t1)],[.box (.agg [.sl 2 (t.rs.map Rtr.v) false,.sl 5 (t.ls.map Lnk.v) false]),.box (.agg [.int c.a,.int c.b,.int c.ca,.int c.cb]),.box (.agg [.sl 0 [] true,.sl 0 [] true])]⟩
def apl5_n2(t:Tpl)(c:Chg)(t2:Bool):NF:=⟨[(2,.k,.ref 0 0),(3,.k,.ref 1 0),(4,.k,.ref 2 0),(6,.k,.bool (c.cb==0)),(58,.k,.bool t2)],[.box (.agg [.sl 2 (t.rs.map Rtr.v) false,.sl 5 (t.ls.map Lnk.v) false]),.box (.agg [.int c.a,.int c.b,.int c.ca,.int c.cb]),.box (.agg [.sl 0 [] true,.sl 0 [] true])]⟩
def apl5_n3(t:Tpl)(c:Chg)(t3:Bool):NF:=⟨[(2,.k,.ref 0 0),(3,.k,.ref 1 0),(4,.k,.ref 2 0),(6,.k,.bool false),(58,.k,.bool t3)],[.box (.agg [.sl 2 (t.rs.map Rtr.v) false,.sl 5 (t.ls.map Lnk.v) false]),.box (.agg [.int c.a,.int c.b,.int c.ca,.int c.cb]),.box (.agg [.sl 0 [] true,.sl 0 [] true])]⟩
def apl5_n4(t:Tpl)(c:Chg)(t1:Bool)(t4:Bool):NF:=⟨[(2,.k,.ref 0 0),(3,.k,.ref 1 0),(4,.k,.ref 2 0),(6,.k,.bool t1),(8,.k,.bool ((prc5 t c.a c.b).2)),(73,.k,.bool t4)],[.box (.agg [.sl 2 (t.rs.map Rtr.v) false,.sl 5 (t.ls.map Lnk.v) false]),.box (.agg [.int c.a,.int c.b,.int c.ca,.int c.cb]),.box (.agg [.sl 0 [] true,.sl 0 [] true])]⟩
def apl5_n5(t:Tpl)(c:Chg)(t5:Lnk):NF:=⟨[(2,.k,.ref 0 0),(4,.k,.ref 1 0),(8,.k,.bool ((prc5 t c.a c.b).2)),(9,.k,.ref 2 0)],[.box (.agg [.sl 2 (t.rs.map Rtr.v) false,.sl 5 (t.ls.map Lnk.v) false]),.box (.agg [.sl 0 [] true,.sl 0 [] true]),.box (.agg [.int t5.a,.int t5.b,.int t5.ca,.int t5.cb,.int t5.w])]⟩
def apl5_n6(t:Tpl)(t5:Lnk)(t6:Bool):NF:=⟨[(2,.k,.ref 0 0),(4,.k,.ref 1 0),(9,.k,.ref 2 0),(115,.k,.bool t6)],[.box (.agg [.sl 2 (t.rs.map Rtr.v) false,.sl 5 (t.ls.map Lnk.v) false]),.box (.agg [.sl 0 [] true,.sl 0 [] true]),.box (.agg [.int t5.a,.int t5.b,.int t5.ca,.int t5.cb,.int t5.w])]⟩
def apl5_n7(t:Tpl)(t7:Bool×Int×Lnk×(List Lnk)):NF:=⟨[(2,.k,.ref 0 0),(4,.k,.ref 1 0),(9,.k,.ref 2 0),(10,.k,.ref 3 0),(11,.k,.bool t7.1),(12,.k,.int t7.2.1)],[.box (.agg [.sl 2 (t.rs.map Rtr.v) false,.sl 5 (t.ls.map Lnk.v) false]),.box (.agg [.sl 0 [] true,.sl 0 [] true]),.box (.agg [.int t7.2.2.1.a,.int t7.2.2.1.b,.int t7.2.2.1.ca,.int t7.2.2.1.cb,.int t7.2.2.1.w]),.box (.agg [.sl 2 (t.rs.map Rtr.v) false,.vec 4]),.vec 5 (t7.2.2.2.map Lnk.v) (pureBL_map (λ_=>rfl) t7.2.2.2)]⟩
def apl5_n8(t:Tpl)(t7:Bool×Int×Lnk×(List Lnk))(x1:Lnk)(t8:Bool):NF:=⟨[(2,.k,.ref 0 0),(4,.k,.ref 1 0),(9,.k,.ref 2 0),(10,.k,.ref 3 0),(11,.k,.bool t7.1),(12,.k,.int t7.2.1),(13,.k,.ref 5 0),(143,.k,.bool t8)],[.box (.agg [.sl 2 (t.rs.map Rtr.v) false,.sl 5 (t.ls.map Lnk.v) false]),.box (.agg [.sl 0 [] true,.sl 0 [] true]),.box (.agg [.int t7.2.2.1.a,.int t7.2.2.1.b,.int t7.2.2.1.ca,.int t7.2.2.1.cb,.int t7.2.2.1.w]),.box (.agg [.sl 2 (t.rs.map Rtr.v) false,.vec 4]),.vec 5 (t7.2.2.2.map Lnk.v) (pureBL_map (λ_=>rfl) t7.2.2.2),.box (.agg [.int x1.a,.int x1.b,.int x1.ca,.int x1.cb,.int x1.w])]⟩
def apl5_n9(t:Tpl)(t7:Bool×Int×Lnk×(List Lnk))(x1:Lnk)(t9:Bool):NF:=⟨[(2,.k,.ref 0 0),(4,.k,.ref 1 0),(9,.k,.ref 2 0),(10,.k,.ref 3 0),(11,.k,.bool t7.1),(12,.k,.int t7.2.1),(13,.k,.ref 5 0),(175,.k,.bool t9)],[.box (.agg [.sl 2 (t.rs.map Rtr.v) false,.sl 5 (t.ls.map Lnk.v) false]),.box (.agg [.sl 0 [] true,.sl 0 [] true]),.box (.agg [.int t7.2.2.1.a,.int t7.2.2.1.b,.int t7.2.2.1.ca,.int t7.2.2.1.cb,.int t7.2.2.1.w]),.box (.agg [.sl 2 (t.rs.map Rtr.v) false,.vec 4]),.vec 5 (t7.2.2.2.map Lnk.v) (pureBL_map (λ_=>rfl) t7.2.2.2),.box (.agg [.int x1.a,.int x1.b,.int x1.ca,.int x1.cb,.int x1.w])]⟩
@[reducible] def apl5_s:Nat→Type
 | 0=>Bool
 | 1=>Bool
 | 2=>Bool
 | 3=>Bool
 | 4=>Bool
 | 5=>Lnk
 | 6=>Bool
 | 7=>Bool×Int×Lnk×(List Lnk)
 | 8=>Bool
 | 9=>Bool
 | _=>Unit
def apl5_e(r:Tpl×Int):AV:=.tup [Tpl.v r.1,.int r.2]
def apl5_x(t:Tpl)(c:Chg)(I0:Bool→Prop)(I1:Bool→Bool→Prop)(I2:Bool→Bool→Prop)(I3:Bool→Bool→Prop)(I4:Bool→Bool→Bool→Prop)(I5:Bool→Bool→Bool→Lnk→Prop)(I6:Bool→Bool→Bool→Lnk→Bool→Prop)(I7:Bool→Bool→Bool→Lnk→Bool→(Bool×Int×Lnk×(List Lnk))→Prop)(m7:Bool→Bool→Bool→Lnk→Bool→(Bool×Int×Lnk×(List Lnk))→Nat)(I8:Bool→Bool→Bool→Lnk→Bool→Bool×Int×Lnk×(List Lnk)→Lnk→Bool→Prop)(I9:Bool→Bool→Bool→Lnk→Bool→Bool×Int×Lnk×(List Lnk)→Lnk→Bool→Bool→Prop):Ax Tryz.prog apl5_s (Tpl×Int):=
 (.callP (chk5_c t)
(.br 112 ((chk5 t) != 0) (.ret ((⟨[],[]⟩:Tpl),1))
(.pass (.join 0 (apl5_n0 t c) (λ(t0:Bool)=>I0 t0) (λb0=>(.callP (has5_c t c.a)
(.br 208 (!(has5 t c.a)) (.bk 0 b0 ((true):Bool) [0,16,32])
(.callP (has5_c t c.b)
(.bk 0 b0 ((!(has5 t c.b)):Bool) [0,16,32]))))) λ(t0:Bool) =>
(.br 3 t0 (.ret ((⟨[],[]⟩:Tpl),4))
(.br 83 (c.a==c.b) (.ret ((⟨[],[]⟩:Tpl),8))
(.join2 1 (apl5_n1 t c) (λ(t1:Bool)=>I1 t0 t1) (λb1=>(.br 147 (c.ca==0) (.join 2 (apl5_n2 t c) (λ(t2:Bool)=>I2 t0 t2) (λb2=>(.br 275 (!(c.cb==0)) (.callP (cst5_c c.ca)
(.br 355 (!(cst5 c.ca)) (.bk 2 b2 ((true):Bool) [0,1,2])
(.callP (cst5_c c.cb)
(.bk 2 b2 ((!(cst5 c.cb)):Bool) [0,1,2]))))
(.bk 2 b2 ((false):Bool) [0,1,2]))) λ(t2:Bool) =>
(.br 3 t2 (.ret ((⟨[],[]⟩:Tpl),2))
(.bk 1 b1 ((c.cb==0):Bool) [0,1,2])))
(.join 3 (apl5_n3 t c) (λ(t3:Bool)=>I3 t0 t3) (λb3=>(.callP (cst5_c c.ca)
(.br 355 (!(cst5 c.ca)) (.bk 3 b3 ((true):Bool) [0,1,2])
(.callP (cst5_c c.cb)
(.bk 3 b3 ((!(cst5 c.cb)):Bool) [0,1,2]))))) λ(t3:Bool) =>
(.br 3 t3 (.ret ((⟨[],[]⟩:Tpl),2))
(.bk 1 b1 ((false):Bool) [0,1,2]))))) λ(t1:Bool) =>
(.callP (prc5_c t c.a c.b)
(.pass (.join 4 (apl5_n4 t c t1) (λ(t4:Bool)=>I4 t0 t1 t4) (λb4=>(.br 211 t1 (.bk 4 b4 ((!((prc5 t c.a c.b).2)):Bool) [0,1,2])
(.bk 4 b4 ((false):Bool) [0,1,2]))) λ(t4:Bool) =>
(.br 3 t4 (.ret ((⟨[],[]⟩:Tpl),9))
(.br 19 t1 (.callP (witR_c t (⟨[(⟨c.a,c.b⟩:Hop)],[]⟩:Flr))
(.ret (witT t (⟨[(⟨c.a,c.b⟩:Hop)],[]⟩:Flr),0)))
(.pass (.join 5 (apl5_n5 t c) (λ(t5:Lnk)=>I5 t0 t1 t4 t5) (λb5=>(.br 275 (decide (c.b<c.a)) (.bk 5 b5 (((⟨c.b,c.a,c.cb,c.ca,0⟩:Lnk)):Lnk) [0,2,163])
(.bk 5 b5 (((⟨c.a,c.b,c.ca,c.cb,0⟩:Lnk)):Lnk) [0,2,163]))) λ(t5:Lnk) =>
(.pass (.join 6 (apl5_n6 t t5) (λ(t6:Bool)=>I6 t0 t1 t4 t5 t6) (λb6=>(.br 51 (!((prc5 t c.a c.b).2)) (.bk 6 b6 ((((t.ls.map Lnk.v).length:Int)==60):Bool) [0,1,2])
(.bk 6 b6 ((false):Bool) [0,1,2]))) λ(t6:Bool) =>
(.br 3 t6 (.ret ((⟨[],[]⟩:Tpl),3))
(.cmdL (.nilB 51 1 5) (.loop 7 (apl5_n7 t) (I7 t0 t1 t4 t5 t6) (m7 t0 t1 t4 t5 t6) (false,0,t5,[]) [0,1,2,51,115] λ(t7:Bool×Int×Lnk×(List Lnk)) b7 =>
(.br 85 (decide (t7.2.1<((t.ls.map Lnk.v).length:Int))) (.elI 133 Lnk.v t.ls t7.2.1 λx1 =>
(.pass (.join 8 (apl5_n8 t t7 x1) (λ(t8:Bool)=>I8 t0 t1 t4 t5 t6 t7 x1 t8) (λb8=>(.br 293 (x1.a==t7.2.2.1.a) (.bk 8 b8 ((x1.b==t7.2.2.1.b):Bool) [0,1,2,3,4,165])
(.bk 8 b8 ((false):Bool) [0,1,2,3,4,165]))) λ(t8:Bool) =>
(.br 6 t8 (.apX 134 Lnk.v t7.2.2.2 [(⟨t7.2.2.1.a,t7.2.2.1.b,t7.2.2.1.ca,t7.2.2.1.cb,x1.w⟩:Lnk)] (t7.2.2.2.length+1)
(.bk 7 b7 (true,W (t7.2.1+1),(⟨t7.2.2.1.a,t7.2.2.1.b,t7.2.2.1.ca,t7.2.2.1.cb,x1.w⟩:Lnk),t7.2.2.2++[(⟨t7.2.2.1.a,t7.2.2.1.b,t7.2.2.1.ca,t7.2.2.1.cb,x1.w⟩:Lnk)]) [0,1,2,3,134]))
(.pass (.join 9 (apl5_n9 t t7 x1) (λ(t9:Bool)=>I9 t0 t1 t4 t5 t6 t7 x1 t8 t9) (λb9=>(.br 54 (!t7.1) (.br 150 (decide (t7.2.2.1.a<x1.a)) (.bk 9 b9 ((true):Bool) [0,1,2,3,4,5])
(.br 246 (t7.2.2.1.a==x1.a) (.bk 9 b9 ((decide (t7.2.2.1.b<x1.b)):Bool) [0,1,2,3,4,5])
(.bk 9 b9 ((false):Bool) [0,1,2,3,4,5])))
(.bk 9 b9 ((false):Bool) [0,1,2,3,4,5]))) λ(t9:Bool) =>
(.br 6 t9 (.apX 70 Lnk.v t7.2.2.2 [t7.2.2.1] (t7.2.2.2.length+1)
(.apX 198 Lnk.v (t7.2.2.2++[t7.2.2.1]) [x1] ((t7.2.2.2++[t7.2.2.1]).length+1)
(.bk 7 b7 (true,W (t7.2.1+1),t7.2.2.1,(t7.2.2.2++[t7.2.2.1])++[x1]) [0,1,2,3,198])))
(.apX 70 Lnk.v t7.2.2.2 [x1] (t7.2.2.2.length+1)
(.bk 7 b7 (t7.1,W (t7.2.1+1),t7.2.2.1,t7.2.2.2++[x1]) [0,1,2,3,70])))))))))
(.br 117 (!t7.1) (.apX 181 Lnk.v t7.2.2.2 [t7.2.2.1] (t7.2.2.2.length+1)
(.fz 181 Lnk.v (t7.2.2.2++[t7.2.2.1]) (λ_=>rfl) (.ret ((⟨t.rs,t7.2.2.2++[t7.2.2.1]⟩:Tpl),0))))
(.fz 4 Lnk.v t7.2.2.2 (λ_=>rfl) (.ret ((⟨t.rs,t7.2.2.2⟩:Tpl),0))))))))))))))))))))))))
def apl5_vc(t:Tpl)(c:Chg)(I0:Bool→Prop)(I1:Bool→Bool→Prop)(I2:Bool→Bool→Prop)(I3:Bool→Bool→Prop)(I4:Bool→Bool→Bool→Prop)(I5:Bool→Bool→Bool→Lnk→Prop)(I6:Bool→Bool→Bool→Lnk→Bool→Prop)(I7:Bool→Bool→Bool→Lnk→Bool→(Bool×Int×Lnk×(List Lnk))→Prop)(m7:Bool→Bool→Bool→Lnk→Bool→(Bool×Int×Lnk×(List Lnk))→Nat)(I8:Bool→Bool→Bool→Lnk→Bool→Bool×Int×Lnk×(List Lnk)→Lnk→Bool→Prop)(I9:Bool→Bool→Bool→Lnk→Bool→Bool×Int×Lnk×(List Lnk)→Lnk→Bool→Bool→Prop)(r0:Tpl×Int):Prop:=(apl5_x t c I0 I1 I2 I3 I4 I5 I6 I7 m7 I8 I9).vp apl5_e r0
abbrev rgeC(c:Chg):Prop:=rmvC c=false∧(cst5 c.ca=false∨cst5 c.cb=false)
theorem apS_len:∀(l:List Lnk) (s:Bool×Lnk×List Lnk),(l.foldl apS s).2.2.length≤s.2.2.length+2 * l.length
 | [],s=>by simp
 | y::l,s=>by
  have h1:=apS_len l (apS s y)
  have h2:(apS s y).2.2.length≤s.2.2.length+2:=by
   unfold apS;split
   ·simp
   ·split<;>simp
  rw[List.foldl_cons,List.length_cons];omega
theorem apl5_p(t:Tpl)(c:Chg)(ok:apl5_a t c):∃I0 I1 I2 I3 I4 I5 I6 I7 m7 I8 I9,apl5_vc t c I0 I1 I2 I3 I4 I5 I6 I7 m7 I8 I9 (aplT t c):=by
 refine⟨λb=>b=decide (hs5 t c.a=false∨hs5 t c.b=false),λ_ b=>b=rmvC c∧¬rgeC c,λ_ b=>b=decide (rgeC c),λ_ b=>b=decide (rgeC c),
  λ_ g b=>(g=rmvC c∧¬rgeC c)∧b=decide (rmvC c=true∧hitL t.ls (lnkC c)=false),λ_ g _ x=>x=lnkC c,λ_ _ _ x b=>b=decide (hitL t.ls (lnkC c)=false∧t.ls.length=60),
  λ_ _ _ _ _ s=>∃k:Nat,s.2.1=k∧k≤t.ls.length∧(t.ls.take k).foldl apS (false,lnkC c,[])=(s.1,s.2.2.1,s.2.2.2),λ_ _ _ _ _ s=>t.ls.length-s.2.1.toNat,
  λ_ _ _ _ _ s x b=>b=decide (x.a=s.2.2.1.a∧x.b=s.2.2.1.b),λ_ _ _ _ _ s x _ b=>b=decide (s.1=false∧lnkL s.2.2.1 x),?_⟩
 simp only[apl5_a,okU,Blk.ok,plainV,List.length_map]at ok
 dsimp only[apl5_vc,apl5_x,apl5_s,Ax.vp,Ax.vc];simp only[vcU,rfU,List.length_map]
 unfold aplT
 refine⟨λq=>by rw[if_pos (by simpa using q)],λq=>?_⟩
 have q:chk5 t=0:=by simpa using q
 have hh:∀r,has5 t r=hs5 t r:=λr=>by unfold hs5;rw[q];rfl
 have hl2:=(chk5_len q).2
 have hO:=chk5_good q
 rw[if_neg (by simpa using q),hh,hh,←hit_key q c]
 refine⟨⟨λd=>by rw[eq_comm,decide_eq_true_iff];exact .inl (by simpa using d),λd=>by rw[Bool.eq_iff_iff,decide_eq_true_iff];simp at d ⊢;simp[d]⟩,?_⟩
 rintro _ rfl
 refine⟨λd=>by rw[if_pos (of_decide_eq_true d)],λd=>?_⟩
 rw[if_neg (of_decide_eq_false d)]
 refine⟨λd=>by rw[if_pos (eq_of_beq d)],λd=>?_⟩
 rw[if_neg (by simpa using d)]
 refine⟨⟨λe=>⟨⟨λe2=>⟨λg=>?_,λg=>?_⟩,λe2=>?_⟩,?_⟩,λe=>⟨⟨λg=>?_,λg=>?_⟩,?_⟩⟩,?_⟩
 ·rw[eq_comm,decide_eq_true_iff];exact⟨by unfold rmvC;simp at e2;simp[e2],.inl (by simpa using g)⟩
 ·rw[Bool.eq_iff_iff,decide_eq_true_iff];unfold rgeC rmvC;simp at e2 g ⊢;simp[e2,g]
 ·rw[eq_comm,decide_eq_false_iff_not];unfold rgeC rmvC;simp at e e2 ⊢;simp[e,e2]
 ·rintro _ rfl
  exact⟨λg=>by rw[if_pos (of_decide_eq_true g)],λg=>⟨by unfold rmvC;rw[e];rfl,of_decide_eq_false g⟩⟩
 ·rw[eq_comm,decide_eq_true_iff];exact⟨by unfold rmvC;rw[e];rfl,.inl (by simpa using g)⟩
 ·rw[Bool.eq_iff_iff,decide_eq_true_iff];unfold rgeC rmvC;simp at e g ⊢;simp[e,g]
 ·rintro _ rfl
  exact⟨λg=>by rw[if_pos (of_decide_eq_true g)],λg=>⟨by unfold rmvC;rw[e];rfl,of_decide_eq_false g⟩⟩
 rintro _ ⟨rfl,hr⟩
 rw[if_neg hr]
 refine⟨⟨λe=>⟨⟨rfl,hr⟩,by rw[Bool.eq_iff_iff,decide_eq_true_iff];simp[e]⟩,λe=>⟨⟨rfl,hr⟩,by rw[eq_comm,decide_eq_false_iff_not];simp[e]⟩⟩,?_⟩
 rintro _ ⟨_,rfl⟩
 refine⟨λg=>by rw[if_pos (of_decide_eq_true g)],λg9=>?_⟩
 have g9:=of_decide_eq_false g9
 rw[if_neg g9]
 refine⟨λe=>?_,λe=>⟨⟨λg=>by unfold lnkC;rw[if_pos g],λg=>by unfold lnkC;rw[if_neg g]⟩,?_⟩⟩
 ·have hit:hitL t.ls (lnkC c)=true:=by simpa[e]using g9
  rw[if_neg (by simp[hit]),if_pos e,wit_one q c hit]
 rintro _ rfl
 refine⟨⟨λg=>?_,λg=>?_⟩,?_⟩
 ·rw[Bool.eq_iff_iff,decide_eq_true_iff,beq_iff_eq];simp at g;simp[g];omega
 ·rw[eq_comm,decide_eq_false_iff_not];simp at g;simp[g]
 rintro _ rfl
 refine⟨λg=>by rw[if_pos (of_decide_eq_true g)],λg=>?_⟩
 rw[if_neg (of_decide_eq_false g),if_neg (by simp[e])]
 refine⟨⟨0,rfl,by omega,rfl⟩,?_⟩
 rintro⟨dn,_,x,out⟩ ⟨k,rfl,hk,hF⟩
 simp only at hF ⊢
 have hlen:=apS_len (t.ls.take k) (false,lnkC c,[])
 rw[hF,List.length_take]at hlen
 simp only[List.length_nil]at hlen
 refine⟨λg=>⟨by omega,g,λy hy=>?_⟩,λg=>?_⟩
 ·rw[Int.toNat_natCast]at hy
  have hs:(t.ls.take (k+1)).foldl apS (false,lnkC c,[])=apS (dn,x,out) y:=by rw[take_succ hy,List.foldl_append,hF];rfl
  have w:W ((k:Int)+1)=((k+1:Nat):Int):=W_succ (n:=t.ls.length) (by omega) (by omega)
  rw[w]
  refine⟨⟨λa=>by rw[Bool.eq_iff_iff,beq_iff_eq,decide_eq_true_iff];simp at a;simp[a],λa=>by simp at a;simp[a]⟩,?_⟩
  rintro _ rfl
  refine⟨λa=>⟨by omega,⟨k+1,rfl,by omega,?_⟩,by omega⟩,λa=>⟨⟨λb=>⟨λg1=>?_,λg1=>⟨λg2=>?_,λg2=>?_⟩⟩,λb=>?_⟩,?_⟩⟩
  ·rw[hs];unfold apS;rw[if_pos (of_decide_eq_true a)]
  ·rw[eq_comm,decide_eq_true_iff];exact⟨by simpa using b,.inl g1⟩
  ·rw[decide_eq_decide];simp at b g2;unfold lnkL;simp[b,g2]
  ·rw[eq_comm,decide_eq_false_iff_not];simp at g2;unfold lnkL;rintro⟨_,h|h⟩<;>omega
  ·rw[eq_comm,decide_eq_false_iff_not];simp at b;simp[b]
  rintro _ rfl
  have a':=of_decide_eq_false a
  refine⟨λb=>⟨by omega,by simp;omega,⟨k+1,rfl,by omega,?_⟩,by omega⟩,λb=>⟨by omega,⟨k+1,rfl,by omega,?_⟩,by omega⟩⟩
  ·rw[hs];unfold apS;rw[if_neg a',if_pos (of_decide_eq_true b)]
  ·rw[hs];unfold apS;rw[if_neg a',if_neg (of_decide_eq_false b)]
 ·have hfin:=apF_eq hO.ord (lnkC c)
  rw[List.take_of_length_le (by omega)]at hF
  rw[hF]at hfin
  unfold apF at hfin
  refine⟨λa=>⟨by omega,?_⟩,λa=>?_⟩
  ·have a:dn=false:=by simpa using a
   subst a
   simp only[if_true]at hfin
   rw[hfin];split<;>rfl
  ·have a:dn=true:=by simpa using a
   subst a
   simp only[Bool.true_eq_false,if_false]at hfin
   rw[hfin];split<;>rfl
def apl5_c(t:Tpl)(c:Chg):PC Tryz.prog:=⟨32,[(.a [(.s 2),(.s 5)]),.k],[.agg [.sl 2 (t.rs.map Rtr.v) false,.sl 5 (t.ls.map Lnk.v) false],.agg [.int c.a,.int c.b,.int c.ca,.int c.cb]],apl5_e (aplT t c),PSpec.of_ok λok=>(apl5_p t c ok).elim λI0 h=>h.elim λI1 h=>h.elim λI2 h=>h.elim λI3 h=>h.elim λI4 h=>h.elim λI5 h=>h.elim λI6 h=>h.elim λI7 h=>h.elim λm7 h=>h.elim λI8 h=>h.elim λI9 h=>mxP_of (sh:=(.a [(.a [(.s 2),(.s 5)]),.k])) (enc:=apl5_e) (a:=(apl5_x t c I0 I1 I2 I3 I4 I5 I6 I7 m7 I8 I9).an) h (by kernel_rfl) (AV.pureB_ok rfl),fnB_ok (by kernel_rfl)⟩
def upH(t t':Tpl)(h:Hop):Bool:=(cos5 t h.a h.b).2 && (!(cos5 t' h.a h.b).2 || decide ((cos5 t h.a h.b).1<(cos5 t' h.a h.b).1))
def dnH(t t':Tpl)(h:Hop):Bool:=(cos5 t' h.a h.b).2 && (!(cos5 t h.a h.b).2 || decide ((cos5 t' h.a h.b).1<(cos5 t h.a h.b).1))
def chH(t t':Tpl)(h:Hop):Bool:=((cos5 t h.a h.b).2 != (cos5 t' h.a h.b).2) || ((cos5 t' h.a h.b).1 != (cos5 t h.a h.b).1)
def hopsC(c:Chg):List Hop:=[⟨c.a,c.b⟩,⟨c.b,c.a⟩]
def redT(t:Tpl)(c:Chg):Int×Tpl×List Hop×Int:=
 if ¬(aplT t c).2=0 then(0,⟨[],[]⟩,[],(aplT t c).2)
 else if(hopsC c).any (upH t (aplT t c).1)=true∧(hopsC c).any (dnH t (aplT t c).1)=true then(0,⟨[],[]⟩,[],8)
 else if(hopsC c).any (dnH t (aplT t c).1)=true then(2,(aplT t c).1,(hopsC c).filter (chH t (aplT t c).1),0)
 else(1,t,(hopsC c).filter (chH t (aplT t c).1),0)
def redP_a(t:Tpl)(c:Chg):Prop:=okL [.agg [.sl 2 (t.rs.map Rtr.v) false,.sl 5 (t.ls.map Lnk.v) false],.agg [.int c.a,.int c.b,.int c.ca,.int c.cb]]
def redP_n0(t:Tpl)(c:Chg)(t0:Bool×Bool×Int×(List Hop)):NF:=⟨[(2,.k,.ref 0 0),(5,.k,.ref 1 0),(6,.k,.vec 2),(8,.k,.ref 3 0),(9,.k,.bool t0.1),(10,.k,.bool t0.2.1),(37,.k,.sl 2 [.agg [.int c.a,.int c.b],.agg [.int c.b,.int c.a]] true),(38,.k,.int 2),(39,.k,.int t0.2.2.1)],[.box (.agg [.sl 2 (t.rs.map Rtr.v) false,.sl 5 (t.ls.map Lnk.v) false]),.box (.agg [.sl 0 [] true,.sl 0 [] true]),.vec 2 (t0.2.2.2.map Hop.v) (pureBL_map (λ_=>rfl) t0.2.2.2),.box (.agg [.sl 2 ((((aplT t c).1).rs).map Rtr.v) false,.sl 5 ((((aplT t c).1).ls).map Lnk.v) false])]⟩
def redP_n1(t:Tpl)(c:Chg)(t0:Bool×Bool×Int×(List Hop))(x1:Hop)(t1:Bool):NF:=⟨[(2,.k,.ref 0 0),(5,.k,.ref 1 0),(6,.k,.vec 2),(8,.k,.ref 3 0),(9,.k,.bool t1),(10,.k,.bool t0.2.1),(12,.k,.ref 4 0),(13,.k,.int ((cos5 t x1.a x1.b).1)),(14,.k,.bool ((cos5 t x1.a x1.b).2)),(15,.k,.int ((cos5 ((aplT t c).1) x1.a x1.b).1)),(16,.k,.bool ((cos5 ((aplT t c).1) x1.a x1.b).2)),(37,.k,.sl 2 [.agg [.int c.a,.int c.b],.agg [.int c.b,.int c.a]] true),(38,.k,.int 2),(39,.k,.int t0.2.2.1)],[.box (.agg [.sl 2 (t.rs.map Rtr.v) false,.sl 5 (t.ls.map Lnk.v) false]),.box (.agg [.sl 0 [] true,.sl 0 [] true]),.vec 2 (t0.2.2.2.map Hop.v) (pureBL_map (λ_=>rfl) t0.2.2.2),.box (.agg [.sl 2 ((((aplT t c).1).rs).map Rtr.v) false,.sl 5 ((((aplT t c).1).ls).map Lnk.v) false]),.box (.agg [.int x1.a,.int x1.b])]⟩
def redP_n2(t:Tpl)(c:Chg)(t0:Bool×Bool×Int×(List Hop))(x1:Hop)(t1:Bool)(t2:Bool):NF:=⟨[(2,.k,.ref 0 0),(5,.k,.ref 1 0),(6,.k,.vec 2),(8,.k,.ref 3 0),(9,.k,.bool t1),(10,.k,.bool t2),(12,.k,.ref 4 0),(13,.k,.int ((cos5 t x1.a x1.b).1)),(14,.k,.bool ((cos5 t x1.a x1.b).2)),(15,.k,.int ((cos5 ((aplT t c).1) x1.a x1.b).1)),(16,.k,.bool ((cos5 ((aplT t c).1) x1.a x1.b).2)),(37,.k,.sl 2 [.agg [.int c.a,.int c.b],.agg [.int c.b,.int c.a]] true),(38,.k,.int 2),(39,.k,.int t0.2.2.1)],[.box (.agg [.sl 2 (t.rs.map Rtr.v) false,.sl 5 (t.ls.map Lnk.v) false]),.box (.agg [.sl 0 [] true,.sl 0 [] true]),.vec 2 (t0.2.2.2.map Hop.v) (pureBL_map (λ_=>rfl) t0.2.2.2),.box (.agg [.sl 2 ((((aplT t c).1).rs).map Rtr.v) false,.sl 5 ((((aplT t c).1).ls).map Lnk.v) false]),.box (.agg [.int x1.a,.int x1.b])]⟩
def redP_n3(t:Tpl)(c:Chg)(t0:Bool×Bool×Int×(List Hop))(x1:Hop)(t1:Bool)(t2:Bool)(t3:Bool):NF:=⟨[(2,.k,.ref 0 0),(5,.k,.ref 1 0),(6,.k,.vec 2),(8,.k,.ref 3 0),(9,.k,.bool t1),(10,.k,.bool t2),(12,.k,.ref 4 0),(37,.k,.sl 2 [.agg [.int c.a,.int c.b],.agg [.int c.b,.int c.a]] true),(38,.k,.int 2),(39,.k,.int t0.2.2.1),(94,.k,.bool t3)],[.box (.agg [.sl 2 (t.rs.map Rtr.v) false,.sl 5 (t.ls.map Lnk.v) false]),.box (.agg [.sl 0 [] true,.sl 0 [] true]),.vec 2 (t0.2.2.2.map Hop.v) (pureBL_map (λ_=>rfl) t0.2.2.2),.box (.agg [.sl 2 ((((aplT t c).1).rs).map Rtr.v) false,.sl 5 ((((aplT t c).1).ls).map Lnk.v) false]),.box (.agg [.int x1.a,.int x1.b])]⟩
def redP_n4(t:Tpl)(c:Chg)(t0:Bool×Bool×Int×(List Hop))(t4:Bool):NF:=⟨[(2,.k,.ref 0 0),(5,.k,.ref 1 0),(6,.k,.vec 2),(8,.k,.ref 3 0),(10,.k,.bool t0.2.1),(100,.k,.bool t4)],[.box (.agg [.sl 2 (t.rs.map Rtr.v) false,.sl 5 (t.ls.map Lnk.v) false]),.box (.agg [.sl 0 [] true,.sl 0 [] true]),.vec 2 (t0.2.2.2.map Hop.v) (pureBL_map (λ_=>rfl) t0.2.2.2),.box (.agg [.sl 2 ((((aplT t c).1).rs).map Rtr.v) false,.sl 5 ((((aplT t c).1).ls).map Lnk.v) false])]⟩
@[reducible] def redP_s:Nat→Type
 | 0=>Bool×Bool×Int×(List Hop)
 | 1=>Bool
 | 2=>Bool
 | 3=>Bool
 | 4=>Bool
 | _=>Unit
def redP_e(r:Int×Tpl×(List Hop)×Int):AV:=.tup [.int r.1,Tpl.v r.2.1,.sl 2 (r.2.2.1.map Hop.v) false,.int r.2.2.2]
def redP_x(t:Tpl)(c:Chg)(I0:(Bool×Bool×Int×(List Hop))→Prop)(m0:(Bool×Bool×Int×(List Hop))→Nat)(I1:Bool×Bool×Int×(List Hop)→Hop→Bool→Prop)(I2:Bool×Bool×Int×(List Hop)→Hop→Bool→Bool→Prop)(I3:Bool×Bool×Int×(List Hop)→Hop→Bool→Bool→Bool→Prop)(I4:Bool×Bool×Int×(List Hop)→Bool→Prop):Ax Tryz.prog redP_s (Int×Tpl×(List Hop)×Int):=
 (.callP (aplP_c t c)
(.br 272 (((aplT t c).2) != 0) (.ret (0,(⟨[],[]⟩:Tpl),[],(aplT t c).2))
(.cmdL (.nilT 6 2) (.loop 0 (redP_n0 t c) I0 m0 (false,false,0,[]) [0,48,512,192] λ(t0:Bool×Bool×Int×(List Hop)) b0 =>
(.br 20 (decide (t0.2.2.1<2)) (.el 20 Hop.v [(⟨c.a,c.b⟩:Hop),(⟨c.b,c.a⟩:Hop)] (λR=>Rf (α:=List AV) [.agg [.int c.a,.int c.b],.agg [.int c.b,.int c.a]] (ck (decide (0≤t0.2.2.1)) (ck (decide (t0.2.2.1<([(⟨c.a,c.b⟩:Hop),(⟨c.b,c.a⟩:Hop)].length:Int)))
(∀x1,[(⟨c.a,c.b⟩:Hop),(⟨c.b,c.a⟩:Hop)][t0.2.2.1.toNat]?=some x1 →
(R x1))))) λx1 =>
(.callP (cosP_c t x1.a x1.b)
(.callP (cosP_c ((aplT t c).1) x1.a x1.b)
(.join 1 (redP_n1 t c t0 x1) (λ(t1:Bool)=>I1 t0 x1 t1) (λb1=>(.br 468 t0.1 (.bk 1 b1 ((true):Bool) [0,1,2,3,52])
(.br 500 ((cos5 t x1.a x1.b).2) (.br 548 (!((cos5 ((aplT t c).1) x1.a x1.b).2)) (.bk 1 b1 ((true):Bool) [0,1,2,3,52])
(.bk 1 b1 ((decide (((cos5 t x1.a x1.b).1)<((cos5 ((aplT t c).1) x1.a x1.b).1))):Bool) [0,1,2,3,52]))
(.bk 1 b1 ((false):Bool) [0,1,2,3,52])))) λ(t1:Bool) =>
(.join 2 (redP_n2 t c t0 x1 t1) (λ(t2:Bool)=>I2 t0 x1 t1 t2) (λb2=>(.br 37 t0.2.1 (.bk 2 b2 ((true):Bool) [0,1,2,3,4])
(.br 69 ((cos5 ((aplT t c).1) x1.a x1.b).2) (.br 117 (!((cos5 t x1.a x1.b).2)) (.bk 2 b2 ((true):Bool) [0,1,2,3,4])
(.bk 2 b2 ((decide (((cos5 ((aplT t c).1) x1.a x1.b).1)<((cos5 t x1.a x1.b).1))):Bool) [0,1,2,3,4]))
(.bk 2 b2 ((false):Bool) [0,1,2,3,4])))) λ(t2:Bool) =>
(.join 3 (redP_n3 t c t0 x1 t1 t2) (λ(t3:Bool)=>I3 t0 x1 t1 t2 t3) (λb3=>(.br 69 (!(((cos5 t x1.a x1.b).2)==((cos5 ((aplT t c).1) x1.a x1.b).2))) (.bk 3 b3 ((true):Bool) [0,1,2,3,4])
(.bk 3 b3 ((((cos5 ((aplT t c).1) x1.a x1.b).1) != ((cos5 t x1.a x1.b).1)):Bool) [0,1,2,3,4]))) λ(t3:Bool) =>
(.br 5 t3 (.apX 53 Hop.v t0.2.2.2 [x1] (t0.2.2.2.length+1)
(.bk 0 b0 (t1,t2,W (t0.2.2.1+1),t0.2.2.2++[x1]) [0,1,53,3]))
(.bk 0 b0 (t1,t2,W (t0.2.2.1+1),t0.2.2.2) [0,1,2,3]))))))))
(.pass (.join 4 (redP_n4 t c t0) (λ(t4:Bool)=>I4 t0 t4) (λb4=>(.br 52 t0.1 (.bk 4 b4 ((t0.2.1):Bool) [0,1,2,3])
(.bk 4 b4 ((false):Bool) [0,1,2,3]))) λ(t4:Bool) =>
(.br 4 t4 (.ret (0,(⟨[],[]⟩:Tpl),[],8))
(.br 36 t0.2.1 (.fz 2 Hop.v t0.2.2.2 (λ_=>rfl) (.ret (2,(aplT t c).1,t0.2.2.2,0)))
(.fz 2 Hop.v t0.2.2.2 (λ_=>rfl) (.ret (1,t,t0.2.2.2,0))))))))))))
def redP_vc(t:Tpl)(c:Chg)(I0:(Bool×Bool×Int×(List Hop))→Prop)(m0:(Bool×Bool×Int×(List Hop))→Nat)(I1:Bool×Bool×Int×(List Hop)→Hop→Bool→Prop)(I2:Bool×Bool×Int×(List Hop)→Hop→Bool→Bool→Prop)(I3:Bool×Bool×Int×(List Hop)→Hop→Bool→Bool→Bool→Prop)(I4:Bool×Bool×Int×(List Hop)→Bool→Prop)(r0:Int×Tpl×(List Hop)×Int):Prop:=(redP_x t c I0 m0 I1 I2 I3 I4).vp redP_e r0
def RedI(t t':Tpl)(l:List Hop)(s:Bool×Bool×Int×List Hop):Prop:=∃k:Nat,s.2.2.1=k∧k≤l.length∧s.1=(l.take k).any (upH t t')∧s.2.1=(l.take k).any (dnH t t')∧s.2.2.2=(l.take k).filter (chH t t')
theorem redP_p(t:Tpl)(c:Chg)(ok:redP_a t c):∃I0 m0 I1 I2 I3 I4,redP_vc t c I0 m0 I1 I2 I3 I4 (redT t c):=by
 refine⟨RedI t (aplT t c).1 (hopsC c),λs=>2-s.2.2.1.toNat,λs h u=>u=(s.1 || upH t (aplT t c).1 h),λs h u d=>u=(s.1 || upH t (aplT t c).1 h)∧d=(s.2.1 || dnH t (aplT t c).1 h),
  λs h u d x=>(u=(s.1 || upH t (aplT t c).1 h)∧d=(s.2.1 || dnH t (aplT t c).1 h))∧x=chH t (aplT t c).1 h,λs b=>b=(s.1 && s.2.1),?_⟩
 simp only[redP_a,okU,Blk.ok,plainV,List.length_map]at ok
 dsimp only[redP_vc,redP_x,redP_s,Ax.vp,Ax.vc];simp only[vcU,rfU,List.length_map]
 have hl:(hopsC c).length=2:=rfl
 refine⟨λd=>by unfold redT;rw[if_pos (by simpa using d)],λd=>⟨⟨0,rfl,by omega,rfl,rfl,rfl⟩,?_⟩⟩
 have d:(aplT t c).2=0:=by simpa using d
 rintro⟨u0,d0,_,ds⟩ ⟨k,rfl,hk,e1,e2,e3⟩
 simp only at e1 e2 e3 ⊢
 rw[Int.toNat_natCast]
 refine⟨λq=>⟨by omega,by simp only[List.length_cons,List.length_nil];omega,λx hx=>⟨⟨λg=>?_,λg=>⟨λg1=>⟨λg2=>?_,λg2=>?_⟩,λg1=>?_⟩⟩,?_⟩⟩,λq=>?_⟩
 ·rw[g];rfl
 ·unfold upH;rw[g1,g2];simp
 ·unfold upH;rw[g,g1,g2];rfl
 ·unfold upH;rw[g,g1];rfl
 ·rintro _ rfl
  refine⟨⟨λg=>⟨rfl,by rw[g];rfl⟩,λg=>⟨λg1=>⟨λg2=>⟨rfl,?_⟩,λg2=>⟨rfl,?_⟩⟩,λg1=>⟨rfl,?_⟩⟩⟩,?_⟩
  ·unfold dnH;rw[g1,g2];simp
  ·unfold dnH;rw[g,g1,g2];rfl
  ·unfold dnH;rw[g,g1];rfl
  rintro _ ⟨_,rfl⟩
  refine⟨⟨λg=>⟨⟨rfl,rfl⟩,?_⟩,λg=>⟨⟨rfl,rfl⟩,?_⟩⟩,?_⟩
  ·unfold chH bne;rw[g];rfl
  ·unfold chH;have g':((cos5 t x.a x.b).2 != (cos5 (aplT t c).1 x.a x.b).2)=false:=g
   rw[g'];rfl
  rintro _ ⟨_,rfl⟩
  have w:W ((k:Int)+1)=((k+1:Nat):Int):=W_succ (n:=2) (by omega) (by omega)
  have hx':(hopsC c)[k]?=some x:=hx
  have f1:∀p:Hop→Bool,((hopsC c).take (k+1)).any p=(((hopsC c).take k).any p || p x):=λp=>by rw[take_succ hx'];simp
  have hdl:ds.length≤2:=by rw[e3];exact Nat.le_trans (List.length_filter_le _ _) (by rw[List.length_take];omega)
  rw[w]
  refine⟨λg=>⟨by omega,⟨k+1,rfl,by omega,by simp only;rw[f1,e1],by simp only;rw[f1,e2],?_⟩,by omega⟩,λg=>⟨⟨k+1,rfl,by omega,by simp only;rw[f1,e1],by simp only;rw[f1,e2],?_⟩,by omega⟩⟩
  ·simp only;rw[take_succ hx',List.filter_append,e3];simp[g]
  ·simp only;rw[take_succ hx',List.filter_append,e3];simp[g]
 ·have hk2:(hopsC c).take k=hopsC c:=List.take_of_length_le (by omega)
  rw[hk2]at e1 e2 e3
  refine⟨⟨λg=>by rw[g];rfl,λg=>by rw[g];rfl⟩,?_⟩
  rintro _ rfl
  unfold redT
  rw[if_neg (by simp[d])]
  refine⟨λg=>?_,λg=>⟨λg1=>?_,λg1=>?_⟩⟩
  ·rw[e1,e2]at g;rw[if_pos (by simpa using g)]
  ·rw[g1,e1]at g;rw[e2]at g1;rw[if_neg (λh=>by rw[h.1]at g;cases g),if_pos g1,e3]
  ·rw[e2]at g1;rw[if_neg (by simp[g1]),if_neg (by simp[g1]),e3]
def redP_c(t:Tpl)(c:Chg):PC Tryz.prog:=⟨47,[(.a [(.s 2),(.s 5)]),.k],[.agg [.sl 2 (t.rs.map Rtr.v) false,.sl 5 (t.ls.map Lnk.v) false],.agg [.int c.a,.int c.b,.int c.ca,.int c.cb]],redP_e (redT t c),PSpec.of_ok λok=>(redP_p t c ok).elim λI0 h=>h.elim λm0 h=>h.elim λI1 h=>h.elim λI2 h=>h.elim λI3 h=>h.elim λI4 h=>mxP_of (sh:=(.a [.k,(.a [(.s 2),(.s 5)]),(.s 2),.k])) (enc:=redP_e) (a:=(redP_x t c I0 m0 I1 I2 I3 I4).an) h (by kernel_rfl) (AV.pureB_ok rfl),fnB_ok (by kernel_rfl)⟩
def kndP_a(t:Tpl)(c:Chg):Prop:=okL [.agg [.sl 2 (t.rs.map Rtr.v) false,.sl 5 (t.ls.map Lnk.v) false],.agg [.int c.a,.int c.b,.int c.ca,.int c.cb]]
def kndP_e(r:Int×Int):AV:=.tup [.int r.1,.int r.2]
def kndP_x(t:Tpl)(c:Chg):Ax Tryz.prog noS (Int×Int):=
 (.callP (redP_c t c)
(.ret ((redT t c).1,(redT t c).2.2.2)))
def kndP_vc(t:Tpl)(c:Chg)(r0:Int×Int):Prop:=(kndP_x t c).vp kndP_e r0
theorem kndP_p(t:Tpl)(c:Chg)(ok:kndP_a t c):kndP_vc t c ((redT t c).1,(redT t c).2.2.2):=by
 dsimp only[kndP_vc,kndP_x,noS,Ax.vp,Ax.vc];simp only[vcU,rfU,List.length_map]
def kndP_c(t:Tpl)(c:Chg):PC Tryz.prog:=⟨10,[(.a [(.s 2),(.s 5)]),.k],[.agg [.sl 2 (t.rs.map Rtr.v) false,.sl 5 (t.ls.map Lnk.v) false],.agg [.int c.a,.int c.b,.int c.ca,.int c.cb]],kndP_e ((redT t c).1,(redT t c).2.2.2),PSpec.of_ok λok=>mxP_of (sh:=.k) (enc:=kndP_e) (a:=(kndP_x t c).an) (kndP_p t c ok) (by kernel_rfl) (AV.pureB_ok rfl),fnB_ok (by kernel_rfl)⟩
def cst18T(t:Tpl)(c:Chg):Int×Int×Bool:=((prc5 t c.a c.b).1,(prc5 t c.b c.a).1,(prc5 t c.a c.b).2)
def cst18_a(t:Tpl)(c:Chg):Prop:=okL [.agg [.sl 2 (t.rs.map Rtr.v) false,.sl 5 (t.ls.map Lnk.v) false],.agg [.int c.a,.int c.b,.int c.ca,.int c.cb]]
def cst18_e(r:Int×Int×Bool):AV:=.tup [.int r.1,.int r.2.1,.bool r.2.2]
def cst18_x(t:Tpl)(c:Chg):Ax Tryz.prog noS (Int×Int×Bool):=
 (.callP (prc5_c t c.a c.b)
(.callP (prc5_c t c.b c.a)
(.ret ((prc5 t c.a c.b).1,(prc5 t c.b c.a).1,(prc5 t c.a c.b).2))))
def cst18_vc(t:Tpl)(c:Chg)(r0:Int×Int×Bool):Prop:=(cst18_x t c).vp cst18_e r0
theorem cst18_p(t:Tpl)(c:Chg)(ok:cst18_a t c):cst18_vc t c (cst18T t c):=by
 simp only[cst18_a,okU,Blk.ok,plainV,List.length_map]at ok
 dsimp only[cst18_vc,cst18_x,noS,Ax.vp,Ax.vc];simp only[vcU,rfU,List.length_map]
 rfl
def cst18_c(t:Tpl)(c:Chg):PC Tryz.prog:=⟨48,[(.a [(.s 2),(.s 5)]),.k],[.agg [.sl 2 (t.rs.map Rtr.v) false,.sl 5 (t.ls.map Lnk.v) false],.agg [.int c.a,.int c.b,.int c.ca,.int c.cb]],cst18_e (cst18T t c),PSpec.of_ok λok=>mxP_of (sh:=.k) (enc:=cst18_e) (a:=(cst18_x t c).an) (cst18_p t c ok) (by kernel_rfl) (AV.pureB_ok rfl),fnB_ok (by kernel_rfl)⟩
def knd18(t:Tpl)(c:Chg):Int×Int:=
 if ¬(aplT t c).2=0 then(0,(aplT t c).2)
 else if rmvC c=true∨((prc5 t c.a c.b).2=true∧(prc5 t c.a c.b).1≤c.ca∧(prc5 t c.b c.a).1≤c.cb)then(1,0)
 else if(prc5 t c.a c.b).2=false∨(c.ca≤(prc5 t c.a c.b).1∧c.cb≤(prc5 t c.b c.a).1)then(2,0)
 else(0,8)
def knd18_a(t:Tpl)(c:Chg):Prop:=okL [.agg [.sl 2 (t.rs.map Rtr.v) false,.sl 5 (t.ls.map Lnk.v) false],.agg [.int c.a,.int c.b,.int c.ca,.int c.cb]]
def knd18_n0(t:Tpl)(c:Chg)(t0:Bool):NF:=⟨[(3,.k,.ref 0 0),(8,.k,.int ((prc5 t c.a c.b).1)),(9,.k,.int ((prc5 t c.b c.a).1)),(10,.k,.bool ((prc5 t c.a c.b).2)),(49,.k,.bool t0)],[.box (.agg [.int c.a,.int c.b,.int c.ca,.int c.cb])]⟩
def knd18_n1(t1:Bool):NF:=⟨[(63,.k,.bool t1)],[]⟩
@[reducible] def knd18_s:Nat→Type
 | 0=>Bool
 | 1=>Bool
 | _=>Unit
def knd18_e(r:Int×Int):AV:=.tup [.int r.1,.int r.2]
def knd18_x(t:Tpl)(c:Chg)(I0:Bool→Prop)(I1:Bool→Bool→Prop):Ax Tryz.prog knd18_s (Int×Int):=
 (.callP (apl5_c t c)
(.br 240 (((aplT t c).2) != 0) (.ret (0,(aplT t c).2))
(.callP (cst18_c t c)
(.pass (.join 0 (knd18_n0 t c) (λ(t0:Bool)=>I0 t0) (λb0=>(.br 464 (c.ca==0) (.br 544 (c.cb==0) (.bk 0 b0 ((true):Bool) [16])
(.br 576 ((prc5 t c.a c.b).2) (.br 672 (decide (((prc5 t c.a c.b).1)≤c.ca)) (.bk 0 b0 ((decide (((prc5 t c.b c.a).1)≤c.cb)):Bool) [16])
(.bk 0 b0 ((false):Bool) [16]))
(.bk 0 b0 ((false):Bool) [16])))
(.br 576 ((prc5 t c.a c.b).2) (.br 672 (decide (((prc5 t c.a c.b).1)≤c.ca)) (.bk 0 b0 ((decide (((prc5 t c.b c.a).1)≤c.cb)):Bool) [16])
(.bk 0 b0 ((false):Bool) [16]))
(.bk 0 b0 ((false):Bool) [16])))) λ(t0:Bool) =>
(.br 1 t0 (.ret (1,0))
(.pass (.join 1 (knd18_n1) (λ(t1:Bool)=>I1 t0 t1) (λb1=>(.br 49 (!((prc5 t c.a c.b).2)) (.bk 1 b1 ((true):Bool) [])
(.br 129 (decide (c.ca≤((prc5 t c.a c.b).1))) (.bk 1 b1 ((decide (c.cb≤((prc5 t c.b c.a).1))):Bool) [])
(.bk 1 b1 ((false):Bool) [])))) λ(t1:Bool) =>
(.br 0 t1 (.ret (2,0))
(.ret (0,8)))))))))))
def knd18_vc(t:Tpl)(c:Chg)(I0:Bool→Prop)(I1:Bool→Bool→Prop)(r0:Int×Int):Prop:=(knd18_x t c I0 I1).vp knd18_e r0
theorem knd18_p(t:Tpl)(c:Chg)(ok:knd18_a t c):∃I0 I1,knd18_vc t c I0 I1 (knd18 t c):=by
 refine⟨λb=>b=decide (rmvC c=true∨((prc5 t c.a c.b).2=true∧(prc5 t c.a c.b).1≤c.ca∧(prc5 t c.b c.a).1≤c.cb)),λ_ b=>b=decide ((prc5 t c.a c.b).2=false∨(c.ca≤(prc5 t c.a c.b).1∧c.cb≤(prc5 t c.b c.a).1)),?_⟩
 simp only[knd18_a,okU,Blk.ok,plainV,List.length_map]at ok
 dsimp only[knd18_vc,knd18_x,knd18_s,Ax.vp,Ax.vc];simp only[vcU,rfU,List.length_map]
 unfold knd18
 refine⟨λq=>by rw[if_pos (by simpa using q)],λq=>?_⟩
 rw[if_neg (by simpa using q)]
 refine⟨⟨λa=>⟨λb=>by simp[rmvC,a,b],λb=>⟨λd=>⟨λe=>by simp[rmvC,a,b,d,e],λe=>by simp[rmvC,a,b,e]⟩,λd=>by simp[rmvC,a,b,d]⟩⟩,λa=>⟨λd=>⟨λe=>by simp[rmvC,a,d,e],λe=>by simp[rmvC,a,e]⟩,λd=>by simp[rmvC,a,d]⟩⟩,?_⟩
 rintro _ rfl
 refine⟨λe=>by rw[if_pos (of_decide_eq_true e)],λe=>?_⟩
 rw[if_neg (of_decide_eq_false e)]
 refine⟨⟨λd=>by simp at d;simp[d],λd=>⟨λe=>by simp at d;simp[d,e],λe=>by simp at d;simp[d,e]⟩⟩,?_⟩
 rintro _ rfl
 exact⟨λe=>by rw[if_pos (of_decide_eq_true e)],λe=>by rw[if_neg (of_decide_eq_false e)]⟩
def knd18_c(t:Tpl)(c:Chg):PC Tryz.prog:=⟨11,[(.a [(.s 2),(.s 5)]),.k],[.agg [.sl 2 (t.rs.map Rtr.v) false,.sl 5 (t.ls.map Lnk.v) false],.agg [.int c.a,.int c.b,.int c.ca,.int c.cb]],knd18_e (knd18 t c),PSpec.of_ok λok=>(knd18_p t c ok).elim λI0 h=>h.elim λI1 h=>mxP_of (sh:=.k) (enc:=knd18_e) (a:=(knd18_x t c I0 I1).an) h (by kernel_rfl) (AV.pureB_ok rfl),fnB_ok (by kernel_rfl)⟩
def drc18(t:Tpl)(c:Chg):List Hop:=
 (if(prc5 t c.a c.b).2=false∨¬c.ca=(prc5 t c.a c.b).1 then [⟨c.a,c.b⟩]else [])++(if(prc5 t c.a c.b).2=false∨¬c.cb=(prc5 t c.b c.a).1 then [⟨c.b,c.a⟩]else [])
def drc18_a(t:Tpl)(c:Chg):Prop:=okL [.agg [.sl 2 (t.rs.map Rtr.v) false,.sl 5 (t.ls.map Lnk.v) false],.agg [.int c.a,.int c.b,.int c.ca,.int c.cb]]
def drc18_n0(t:Tpl)(c:Chg)(t0:Bool):NF:=⟨[(3,.k,.ref 0 0),(6,.k,.int ((prc5 t c.b c.a).1)),(7,.k,.bool ((prc5 t c.a c.b).2)),(8,.k,.sl 0 [] true),(23,.k,.bool t0)],[.box (.agg [.int c.a,.int c.b,.int c.ca,.int c.cb])]⟩
def drc18_n1(c:Chg)(t1:Bool):NF:=⟨[(3,.k,.ref 0 0),(8,.k,.vec 1),(39,.k,.bool t1)],[.box (.agg [.int c.a,.int c.b,.int c.ca,.int c.cb]),.vec 2 ([(⟨c.a,c.b⟩:Hop)].map Hop.v) (pureBL_map (λ_=>rfl) [(⟨c.a,c.b⟩:Hop)])]⟩
def drc18_n2(c:Chg)(t2:Bool):NF:=⟨[(3,.k,.ref 0 0),(8,.k,.sl 0 [] true),(39,.k,.bool t2)],[.box (.agg [.int c.a,.int c.b,.int c.ca,.int c.cb])]⟩
@[reducible] def drc18_s:Nat→Type
 | 0=>Bool
 | 1=>Bool
 | 2=>Bool
 | _=>Unit
def drc18_e(r:(List Hop)):AV:=.sl 2 (r.map Hop.v) false
def drc18_x(t:Tpl)(c:Chg)(I0:Bool→Prop)(I1:Bool→Bool→Prop)(I2:Bool→Bool→Prop):Ax Tryz.prog drc18_s ((List Hop)):=
 (.callP (cst18_c t c)
(.pass (.pass (.join 0 (drc18_n0 t c) (λ(t0:Bool)=>I0 t0) (λb0=>(.br 272 (!((prc5 t c.a c.b).2)) (.bk 0 b0 ((true):Bool) [16])
(.bk 0 b0 ((c.ca != ((prc5 t c.a c.b).1)):Bool) [16]))) λ(t0:Bool) =>
(.br 1 t0 (.ap0 113 Hop.v [] [(⟨c.a,c.b⟩:Hop)]
(.pass (.join 1 (drc18_n1 c) (λ(t1:Bool)=>I1 t0 t1) (λb1=>(.br 193 (!((prc5 t c.a c.b).2)) (.bk 1 b1 ((true):Bool) [0,113])
(.bk 1 b1 ((c.cb != ((prc5 t c.b c.a).1)):Bool) [0,113]))) λ(t1:Bool) =>
(.br 2 t1 (.apX 114 Hop.v [(⟨c.a,c.b⟩:Hop)] [(⟨c.b,c.a⟩:Hop)] ([(⟨c.a,c.b⟩:Hop)].length+1)
(.fz 114 Hop.v ([(⟨c.a,c.b⟩:Hop)]++[(⟨c.b,c.a⟩:Hop)]) (λ_=>rfl) (.ret ([(⟨c.a,c.b⟩:Hop)]++[(⟨c.b,c.a⟩:Hop)]))))
(.fz 1 Hop.v [(⟨c.a,c.b⟩:Hop)] (λ_=>rfl) (.ret ([(⟨c.a,c.b⟩:Hop)])))))))
(.pass (.join 2 (drc18_n2 c) (λ(t2:Bool)=>I2 t0 t2) (λb2=>(.br 49 (!((prc5 t c.a c.b).2)) (.bk 2 b2 ((true):Bool) [0])
(.bk 2 b2 ((c.cb != ((prc5 t c.b c.a).1)):Bool) [0]))) λ(t2:Bool) =>
(.br 1 t2 (.ap0 113 Hop.v [] [(⟨c.b,c.a⟩:Hop)]
(.fz 113 Hop.v [(⟨c.b,c.a⟩:Hop)] (λ_=>rfl) (.ret ([(⟨c.b,c.a⟩:Hop)]))))
(.ret ([]))))))))))
def drc18_vc(t:Tpl)(c:Chg)(I0:Bool→Prop)(I1:Bool→Bool→Prop)(I2:Bool→Bool→Prop)(r0:(List Hop)):Prop:=(drc18_x t c I0 I1 I2).vp drc18_e r0
theorem drc18_p(t:Tpl)(c:Chg)(ok:drc18_a t c):∃I0 I1 I2,drc18_vc t c I0 I1 I2 (drc18 t c):=by
 refine⟨λb=>b=decide ((prc5 t c.a c.b).2=false∨¬c.ca=(prc5 t c.a c.b).1),λ_ b=>b=decide ((prc5 t c.a c.b).2=false∨¬c.cb=(prc5 t c.b c.a).1),λ_ b=>b=decide ((prc5 t c.a c.b).2=false∨¬c.cb=(prc5 t c.b c.a).1),?_⟩
 simp only[drc18_a,okU,Blk.ok,plainV,List.length_map]at ok
 dsimp only[drc18_vc,drc18_x,drc18_s,Ax.vp,Ax.vc];simp only[vcU,rfU,List.length_map]
 unfold drc18
 have key:∀(u v:Int),((!(prc5 t c.a c.b).2)=true→true=decide ((prc5 t c.a c.b).2=false∨¬u=v))∧((!(prc5 t c.a c.b).2)=false→(u != v)=decide ((prc5 t c.a c.b).2=false∨¬u=v)):=λu v =>
  ⟨λd=>by simp at d;simp[d],λd=>by simp at d;rw[Bool.eq_iff_iff,decide_eq_true_iff,bne_iff_ne];simp[d]⟩
 refine⟨key _ _,?_⟩
 rintro _ rfl
 refine⟨λe=>⟨key _ _,?_⟩,λe=>⟨key _ _,?_⟩⟩
 ·rw[if_pos (of_decide_eq_true e)]
  rintro _ rfl
  exact⟨λg=>⟨by simp,by rw[if_pos (of_decide_eq_true g)]⟩,λg=>by rw[if_neg (of_decide_eq_false g)];rfl⟩
 ·rw[if_neg (of_decide_eq_false e)]
  rintro _ rfl
  exact⟨λg=>by rw[if_pos (of_decide_eq_true g)];rfl,λg=>by rw[if_neg (of_decide_eq_false g)];rfl⟩
def drc18_c(t:Tpl)(c:Chg):PC Tryz.prog:=⟨52,[(.a [(.s 2),(.s 5)]),.k],[.agg [.sl 2 (t.rs.map Rtr.v) false,.sl 5 (t.ls.map Lnk.v) false],.agg [.int c.a,.int c.b,.int c.ca,.int c.cb]],drc18_e (drc18 t c),PSpec.of_ok λok=>(drc18_p t c ok).elim λI0 h=>h.elim λI1 h=>h.elim λI2 h=>mxP_of (sh:=(.s 2)) (enc:=drc18_e) (a:=(drc18_x t c I0 I1 I2).an) h (by kernel_rfl) (AV.pureB_ok rfl),fnB_ok (by kernel_rfl)⟩
theorem chk5_mk{t:Tpl}(h:Chk5 t):chk5 t=0:=by
 unfold chk5
 have h1:=h.nr
 have h2:=h.nl
 rw[if_neg (by omega),if_neg (not_not_intro h.rg),if_neg (not_not_intro h.asc),if_neg (not_not_intro h.lr),if_neg (not_not_intro h.has),if_neg (not_not_intro h.lt),if_neg (not_not_intro h.ord)]
theorem spl_L{l:List Lnk}(h:l.Pairwise lnkL)(x:Lnk):∃A M B,l=A++M++B∧A.length=posL l x∧(∀y∈A,lnkL y x)∧(∀y∈B,lnkL x y) ∧
  ((hitL l x=true∧∃z,M=[z]∧z.a=x.a∧z.b=x.b)∨(hitL l x=false∧M=[])):=by
 obtain⟨s1,s2,s3⟩:=posL_spec h x
 have hsplit:l=l.take (posL l x)++l.drop (posL l x):=(List.take_append_drop _ _).symm
 have htk:∀y∈l.take (posL l x),lnkL y x:=λy hy=>by
  obtain⟨j,hj,rfl⟩:=List.mem_take_iff_getElem.mp hy
  exact s1 j _ (by omega) (List.getElem?_eq_getElem (by omega))
 have hlen:(l.take (posL l x)).length=posL l x:=by rw[List.length_take];omega
 have hh:hitL l x=(l[posL l x]?).any (eqLk x):=rfl
 by_cases hp:posL l x<l.length
 ·have hz:l[posL l x]?=some l[posL l x]:=List.getElem?_eq_getElem hp
  have hd:l.drop (posL l x)=l[posL l x]::l.drop (posL l x+1):=List.drop_eq_getElem_cons hp
  generalize l[posL l x]=z at hz hd
  have hr:∀y∈l.drop (posL l x+1),lnkL z y:=λy hy=>by
   obtain⟨j,hj⟩:=List.mem_iff_getElem?.mp hy
   rw[List.getElem?_drop]at hj
   exact lnk_get h (by omega) hz hj
  have hnz:=s2 _ z (Nat.le_refl _) hz
  by_cases e:z.a=x.a∧z.b=x.b
  ·refine⟨l.take (posL l x),[z],l.drop (posL l x+1),?_,hlen,htk,λy hy=>?_,.inl ⟨?_,z,rfl,e⟩⟩
   ·conv=>lhs;rw[hsplit,hd]
    simp
   ·have:=hr y hy;unfold lnkL at *;omega
   ·rw[hh,hz];simp[eqLk,e]
  ·have hxz:lnkL x z:=by unfold lnkL at *;omega
   refine⟨l.take (posL l x),[],l.drop (posL l x),?_,hlen,htk,λy hy=>?_,.inr ⟨?_,rfl⟩⟩
   ·conv=>lhs;rw[hsplit]
    simp
   ·rw[hd]at hy
    rcases List.mem_cons.mp hy with rfl|hy
    ·exact hxz
    ·exact lnkL_tr hxz (hr y hy)
   ·rw[hh,hz];simp[eqLk];exact λq=>λq2=>e ⟨q,q2⟩
 ·refine⟨l.take (posL l x),[],l.drop (posL l x),?_,hlen,htk,λy hy=>?_,.inr ⟨?_,rfl⟩⟩
  ·conv=>lhs;rw[hsplit]
   simp
  ·rw[List.drop_of_length_le (by omega)]at hy;simp at hy
  ·rw[hh,List.getElem?_eq_none (by omega)];rfl
theorem del_mid{α:Type}{A B:List α}{z:α}{k:Nat}(h:A.length=k):delAt (A++[z]++B) k=A++B:=by
 subst h;unfold delAt
 have e:A++[z]++B=A++(z::B):=by simp
 rw[e,List.take_left]
 have:A++z::B=(A++[z])++B:=by simp
 rw[this,show A.length+1=(A++[z]).length by simp,List.drop_left]
theorem ins_mid{α:Type}{A B:List α}{z:α}{k:Nat}(h:A.length=k):insAt (A++[]++B) k z=A++[z]++B:=by
 subst h;unfold insAt
 rw[List.append_nil,List.take_left,List.drop_left]
theorem set_mid2{α:Type}{A B:List α}{x v:α}{k:Nat}(h:A.length=k):(A++[x]++B).set k v=A++[v]++B:=by
 have e:A++[x]++B=A++(x::B):=by simp
 rw[e,set_mid h];simp
structure AplS (t:Tpl) (c:Chg) (t':Tpl):Prop where
  ex:∃A M N B,t.ls=A++M++B∧t'.ls=A++N++B∧(∀y∈A,lnkL y (lnkC c))∧(∀y∈B,lnkL (lnkC c) y)∧(∀y∈M,y.a=(lnkC c).a∧y.b=(lnkC c).b) ∧
    ((rmvC c=true∧N=[])∨(rmvC c=false∧∃w,(0≤w∧w≤1000)∧N=[{ lnkC c with w:=w }]))∧M.length≤1∧N.length≤1∧((prc5 t c.a c.b).2=true↔M≠[])
  rs:t'.rs=t.rs
  nl:t'.ls.length≤60
  ha:has5 t c.a=true
  hb:has5 t c.b=true
  ne:c.a≠c.b
  co:rmvC c=false→cst5 c.ca=true∧cst5 c.cb=true
  rm:rmvC c=true→(prc5 t c.a c.b).2=true
theorem apl_S{t:Tpl}{c:Chg}(h:(aplT t c).2=0):chk5 t=0∧AplS t c (aplT t c).1:=by
 have hc:chk5 t=0:=by
  refine Classical.byContradiction λq=>?_
  unfold aplT at h;rw[if_pos q]at h;cases h
 refine⟨hc,?_⟩
 have hO:=chk5_good hc
 obtain⟨A,M,B,e0,e1,e2,e3,e4⟩:=spl_L hO.ord (lnkC c)
 have hM:(prc5 t c.a c.b).2=true↔M≠[]:=by
  rw[←hit_key hc]
  rcases e4 with⟨g,z,rfl,_⟩|⟨g,rfl⟩
  ·simp[g]
  ·simp[g]
 have hMk:(∀y∈M,y.a=(lnkC c).a∧y.b=(lnkC c).b)∧M.length≤1:=by
  rcases e4 with⟨g,z,rfl,gz⟩|⟨g,rfl⟩
  ·exact⟨λy hy=>by rw[List.mem_singleton.mp hy];exact gz,by simp⟩
  ·simp
 have hnl:=hO.nl
 unfold aplT at h ⊢
 rw[if_neg (not_not_intro hc)]at h ⊢
 by_cases c1:hs5 t c.a=false∨hs5 t c.b=false
 ·rw[if_pos c1]at h;cases h
 rw[if_neg c1]at h ⊢
 by_cases c2:c.a=c.b
 ·rw[if_pos c2]at h;cases h
 rw[if_neg c2]at h ⊢
 by_cases c3:rmvC c=false∧(cst5 c.ca=false∨cst5 c.cb=false)
 ·rw[if_pos c3]at h;cases h
 rw[if_neg c3]at h ⊢
 by_cases c4:rmvC c=true∧hitL t.ls (lnkC c)=false
 ·rw[if_pos c4]at h;cases h
 rw[if_neg c4]at h ⊢
 by_cases c5:hitL t.ls (lnkC c)=false∧t.ls.length=60
 ·rw[if_pos c5]at h;cases h
 rw[if_neg c5]
 have ha:has5 t c.a=true:=by
  have:hs5 t c.a=true:=by simp at c1;exact c1.1
  exact(hs5_iff.mp this).2
 have hb:has5 t c.b=true:=by
  have:hs5 t c.b=true:=by simp at c1;exact c1.2
  exact(hs5_iff.mp this).2
 have hco:rmvC c=false→cst5 c.ca=true∧cst5 c.cb=true:=λq=>by
  simp[q]at c3;exact c3
 have hrm:rmvC c=true→(prc5 t c.a c.b).2=true:=λq=>by
  rw[←hit_key hc];simpa[q]using c4
 by_cases c6:rmvC c=true
 ·rw[if_pos c6]
  have g:hitL t.ls (lnkC c)=true:=by simpa[c6]using c4
  rcases e4 with⟨_,z,rfl,gz⟩|⟨g',_⟩
  ·have e5:delAt t.ls (posL t.ls (lnkC c))=A++[]++B:=by
    rw[←e1,e0,del_mid rfl];simp
   refine⟨⟨A,[z],[],B,e0,e5,e2,e3,hMk.1,.inl ⟨c6,rfl⟩,by simp,by simp,hM⟩,rfl,?_,ha,hb,c2,hco,hrm⟩
   simp only[e5];rw[e0]at hnl;simp at hnl ⊢;omega
  ·rw[g]at g';cases g'
 rw[if_neg c6]
 have c6':rmvC c=false:=by simpa using c6
 by_cases c7:hitL t.ls (lnkC c)=true
 ·rw[if_pos c7]
  rcases e4 with⟨_,z,rfl,gz⟩|⟨g',_⟩
  ·have e6:t.ls.getD (posL t.ls (lnkC c)) ⟨0,0,0,0,0⟩=z:=by
    rw[←e1,e0,List.getD_eq_getElem?_getD,List.append_assoc,List.getElem?_append_right (Nat.le_refl _)];simp
   have hw:=(hO.lr z (by rw[e0];simp)).2.2
   have e5:t.ls.set (posL t.ls (lnkC c)) { lnkC c with w:=z.w }=A++[{ lnkC c with w:=z.w }]++B:=by
    rw[←e1];conv=>lhs;rw[e0]
    exact set_mid2 rfl
   rw[e6]
   refine⟨⟨A,[z],_,B,e0,e5,e2,e3,hMk.1,.inr ⟨c6',z.w,hw,rfl⟩,by simp,by simp,hM⟩,rfl,?_,ha,hb,c2,hco,hrm⟩
   simp only[List.length_set];exact hnl
  ·rw[c7]at g';cases g'
 ·rw[if_neg c7]
  rcases e4 with⟨g',_⟩|⟨g',rfl⟩
  ·exact absurd g' c7
  ·have e5:insAt t.ls (posL t.ls (lnkC c)) (lnkC c)=A++[{ lnkC c with w:=0 }]++B:=by
    have:lnkC c={ lnkC c with w:=0 }:=by unfold lnkC;split<;>rfl
    rw[←this,←e1];conv=>lhs;rw[e0]
    exact ins_mid rfl
   refine⟨⟨A,[],_,B,e0,e5,e2,e3,hMk.1,.inr ⟨c6',0,by omega,rfl⟩,by simp,by simp,hM⟩,rfl,?_,ha,hb,c2,hco,hrm⟩
   have:¬t.ls.length=60:=λq=>c5 ⟨g',q⟩
   simp only[e5]
   rw[e0]at this hnl;simp at this hnl ⊢;omega
theorem lnkC_ab{c:Chg}(h:c.a≠c.b):(lnkC c).a<(lnkC c).b∧(((lnkC c).a=c.a∧(lnkC c).b=c.b∧(lnkC c).ca=c.ca∧(lnkC c).cb=c.cb)∨((lnkC c).a=c.b∧(lnkC c).b=c.a∧(lnkC c).ca=c.cb∧(lnkC c).cb=c.ca)):=by
 unfold lnkC
 split
 ·simp;omega
 ·simp;omega
theorem pw_mid{A M N B:List Lnk}{x:Lnk}(h:(A++M++B).Pairwise lnkL)(hA:∀y∈A,lnkL y x)(hB:∀y∈B,lnkL x y)(hN:N.length≤1)(hk:∀y∈N,y.a=x.a∧y.b=x.b):(A++N++B).Pairwise lnkL:=by
 rw[List.append_assoc,List.pairwise_append]at h ⊢
 obtain⟨h1,h2,h3⟩:=h
 rw[List.pairwise_append]at h2 ⊢
 refine⟨h1,⟨?_,h2.2.1,λa ha b hb=>?_⟩,λa ha b hb=>?_⟩
 ·match N,hN with
  | [],_=>exact List.Pairwise.nil
  | [z],_=>exact List.pairwise_singleton _ _
 ·have:=hB b hb;have:=hk a ha;unfold lnkL at *;omega
 ·rcases List.mem_append.mp hb with hb|hb
  ·have:=hA a ha;have:=hk b hb;unfold lnkL at *;omega
  ·exact h3 a ha b (List.mem_append_right _ hb)
theorem has5_rs{t t':Tpl}(h:t'.rs=t.rs)(x:Int):has5 t' x=has5 t x:=by unfold has5;rw[h]
theorem apl_chk{t t':Tpl}{c:Chg}(hc:chk5 t=0)(h:AplS t c t'):chk5 t'=0:=by
 obtain⟨⟨A,M,N,B,e0,e1,hA,hB,hM,hN,hm,hn,_⟩,hr,hl,ha,hb,hne,hco,_⟩:=h
 have hO:=chk5_good hc
 obtain⟨k1,k2⟩:=lnkC_ab hne
 have hNk:∀y∈N,(y.a=(lnkC c).a∧y.b=(lnkC c).b)∧lnkR y:=λy hy=>by
  rcases hN with⟨_,rfl⟩|⟨hr,w,hw,rfl⟩
  ·simp at hy
  ·rw[List.mem_singleton.mp hy]
   obtain⟨c1,c2⟩:=hco hr
   refine⟨⟨rfl,rfl⟩,?_⟩
   unfold lnkR
   simp only
   rcases k2 with⟨_,_,q1,q2⟩|⟨_,_,q1,q2⟩
   ·rw[q1,q2];exact⟨c1,c2,hw⟩
   ·rw[q1,q2];exact⟨c2,c1,hw⟩
 have hmem:∀y∈t'.ls,y∈N∨y∈t.ls:=λy hy=>by
  rw[e1]at hy;rw[e0]
  simp only[List.mem_append]at hy ⊢
  rcases hy with(hy|hy)|hy
  ·exact .inr (.inl (.inl hy))
  ·exact .inl hy
  ·exact .inr (.inr hy)
 refine chk5_mk ⟨by rw[hr];exact hO.nr,hl,by rw[hr];exact hO.rg,by rw[hr];exact hO.asc,λy hy=>?_,λy hy=>?_,λy hy=>?_,?_⟩
 ·rcases hmem y hy with g|g
  ·exact(hNk y g).2
  ·exact hO.lr y g
 ·rw[has5_rs hr,has5_rs hr]
  rcases hmem y hy with g|g
  ·obtain⟨⟨q1,q2⟩,_⟩:=hNk y g
   rw[q1,q2]
   rcases k2 with⟨r1,r2,_⟩|⟨r1,r2,_⟩<;>rw[r1,r2]
   ·exact⟨ha,hb⟩
   ·exact⟨hb,ha⟩
  ·exact hO.has y g
 ·rcases hmem y hy with g|g
  ·obtain⟨⟨q1,q2⟩,_⟩:=hNk y g
   omega
  ·exact hO.lt y g
 ·have:=hO.ord
  rw[e0]at this
  rw[e1]
  exact pw_mid this hA hB hn (λy hy=>(hNk y hy).1)
theorem edge_on{t t':Tpl}{c:Chg}(hc:chk5 t=0)(h:AplS t c t'){k:Int}:(Edge t' c.a c.b k↔rmvC c=false∧k=c.ca)∧(Edge t' c.b c.a k↔rmvC c=false∧k=c.cb):=by
 obtain⟨⟨A,M,N,B,e0,e1,hA,hB,hM,hN,hm,hn',_⟩,hr,hl,ha,hb,hne,hco,_⟩:=h
 obtain⟨k1,k2⟩:=lnkC_ab hne
 have hoff:∀y,y∈A∨y∈B→¬(y.a=c.a∧y.b=c.b)∧¬(y.b=c.a∧y.a=c.b):=λy hy=>by
  have:lnkL y (lnkC c)∨lnkL (lnkC c) y:=hy.elim (λq=>.inl (hA y q)) (λq=>.inr (hB y q))
  have hlt:=(chk5_good hc).lt y (by rw[e0];simp only[List.mem_append];rcases hy with q|q<;>simp[q])
  unfold lnkL at this;omega
 have key:∀u v,(u=c.a∧v=c.b∨u=c.b∧v=c.a)→(Edge t' u v k↔∃l∈N,(l.a=u∧l.b=v∧l.ca=k)∨(l.b=u∧l.a=v∧l.cb=k)):=λu v huv=>by
  unfold Edge
  rw[e1]
  simp only[List.mem_append]
  constructor
  ·rintro⟨l,(hl|hl)|hl,q⟩
   ·have:=hoff l (.inl hl);omega
   ·exact⟨l,hl,q⟩
   ·have:=hoff l (.inr hl);omega
  ·rintro⟨l,hl,q⟩
   exact⟨l,.inl (.inr hl),q⟩
 rw[key c.a c.b (.inl ⟨rfl,rfl⟩),key c.b c.a (.inr ⟨rfl,rfl⟩)]
 rcases hN with⟨hr,rfl⟩|⟨hr,w,hw,rfl⟩
 ·simp[hr]
 ·simp only[List.mem_singleton,exists_eq_left,hr,true_and]
  omega
theorem prc_of{t:Tpl}(hc:chk5 t=0)(u v:Int):(prc5 t u v).2=true↔∃k,Edge t u v k:=by
 constructor
 ·intro h;exact⟨(prc5 t u v).1,(prc_edge hc).mpr (Prod.ext rfl h)⟩
 ·rintro⟨k,h⟩;rw[(prc_edge hc).mp h]
theorem edge_sym{t:Tpl}{u v k:Int}(h:Edge t u v k):∃k',Edge t v u k':=by
 obtain⟨l,hl,⟨h1,h2,h3⟩|⟨h1,h2,h3⟩⟩:=h
 ·exact⟨l.cb,l,hl,.inr ⟨h2,h1,rfl⟩⟩
 ·exact⟨l.ca,l,hl,.inl ⟨h2,h1,rfl⟩⟩
theorem prc_no{t:Tpl}{u v:Int}(h:(prc5 t u v).2=false):prc5 t u v=(0,false):=by
 unfold prc5 at *
 split at h
 ·cases h
 ·rfl
theorem prc_on{t t':Tpl}{c:Chg}(hc:chk5 t=0)(h:AplS t c t'):prc5 t' c.a c.b=(if rmvC c=true then(0,false)else(c.ca,true))∧prc5 t' c.b c.a=(if rmvC c=true then(0,false)else(c.cb,true)):=by
 have hc':=apl_chk hc h
 cases hr:rmvC c with
 | true =>
  simp only[if_true]
  constructor
  ·refine prc_no ?_
   rw[Bool.eq_false_iff];intro q
   obtain⟨k,q⟩:=(prc_of hc' _ _).mp q
   have:=((edge_on hc h).1.mp q).1
   rw[hr]at this;cases this
  ·refine prc_no ?_
   rw[Bool.eq_false_iff];intro q
   obtain⟨k,q⟩:=(prc_of hc' _ _).mp q
   have:=((edge_on hc h).2.mp q).1
   rw[hr]at this;cases this
 | false =>
  rw[if_neg (by simp),if_neg (by simp)]
  exact⟨(prc_edge hc').mp ((edge_on hc h).1.mpr ⟨hr,rfl⟩),(prc_edge hc').mp ((edge_on hc h).2.mpr ⟨hr,rfl⟩)⟩
theorem prc_sym{t:Tpl}(hc:chk5 t=0)(u v:Int):(prc5 t v u).2=(prc5 t u v).2:=by
 rw[Bool.eq_iff_iff,prc_of hc,prc_of hc]
 exact⟨λ⟨k,h⟩=>edge_sym h,λ⟨k,h⟩=>edge_sym h⟩
theorem cos5_eq{t:Tpl}(hc:chk5 t=0)(u v:Int):cos5 t u v=prc5 t u v:=by unfold cos5;rw[if_neg (not_not_intro hc)]
theorem cmp3(x a:Int):(x<a∧¬a≤x∧¬a<x∧x≤a∧¬x=a)∨(x=a∧a≤x∧¬a<x∧x≤a∧¬x<a)∨(a<x∧a≤x∧¬x<a∧¬x≤a∧¬x=a):=by omega
theorem red_eq(t:Tpl)(c:Chg):knd18 t c=((redT t c).1,(redT t c).2.2.2)∧((redT t c).2.2.2=0→drc18 t c=(redT t c).2.2.1):=by
 by_cases h:(aplT t c).2=0
 case neg =>
  unfold knd18 redT
  rw[if_pos h,if_pos h]
  exact⟨rfl,λe=>absurd e h⟩
 obtain⟨hc,hS⟩:=apl_S h
 have hc':=apl_chk hc hS
 obtain⟨p1,p2⟩:=prc_on hc hS
 have hsym:=prc_sym hc c.a c.b
 have q1:=λe=>prc5_pos hc (f:=c.a) (g:=c.b) e
 have q2:=λe=>prc5_pos hc (f:=c.b) (g:=c.a) e
 have hrm:=hS.rm
 have hco:=hS.co
 unfold knd18 redT drc18 hopsC
 rw[if_neg (not_not_intro h),if_neg (not_not_intro h)]
 simp only[List.any_cons,List.any_nil,List.filter_cons,List.filter_nil,upH,dnH,chH,cos5_eq hc,cos5_eq hc',p1,p2]
 clear p1 p2 hS hc' h
 generalize prc5 t c.a c.b=p at *
 generalize prc5 t c.b c.a=q at *
 obtain⟨a,ok⟩:=p
 obtain⟨b,ok'⟩:=q
 simp only at hsym q1 q2 hrm
 subst hsym
 cases hr:rmvC c with
 | true =>
  have ok':=hrm hr
  subst ok'
  have:=q1 rfl
  have:=q2 rfl
  have e:c.ca=0∧c.cb=0:=by unfold rmvC at hr;simpa using hr
  rw[e.1,e.2]
  have a1:¬(0:Int)=a:=by omega
  have b1:¬(0:Int)=b:=by omega
  simp[a1,b1]
 | false =>
  cases ok' with
  | false=>simp
  | true =>
   rcases cmp3 c.ca a with⟨x1,x2,x3,x4,x5⟩|⟨x1,x2,x3,x4,x5⟩|⟨x1,x2,x3,x4,x5⟩<;>rcases cmp3 c.cb b with⟨y1,y2,y3,y4,y5⟩|⟨y1,y2,y3,y4,y5⟩|⟨y1,y2,y3,y4,y5⟩<;>simp[x1,x2,x3,x4,x5,y1,y2,y3,y4,y5]
structure Dst where
  r:Int
  c:Int
  deriving DecidableEq
def Dst.v(x:Dst):AV:=.agg [.int x.r,.int x.c]
def kHop(h:Hop):MK:=.c [h.a,h.b]
theorem kHop_inj(x y:Hop)(h:kHop x=kHop y):x=y:=by
 cases x;cases y;unfold kHop at h;simp at h;simp[h]
def mnGetHop{β:Type}(vf:β→AV)(l:List (Hop×β))(x:Hop)(z:β):MN:=.get inferInstance kHop kHop_inj vf l x z
def mnPutHop{β:Type}(vf:β→AV)(l:List (Hop×β))(x:Hop)(v:β):MN:=.put inferInstance kHop kHop_inj vf l x v
def dst1(t:Tpl)(f:Int)(r:Rtr):List Dst:=if(cos6 t f r.id).2=true then [⟨r.id,(cos6 t f r.id).1⟩]else []
def dstT(t:Tpl)(f:Int):List Dst:=if chk5 t=0 then t.rs.flatMap (dst1 t f)else []
def dstP_a(t:Tpl)(from_:Int):Prop:=okL [.agg [.sl 2 (t.rs.map Rtr.v) false,.sl 5 (t.ls.map Lnk.v) false],.int from_]
def dstP_n0(t:Tpl)(from_:Int)(t0:Int×(List Dst)):NF:=⟨[(5,.k,.mp none ((dijT ((grhT t).out) from_).map λp:Int×Int=>MK.n p.1) ((dijT ((grhT t).out) from_).map λp:Int×Int=>AV.int p.2)),(6,.k,.vec 0),(20,.k,.sl 2 (t.rs.map Rtr.v) false),(21,.k,.int ((t.rs.map Rtr.v).length:Int)),(22,.k,.int t0.1)],[.vec 2 (t0.2.map Dst.v) (pureBL_map (λ_=>rfl) t0.2)]⟩
@[reducible] def dstP_s:Nat→Type
 | 0=>Int×(List Dst)
 | _=>Unit
def dstP_e(r:(List Dst)):AV:=.sl 2 (r.map Dst.v) false
def dstP_x(t:Tpl)(from_:Int)(I0:(Int×(List Dst))→Prop)(m0:(Int×(List Dst))→Nat):Ax Tryz.prog dstP_s ((List Dst)):=
 (.callP (valS5_c t)
(.br 80 (!(valP t)) (.ret ([]))
(.req 96 (chk5 t=0) λh1 =>
(.callP (grhT_c t h1)
(.req 144 (okLks ((grhT t).out)) λh2 =>
(.callP (dijT_c ((grhT t).out) from_ h2)
(.cmdL (.nilT 6 2) (.loop 0 (dstP_n0 t from_) I0 m0 (0,[]) [256] λ(t0:Int×(List Dst)) b0 =>
(.br 17 (decide (t0.1<((t.rs.map Rtr.v).length:Int))) (.elI 17 Rtr.v t.rs t0.1 λx3 =>
(.mn 129 (mnGetI AV.int (dijT ((grhT t).out) from_) x3.id 0) (.br 241 (mhas (dijT ((grhT t).out) from_) x3.id) (.apX 337 Dst.v t0.2 [(⟨x3.id,mval (dijT ((grhT t).out) from_) x3.id 0⟩:Dst)] (t0.2.length+1)
(.bk 0 b0 (W (t0.1+1),t0.2++[(⟨x3.id,mval (dijT ((grhT t).out) from_) x3.id 0⟩:Dst)]) [337]))
(.bk 0 b0 (W (t0.1+1),t0.2) [0]))))
(.fz 0 Dst.v t0.2 (λ_=>rfl) (.ret (t0.2))))))))))))
def dstP_vc(t:Tpl)(from_:Int)(I0:(Int×(List Dst))→Prop)(m0:(Int×(List Dst))→Nat)(r0:(List Dst)):Prop:=(dstP_x t from_ I0 m0).vp dstP_e r0
theorem dstP_p(t:Tpl)(f:Int)(ok:dstP_a t f):∃I0 m0,dstP_vc t f I0 m0 (dstT t f):=by
 refine⟨λs=>ForX t.rs (dst1 t f) s.1 s.2,λs=>t.rs.length-s.1.toNat,?_⟩
 simp only[dstP_a,okU,Blk.ok,plainV,List.length_map]at ok
 dsimp only[dstP_vc,dstP_x,dstP_s,Ax.vp,Ax.vc];simp only[vcU,rfU,List.length_map]
 by_cases hc:chk5 t=0
 case neg =>
  have hv:valP t=false:=by unfold valP;simpa using hc
  rw[hv]
  exact⟨λ_=>by unfold dstT;rw[if_neg hc],λe=>by simp at e⟩
 have hv:valP t=true:=by unfold valP;rw[hc];rfl
 have hn:=(chk5_len hc).1
 rw[hv,show(grhT t).out=outG t from rfl]
 refine⟨λe=>by simp at e,λ_=>⟨hc,out_lks hc,ForX.zero,λs h=>⟨λc=>⟨h.idx,c,λx hx=>⟨λe=>?_,λe=>?_⟩⟩,λc=>?_⟩⟩⟩
 ·have hl:=h.len (b:=1) (λr _=>by unfold dst1;split<;>simp)
  have q:dst1 t f x=[⟨x.id,mval (dijT (outG t) f) x.id 0⟩]:=by unfold dst1;rw[cos_out hc,if_pos e];rfl
  exact⟨by omega,h.step (by omega) hx (by rw[q])⟩
 ·have q:dst1 t f x=[]:=by unfold dst1;rw[cos_out hc,if_neg (by rw[e];simp)]
  exact h.step (by omega) hx (by rw[q,List.append_nil])
 ·rw[h.done c];unfold dstT;rw[if_pos hc]
def dstP_c(t:Tpl)(from_:Int):PC Tryz.prog:=⟨128,[(.a [(.s 2),(.s 5)]),.k],[.agg [.sl 2 (t.rs.map Rtr.v) false,.sl 5 (t.ls.map Lnk.v) false],.int from_],dstP_e (dstT t from_),PSpec.of_ok λok=>(dstP_p t from_ ok).elim λI0 h=>h.elim λm0 h=>mxP_of (sh:=(.s 2)) (enc:=dstP_e) (a:=(dstP_x t from_ I0 m0).an) h (by kernel_rfl) (AV.pureB_ok rfl),fnB_ok (by kernel_rfl)⟩
theorem dstT_len(t:Tpl)(f:Int):(dstT t f).length≤24:=by
  unfold dstT
  split
  · rename_i hc
    have hn:=(chk5_len hc).1
    have:∀l:List Rtr,(l.flatMap (dst1 t f)).length≤l.length:=λl=>by
      induction l with
      | nil=>simp
      | cons r l ih => rw [List.flatMap_cons, List.length_append, List.length_cons]; have : (dst1 t f r).length ≤ 1 := by unfold dst1; split <;> simp
                       omega
    have:=this t.rs;omega
  · simp
def dis1(t:Tpl)(M:List (Hop×Int))(r:Rtr):List (Hop×Int):=(dstT t r.id).foldl (λm d=>mput m ⟨r.id,d.r⟩ d.c) M
def disT(t:Tpl):List (Hop×Int):=t.rs.foldl (dis1 t) []
def allP_a(t:Tpl):Prop:=okL [.agg [.sl 2 (t.rs.map Rtr.v) false,.sl 5 (t.ls.map Lnk.v) false]]
def allP_n0(t:Tpl)(t0:Int×(List (Hop×Int))):NF:=⟨[(1,.k,.ref 0 0),(3,.k,.mref 1),(10,.k,.sl 2 (t.rs.map Rtr.v) false),(11,.k,.int ((t.rs.map Rtr.v).length:Int)),(12,.k,.int t0.1)],[.box (.agg [.sl 2 (t.rs.map Rtr.v) false,.sl 5 (t.ls.map Lnk.v) false]),.map (some 2) (t0.2.map λp=>kHop p.1) (t0.2.map λp=>AV.int p.2) (pureBL_map (λ_=>rfl) _)]⟩
def allP_n1(t:Tpl)(t0:Int×(List (Hop×Int)))(x1:Rtr)(t1:Int×(List (Hop×Int))):NF:=⟨[(1,.k,.ref 0 0),(3,.k,.mref 1),(5,.k,.ref 2 0),(10,.k,.sl 2 (t.rs.map Rtr.v) false),(11,.k,.int ((t.rs.map Rtr.v).length:Int)),(12,.k,.int t0.1),(19,.k,.sl 2 ((dstT t x1.id).map Dst.v) false),(20,.k,.int (((dstT t x1.id).map Dst.v).length:Int)),(21,.k,.int t1.1)],[.box (.agg [.sl 2 (t.rs.map Rtr.v) false,.sl 5 (t.ls.map Lnk.v) false]),.map (some 2) (t1.2.map λp=>kHop p.1) (t1.2.map λp=>AV.int p.2) (pureBL_map (λ_=>rfl) _),.box (.agg [.int x1.id,.bool x1.cap])]⟩
@[reducible] def allP_s:Nat→Type
 | 0=>Int×(List (Hop×Int))
 | 1=>Int×(List (Hop×Int))
 | _=>Unit
def allP_e(r:(List (Hop×Int))):AV:=.mp (some 2) (r.map λp:Hop×Int=>kHop p.1) (r.map λp:Hop×Int=>AV.int p.2)
def allP_x(t:Tpl)(I0:(Int×(List (Hop×Int)))→Prop)(m0:(Int×(List (Hop×Int)))→Nat)(I1:Int×(List (Hop×Int))→Rtr→(Int×(List (Hop×Int)))→Prop)(m1:Int×(List (Hop×Int))→Rtr→(Int×(List (Hop×Int)))→Nat):Ax Tryz.prog allP_s ((List (Hop×Int))):=
 (.loop 0 (allP_n0 t) I0 m0 (0,([]:List (Hop×Int))) [0,32] λ(t0:Int×(List (Hop×Int))) b0 =>
(.br 18 (decide (t0.1<((t.rs.map Rtr.v).length:Int))) (.elI 18 Rtr.v t.rs t0.1 λx1 =>
(.callP (dstP_c t x1.id)
(.loop 1 (allP_n1 t t0 x1) (I1 t0 x1) (m1 t0 x1) (0,t0.2) [0,1,50] λ(t1:Int×(List (Hop×Int))) b1 =>
(.br 19 (decide (t1.1<(((dstT t x1.id).map Dst.v).length:Int))) (.elI 19 Dst.v (dstT t x1.id) t1.1 λx2 =>
(.mn 211 (mnPutHop AV.int t1.2 (⟨x1.id,x2.r⟩:Hop) x2.c) (.bk 1 b1 (W (t1.1+1),mput t1.2 (⟨x1.id,x2.r⟩:Hop) x2.c) [0,1,2])))
(.bk 0 b0 (W (t0.1+1),t1.2) [0,1])))))
(.say (Rf (t0.2.map λp=>AV.int p.2)) (.cmdL (.frzM 1 (t0.2.map λp=>AV.int p.2) (pureBL_map (λ_=>rfl) _)) (.ret (t0.2))))))
def allP_vc(t:Tpl)(I0:(Int×(List (Hop×Int)))→Prop)(m0:(Int×(List (Hop×Int)))→Nat)(I1:Int×(List (Hop×Int))→Rtr→(Int×(List (Hop×Int)))→Prop)(m1:Int×(List (Hop×Int))→Rtr→(Int×(List (Hop×Int)))→Nat)(r0:(List (Hop×Int))):Prop:=(allP_x t I0 m0 I1 m1).vp allP_e r0
theorem allP_p(t:Tpl)(ok:allP_a t):∃I0 m0 I1 m1,allP_vc t I0 m0 I1 m1 (disT t):=by
 refine⟨λs=>∃k:Nat,s.1=k∧k≤t.rs.length∧s.2=(t.rs.take k).foldl (dis1 t) [],λs=>t.rs.length-s.1.toNat,
  λs r q=>∃k:Nat,q.1=k∧k≤(dstT t r.id).length∧q.2=((dstT t r.id).take k).foldl (λm d=>mput m ⟨r.id,d.r⟩ d.c) s.2,λs r q=>(dstT t r.id).length-q.1.toNat,?_⟩
 simp only[allP_a,okU,Blk.ok,plainV,List.length_map]at ok
 dsimp only[allP_vc,allP_x,allP_s,Ax.vp,Ax.vc];simp only[vcU,rfU,List.length_map]
 refine⟨⟨0,rfl,by omega,rfl⟩,?_⟩
 rintro⟨_,M⟩ ⟨k,rfl,hk,hM⟩
 simp only at hM ⊢
 refine⟨λc=>⟨by omega,c,λr hr=>⟨⟨0,rfl,by omega,rfl⟩,?_⟩⟩,λc=>by rw[hM,List.take_of_length_le (by omega)];rfl⟩
 rintro⟨_,N⟩ ⟨j,rfl,hj,hN⟩
 simp only at hN ⊢
 have hdl:=dstT_len t r.id
 refine⟨λd=>⟨by omega,d,λy hy=>⟨⟨j+1,W_succ (n:=(dstT t r.id).length) (by omega) (by omega),by omega,?_⟩,?_⟩⟩,λd=>⟨⟨k+1,W_succ (n:=t.rs.length) (by omega) (by omega),by omega,?_⟩,?_⟩⟩
 ·rw[Int.toNat_natCast]at hy
  rw[take_succ hy,List.foldl_append,←hN];rfl
 ·rw[W_succ (n:=(dstT t r.id).length) (by omega) (by omega)];omega
 ·rw[Int.toNat_natCast]at hr
  rw[take_succ hr,List.foldl_append,←hM]
  show N=dis1 t M r
  rw[hN,List.take_of_length_le (by omega)];rfl
 ·rw[W_succ (n:=t.rs.length) (by omega) (by omega)];omega
def allP_c(t:Tpl):PC Tryz.prog:=⟨93,[(.a [(.s 2),(.s 5)])],[.agg [.sl 2 (t.rs.map Rtr.v) false,.sl 5 (t.ls.map Lnk.v) false]],allP_e (disT t),PSpec.of_ok λok=>(allP_p t ok).elim λI0 h=>h.elim λm0 h=>h.elim λI1 h=>h.elim λm1 h=>mxP_of (sh:=.k) (enc:=allP_e) (a:=(allP_x t I0 m0 I1 m1).an) h (by kernel_rfl) (AV.pureB_ok rfl),fnB_ok (by kernel_rfl)⟩
structure DisI (t:Tpl) (M:List (Hop×Int)):Prop where
  nd:(mkeys M).Nodup
  ok:∀p∈M,cos6 t p.1.a p.1.b=(p.2,true)
theorem dst_mem{t:Tpl}{f:Int}{d:Dst}(h:d∈dstT t f):cos6 t f d.r=(d.c,true):=by
 unfold dstT at h
 split at h
 ·obtain⟨r,_,h⟩:=List.mem_flatMap.mp h
  unfold dst1 at h
  split at h
  ·rename_i e
   rw[List.mem_singleton]at h
   subst h
   exact Prod.ext rfl e
  ·cases h
 ·cases h
theorem dst_in{t:Tpl}(hc:chk5 t=0){f g:Int}(h:(cos6 t f g).2=true)(hg:has5 t g=true):⟨g,(cos6 t f g).1⟩∈dstT t f:=by
 unfold dstT
 rw[if_pos hc]
 obtain⟨r,hr,e⟩:=List.any_eq_true.mp hg
 have e:r.id=g:=eq_of_beq e
 refine List.mem_flatMap.mpr ⟨r,hr,?_⟩
 unfold dst1
 rw[e,if_pos h];exact List.mem_singleton.mpr rfl
theorem DisI.put{t:Tpl}{M:List (Hop×Int)}(h:DisI t M){x y c:Int}(e:cos6 t x y=(c,true)):DisI t (mput M ⟨x,y⟩ c)∧(⟨x,y⟩,c)∈mput M ⟨x,y⟩ c∧∀p∈M,p∈mput M ⟨x,y⟩ c:=by
 refine⟨⟨mput_nodup h.nd,λp hp=>?_⟩,(mput_mem h.nd).mpr (.inl rfl),λp hp=>?_⟩
 ·rcases(mput_mem h.nd).mp hp with rfl|⟨hp,_⟩
  ·exact e
  ·exact h.ok p hp
 ·rw[mput_mem h.nd]
  by_cases q:p.1=⟨x,y⟩
  ·left
   have:=h.ok p hp
   rw[q,e]at this
   exact Prod.ext q (Prod.mk.inj this).1.symm
  ·exact .inr ⟨hp,q⟩
theorem dis1_ok{t:Tpl}(x:Int):∀(l:List Dst) (M:List (Hop×Int)),(∀d∈l,cos6 t x d.r=(d.c,true))→DisI t M →
  DisI t (l.foldl (λm d=>mput m ⟨x,d.r⟩ d.c) M)∧(∀p∈M,p∈l.foldl (λm d=>mput m ⟨x,d.r⟩ d.c) M)∧∀d∈l,(⟨x,d.r⟩,d.c)∈l.foldl (λm d=>mput m ⟨x,d.r⟩ d.c) M
 | [],M,_,h=>⟨h,λp hp=>hp,λd hd=>by simp at hd⟩
 | d::l,M,hl,h=>by
  obtain⟨g1,g2,g3⟩:=h.put (hl d (by simp))
  obtain⟨k1,k2,k3⟩:=dis1_ok x l _ (λd hd=>hl d (by simp[hd])) g1
  refine⟨k1,λp hp=>k2 p (g3 p hp),λd' hd'=>?_⟩
  rcases List.mem_cons.mp hd' with rfl|hd'
  ·exact k2 _ g2
  ·exact k3 d' hd'
theorem disF_ok{t:Tpl}:∀(l:List Rtr) (M:List (Hop×Int)),DisI t M→DisI t (l.foldl (dis1 t) M)∧(∀p∈M,p∈l.foldl (dis1 t) M)∧∀r∈l,∀d∈dstT t r.id,(⟨r.id,d.r⟩,d.c)∈l.foldl (dis1 t) M
 | [],M,h=>⟨h,λp hp=>hp,λr hr=>by simp at hr⟩
 | r::l,M,h=>by
  obtain⟨g1,g2,g3⟩:=dis1_ok r.id (dstT t r.id) M (λd hd=>dst_mem hd) h
  obtain⟨k1,k2,k3⟩:=disF_ok l (dis1 t M r) g1
  refine⟨k1,λp hp=>k2 p (g2 p hp),λr' hr' d hd=>?_⟩
  rcases List.mem_cons.mp hr' with rfl|hr'
  ·exact k2 _ (g3 d hd)
  ·exact k3 r' hr' d hd
theorem cos6_has{t:Tpl}{x y:Int}(h:(cos6 t x y).2=true):chk5 t=0∧has5 t x=true∧has5 t y=true:=by
 unfold cos6 at h
 split at h
 ·cases h
 ·rename_i e
  have h1:hs5 t x=true:=by simp at e;exact e.1
  have h2:hs5 t y=true:=by simp at e;exact e.2
  exact⟨(hs5_iff.mp h1).1,(hs5_iff.mp h1).2,(hs5_iff.mp h2).2⟩
theorem cos6_no{t:Tpl}{x y:Int}(h:(cos6 t x y).2=false):(cos6 t x y).1=0:=by
 unfold cos6 at *
 split
 ·rfl
 ·rename_i e
  rw[if_neg e]at h
  split
  ·rfl
  ·rename_i g;rw[if_neg g]at h;cases h
theorem dis_has(t:Tpl)(x y:Int):mhas (disT t) ⟨x,y⟩=(cos6 t x y).2:=by
 obtain⟨g1,_,g3⟩:=disF_ok (t:=t) t.rs [] ⟨List.nodup_nil,λp hp=>by simp at hp⟩
 rw[Bool.eq_iff_iff,mhas_iff]
 constructor
 ·rintro⟨v,hv⟩
  have:=g1.ok _ hv
  rw[show cos6 t x y=_ from this]
 ·intro h
  obtain⟨hc,hx,hy⟩:=cos6_has h
  obtain⟨r,hr,e⟩:=List.any_eq_true.mp hx
  have e:r.id=x:=eq_of_beq e
  have:=g3 r hr _ (dst_in hc (by rw[e];exact h) hy)
  rw[e]at this
  exact⟨_,this⟩
theorem dis_val(t:Tpl)(x y:Int):mval (disT t) ⟨x,y⟩ 0=(cos6 t x y).1:=by
 obtain⟨g1,_,g3⟩:=disF_ok (t:=t) t.rs [] ⟨List.nodup_nil,λp hp=>by simp at hp⟩
 cases e:(cos6 t x y).2 with
 | false=>rw[mval_no (by rw[dis_has,e]),cos6_no e]
 | true =>
  have h:=mval_mem (z:=0) (show mhas (disT t) ⟨x,y⟩=true by rw[dis_has,e])
  have:=g1.ok _ h
  rw[show cos6 t x y=_ from this]
def thrT(m:List (Hop×Int))(x d:Int)(h:Hop)(c:Int):Bool:=mhas m ⟨x,h.a⟩ && (mhas m ⟨h.b,d⟩ && (W (W (mval m ⟨x,h.a⟩ 0+c)+mval m ⟨h.b,d⟩ 0)==mval m ⟨x,d⟩ 0))
def thrP_a(m:(List (Hop×Int)))(x:Int)(d:Int)(h_:Hop)(cost:Int):Prop:=okL [.mp (some 2) (m.map λp:Hop×Int=>kHop p.1) (m.map λp:Hop×Int=>AV.int p.2),.int x,.int d,.agg [.int h_.a,.int h_.b],.int cost]
def thrP_e(r:Bool):AV:=.bool r
def thrP_x(m:(List (Hop×Int)))(x:Int)(d:Int)(h_:Hop)(cost:Int):Ax Tryz.prog noS (Bool):=
 (.mn 112 (mnGetHop AV.int m (⟨x,h_.a⟩:Hop) 0) (.mn 288 (mnGetHop AV.int m (⟨h_.b,d⟩:Hop) 0) (.br 416 (mhas m (⟨x,h_.a⟩:Hop)) (.br 464 (mhas m (⟨h_.b,d⟩:Hop)) (.mn 608 (mnGetHop AV.int m (⟨x,d⟩:Hop) 0) (.ret ((W ((W ((mval m (⟨x,h_.a⟩:Hop) 0)+cost))+(mval m (⟨h_.b,d⟩:Hop) 0)))==(mval m (⟨x,d⟩:Hop) 0))))
(.ret (false)))
(.ret (false)))))
def thrP_vc(m:(List (Hop×Int)))(x:Int)(d:Int)(h_:Hop)(cost:Int)(r0:Bool):Prop:=(thrP_x m x d h_ cost).vp thrP_e r0
theorem thrP_p(m:List (Hop×Int))(x d:Int)(h:Hop)(c:Int)(ok:thrP_a m x d h c):thrP_vc m x d h c (thrT m x d h c):=by
 dsimp only[thrP_vc,thrP_x,noS,Ax.vp,Ax.vc];simp only[vcU,rfU,List.length_map]
 unfold thrT
 refine⟨λa=>⟨λb=>by rw[a,b];rfl,λb=>by rw[a,b];rfl⟩,λa=>by rw[a];rfl⟩
def thrP_c(m:(List (Hop×Int)))(x:Int)(d:Int)(h_:Hop)(cost:Int):PC Tryz.prog:=⟨94,[.k,.k,.k,.k,.k],[.mp (some 2) (m.map λp:Hop×Int=>kHop p.1) (m.map λp:Hop×Int=>AV.int p.2),.int x,.int d,.agg [.int h_.a,.int h_.b],.int cost],thrP_e (thrT m x d h_ cost),PSpec.of_ok λok=>mxP_of (sh:=.k) (enc:=thrP_e) (a:=(thrP_x m x d h_ cost).an) (thrP_p m x d h_ cost ok) (by kernel_rfl) (AV.pureB_ok rfl),fnB_ok (by kernel_rfl)⟩
theorem stepCallE{P:Program}{n:Nat}{o:Oper}{f:Nat}{tm:Nat→AV}{hp:Hp}{g:AO}{xs:List AO}(ho:cOp P o.op o.type=.call g xs)(hd:∀d,o.dst=some d→d<n)
  {fid:FuncId} {caps:List AV} (hg:evO tm g=.func fid caps) {foot:List Nat} {Qv:AV→Eff→Prop} (h:CallE P n fid (xs.map (evO tm)++caps) f hp foot Qv)
  {c:Ctx} {A:Nat→Prop} {μ:Mu} {fr:Nat→Prop} {a:Act} {w:World} {K:Act→World→Prop} {Q:Exit→Act→World→Prop} (H:RelE P c A μ fr tm hp n a w) (h3:∀j,j<16→fr (f+j))
  (hK:∀v e,Qv v e→∀a' w' A' μ',RelE P c A' μ' (λb=>fr b∧¬(f≤b∧b<f+16)) (putD o.dst v tm) (hpEff e hp) n a' w'→K a' w'):o.wp P a w K Q:=by
 obtain⟨⟨fn,f1,f2,f3⟩,hcall⟩:=h
 have hop:=cOp_call ho
 obtain⟨g',args,ts,ho',rfl,rfl⟩:=hop
 have hgr:=H.ev g'
 rw[hg]at hgr
 obtain⟨cvs,e1,e2⟩:=hgr
 have hxs:(args.toList.map (cO P)).map (evO tm)=args.toList.map λx=>evO tm (cO P x):=by rw[List.map_map];rfl
 rw[hxs]at hcall
 have hargs:=(H.evs args.toList).append e2
 have:=hcall c A μ fr tm hp a w _ H (λ_ _=>rfl) h3 hargs
 unfold Oper.wp
 rw[exec_callv ho' e1 f1 f2 f3,Oper.upon_enter]
 have ea:args.map a.eval++cvs.toArray=(args.toList.map a.eval++cvs).toArray:=by apply Array.ext';simp
 rw[ea]
 refine this.mono ?_
 rintro e' w' ⟨v,e,hq,cv,A',μ',rfl,r1,r2⟩
 exact hK v e hq _ _ _ _ (r1.put o.dst hd r2)
theorem AWP.regE{P:Program}{k n:Nat}{Q:X→S3→Prop}{s:S3}{os1 os2:List AOper}{d:Option Nat}{g:AO}{xs:List AO}
  (h:evT P n os1 s.nx ⟨s.tm,s.hp⟩ (λs1 f1=>∃fid caps foot Qv,evO s1.tm g=.func fid caps∧CallE P n fid (xs.map (evO s1.tm)++caps) f1 s1.hp foot Qv ∧
   ∀v e,Qv v e→evT P n os2 (f1+16) ⟨putD d v s1.tm,hpEff e s1.hp⟩ (λs' f=>Q .normal ⟨s'.tm,s'.hp,f⟩))):AWP P k n (.reg (os1++⟨d,.call g xs,none⟩::os2)) Q s:=by
 intro code hc c a w H
 cases code<;>simp only[cCode]at hc<;>try cases hc
 rename_i id ops' draw
 rcases cReg_inv hc with h'|⟨hd,h'⟩|⟨_,_,_,h'⟩
 ·cases h'
 ·subst hd
  have h':os1++⟨d,.call g xs,none⟩::os2=ops'.toList.map (cOper P n ops'):=AC.reg.inj h'
  obtain⟨h0,A,μ,hr⟩:=H
  obtain⟨l1,l2,e1,rfl,e3⟩:=List.map_eq_append_iff.mp h'.symm
  cases l2 with
  | nil=>cases e3
  | cons o l2 =>
   rw[List.map_cons]at e3
   obtain⟨e4,rfl⟩:=List.cons.inj e3
   refine wp_region_list ?_
   rw[e1]
   refine evT_soundR (c:=c) _ (o::l2) (λs1 f1 a1 w1 A1 μ1 hK hr1=>?_) l1 s.nx ⟨s.tm,s.hp⟩ a w A μ h hr
   obtain⟨fid,caps,foot,Qv,k1,k2,k3⟩:=hK
   rcases cOper_cases P n ops' o with hb|⟨gd,hg,hd,hb⟩
   ·rw[hb]at e4;cases e4
   rw[hb]at e4
   obtain⟨rfl,e5,rfl⟩:o.dst=d∧cOp P o.op o.type=.call g xs∧gd=none:=by
    have e6:=AOper.mk.inj e4
    exact⟨e6.1,e6.2.1,e6.2.2⟩
   have hgd:o.guard=none:=by
    cases q:o.guard with
    | none=>rfl
    | some jw=>rw[q]at hg;obtain⟨j,wt⟩:=jw;simp only[cGuard]at hg;split at hg<;>cases hg
   unfold wpList
   rw[if_pos (by simp[Region.wanted,hgd])]
   refine .inl (stepCallE e5 hd k1 k2 hr1 (λj _=>by omega) λv e hq a' w' A' μ' hr'=>?_)
   exact evT_sound (c:=c) _ (λs' f a w A μ hK hr=>⟨⟨s'.tm,s'.hp,f⟩,hK,h0,A,μ,hr⟩) l2 (f1+16) _ a' w' A' μ' (k3 v e hq) (hr'.free λb hb=>⟨by omega,λh=>by omega⟩)
 ·cases h'
abbrev Rws:=List (Int×List Int)
def kyL(L:Rws):List MK:=L.map λp=>MK.n p.1
structure Fam (hp:Hp) (nx bm:Nat) (ns:List Nat) (L:Rws):Prop where
  hm:hp bm=some (.map none (kyL L) (ns.map AV.vec))
  ln:ns.length=L.length
  nd:ns.Nodup
  kd:(mkeys L).Nodup
  lt:∀b∈ns,b<nx
  bl:bm<nx
  row:∀(i:Nat) b p,ns[i]?=some b→L[i]?=some p→hp b=some (.vec 1 (p.2.map AV.int))
theorem Fam.vec{hp:Hp}{nx bm:Nat}{ns:List Nat}{L:Rws}(h:Fam hp nx bm ns L){b:Nat}(hb:b∈ns):∃es,hp b=some (.vec 1 es):=by
 obtain⟨i,hi⟩:=List.mem_iff_getElem?.mp hb
 have hl:=lt_of_get hi
 have hl':i<L.length:=by rw[←h.ln];exact hl
 exact⟨_,h.row i b _ hi (List.getElem?_eq_getElem hl')⟩
theorem Fam.ne{hp:Hp}{nx bm:Nat}{ns:List Nat}{L:Rws}(h:Fam hp nx bm ns L){b:Nat}(hb:∀es,hp b≠some (.vec 1 es)):b ∉ ns:=λc=>by
 obtain⟨es,e⟩:=h.vec c;exact hb es e
theorem Fam.bm_no{hp:Hp}{nx bm:Nat}{ns:List Nat}{L:Rws}(h:Fam hp nx bm ns L):bm ∉ ns:=h.ne λes e=>by rw[h.hm]at e;cases e
theorem Fam.keep{hp hp':Hp}{nx nx' bm:Nat}{ns:List Nat}{L:Rws}(h:Fam hp nx bm ns L)(e:∀b,b<nx→(b=bm∨b∈ns)→hp' b=hp b)(hn:nx≤nx'):Fam hp' nx' bm ns L:=
 ⟨(e bm h.bl (.inl rfl)).trans h.hm,h.ln,h.nd,h.kd,λb hb=>Nat.lt_of_lt_of_le (h.lt b hb) hn,Nat.lt_of_lt_of_le h.bl hn,λi b p hi hp=>(e b (h.lt b (List.mem_of_getElem? hi)) (.inr (List.mem_of_getElem? hi))).trans (h.row i b p hi hp)⟩
theorem kyL_mem{L:Rws}{k:Int}:MK.n k∈kyL L↔k∈mkeys L:=by
 unfold kyL mkeys
 constructor
 ·intro h;obtain⟨p,hp,e⟩:=List.mem_map.mp h;exact List.mem_map.mpr ⟨p,hp,MK.n.inj e⟩
 ·intro h;obtain⟨p,hp,rfl⟩:=List.mem_map.mp h;exact List.mem_map.mpr ⟨p,hp,rfl⟩
theorem kyL_idx{L:Rws}(hn:(mkeys L).Nodup){k:Int}{i:Nat}{p:Int×List Int}(hp:L[i]?=some p)(e:p.1=k):(kyL L).idxOf (MK.n k)=i∧midx L k=i:=by
 have h1:(mkeys L)[i]?=some k:=by unfold mkeys;rw[List.getElem?_map,hp,←e];rfl
 have h2:(kyL L)[i]?=some (MK.n k):=by unfold kyL;rw[List.getElem?_map,hp,←e];rfl
 refine⟨idxOf_of ?_ h2,?_⟩
 ·have:kyL L=(mkeys L).map MK.n:=by unfold kyL mkeys;rw[List.map_map];rfl
  rw[this]
  exact List.Pairwise.map MK.n (λa b h e=>h (MK.n.inj e)) hn
 ·obtain⟨hl,rfl⟩:=List.getElem?_eq_some_iff.mp h1
  exact hn.idxOf_getElem i hl
theorem Fam.no{hp:Hp}{nx bm:Nat}{ns:List Nat}{L:Rws}(h:Fam hp nx bm ns L){k:Int}(hk:mhas L k=false)(z v:AV)(kk:Option Nat) :
  mgetA (kyL L) (ns.map AV.vec) (MK.n k) z false=z∧msetA kk (kyL L) (ns.map AV.vec) (MK.n k) v=.map kk (kyL L++[MK.n k]) (ns.map AV.vec++[v]):=by
 have hn:MK.n k ∉ kyL L:=λc=>by rw[kyL_mem]at c;unfold mhas at hk;simp[c]at hk
 unfold mgetA msetA
 rw[if_neg hn,if_neg hn];exact⟨rfl,rfl⟩
theorem Fam.yes{hp:Hp}{nx bm:Nat}{ns:List Nat}{L:Rws}(h:Fam hp nx bm ns L){k:Int}(hk:mhas L k=true):∃(i b:Nat),ns[i]?=some b∧L[i]?=some (k,mval L k [])∧midx L k=i∧hp b=some (.vec 1 ((mval L k []).map AV.int)) ∧
  (∀z,mgetA (kyL L) (ns.map AV.vec) (MK.n k) z false=.vec b)∧∀kk v,msetA kk (kyL L) (ns.map AV.vec) (MK.n k) v=.map kk (kyL L) ((ns.map AV.vec).set i v):=by
 have hm:k∈mkeys L:=by unfold mhas at hk;simpa using hk
 obtain⟨v,hv⟩:=midx_at hm
 have hval:mval L k []=v:=by unfold mval;rw[hv]
 have hi:=lt_of_get hv
 have hb:ns[midx L k]?=some (ns[midx L k]'(by rw[h.ln];exact hi)):=List.getElem?_eq_getElem _
 generalize ns[midx L k]'(by rw[h.ln];exact hi)=b at hb
 obtain⟨e1,_⟩:=kyL_idx h.kd hv rfl
 refine⟨midx L k,b,hb,by rw[hval];exact hv,rfl,by rw[hval];exact h.row _ b _ hb hv,λz=>?_,λkk v=>?_⟩
 ·unfold mgetA
  rw[if_pos (kyL_mem.mpr hm),e1,List.getD_eq_getElem?_getD,List.getElem?_map,hb];rfl
 ·unfold msetA
  rw[if_pos (kyL_mem.mpr hm),e1]
theorem mput_no{L:Rws}{k:Int}(hk:mhas L k=false)(v:List Int):mput L k v=L++[(k,v)]:=by
 have hn:k ∉ mkeys L:=λc=>by unfold mhas at hk;simp[c]at hk
 unfold mput;rw[if_neg hn]
theorem mput_yes{L:Rws}{k:Int}(hk:mhas L k=true)(v:List Int):mput L k v=L.set (midx L k) (k,v):=by
 have hm:k∈mkeys L:=by unfold mhas at hk;simpa using hk
 unfold mput;rw[if_pos hm]
theorem Fam.put_no{hp hp':Hp}{nx nx' bm f:Nat}{ns:List Nat}{L:Rws}(h:Fam hp nx bm ns L){k y:Int}(hk:mhas L k=false)(hf:nx≤f)(hf':f<nx')
  (e1:hp' bm=some (.map none (kyL L++[MK.n k]) (ns.map AV.vec++[.vec f]))) (e2:hp' f=some (.vec 1 [.int y])) (e3:∀b,b<nx→b≠bm→hp' b=hp b):Fam hp' nx' bm (ns++[f]) (mput L k (mval L k []++[y])):=by
 have hv:mval L k []=[]:=mval_no hk
 rw[hv,mput_no hk]
 refine⟨by rw[e1];simp[kyL],by simp[h.ln],?_,?_,λb hb=>?_,by have:=h.bl;omega,λi b p hi hp=>?_⟩
 ·refine List.nodup_append.mpr ⟨h.nd,by simp,λa ha b hb=>?_⟩
  rw[List.mem_singleton.mp hb];have:=h.lt a ha;omega
 ·rw[show mkeys (L++[(k,[]++[y])])=mkeys L++[k] by simp[mkeys]]
  refine List.nodup_append.mpr ⟨h.kd,by simp,λa ha b hb=>?_⟩
  rw[List.mem_singleton.mp hb];rintro rfl;unfold mhas at hk;simp[ha]at hk
 ·rcases List.mem_append.mp hb with hb|hb
  ·have:=h.lt b hb;omega
  ·rw[List.mem_singleton.mp hb];exact hf'
 ·by_cases c:i<ns.length
  ·rw[List.getElem?_append_left c]at hi
   rw[List.getElem?_append_left (by rw[←h.ln];exact c)]at hp
   have hbm:=List.mem_of_getElem? hi
   rw[e3 b (h.lt b hbm) (λq=>h.bm_no (q ▸ hbm))]
   exact h.row i b p hi hp
  ·have hl:=lt_of_get hi
   rw[List.length_append,List.length_singleton]at hl
   obtain rfl:i=ns.length:=by omega
   rw[List.getElem?_append_right (Nat.le_refl _),Nat.sub_self]at hi
   rw[List.getElem?_append_right (by rw[h.ln];exact Nat.le_refl _),h.ln,Nat.sub_self]at hp
   cases hi;cases hp
   exact e2
theorem Fam.put_yes{hp hp':Hp}{nx nx' bm f i b0:Nat}{ns:List Nat}{L:Rws}(h:Fam hp nx bm ns L){k y:Int}(hk:mhas L k=true)(hi:ns[i]?=some b0)(hL:L[i]?=some (k,mval L k []))(hx:midx L k=i)(hf:nx≤f)(hf':f<nx')
  (e1:hp' bm=some (.map none (kyL L) ((ns.map AV.vec).set i (.vec f)))) (e2:hp' f=some (.vec 1 ((mval L k []).map AV.int++[.int y]))) (e3:∀b,b<nx→b≠bm→b≠b0→hp' b=hp b):Fam hp' nx' bm (ns.set i f) (mput L k (mval L k []++[y])):=by
 rw[mput_yes hk,hx]
 have hil:=lt_of_get hi
 have hky:kyL (L.set i (k,mval L k []++[y]))=kyL L:=by
  unfold kyL
  rw[List.map_set]
  refine List.ext_getElem? λj=>?_
  rw[List.getElem?_set]
  split
  ·rename_i e;subst e
   rw[List.length_map,if_pos (lt_of_get hL),List.getElem?_map,hL];rfl
  ·rfl
 have hmk:mkeys (L.set i (k,mval L k []++[y]))=mkeys L:=by
  unfold mkeys
  rw[List.map_set]
  refine List.ext_getElem? λj=>?_
  rw[List.getElem?_set]
  split
  ·rename_i e;subst e
   rw[List.length_map,if_pos (lt_of_get hL),List.getElem?_map,hL];rfl
  ·rfl
 refine⟨by rw[e1,hky,List.map_set],by simp[h.ln],?_,by rw[hmk];exact h.kd,λb hb=>?_,by have:=h.bl;omega,λj b p hj hp=>?_⟩
 ·have hset:ns.set i f=ns.take i++f::ns.drop (i+1):=by rw[List.set_eq_take_append_cons_drop,if_pos hil]
  rw[hset]
  have hnd:=h.nd
  rw[←List.take_append_drop i ns,List.drop_eq_getElem_cons hil]at hnd
  obtain⟨q1,q2,q3⟩:=List.nodup_append.mp hnd
  refine List.nodup_append.mpr ⟨q1,List.nodup_cons.mpr ⟨λc=>?_,(List.nodup_cons.mp q2).2⟩,λa ha b hb=>?_⟩
  ·have:=h.lt f (List.mem_of_mem_drop c);omega
  ·rcases List.mem_cons.mp hb with rfl|hb
   ·have:=h.lt a (List.mem_of_mem_take ha);omega
   ·exact q3 a ha b (List.mem_cons_of_mem _ hb)
 ·rcases List.mem_or_eq_of_mem_set hb with hb|rfl
  ·have:=h.lt b hb;omega
  ·exact hf'
 ·rw[List.getElem?_set]at hj hp
  by_cases c:i=j
  ·subst c
   rw[if_pos rfl,if_pos hil]at hj
   rw[if_pos rfl,if_pos (lt_of_get hL)]at hp
   cases hj;cases hp
   rw[e2];simp
  ·rw[if_neg c]at hj hp
   have hbm:=List.mem_of_getElem? hj
   have hne:b≠b0:=λq=>by subst q;exact c ((List.getElem?_inj hil h.nd).mp (hi.trans hj.symm))
   rw[e3 b (h.lt b hbm) (λq=>h.bm_no (q ▸ hbm)) hne]
   exact h.row j b p hj hp
theorem Fam.give{k n:Nat}{tm:Nat→AV}{hp:Hp}{nx bm:Nat}{ns:List Nat}{L:Rws}(h:Fam hp nx bm ns L) :
  ∃hp',Weak k n ⟨tm,hp,nx⟩ ⟨tm,hp',nx⟩∧hp' bm=some (.map none (kyL L) (L.map λp=>AV.sl 1 (p.2.map AV.int) false))∧∀b,b≠bm→b ∉ ns→hp' b=hp b:=by
 let f:Nat→Nat:=λi=>(ns[i]?).getD (nx+i)
 have hf1:∀i,i<ns.length→ns[i]?=some (f i):=λi hi=>by simp only[f];rw[List.getElem?_eq_getElem hi];rfl
 have hf2:∀i,¬i<ns.length→f i=nx+i:=λi hi=>by simp only[f];rw[List.getElem?_eq_none (by omega)];rfl
 obtain⟨hp',vs',w,a1,a2,a3,a4,a5⟩:=Weak.giveRows (k:=k) (n:=n) (tm:=tm) (nx:=nx) (kk:=1) bm f (λi=>((L[i]?).elim [] (·.2)).map AV.int) (λi=>pureBL_ok (pureBL_map (λ_=>rfl) _)) (λi j e=>by
   by_cases ci:i<ns.length<;>by_cases cj:j<ns.length
   ·have h1:=hf1 i ci;have h2:=hf1 j cj
    rw[←e]at h2
    exact(List.getElem?_inj ci h.nd).mp (h1.trans h2.symm)
   ·have h1:=h.lt _ (List.mem_of_getElem? (hf1 i ci));have h2:=hf2 j cj;omega
   ·have h1:=h.lt _ (List.mem_of_getElem? (hf1 j cj));have h2:=hf2 i ci;omega
   ·have h1:=hf2 i ci;have h2:=hf2 j cj;omega)
  (λi e=>by
   by_cases ci:i<ns.length
   ·exact h.bm_no (e ▸ List.mem_of_getElem? (hf1 i ci))
   ·have h1:=hf2 i ci;have:=h.bl;omega) h.hm ns.length (λi hi=>⟨by rw[List.getElem?_map,hf1 i hi];rfl,by
    have hl':i<L.length:=by rw[←h.ln];exact hi
    have hL:=List.getElem?_eq_getElem hl'
    rw[h.row i _ _ (hf1 i hi) hL,hL];rfl⟩)
 refine⟨hp',w,?_,λb hb hn=>a5 b hb λi hi e=>hn (e ▸ List.mem_of_getElem? (hf1 i hi))⟩
 rw[a1]
 congr 2
 refine List.ext_getElem? λi=>?_
 by_cases hi:i<ns.length
 ·have hl':i<L.length:=by rw[←h.ln];exact hi
  have hL:=List.getElem?_eq_getElem hl'
  rw[a3 i hi,List.getElem?_map,hL];rfl
 ·rw[List.getElem?_eq_none (by rw[a2];simpa using hi),List.getElem?_eq_none (by rw[List.length_map,←h.ln];omega)]
def cf50:AF:=
 ⟨32,1,[.tmp 2],
 .seq (.reg [⟨(some 2),.move (.c (.val (.map none))),none⟩])
 (.seq (.reg [⟨(some 8),.mkm none,none⟩,⟨(some 3),.move (.t 8),none⟩])
 (.seq (.seq (.reg [⟨(some 9),.move (.t 0),none⟩,⟨(some 10),.rng (.t 9),none⟩])
 (.block 0 (.loop (.seq (.reg [⟨(some 11),.nxt (.t 10),none⟩,⟨(some 12),.ext 0 (.t 11),none⟩])
 (.seq (.cond (.t 12) (.skip) (.exit 0))
 (.block 1 (.seq (.reg [⟨(some 13),.ent (.t 10),none⟩,⟨(some 14),.ext 0 (.t 13),none⟩,⟨(some 15),.ext 1 (.t 13),none⟩,⟨(some 4),.move (.t 14),none⟩,⟨(some 5),.move (.t 15),none⟩])
 (.seq (.reg [⟨(some 16),.move (.t 5),none⟩,⟨(some 17),.len (.t 16),none⟩,⟨(some 18),.move (.c (.val (.int .i64 0))),none⟩])
 (.block 2 (.loop (.seq (.reg [⟨(some 19),.bin .lss (.t 18) (.t 17),none⟩])
 (.seq (.cond (.t 19) (.skip) (.exit 2))
 (.seq (.block 3 (.seq (.reg [⟨(some 20),.iaddr 1 (.t 16) (.t 18),none⟩,⟨(some 21),.load false 1 (.t 20),none⟩,⟨(some 7),.move (.t 21),none⟩])
 (.reg [⟨(some 22),.move (.t 3),none⟩,⟨(some 23),.move (.t 7),none⟩,⟨(some 24),.move (.t 3),none⟩,⟨(some 25),.move (.t 7),none⟩,⟨(some 26),.mget none ((.sl 0 [] true)) false (.t 24) (.t 25),none⟩,⟨(some 27),.move (.t 4),none⟩,⟨(some 28),.lit 1 1 (.val (.int .i64 0)) [(0,(.t 27))],none⟩,⟨(some 29),.append 1 8 (.t 26) (.t 28),none⟩,⟨none,.mset none (.t 22) (.t 23) (.t 29),none⟩])))
 (.reg [⟨(some 30),.bin .add (.t 18) (.c (.val (.int .i64 1))),none⟩,⟨(some 18),.move (.t 30),none⟩]))))))))))))))
 (.seq (.reg [⟨(some 31),.move (.t 3),none⟩,⟨(some 2),.move (.t 31),none⟩])
 (.ret))))⟩
theorem cf50_ok:cFunc Tryz.prog Tryz.f50=some cf50:=by kernel_rfl
def pu(M:Rws)(k y:Int):Rws:=mput M k (mval M k []++[y])
def trn1(x:Int)(M:Rws)(l:List Int):Rws:=l.foldl (λM y=>pu M y x) M
def trnL(L:Rws)(is:List Nat):Rws:=is.foldl (λM i=>trn1 (L.getD i (0,[])).1 M (L.getD i (0,[])).2) []
def frzR(L:Rws):Blk:=.map none (kyL L) (L.map λp=>AV.sl 1 (p.2.map AV.int) false)
theorem frz_pure(L:Rws):pureL (L.map λp=>AV.sl 1 (p.2.map AV.int) false):=pureBL_ok (pureBL_map (λp=>by show AV.pureB (AV.sl 1 (p.2.map AV.int) false)=true;rw[AV.pureB];first|done|exact pureBL_map (λ_=>rfl) _) _)
structure RwsOk (L:Rws):Prop where
  len:L.length≤100
  ky:∀p∈L,Am.inK .i64 p.1
  row:∀p∈L,p.2.length≤100
  el:∀p∈L,∀y∈p.2,Am.inK .i64 y
theorem nxF{b nx:Nat}(h:b<nx):(∀k,(b=nx+k)=False)∧(∀k,(nx+k=b)=False)∧(b=nx)=False∧(nx=b)=False:=
 ⟨λk=>by simp;omega,λk=>by simp;omega,by simp;omega,by simp;omega⟩
theorem pu_len{M:Rws}{m:Nat}(h:∀p∈M,p.2.length≤m)(k y:Int):∀p∈pu M k y,p.2.length≤m+1:=λp hp=>by
 unfold pu at hp
 have hv:(mval M k []).length≤m:=by
  cases e:mhas M k with
  | false=>rw[mval_no e];simp
  | true=>exact h _ (mval_mem e)
 cases e:mhas M k with
 | false =>
  rw[mput_no e]at hp
  rcases List.mem_append.mp hp with hp|hp
  ·have:=h p hp;omega
  ·rw[List.mem_singleton.mp hp];simp;omega
 | true =>
  rw[mput_yes e]at hp
  rcases List.mem_or_eq_of_mem_set hp with hp|rfl
  ·have:=h p hp;omega
  ·simp;omega
theorem evA_mkm{kk:Option Nat}{f:Nat}{ρ:AO→AV}{hp:Hp}:evA (.mkm kk) f ρ hp={ c:=True,v:=.mref f,ad:=some (f,.map kk [] []) }:=rfl
structure TuI (L:Rws) (st:List Nat) (ck:Nat) (s:S3) (M:Rws) (is:List Nat):Prop where
  nx:81≤s.nx
  t3:s.tm 3=.mref 17
  t10:s.tm 10=.ref 65 0
  h0:s.hp 0=some (.mst none (kyL L) (L.map λp=>AV.sl 1 (p.2.map AV.int) false) st ck)
  hi:s.hp 65=some (.itr 0 st ck (is.map λi=>st.getD i 0))
  fam:∃ns,Fam s.hp s.nx 17 ns M
theorem turned_E(L:Rws)(hL:RwsOk L):HSpecE Tryz.prog 50 [.mref 0] [frzR L] (λr h'=>∃is:List Nat,is.Nodup∧(∀i∈is,i<L.length)∧(∀i,i<L.length→i∈is)∧r=.mref 1∧h'=[none,some (frzR (trnL L is))]):=by
 refine HSpecE.walk Tryz.func50 cf50_ok (by simp[cf50]) ?_
 unfold cf50
 simp only[initT,initH,List.length_cons,List.length_nil]
 refine AWP.open 0 (upd_same _ _ _) λst ck hs1 hs2 hn hv=>?_
 have hs2:st.length=L.length:=by rw[hs2];simp[kyL]
 have hkO:∀q∈kyL L,kOk q:=λq hq=>by
  obtain⟨p,hp,rfl⟩:=List.mem_map.mp hq
  exact hL.ky p hp
 refine AWP.seq' ?_
 refine AWP.reg' λK hK=>?_
 try simp only[stepS,stepD,stepM,eq_self,implies_true,forall_eq_or_imp,forall_eq,Nat.reduceEqDiff,↓reduceIte,Nat.reduceAdd,Nat.reduceLeDiff,Nat.reduceSub,Nat.reduceMul,Nat.reduceLT,Int.reduceBEq,Int.reduceBNe,Int.reduceToNat,Int.reduceLT,Int.reduceLE,Int.reduceAdd,Int.reduceSub,Int.reduceMul,reduceCtorEq]
 refine hK _ _ _ ?_
 clear hK K
 refine AWP.seq' ?_
 refine AWP.reg' λK hK=>?_
 try simp only[stepS,stepD,stepM,eq_self,implies_true,forall_eq_or_imp,forall_eq,Nat.reduceEqDiff,↓reduceIte,Nat.reduceAdd,Nat.reduceLeDiff,Nat.reduceSub,Nat.reduceMul,Nat.reduceLT,Int.reduceBEq,Int.reduceBNe,Int.reduceToNat,Int.reduceLT,Int.reduceLE,Int.reduceAdd,Int.reduceSub,Int.reduceMul,reduceCtorEq,evA_mkm]
 refine hK _ _ _ ?_
 clear hK K
 refine AWP.seq' (AWP.seq' ?_)
 refine AWP.reg' λK hK=>?_
 try simp only[stepS,stepD,stepM,eq_self,implies_true,forall_eq_or_imp,forall_eq,Nat.reduceEqDiff,↓reduceIte,Nat.reduceAdd,Nat.reduceLeDiff,Nat.reduceSub,Nat.reduceMul,Nat.reduceLT,Int.reduceBEq,Int.reduceBNe,Int.reduceToNat,Int.reduceLT,Int.reduceLE,Int.reduceAdd,Int.reduceSub,Int.reduceMul,reduceCtorEq]
 refine evT_rng rfl (by simp only[upd_ap];rfl) ?_
 try simp only[stepS,stepD,stepM,eq_self,implies_true,forall_eq_or_imp,forall_eq,Nat.reduceEqDiff,↓reduceIte,Nat.reduceAdd,Nat.reduceLeDiff,Nat.reduceSub,Nat.reduceMul,Nat.reduceLT,Int.reduceBEq,Int.reduceBNe,Int.reduceToNat,Int.reduceLT,Int.reduceLE,Int.reduceAdd,Int.reduceSub,Int.reduceMul,reduceCtorEq]
 refine hK _ _ _ ?_
 clear hK K
 refine AWP.block ?_
 refine AWP.loopS (λt:S3×List Nat=>t.1) (λt=>(t.2.Nodup∧(∀i∈t.2,i<L.length)∧∀p∈trnL L t.2,p.2.length≤100 * t.2.length)∧TuI L st ck t.1 (trnL L t.2) t.2) (λt=>L.length-t.2.length) (i0:=(_,[])) ?_ Weak.refl ?_
 ·refine⟨⟨List.nodup_nil,λi hi=>by simp at hi,λp hp=>by simp[trnL]at hp⟩,?_⟩
  exact⟨Nat.le_refl _,rfl,rfl,rfl,rfl,[],⟨rfl,rfl,List.nodup_nil,List.nodup_nil,by simp,by show 17<81;omega,by simp⟩⟩
 ·rintro⟨⟨tm,hp,nx⟩,is⟩ ⟨⟨i1,i2,i3⟩,hI⟩
  obtain⟨n1,g3,g10,g0,gi,ns,hF⟩:=hI
  simp only at n1 g3 g10 g0 gi hF i1 i2 i3 ⊢
  refine AWP.seq' ?_
  refine AWP.reg' λK hK=>?_
  try simp only[stepS,stepD,stepM,eq_self,implies_true,forall_eq_or_imp,forall_eq,Nat.reduceEqDiff,↓reduceIte,Nat.reduceAdd,Nat.reduceLeDiff,Nat.reduceSub,Nat.reduceMul,Nat.reduceLT,Int.reduceBEq,Int.reduceBNe,Int.reduceToNat,Int.reduceLT,Int.reduceLE,Int.reduceAdd,Int.reduceSub,Int.reduceMul,reduceCtorEq]
  refine evT_nxt g10 gi g0 hkO (λhs=>?_) (λi q v s0 e1 e2 e3 e4=>?_)
  ·try simp only[stepS,stepD,stepM,eq_self,implies_true,forall_eq_or_imp,forall_eq,Nat.reduceEqDiff,↓reduceIte,Nat.reduceAdd,Nat.reduceLeDiff,Nat.reduceSub,Nat.reduceMul,Nat.reduceLT,Int.reduceBEq,Int.reduceBNe,Int.reduceToNat,Int.reduceLT,Int.reduceLE,Int.reduceAdd,Int.reduceSub,Int.reduceMul,reduceCtorEq]
   refine hK _ _ _ ?_
   clear hK K
   refine AWP.seq' (AWP.cond (b:=false) rfl (λh=>by cases h) (λ_=>AWP.exit ?_))
   refine(show AWP _ _ _ _ _ _ from ?_)
   refine AWP.seq' ?_
   refine AWP.reg' λK hK=>?_
   try simp only[stepS,stepD,stepM,eq_self,implies_true,forall_eq_or_imp,forall_eq,Nat.reduceEqDiff,↓reduceIte,Nat.reduceAdd,Nat.reduceLeDiff,Nat.reduceSub,Nat.reduceMul,Nat.reduceLT,Int.reduceBEq,Int.reduceBNe,Int.reduceToNat,Int.reduceLT,Int.reduceLE,Int.reduceAdd,Int.reduceSub,Int.reduceMul,reduceCtorEq,g3]
   refine hK _ _ _ ?_
   clear hK K
   refine(show AWP _ _ _ _ _ _ from ?_)
   obtain⟨hp',w,h1,h2⟩:=(hF.keep (nx':=nx+16+16+16+16) (λ_ _ _=>rfl) (by omega)).give (k:=1) (n:=32) (tm:=upd (upd (upd (upd tm 11 (AV.tup [AV.bool false])) 12 (AV.bool false)) 31 (AV.mref 17)) 2 (AV.mref 17))
   refine AWP.ret ⟨_,_,⟨is,i1,i2,λi hi=>?_,rfl,rfl⟩,fin_weak w (fin_ren [0,17] [(2,.mref 1)] rfl rfl ?_ ?_ rfl (by decide) ?_ (by simp))⟩
   ·have hi':i<st.length:=by omega
    have h3:=hs _ (List.mem_of_getElem? (List.getElem?_eq_getElem hi'))
    obtain⟨j,hj,e⟩:=List.mem_map.mp h3
    have hj':j<st.length:=by have:=i2 j hj;omega
    rw[List.getD_eq_getElem?_getD,List.getElem?_eq_getElem hj']at e
    have e':st[j]?=st[i]?:=by rw[List.getElem?_eq_getElem hj',List.getElem?_eq_getElem hi'];exact congrArg some e
    rw[←(List.getElem?_inj hj' hs1).mp e'];exact hj
   ·simp only[List.mem_singleton,forall_eq]
    exact⟨rfl,show(1:Nat)<2 by omega⟩
   ·refine⟨⟨?_,?_⟩,trivial⟩
    ·show hp' 17=_
     rw[h1,frzR,Blk.ren,renL_pure _ (frz_pure _)]
    ·exact belL_pure (frz_pure _)
   ·intro b hb
    match b,hb with
    | 0,_=>rfl
  ·have hil:i<L.length:=by have:=lt_of_get e3;omega
   have hp':L[i]?=some L[i]:=List.getElem?_eq_getElem hil
   generalize L[i]=p at hp'
   obtain⟨x,l⟩:=p
   have e1':(kyL L)[i]?=some (MK.n x):=by rw[kyL,List.getElem?_map,hp'];rfl
   have e2':(L.map λp=>AV.sl 1 (p.2.map AV.int) false)[i]?=some (.sl 1 (l.map AV.int) false):=by rw[List.getElem?_map,hp'];rfl
   rw[e1']at e1;cases e1
   rw[e2']at e2;cases e2
   have hpm:=List.mem_of_getElem? hp'
   have hll:=hL.row _ hpm
   have hxk:=hL.ky _ hpm
   have hel:=hL.el _ hpm
   simp only at hll hxk hel
   have hml:=maxLen_eq
   try simp only[stepS,stepD,stepM,eq_self,implies_true,forall_eq_or_imp,forall_eq,Nat.reduceEqDiff,↓reduceIte,Nat.reduceAdd,Nat.reduceLeDiff,Nat.reduceSub,Nat.reduceMul,Nat.reduceLT,Int.reduceBEq,Int.reduceBNe,Int.reduceToNat,Int.reduceLT,Int.reduceLE,Int.reduceAdd,Int.reduceSub,Int.reduceMul,reduceCtorEq]
   refine hK _ _ _ ?_
   clear hK K
   refine AWP.seq' (AWP.cond (b:=true) rfl (λ_=>?_) (λh=>by cases h))
   refine AWP.skip ?_
   refine AWP.block (AWP.seq' ?_)
   refine AWP.reg' λK hK=>?_
   try simp only[stepS,stepD,stepM,eq_self,implies_true,forall_eq_or_imp,forall_eq,Nat.reduceEqDiff,↓reduceIte,Nat.reduceAdd,Nat.reduceLeDiff,Nat.reduceSub,Nat.reduceMul,Nat.reduceLT,Int.reduceBEq,Int.reduceBNe,Int.reduceToNat,Int.reduceLT,Int.reduceLE,Int.reduceAdd,Int.reduceSub,Int.reduceMul,reduceCtorEq]
   refine evT_ent (m:=0) g10 (upd_same _ _ _) ((upd_ne _ _ (by decide)).trans ((upd_ne _ _ (by decide)).trans g0)) e3 e1' e2' hxk ?_
   try simp only[stepS,stepD,stepM,eq_self,implies_true,forall_eq_or_imp,forall_eq,Nat.reduceEqDiff,↓reduceIte,Nat.reduceAdd,Nat.reduceLeDiff,Nat.reduceSub,Nat.reduceMul,Nat.reduceLT,Int.reduceBEq,Int.reduceBNe,Int.reduceToNat,Int.reduceLT,Int.reduceLE,Int.reduceAdd,Int.reduceSub,Int.reduceMul,reduceCtorEq,kAV]
   refine hK _ _ _ ?_
   clear hK K
   refine AWP.seq' ?_
   refine AWP.reg' λK hK=>?_
   try simp only[stepS,stepD,stepM,eq_self,implies_true,forall_eq_or_imp,forall_eq,Nat.reduceEqDiff,↓reduceIte,Nat.reduceAdd,Nat.reduceLeDiff,Nat.reduceSub,Nat.reduceMul,Nat.reduceLT,Int.reduceBEq,Int.reduceBNe,Int.reduceToNat,Int.reduceLT,Int.reduceLE,Int.reduceAdd,Int.reduceSub,Int.reduceMul,reduceCtorEq,List.length_map]
   repeat (refine And.intro (by omega) ?_)
   refine hK _ _ _ ?_
   clear hK K
   refine AWP.block ?_
   have hst:st.getD i 0=s0:=by rw[List.getD_eq_getElem?_getD,e3];rfl
   have hni:i ∉ is:=λc=>e4 (List.mem_map.mpr ⟨i,c,hst⟩)
   have hF1:∀b,b<nx→(b=17∨b∈ns)→b≠65:=λb _ hb e=>by
    subst e
    rcases hb with h|h
    ·omega
    ·obtain⟨es,q⟩:=hF.vec h;rw[gi]at q;cases q
   refine AWP.loopS (λt:S3×Nat=>t.1) (λt=>(t.2≤l.length∧∀p∈trn1 x (trnL L is) (l.take t.2),p.2.length≤100 * is.length+t.2)∧TuI L st ck t.1 (trn1 x (trnL L is) (l.take t.2)) (is++[i]) ∧
    t.1.tm 4=.int x∧t.1.tm 16=.sl 1 (l.map AV.int) false∧t.1.tm 17=.int l.length∧t.1.tm 18=.int (t.2:Nat)) (λt=>l.length-t.2) (i0:=(_,0)) ?_ Weak.refl ?_
   ·refine⟨⟨Nat.zero_le _,λp hp=>i3 p hp⟩,⟨by dsimp only;omega,?_,?_,?_,?_,ns,hF.keep (λb hb hn=>?_) (by dsimp only;omega)⟩,rfl,rfl,rfl,rfl⟩
    ·simp only[upd_ap];exact g3
    ·simp only[upd_ap];exact g10
    ·simp only[upd_ap];exact g0
    ·simp only[upd_ap,List.map_append,List.map_cons,List.map_nil,hst];rfl
    ·have:=hF1 b hb hn
     simp only[upd_ap,if_neg this]
   ·rintro⟨⟨tm1,hp1,nx1⟩,j⟩ ⟨⟨j1,j2⟩,⟨n1',g3',g10',g0',gi',ns',hF'⟩,t4,t16,t17,t18⟩
    simp only at n1' g3' g10' g0' gi' hF' t4 t16 t17 t18 j1 j2 ⊢
    refine AWP.seq' ?_
    refine AWP.reg' λK hK=>?_
    try simp only[stepS,stepD,stepM,eq_self,implies_true,forall_eq_or_imp,forall_eq,Nat.reduceEqDiff,↓reduceIte,Nat.reduceAdd,Nat.reduceLeDiff,Nat.reduceSub,Nat.reduceMul,Nat.reduceLT,Int.reduceBEq,Int.reduceBNe,Int.reduceToNat,Int.reduceLT,Int.reduceLE,Int.reduceAdd,Int.reduceSub,Int.reduceMul,reduceCtorEq,t17,t18]
    refine hK _ _ _ ?_
    clear hK K
    refine AWP.seq' ?_
    refine AWP.cond (b:=decide ((j:Int)<(l.length:Int))) rfl (λh=>?_) (λh=>?_)
    ·have h:j<l.length:=by have:=of_decide_eq_true h;omega
     refine AWP.skip ?_
     refine AWP.seq' (AWP.block (AWP.seq' ?_))
     have hy:l[j]?=some l[j]:=List.getElem?_eq_getElem h
     generalize l[j]=y at hy
     have hge:(l.map AV.int).getD j .unk=.int y:=by rw[List.getD_eq_getElem?_getD,List.getElem?_map,hy];rfl
     refine AWP.reg' λK hK=>?_
     try simp only[stepS,stepD,stepM,eq_self,implies_true,forall_eq_or_imp,forall_eq,Nat.reduceEqDiff,↓reduceIte,Nat.reduceAdd,Nat.reduceLeDiff,Nat.reduceSub,Nat.reduceMul,Nat.reduceLT,Int.reduceBEq,Int.reduceBNe,Int.reduceToNat,Int.reduceLT,Int.reduceLE,Int.reduceAdd,Int.reduceSub,Int.reduceMul,reduceCtorEq,t16,t18,hge,Int.toNat_natCast,List.length_map]
     refine⟨⟨by omega,by omega⟩,?_⟩
     refine hK _ _ _ ?_
     clear hK K
     refine(show AWP _ _ _ _ _ _ from ?_)
     obtain⟨f17a,f17b,f17c,f17d⟩:=nxF (show 17<nx1 by omega)
     generalize hM:trn1 x (trnL L is) (l.take j)=M at hF' j2
     have hM1:trn1 x (trnL L is) (l.take (j+1))=pu M y x:=by rw[take_succ hy,←hM];unfold trn1;rw[List.foldl_append];rfl
     have hw:IntKind.i64.wrap ((j:Int)+1)=((j+1:Nat):Int):=wrapN (by omega) (by omega)
     obtain⟨f0,_⟩:=nxF (show 0<nx1 by omega)
     obtain⟨f65,_⟩:=nxF (show 65<nx1 by omega)
     have h0':∀k,(0=nx1+k)=False:=f0
     have h65':∀k,(65=nx1+k)=False:=f65
     have f17d':∀k,(nx1+k=17)=False:=f17b
     cases e:mhas M y with
     | false =>
      have q1:=λz v kk=>(hF'.no e z v kk).1
      have q2:=λz v kk=>(hF'.no e z v kk).2
      refine AWP.reg' λK hK=>?_
      try simp only[stepS,stepD,stepM,eq_self,implies_true,forall_eq_or_imp,forall_eq,Nat.reduceEqDiff,↓reduceIte,Nat.reduceAdd,Nat.reduceLeDiff,Nat.reduceSub,Nat.reduceMul,Nat.reduceLT,Int.reduceBEq,Int.reduceBNe,Int.reduceToNat,Int.reduceLT,Int.reduceLE,Int.reduceAdd,Int.reduceSub,Int.reduceMul,reduceCtorEq,g3',t4,hF'.hm,evA_mget,evA_mset,mapA,AV.key,MK.fits,q1 _ .unk none,and_self,true_and]
      refine evT_lit ?_
      try simp only[stepS,stepD,stepM,eq_self,implies_true,forall_eq_or_imp,forall_eq,Nat.reduceEqDiff,↓reduceIte,Nat.reduceAdd,Nat.reduceLeDiff,Nat.reduceSub,Nat.reduceMul,Nat.reduceLT,Int.reduceBEq,Int.reduceBNe,Int.reduceToNat,Int.reduceLT,Int.reduceLE,Int.reduceAdd,Int.reduceSub,Int.reduceMul,reduceCtorEq,g3',t4,hF'.hm,evA_mget,evA_mset,mapA,AV.key,MK.fits,and_self,true_and,appendA,srcA,f17a,f17b,f17c,f17d,Nat.add_assoc]
      refine⟨⟨by decide,by omega⟩,?_⟩
      refine hK _ _ _ ?_
      clear hK K
      refine(show AWP _ _ _ _ _ _ from ?_)
      refine AWP.reg' λK hK=>?_
      try simp only[stepS,stepD,stepM,eq_self,implies_true,forall_eq_or_imp,forall_eq,Nat.reduceEqDiff,↓reduceIte,Nat.reduceAdd,Nat.reduceLeDiff,Nat.reduceSub,Nat.reduceMul,Nat.reduceLT,Int.reduceBEq,Int.reduceBNe,Int.reduceToNat,Int.reduceLT,Int.reduceLE,Int.reduceAdd,Int.reduceSub,Int.reduceMul,reduceCtorEq,t18,hw]
      refine hK _ _ _ ?_
      clear hK K
      refine⟨(_,j+1),⟨⟨by dsimp only;omega,?_⟩,⟨by dsimp only;omega,?_,?_,?_,?_,ns'++[nx1+176],?_⟩,?_,?_,?_,rfl⟩,by dsimp only;omega,Weak.refl⟩
      ·rw[hM1];exact λp hp=>by have:=pu_len j2 y x p hp;dsimp only;omega
      ·simp only[upd_ap];exact g3'
      ·simp only[upd_ap];exact g10'
      ·simp only[upd_ap,h0'];exact g0'
      ·simp only[upd_ap,h65'];exact gi'
      ·rw[hM1]
       exact hF'.put_no e (f:=nx1+176) (by omega) (by dsimp only;omega) (by simp only[upd_ap,↓reduceIte];exact congrArg some (q2 (.sl 0 [] true) _ none)) (by simp only[upd_ap,f17d',↓reduceIte]) (λb hb hne=>by simp only[upd_ap,if_neg hne];rw[if_neg (by omega)])
      ·simp only[upd_ap];exact t4
      ·simp only[upd_ap];exact t16
      ·simp only[upd_ap];exact t17
     | true =>
      obtain⟨i0,b0,y1,y2,y3,y4,y5,y6⟩:=hF'.yes e
      have hb0:=hF'.lt b0 (List.mem_of_getElem? y1)
      obtain⟨b0a,b0b,_,_⟩:=nxF hb0
      have hb17:(17=b0)=False:=by simp;rintro rfl;exact hF'.bm_no (List.mem_of_getElem? y1)
      have hb0':(0=b0)=False:=by simp;rintro rfl;rw[g0']at y4;cases y4
      have hb65:(65=b0)=False:=by simp;rintro rfl;rw[gi']at y4;cases y4
      have hrl:=j2 _ (List.mem_of_getElem? y2)
      simp only at hrl
      have hisl:is.length≤100:=by
       have:=List.Nodup.length_le_of_subset i1 (show is ⊆ List.range L.length from λa ha=>List.mem_range.mpr (i2 a ha))
       rw[List.length_range]at this;have:=hL.len;omega
      refine AWP.reg' λK hK=>?_
      try simp only[stepS,stepD,stepM,eq_self,implies_true,forall_eq_or_imp,forall_eq,Nat.reduceEqDiff,↓reduceIte,Nat.reduceAdd,Nat.reduceLeDiff,Nat.reduceSub,Nat.reduceMul,Nat.reduceLT,Int.reduceBEq,Int.reduceBNe,Int.reduceToNat,Int.reduceLT,Int.reduceLE,Int.reduceAdd,Int.reduceSub,Int.reduceMul,reduceCtorEq,g3',t4,hF'.hm,evA_mget,evA_mset,mapA,AV.key,MK.fits,y5,and_self,true_and]
      refine evT_lit ?_
      try simp only[stepS,stepD,stepM,eq_self,implies_true,forall_eq_or_imp,forall_eq,Nat.reduceEqDiff,↓reduceIte,Nat.reduceAdd,Nat.reduceLeDiff,Nat.reduceSub,Nat.reduceMul,Nat.reduceLT,Int.reduceBEq,Int.reduceBNe,Int.reduceToNat,Int.reduceLT,Int.reduceLE,Int.reduceAdd,Int.reduceSub,Int.reduceMul,reduceCtorEq,g3',t4,hF'.hm,evA_mget,evA_mset,mapA,AV.key,MK.fits,and_self,true_and,appendA,srcA,y4,f17a,f17b,f17c,f17d,hb17,Nat.add_assoc,List.length_map]
      refine⟨⟨by omega,by omega⟩,?_⟩
      refine hK _ _ _ ?_
      clear hK K
      refine(show AWP _ _ _ _ _ _ from ?_)
      refine AWP.reg' λK hK=>?_
      try simp only[stepS,stepD,stepM,eq_self,implies_true,forall_eq_or_imp,forall_eq,Nat.reduceEqDiff,↓reduceIte,Nat.reduceAdd,Nat.reduceLeDiff,Nat.reduceSub,Nat.reduceMul,Nat.reduceLT,Int.reduceBEq,Int.reduceBNe,Int.reduceToNat,Int.reduceLT,Int.reduceLE,Int.reduceAdd,Int.reduceSub,Int.reduceMul,reduceCtorEq,t18,hw]
      refine hK _ _ _ ?_
      clear hK K
      refine⟨(_,j+1),⟨⟨by dsimp only;omega,?_⟩,⟨by dsimp only;omega,?_,?_,?_,?_,ns'.set i0 (nx1+176),?_⟩,?_,?_,?_,rfl⟩,by dsimp only;omega,Weak.refl⟩
      ·rw[hM1];exact λp hp=>by have:=pu_len j2 y x p hp;dsimp only;omega
      ·simp only[upd_ap];exact g3'
      ·simp only[upd_ap];exact g10'
      ·simp only[upd_ap,h0',hb0'];exact g0'
      ·simp only[upd_ap,h65',hb65];exact gi'
      ·rw[hM1]
       exact hF'.put_yes e y1 y2 y3 (f:=nx1+176) (by omega) (by dsimp only;omega) (by simp only[upd_ap,↓reduceIte];exact congrArg some (y6 none _)) (by simp only[upd_ap,f17d',↓reduceIte]) (λb hb hne hnb=>by simp only[upd_ap,if_neg hne,if_neg hnb];rw[if_neg (by omega)])
      ·simp only[upd_ap];exact t4
      ·simp only[upd_ap];exact t16
      ·simp only[upd_ap];exact t17
    ·have h:j=l.length:=by have:=of_decide_eq_false h;omega
     refine AWP.exit ?_
     refine(show ∃jj:S3×List Nat,_ from ?_)
     have hT:trnL L (is++[i])=trn1 x (trnL L is) (l.take j):=by
      rw[List.take_of_length_le (by omega)]
      unfold trnL
      rw[List.foldl_append,List.foldl_cons,List.foldl_nil,List.getD_eq_getElem?_getD,hp'];rfl
     have hN:(is++[i]).Nodup:=List.nodup_append.mpr ⟨i1,by simp,λa ha b hb=>by rw[List.mem_singleton.mp hb];rintro rfl;exact hni ha⟩
     have hS:∀a∈is++[i],a<L.length:=λa ha=>by
      rcases List.mem_append.mp ha with ha|ha
      ·exact i2 a ha
      ·rw[List.mem_singleton.mp ha];exact hil
     have hLn:=List.Nodup.length_le_of_subset hN (show is++[i] ⊆ List.range L.length from λa ha=>List.mem_range.mpr (hS a ha))
     rw[List.length_range,List.length_append,List.length_singleton]at hLn
     refine⟨(_,is++[i]),⟨⟨hN,hS,?_⟩,⟨?_,?_,?_,?_,?_,ns',?_⟩⟩,?_,Weak.refl⟩
     ·dsimp only;rw[hT,List.length_append,List.length_singleton];exact λp hp=>by have:=j2 p hp;omega
     ·dsimp only;omega
     ·simp only[upd_ap];exact g3'
     ·simp only[upd_ap];exact g10'
     ·exact g0'
     ·exact gi'
     ·dsimp only;rw[hT];exact hF'.keep (λ_ _ _=>rfl) (by omega)
     ·dsimp only;rw[List.length_append,List.length_singleton];omega
end Go.Proofs.YtdoacjojljgdcaaGreat
