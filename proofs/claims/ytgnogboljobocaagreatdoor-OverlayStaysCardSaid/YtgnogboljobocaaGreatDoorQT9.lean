/- Texts joined: DG IG G34 G35 G36 G40 G41 G37 G38 G39. -/
import Derived.Test.YtgnogboljobocaaGreatDoorQT8
set_option linter.unusedVariables false
set_option linter.unusedSimpArgs false
namespace Go.Proofs.YtgnogboljobocaaGreatDoor
open Go Go.Am
def cf218:AF:=
 ⟨33,3,[.tmp 6],
 .seq (.reg [⟨(some 6),.move (.c (.sl 0 [] true)),none⟩])
 (.seq (.reg [⟨(some 8),.move (.t 0),none⟩,⟨(some 9),.move (.t 1),none⟩,⟨(some 10),.move (.t 2),none⟩,⟨(some 11),.move (.t 0),none⟩,⟨(some 12),.len (.t 11),none⟩,⟨(some 13),.slice 10 (.t 8) (some (.t 9)) (some (.t 10)) (some (.t 12)),none⟩])
 (.seq (.seq (.reg [⟨(some 14),.move (.t 1),none⟩,⟨(some 15),.move (.t 2),none⟩,⟨(some 16),.bin .eql (.t 14) (.t 15),none⟩])
 (.cond (.t 16) (.seq (.reg [⟨(some 17),.move (.t 0),none⟩,⟨(some 6),.move (.t 17),none⟩])
 (.ret)) (.skip)))
 (.seq (.reg [⟨(some 18),.move (.t 0),none⟩,⟨(some 19),.len (.t 18),none⟩,⟨(some 7),.move (.t 19),none⟩])
 (.seq (.dreg [⟨(some 20),.move (.t 0),none⟩,⟨(some 21),.move (.t 1),none⟩,⟨(some 22),.slice 10 (.t 20) none (some (.t 21)) none,none⟩,⟨(some 23),.move (.t 0),none⟩,⟨(some 24),.move (.t 2),none⟩,⟨(some 25),.slice 10 (.t 23) (some (.t 24)) none none,none⟩,⟨(some 26),.append 10 96 (.t 22) (.t 25),none⟩,⟨(some 0),.move (.t 26),none⟩] [(2,5)])
 (.seq (.reg [⟨(some 27),.move (.t 0),none⟩,⟨(some 28),.move (.t 0),none⟩,⟨(some 29),.len (.t 28),none⟩,⟨(some 30),.move (.t 7),none⟩,⟨(some 31),.slice 10 (.t 27) (some (.t 29)) (some (.t 30)) none,none⟩,⟨none,.clear 10 ((.agg [(.val (.int .i64 0)),(.val (.int .i64 0)),(.val (.int .i64 0)),(.val (.int .i64 0)),(.val (.int .i64 0)),(.val (.int .i64 0)),(.val (.int .i64 0)),(.val (.int .i64 0)),(.val (.int .i64 0)),(.sl 0 [] true)])) (.t 31),none⟩])
 (.seq (.reg [⟨(some 32),.move (.t 0),none⟩,⟨(some 6),.move (.t 32),none⟩])
 (.ret)))))))⟩
theorem cf218_ok:cFunc Tryz.prog Tryz.f218=some cf218:=by kernel_rfl
theorem Delete_fnG:FnOk Tryz.prog 218:=fnB_ok (by kernel_rfl)
def delAt{α:Type}(es:List α)(i:Nat):List α:=es.take i++es.drop (i+1)
theorem pureL_delAt{es:List AV}(h:pureL es)(i:Nat):pureL (delAt es i):=pureL_append (pureL_take h i) (pureL_drop h (i+1))
theorem Delete_specG(es:List AV)(i:Nat)(hi:i<es.length)(hs:es.length≤1000000)(hp:pureL es) :
  HSpec Tryz.prog 218 [.vec 0,.int i,.int ((i+1:Nat):Int)] [.vec 10 es] (.vec 1) [none,some (.vec 10 (delAt es i))]:=by
 refine HSpec.of_row (fun cap h1 h2=>?_) (fun h=>by subst h;simp at hi)
 have hml:=maxLen_eq
 refine HSpec.walk Tryz.func218 cf218_ok (by simp [cf218]) ?_
 unfold cf218
 simp only [initT,initH,List.length_cons,List.length_nil]
 have e1:((i:Int)==((i+1:Nat):Int))=false:=by simp;omega
 repeat (first
  | refine AWP.seq' ?_
  | refine AWP.skip ?_
  | (refine AWP.reg' fun K hK=>?_;simp only [stepS,stepD,stepM,eq_self,implies_true,forall_eq_or_imp,forall_eq,Nat.reduceEqDiff,↓reduceIte,Nat.reduceAdd,Nat.reduceLeDiff,Nat.reduceSub,Nat.reduceMul,Nat.reduceLT,Int.reduceBEq,Int.reduceBNe,Int.reduceToNat,Int.reduceLT,Int.reduceLE,Int.reduceAdd,Int.reduceSub,Int.reduceMul,reduceCtorEq,e1];(repeat (refine And.intro (by omega) ?_));refine hK _ _ _ ?_;clear hK K))
 refine AWP.cond (b:=false) rfl (fun h=>by cases h) (fun h=>?_)
 repeat (first
  | refine AWP.seq' ?_
  | refine AWP.skip ?_
  | (refine AWP.reg' fun K hK=>?_;simp only [stepS,stepD,stepM,eq_self,implies_true,forall_eq_or_imp,forall_eq,Nat.reduceEqDiff,↓reduceIte,Nat.reduceAdd,Nat.reduceLeDiff,Nat.reduceSub,Nat.reduceMul,Nat.reduceLT,Int.reduceBEq,Int.reduceBNe,Int.reduceToNat,Int.reduceLT,Int.reduceLE,Int.reduceAdd,Int.reduceSub,Int.reduceMul,reduceCtorEq];(repeat (refine And.intro (by omega) ?_));refine hK _ _ _ ?_;clear hK K))
 have g1:((es.length:Int)-((i+1:Nat):Int)).toNat=es.length-(i+1):=by omega
 have g2:((i:Int)-0).toNat=i:=by omega
 have g3:(es.drop (i+1)).take (es.length-(i+1))=es.drop (i+1):=List.take_of_length_le (by simp)
 have g4:(es.drop (i+1)).length=es.length-(i+1):=List.length_drop ..
 have g5:i+(es.length-(i+1))=es.length-1:=by omega
 have g6:¬((es.length:Int)<(i:Int)):=by omega
 have g7:i+1+(es.length-(i+1))≤es.length:=by omega
 refine AWP.dreg' fun K hK=>?_
 try simp only [stepS,stepD,stepM,eq_self,implies_true,forall_eq_or_imp,forall_eq,Nat.reduceEqDiff,↓reduceIte,Nat.reduceAdd,Nat.reduceLeDiff,Nat.reduceSub,Nat.reduceMul,Nat.reduceLT,Int.reduceBEq,Int.reduceBNe,Int.reduceToNat,Int.reduceLT,Int.reduceLE,Int.reduceAdd,Int.reduceSub,Int.reduceMul,reduceCtorEq,appendA,srcA,g1,g2,g3,g4,g5,g6,g7]
 repeat (refine And.intro (by omega) ?_)
 refine ⟨by rfl,hK _ _ _ ?_⟩
 clear hK K
 have hd:es.take i++es.drop (i+1)=delAt es i:=rfl
 have hdl:(delAt es i).length=es.length-1:=by unfold delAt;simp;omega
 refine AWP.seq' ?_
 have g8:((es.length:Int)-((es.length-1:Nat):Int)).toNat=1:=by omega
 refine AWP.reg' fun K hK=>?_
 try simp only [stepS,stepD,stepM,eq_self,implies_true,forall_eq_or_imp,forall_eq,Nat.reduceEqDiff,↓reduceIte,Nat.reduceAdd,Nat.reduceLeDiff,Nat.reduceSub,Nat.reduceMul,Nat.reduceLT,Int.reduceBEq,Int.reduceBNe,Int.reduceToNat,Int.reduceLT,Int.reduceLE,Int.reduceAdd,Int.reduceSub,Int.reduceMul,reduceCtorEq,hd,hdl,g8,clearA]
 repeat (refine And.intro (by omega) ?_)
 refine hK _ _ _ ?_
 clear hK K
 repeat (first
  | refine AWP.seq' ?_
  | refine AWP.skip ?_
  | (refine AWP.reg' fun K hK=>?_;simp only [stepS,stepD,stepM,eq_self,implies_true,forall_eq_or_imp,forall_eq,Nat.reduceEqDiff,↓reduceIte,Nat.reduceAdd,Nat.reduceLeDiff,Nat.reduceSub,Nat.reduceMul,Nat.reduceLT,Int.reduceBEq,Int.reduceBNe,Int.reduceToNat,Int.reduceLT,Int.reduceLE,Int.reduceAdd,Int.reduceSub,Int.reduceMul,reduceCtorEq];(repeat (refine And.intro (by omega) ?_));refine hK _ _ _ ?_;clear hK K))
 refine AWP.ret (fin_weak (Weak.row (b:=305) (cap:=cap) (k:=10) (es:=delAt es i) (by rw [hdl];rfl)) (fin_ren [0,305] [(6,.vec 1)] rfl rfl ?_ ?_ rfl (by simp) ?_ (by simp)))
 ·simp only [List.mem_singleton,forall_eq]
  exact ⟨rfl,show (1:Nat)<2 by omega⟩
 ·refine ⟨⟨?_,?_⟩,trivial⟩
  ·rw [(vec_ren (m:=0) (pureL_delAt hp i)).1]
   rfl
  ·exact (vec_ren (π:=id) (pureL_delAt hp i)).2
 ·intro b hb
  match b,hb with
  | 0,_=>rfl
theorem delAt_map{α β:Type}(f:α→β)(l:List α)(i:Nat):delAt (l.map f) i=(delAt l i).map f:=by simp [delAt]
def delG_h(l:List Sig)(i j:Int)(hi:(0≤i∧i<l.length)∧j=i+1)(hl:l.length≤1000000):HC Tryz.prog:=
 ⟨218,[.k,.k,.k],[.vec 0,.int i,.int j],[.vec 10 (l.map Sig.v)],.vec 1,[none,some (.vec 10 ((delAt l i.toNat).map Sig.v))],by
  have h:=Delete_specG (l.map Sig.v) i.toNat (by rw [List.length_map];omega) (by simpa using hl) (pureBL_ok (pureBL_map (fun _=>rfl) l))
  rw [delAt_map] at h
  have e1:((i.toNat:Nat):Int)=i:=by omega
  have e2:((i.toNat+1:Nat):Int)=j:=by omega
  rw [e1,e2] at h
  exact h,Delete_fnG,HcOk.of (by simp [hcB,belBL,AV.belB,allB,okBk,okBkO,pureBL_map (v:=Sig.v) (fun _=>rfl),pureBL,AV.pureB])⟩
def cf219:AF:=
 ⟨95,3,[.tmp 6],
 .seq (.reg [⟨(some 6),.move (.c (.sl 0 [] true)),none⟩])
 (.seq (.reg [⟨(some 10),.move (.t 0),none⟩,⟨(some 11),.move (.t 1),none⟩,⟨(some 12),.slice 10 (.t 10) (some (.t 11)) none none,none⟩])
 (.seq (.reg [⟨(some 13),.move (.t 2),none⟩,⟨(some 14),.len (.t 13),none⟩,⟨(some 7),.move (.t 14),none⟩])
 (.seq (.seq (.reg [⟨(some 15),.move (.t 7),none⟩,⟨(some 16),.bin .eql (.t 15) (.c (.val (.int .i64 0))),none⟩])
 (.cond (.t 16) (.seq (.reg [⟨(some 17),.move (.t 0),none⟩,⟨(some 6),.move (.t 17),none⟩])
 (.ret)) (.skip)))
 (.seq (.reg [⟨(some 18),.move (.t 0),none⟩,⟨(some 19),.len (.t 18),none⟩,⟨(some 8),.move (.t 19),none⟩])
 (.seq (.seq (.reg [⟨(some 20),.move (.t 1),none⟩,⟨(some 21),.move (.t 8),none⟩,⟨(some 22),.bin .eql (.t 20) (.t 21),none⟩])
 (.cond (.t 22) (.seq (.reg [⟨(some 23),.move (.t 0),none⟩,⟨(some 24),.move (.t 2),none⟩,⟨(some 25),.append 10 96 (.t 23) (.t 24),none⟩,⟨(some 6),.move (.t 25),none⟩])
 (.ret)) (.skip)))
 (.seq (.seq (.reg [⟨(some 26),.move (.t 8),none⟩,⟨(some 27),.move (.t 7),none⟩,⟨(some 28),.bin .add (.t 26) (.t 27),none⟩,⟨(some 29),.move (.t 0),none⟩,⟨(some 30),.cap (.t 29),none⟩,⟨(some 31),.bin .gtr (.t 28) (.t 30),none⟩])
 (.cond (.t 31) (.seq (.reg [⟨(some 32),.move (.t 0),none⟩,⟨(some 33),.move (.t 1),none⟩,⟨(some 34),.slice 10 (.t 32) none (some (.t 33)) none,none⟩,⟨(some 35),.move (.t 8),none⟩,⟨(some 36),.move (.t 7),none⟩,⟨(some 37),.bin .add (.t 35) (.t 36),none⟩,⟨(some 38),.move (.t 1),none⟩,⟨(some 39),.bin .sub (.t 37) (.t 38),none⟩,⟨(some 40),.appendZ 10 96 ((.agg [(.val (.int .i64 0)),(.val (.int .i64 0)),(.val (.int .i64 0)),(.val (.int .i64 0)),(.val (.int .i64 0)),(.val (.int .i64 0)),(.val (.int .i64 0)),(.val (.int .i64 0)),(.val (.int .i64 0)),(.sl 0 [] true)])) (.t 34) (.t 39),none⟩,⟨(some 9),.move (.t 40),none⟩])
 (.seq (.reg [⟨(some 41),.move (.t 9),none⟩,⟨(some 42),.move (.t 1),none⟩,⟨(some 43),.slice 10 (.t 41) (some (.t 42)) none none,none⟩,⟨(some 44),.move (.t 2),none⟩,⟨(some 45),.copy 10 (.t 43) (.t 44),none⟩])
 (.seq (.dreg [⟨(some 46),.move (.t 9),none⟩,⟨(some 47),.move (.t 1),none⟩,⟨(some 48),.move (.t 7),none⟩,⟨(some 49),.bin .add (.t 47) (.t 48),none⟩,⟨(some 50),.slice 10 (.t 46) (some (.t 49)) none none,none⟩,⟨(some 51),.move (.t 0),none⟩,⟨(some 52),.move (.t 1),none⟩,⟨(some 53),.slice 10 (.t 51) (some (.t 52)) none none,none⟩,⟨(some 54),.copy 10 (.t 50) (.t 53),none⟩] [(4,7)])
 (.seq (.reg [⟨(some 55),.move (.t 9),none⟩,⟨(some 6),.move (.t 55),none⟩])
 (.ret))))) (.skip)))
 (.seq (.reg [⟨(some 56),.move (.t 0),none⟩,⟨(some 57),.move (.t 8),none⟩,⟨(some 58),.move (.t 7),none⟩,⟨(some 59),.bin .add (.t 57) (.t 58),none⟩,⟨(some 60),.slice 10 (.t 56) none (some (.t 59)) none,none⟩,⟨(some 0),.move (.t 60),none⟩])
 (.seq (.seq (.reg [⟨(some 61),.move (.t 2),none⟩,⟨(some 62),.move (.t 0),none⟩,⟨(some 63),.move (.t 1),none⟩,⟨(some 64),.move (.t 7),none⟩,⟨(some 65),.bin .add (.t 63) (.t 64),none⟩,⟨(some 66),.slice 10 (.t 62) (some (.t 65)) none none,none⟩,⟨(some 67),.call (.c (.func 260 [])) [(.t 61),(.t 66)],none⟩,⟨(some 68),.un .not (.t 67),none⟩])
 (.cond (.t 68) (.seq (.dreg [⟨(some 69),.move (.t 0),none⟩,⟨(some 70),.move (.t 1),none⟩,⟨(some 71),.move (.t 7),none⟩,⟨(some 72),.bin .add (.t 70) (.t 71),none⟩,⟨(some 73),.slice 10 (.t 69) (some (.t 72)) none none,none⟩,⟨(some 74),.move (.t 0),none⟩,⟨(some 75),.move (.t 1),none⟩,⟨(some 76),.slice 10 (.t 74) (some (.t 75)) none none,none⟩,⟨(some 77),.copy 10 (.t 73) (.t 76),none⟩] [(4,7)])
 (.seq (.reg [⟨(some 78),.move (.t 0),none⟩,⟨(some 79),.move (.t 1),none⟩,⟨(some 80),.slice 10 (.t 78) (some (.t 79)) none none,none⟩,⟨(some 81),.move (.t 2),none⟩,⟨(some 82),.copy 10 (.t 80) (.t 81),none⟩])
 (.seq (.reg [⟨(some 83),.move (.t 0),none⟩,⟨(some 6),.move (.t 83),none⟩])
 (.ret)))) (.skip)))
 (.seq (.reg [⟨(some 84),.move (.t 0),none⟩,⟨(some 85),.move (.t 8),none⟩,⟨(some 86),.slice 10 (.t 84) (some (.t 85)) none none,none⟩,⟨(some 87),.move (.t 2),none⟩,⟨(some 88),.copy 10 (.t 86) (.t 87),none⟩])
 (.seq (.reg [⟨(some 89),.move (.t 0),none⟩,⟨(some 90),.move (.t 1),none⟩,⟨(some 91),.slice 10 (.t 89) (some (.t 90)) none none,none⟩,⟨(some 92),.move (.t 7),none⟩,⟨(some 93),.call (.c (.func 261 [])) [(.t 91),(.t 92)],none⟩])
 (.seq (.reg [⟨(some 94),.move (.t 0),none⟩,⟨(some 6),.move (.t 94),none⟩])
 (.ret))))))))))))⟩
theorem cf219_ok:cFunc Tryz.prog Tryz.f219=some cf219:=by kernel_rfl
theorem overlaps_noneG : (Tryz.f260.name == "runtime.NumGoroutine") = false ∧ Tryz.f260.body.isNone = true := ⟨by kernel_rfl, by kernel_rfl⟩
theorem overlaps_nextG:Extern.findNext Tryz.f260=none:=by kernel_rfl
theorem overlaps_findG:Extern.find Tryz.f260=some (Extern.SlicesOverlaps.overlaps #[35,35] #[4]):=by kernel_rfl
theorem overlaps_sizeG:sizeOf? Tryz.prog 97=some 10:=by kernel_rfl
theorem overlaps_tyG:Program.underlying Tryz.prog 35=some (.slice 97):=by kernel_rfl
theorem Insert_rowG(es:List AV)(x:AV)(i cap:Nat)(hi:i≤es.length)(hx:x.solid=true)(h1:es.length≤cap)(h2:cap≤maxLen)(hs:es.length≤1000000)(hp:pureL es∧x.pure) :
  HSpec Tryz.prog 219 [.vec 0,.int i,.vec 1] [.row 10 es es.length cap,.vec 10 [x]] (.vec 2) [none,none,some (.vec 10 (insAt es i x))]:=by
 have hml:=maxLen_eq
 refine HSpec.walk Tryz.func219 cf219_ok (by simp [cf219]) ?_
 unfold cf219
 simp only [initT,initH,List.length_cons,List.length_nil]
 refine AWP.seq' ?_
 refine AWP.reg' fun K hK=>?_
 try simp only [stepS,stepD,stepM,eq_self,implies_true,forall_eq_or_imp,forall_eq,Nat.reduceEqDiff,↓reduceIte,Nat.reduceAdd,Nat.reduceLeDiff,Nat.reduceSub,Nat.reduceMul,Nat.reduceLT,Int.reduceBEq,Int.reduceBNe,Int.reduceToNat,Int.reduceLT,Int.reduceLE,Int.reduceAdd,Int.reduceSub,Int.reduceMul,reduceCtorEq]
 refine hK _ _ _ ?_
 clear hK K
 refine AWP.seq' ?_
 refine AWP.reg' fun K hK=>?_
 try simp only [stepS,stepD,stepM,eq_self,implies_true,forall_eq_or_imp,forall_eq,Nat.reduceEqDiff,↓reduceIte,Nat.reduceAdd,Nat.reduceLeDiff,Nat.reduceSub,Nat.reduceMul,Nat.reduceLT,Int.reduceBEq,Int.reduceBNe,Int.reduceToNat,Int.reduceLT,Int.reduceLE,Int.reduceAdd,Int.reduceSub,Int.reduceMul,reduceCtorEq]
 repeat (refine And.intro (by omega) ?_)
 refine hK _ _ _ ?_
 clear hK K
 refine AWP.seq' ?_
 refine AWP.reg' fun K hK=>?_
 try simp only [stepS,stepD,stepM,eq_self,implies_true,forall_eq_or_imp,forall_eq,Nat.reduceEqDiff,↓reduceIte,Nat.reduceAdd,Nat.reduceLeDiff,Nat.reduceSub,Nat.reduceMul,Nat.reduceLT,Int.reduceBEq,Int.reduceBNe,Int.reduceToNat,Int.reduceLT,Int.reduceLE,Int.reduceAdd,Int.reduceSub,Int.reduceMul,reduceCtorEq]
 refine hK _ _ _ ?_
 clear hK K
 refine AWP.seq' (AWP.seq' ?_)
 refine AWP.reg' fun K hK=>?_
 try simp only [stepS,stepD,stepM,eq_self,implies_true,forall_eq_or_imp,forall_eq,Nat.reduceEqDiff,↓reduceIte,Nat.reduceAdd,Nat.reduceLeDiff,Nat.reduceSub,Nat.reduceMul,Nat.reduceLT,Int.reduceBEq,Int.reduceBNe,Int.reduceToNat,Int.reduceLT,Int.reduceLE,Int.reduceAdd,Int.reduceSub,Int.reduceMul,reduceCtorEq]
 refine hK _ _ _ ?_
 clear hK K
 refine AWP.cond (b:=false) rfl (fun h=>by cases h) (fun _=>?_)
 refine AWP.skip ?_
 refine AWP.seq' ?_
 refine AWP.reg' fun K hK=>?_
 try simp only [stepS,stepD,stepM,eq_self,implies_true,forall_eq_or_imp,forall_eq,Nat.reduceEqDiff,↓reduceIte,Nat.reduceAdd,Nat.reduceLeDiff,Nat.reduceSub,Nat.reduceMul,Nat.reduceLT,Int.reduceBEq,Int.reduceBNe,Int.reduceToNat,Int.reduceLT,Int.reduceLE,Int.reduceAdd,Int.reduceSub,Int.reduceMul,reduceCtorEq]
 refine hK _ _ _ ?_
 clear hK K
 refine AWP.seq' (AWP.seq' ?_)
 refine AWP.reg' fun K hK=>?_
 try simp only [stepS,stepD,stepM,eq_self,implies_true,forall_eq_or_imp,forall_eq,Nat.reduceEqDiff,↓reduceIte,Nat.reduceAdd,Nat.reduceLeDiff,Nat.reduceSub,Nat.reduceMul,Nat.reduceLT,Int.reduceBEq,Int.reduceBNe,Int.reduceToNat,Int.reduceLT,Int.reduceLE,Int.reduceAdd,Int.reduceSub,Int.reduceMul,reduceCtorEq]
 refine hK _ _ _ ?_
 clear hK K
 refine AWP.cond (b:=((i:Int)==(es.length:Int))) rfl (fun h=>?_) (fun h=>?_)
 ·have h:i=es.length:=by have:=eq_of_beq h;omega
  refine AWP.seq' ?_
  refine AWP.reg' fun K hK=>?_
  try simp only [stepS,stepD,stepM,eq_self,implies_true,forall_eq_or_imp,forall_eq,Nat.reduceEqDiff,↓reduceIte,Nat.reduceAdd,Nat.reduceLeDiff,Nat.reduceSub,Nat.reduceMul,Nat.reduceLT,Int.reduceBEq,Int.reduceBNe,Int.reduceToNat,Int.reduceLT,Int.reduceLE,Int.reduceAdd,Int.reduceSub,Int.reduceMul,reduceCtorEq,appendA,srcA]
  repeat (refine And.intro (by omega) ?_)
  refine hK _ _ _ ?_
  clear hK K
  refine AWP.ret (fin_ren [0,1,274] [(6,.vec 2)] rfl rfl ?_ ?_ rfl (by simp) ?_ (by simp))
  ·simp only [List.mem_singleton,forall_eq]
   exact ⟨rfl,show (2:Nat)<3 by omega⟩
  ·refine ⟨⟨?_,?_⟩,trivial⟩
   ·rw [(vec_ren (m:=0) (pureL_insAt hp.1 hp.2 i)).1]
    show some (Blk.vec 10 (es++[x]))=_
    rw [insAt,h,List.take_length,List.drop_length,List.append_nil]
   ·exact (vec_ren (π:=id) (pureL_insAt hp.1 hp.2 i)).2
  ·intro b hb
   match b,hb with
   | 0,_=>rfl
   | 1,_=>rfl
 have h:¬i=es.length:=by intro e;subst e;simp at h
 refine AWP.skip ?_
 refine AWP.seq' (AWP.seq' ?_)
 have w1:IntKind.i64.wrap ((es.length:Int)+1)=es.length+1:=wrap64 (by omega)
 refine AWP.reg' fun K hK=>?_
 try simp only [stepS,stepD,stepM,eq_self,implies_true,forall_eq_or_imp,forall_eq,Nat.reduceEqDiff,↓reduceIte,Nat.reduceAdd,Nat.reduceLeDiff,Nat.reduceSub,Nat.reduceMul,Nat.reduceLT,Int.reduceBEq,Int.reduceBNe,Int.reduceToNat,Int.reduceLT,Int.reduceLE,Int.reduceAdd,Int.reduceSub,Int.reduceMul,reduceCtorEq,w1]
 refine hK _ _ _ ?_
 clear hK K
 refine AWP.cond (b:=decide ((cap:Int)<(es.length:Int)+1)) rfl (fun h3=>?_) (fun h3=>?_)
 ·have h3:cap=es.length:=by have:=of_decide_eq_true h3;omega
  refine AWP.seq' ?_
  have w2:IntKind.i64.wrap ((es.length:Int)+1-i)=es.length+1-i:=wrap64 (by omega)
  have hlt:¬((es.length:Int)<(i:Int)):=by omega
  refine AWP.reg' fun K hK=>?_
  try simp only [stepS,stepD,stepM,eq_self,implies_true,forall_eq_or_imp,forall_eq,Nat.reduceEqDiff,↓reduceIte,Nat.reduceAdd,Nat.reduceLeDiff,Nat.reduceSub,Nat.reduceMul,Nat.reduceLT,Int.reduceBEq,Int.reduceBNe,Int.reduceToNat,Int.reduceLT,Int.reduceLE,Int.reduceAdd,Int.reduceSub,Int.reduceMul,reduceCtorEq,w1,w2,appendZA,Int.toNat_natCast,hlt]
  repeat (refine And.intro (by omega) ?_)
  refine hK _ _ _ ?_
  clear hK K
  have hn:((es.length:Int)+1-i).toNat=es.length+1-i:=by omega
  rw [hn]
  generalize hL:es.take i++List.replicate (es.length+1-i) (AV.agg [AV.val (Value.int IntKind.i64 0),AV.val (Value.int IntKind.i64 0),AV.val (Value.int IntKind.i64 0),AV.val (Value.int IntKind.i64 0),AV.val (Value.int IntKind.i64 0),AV.val (Value.int IntKind.i64 0),AV.val (Value.int IntKind.i64 0),AV.val (Value.int IntKind.i64 0),AV.val (Value.int IntKind.i64 0),AV.sl 0 [] true])=L
  have hLl:L.length=es.length+1:=by rw [←hL];simp;omega
  refine AWP.seq' ?_
  have hpos:0<es.length+1:=by omega
  have hsub:(((es.length+1:Nat):Int)-(i:Int)).toNat=es.length+1-i:=by omega
  have hmin:Nat.min 1 (es.length+1-i)=1:=Nat.min_eq_left (by omega)
  refine AWP.reg' fun K hK=>?_
  try simp only [stepS,stepD,stepM,eq_self,implies_true,forall_eq_or_imp,forall_eq,Nat.reduceEqDiff,↓reduceIte,Nat.reduceAdd,Nat.reduceLeDiff,Nat.reduceSub,Nat.reduceMul,Nat.reduceLT,Int.reduceBEq,Int.reduceBNe,Int.reduceToNat,Int.reduceLT,Int.reduceLE,Int.reduceAdd,Int.reduceSub,Int.reduceMul,reduceCtorEq,hLl,copyA,srcP,srcA,Int.toNat_natCast,hpos,hsub,hmin]
  repeat (refine And.intro (by omega) ?_)
  refine hK _ _ _ ?_
  clear hK K
  have ht1:List.take 1 [x]=[x]:=rfl
  have w3:IntKind.i64.wrap ((i:Int)+1)=i+1:=wrap64 (by omega)
  generalize hM:over L i [x]=M
  have hMl:M.length=es.length+1:=by rw [←hM,over_length (by omega),Nat.max_def];split<;>simp at *<;>omega
  refine AWP.seq' ?_
  have ha:((es.length:Int)-(i:Int)).toNat=es.length-i:=by omega
  have hb:(((es.length+1:Nat):Int)-((i:Int)+1)).toNat=es.length-i:=by omega
  have hc:((i:Int)+1).toNat=i+1:=by omega
  have hd:Nat.min (es.length-i) (es.length-i)=es.length-i:=Nat.min_self _
  have he:(es.drop i).take (es.length-i)=es.drop i:=List.take_of_length_le (by simp)
  have hf:(es.drop i).length=es.length-i:=List.length_drop ..
  refine AWP.dreg' fun K hK=>?_
  try simp only [stepS,stepD,stepM,eq_self,implies_true,forall_eq_or_imp,forall_eq,Nat.reduceEqDiff,↓reduceIte,Nat.reduceAdd,Nat.reduceLeDiff,Nat.reduceSub,Nat.reduceMul,Nat.reduceLT,Int.reduceBEq,Int.reduceBNe,Int.reduceToNat,Int.reduceLT,Int.reduceLE,Int.reduceAdd,Int.reduceSub,Int.reduceMul,reduceCtorEq,hMl,copyA,srcP,srcA,Int.toNat_natCast,hpos,w3,ha,hb,hc,hd,he,hf]
  repeat (refine And.intro (by omega) ?_)
  refine ⟨by rfl,hK _ _ _ ?_⟩
  clear hK K
  refine AWP.seq' ?_
  refine AWP.reg' fun K hK=>?_
  try simp only [stepS,stepD,stepM,eq_self,implies_true,forall_eq_or_imp,forall_eq,Nat.reduceEqDiff,↓reduceIte,Nat.reduceAdd,Nat.reduceLeDiff,Nat.reduceSub,Nat.reduceMul,Nat.reduceLT,Int.reduceBEq,Int.reduceBNe,Int.reduceToNat,Int.reduceLT,Int.reduceLE,Int.reduceAdd,Int.reduceSub,Int.reduceMul,reduceCtorEq]
  refine hK _ _ _ ?_
  clear hK K
  have hfin:over M (i+1) (es.drop i)=insAt es i x:=by
   have hLi:L.take i=es.take i:=by
    rw [←hL,List.take_append_of_le_length (by simp;omega),List.take_take,Nat.min_self]
   have hMi:M.take (i+1)=es.take i++[x]:=by
    have e1:(es.take i++[x]).length=i+1:=by simp;omega
    rw [←hM,over,hLi,←e1]
    exact List.take_left
   have hMd:M.drop (i+1+(es.drop i).length)=[]:=List.drop_of_length_le (by rw [hMl,hf];omega)
   unfold over insAt
   rw [hMi,hMd,List.append_nil]
  refine AWP.ret (fin_ren [0,1,466] [(6,.vec 2)] rfl rfl ?_ ?_ rfl (by simp) ?_ (by simp))
  ·simp only [List.mem_singleton,forall_eq]
   exact ⟨rfl,show (2:Nat)<3 by omega⟩
  ·refine ⟨⟨?_,?_⟩,trivial⟩
   ·rw [(vec_ren (m:=0) (pureL_insAt hp.1 hp.2 i)).1,←hfin]
    rfl
   ·exact (vec_ren (π:=id) (pureL_insAt hp.1 hp.2 i)).2
  ·intro b hb
   match b,hb with
   | 0,_=>rfl
   | 1,_=>rfl
 have h3:es.length+1≤cap:=by have:=of_decide_eq_false h3;omega
 refine AWP.skip ?_
 refine AWP.seq' ?_
 have hgt:((es.length:Int)<(es.length:Int)+1):=by omega
 refine AWP.reg' fun K hK=>?_
 try simp only [stepS,stepD,stepM,eq_self,implies_true,forall_eq_or_imp,forall_eq,Nat.reduceEqDiff,↓reduceIte,Nat.reduceAdd,Nat.reduceLeDiff,Nat.reduceSub,Nat.reduceMul,Nat.reduceLT,Int.reduceBEq,Int.reduceBNe,Int.reduceToNat,Int.reduceLT,Int.reduceLE,Int.reduceAdd,Int.reduceSub,Int.reduceMul,reduceCtorEq,w1,hgt]
 repeat (refine And.intro (by omega) ?_)
 refine hK _ _ _ ?_
 clear hK K
 have w3:IntKind.i64.wrap ((i:Int)+1)=i+1:=wrap64 (by omega)
 refine AWP.seq' (AWP.seq' ?_)
 have hn1:((es.length:Int)+1).toNat=es.length+1:=by omega
 refine AWP.reg' fun K hK=>?_
 try simp only [stepS,stepD,stepM,eq_self,implies_true,forall_eq_or_imp,forall_eq,Nat.reduceEqDiff,↓reduceIte,Nat.reduceAdd,Nat.reduceLeDiff,Nat.reduceSub,Nat.reduceMul,Nat.reduceLT,Int.reduceBEq,Int.reduceBNe,Int.reduceToNat,Int.reduceLT,Int.reduceLE,Int.reduceAdd,Int.reduceSub,Int.reduceMul,reduceCtorEq,w3,Int.toNat_natCast,hn1]
 repeat (refine And.intro (by omega) ?_)
 refine evT_ext rfl rfl (ext_overlaps Tryz.func260 overlaps_noneG.1 overlaps_noneG.2 overlaps_nextG overlaps_findG overlaps_tyG overlaps_sizeG (by omega) rfl rfl (by omega) (by simp) (by omega)) ?_
 try simp only [stepS,stepD,stepM,eq_self,implies_true,forall_eq_or_imp,forall_eq,Nat.reduceEqDiff,↓reduceIte,Nat.reduceAdd,Nat.reduceLeDiff,Nat.reduceSub,Nat.reduceMul,Nat.reduceLT,Int.reduceBEq,Int.reduceBNe,Int.reduceToNat,Int.reduceLT,Int.reduceLE,Int.reduceAdd,Int.reduceSub,Int.reduceMul,reduceCtorEq,w3]
 refine hK _ _ _ ?_
 clear hK K
 refine AWP.cond (b:=true) rfl (fun _=>?_) (fun h=>by cases h)
 refine AWP.seq' ?_
 have hb:(((es.length+1:Nat):Int)-((i:Int)+1)).toNat=es.length-i:=by omega
 have hc:((i:Int)+1).toNat=i+1:=by omega
 have hsub:(((es.length+1:Nat):Int)-(i:Int)).toNat=es.length+1-i:=by omega
 have hd:Nat.min (es.length+1-i) (es.length-i)=es.length-i:=Nat.min_eq_right (by omega)
 have he:(es.drop i).take (es.length+1-i)=es.drop i:=List.take_of_length_le (by simp;omega)
 have he2:(es.drop i).take (es.length-i)=es.drop i:=List.take_of_length_le (by simp)
 have hf:(es.drop i).length=es.length-i:=List.length_drop ..
 refine AWP.dreg' fun K hK=>?_
 try simp only [stepS,stepD,stepM,eq_self,implies_true,forall_eq_or_imp,forall_eq,Nat.reduceEqDiff,↓reduceIte,Nat.reduceAdd,Nat.reduceLeDiff,Nat.reduceSub,Nat.reduceMul,Nat.reduceLT,Int.reduceBEq,Int.reduceBNe,Int.reduceToNat,Int.reduceLT,Int.reduceLE,Int.reduceAdd,Int.reduceSub,Int.reduceMul,reduceCtorEq,w3,copyA,srcP,srcA,Int.toNat_natCast,hb,hc,hsub,hd,he,he2,hf]
 repeat (refine And.intro (by omega) ?_)
 refine ⟨by rfl,hK _ _ _ ?_⟩
 clear hK K
 have hMl:(over es (i+1) (es.drop i)).length=es.length+1:=by simp [over];omega
 have hMt:(over es (i+1) (es.drop i)).take i=es.take i:=by
  unfold over
  rw [List.append_assoc,List.take_append_of_le_length (by simp;omega),List.take_take,Nat.min_eq_left (by omega)]
 have hMd:(over es (i+1) (es.drop i)).drop (i+1)=es.drop i:=by
  unfold over
  have e1:(es.take (i+1)).length=i+1:=by simp;omega
  have e2:es.drop (i+1+(es.drop i).length)=[]:=List.drop_of_length_le (by simp;omega)
  rw [e2,List.append_nil]
  have e3:=List.drop_left (l₁:=es.take (i+1)) (l₂:=es.drop i)
  rw [e1] at e3;exact e3
 generalize hM:over es (i+1) (es.drop i)=M at *
 refine AWP.seq' ?_
 have hsub:(((es.length+1:Nat):Int)-(i:Int)).toNat=es.length+1-i:=by omega
 have hmin:Nat.min 1 (es.length+1-i)=1:=Nat.min_eq_left (by omega)
 have ht1:List.take 1 [x]=[x]:=rfl
 refine AWP.reg' fun K hK=>?_
 try simp only [stepS,stepD,stepM,eq_self,implies_true,forall_eq_or_imp,forall_eq,Nat.reduceEqDiff,↓reduceIte,Nat.reduceAdd,Nat.reduceLeDiff,Nat.reduceSub,Nat.reduceMul,Nat.reduceLT,Int.reduceBEq,Int.reduceBNe,Int.reduceToNat,Int.reduceLT,Int.reduceLE,Int.reduceAdd,Int.reduceSub,Int.reduceMul,reduceCtorEq,hMl,copyA,srcP,srcA,Int.toNat_natCast,hsub,hmin]
 repeat (refine And.intro (by omega) ?_)
 refine hK _ _ _ ?_
 clear hK K
 refine AWP.seq' ?_
 refine AWP.reg' fun K hK=>?_
 try simp only [stepS,stepD,stepM,eq_self,implies_true,forall_eq_or_imp,forall_eq,Nat.reduceEqDiff,↓reduceIte,Nat.reduceAdd,Nat.reduceLeDiff,Nat.reduceSub,Nat.reduceMul,Nat.reduceLT,Int.reduceBEq,Int.reduceBNe,Int.reduceToNat,Int.reduceLT,Int.reduceLE,Int.reduceAdd,Int.reduceSub,Int.reduceMul,reduceCtorEq]
 refine hK _ _ _ ?_
 clear hK K
 have hfin:over M i [x]=insAt es i x:=by
  unfold over insAt
  rw [hMt,show i+[x].length=i+1 from rfl,hMd]
 have hfl:(insAt es i x).length=es.length+1:=by unfold insAt;simp;omega
 rw [hfin]
 refine AWP.ret (fin_weak (Weak.row (b:=402) (cap:=cap) (k:=10) (es:=insAt es i x) (by rw [hfl];rfl)) (fin_ren [0,1,402] [(6,.vec 2)] rfl rfl ?_ ?_ rfl (by simp) ?_ (by simp)))
 ·simp only [List.mem_singleton,forall_eq]
  exact ⟨rfl,show (2:Nat)<3 by omega⟩
 ·refine ⟨⟨?_,?_⟩,trivial⟩
  ·rw [(vec_ren (m:=0) (pureL_insAt hp.1 hp.2 i)).1]
   rfl
  ·exact (vec_ren (π:=id) (pureL_insAt hp.1 hp.2 i)).2
 ·intro b hb
  match b,hb with
  | 0,_=>rfl
  | 1,_=>rfl
theorem Insert_nilG(x:AV)(hx:x.solid=true)(hp:x.pure) :
  HSpec Tryz.prog 219 [.vec 0,.int 0,.vec 1] [.vec 10 [],.vec 10 [x]] (.vec 2) [none,none,some (.vec 10 [x])]:=by
 have hml:=maxLen_eq
 refine HSpec.walk Tryz.func219 cf219_ok (by simp [cf219]) ?_
 unfold cf219
 simp only [initT,initH,List.length_cons,List.length_nil]
 refine AWP.seq' ?_
 refine AWP.reg' fun K hK=>?_
 try simp only [stepS,stepD,stepM,eq_self,implies_true,forall_eq_or_imp,forall_eq,Nat.reduceEqDiff,↓reduceIte,Nat.reduceAdd,Nat.reduceLeDiff,Nat.reduceSub,Nat.reduceMul,Nat.reduceLT,Int.reduceBEq,Int.reduceBNe,Int.reduceToNat,Int.reduceLT,Int.reduceLE,Int.reduceAdd,Int.reduceSub,Int.reduceMul,reduceCtorEq]
 refine hK _ _ _ ?_
 clear hK K
 refine AWP.seq' ?_
 refine AWP.reg' fun K hK=>?_
 try simp only [stepS,stepD,stepM,eq_self,implies_true,forall_eq_or_imp,forall_eq,Nat.reduceEqDiff,↓reduceIte,Nat.reduceAdd,Nat.reduceLeDiff,Nat.reduceSub,Nat.reduceMul,Nat.reduceLT,Int.reduceBEq,Int.reduceBNe,Int.reduceToNat,Int.reduceLT,Int.reduceLE,Int.reduceAdd,Int.reduceSub,Int.reduceMul,reduceCtorEq]
 refine hK _ _ _ ?_
 clear hK K
 refine AWP.seq' ?_
 refine AWP.reg' fun K hK=>?_
 try simp only [stepS,stepD,stepM,eq_self,implies_true,forall_eq_or_imp,forall_eq,Nat.reduceEqDiff,↓reduceIte,Nat.reduceAdd,Nat.reduceLeDiff,Nat.reduceSub,Nat.reduceMul,Nat.reduceLT,Int.reduceBEq,Int.reduceBNe,Int.reduceToNat,Int.reduceLT,Int.reduceLE,Int.reduceAdd,Int.reduceSub,Int.reduceMul,reduceCtorEq]
 refine hK _ _ _ ?_
 clear hK K
 refine AWP.seq' (AWP.seq' ?_)
 refine AWP.reg' fun K hK=>?_
 try simp only [stepS,stepD,stepM,eq_self,implies_true,forall_eq_or_imp,forall_eq,Nat.reduceEqDiff,↓reduceIte,Nat.reduceAdd,Nat.reduceLeDiff,Nat.reduceSub,Nat.reduceMul,Nat.reduceLT,Int.reduceBEq,Int.reduceBNe,Int.reduceToNat,Int.reduceLT,Int.reduceLE,Int.reduceAdd,Int.reduceSub,Int.reduceMul,reduceCtorEq]
 refine hK _ _ _ ?_
 clear hK K
 refine AWP.cond (b:=false) rfl (fun h=>by cases h) (fun _=>?_)
 refine AWP.skip ?_
 refine AWP.seq' ?_
 refine AWP.reg' fun K hK=>?_
 try simp only [stepS,stepD,stepM,eq_self,implies_true,forall_eq_or_imp,forall_eq,Nat.reduceEqDiff,↓reduceIte,Nat.reduceAdd,Nat.reduceLeDiff,Nat.reduceSub,Nat.reduceMul,Nat.reduceLT,Int.reduceBEq,Int.reduceBNe,Int.reduceToNat,Int.reduceLT,Int.reduceLE,Int.reduceAdd,Int.reduceSub,Int.reduceMul,reduceCtorEq]
 refine hK _ _ _ ?_
 clear hK K
 refine AWP.seq' (AWP.seq' ?_)
 refine AWP.reg' fun K hK=>?_
 try simp only [stepS,stepD,stepM,eq_self,implies_true,forall_eq_or_imp,forall_eq,Nat.reduceEqDiff,↓reduceIte,Nat.reduceAdd,Nat.reduceLeDiff,Nat.reduceSub,Nat.reduceMul,Nat.reduceLT,Int.reduceBEq,Int.reduceBNe,Int.reduceToNat,Int.reduceLT,Int.reduceLE,Int.reduceAdd,Int.reduceSub,Int.reduceMul,reduceCtorEq]
 refine hK _ _ _ ?_
 clear hK K
 refine AWP.cond (b:=true) rfl (fun h=>?_) (fun h=>by cases h)
 refine AWP.seq' ?_
 refine AWP.reg' fun K hK=>?_
 try simp only [stepS,stepD,stepM,eq_self,implies_true,forall_eq_or_imp,forall_eq,Nat.reduceEqDiff,↓reduceIte,Nat.reduceAdd,Nat.reduceLeDiff,Nat.reduceSub,Nat.reduceMul,Nat.reduceLT,Int.reduceBEq,Int.reduceBNe,Int.reduceToNat,Int.reduceLT,Int.reduceLE,Int.reduceAdd,Int.reduceSub,Int.reduceMul,reduceCtorEq,appendA,srcA]
 repeat (refine And.intro (by omega) ?_)
 refine hK _ _ _ ?_
 clear hK K
 refine AWP.ret (fin_ren [0,1,274] [(6,.vec 2)] rfl rfl ?_ ?_ rfl (by simp) ?_ (by simp))
 ·simp only [List.mem_singleton,forall_eq]
  exact ⟨rfl,show (2:Nat)<3 by omega⟩
 ·have hp':pureL [x]:=⟨hp,trivial⟩
  refine ⟨⟨?_,?_⟩,trivial⟩
  ·rw [(vec_ren (m:=0) hp').1]
   rfl
  ·exact (vec_ren (π:=id) hp').2
 ·intro b hb
  match b,hb with
  | 0,_=>rfl
  | 1,_=>rfl
theorem Insert_specG(es:List AV)(x:AV)(i:Nat)(hi:i≤es.length)(hx:x.solid=true)(hs:es.length≤1000000)(hp:pureL es∧x.pure) :
  HSpec Tryz.prog 219 [.vec 0,.int i,.vec 1] [.vec 10 es,.vec 10 [x]] (.vec 2) [none,none,some (.vec 10 (insAt es i x))]:=by
 refine HSpec.of_row (fun cap h1 h2=>Insert_rowG es x i cap hi hx h1 h2 hs hp) (fun h=>?_)
 subst h
 have:i=0:=by simpa using hi
 subst this
 exact Insert_nilG x hx hp.2
theorem Insert_fnG:FnOk Tryz.prog 219:=fnB_ok (by kernel_rfl)
def insG_h(l:List Sig)(x:Sig)(i:Int)(hi:0≤i∧i≤l.length)(hl:l.length≤1000000):HC Tryz.prog:=
 ⟨219,[.k,.k,.k],[.vec 0,.int i,.vec 1],[.vec 10 (l.map Sig.v),.vec 10 [x.v]],.vec 2,[none,none,some (.vec 10 ((insAt l i.toNat x).map Sig.v))],by
  have h:=Insert_specG (l.map Sig.v) (Sig.v x) i.toNat (by rw [List.length_map];omega) rfl (by simpa using hl) ⟨pureBL_ok (pureBL_map (fun _=>rfl) l),AV.pureB_ok rfl⟩
  rw [insAt_map] at h
  have e1:((i.toNat:Nat):Int)=i:=by omega
  rw [e1] at h
  exact h,Insert_fnG,HcOk.of (by have e:x.v.pureB=true:=rfl;simp [e,hcB,belBL,AV.belB,allB,okBk,okBkO,pureBL_map (v:=Sig.v) (fun _=>rfl),pureBL,AV.pureB])⟩
def okArr(l:List Sig)(f:List Fau):Prop:=l.length≤500000∧f.length≤1000∧∀x∈l,x.srcs.length≤1000000
theorem ins_twice{l:List Sig}{n:Nat}{y:Sig}(hy:l[n]?=some y):insAt l (n+1) y=l.take n++[y,y]++l.drop (n+1):=by
 rw [insAt_cons,take_succ hy];simp
def arrO_a(flight:(List Sig))(faults:(List Fau)):Prop:=okL [.sl 10 (flight.map Sig.v) false,.sl 2 (faults.map Fau.v) false]
def arrO_n0(flight:(List Sig))(faults:(List Fau))(t0:Int×(List Sig)×(List Sig)):NF:=⟨[(4,.k,.vec 0),(5,.k,.vec 1),(11,.k,.sl 2 (faults.map Fau.v) false),(12,.k,.int ((faults.map Fau.v).length:Int)),(13,.k,.int t0.1)],[.vec 10 (t0.2.1.map Sig.v) (pureBL_map (fun _=>rfl) t0.2.1),.vec 10 (t0.2.2.map Sig.v) (pureBL_map (fun _=>rfl) t0.2.2)]⟩
def arrO_n1(flight:(List Sig))(faults:(List Fau))(t0:Int×(List Sig)×(List Sig))(x2:Fau)(t1:Bool):NF:=⟨[(4,.k,.vec 0),(5,.k,.vec 1),(7,.k,.ref 2 0),(11,.k,.sl 2 (faults.map Fau.v) false),(12,.k,.int ((faults.map Fau.v).length:Int)),(13,.k,.int t0.1),(26,.k,.bool t1)],[.vec 10 (t0.2.1.map Sig.v) (pureBL_map (fun _=>rfl) t0.2.1),.vec 10 (t0.2.2.map Sig.v) (pureBL_map (fun _=>rfl) t0.2.2),.box (.agg [.int x2.kind,.int x2.pos])]⟩
def arrO_s:Nat→Type
 | 0=>Int×(List Sig)×(List Sig)
 | 1=>Bool
 | _=>Unit
def arrO_e(r:(List Sig)×(List Sig)):AV:=.tup [.vec 0,.vec 1]
def arrO_b(r:(List Sig)×(List Sig)):List (Option Blk):=[some (.vec 10 (r.1.map Sig.v)),some (.vec 10 (r.2.map Sig.v))]
def arrO_vc(flight:(List Sig))(faults:(List Fau))(I0:(Int×(List Sig)×(List Sig))→Prop)(m0:(Int×(List Sig)×(List Sig))→Nat)(I1:Int×(List Sig)×(List Sig)→Fau→Bool→Prop)(r0:(List Sig)×(List Sig)):Prop:=
 ∃h1:okSigs flight,
 Ch (sigsC_h flight h1) [] 48
 (Be (arrO_n0 flight faults) [48,128] I0 (0,flight,[])∧∀t0,I0 t0 →
 br (decide (t0.1<((faults.map Fau.v).length:Int)))
 (Rf (faults.map Fau.v) (ck (decide (0≤t0.1)) (ck (decide (t0.1<(faults.length:Int)))
 (∀x2,faults[t0.1.toNat]?=some x2 →
 (br (decide (x2.pos<0))
 (Be (arrO_n1 flight faults t0 x2) [0,1,50] (I1 t0 x2) (true))
 (Be (arrO_n1 flight faults t0 x2) [0,1,50] (I1 t0 x2) (decide (((t0.2.1.map Sig.v).length:Int)≤x2.pos))))∧∀t1:Bool,I1 t0 x2 t1 →
 br t1
 (Bk (arrO_n0 flight faults) [0,1] I0 m0 (W (t0.1+1),t0.2.1,t0.2.2) t0)
 (ck (cond (decide (0≤x2.pos)) (decide (x2.pos<((t0.2.1.map Sig.v).length:Int))) false)
 (Rf (t0.2.1.map Sig.v) (ck (decide (x2.pos.toNat<t0.2.1.length))
 (∀x3,t0.2.1[x2.pos.toNat]?=some x3 →
 br (x2.kind==1)
 (∃h4:(0≤x2.pos∧x2.pos<t0.2.1.length)∧(W (x2.pos+1))=x2.pos+1,
 ∃h5:t0.2.1.length≤1000000,
 Ch (delG_h t0.2.1 x2.pos (W (x2.pos+1)) h4 h5) [0] 275
 (Bk (arrO_n0 flight faults) [275,1] I0 m0 (W (t0.1+1),delAt t0.2.1 (Int.toNat x2.pos),t0.2.2) t0))
 (br (x2.kind==2)
 (∃h6:0≤(W (x2.pos+1))∧(W (x2.pos+1))≤t0.2.1.length,
 ∃h7:t0.2.1.length≤1000000,
 Ch (insG_h t0.2.1 x3 (W (x2.pos+1)) h6 h7) [0,291] 307
 (Bk (arrO_n0 flight faults) [307,1] I0 m0 (W (t0.1+1),insAt t0.2.1 (Int.toNat (W (x2.pos+1))) x3,t0.2.2) t0))
 (br (x2.kind==3)
 (∃h8:(0≤x2.pos∧x2.pos<t0.2.1.length)∧(W (x2.pos+1))=x2.pos+1,
 ∃h9:t0.2.1.length≤1000000,
 Ch (delG_h t0.2.1 x2.pos (W (x2.pos+1)) h8 h9) [0] 339
 (Rf (α:=List AV) (t0.2.2.map Sig.v) (Rf (α:=List AV) [.agg [.int x3.kind,.int x3.src,.int x3.dst,.int x3.epoch,.int x3.ver,.int x3.prev,.int x3.pep,.int x3.grp,.int x3.mode,.sl 1 (x3.srcs.map AV.int) false]]
 (ck (decide (t0.2.2.length+1≤1000000))
 (Bk (arrO_n0 flight faults) [339,403] I0 m0 (W (t0.1+1),delAt t0.2.1 (Int.toNat x2.pos),t0.2.2++[x3]) t0)))))
 (br (x2.kind==4)
 (br (decide ((W (x2.pos+1))<((t0.2.1.map Sig.v).length:Int)))
 (ck (cond (decide (0≤(W (x2.pos+1)))) (decide ((W (x2.pos+1))<((t0.2.1.map Sig.v).length:Int))) false)
 (Rf (t0.2.1.map Sig.v) (ck (decide ((W (x2.pos+1)).toNat<t0.2.1.length))
 (∀x10,t0.2.1[(W (x2.pos+1)).toNat]?=some x10 →
 ck (cond (decide (0≤x2.pos)) (decide (x2.pos<((t0.2.1.map Sig.v).length:Int))) false)
 (Rf (t0.2.1.map Sig.v) (ck (decide (x2.pos.toNat<t0.2.1.length))
 (∀y11,t0.2.1[x2.pos.toNat]?=some y11→Rf (Sig.v x10)
 (ck (cond (decide (0≤(W (x2.pos+1)))) (decide ((W (x2.pos+1))<(((t0.2.1.set x2.pos.toNat x10).map Sig.v).length:Int))) false)
 (Rf ((t0.2.1.set x2.pos.toNat x10).map Sig.v) (ck (decide ((W (x2.pos+1)).toNat<(t0.2.1.set x2.pos.toNat x10).length))
 (∀y12,(t0.2.1.set x2.pos.toNat x10)[(W (x2.pos+1)).toNat]?=some y12→Rf (Sig.v x3)
 (Bk (arrO_n0 flight faults) [0,1] I0 m0 (W (t0.1+1),(t0.2.1.set x2.pos.toNat x10).set ((W (x2.pos+1)).toNat) x3,t0.2.2) t0))))))))))))
 (Bk (arrO_n0 flight faults) [0,1] I0 m0 (W (t0.1+1),t0.2.1,t0.2.2) t0))
 (Bk (arrO_n0 flight faults) [0,1] I0 m0 (W (t0.1+1),t0.2.1,t0.2.2) t0))))))))))))
 (Qt ⟨[(4,.k,.vec 0),(5,.k,.vec 1)],[.vec 10 (t0.2.1.map Sig.v) (pureBL_map (fun _=>rfl) t0.2.1),.vec 10 (t0.2.2.map Sig.v) (pureBL_map (fun _=>rfl) t0.2.2)]⟩ [0,1] arrO_e arrO_b (t0.2.1,t0.2.2) r0))
theorem arrO_p(l:List Sig)(f:List Fau)(h:okArr l f)(ok:arrO_a l f):∃I0 m0 I1,arrO_vc l f I0 m0 I1 (arr l f):=by
 obtain ⟨h1,h2,h3⟩:=h
 refine ⟨fun t=>∃k:Nat,t=((k:Int),((f.take k).foldl arr1 (l,[])).1,((f.take k).foldl arr1 (l,[])).2)∧k≤f.length,fun t=>f.length-t.1.toNat,
  fun t0 x t=>t=decide (x.pos<0∨(t0.2.1.length:Int)≤x.pos),?_⟩
 simp only [arrO_vc,vcU,rfU,List.length_map]
 refine ⟨⟨by omega,h3⟩,⟨0,rfl,by omega⟩,?_⟩
 rintro _ ⟨k,rfl,hk⟩
 have hlen:=arrs_len (f:=f.take k) (s:=(l,[]))
 have hst:∀x,f[k]?=some x→(f.take (k+1)).foldl arr1 (l,[])=arr1 ((f.take k).foldl arr1 (l,[])) x:=fun x hx=>by rw [take_succ hx,List.foldl_append];rfl
 have hend:k=f.length→(f.take k).foldl arr1 (l,[])=arr l f:=fun e=>by rw [e,List.take_length];rfl
 generalize (f.take k).foldl arr1 (l,[])=s at *
 obtain ⟨now,late⟩:=s
 rw [List.length_take] at hlen
 simp only [Int.toNat_natCast,List.length_nil] at hlen ⊢
 refine ⟨fun a1=>⟨by omega,by omega,fun x hx=>⟨⟨fun c=>?_,fun c=>?_⟩,?_⟩⟩,fun a1=>?_⟩
 ·simp [c]
 ·exact decide_eq_decide.mpr (by omega)
 ·have e1:=hst x hx
  intro t1 ht1
  rw [W_succ (n:=f.length) (by omega) (by omega)]
  have fin:∀a b,arr1 (now,late) x=(a,b)→(∃k_1:Nat,(((k+1:Nat):Int),a,b)=((k_1:Int),((f.take k_1).foldl arr1 (l,[])).1,((f.take k_1).foldl arr1 (l,[])).2)∧k_1≤f.length)∧f.length-((k+1:Nat):Int).toNat<f.length-k:=fun a b e =>
   ⟨⟨k+1,by rw [e1,e],by omega⟩,by omega⟩
  refine ⟨fun e=>fin _ _ (if_pos (of_decide_eq_true (ht1.symm.trans e))),fun e=>?_⟩
  have hb:¬(x.pos<0∨(now.length:Int)≤x.pos):=of_decide_eq_false (ht1.symm.trans e)
  have e2:arr1 (now,late) x=arrK now late x.kind x.pos.toNat (now.getD x.pos.toNat sig0):=if_neg hb
  obtain ⟨n,hn⟩:∃n:Nat,x.pos=n:=⟨x.pos.toNat,by omega⟩
  rw [hn] at e2 hb ⊢
  simp only [Int.toNat_natCast] at e2 ⊢
  have hW:W ((n:Int)+1)=((n+1:Nat):Int):=by rw [W_eq (by omega)];omega
  rw [hW]
  simp only [Int.toNat_natCast]
  refine ⟨by simp;omega,by omega,fun y hy=>?_⟩
  rw [getD_some hy] at e2
  refine ⟨fun c1=>⟨⟨⟨by omega,by omega⟩,by omega⟩,by omega,fin _ _ ?_⟩,fun c1=>⟨fun c2=>⟨⟨by omega,by omega⟩,by omega,fin _ _ ?_⟩,fun c2=>⟨fun c3=>⟨⟨⟨by omega,by omega⟩,by omega⟩,by omega,by omega,fin _ _ ?_⟩,fun c3=>⟨fun c4=>⟨fun d=>?_,fun d=>fin _ _ ?_⟩,fun c4=>fin _ _ ?_⟩⟩⟩⟩
  ·rw [e2,arrK,if_pos (by simpa using c1)];rfl
  ·rw [e2,arrK,if_neg (by simpa using c1),if_pos (by simpa using c2),ins_twice hy]
  ·rw [e2,arrK,if_neg (by simpa using c1),if_neg (by simpa using c2),if_pos (by simpa using c3)];rfl
  ·refine ⟨by simp;omega,by omega,fun z hz=>⟨by simp;omega,by omega,fun u hu=>⟨by simp;omega,by simp;omega,fun v hv=>fin _ _ ?_⟩⟩⟩
   rw [e2,arrK,if_neg (by simpa using c1),if_neg (by simpa using c2),if_neg (by simpa using c3),if_pos (by simpa using c4),if_pos (by omega),getD_some hz]
  ·rw [e2,arrK,if_neg (by simpa using c1),if_neg (by simpa using c2),if_neg (by simpa using c3),if_pos (by simpa using c4),if_neg (by omega)]
  ·rw [e2,arrK,if_neg (by simpa using c1),if_neg (by simpa using c2),if_neg (by simpa using c3),if_neg (by simpa using c4)]
 ·rw [←hend (by omega)]
def arrO_h(flight:(List Sig))(faults:(List Fau))(h:okArr flight faults):HC Tryz.prog:=⟨159,[(.s 10),(.s 2)],[.sl 10 (flight.map Sig.v) false,.sl 2 (faults.map Fau.v) false],[],arrO_e (arr flight faults),arrO_b (arr flight faults),HSpec.of_okh fun ok _=>(arrO_p flight faults h ok).elim fun I0 h=>h.elim fun m0 h=>h.elim fun I1 h=>mxH_of (sh:=.k) (enc:=arrO_e) (hB:=arrO_b) (a:=((.req 48 (okSigs flight) fun h1 =>
 (.callH [] (sigsC_h flight h1)
 (.cmdL (.nilT 5 10) (.loop 0 (arrO_n0 flight faults) (I0) (m0) ((0,flight,[]):Int×(List Sig)×(List Sig)) [48,128] fun (t0:Int×(List Sig)×(List Sig)) =>
 (.br 18 (.el 18 Fau.v faults fun x2 =>
 (.pass (.join 1 (arrO_n1 flight faults t0 x2) (fun t1=>I1 t0 x2 t1) (.br 146 (.back 1 ((true):Bool) [0,1,50])
 (.back 1 ((decide (((t0.2.1.map Sig.v).length:Int)≤x2.pos)):Bool) [0,1,50])) fun (t1:Bool) =>
 (.br 3 (.back 0 ((W (t0.1+1),t0.2.1,t0.2.2):Int×(List Sig)×(List Sig)) [0,1])
 (.el 67 Sig.v t0.2.1 fun x3 =>
 (.br 179 (.req 275 ((0≤x2.pos∧x2.pos<t0.2.1.length)∧(W (x2.pos+1))=x2.pos+1) fun h4 =>
 (.req 275 (t0.2.1.length≤1000000) fun h5 =>
 (.callH [0] (delG_h t0.2.1 x2.pos (W (x2.pos+1)) h4 h5)
 (.back 0 ((W (t0.1+1),delAt t0.2.1 (Int.toNat x2.pos),t0.2.2):Int×(List Sig)×(List Sig)) [275,1]))))
 (.br 211 (.own 291 (.req 307 (0≤(W (x2.pos+1))∧(W (x2.pos+1))≤t0.2.1.length) fun h6 =>
 (.req 307 (t0.2.1.length≤1000000) fun h7 =>
 (.callH [0,291] (insG_h t0.2.1 x3 (W (x2.pos+1)) h6 h7)
 (.back 0 ((W (t0.1+1),insAt t0.2.1 (Int.toNat (W (x2.pos+1))) x3,t0.2.2):Int×(List Sig)×(List Sig)) [307,1])))))
 (.br 243 (.req 339 ((0≤x2.pos∧x2.pos<t0.2.1.length)∧(W (x2.pos+1))=x2.pos+1) fun h8 =>
 (.req 339 (t0.2.1.length≤1000000) fun h9 =>
 (.callH [0] (delG_h t0.2.1 x2.pos (W (x2.pos+1)) h8 h9)
 (.app 403 Sig.v t0.2.2 [x3]
 (.back 0 ((W (t0.1+1),delAt t0.2.1 (Int.toNat x2.pos),t0.2.2++[x3]):Int×(List Sig)×(List Sig)) [339,403])))))
 (.br 275 (.br 371 (.el 563 Sig.v t0.2.1 fun x10 =>
 (.st 611 Sig.v t0.2.1 (fun y11=>x10) fun y11 =>
 (.st 643 Sig.v (t0.2.1.set x2.pos.toNat x10) (fun y12=>x3) fun y12 =>
 (.back 0 ((W (t0.1+1),(t0.2.1.set x2.pos.toNat x10).set ((W (x2.pos+1)).toNat) x3,t0.2.2):Int×(List Sig)×(List Sig)) [0,1]))))
 (.back 0 ((W (t0.1+1),t0.2.1,t0.2.2):Int×(List Sig)×(List Sig)) [0,1]))
 (.back 0 ((W (t0.1+1),t0.2.1,t0.2.2):Int×(List Sig)×(List Sig)) [0,1]))))))))))
 (.retH (t0.2.1,t0.2.2) ⟨[(4,.k,.vec 0),(5,.k,.vec 1)],[.vec 10 (t0.2.1.map Sig.v) (pureBL_map (fun _=>rfl) t0.2.1),.vec 10 (t0.2.2.map Sig.v) (pureBL_map (fun _=>rfl) t0.2.2)]⟩ [0,1])))))):An Tryz.prog arrO_s ((List Sig)×(List Sig)))) h (by kernel_rfl),fnB_ok (by kernel_rfl),HcOk.of (by simp [hcB,belBL,AV.belB,allB,okBk,okBkO,arrO_e,arrO_b,pureBL_map (v:=Fau.v) (fun _=>rfl),pureBL_map (v:=Sig.v) (fun _=>rfl)])⟩
def okRnd(o:Ovl)(f:List Fau):Prop:=o.fl.length≤400000∧f.length≤1000
theorem NetOk.pos{R:List Int}{sp:List Spk}{ls:List Lsn}(h:NetOk R sp ls){r:Int}(hr:r∈R) :
  posS sp r<sp.length∧posS sp r<ls.length∧sp[posS sp r]?=some (atS sp r)∧ls[posS sp r]?=some (atL sp ls r):=by
 have h1:posS sp r<sp.length:=((hitK_iff (key:=Spk.router) (d:=spk0) h.asc).mpr (mem_keys.mp (by rw [h.spr];exact hr))).1
 have e1:=congrArg List.length h.spr
 have e2:=congrArg List.length h.lsr
 rw [List.length_map] at e1 e2
 refine ⟨h1,by omega,?_,?_⟩
 ·unfold atS;rw [List.getD_eq_getElem?_getD,List.getElem?_eq_getElem h1];rfl
 ·unfold atL;rw [List.getD_eq_getElem?_getD,List.getElem?_eq_getElem (by omega)];rfl
theorem NetOk.lens{R:List Int}{sp:List Spk}{ls:List Lsn}(h:NetOk R sp ls):sp.length≤12∧ls.length≤12:=by
 have e1:=congrArg List.length h.spr
 have e2:=congrArg List.length h.lsr
 rw [List.length_map] at e1 e2
 have:=h.len
 omega
theorem flat_take{α β:Type}{f:α→List β}{l:List α}{k:Nat}{x:α}(hx:l[k]?=some x):(l.take (k+1)).flatMap f=(l.take k).flatMap f++f x:=by
 rw [take_succ hx];simp
def rndOv_a(o:Ovl)(faults:(List Fau)):Prop:=okL [.agg [.sl 5 (o.sp.map Spk.v) false,.sl 3 (o.ls.map Lsn.v) false,.sl 10 (o.fl.map Sig.v) false],.sl 2 (faults.map Fau.v) false]
def rndOv_n0(o:Ovl)(faults:(List Fau))(t0:Int×(List Spk)×(List Sig)×(List Lsn)):NF:=⟨[(4,.k,.ref 0 0),(6,.k,.ref 1 0),(8,.k,.vec 5),(37,.k,.vec 6),(38,.k,.int ((((arr o.fl faults).1).map Sig.v).length:Int)),(39,.k,.int t0.1)],[.box (.agg [.sl 0 [] true,.sl 0 [] true,.sl 0 [] true]),.box (.agg [.vec 2,.vec 3,.vec 4]),.vec 5 (t0.2.1.map Spk.v) (pureBL_map (fun _=>rfl) t0.2.1),.vec 3 (t0.2.2.2.map Lsn.v) (pureBL_map (fun _=>rfl) t0.2.2.2),.vec 10 (o.fl.map Sig.v) (pureBL_map (fun _=>rfl) o.fl),.vec 10 (t0.2.2.1.map Sig.v) (pureBL_map (fun _=>rfl) t0.2.2.1),.vec 10 (((arr o.fl faults).1).map Sig.v) (pureBL_map (fun _=>rfl) ((arr o.fl faults).1))]⟩
def rndOv_n1(o:Ovl)(faults:(List Fau))(t0:Int×(List Spk)×(List Sig)×(List Lsn))(t1:Int×(List Sig)):NF:=⟨[(4,.k,.ref 0 0),(6,.k,.ref 1 0),(8,.k,.vec 5),(94,.k,.vec 2),(95,.k,.int ((t0.2.1.map Spk.v).length:Int)),(96,.k,.int t1.1)],[.box (.agg [.sl 0 [] true,.sl 0 [] true,.sl 0 [] true]),.box (.agg [.vec 2,.vec 3,.vec 4]),.vec 5 (t0.2.1.map Spk.v) (pureBL_map (fun _=>rfl) t0.2.1),.vec 3 (t0.2.2.2.map Lsn.v) (pureBL_map (fun _=>rfl) t0.2.2.2),.vec 10 (o.fl.map Sig.v) (pureBL_map (fun _=>rfl) o.fl),.vec 10 (t1.2.map Sig.v) (pureBL_map (fun _=>rfl) t1.2)]⟩
def rndOv_n2(o:Ovl)(faults:(List Fau))(t0:Int×(List Spk)×(List Sig)×(List Lsn))(t1:Int×(List Sig))(x10:Spk)(t2:Int×(List Sig)):NF:=⟨[(4,.k,.ref 0 0),(6,.k,.ref 1 0),(8,.k,.vec 5),(19,.k,.ref 6 0),(94,.k,.vec 2),(95,.k,.int ((t0.2.1.map Spk.v).length:Int)),(96,.k,.int t1.1),(101,.k,.sl 3 (x10.peers.map Per.v) false),(102,.k,.int ((x10.peers.map Per.v).length:Int)),(103,.k,.int t2.1)],[.box (.agg [.sl 0 [] true,.sl 0 [] true,.sl 0 [] true]),.box (.agg [.vec 2,.vec 3,.vec 4]),.vec 5 (t0.2.1.map Spk.v) (pureBL_map (fun _=>rfl) t0.2.1),.vec 3 (t0.2.2.2.map Lsn.v) (pureBL_map (fun _=>rfl) t0.2.2.2),.vec 10 (o.fl.map Sig.v) (pureBL_map (fun _=>rfl) o.fl),.vec 10 (t2.2.map Sig.v) (pureBL_map (fun _=>rfl) t2.2),.box (.agg [.int x10.router,.int x10.epoch,.int x10.last,.sl 4 (x10.items.map Itm.v) false,.sl 3 (x10.peers.map Per.v) false])]⟩
def rndOv_s:Nat→Type
 | 0=>Int×(List Spk)×(List Sig)×(List Lsn)
 | 1=>Int×(List Sig)
 | 2=>Int×(List Sig)
 | _=>Unit
def rndOv_e(r:Ovl×Int):AV:=.tup [Ovl.v r.1,.int r.2]
def rndOv_vc(o:Ovl)(faults:(List Fau))(I0:(Int×(List Spk)×(List Sig)×(List Lsn))→Prop)(m0:(Int×(List Spk)×(List Sig)×(List Lsn))→Nat)(I1:Int×(List Spk)×(List Sig)×(List Lsn)→(Int×(List Sig))→Prop)(m1:Int×(List Spk)×(List Sig)×(List Lsn)→(Int×(List Sig))→Nat)(I2:Int×(List Spk)×(List Sig)×(List Lsn)→Int×(List Sig)→Spk→(Int×(List Sig))→Prop)(m2:Int×(List Spk)×(List Sig)×(List Lsn)→Int×(List Sig)→Spk→(Int×(List Sig))→Nat)(r0:Ovl×Int):Prop:=
 Cl (validO_c o)
 (br (!(decide (ovlOk o)))
 (Rp rndOv_e ((⟨[],[],[]⟩:Ovl),1) r0)
 (∃h1:ovlOk o∧o.fl.length≤1000000,
 Ch (copO_h o h1) [] 112
 (∃h2:okArr o.fl faults,
 Ch (arrO_h o.fl faults h2) [] 208
 (Be (rndOv_n0 o faults) [16,128,112,113,114,209,208] I0 (0,o.sp,(arr o.fl faults).2,o.ls)∧∀t0,I0 t0 →
 br (decide (t0.1<((((arr o.fl faults).1).map Sig.v).length:Int)))
 (ck (cond (decide (0≤t0.1)) (decide (t0.1<((((arr o.fl faults).1).map Sig.v).length:Int))) false)
 (Rf (((arr o.fl faults).1).map Sig.v) (ck (decide (t0.1.toNat<((arr o.fl faults).1).length))
 (∀x3,((arr o.fl faults).1)[t0.1.toNat]?=some x3 →
 ∃h4:(⟨t0.2.1,t0.2.2.2,o.fl⟩:Ovl).sp.Pairwise fun x y=>x.router<y.router,
 ∃h5:(⟨t0.2.1,t0.2.2.2,o.fl⟩:Ovl).sp.length≤1000000,
 Cl (findS_c (⟨t0.2.1,t0.2.2.2,o.fl⟩:Ovl) x3.dst h4 h5)
 (ck (pureBLs [(t0.2.1.map Spk.v),(t0.2.2.2.map Lsn.v),(o.fl.map Sig.v)])
 (br (x3.kind==3)
 (ck (cond (decide (0≤(posS (⟨t0.2.1,t0.2.2.2,o.fl⟩:Ovl).sp x3.dst:Int))) (decide ((posS (⟨t0.2.1,t0.2.2.2,o.fl⟩:Ovl).sp x3.dst:Int)<((t0.2.1.map Spk.v).length:Int))) false)
 (Rf (t0.2.1.map Spk.v) (ck (decide ((posS (⟨t0.2.1,t0.2.2.2,o.fl⟩:Ovl).sp x3.dst:Int).toNat<t0.2.1.length))
 (∀x6,t0.2.1[(posS (⟨t0.2.1,t0.2.2.2,o.fl⟩:Ovl).sp x3.dst:Int).toNat]?=some x6 →
 Cl (ack_c x6 x3)
 (br (((ack x6 x3).2)==0)
 (ck (cond (decide (0≤(posS (⟨t0.2.1,t0.2.2.2,o.fl⟩:Ovl).sp x3.dst:Int))) (decide ((posS (⟨t0.2.1,t0.2.2.2,o.fl⟩:Ovl).sp x3.dst:Int)<((t0.2.1.map Spk.v).length:Int))) false)
 (Rf (t0.2.1.map Spk.v) (ck (decide ((posS (⟨t0.2.1,t0.2.2.2,o.fl⟩:Ovl).sp x3.dst:Int).toNat<t0.2.1.length))
 (∀y7,t0.2.1[(posS (⟨t0.2.1,t0.2.2.2,o.fl⟩:Ovl).sp x3.dst:Int).toNat]?=some y7→Rf (Spk.v ((ack x6 x3).1))
 (Bk (rndOv_n0 o faults) [0,1,2,3,4,5,6] I0 m0 (W (t0.1+1),t0.2.1.set ((posS (⟨t0.2.1,t0.2.2.2,o.fl⟩:Ovl).sp x3.dst:Int).toNat) ((ack x6 x3).1),t0.2.2.1,t0.2.2.2) t0)))))
 (Bk (rndOv_n0 o faults) [0,1,2,3,4,5,6] I0 m0 (W (t0.1+1),t0.2.1,t0.2.2.1,t0.2.2.2) t0))))))
 (ck (cond (decide (0≤(posS (⟨t0.2.1,t0.2.2.2,o.fl⟩:Ovl).sp x3.dst:Int))) (decide ((posS (⟨t0.2.1,t0.2.2.2,o.fl⟩:Ovl).sp x3.dst:Int)<((t0.2.2.2.map Lsn.v).length:Int))) false)
 (Rf (t0.2.2.2.map Lsn.v) (ck (decide ((posS (⟨t0.2.1,t0.2.2.2,o.fl⟩:Ovl).sp x3.dst:Int).toNat<t0.2.2.2.length))
 (∀x8,t0.2.2.2[(posS (⟨t0.2.1,t0.2.2.2,o.fl⟩:Ovl).sp x3.dst:Int).toNat]?=some x8 →
 Cl (hear_c x8 x3)
 (br (((hear x8 x3).2)==0)
 (ck (cond (decide (0≤(posS (⟨t0.2.1,t0.2.2.2,o.fl⟩:Ovl).sp x3.dst:Int))) (decide ((posS (⟨t0.2.1,t0.2.2.2,o.fl⟩:Ovl).sp x3.dst:Int)<((t0.2.2.2.map Lsn.v).length:Int))) false)
 (Rf (t0.2.2.2.map Lsn.v) (ck (decide ((posS (⟨t0.2.1,t0.2.2.2,o.fl⟩:Ovl).sp x3.dst:Int).toNat<t0.2.2.2.length))
 (∀y9,t0.2.2.2[(posS (⟨t0.2.1,t0.2.2.2,o.fl⟩:Ovl).sp x3.dst:Int).toNat]?=some y9→Rf (Lsn.v ((hear x8 x3).1.1))
 (Rf (α:=List AV) (t0.2.2.1.map Sig.v) (Rf (α:=List AV) [(Sig.v ((hear x8 x3).1.2))]
 (ck (decide (t0.2.2.1.length+1≤1000000))
 (Bk (rndOv_n0 o faults) [0,1,2,3,4,711,6] I0 m0 (W (t0.1+1),t0.2.1,t0.2.2.1++[(hear x8 x3).1.2],t0.2.2.2.set ((posS (⟨t0.2.1,t0.2.2.2,o.fl⟩:Ovl).sp x3.dst:Int).toNat) ((hear x8 x3).1.1)) t0))))))))
 (Bk (rndOv_n0 o faults) [0,1,2,3,4,5,6] I0 m0 (W (t0.1+1),t0.2.1,t0.2.2.1,t0.2.2.2) t0))))))))))))
 (Be (rndOv_n1 o faults t0) [0,1,2,3,4,5] (I1 t0) (0,t0.2.2.1)∧∀t1,I1 t0 t1 →
 br (decide (t1.1<((t0.2.1.map Spk.v).length:Int)))
 (ck (cond (decide (0≤t1.1)) (decide (t1.1<((t0.2.1.map Spk.v).length:Int))) false)
 (Rf (t0.2.1.map Spk.v) (ck (decide (t1.1.toNat<t0.2.1.length))
 (∀x10,t0.2.1[t1.1.toNat]?=some x10 →
 Be (rndOv_n2 o faults t0 t1 x10) [0,1,2,3,4,5,54] (I2 t0 t1 x10) (0,t1.2)∧∀t2,I2 t0 t1 x10 t2 →
 br (decide (t2.1<((x10.peers.map Per.v).length:Int)))
 (Rf (x10.peers.map Per.v) (ck (decide (0≤t2.1)) (ck (decide (t2.1<(x10.peers.length:Int)))
 (∀x11,x10.peers[t2.1.toNat]?=some x11 →
 Cl (send_c x10 x11.router)
 (Rf (α:=List AV) (t2.2.map Sig.v) (Rf (α:=List AV) (((send x10 x11.router).1).map Sig.v)
 (ck (decide (t2.2.length+((send x10 x11.router).1).length≤1000000))
 (Bk (rndOv_n2 o faults t0 t1 x10) [0,1,2,3,4,263,6] (I2 t0 t1 x10) (m2 t0 t1 x10) (W (t2.1+1),t2.2++((send x10 x11.router).1)) t2))))))))
 (Bk (rndOv_n1 o faults t0) [0,1,2,3,4,5] (I1 t0) (m1 t0) (W (t1.1+1),t2.2) t1)))))
 (Rf (t1.2.map Sig.v) (∃h12:okSigs t1.2,
 Ch (sigsC_h t1.2 h12) [] 38
 (Rf (t1.2.map Sig.v) (Rf (t0.2.2.2.map Lsn.v) (Rf (t0.2.1.map Spk.v) (Rp rndOv_e ((⟨t0.2.1,t0.2.2.2,t1.2⟩:Ovl),0) r0)))))))))))
theorem rndOv_p(o:Ovl)(f:List Fau)(h:okRnd o f)(ok:rndOv_a o f):∃I0 m0 I1 m1 I2 m2,rndOv_vc o f I0 m0 I1 m1 I2 m2 (roundO o f):=by
 obtain ⟨h1,h2⟩:=h
 by_cases hv:ovlOk o
 case neg =>
  refine ⟨fun _=>True,fun _=>0,fun _ _=>True,fun _ _=>0,fun _ _ _ _=>True,fun _ _ _ _=>0,?_⟩
  have e:roundO o f=(ovl0,1):=if_pos hv
  rw [e]
  simp only [rndOv_vc,vcU,rfU,List.length_map]
  simp [hv,ovl0]
 have hn:=hv.1
 obtain ⟨hnow,hlate⟩:=arr_mem (P:=sigIn (rtrs o.sp)) (f:=f) hv.2
 have hlen:=arr_len (l:=o.fl) (f:=f)
 have e:roundO o f=(roundN o (arr o.fl f).1 (arr o.fl f).2,0):=if_neg (not_not_intro hv)
 rw [e]
 have hA:okArr o.fl f:=⟨by omega,h2,fun x hx=>sig_srcs (hv.2 x hx).1⟩
 refine ⟨fun t=>∃k:Nat,t=((k:Int),(((arr o.fl f).1.take k).foldl deliver ((o.sp,o.ls),(arr o.fl f).2)).1.1,(((arr o.fl f).1.take k).foldl deliver ((o.sp,o.ls),(arr o.fl f).2)).2,(((arr o.fl f).1.take k).foldl deliver ((o.sp,o.ls),(arr o.fl f).2)).1.2)∧k≤(arr o.fl f).1.length,
  fun t=>(arr o.fl f).1.length-t.1.toNat,
  fun t0 t=>∃j:Nat,t=((j:Int),t0.2.2.1++(t0.2.1.take j).flatMap sends1)∧j≤t0.2.1.length,fun t0 t=>t0.2.1.length-t.1.toNat,
  fun t0 t1 x t=>∃i:Nat,t=((i:Int),t1.2++(x.peers.take i).flatMap fun p=>(send x p.router).1)∧i≤x.peers.length,fun t0 t1 x t=>x.peers.length-t.1.toNat,?_⟩
 simp only [rndOv_vc,vcU,rfU,List.length_map]
 generalize (arr o.fl f).1=now at *
 generalize (arr o.fl f).2=late at *
 refine ⟨fun q=>absurd hv (by simpa using q),fun _=>⟨⟨hv,by omega⟩,hA,⟨0,rfl,by omega⟩,?_⟩⟩
 rintro _ ⟨k,rfl,hk⟩
 have d:=delivers_ok (l:=now.take k) (s:=((o.sp,o.ls),late)) hn fun x hx=>hnow x (List.mem_of_mem_take hx)
 have dl:=delivers_len (l:=now.take k) (s:=((o.sp,o.ls),late))
 have hst:∀x,now[k]?=some x→(now.take (k+1)).foldl deliver ((o.sp,o.ls),late)=deliver ((now.take k).foldl deliver ((o.sp,o.ls),late)) x:=fun x hx=>by rw [take_succ hx,List.foldl_append];rfl
 have hend:k=now.length→roundN o now late=⟨((now.take k).foldl deliver ((o.sp,o.ls),late)).1.1,((now.take k).foldl deliver ((o.sp,o.ls),late)).1.2,((now.take k).foldl deliver ((o.sp,o.ls),late)).2++sends ((now.take k).foldl deliver ((o.sp,o.ls),late)).1.1⟩:=fun e=>by rw [e,List.take_length];rfl
 have hfl:=(roundN_ok hn hnow hlate).fl
 generalize (now.take k).foldl deliver ((o.sp,o.ls),late)=s at *
 obtain ⟨⟨sp,ls⟩,out⟩:=s
 have dn:=d.net
 simp only at dn
 obtain ⟨n1,n2⟩:=dn.lens
 rw [List.length_take] at dl
 simp only [Int.toNat_natCast] at dl ⊢
 refine ⟨fun a1=>⟨by simp;omega,by omega,fun x hx=>⟨dn.asc,by omega,?_,?_⟩⟩,fun a1=>⟨⟨0,by simp,by omega⟩,?_⟩⟩
 ·simp [pureBLs,pureBL_map (v:=Spk.v) (fun _=>rfl),pureBL_map (v:=Lsn.v) (fun _=>rfl),pureBL_map (v:=Sig.v) (fun _=>rfl)]
 ·have e1:=hst x hx
  obtain ⟨p1,p2,p3,p4⟩:=dn.pos (hnow x (mem_of_get hx)).2.2
  rw [W_succ (n:=now.length) (by omega) (by omega)]
  have fin:∀a b c,deliver ((sp,ls),out) x=((a,c),b)→(∃k_1:Nat,(((k+1:Nat):Int),a,b,c)=((k_1:Int),((now.take k_1).foldl deliver ((o.sp,o.ls),late)).1.1,((now.take k_1).foldl deliver ((o.sp,o.ls),late)).2,((now.take k_1).foldl deliver ((o.sp,o.ls),late)).1.2)∧k_1≤now.length)∧now.length-((k+1:Nat):Int).toNat<now.length-k:=fun a b c e =>
   ⟨⟨k+1,by rw [e1,e],by omega⟩,by omega⟩
  refine ⟨fun c1=>⟨by simp;omega,by omega,fun y hy=>⟨fun c2=>⟨by simp;omega,by omega,fun z hz=>fin _ _ _ ?_⟩,fun c2=>fin _ _ _ ?_⟩⟩,fun c1=>⟨by simp;omega,by omega,fun y hy=>⟨fun c2=>⟨by simp;omega,by omega,fun z hz=>⟨by omega,fin _ _ _ ?_⟩⟩,fun c2=>fin _ _ _ ?_⟩⟩⟩
  ·cases p3.symm.trans hy
   unfold deliver;rw [if_pos (by simpa using c1),if_pos (by simpa using c2)]
  ·cases p3.symm.trans hy
   unfold deliver;rw [if_pos (by simpa using c1),if_neg (by simpa using c2)]
  ·cases p4.symm.trans hy
   unfold deliver;rw [if_neg (by simpa using c1),if_pos (by simpa using c2)]
  ·cases p4.symm.trans hy
   unfold deliver;rw [if_neg (by simpa using c1),if_neg (by simpa using c2)]
 ·have he:=hend (by omega)
  rintro _ ⟨j,rfl,hj⟩
  have hsj:((sp.take j).flatMap sends1).length≤14400:=by
   have:((sp.take j).flatMap sends1).length≤(sp.take j).length * 1200:=flat_len fun s hs=>by
    have:(sends1 s).length≤s.peers.length * 100:=flat_len fun p _=>send_le
    have:=(dn.spo s (List.mem_of_mem_take hs)).1.2.2.2.2.1
    omega
   rw [List.length_take] at this
   omega
  simp only [Int.toNat_natCast]
  refine ⟨fun b1=>⟨by simp;omega,by omega,fun x hx=>⟨⟨0,by simp,by omega⟩,?_⟩⟩,fun b1=>?_⟩
  ·have hxp:=(dn.spo x (mem_of_get hx)).1.2.2.2.2.1
   rintro _ ⟨i,rfl,hi⟩
   have hpi:((x.peers.take i).flatMap fun p=>(send x p.router).1).length≤1200:=by
    have:((x.peers.take i).flatMap fun p=>(send x p.router).1).length≤(x.peers.take i).length * 100:=flat_len fun p _=>send_le
    rw [List.length_take] at this
    omega
   simp only [Int.toNat_natCast]
   refine ⟨fun c1=>⟨by omega,by omega,fun p hp=>⟨?_,⟨i+1,?_,by omega⟩,?_⟩⟩,fun c1=>⟨⟨j+1,?_,by omega⟩,?_⟩⟩
   ·have:=send_le (s:=x) (to:=p.router)
    simp only [List.length_append];omega
   ·rw [W_succ (n:=x.peers.length) (by omega) (by omega),flat_take hp];simp
   ·rw [W_succ (n:=x.peers.length) (by omega) (by omega)];omega
   ·have ei:i=x.peers.length:=by omega
    rw [W_succ (n:=sp.length) (by omega) (by omega),flat_take hx,ei,List.take_length]
    simp [sends1]
   ·rw [W_succ (n:=sp.length) (by omega) (by omega)];omega
  ·have ej:j=sp.length:=by omega
   rw [ej,List.take_length] at hsj ⊢
   rw [he] at hfl ⊢
   refine ⟨⟨by simp only [List.length_append];omega,fun x hx=>sig_srcs (hfl x hx).1⟩,rfl⟩
def rndOv_c(o:Ovl)(faults:(List Fau))(h:okRnd o faults):PC Tryz.prog:=⟨65,[(.a [(.s 5),(.s 3),(.s 10)]),(.s 2)],[.agg [.sl 5 (o.sp.map Spk.v) false,.sl 3 (o.ls.map Lsn.v) false,.sl 10 (o.fl.map Sig.v) false],.sl 2 (faults.map Fau.v) false],rndOv_e (roundO o faults),PSpec.of_ok fun ok=>(rndOv_p o faults h ok).elim fun I0 h=>h.elim fun m0 h=>h.elim fun I1 h=>h.elim fun m1 h=>h.elim fun I2 h=>h.elim fun m2 h=>mxP_of (sh:=(.a [(.a [(.s 5),(.s 3),(.s 10)]),.k])) (enc:=rndOv_e) (a:=((.callP (validO_c o)
 (.br 96 (.ret ((⟨[],[],[]⟩:Ovl),1))
 (.req 112 (ovlOk o∧o.fl.length≤1000000) fun h1 =>
 (.callH [] (copO_h o h1)
 (.req 208 (okArr o.fl faults) fun h2 =>
 (.callH [] (arrO_h o.fl faults h2)
 (.loop 0 (rndOv_n0 o faults) (I0) (m0) ((0,o.sp,(arr o.fl faults).2,o.ls):Int×(List Spk)×(List Sig)×(List Lsn)) [16,128,112,113,114,209,208] fun (t0:Int×(List Spk)×(List Sig)×(List Lsn)) =>
 (.br 23 (.el 39 Sig.v ((arr o.fl faults).1) fun x3 =>
 (.req 135 ((⟨t0.2.1,t0.2.2.2,o.fl⟩:Ovl).sp.Pairwise fun x y=>x.router<y.router) fun h4 =>
 (.req 135 ((⟨t0.2.1,t0.2.2.2,o.fl⟩:Ovl).sp.length≤1000000) fun h5 =>
 (.callP (findS_c (⟨t0.2.1,t0.2.2.2,o.fl⟩:Ovl) x3.dst h4 h5)
 (.br 279 (.el 343 Spk.v t0.2.1 fun x6 =>
 (.callP (ack_c x6 x3)
 (.br 519 (.st 599 Spk.v t0.2.1 (fun y7=>((ack x6 x3).1)) fun y7 =>
 (.back 0 ((W (t0.1+1),t0.2.1.set ((posS (⟨t0.2.1,t0.2.2.2,o.fl⟩:Ovl).sp x3.dst:Int).toNat) ((ack x6 x3).1),t0.2.2.1,t0.2.2.2):Int×(List Spk)×(List Sig)×(List Lsn)) [0,1,2,3,4,5,6]))
 (.back 0 ((W (t0.1+1),t0.2.1,t0.2.2.1,t0.2.2.2):Int×(List Spk)×(List Sig)×(List Lsn)) [0,1,2,3,4,5,6]))))
 (.el 343 Lsn.v t0.2.2.2 fun x8 =>
 (.callP (hear_c x8 x3)
 (.br 567 (.st 647 Lsn.v t0.2.2.2 (fun y9=>((hear x8 x3).1.1)) fun y9 =>
 (.app 711 Sig.v t0.2.2.1 [(hear x8 x3).1.2]
 (.back 0 ((W (t0.1+1),t0.2.1,t0.2.2.1++[(hear x8 x3).1.2],t0.2.2.2.set ((posS (⟨t0.2.1,t0.2.2.2,o.fl⟩:Ovl).sp x3.dst:Int).toNat) ((hear x8 x3).1.1)):Int×(List Spk)×(List Sig)×(List Lsn)) [0,1,2,3,4,711,6])))
 (.back 0 ((W (t0.1+1),t0.2.1,t0.2.2.1,t0.2.2.2):Int×(List Spk)×(List Sig)×(List Lsn)) [0,1,2,3,4,5,6])))))))))
 (.loop 1 (rndOv_n1 o faults t0) (I1 t0) (m1 t0) ((0,t0.2.2.1):Int×(List Sig)) [0,1,2,3,4,5] fun (t1:Int×(List Sig)) =>
 (.br 22 (.el 38 Spk.v t0.2.1 fun x10 =>
 (.loop 2 (rndOv_n2 o faults t0 t1 x10) (I2 t0 t1 x10) (m2 t0 t1 x10) ((0,t1.2):Int×(List Sig)) [0,1,2,3,4,5,54] fun (t2:Int×(List Sig)) =>
 (.br 23 (.el 23 Per.v x10.peers fun x11 =>
 (.callP (send_c x10 x11.router)
 (.app 263 Sig.v t2.2 ((send x10 x11.router).1)
 (.back 2 ((W (t2.1+1),t2.2++((send x10 x11.router).1)):Int×(List Sig)) [0,1,2,3,4,263,6]))))
 (.back 1 ((W (t1.1+1),t2.2):Int×(List Sig)) [0,1,2,3,4,5]))))
 (.cmd (.frzE 5 (t1.2.map Sig.v) (pureBL_map (fun _=>rfl) t1.2)) (.req 38 (okSigs t1.2) fun h12 =>
 (.callH [] (sigsC_h t1.2 h12)
 (.cmdL (.frzE 38 (t1.2.map Sig.v) (pureBL_map (fun _=>rfl) t1.2)) (.cmdL (.frzE 3 (t0.2.2.2.map Lsn.v) (pureBL_map (fun _=>rfl) t0.2.2.2)) (.cmdL (.frzE 2 (t0.2.1.map Spk.v) (pureBL_map (fun _=>rfl) t0.2.1)) (.ret ((⟨t0.2.1,t0.2.2.2,t1.2⟩:Ovl),0)))))))))))))))))):An Tryz.prog rndOv_s (Ovl×Int))) h (by kernel_rfl) (AV.pureB_ok rfl),fnB_ok (by kernel_rfl)⟩
theorem pos_inj{o:Ovl}(h:ovlOk o){a b:Int}(ha:a∈rtrs o.sp)(hb:b∈rtrs o.sp):posS o.sp a=posS o.sp b↔a=b:=by
 refine ⟨fun e=>?_,fun e=>by rw [e]⟩
 have h1:=(h.1.s ha).2
 have h2:=(h.1.s hb).2
 unfold atS at h1 h2
 rw [e] at h1
 exact h1.symm.trans h2
def knwOv_a(o:Ovl)(at_:Int)(of_:Int):Prop:=okL [.agg [.sl 5 (o.sp.map Spk.v) false,.sl 3 (o.ls.map Lsn.v) false,.sl 10 (o.fl.map Sig.v) false],.int at_,.int of_]
def knwOv_n0(o:Ovl)(at_:Int)(of_:Int)(t0:Bool):NF:=⟨[(2,.k,.int of_),(3,.k,.ref 0 0),(8,.k,.int (posS o.sp at_:Int)),(10,.k,.int (posS o.sp of_:Int)),(27,.k,.bool t0)],[.box (.agg [.sl 5 (o.sp.map Spk.v) false,.sl 3 (o.ls.map Lsn.v) false,.sl 10 (o.fl.map Sig.v) false])]⟩
def knwOv_s:Nat→Type
 | 0=>Bool
 | _=>Unit
def knwOv_e(r:(List Wnt)×Int):AV:=.tup [.sl 3 (r.1.map Wnt.v) false,.int r.2]
def knwOv_vc(o:Ovl)(at_:Int)(of_:Int)(I0:Bool→Prop)(r0:(List Wnt)×Int):Prop:=
 Cl (validO_c o)
 (br (!(decide (ovlOk o)))
 (Rp knwOv_e ([],1) r0)
 (∃h1:o.sp.Pairwise fun x y=>x.router<y.router,
 ∃h2:o.sp.length≤1000000,
 Cl (findS_c o at_ h1 h2)
 (∃h3:o.sp.Pairwise fun x y=>x.router<y.router,
 ∃h4:o.sp.length≤1000000,
 Cl (findS_c o of_ h3 h4)
 ((br (!(decide (hitS o.sp at_)))
 (Be (knwOv_n0 o at_ of_) [0] I0 (true))
 (Be (knwOv_n0 o at_ of_) [0] I0 (!(decide (hitS o.sp of_)))))∧∀t0:Bool,I0 t0 →
 br t0
 (Rp knwOv_e ([],4) r0)
 (br ((posS o.sp at_:Int)==(posS o.sp of_:Int))
 (Rf (o.sp.map Spk.v) (ck (decide (0≤(posS o.sp at_:Int))) (ck (decide ((posS o.sp at_:Int)<(o.sp.length:Int)))
 (∀x5,o.sp[(posS o.sp at_:Int).toNat]?=some x5 →
 Cl (wantsF_c x5.items)
 (Rp knwOv_e (wantsOf x5.items,0) r0)))))
 (Rf (o.ls.map Lsn.v) (ck (decide (0≤(posS o.sp at_:Int))) (ck (decide ((posS o.sp at_:Int)<(o.ls.length:Int)))
 (∀x6,o.ls[(posS o.sp at_:Int).toNat]?=some x6 →
 Cl (knownF_c x6 of_)
 (Rp knwOv_e (knownW x6 of_,0) r0))))))))))
theorem knwOv_p(o:Ovl)(a b:Int)(ok:knwOv_a o a b):∃I0,knwOv_vc o a b I0 (knownV o a b):=by
 refine ⟨fun t=>t=decide (a ∉ rtrs o.sp∨b ∉ rtrs o.sp),?_⟩
 simp only [knwOv_vc,vcU,rfU,List.length_map]
 have hV:knownV o a b=if ¬ovlOk o then ([],1) else if a ∉ rtrs o.sp∨b ∉ rtrs o.sp then ([],4) else if a=b then (wantsOf (atS o.sp b).items,0) else (knownW (atL o.sp o.ls a) b,0):=rfl
 rw [hV]
 by_cases hv:ovlOk o
 case neg=>simp [hv]
 have hL:=hv.1.lens
 rw [if_neg (not_not_intro hv)]
 refine ⟨fun q=>absurd hv (by simpa using q),fun _=>⟨hv.1.asc,by omega,hv.1.asc,by omega,⟨fun c=>?_,fun c=>?_⟩,?_⟩⟩
 ·have c:a ∉ rtrs o.sp:=by rw [←hitS_iff hv];simpa using c
  simp [c]
 ·have c:a∈rtrs o.sp:=by rw [←hitS_iff hv];simpa using c
  have e2:decide (hitS o.sp b)=decide (b∈rtrs o.sp):=decide_eq_decide.mpr (hitS_iff hv b)
  rw [e2];simp [c]
 ·rintro _ rfl
  refine ⟨fun c=>?_,fun c=>?_⟩
  ·rw [if_pos (of_decide_eq_true c)]
  have c:=of_decide_eq_false c
  rw [if_neg c]
  have ha:a∈rtrs o.sp:=by simp only [not_or,Classical.not_not] at c;exact c.1
  have hb:b∈rtrs o.sp:=by simp only [not_or,Classical.not_not] at c;exact c.2
  obtain ⟨p1,p2,p3,p4⟩:=hv.1.pos ha
  simp only [Int.toNat_natCast]
  refine ⟨fun q=>⟨by omega,by omega,fun x hx=>?_⟩,fun q=>⟨by omega,by omega,fun x hx=>?_⟩⟩
  ·have q:a=b:=(pos_inj hv ha hb).mp (by have:=eq_of_beq q;omega)
   cases p3.symm.trans hx
   rw [if_pos q,q]
  ·have q:¬a=b:=fun e=>by rw [e] at q;simp at q
   cases p4.symm.trans hx
   rw [if_neg q]
def knwOv_c(o:Ovl)(at_:Int)(of_:Int):PC Tryz.prog:=⟨69,[(.a [(.s 5),(.s 3),(.s 10)]),.k,.k],[.agg [.sl 5 (o.sp.map Spk.v) false,.sl 3 (o.ls.map Lsn.v) false,.sl 10 (o.fl.map Sig.v) false],.int at_,.int of_],knwOv_e (knownV o at_ of_),PSpec.of_ok fun ok=>(knwOv_p o at_ of_ ok).elim fun I0 h=>mxP_of (sh:=(.a [(.s 3),.k])) (enc:=knwOv_e) (a:=((.callP (validO_c o)
 (.br 96 (.ret ([],1))
 (.req 128 (o.sp.Pairwise fun x y=>x.router<y.router) fun h1 =>
 (.req 128 (o.sp.length≤1000000) fun h2 =>
 (.callP (findS_c o at_ h1 h2)
 (.req 256 (o.sp.Pairwise fun x y=>x.router<y.router) fun h3 =>
 (.req 256 (o.sp.length≤1000000) fun h4 =>
 (.callP (findS_c o of_ h3 h4)
 (.pass (.join 0 (knwOv_n0 o at_ of_) (fun t0=>I0 t0) (.br 400 (.back 0 ((true):Bool) [0])
 (.back 0 ((!(decide (hitS o.sp of_))):Bool) [0])) fun (t0:Bool) =>
 (.br 1 (.ret ([],4))
 (.br 65 (.el 113 Spk.v o.sp fun x5 =>
 (.callP (wantsF_c x5.items)
 (.ret (wantsOf x5.items,0))))
 (.el 113 Lsn.v o.ls fun x6 =>
 (.callP (knownF_c x6 of_)
 (.ret (knownW x6 of_,0)))))))))))))))):An Tryz.prog knwOv_s ((List Wnt)×Int))) h (by kernel_rfl) (AV.pureB_ok rfl),fnB_ok (by kernel_rfl)⟩
def setAt(o:Ovl)(s:Spk)(p:Per):Prop:=agree s (atL o.sp o.ls p.router)∧p.epoch=(atL o.sp o.ls p.router).epoch∧p.acked=s.last
theorem NetOk.at{R:List Int}{sp:List Spk}{ls:List Lsn}(h:NetOk R sp ls){s:Spk}(hs:s∈sp):atS sp s.router=s:=atK_eq (key:=Spk.router) h.asc hs
theorem peer_in{R:List Int}{sp:List Spk}{ls:List Lsn}(h:NetOk R sp ls){s:Spk}(hs:s∈sp){p:Per}(hp:p∈s.peers):p.router∈R∧p.router≠s.router∧pOf s.peers p.router=p:=by
 obtain ⟨k1,k2⟩:=h.spo s hs
 have:p.router∈s.peers.map Per.router:=List.mem_map.mpr ⟨p,hp,rfl⟩
 rw [k2,List.mem_filter] at this
 exact ⟨this.1,by simpa using this.2,pOf_mem k1.2.2.2.2.2.2 hp⟩
theorem settled_iff{o:Ovl}(h:ovlOk o):settledP o↔∀s∈o.sp,∀p∈s.peers,setAt o s p:=by
 unfold settledP agreedP
 constructor
 ·rintro ⟨⟨_,h1⟩,h2⟩ s hs p hp
  obtain ⟨q1,q2,q3⟩:=peer_in h.1 hs hp
  have hr:s.router∈rtrs o.sp:=List.mem_map.mpr ⟨s,hs,rfl⟩
  have a1:=h1 _ hr _ q1 (Ne.symm q2)
  have a2:=h2 _ hr _ q1 (Ne.symm q2)
  unfold pe le la at a2
  rw [h.1.at hs] at a1 a2
  rw [q3] at a2
  exact ⟨a1,a2⟩
 ·intro hs
  have key:∀a∈rtrs o.sp,∀b∈rtrs o.sp,a≠b→setAt o (atS o.sp a) (pOf (atS o.sp a).peers b)∧(pOf (atS o.sp a).peers b).router=b:=fun a ha b hb hab=>by
   obtain ⟨z,hz,e⟩:=h.1.peer ha hb hab
   obtain ⟨q1,q2⟩:=h.1.s ha
   obtain ⟨_,_,q3⟩:=peer_in h.1 q1 hz
   rw [e] at q3
   rw [q3]
   exact ⟨hs _ q1 _ hz,e⟩
  refine ⟨⟨h,fun a ha b hb hab=>?_⟩,fun a ha b hb hab=>?_⟩
  ·obtain ⟨⟨k1,_,_⟩,k2⟩:=key a ha b hb hab
   rw [k2] at k1;exact k1
  ·obtain ⟨⟨_,k1,k3⟩,k2⟩:=key a ha b hb hab
   rw [k2] at k1;exact ⟨k1,k3⟩
def setOv_a(o:Ovl):Prop:=okL [.agg [.sl 5 (o.sp.map Spk.v) false,.sl 3 (o.ls.map Lsn.v) false,.sl 10 (o.fl.map Sig.v) false]]
def setOv_n0(o:Ovl)(t0:Int):NF:=⟨[(1,.k,.ref 0 0),(14,.k,.sl 5 (o.sp.map Spk.v) false),(15,.k,.int ((o.sp.map Spk.v).length:Int)),(16,.k,.int t0)],[.box (.agg [.sl 5 (o.sp.map Spk.v) false,.sl 3 (o.ls.map Lsn.v) false,.sl 10 (o.fl.map Sig.v) false])]⟩
def setOv_n1(o:Ovl)(t0:Int)(x1:Spk)(t1:Int):NF:=⟨[(1,.k,.ref 0 0),(4,.k,.ref 1 0),(14,.k,.sl 5 (o.sp.map Spk.v) false),(15,.k,.int ((o.sp.map Spk.v).length:Int)),(16,.k,.int t0),(21,.k,.sl 3 (x1.peers.map Per.v) false),(22,.k,.int ((x1.peers.map Per.v).length:Int)),(23,.k,.int t1)],[.box (.agg [.sl 5 (o.sp.map Spk.v) false,.sl 3 (o.ls.map Lsn.v) false,.sl 10 (o.fl.map Sig.v) false]),.box (.agg [.int x1.router,.int x1.epoch,.int x1.last,.sl 4 (x1.items.map Itm.v) false,.sl 3 (x1.peers.map Per.v) false])]⟩
def setOv_n2(o:Ovl)(t0:Int)(x1:Spk)(t1:Int)(x2:Per)(x5:Lsn)(t2:Bool):NF:=⟨[(1,.k,.ref 0 0),(4,.k,.ref 1 0),(14,.k,.sl 5 (o.sp.map Spk.v) false),(15,.k,.int ((o.sp.map Spk.v).length:Int)),(16,.k,.int t0),(21,.k,.sl 3 (x1.peers.map Per.v) false),(22,.k,.int ((x1.peers.map Per.v).length:Int)),(23,.k,.int t1),(56,.k,.bool t2)],[.box (.agg [.sl 5 (o.sp.map Spk.v) false,.sl 3 (o.ls.map Lsn.v) false,.sl 10 (o.fl.map Sig.v) false]),.box (.agg [.int x1.router,.int x1.epoch,.int x1.last,.sl 4 (x1.items.map Itm.v) false,.sl 3 (x1.peers.map Per.v) false])]⟩
def setOv_s:Nat→Type
 | 0=>Int
 | 1=>Int
 | 2=>Bool
 | _=>Unit
def setOv_e(r:Bool):AV:=.bool r
def setOv_vc(o:Ovl)(I0:Int→Prop)(m0:Int→Nat)(I1:Int→Spk→Int→Prop)(m1:Int→Spk→Int→Nat)(I2:Int→Spk→Int→Per→Lsn→Bool→Prop)(r0:Bool):Prop:=
 Cl (validO_c o)
 (br (!(decide (ovlOk o)))
 (Rp setOv_e (false) r0)
 (Be (setOv_n0 o) [0] I0 (0)∧∀t0,I0 t0 →
 br (decide (t0<((o.sp.map Spk.v).length:Int)))
 (Rf (o.sp.map Spk.v) (ck (decide (0≤t0)) (ck (decide (t0<(o.sp.length:Int)))
 (∀x1,o.sp[t0.toNat]?=some x1 →
 Be (setOv_n1 o t0 x1) [0,49] (I1 t0 x1) (0)∧∀t1,I1 t0 x1 t1 →
 br (decide (t1<((x1.peers.map Per.v).length:Int)))
 (Rf (x1.peers.map Per.v) (ck (decide (0≤t1)) (ck (decide (t1<(x1.peers.length:Int)))
 (∀x2,x1.peers[t1.toNat]?=some x2 →
 ∃h3:o.sp.Pairwise fun x y=>x.router<y.router,
 ∃h4:o.sp.length≤1000000,
 Cl (findS_c o x2.router h3 h4)
 (Rf (o.ls.map Lsn.v) (ck (decide (0≤(posS o.sp x2.router:Int))) (ck (decide ((posS o.sp x2.router:Int)<(o.ls.length:Int)))
 (∀x5,o.ls[(posS o.sp x2.router:Int).toNat]?=some x5 →
 (Cl (agree_c x1 x5)
 (br (!(decide (agree x1 x5)))
 (Be (setOv_n2 o t0 x1 t1 x2 x5) [0,1] (I2 t0 x1 t1 x2 x5) (true))
 (br (x2.epoch != x5.epoch)
 (Be (setOv_n2 o t0 x1 t1 x2 x5) [0,1] (I2 t0 x1 t1 x2 x5) (true))
 (Be (setOv_n2 o t0 x1 t1 x2 x5) [0,1] (I2 t0 x1 t1 x2 x5) (x2.acked != x1.last)))))∧∀t2:Bool,I2 t0 x1 t1 x2 x5 t2 →
 br t2
 (Rp setOv_e (false) r0)
 (Bk (setOv_n1 o t0 x1) [0,1] (I1 t0 x1) (m1 t0 x1) (W (t1+1)) t1)))))))))
 (Bk (setOv_n0 o) [0] I0 m0 (W (t0+1)) t0)))))
 (Rp setOv_e (true) r0)))
theorem setOv_p(o:Ovl)(ok:setOv_a o):∃I0 m0 I1 m1 I2,setOv_vc o I0 m0 I1 m1 I2 (decide (settledP o)):=by
 refine ⟨fun t=>∃k:Nat,t=k∧k≤o.sp.length∧∀s∈o.sp.take k,∀p∈s.peers,setAt o s p,fun t=>o.sp.length-t.toNat,
  fun _ x t=>∃j:Nat,t=j∧j≤x.peers.length∧∀p∈x.peers.take j,setAt o x p,fun _ x t=>x.peers.length-t.toNat,
  fun _ x _ p l t=>t=false↔(agree x l∧p.epoch=l.epoch∧p.acked=x.last),?_⟩
 simp only [setOv_vc,vcU,rfU,List.length_map]
 by_cases hv:ovlOk o
 case neg =>
  have:¬settledP o:=fun q=>hv q.1.1
  simp [hv,this]
 have hL:=hv.1.lens
 refine ⟨fun q=>absurd hv (by simpa using q),fun _=>⟨⟨0,rfl,by omega,by simp⟩,?_⟩⟩
 rintro _ ⟨k,rfl,hk,hI⟩
 simp only [Int.toNat_natCast]
 refine ⟨fun a1=>⟨by omega,by omega,fun x hx=>⟨⟨0,rfl,by omega,by simp⟩,?_⟩⟩,fun a1=>?_⟩
 ·have hxm:=mem_of_get hx
  have hxp:=(hv.1.spo x hxm).1.2.2.2.2.1
  rintro _ ⟨j,rfl,hj,hJ⟩
  simp only [Int.toNat_natCast]
  refine ⟨fun b1=>⟨by omega,by omega,fun p hp=>?_⟩,fun b1=>?_⟩
  ·obtain ⟨q1,q2,q3⟩:=peer_in hv.1 hxm (mem_of_get hp)
   obtain ⟨p1,p2,p3,p4⟩:=hv.1.pos q1
   refine ⟨hv.1.asc,by omega,by omega,by omega,fun l hl=>?_⟩
   cases p4.symm.trans hl
   refine ⟨⟨fun c1=>?_,fun c1=>⟨fun c2=>?_,fun c2=>?_⟩⟩,?_⟩
   ·have c1:¬agree x (atL o.sp o.ls p.router):=by simpa using c1
    simp [c1]
   ·have c2:¬p.epoch=(atL o.sp o.ls p.router).epoch:=by simpa using c2
    simp [c2]
   ·have c1:agree x (atL o.sp o.ls p.router):=by simpa using c1
    have c2:p.epoch=(atL o.sp o.ls p.router).epoch:=by simpa using c2
    simp [c1,c2]
   ·intro t2 h2
    refine ⟨fun e=>?_,fun e=>?_⟩
    ·subst e
     exact nodec fun q=>by
      have:=h2.mpr ((settled_iff hv).mp q x hxm p (mem_of_get hp))
      simp at this
    ·rw [W_succ (n:=x.peers.length) (by omega) (by omega)]
     exact ⟨⟨j+1,rfl,by omega,take_all hp hJ (h2.mp e)⟩,by omega⟩
  ·have ej:j=x.peers.length:=by omega
   rw [ej,List.take_length] at hJ
   rw [W_succ (n:=o.sp.length) (by omega) (by omega)]
   exact ⟨⟨k+1,rfl,by omega,take_all hx hI hJ⟩,by omega⟩
 ·have ek:k=o.sp.length:=by omega
  rw [ek,List.take_length] at hI
  exact (decide_eq_true ((settled_iff hv).mpr hI)).symm
def setOv_c(o:Ovl):PC Tryz.prog:=⟨67,[(.a [(.s 5),(.s 3),(.s 10)])],[.agg [.sl 5 (o.sp.map Spk.v) false,.sl 3 (o.ls.map Lsn.v) false,.sl 10 (o.fl.map Sig.v) false]],setOv_e (decide (settledP o)),PSpec.of_ok fun ok=>(setOv_p o ok).elim fun I0 h=>h.elim fun m0 h=>h.elim fun I1 h=>h.elim fun m1 h=>h.elim fun I2 h=>mxP_of (sh:=.k) (enc:=setOv_e) (a:=((.callP (validO_c o)
 (.br 80 (.ret (false))
 (.loop 0 (setOv_n0 o) (I0) (m0) ((0):Int) [0] fun (t0:Int) =>
 (.br 17 (.el 17 Spk.v o.sp fun x1 =>
 (.loop 1 (setOv_n1 o t0 x1) (I1 t0 x1) (m1 t0 x1) ((0):Int) [0,49] fun (t1:Int) =>
 (.br 18 (.el 18 Per.v x1.peers fun x2 =>
 (.req 130 (o.sp.Pairwise fun x y=>x.router<y.router) fun h3 =>
 (.req 130 (o.sp.length≤1000000) fun h4 =>
 (.callP (findS_c o x2.router h3 h4)
 (.el 274 Lsn.v o.ls fun x5 =>
 (.join 2 (setOv_n2 o t0 x1 t1 x2 x5) (fun t2=>I2 t0 x1 t1 x2 x5 t2) (.callP (agree_c x1 x5)
 (.br 418 (.back 2 ((true):Bool) [0,1])
 (.br 530 (.back 2 ((true):Bool) [0,1])
 (.back 2 ((x2.acked != x1.last):Bool) [0,1])))) fun (t2:Bool) =>
 (.br 2 (.ret (false))
 (.back 1 ((W (t1+1)):Int) [0,1]))))))))
 (.back 0 ((W (t0+1)):Int) [0]))))
 (.ret (true)))))):An Tryz.prog setOv_s (Bool))) h (by kernel_rfl) (AV.pureB_ok rfl),fnB_ok (by kernel_rfl)⟩
theorem netOf_iff(l:List Int):ovlOk (netOf l)↔okR l:=by
 have er:rtrs (netOf l).sp=l:=by
  show (l.map (spkN l)).map Spk.router=l
  rw [List.map_map]
  exact List.map_id'' (fun x=>rfl) l
 constructor
 ·rintro ⟨h,_⟩
  rw [er] at h
  refine ⟨h.len,fun r hr=>?_,h.ascR⟩
  have:=(h.spo (spkN l r) (List.mem_map.mpr ⟨r,hr,rfl⟩)).1.1
  exact this
 ·intro h
  refine ⟨?_,by simp [netOf]⟩
  rw [er];exact netOf_net h
theorem new_N(l:List Int)(r:Int):new r 1 (others l r)=if spkOk (spkN l r) then (spkN l r,0) else (spk0,1):=rfl
def newOv_a(list:(List Int)):Prop:=okL [.sl 1 (list.map AV.int) false]
def newOv_n0(list:(List Int))(t0:Int×(List Lsn)×(List Spk)):NF:=⟨[(0,.k,.sl 1 (list.map AV.int) false),(2,.k,.ref 0 0),(4,.k,.ref 1 0),(9,.k,.sl 1 (list.map AV.int) false),(10,.k,.int ((list.map AV.int).length:Int)),(11,.k,.int t0.1)],[.box (.agg [.sl 0 [] true,.sl 0 [] true,.sl 0 [] true]),.box (.agg [.vec 2,.vec 3,.sl 0 [] true]),.vec 5 (t0.2.2.map Spk.v) (pureBL_map (fun _=>rfl) t0.2.2),.vec 3 (t0.2.1.map Lsn.v) (pureBL_map (fun _=>rfl) t0.2.1)]⟩
def newOv_s:Nat→Type
 | 0=>Int×(List Lsn)×(List Spk)
 | _=>Unit
def newOv_e(r:Ovl×Int):AV:=.tup [Ovl.v r.1,.int r.2]
def newOv_vc(list:(List Int))(I0:(Int×(List Lsn)×(List Spk))→Prop)(m0:(Int×(List Lsn)×(List Spk))→Nat)(r0:Ovl×Int):Prop:=
 Be (newOv_n0 list) [0,32,96,97] I0 (0,[],[])∧∀t0,I0 t0 →
 br (decide (t0.1<((list.map AV.int).length:Int)))
 (Rf (list.map AV.int) (ck (decide (0≤t0.1)) (ck (decide (t0.1<(list.length:Int)))
 (∀x1,list[t0.1.toNat]?=some x1 →
 ∃h2:list.length≤1000000,
 Cl (othersF_c list x1 h2)
 (∃h3:(others list x1).length≤1000000,
 Cl (new_c x1 1 (others list x1) h3)
 (br (((new x1 1 (others list x1)).2) != 0)
 (Rp newOv_e ((⟨[],[],[]⟩:Ovl),1) r0)
 (Rf (α:=List AV) (t0.2.2.map Spk.v) (Rf (α:=List AV) [(Spk.v ((new x1 1 (others list x1)).1))]
 (ck (decide (t0.2.2.length+1≤1000000))
 (Idt (t0.2.1.map Lsn.v) (Rf (α:=List AV) [.agg [.int x1,.int 1,.sl 0 [] true]]
 (ck (decide ((t0.2.1.map Lsn.v).length+1≤1000000))
 ((FitE (.a [.k,.k,(.s 4)]) Lsn.v t0.2.1 [(⟨x1,1,[]⟩:Lsn)] [.agg [.int x1,.int 1,.sl 0 [] true]] ∧
 (Bk (newOv_n0 list) [0,1,340,436] I0 m0 (W (t0.1+1),t0.2.1++[(⟨x1,1,[]⟩:Lsn)],t0.2.2++[(new x1 1 (others list x1)).1]) t0)))))))))))))))
 (Cl (validO_c (⟨t0.2.2,t0.2.1,[]⟩:Ovl))
 (ck (pureBLs [(t0.2.2.map Spk.v),(t0.2.1.map Lsn.v)])
 (br (!(decide (ovlOk (⟨t0.2.2,t0.2.1,[]⟩:Ovl))))
 (Rp newOv_e ((⟨[],[],[]⟩:Ovl),1) r0)
 (Rf (t0.2.1.map Lsn.v) (Rf (t0.2.2.map Spk.v) (Rp newOv_e ((⟨t0.2.2,t0.2.1,[]⟩:Ovl),0) r0))))))
theorem newOv_p(l:List Int)(h:l.length≤1000)(ok:newOv_a l):∃I m,newOv_vc l I m (newN l):=by
 refine ⟨fun t=>∃k:Nat,t=((k:Int),(l.take k).map lsnN,(l.take k).map (spkN l))∧k≤l.length,fun t=>l.length-t.1.toNat,?_⟩
 simp only [newOv_vc,vcU,rfU,List.length_map]
 refine ⟨⟨0,rfl,by omega⟩,?_⟩
 rintro _ ⟨k,rfl,hk⟩
 simp only [Int.toNat_natCast]
 refine ⟨fun a1=>⟨by omega,by omega,fun x hx=>⟨by omega,by have:=List.length_filter_le (fun y=>decide (y≠x)) l;unfold others;omega,?_⟩⟩,fun a1=>?_⟩
 ·rw [new_N]
  refine ⟨fun q=>?_,fun q=>?_⟩
  ·have q:¬spkOk (spkN l x):=fun e=>by rw [if_pos e] at q;simp at q
   have:¬okR l:=fun e=>q (spkN_ok e (mem_of_get hx)).1
   rw [newN,if_neg this]
   simp [q,ovl0]
  ·have q:spkOk (spkN l x):=by
    by_cases e:spkOk (spkN l x)
    ·exact e
    ·rw [if_neg e] at q;simp at q
   rw [if_pos q,W_succ (n:=l.length) (by omega) (by omega)]
   refine ⟨by simp;omega,by simp;omega,fitE_one (fun _=>rfl) rfl,⟨k+1,?_,by omega⟩,by omega⟩
   rw [take_succ hx,List.map_append,List.map_append];rfl
 ·rw [List.take_of_length_le (by omega)]
  have e:(⟨l.map (spkN l),l.map lsnN,[]⟩:Ovl)=netOf l:=rfl
  rw [e]
  have hN:newN l=if okR l then (netOf l,0) else (ovl0,1):=rfl
  rw [hN]
  simp only [netOf_iff]
  refine ⟨by generalize l.map (spkN l)=A;generalize l.map lsnN=B;simp [pureBLs,pureBL_map (v:=Spk.v) (fun _=>rfl),pureBL_map (v:=Lsn.v) (fun _=>rfl)],fun q=>?_,fun q=>?_⟩
  ·rw [if_neg (by simpa using q)];rfl
  ·rw [if_pos (by simpa using q)]
def newOv_c(list:(List Int))(h:list.length≤1000):PC Tryz.prog:=⟨84,[(.s 1)],[.sl 1 (list.map AV.int) false],newOv_e (newN list),PSpec.of_ok fun ok=>(newOv_p list h ok).elim fun I0 h=>h.elim fun m0 h=>mxP_of (sh:=(.a [(.a [(.s 5),(.s 3),(.s 10)]),.k])) (enc:=newOv_e) (a:=((.cmdL (.nilB 32 0 5) (.cmdL (.nilB 32 1 3) (.loop 0 (newOv_n0 list) (I0) (m0) ((0,[],[]):Int×(List Lsn)×(List Spk)) [0,32,96,97] fun (t0:Int×(List Lsn)×(List Spk)) =>
 (.br 20 (.el 20 AV.int list fun x1 =>
 (.req 116 (list.length≤1000000) fun h2 =>
 (.callP (othersF_c list x1 h2)
 (.req 132 ((others list x1).length≤1000000) fun h3 =>
 (.callP (new_c x1 1 (others list x1) h3)
 (.br 276 (.ret ((⟨[],[],[]⟩:Ovl),1))
 (.app 340 Spk.v t0.2.2 [(new x1 1 (others list x1)).1]
 (.app 436 (fun y:AV=>y) (t0.2.1.map Lsn.v) [.agg [.int x1,.int 1,.sl 0 [] true]]
 (.cmd (.wkV 436 (.a [.k,.k,(.s 4)]) Lsn.v (t0.2.1++[(⟨x1,1,[]⟩:Lsn)])) (.back 0 ((W (t0.1+1),t0.2.1++[(⟨x1,1,[]⟩:Lsn)],t0.2.2++[(new x1 1 (others list x1)).1]):Int×(List Lsn)×(List Spk)) [0,1,340,436]))))))))))
 (.callP (validO_c (⟨t0.2.2,t0.2.1,[]⟩:Ovl))
 (.br 68 (.ret ((⟨[],[],[]⟩:Ovl),1))
 (.cmdL (.frzE 3 (t0.2.1.map Lsn.v) (pureBL_map (fun _=>rfl) t0.2.1)) (.cmdL (.frzE 2 (t0.2.2.map Spk.v) (pureBL_map (fun _=>rfl) t0.2.2)) (.ret ((⟨t0.2.2,t0.2.1,[]⟩:Ovl),0)))))))))):An Tryz.prog newOv_s (Ovl×Int))) h (by kernel_rfl) (AV.pureB_ok rfl),fnB_ok (by kernel_rfl)⟩
def awakeO_a:Prop:=okL []
def awakeO_s:Nat→Type
 | _=>Unit
def awakeO_e(r:Bool):AV:=.bool r
def awakeO_vc(r0:Bool):Prop:=
 ∃h1:[1,2].length≤1000,
 Cl (newOv_c [1,2] h1)
 (∃h2:((newN [1,2]).1).fl.length≤1000000,
 Cl ((chgOv_c ((newN [1,2]).1) 2 [(⟨4,2,[]⟩:Wnt)] h2).wsh [.a [(.s 5),(.s 3),(.s 10)],.k,.v (.a [.k,.k,(.s 1)])])
 (∃h3:okRnd ((changeV ((newN [1,2]).1) 2 [(⟨4,2,[]⟩:Wnt)]).1) [],
 Cl (rndOv_c ((changeV ((newN [1,2]).1) 2 [(⟨4,2,[]⟩:Wnt)]).1) [] h3)
 (Cl (knwOv_c ((roundO ((changeV ((newN [1,2]).1) 2 [(⟨4,2,[]⟩:Wnt)]).1) []).1) 1 2)
 (∃h4:okRnd ((roundO ((changeV ((newN [1,2]).1) 2 [(⟨4,2,[]⟩:Wnt)]).1) []).1) [],
 Cl (rndOv_c ((roundO ((changeV ((newN [1,2]).1) 2 [(⟨4,2,[]⟩:Wnt)]).1) []).1) [] h4)
 (Cl (knwOv_c ((roundO ((roundO ((changeV ((newN [1,2]).1) 2 [(⟨4,2,[]⟩:Wnt)]).1) []).1) []).1) 1 2)
 (br (((newN [1,2]).2)==0)
 (br (((changeV ((newN [1,2]).1) 2 [(⟨4,2,[]⟩:Wnt)]).2)==0)
 (br (((roundO ((changeV ((newN [1,2]).1) 2 [(⟨4,2,[]⟩:Wnt)]).1) []).2)==0)
 (br (((knownV ((roundO ((changeV ((newN [1,2]).1) 2 [(⟨4,2,[]⟩:Wnt)]).1) []).1) 1 2).2)==0)
 (br (((roundO ((roundO ((changeV ((newN [1,2]).1) 2 [(⟨4,2,[]⟩:Wnt)]).1) []).1) []).2)==0)
 (br (((knownV ((roundO ((roundO ((changeV ((newN [1,2]).1) 2 [(⟨4,2,[]⟩:Wnt)]).1) []).1) []).1) 1 2).2)==0)
 (br (((((knownV ((roundO ((changeV ((newN [1,2]).1) 2 [(⟨4,2,[]⟩:Wnt)]).1) []).1) 1 2).1).map Wnt.v).length:Int)==0)
 (Cl ((sameW_c ((knownV ((roundO ((roundO ((changeV ((newN [1,2]).1) 2 [(⟨4,2,[]⟩:Wnt)]).1) []).1) []).1) 1 2).1) [(⟨4,2,[]⟩:Wnt)]).wsh [.s 3,.v (.a [.k,.k,(.s 1)])])
 (br (decide (((knownV ((roundO ((roundO ((changeV ((newN [1,2]).1) 2 [(⟨4,2,[]⟩:Wnt)]).1) []).1) []).1) 1 2).1)=[(⟨4,2,[]⟩:Wnt)]))
 (Cl (quietO_c )
 (Rp awakeO_e ((5:Int)==5) r0))
 (Rp awakeO_e (false) r0)))
 (Rp awakeO_e (false) r0))
 (Rp awakeO_e (false) r0))
 (Rp awakeO_e (false) r0))
 (Rp awakeO_e (false) r0))
 (Rp awakeO_e (false) r0))
 (Rp awakeO_e (false) r0))
 (Rp awakeO_e (false) r0)))))))
theorem awakeO_p(ok:awakeO_a):awakeO_vc true:=by
 simp only [awakeO_vc,vcU,rfU,List.length_map]
 have h0:newN [1,2]=(netOf [1,2],0):=by decide +kernel
 have h1:(changeV (netOf [1,2]) 2 [⟨4,2,[]⟩]).2=0:=by decide +kernel
 have r1:okRnd (changeV (netOf [1,2]) 2 [⟨4,2,[]⟩]).1 []:=by unfold okRnd;decide +kernel
 have h2:(roundO (changeV (netOf [1,2]) 2 [⟨4,2,[]⟩]).1 []).2=0:=by decide +kernel
 have r2:okRnd (roundO (changeV (netOf [1,2]) 2 [⟨4,2,[]⟩]).1 []).1 []:=by unfold okRnd;decide +kernel
 have h3:knownV (roundO (changeV (netOf [1,2]) 2 [⟨4,2,[]⟩]).1 []).1 1 2=([],0):=by decide +kernel
 have h4:(roundO (roundO (changeV (netOf [1,2]) 2 [⟨4,2,[]⟩]).1 []).1 []).2=0:=by decide +kernel
 have h5:knownV (roundO (roundO (changeV (netOf [1,2]) 2 [⟨4,2,[]⟩]).1 []).1 []).1 1 2=([⟨4,2,[]⟩],0):=by decide +kernel
 rw [h0]
 simp only [h1,h2,h3,h4,h5]
 refine ⟨by decide,by simp [netOf],r1,r2,?_⟩
 simp
def awakeO_c:PC Tryz.prog:=⟨71,[],[],awakeO_e true,PSpec.of_ok fun ok=>mxP_of (sh:=.k) (enc:=awakeO_e) (a:=((.req 96 ([1,2].length≤1000) fun h1 =>
 (.callP (newOv_c [1,2] h1)
 (.req 240 (((newN [1,2]).1).fl.length≤1000000) fun h2 =>
 (.callP ((chgOv_c ((newN [1,2]).1) 2 [(⟨4,2,[]⟩:Wnt)] h2).wsh [.a [(.s 5),(.s 3),(.s 10)],.k,.v (.a [.k,.k,(.s 1)])])
 (.req 352 (okRnd ((changeV ((newN [1,2]).1) 2 [(⟨4,2,[]⟩:Wnt)]).1) []) fun h3 =>
 (.callP (rndOv_c ((changeV ((newN [1,2]).1) 2 [(⟨4,2,[]⟩:Wnt)]).1) [] h3)
 (.callP (knwOv_c ((roundO ((changeV ((newN [1,2]).1) 2 [(⟨4,2,[]⟩:Wnt)]).1) []).1) 1 2)
 (.req 576 (okRnd ((roundO ((changeV ((newN [1,2]).1) 2 [(⟨4,2,[]⟩:Wnt)]).1) []).1) []) fun h4 =>
 (.callP (rndOv_c ((roundO ((changeV ((newN [1,2]).1) 2 [(⟨4,2,[]⟩:Wnt)]).1) []).1) [] h4)
 (.callP (knwOv_c ((roundO ((roundO ((changeV ((newN [1,2]).1) 2 [(⟨4,2,[]⟩:Wnt)]).1) []).1) []).1) 1 2)
 (.br 832 (.br 896 (.br 960 (.br 1024 (.br 1088 (.br 1152 (.br 1232 (.callP ((sameW_c ((knownV ((roundO ((roundO ((changeV ((newN [1,2]).1) 2 [(⟨4,2,[]⟩:Wnt)]).1) []).1) []).1) 1 2).1) [(⟨4,2,[]⟩:Wnt)]).wsh [.s 3,.v (.a [.k,.k,(.s 1)])])
 (.br 1312 (.callP (quietO_c )
 (.ret ((5:Int)==5)))
 (.ret (false))))
 (.ret (false)))
 (.ret (false)))
 (.ret (false)))
 (.ret (false)))
 (.ret (false)))
 (.ret (false)))
 (.ret (false))))))))))))):An Tryz.prog awakeO_s (Bool))) (awakeO_p ok) (by kernel_rfl) (AV.pureB_ok rfl),fnB_ok (by kernel_rfl)⟩
def fltsT_a(L:(List Int))(p:Nat)(n:Int):Prop:=okL [.ref 0 0,.int n]∧(.box (.agg [.sl 1 (L.map AV.int) false,.int ((p:Nat):Int)]):Blk).ok
def fltsT_n0(L:(List Int))(p:Nat)(n:Int)(t0:Int×Nat×(List Fau)):NF:=⟨[(0,.k,.ref 0 0),(1,.k,.int n),(5,.k,.vec 1),(6,.k,.int t0.1)],[.box (.agg [.sl 1 (L.map AV.int) false,.int ((t0.2.1:Nat):Int)]),.vec 2 (t0.2.2.map Fau.v) (pureBL_map (fun _=>rfl) t0.2.2)]⟩
def fltsT_s:Nat→Type
 | 0=>Int×Nat×(List Fau)
 | _=>Unit
def fltsT_e(r:Tap×(List Fau)):AV:=.sl 2 (r.2.map Fau.v) false
def fltsT_b(r:Tap×(List Fau)):List (Option Blk):=[some (.box (.agg [.sl 1 (r.1.L.map AV.int) false,.int ((r.1.p:Nat):Int)]))]
def fltsT_vc(L:(List Int))(p:Nat)(n:Int)(I0:(Int×Nat×(List Fau))→Prop)(m0:(Int×Nat×(List Fau))→Nat)(r0:Tap×(List Fau)):Prop:=
 Ch (N_h L p 4) [0] 49
 (Be (fltsT_n0 L p n) [0,81] I0 (Mod (rawV L p) 4,rawP L p,[])∧∀t0,I0 t0 →
 br (decide (0<t0.1))
 (Ch (Range_h L t0.2.1 0 5) [0] 66
 (Ch (N_h L (rawP L t0.2.1) (W (n+2))) [0] 130
 (Rf (α:=List AV) (t0.2.2.map Fau.v) (Rf (α:=List AV) [.agg [.int (rng L t0.2.1 0 5),.int (Mod (rawV L (rawP L t0.2.1)) (W (n+2)))]]
 (ck (decide (t0.2.2.length+1≤1000000))
 (Bk (fltsT_n0 L p n) [0,178] I0 m0 (W (t0.1-1),rawP L (rawP L t0.2.1),t0.2.2++[(⟨rng L t0.2.1 0 5,Mod (rawV L (rawP L t0.2.1)) (W (n+2))⟩:Fau)]) t0))))))
 (Rf (t0.2.2.map Fau.v) (Qt ⟨[(4,.k,.sl 2 (t0.2.2.map Fau.v) false)],[.box (.agg [.sl 1 (L.map AV.int) false,.int ((t0.2.1:Nat):Int)])]⟩ [0] fltsT_e fltsT_b ((⟨L,t0.2.1⟩:Tap),t0.2.2) r0)))
theorem fltsT_p(L:List Int)(p:Nat)(n:Int)(h:0≤n∧n≤1000000)(ok:fltsT_a L p n):∃I m,fltsT_vc L p n I m ((⟨L,(faultsT L n p).2⟩:Tap),(faultsT L n p).1):=by
 have hm:=Mod_range (x:=rawV L p) (n:=4) (by omega)
 refine ⟨fun t=>∃k:Nat,t.1=k∧k≤4∧t.2.2.length+k≤4∧faultsL L n k t.2.2 t.2.1=faultsT L n p,fun t=>t.1.toNat,?_⟩
 simp only [fltsT_vc,vcU,rfU,List.length_map]
 refine ⟨⟨(Mod (rawV L p) 4).toNat,by omega,by omega,by simp;omega,rfl⟩,?_⟩
 rintro ⟨i,q,out⟩ ⟨k,hk,hk4,hl,hf⟩
 simp only at hk hl hf
 subst hk
 simp only [Int.toNat_natCast]
 refine ⟨fun h1=>⟨by omega,?_,?_⟩,fun h1=>?_⟩
 ·obtain ⟨j,rfl⟩:∃j,k=j+1:=⟨k-1,by omega⟩
  rw [W_eq (by omega)]
  refine ⟨j,by omega,by omega,by simp;omega,?_⟩
  rw [faultsL] at hf
  exact hf
 ·rw [W_eq (by omega)];omega
 ·have:k=0:=by omega
  subst this
  rw [←hf];rfl
def fltsT_h(L:(List Int))(p:Nat)(n:Int)(h:0≤n∧n≤1000000):HC Tryz.prog:=⟨77,[.k,.k],[.ref 0 0,.int n],[.box (.agg [.sl 1 (L.map AV.int) false,.int ((p:Nat):Int)])],fltsT_e ((⟨L,(faultsT L n p).2⟩:Tap),(faultsT L n p).1),fltsT_b ((⟨L,(faultsT L n p).2⟩:Tap),(faultsT L n p).1),HSpec.of_okh fun ok ok2=>have ok:fltsT_a L p n:=⟨ok,ok2 _ (by simp)⟩;(fltsT_p L p n h ok).elim fun I0 h=>h.elim fun m0 h=>mxH_of (sh:=(.s 2)) (enc:=fltsT_e) (hB:=fltsT_b) (a:=((.callH [0] (N_h L p 4)
 (.cmdL (.nilT 5 2) (.loop 0 (fltsT_n0 L p n) (I0) (m0) ((Mod (rawV L p) 4,rawP L p,[]):Int×Nat×(List Fau)) [0,81] fun (t0:Int×Nat×(List Fau)) =>
 (.br 34 (.callH [0] (Range_h L t0.2.1 0 5)
 (.callH [0] (N_h L (rawP L t0.2.1) (W (n+2)))
 (.app 178 Fau.v t0.2.2 [(⟨rng L t0.2.1 0 5,Mod (rawV L (rawP L t0.2.1)) (W (n+2))⟩:Fau)]
 (.back 0 ((W (t0.1-1),rawP L (rawP L t0.2.1),t0.2.2++[(⟨rng L t0.2.1 0 5,Mod (rawV L (rawP L t0.2.1)) (W (n+2))⟩:Fau)]):Int×Nat×(List Fau)) [0,178]))))
 (.cmdL (.frzE 1 (t0.2.2.map Fau.v) (pureBL_map (fun _=>rfl) t0.2.2)) (.retH ((⟨L,t0.2.1⟩:Tap),t0.2.2) ⟨[(4,.k,.sl 2 (t0.2.2.map Fau.v) false)],[.box (.agg [.sl 1 (L.map AV.int) false,.int ((t0.2.1:Nat):Int)])]⟩ [0])))))):An Tryz.prog fltsT_s (Tap×(List Fau)))) h (by kernel_rfl),fnB_ok (by kernel_rfl),HcOk.of (by simp [hcB,belBL,AV.belB,allB,okBk,okBkO,fltsT_e,fltsT_b,pureBL_map (v:=AV.int) (fun _=>rfl)])⟩
def rds(o:Ovl):Nat→Ovl
 | 0=>o
 | n+1=>round0 (rds o n)
theorem rds_ok{R:List Int}{o:Ovl}(h:OI R o):∀n:Nat,OI R (rds o n)∧(rds o n).fl.length≤o.fl.length+n * 14400
 | 0=>⟨h,by simp [rds]⟩
 | n+1=>by
  obtain ⟨h1,h2⟩:=rds_ok h n
  have e:=(h1.roundO []).2.len
  rw [h1.roundO_nil] at e
  simp only [List.length_nil] at e
  refine ⟨h1.round0,?_⟩
  rw [rds];omega
theorem rds_quiet{R:List Int}{o:Ovl}(h:OI R o):agreedP (rds o 4)∧settledP (rds o 5):=h.quiet
def arrR_a(l:(List Sig))(faults:(List Fau)):Prop:=okL [.sl 10 (l.map Sig.v) false,.sl 2 (faults.map Fau.v) false]
def arrR_n0(l:(List Sig))(faults:(List Fau))(t0:Int×(List Sig)×(List Sig)):NF:=⟨[(6,.k,.vec 0),(7,.k,.vec 1),(15,.k,.sl 2 (faults.map Fau.v) false),(16,.k,.int ((faults.map Fau.v).length:Int)),(17,.k,.int t0.1)],[.vec 10 (t0.2.1.map Sig.v) (pureBL_map (fun _=>rfl) t0.2.1),.vec 10 (t0.2.2.map Sig.v) (pureBL_map (fun _=>rfl) t0.2.2)]⟩
def arrR_n1(l:(List Sig))(faults:(List Fau))(t0:Int×(List Sig)×(List Sig))(x1:Fau)(t1:Bool):NF:=⟨[(6,.k,.vec 0),(7,.k,.vec 1),(9,.k,.ref 2 0),(15,.k,.sl 2 (faults.map Fau.v) false),(16,.k,.int ((faults.map Fau.v).length:Int)),(17,.k,.int t0.1),(30,.k,.bool t1)],[.vec 10 (t0.2.1.map Sig.v) (pureBL_map (fun _=>rfl) t0.2.1),.vec 10 (t0.2.2.map Sig.v) (pureBL_map (fun _=>rfl) t0.2.2),.box (.agg [.int x1.kind,.int x1.pos])]⟩
def arrR_s:Nat→Type
 | 0=>Int×(List Sig)×(List Sig)
 | 1=>Bool
 | _=>Unit
def arrR_e(r:(List Sig)×(List Sig)):AV:=.tup [.vec 0,.vec 1]
def arrR_b(r:(List Sig)×(List Sig)):List (Option Blk):=[some (.vec 10 (r.1.map Sig.v)),some (.vec 10 (r.2.map Sig.v))]
def arrR_vc(l:(List Sig))(faults:(List Fau))(I0:(Int×(List Sig)×(List Sig))→Prop)(m0:(Int×(List Sig)×(List Sig))→Nat)(I1:Int×(List Sig)×(List Sig)→Fau→Bool→Prop)(r0:(List Sig)×(List Sig)):Prop:=
 Rf (α:=List AV) [] (Rf (α:=List AV) (l.map Sig.v)
 (ck (decide (0+l.length≤1000000))
 (Be (arrR_n0 l faults) [64,160] I0 (0,l,[])∧∀t0,I0 t0 →
 br (decide (t0.1<((faults.map Fau.v).length:Int)))
 (Rf (faults.map Fau.v) (ck (decide (0≤t0.1)) (ck (decide (t0.1<(faults.length:Int)))
 (∀x1,faults[t0.1.toNat]?=some x1 →
 (br (decide (x1.pos<0))
 (Be (arrR_n1 l faults t0 x1) [0,1,50] (I1 t0 x1) (true))
 (Be (arrR_n1 l faults t0 x1) [0,1,50] (I1 t0 x1) (decide (((t0.2.1.map Sig.v).length:Int)≤x1.pos))))∧∀t1:Bool,I1 t0 x1 t1 →
 br t1
 (Bk (arrR_n0 l faults) [0,1] I0 m0 (W (t0.1+1),t0.2.1,t0.2.2) t0)
 (ck (cond (decide (0≤x1.pos)) (decide (x1.pos<((t0.2.1.map Sig.v).length:Int))) false)
 (Rf (t0.2.1.map Sig.v) (ck (decide (x1.pos.toNat<t0.2.1.length))
 (∀x2,t0.2.1[x1.pos.toNat]?=some x2 →
 Rf (t0.2.1.map Sig.v) (ck (decide (0<t0.2.1.length))
 (ck (bndB t0.2.1.length (W (x1.pos+1)) (t0.2.1.length:Int) (t0.2.1.length:Int))
 (ck (decide ((W (x1.pos+1)).toNat+((t0.2.1.length:Int)-(W (x1.pos+1))).toNat≤(t0.2.1.map Sig.v).length))
 (Rf (α:=List AV) [] (((((t0.2.1.map Sig.v).drop ((W (x1.pos+1)).toNat)).take (((t0.2.1.length:Int)-(W (x1.pos+1))).toNat))=((t0.2.1.drop ((W (x1.pos+1)).toNat)).take (((t0.2.1.length:Int)-(W (x1.pos+1))).toNat)).map Sig.v) ∧
 (ck (decide (0+((t0.2.1.drop ((W (x1.pos+1)).toNat)).take (((t0.2.1.length:Int)-(W (x1.pos+1))).toNat)).length≤1000000))
 (br (x1.kind==1)
 (Rf (t0.2.1.map Sig.v) (ck (decide (0<t0.2.1.length))
 (ck (decide (x1.pos=x1.pos))
 (ck (bndB t0.2.1.length 0 x1.pos x1.pos)
 (Rf (α:=List AV) ((t0.2.1.take x1.pos.toNat).map Sig.v) (Rf (α:=List AV) (((t0.2.1.drop ((W (x1.pos+1)).toNat)).take (((t0.2.1.length:Int)-(W (x1.pos+1))).toNat)).map Sig.v)
 (ck (decide ((t0.2.1.take x1.pos.toNat).length+((t0.2.1.drop ((W (x1.pos+1)).toNat)).take (((t0.2.1.length:Int)-(W (x1.pos+1))).toNat)).length≤1000000))
 (Bk (arrR_n0 l faults) [419,1] I0 m0 (W (t0.1+1),(t0.2.1.take x1.pos.toNat)++((t0.2.1.drop ((W (x1.pos+1)).toNat)).take (((t0.2.1.length:Int)-(W (x1.pos+1))).toNat)),t0.2.2) t0))))))))
 (br (x1.kind==2)
 (Rf (t0.2.1.map Sig.v) (ck (decide (0<t0.2.1.length))
 (ck (decide (x1.pos=x1.pos))
 (ck (bndB t0.2.1.length 0 x1.pos x1.pos)
 (Rf (α:=List AV) ((t0.2.1.take x1.pos.toNat).map Sig.v) (Rf (α:=List AV) [.agg [.int x2.kind,.int x2.src,.int x2.dst,.int x2.epoch,.int x2.ver,.int x2.prev,.int x2.pep,.int x2.grp,.int x2.mode,.sl 1 (x2.srcs.map AV.int) false],.agg [.int x2.kind,.int x2.src,.int x2.dst,.int x2.epoch,.int x2.ver,.int x2.prev,.int x2.pep,.int x2.grp,.int x2.mode,.sl 1 (x2.srcs.map AV.int) false]]
 (ck (decide ((t0.2.1.take x1.pos.toNat).length+2≤1000000))
 (Rf (α:=List AV) (((t0.2.1.take x1.pos.toNat)++[x2,x2]).map Sig.v) (Rf (α:=List AV) (((t0.2.1.drop ((W (x1.pos+1)).toNat)).take (((t0.2.1.length:Int)-(W (x1.pos+1))).toNat)).map Sig.v)
 (ck (decide (((t0.2.1.take x1.pos.toNat)++[x2,x2]).length+((t0.2.1.drop ((W (x1.pos+1)).toNat)).take (((t0.2.1.length:Int)-(W (x1.pos+1))).toNat)).length≤1000000))
 (Bk (arrR_n0 l faults) [515,1] I0 m0 (W (t0.1+1),((t0.2.1.take x1.pos.toNat)++[x2,x2])++((t0.2.1.drop ((W (x1.pos+1)).toNat)).take (((t0.2.1.length:Int)-(W (x1.pos+1))).toNat)),t0.2.2) t0)))))))))))
 (br (x1.kind==3)
 (Rf (t0.2.1.map Sig.v) (ck (decide (0<t0.2.1.length))
 (ck (decide (x1.pos=x1.pos))
 (ck (bndB t0.2.1.length 0 x1.pos x1.pos)
 (Rf (α:=List AV) ((t0.2.1.take x1.pos.toNat).map Sig.v) (Rf (α:=List AV) (((t0.2.1.drop ((W (x1.pos+1)).toNat)).take (((t0.2.1.length:Int)-(W (x1.pos+1))).toNat)).map Sig.v)
 (ck (decide ((t0.2.1.take x1.pos.toNat).length+((t0.2.1.drop ((W (x1.pos+1)).toNat)).take (((t0.2.1.length:Int)-(W (x1.pos+1))).toNat)).length≤1000000))
 (Rf (α:=List AV) (t0.2.2.map Sig.v) (Rf (α:=List AV) [.agg [.int x2.kind,.int x2.src,.int x2.dst,.int x2.epoch,.int x2.ver,.int x2.prev,.int x2.pep,.int x2.grp,.int x2.mode,.sl 1 (x2.srcs.map AV.int) false]]
 (ck (decide (t0.2.2.length+1≤1000000))
 (Bk (arrR_n0 l faults) [483,563] I0 m0 (W (t0.1+1),(t0.2.1.take x1.pos.toNat)++((t0.2.1.drop ((W (x1.pos+1)).toNat)).take (((t0.2.1.length:Int)-(W (x1.pos+1))).toNat)),t0.2.2++[x2]) t0)))))))))))
 (br (x1.kind==4)
 (br (decide ((W (x1.pos+1))<((t0.2.1.map Sig.v).length:Int)))
 (ck (cond (decide (0≤(W (x1.pos+1)))) (decide ((W (x1.pos+1))<((t0.2.1.map Sig.v).length:Int))) false)
 (Rf (t0.2.1.map Sig.v) (ck (decide ((W (x1.pos+1)).toNat<t0.2.1.length))
 (∀x3,t0.2.1[(W (x1.pos+1)).toNat]?=some x3 →
 ck (cond (decide (0≤x1.pos)) (decide (x1.pos<((t0.2.1.map Sig.v).length:Int))) false)
 (Rf (t0.2.1.map Sig.v) (ck (decide (x1.pos.toNat<t0.2.1.length))
 (∀y4,t0.2.1[x1.pos.toNat]?=some y4→Rf (Sig.v x3)
 (ck (cond (decide (0≤(W (x1.pos+1)))) (decide ((W (x1.pos+1))<(((t0.2.1.set x1.pos.toNat x3).map Sig.v).length:Int))) false)
 (Rf ((t0.2.1.set x1.pos.toNat x3).map Sig.v) (ck (decide ((W (x1.pos+1)).toNat<(t0.2.1.set x1.pos.toNat x3).length))
 (∀y5,(t0.2.1.set x1.pos.toNat x3)[(W (x1.pos+1)).toNat]?=some y5→Rf (Sig.v x2)
 (Bk (arrR_n0 l faults) [0,1] I0 m0 (W (t0.1+1),(t0.2.1.set x1.pos.toNat x3).set ((W (x1.pos+1)).toNat) x2,t0.2.2) t0))))))))))))
 (Bk (arrR_n0 l faults) [0,1] I0 m0 (W (t0.1+1),t0.2.1,t0.2.2) t0))
 (Bk (arrR_n0 l faults) [0,1] I0 m0 (W (t0.1+1),t0.2.1,t0.2.2) t0)))))))))))))))))))
 (Qt ⟨[(4,.k,.vec 0),(5,.k,.vec 1)],[.vec 10 (t0.2.1.map Sig.v) (pureBL_map (fun _=>rfl) t0.2.1),.vec 10 (t0.2.2.map Sig.v) (pureBL_map (fun _=>rfl) t0.2.2)]⟩ [0,1] arrR_e arrR_b (t0.2.1,t0.2.2) r0))))
theorem arrR_p(l:List Sig)(f:List Fau)(h:okArr l f)(ok:arrR_a l f):∃I0 m0 I1,arrR_vc l f I0 m0 I1 (arr l f):=by
 obtain ⟨h1,h2,h3⟩:=h
 refine ⟨fun t=>∃k:Nat,t=((k:Int),((f.take k).foldl arr1 (l,[])).1,((f.take k).foldl arr1 (l,[])).2)∧k≤f.length,fun t=>f.length-t.1.toNat,
  fun t0 x t=>t=decide (x.pos<0∨(t0.2.1.length:Int)≤x.pos),?_⟩
 simp only [arrR_vc,vcU,rfU,List.length_map]
 refine ⟨by omega,⟨0,rfl,by omega⟩,?_⟩
 rintro _ ⟨k,rfl,hk⟩
 have hlen:=arrs_len (f:=f.take k) (s:=(l,[]))
 have hst:∀x,f[k]?=some x→(f.take (k+1)).foldl arr1 (l,[])=arr1 ((f.take k).foldl arr1 (l,[])) x:=fun x hx=>by rw [take_succ hx,List.foldl_append];rfl
 have hend:k=f.length→(f.take k).foldl arr1 (l,[])=arr l f:=fun e=>by rw [e,List.take_length];rfl
 generalize (f.take k).foldl arr1 (l,[])=s at *
 obtain ⟨now,late⟩:=s
 rw [List.length_take] at hlen
 simp only [Int.toNat_natCast,List.length_nil] at hlen ⊢
 refine ⟨fun a1=>⟨by omega,by omega,fun x hx=>⟨⟨fun c=>?_,fun c=>?_⟩,?_⟩⟩,fun a1=>?_⟩
 ·simp [c]
 ·exact decide_eq_decide.mpr (by omega)
 ·have e1:=hst x hx
  intro t1 ht1
  rw [W_succ (n:=f.length) (by omega) (by omega)]
  have fin:∀a b,arr1 (now,late) x=(a,b)→(∃k_1:Nat,(((k+1:Nat):Int),a,b)=((k_1:Int),((f.take k_1).foldl arr1 (l,[])).1,((f.take k_1).foldl arr1 (l,[])).2)∧k_1≤f.length)∧f.length-((k+1:Nat):Int).toNat<f.length-k:=fun a b e =>
   ⟨⟨k+1,by rw [e1,e],by omega⟩,by omega⟩
  refine ⟨fun e=>fin _ _ (if_pos (of_decide_eq_true (ht1.symm.trans e))),fun e=>?_⟩
  have hb:¬(x.pos<0∨(now.length:Int)≤x.pos):=of_decide_eq_false (ht1.symm.trans e)
  have e2:arr1 (now,late) x=arrK now late x.kind x.pos.toNat (now.getD x.pos.toNat sig0):=if_neg hb
  obtain ⟨n,hn⟩:∃n:Nat,x.pos=n:=⟨x.pos.toNat,by omega⟩
  rw [hn] at e2 hb ⊢
  simp only [Int.toNat_natCast] at e2 ⊢
  have hW:W ((n:Int)+1)=((n+1:Nat):Int):=by rw [W_eq (by omega)];omega
  rw [hW]
  simp only [Int.toNat_natCast]
  have hr:(now.drop (n+1)).take ((now.length:Int)-((n+1:Nat):Int)).toNat=now.drop (n+1):=List.take_of_length_le (by simp;omega)
  have hdl:(now.drop (n+1)).length=now.length-(n+1):=List.length_drop ..
  have htl:(now.take n).length≤n:=List.length_take_le ..
  rw [hr]
  have hbn:bndB now.length 0 (n:Int) (n:Int)=true:=by simp [bndB];omega
  refine ⟨by simp;omega,by omega,fun y hy=>?_⟩
  rw [getD_some hy] at e2
  refine ⟨by omega,by simp [bndB];omega,by omega,by rw [←hr,List.map_take,List.map_drop],by omega,?_⟩
  refine ⟨fun c1=>⟨by omega,trivial,hbn,by omega,fin _ _ ?_⟩,fun c1=>⟨fun c2=>⟨by omega,trivial,hbn,by omega,by simp;omega,fin _ _ ?_⟩,fun c2=>⟨fun c3=>⟨by omega,trivial,hbn,by omega,by omega,fin _ _ ?_⟩,fun c3=>⟨fun c4=>⟨fun d=>?_,fun d=>fin _ _ ?_⟩,fun c4=>fin _ _ ?_⟩⟩⟩⟩
  ·rw [e2,arrK,if_pos (by simpa using c1)]
  ·rw [e2,arrK,if_neg (by simpa using c1),if_pos (by simpa using c2)]
  ·rw [e2,arrK,if_neg (by simpa using c1),if_neg (by simpa using c2),if_pos (by simpa using c3)]
  ·refine ⟨by simp;omega,by omega,fun z hz=>⟨by simp;omega,by omega,fun u hu=>⟨by simp;omega,by simp;omega,fun v hv=>fin _ _ ?_⟩⟩⟩
   rw [e2,arrK,if_neg (by simpa using c1),if_neg (by simpa using c2),if_neg (by simpa using c3),if_pos (by simpa using c4),if_pos (by omega),getD_some hz]
  ·rw [e2,arrK,if_neg (by simpa using c1),if_neg (by simpa using c2),if_neg (by simpa using c3),if_pos (by simpa using c4),if_neg (by omega)]
  ·rw [e2,arrK,if_neg (by simpa using c1),if_neg (by simpa using c2),if_neg (by simpa using c3),if_neg (by simpa using c4)]
 ·rw [←hend (by omega)]
def arrR_h(l:(List Sig))(faults:(List Fau))(h:okArr l faults):HC Tryz.prog:=⟨106,[(.s 10),(.s 2)],[.sl 10 (l.map Sig.v) false,.sl 2 (faults.map Fau.v) false],[],arrR_e (arr l faults),arrR_b (arr l faults),HSpec.of_okh fun ok _=>(arrR_p l faults h ok).elim fun I0 h=>h.elim fun m0 h=>h.elim fun I1 h=>mxH_of (sh:=.k) (enc:=arrR_e) (hB:=arrR_b) (a:=((.app 64 Sig.v [] l
 (.cmdL (.nilT 7 10) (.loop 0 (arrR_n0 l faults) (I0) (m0) ((0,l,[]):Int×(List Sig)×(List Sig)) [64,160] fun (t0:Int×(List Sig)×(List Sig)) =>
 (.br 18 (.el 18 Fau.v faults fun x1 =>
 (.pass (.join 1 (arrR_n1 l faults t0 x1) (fun t1=>I1 t0 x1 t1) (.br 146 (.back 1 ((true):Bool) [0,1,50])
 (.back 1 ((decide (((t0.2.1.map Sig.v).length:Int)≤x1.pos)):Bool) [0,1,50])) fun (t1:Bool) =>
 (.br 3 (.back 0 ((W (t0.1+1),t0.2.1,t0.2.2):Int×(List Sig)×(List Sig)) [0,1])
 (.el 67 Sig.v t0.2.1 fun x2 =>
 (.sub 195 Sig.v t0.2.1 false
 (.app 211 Sig.v [] ((t0.2.1.drop ((W (x1.pos+1)).toNat)).take (((t0.2.1.length:Int)-(W (x1.pos+1))).toNat))
 (.br 307 (.sub 387 Sig.v t0.2.1 false
 (.app 419 Sig.v (t0.2.1.take x1.pos.toNat) ((t0.2.1.drop ((W (x1.pos+1)).toNat)).take (((t0.2.1.length:Int)-(W (x1.pos+1))).toNat))
 (.back 0 ((W (t0.1+1),(t0.2.1.take x1.pos.toNat)++((t0.2.1.drop ((W (x1.pos+1)).toNat)).take (((t0.2.1.length:Int)-(W (x1.pos+1))).toNat)),t0.2.2):Int×(List Sig)×(List Sig)) [419,1])))
 (.br 339 (.sub 419 Sig.v t0.2.1 false
 (.app 483 Sig.v (t0.2.1.take x1.pos.toNat) [x2,x2]
 (.app 515 Sig.v ((t0.2.1.take x1.pos.toNat)++[x2,x2]) ((t0.2.1.drop ((W (x1.pos+1)).toNat)).take (((t0.2.1.length:Int)-(W (x1.pos+1))).toNat))
 (.back 0 ((W (t0.1+1),((t0.2.1.take x1.pos.toNat)++[x2,x2])++((t0.2.1.drop ((W (x1.pos+1)).toNat)).take (((t0.2.1.length:Int)-(W (x1.pos+1))).toNat)),t0.2.2):Int×(List Sig)×(List Sig)) [515,1]))))
 (.br 371 (.sub 451 Sig.v t0.2.1 false
 (.app 483 Sig.v (t0.2.1.take x1.pos.toNat) ((t0.2.1.drop ((W (x1.pos+1)).toNat)).take (((t0.2.1.length:Int)-(W (x1.pos+1))).toNat))
 (.app 563 Sig.v t0.2.2 [x2]
 (.back 0 ((W (t0.1+1),(t0.2.1.take x1.pos.toNat)++((t0.2.1.drop ((W (x1.pos+1)).toNat)).take (((t0.2.1.length:Int)-(W (x1.pos+1))).toNat)),t0.2.2++[x2]):Int×(List Sig)×(List Sig)) [483,563]))))
 (.br 403 (.br 499 (.el 691 Sig.v t0.2.1 fun x3 =>
 (.st 739 Sig.v t0.2.1 (fun y4=>x3) fun y4 =>
 (.st 771 Sig.v (t0.2.1.set x1.pos.toNat x3) (fun y5=>x2) fun y5 =>
 (.back 0 ((W (t0.1+1),(t0.2.1.set x1.pos.toNat x3).set ((W (x1.pos+1)).toNat) x2,t0.2.2):Int×(List Sig)×(List Sig)) [0,1]))))
 (.back 0 ((W (t0.1+1),t0.2.1,t0.2.2):Int×(List Sig)×(List Sig)) [0,1]))
 (.back 0 ((W (t0.1+1),t0.2.1,t0.2.2):Int×(List Sig)×(List Sig)) [0,1]))))))))))))
 (.retH (t0.2.1,t0.2.2) ⟨[(4,.k,.vec 0),(5,.k,.vec 1)],[.vec 10 (t0.2.1.map Sig.v) (pureBL_map (fun _=>rfl) t0.2.1),.vec 10 (t0.2.2.map Sig.v) (pureBL_map (fun _=>rfl) t0.2.2)]⟩ [0,1]))))):An Tryz.prog arrR_s ((List Sig)×(List Sig)))) h (by kernel_rfl),fnB_ok (by kernel_rfl),HcOk.of (by simp [hcB,belBL,AV.belB,allB,okBk,okBkO,arrR_e,arrR_b,pureBL_map (v:=Fau.v) (fun _=>rfl),pureBL_map (v:=Sig.v) (fun _=>rfl)])⟩
def idxS(l:List Spk)(r:Int):Int:=match l.findIdx? fun p=>decide (p.router=r) with
 | some i=>i
 | none=>-1
theorem idxS_some{l:List Spk}{r:Int}{i:Nat}{x:Spk}(hx:l[i]?=some x)(h:x.router=r)(hb:∀y∈l.take i,y.router≠r):idxS l r=i:=by
 obtain ⟨hi,hxi⟩:=List.getElem?_eq_some_iff.mp hx
 have:l.findIdx? (fun p=>decide (p.router=r))=some i:=by
  rw [List.findIdx?_eq_some_iff_getElem]
  refine ⟨hi,by rw [hxi];simpa using h,fun j hj=>?_⟩
  have:=hb l[j] (List.mem_of_getElem? (i:=j) (by rw [List.getElem?_take,if_pos hj,List.getElem?_eq_getElem (by omega)]))
  simpa using this
 unfold idxS;rw [this]
theorem idxS_none{l:List Spk}{r:Int}(hb:∀y∈l,y.router≠r):idxS l r=-1:=by
 have:l.findIdx? (fun p=>decide (p.router=r))=none:=by
  rw [List.findIdx?_eq_none_iff]
  intro x hx;simpa using hb x hx
 unfold idxS;rw [this]
def idxSF_a(o:Ovl)(router:Int):Prop:=okL [.agg [.sl 5 (o.sp.map Spk.v) false,.sl 3 (o.ls.map Lsn.v) false,.sl 10 (o.fl.map Sig.v) false],.int router]
def idxSF_n0(o:Ovl)(router:Int)(t0:Int):NF:=⟨[(1,.k,.int router),(8,.k,.sl 5 (o.sp.map Spk.v) false),(9,.k,.int ((o.sp.map Spk.v).length:Int)),(10,.k,.int t0)],[]⟩
def idxSF_s:Nat→Type
 | 0=>Int
 | _=>Unit
def idxSF_e(r:Int):AV:=.int r
def idxSF_vc(o:Ovl)(router:Int)(I0:Int→Prop)(m0:Int→Nat)(r0:Int):Prop:=
 Be (idxSF_n0 o router) [] I0 (0)∧∀t0,I0 t0 →
 br (decide (t0<((o.sp.map Spk.v).length:Int)))
 (Rf (o.sp.map Spk.v) (ck (decide (0≤t0)) (ck (decide (t0<(o.sp.length:Int)))
 (∀x1,o.sp[t0.toNat]?=some x1 →
 br (x1.router==router)
 (Rp idxSF_e (t0) r0)
 (Bk (idxSF_n0 o router) [] I0 m0 (W (t0+1)) t0)))))
 (Rp idxSF_e (-1) r0)
theorem idxSF_p(o:Ovl)(r:Int)(ok:idxSF_a o r):∃I m,idxSF_vc o r I m (idxS o.sp r):=by
 unfold idxSF_a at ok
 have hle:o.sp.length≤9223372036854775807:=by
  have h:=ok
  simp only [okL,AV.ok,List.length_map,maxLen_eq] at h
  omega
 refine ⟨fun t=>∃k:Nat,t=k∧k≤o.sp.length∧∀x∈o.sp.take k,x.router≠r,fun t=>o.sp.length-t.toNat,?_⟩
 simp only [idxSF_vc,vcU,rfU,List.length_map]
 refine ⟨⟨0,rfl,by omega,by simp⟩,?_⟩
 rintro _ ⟨k,rfl,hk,hI⟩
 simp only [Int.toNat_natCast]
 refine ⟨fun h1=>⟨by omega,by omega,fun x hx=>⟨fun e=>?_,fun e=>?_⟩⟩,fun h1=>?_⟩
 ·rw [idxS_some hx (by simpa using e) hI]
 ·rw [W_succ (n:=o.sp.length) (by omega) (by omega)]
  exact ⟨⟨k+1,rfl,by omega,(mem_take_succ hx).mpr ⟨hI,by simpa using e⟩⟩,by omega⟩
 ·rw [List.take_of_length_le (by omega)] at hI
  rw [idxS_none hI]
def idxSF_c(o:Ovl)(router:Int):PC Tryz.prog:=⟨107,[(.a [(.s 5),(.s 3),(.s 10)]),.k],[.agg [.sl 5 (o.sp.map Spk.v) false,.sl 3 (o.ls.map Lsn.v) false,.sl 10 (o.fl.map Sig.v) false],.int router],idxSF_e (idxS o.sp router),PSpec.of_ok fun ok=>(idxSF_p o router ok).elim fun I0 h=>h.elim fun m0 h=>mxP_of (sh:=.k) (enc:=idxSF_e) (a:=((.loop 0 (idxSF_n0 o router) (I0) (m0) ((0):Int) [] fun (t0:Int) =>
 (.br 16 (.el 32 Spk.v o.sp fun x1 =>
 (.br 176 (.ret (t0))
 (.back 0 ((W (t0+1)):Int) [])))
 (.ret (-1)))):An Tryz.prog idxSF_s (Int))) h (by kernel_rfl) (AV.pureB_ok rfl),fnB_ok (by kernel_rfl)⟩
theorem idxS_asc{o:Ovl}(h:ovlOk o)(r:Int):idxS o.sp r=if r∈rtrs o.sp then (posS o.sp r:Int) else -1:=by
 by_cases hr:r∈rtrs o.sp
 ·rw [if_pos hr]
  obtain ⟨p1,p2,p3,p4⟩:=h.1.pos hr
  refine idxS_some p3 (h.1.s hr).2 fun y hy=>?_
  obtain ⟨i,hi,rfl⟩:=List.getElem_of_mem hy
  rw [List.length_take] at hi
  rw [List.getElem_take]
  have:=posK_lt (key:=Spk.router) (l:=o.sp) (r:=r) (i:=i) (show i<posS o.sp r by omega) (by omega)
  omega
 ·rw [if_neg hr]
  exact idxS_none fun y hy e=>hr (List.mem_map.mpr ⟨y,hy,e⟩)
def copR_a(o:Ovl):Prop:=okL [.agg [.sl 5 (o.sp.map Spk.v) false,.sl 3 (o.ls.map Lsn.v) false,.sl 10 (o.fl.map Sig.v) false]]
def copR_s:Nat→Type
 | _=>Unit
def copR_e(r:Ovl):AV:=.agg [.vec 0,.vec 1,.vec 2]
def copR_b(r:Ovl):List (Option Blk):=[some (.vec 5 (r.sp.map Spk.v)),some (.vec 3 (r.ls.map Lsn.v)),some (.vec 10 (r.fl.map Sig.v))]
def copR_vc(o:Ovl)(r0:Ovl):Prop:=
 Rf (α:=List AV) [] (Rf (α:=List AV) (o.sp.map Spk.v)
 (ck (decide (0+o.sp.length≤1000000))
 (Rf (α:=List AV) [] (Rf (α:=List AV) (o.ls.map Lsn.v)
 (ck (decide (0+o.ls.length≤1000000))
 (Rf (α:=List AV) [] (Rf (α:=List AV) (o.fl.map Sig.v)
 (ck (decide (0+o.fl.length≤1000000))
 (Qt ⟨[(2,.k,.ref 3 0)],[.vec 5 (o.sp.map Spk.v) (pureBL_map (fun _=>rfl) o.sp),.vec 3 (o.ls.map Lsn.v) (pureBL_map (fun _=>rfl) o.ls),.vec 10 (o.fl.map Sig.v) (pureBL_map (fun _=>rfl) o.fl),.box (.agg [.vec 0,.vec 1,.vec 2])]⟩ [80,144,208,16] copR_e copR_b o r0)))))))))
theorem copR_p(o:Ovl)(h:o.sp.length≤1000000∧o.ls.length≤1000000∧o.fl.length≤1000000)(ok:copR_a o):copR_vc o o:=by
 simp only [copR_vc,vcU,rfU,List.length_map]
 exact ⟨by omega,by omega,by omega,trivial⟩
def copR_h(o:Ovl)(h:o.sp.length≤1000000∧o.ls.length≤1000000∧o.fl.length≤1000000):HC Tryz.prog:=⟨105,[(.a [(.s 5),(.s 3),(.s 10)])],[.agg [.sl 5 (o.sp.map Spk.v) false,.sl 3 (o.ls.map Lsn.v) false,.sl 10 (o.fl.map Sig.v) false]],[],copR_e o,copR_b o,HSpec.of_okh fun ok _=>mxH_of (sh:=.k) (enc:=copR_e) (hB:=copR_b) (a:=((.app 80 Spk.v [] o.sp
 (.app 144 Lsn.v [] o.ls
 (.app 208 Sig.v [] o.fl
 (.retH o ⟨[(2,.k,.ref 3 0)],[.vec 5 (o.sp.map Spk.v) (pureBL_map (fun _=>rfl) o.sp),.vec 3 (o.ls.map Lsn.v) (pureBL_map (fun _=>rfl) o.ls),.vec 10 (o.fl.map Sig.v) (pureBL_map (fun _=>rfl) o.fl),.box (.agg [.vec 0,.vec 1,.vec 2])]⟩ [80,144,208,16])))):An Tryz.prog copR_s (Ovl))) (copR_p o h ok) (by kernel_rfl),fnB_ok (by kernel_rfl),HcOk.of (by simp [hcB,belBL,AV.belB,allB,okBk,okBkO,copR_e,copR_b,pureBL_map (v:=Lsn.v) (fun _=>rfl),pureBL_map (v:=Sig.v) (fun _=>rfl),pureBL_map (v:=Spk.v) (fun _=>rfl)])⟩
theorem valO_pos{o:Ovl}(h:¬ovlOk o):(1:Int)=valO o:=(if_neg h).symm
structure RefK (R:List Int) (s:Spk) (l:Lsn):Prop where
  n:s.peers.length+1=R.length
  p:∀p∈s.peers,p.router∈R
  lo:lsnOk l
  lr:l.router=s.router
  h:∀h∈l.heard,h.router∈R
theorem ref_iff{o:Ovl}:ovlOk o↔(o.sp.length≤12∧o.ls.length=o.sp.length)∧(∀i s,o.sp[i]?=some s→spkOk s∧(0<i→∀y,o.sp[i-1]?=some y→y.router<s.router)) ∧
  (∀(i:Nat) s l,o.sp[i]?=some s→o.ls[i]?=some l→RefK (rtrs o.sp) s l)∧∀x∈o.fl,sigIn (rtrs o.sp) x:=by
 rw [ovl_iff]
 have hmem:∀{i:Nat} {s:Spk},o.sp[i]?=some s→s.router∈rtrs o.sp:=fun hs=>List.mem_map.mpr ⟨_,mem_of_get hs,rfl⟩
 constructor
 ·rintro ⟨h1,h2,h3,h4⟩
  have hR:(rtrs o.sp).Pairwise (·<·):=(ovl_iff.mpr ⟨h1,h2,h3,h4⟩).1.ascR
  refine ⟨⟨h1,h2⟩,fun i s hs=>?_,fun i s l hs hl=>?_,h4⟩
  ·obtain ⟨l,hl⟩:∃l,o.ls[i]?=some l:=⟨_,List.getElem?_eq_getElem (by have:=lt_of_get hs;omega)⟩
   have d:=h3 i s l hs hl
   exact ⟨d.fs,fun hi y hy=>d.fasc hi _ (rtrs_get hy)⟩
  ·have d:=h3 i s l hs hl
   obtain ⟨q1,q2⟩:=(peers_iff hR d.fs (hmem hs)).mp d.fp
   exact ⟨q1,q2,d.fl,d.fr,d.fh⟩
 ·rintro ⟨⟨h1,h2⟩,h3,h4,h5⟩
  have hasc:∀k:Nat,k≤o.sp.length→(o.sp.take k).Pairwise fun x y=>x.router<y.router:=by
   intro k
   induction k with
   | zero=>intro _;simp
   | succ k ih =>
    intro hk
    have hs:o.sp[k]?=some o.sp[k]:=List.getElem?_eq_getElem (by omega)
    exact (pw_succ Spk.router hs).mpr ⟨ih (by omega),(h3 k _ hs).2⟩
  have ha:=hasc o.sp.length (Nat.le_refl _)
  rw [List.take_length] at ha
  have hR:(rtrs o.sp).Pairwise (·<·):=by unfold rtrs;rw [List.pairwise_map];exact ha
  refine ⟨h1,h2,fun i s l hs hl=>?_,h5⟩
  obtain ⟨a1,a2⟩:=h3 i s hs
  have b:=h4 i s l hs hl
  refine ⟨a1,fun hi y hy=>?_,(peers_iff hR a1 (hmem hs)).mpr ⟨b.n,b.p⟩,b.lo,b.lr,b.h⟩
  unfold rtrs at hy
  rw [List.getElem?_map] at hy
  cases hz:o.sp[i-1]? with
  | none=>rw [hz] at hy;simp at hy
  | some z =>
   rw [hz] at hy
   have hy:z.router=y:=by simpa using hy
   rw [←hy];exact a2 hi z hz
def valOR_a(o:Ovl):Prop:=okL [.agg [.sl 5 (o.sp.map Spk.v) false,.sl 3 (o.ls.map Lsn.v) false,.sl 10 (o.fl.map Sig.v) false]]
def valOR_n0(o:Ovl)(t0:Bool):NF:=⟨[(1,.k,.ref 0 0),(27,.k,.bool t0)],[.box (.agg [.sl 5 (o.sp.map Spk.v) false,.sl 3 (o.ls.map Lsn.v) false,.sl 10 (o.fl.map Sig.v) false])]⟩
def valOR_n1(o:Ovl)(t0:Bool)(t1:Int×(List Int)):NF:=⟨[(1,.k,.ref 0 0),(3,.k,.vec 1),(29,.k,.sl 5 (o.sp.map Spk.v) false),(30,.k,.int ((o.sp.map Spk.v).length:Int)),(31,.k,.int t1.1)],[.box (.agg [.sl 5 (o.sp.map Spk.v) false,.sl 3 (o.ls.map Lsn.v) false,.sl 10 (o.fl.map Sig.v) false]),.vec 1 (t1.2.map AV.int) (pureBL_map (fun _=>rfl) t1.2)]⟩
def valOR_n2(o:Ovl)(t0:Bool)(t1:Int×(List Int))(x1:Spk)(t2:Bool):NF:=⟨[(1,.k,.ref 0 0),(3,.k,.vec 1),(5,.k,.ref 2 0),(29,.k,.sl 5 (o.sp.map Spk.v) false),(30,.k,.int ((o.sp.map Spk.v).length:Int)),(31,.k,.int t1.1),(54,.k,.bool t2)],[.box (.agg [.sl 5 (o.sp.map Spk.v) false,.sl 3 (o.ls.map Lsn.v) false,.sl 10 (o.fl.map Sig.v) false]),.vec 1 (t1.2.map AV.int) (pureBL_map (fun _=>rfl) t1.2),.box (.agg [.int x1.router,.int x1.epoch,.int x1.last,.sl 4 (x1.items.map Itm.v) false,.sl 3 (x1.peers.map Per.v) false])]⟩
def valOR_n3(o:Ovl)(t0:Bool)(t1:Int×(List Int))(t3:Int):NF:=⟨[(1,.k,.ref 0 0),(3,.k,.vec 1),(62,.k,.sl 5 (o.sp.map Spk.v) false),(63,.k,.int ((o.sp.map Spk.v).length:Int)),(64,.k,.int t3)],[.box (.agg [.sl 5 (o.sp.map Spk.v) false,.sl 3 (o.ls.map Lsn.v) false,.sl 10 (o.fl.map Sig.v) false]),.vec 1 (t1.2.map AV.int) (pureBL_map (fun _=>rfl) t1.2)]⟩
def valOR_n4(o:Ovl)(t0:Bool)(t1:Int×(List Int))(t3:Int)(x3:Spk)(t4:Int):NF:=⟨[(1,.k,.ref 0 0),(3,.k,.vec 1),(6,.k,.int t3),(7,.k,.ref 2 0),(62,.k,.sl 5 (o.sp.map Spk.v) false),(63,.k,.int ((o.sp.map Spk.v).length:Int)),(64,.k,.int t3),(77,.k,.sl 3 (x3.peers.map Per.v) false),(78,.k,.int ((x3.peers.map Per.v).length:Int)),(79,.k,.int t4)],[.box (.agg [.sl 5 (o.sp.map Spk.v) false,.sl 3 (o.ls.map Lsn.v) false,.sl 10 (o.fl.map Sig.v) false]),.vec 1 (t1.2.map AV.int) (pureBL_map (fun _=>rfl) t1.2),.box (.agg [.int x3.router,.int x3.epoch,.int x3.last,.sl 4 (x3.items.map Itm.v) false,.sl 3 (x3.peers.map Per.v) false])]⟩
def valOR_n5(o:Ovl)(t0:Bool)(t1:Int×(List Int))(t3:Int)(x3:Spk)(t4:Int)(x5:Lsn)(t5:Bool):NF:=⟨[(1,.k,.ref 0 0),(3,.k,.vec 1),(10,.k,.ref 2 0),(62,.k,.sl 5 (o.sp.map Spk.v) false),(63,.k,.int ((o.sp.map Spk.v).length:Int)),(64,.k,.int t3),(103,.k,.bool t5)],[.box (.agg [.sl 5 (o.sp.map Spk.v) false,.sl 3 (o.ls.map Lsn.v) false,.sl 10 (o.fl.map Sig.v) false]),.vec 1 (t1.2.map AV.int) (pureBL_map (fun _=>rfl) t1.2),.box (.agg [.int x5.router,.int x5.epoch,.sl 4 (x5.heard.map Hrd.v) false])]⟩
def valOR_n6(o:Ovl)(t0:Bool)(t1:Int×(List Int))(t3:Int)(x3:Spk)(t4:Int)(x5:Lsn)(t5:Bool)(t6:Int):NF:=⟨[(1,.k,.ref 0 0),(3,.k,.vec 1),(62,.k,.sl 5 (o.sp.map Spk.v) false),(63,.k,.int ((o.sp.map Spk.v).length:Int)),(64,.k,.int t3),(105,.k,.sl 4 (x5.heard.map Hrd.v) false),(106,.k,.int ((x5.heard.map Hrd.v).length:Int)),(107,.k,.int t6)],[.box (.agg [.sl 5 (o.sp.map Spk.v) false,.sl 3 (o.ls.map Lsn.v) false,.sl 10 (o.fl.map Sig.v) false]),.vec 1 (t1.2.map AV.int) (pureBL_map (fun _=>rfl) t1.2)]⟩
def valOR_n7(o:Ovl)(t0:Bool)(t1:Int×(List Int))(t3:Int)(t7:Int):NF:=⟨[(3,.k,.vec 0),(119,.k,.sl 10 (o.fl.map Sig.v) false),(120,.k,.int ((o.fl.map Sig.v).length:Int)),(121,.k,.int t7)],[.vec 1 (t1.2.map AV.int) (pureBL_map (fun _=>rfl) t1.2)]⟩
def valOR_n8(o:Ovl)(t0:Bool)(t1:Int×(List Int))(t3:Int)(t7:Int)(x7:Sig)(t8:Bool):NF:=⟨[(3,.k,.vec 0),(119,.k,.sl 10 (o.fl.map Sig.v) false),(120,.k,.int ((o.fl.map Sig.v).length:Int)),(121,.k,.int t7),(141,.k,.bool t8)],[.vec 1 (t1.2.map AV.int) (pureBL_map (fun _=>rfl) t1.2)]⟩
def valOR_s:Nat→Type
 | 0=>Bool
 | 1=>Int×(List Int)
 | 2=>Bool
 | 3=>Int
 | 4=>Int
 | 5=>Bool
 | 6=>Int
 | 7=>Int
 | 8=>Bool
 | _=>Unit
def valOR_e(r:Int):AV:=.int r
def valOR_vc(o:Ovl)(I0:Bool→Prop)(I1:Bool→(Int×(List Int))→Prop)(m1:Bool→(Int×(List Int))→Nat)(I2:Bool→Int×(List Int)→Spk→Bool→Prop)(I3:Bool→Int×(List Int)→Int→Prop)(m3:Bool→Int×(List Int)→Int→Nat)(I4:Bool→Int×(List Int)→Int→Spk→Int→Prop)(m4:Bool→Int×(List Int)→Int→Spk→Int→Nat)(I5:Bool→Int×(List Int)→Int→Spk→Int→Lsn→Bool→Prop)(I6:Bool→Int×(List Int)→Int→Spk→Int→Lsn→Bool→Int→Prop)(m6:Bool→Int×(List Int)→Int→Spk→Int→Lsn→Bool→Int→Nat)(I7:Bool→Int×(List Int)→Int→Int→Prop)(m7:Bool→Int×(List Int)→Int→Int→Nat)(I8:Bool→Int×(List Int)→Int→Int→Sig→Bool→Prop)(r0:Int):Prop:=
 (br (decide (12<((o.sp.map Spk.v).length:Int)))
 (Be (valOR_n0 o) [0] I0 (true))
 (Be (valOR_n0 o) [0] I0 (((o.ls.map Lsn.v).length:Int) != ((o.sp.map Spk.v).length:Int))))∧∀t0:Bool,I0 t0 →
 br t0
 (Rp valOR_e (1) r0)
 (Be (valOR_n1 o t0) [0,81] (I1 t0) (0,[])∧∀t1,I1 t0 t1 →
 br (decide (t1.1<((o.sp.map Spk.v).length:Int)))
 (Rf (o.sp.map Spk.v) (ck (decide (0≤t1.1)) (ck (decide (t1.1<(o.sp.length:Int)))
 (∀x1,o.sp[t1.1.toNat]?=some x1 →
 (Cl (valR6_c x1)
 (br ((valS x1) != 0)
 (Be (valOR_n2 o t0 t1 x1) [0,1,66] (I2 t0 t1 x1) (true))
 (br (decide (0<t1.1))
 (Rf (o.sp.map Spk.v) (ck (decide (0≤(W (t1.1-1)))) (ck (decide ((W (t1.1-1))<(o.sp.length:Int)))
 (∀x2,o.sp[(W (t1.1-1)).toNat]?=some x2 →
 Be (valOR_n2 o t0 t1 x1) [0,1,66] (I2 t0 t1 x1) (decide (x1.router≤x2.router))))))
 (Be (valOR_n2 o t0 t1 x1) [0,1,66] (I2 t0 t1 x1) (false)))))∧∀t2:Bool,I2 t0 t1 x1 t2 →
 br t2
 (Rp valOR_e (1) r0)
 (Rf (α:=List AV) (t1.2.map AV.int) (Rf (α:=List AV) [.int x1.router]
 (ck (decide (t1.2.length+1≤1000000))
 (Bk (valOR_n1 o t0) [0,67] (I1 t0) (m1 t0) (W (t1.1+1),t1.2++[x1.router]) t1))))))))
 (Be (valOR_n3 o t0 t1) [0,1] (I3 t0 t1) (0)∧∀t3,I3 t0 t1 t3 →
 br (decide (t3<((o.sp.map Spk.v).length:Int)))
 (Rf (o.sp.map Spk.v) (ck (decide (0≤t3)) (ck (decide (t3<(o.sp.length:Int)))
 (∀x3,o.sp[t3.toNat]?=some x3 →
 br (((x3.peers.map Per.v).length:Int) != (W (((t1.2.map AV.int).length:Int)-1)))
 (Rp valOR_e (1) r0)
 (Be (valOR_n4 o t0 t1 t3 x3) [0,1,66] (I4 t0 t1 t3 x3) (0)∧∀t4,I4 t0 t1 t3 x3 t4 →
 br (decide (t4<((x3.peers.map Per.v).length:Int)))
 (Rf (x3.peers.map Per.v) (ck (decide (0≤t4)) (ck (decide (t4<(x3.peers.length:Int)))
 (∀x4,x3.peers[t4.toNat]?=some x4 →
 Cl (InI_c t1.2 x4.router)
 (ck (pureBLs [(t1.2.map AV.int)])
 (br (!(InI t1.2 x4.router))
 (Rp valOR_e (1) r0)
 (Bk (valOR_n4 o t0 t1 t3 x3) [0,1,2] (I4 t0 t1 t3 x3) (m4 t0 t1 t3 x3) (W (t4+1)) t4)))))))
 (Rf (o.ls.map Lsn.v) (ck (decide (0≤t3)) (ck (decide (t3<(o.ls.length:Int)))
 (∀x5,o.ls[t3.toNat]?=some x5 →
 (Cl (valLR_c x5)
 (br ((valL x5) != 0)
 (Be (valOR_n5 o t0 t1 t3 x3 t4 x5) [0,1,99] (I5 t0 t1 t3 x3 t4 x5) (true))
 (Be (valOR_n5 o t0 t1 t3 x3 t4 x5) [0,1,99] (I5 t0 t1 t3 x3 t4 x5) (x5.router != x3.router))))∧∀t5:Bool,I5 t0 t1 t3 x3 t4 x5 t5 →
 br t5
 (Rp valOR_e (1) r0)
 (Be (valOR_n6 o t0 t1 t3 x3 t4 x5 t5) [0,1] (I6 t0 t1 t3 x3 t4 x5 t5) (0)∧∀t6,I6 t0 t1 t3 x3 t4 x5 t5 t6 →
 br (decide (t6<((x5.heard.map Hrd.v).length:Int)))
 (Rf (x5.heard.map Hrd.v) (ck (decide (0≤t6)) (ck (decide (t6<(x5.heard.length:Int)))
 (∀x6,x5.heard[t6.toNat]?=some x6 →
 Cl (InI_c t1.2 x6.router)
 (ck (pureBLs [(t1.2.map AV.int)])
 (br (!(InI t1.2 x6.router))
 (Rp valOR_e (1) r0)
 (Bk (valOR_n6 o t0 t1 t3 x3 t4 x5 t5) [0,1] (I6 t0 t1 t3 x3 t4 x5 t5) (m6 t0 t1 t3 x3 t4 x5 t5) (W (t6+1)) t6)))))))
 (Bk (valOR_n3 o t0 t1) [0,1] (I3 t0 t1) (m3 t0 t1) (W (t3+1)) t3)))))))))))
 (Be (valOR_n7 o t0 t1 t3) [1] (I7 t0 t1 t3) (0)∧∀t7,I7 t0 t1 t3 t7 →
 br (decide (t7<((o.fl.map Sig.v).length:Int)))
 (Rf (o.fl.map Sig.v) (ck (decide (0≤t7)) (ck (decide (t7<(o.fl.length:Int)))
 (∀x7,o.fl[t7.toNat]?=some x7 →
 (Cl (sigVR_c x7)
 (br ((sigErr x7) != 0)
 (Be (valOR_n8 o t0 t1 t3 t7 x7) [0] (I8 t0 t1 t3 t7 x7) (true))
 (Cl (InI_c t1.2 x7.src)
 (ck (pureBLs [(t1.2.map AV.int)])
 (br (!(InI t1.2 x7.src))
 (Be (valOR_n8 o t0 t1 t3 t7 x7) [0] (I8 t0 t1 t3 t7 x7) (true))
 (Cl (InI_c t1.2 x7.dst)
 (ck (pureBLs [(t1.2.map AV.int)])
 (Be (valOR_n8 o t0 t1 t3 t7 x7) [0] (I8 t0 t1 t3 t7 x7) (!(InI t1.2 x7.dst))))))))))∧∀t8:Bool,I8 t0 t1 t3 t7 x7 t8 →
 br t8
 (Rp valOR_e (1) r0)
 (Bk (valOR_n7 o t0 t1 t3) [0] (I7 t0 t1 t3) (m7 t0 t1 t3) (W (t7+1)) t7)))))
 (Rp valOR_e (0) r0))))
theorem valOR_p(o:Ovl)(ok:valOR_a o):∃I0 I1 m1 I2 I3 m3 I4 m4 I5 I6 m6 I7 m7 I8,valOR_vc o I0 I1 m1 I2 I3 m3 I4 m4 I5 I6 m6 I7 m7 I8 (valO o):=by
 unfold valOR_a at ok
 obtain ⟨l1,l2,l3⟩:=ovl_lens ok
 refine ⟨fun t=>t=false↔(o.sp.length≤12∧o.ls.length=o.sp.length),
  fun _ t=>∃k:Nat,t=((k:Int),rtrs (o.sp.take k))∧k≤o.sp.length∧∀i s,i<k→o.sp[i]?=some s→spkOk s∧(0<i→∀y,o.sp[i-1]?=some y→y.router<s.router),fun _ t=>o.sp.length-t.1.toNat,
  fun _ t1 x t=>t=false↔(spkOk x∧(0<t1.1.toNat→∀y,o.sp[t1.1.toNat-1]?=some y→y.router<x.router)),
  fun _ _ t=>∃k:Nat,t=k∧k≤o.sp.length∧∀i s l,i<k→o.sp[i]?=some s→o.ls[i]?=some l→RefK (rtrs o.sp) s l,fun _ _ t=>o.sp.length-t.toNat,
  fun _ _ _ x t=>∃j:Nat,t=j∧j≤x.peers.length∧∀p∈x.peers.take j,p.router∈rtrs o.sp,fun _ _ _ x t=>x.peers.length-t.toNat,
  fun _ _ _ x _ y t=>t=false↔(lsnOk y∧y.router=x.router),
  fun _ _ _ _ _ y _ t=>∃k:Nat,t=k∧k≤y.heard.length∧∀h∈y.heard.take k,h.router∈rtrs o.sp,fun _ _ _ _ _ y _ t=>y.heard.length-t.toNat,
  fun _ _ _ t=>∃k:Nat,t=k∧k≤o.fl.length∧∀x∈o.fl.take k,sigIn (rtrs o.sp) x,fun _ _ _ t=>o.fl.length-t.toNat,
  fun _ _ _ _ x t=>t=false↔sigIn (rtrs o.sp) x,?_⟩
 simp only [valOR_vc,vcU,rfU,List.length_map]
 refine ⟨⟨fun h1=>by simp;omega,fun h1=>by simp;omega⟩,?_⟩
 intro t0 h0
 refine ⟨fun e=>?_,fun e=>?_⟩
 ·subst e
  exact valO_pos fun q=>by have:=h0.mpr (ref_iff.mp q).1;simp at this
 obtain ⟨n1,n2⟩:=h0.mp e
 have hR:(rtrs o.sp).length=o.sp.length:=rtrs_len
 refine ⟨⟨0,rfl,by omega,fun i s hi=>by omega⟩,?_⟩
 rintro _ ⟨k,rfl,hk,hI⟩
 simp only [Int.toNat_natCast]
 refine ⟨fun h1=>⟨by omega,by omega,fun x hx=>⟨⟨fun a1=>?_,fun a1=>⟨fun a2=>⟨?_,?_,fun y hy=>?_⟩,fun a2=>?_⟩⟩,?_⟩⟩,fun h1=>⟨⟨0,rfl,by omega,fun i s l hi=>by omega⟩,?_⟩⟩
 ·have a1:¬valS x=0:=by simpa using a1
  rw [valS_z] at a1
  simp [a1]
 ·rw [W_eq (by omega)];omega
 ·rw [W_eq (by omega)];omega
 ·have a1:valS x=0:=by simpa using a1
  have e3:(W ((k:Int)-1)).toNat=k-1:=by rw [W_eq (by omega)];omega
  rw [e3] at hy
  rw [valS_z] at a1
  rw [hy]
  simp only [Option.some.injEq,forall_eq',decide_eq_false_iff_not]
  exact ⟨fun q=>⟨a1,fun _=>by omega⟩,fun q=>by have:=q.2 (by omega);omega⟩
 ·have a1:valS x=0:=by simpa using a1
  rw [valS_z] at a1
  simp only [true_iff]
  exact ⟨a1,fun q=>by omega⟩
 ·intro t2 h2
  refine ⟨fun e=>?_,fun e=>⟨by rw [rtrs_len];simp;omega,⟨k+1,?_,by omega,fun i s hi hs=>?_⟩,?_⟩⟩
  ·subst e
   exact valO_pos fun q=>by
    have d:=(ref_iff.mp q).2.1 k x hx
    have:=h2.mpr d
    simp at this
  ·rw [W_succ (n:=o.sp.length) (by omega) (by omega),take_succ hx];simp [rtrs]
  ·by_cases ei:i=k
   ·subst ei
    rw [hx] at hs;cases hs
    exact h2.mp e
   ·exact hI i s (by omega) hs
  ·rw [W_succ (n:=o.sp.length) (by omega) (by omega)];omega
 ·have hk:k=o.sp.length:=by omega
  have eR:rtrs (o.sp.take k)=rtrs o.sp:=by rw [hk,List.take_length]
  rw [eR]
  have hI:∀i s,o.sp[i]?=some s→spkOk s∧(0<i→∀y,o.sp[i-1]?=some y→y.router<s.router):=fun i s hs=>hI i s (by have:=lt_of_get hs;omega) hs
  have hL:pureBLs [(rtrs o.sp).map AV.int]=true:=pureBLs_one (pureBL_map (fun _=>rfl) _)
  clear eR
  rintro _ ⟨k,rfl,hk,hK⟩
  simp only [Int.toNat_natCast,InI]
  refine ⟨fun b1=>⟨by omega,by omega,fun x hx=>⟨fun c1=>?_,fun c1=>⟨⟨0,rfl,by omega,by simp⟩,?_⟩⟩⟩,fun b1=>⟨⟨0,rfl,by omega,by simp⟩,?_⟩⟩
  ·obtain ⟨l,hl⟩:∃l,o.ls[k]?=some l:=⟨_,List.getElem?_eq_getElem (by omega)⟩
   refine valO_pos fun q=>?_
   have d:=((ref_iff.mp q).2.2.1 k x l hx hl).n
   rw [W_eq (by omega)] at c1
   simp at c1
   omega
  ·have hn:x.peers.length+1=(rtrs o.sp).length:=by
    rw [W_eq (by omega)] at c1
    simp at c1
    omega
   have hs:=hI k x hx
   have hxp:=hs.1.2.2.2.2.1
   rintro _ ⟨j,rfl,hj,hJ⟩
   simp only [Int.toNat_natCast]
   refine ⟨fun d1=>⟨by omega,by omega,fun p hp=>⟨hL,fun d2=>?_,fun d2=>?_⟩⟩,fun d1=>⟨by omega,by omega,fun y hy=>⟨⟨fun f1=>?_,fun f1=>?_⟩,?_⟩⟩⟩
   ·have d2:¬p.router∈rtrs o.sp:=by simpa using d2
    obtain ⟨l,hl⟩:∃l,o.ls[k]?=some l:=⟨_,List.getElem?_eq_getElem (by omega)⟩
    exact valO_pos fun q=>d2 (((ref_iff.mp q).2.2.1 k x l hx hl).p p (mem_of_get hp))
   ·rw [W_succ (n:=x.peers.length) (by omega) (by omega)]
    exact ⟨⟨j+1,rfl,by omega,take_all hp hJ (by simpa using d2)⟩,by omega⟩
   ·have f1:¬valL y=0:=by simpa using f1
    rw [valL_z] at f1
    simp [f1]
   ·have f1:valL y=0:=by simpa using f1
    rw [valL_z] at f1
    simp [f1]
   ·intro t5 h5
    have ej:j=x.peers.length:=by omega
    rw [ej,List.take_length] at hJ
    refine ⟨fun e=>?_,fun e=>⟨⟨0,rfl,by omega,by simp⟩,?_⟩⟩
    ·subst e
     exact valO_pos fun q=>by
      have d:=(ref_iff.mp q).2.2.1 k x y hx hy
      have:=h5.mpr ⟨d.lo,d.lr⟩
      simp at this
    obtain ⟨g1,g2⟩:=h5.mp e
    have hh:=g1.2.2.1
    rintro _ ⟨m,rfl,hm,hM⟩
    simp only [Int.toNat_natCast]
    refine ⟨fun d1=>⟨by omega,by omega,fun z hz=>⟨hL,fun d2=>?_,fun d2=>?_⟩⟩,fun d1=>?_⟩
    ·have d2:¬z.router∈rtrs o.sp:=by simpa using d2
     exact valO_pos fun q=>d2 (((ref_iff.mp q).2.2.1 k x y hx hy).h z (mem_of_get hz))
    ·rw [W_succ (n:=y.heard.length) (by omega) (by omega)]
     exact ⟨⟨m+1,rfl,by omega,take_all hz hM (by simpa using d2)⟩,by omega⟩
    ·have em:m=y.heard.length:=by omega
     rw [em,List.take_length] at hM
     rw [W_succ (n:=o.sp.length) (by omega) (by omega)]
     refine ⟨⟨k+1,rfl,by omega,fun i s l hi hs' hl'=>?_⟩,by omega⟩
     by_cases ei:i=k
     ·subst ei
      rw [hx] at hs';rw [hy] at hl'
      cases hs';cases hl'
      exact ⟨hn,hJ,g1,g2,hM⟩
     ·exact hK i s l (by omega) hs' hl'
  ·rintro _ ⟨j,rfl,hj,hJ⟩
   simp only [Int.toNat_natCast]
   refine ⟨fun c1=>⟨by omega,by omega,fun x hx=>⟨⟨fun a1=>?_,fun a1=>⟨hL,fun a2=>?_,fun a2=>⟨hL,?_⟩⟩⟩,?_⟩⟩,fun c1=>?_⟩
   ·have a1:¬sigErr x=0:=by simpa using a1
    simp [sigIn,a1]
   ·have a2:¬x.src∈rtrs o.sp:=by simpa using a2
    simp [sigIn,a2]
   ·have a1:sigErr x=0:=by simpa using a1
    have a2:x.src∈rtrs o.sp:=by simpa using a2
    simp [sigIn,a1,a2]
   ·intro t6 h6
    refine ⟨fun e=>?_,fun e=>?_⟩
    ·subst e
     exact valO_pos fun q=>by have:=h6.mpr ((ref_iff.mp q).2.2.2 x (mem_of_get hx));simp at this
    ·rw [W_succ (n:=o.fl.length) (by omega) (by omega)]
     exact ⟨⟨j+1,rfl,by omega,take_all hx hJ (h6.mp e)⟩,by omega⟩
   ·have hj:j=o.fl.length:=by omega
    rw [hj,List.take_length] at hJ
    exact (if_pos (ref_iff.mpr ⟨⟨n1,n2⟩,hI,fun i s l hs hl=>hK i s l (by have:=lt_of_get hs;omega) hs hl,hJ⟩)).symm
def valOR_c(o:Ovl):PC Tryz.prog:=⟨75,[(.a [(.s 5),(.s 3),(.s 10)])],[.agg [.sl 5 (o.sp.map Spk.v) false,.sl 3 (o.ls.map Lsn.v) false,.sl 10 (o.fl.map Sig.v) false]],valOR_e (valO o),PSpec.of_ok fun ok=>(valOR_p o ok).elim fun I0 h=>h.elim fun I1 h=>h.elim fun m1 h=>h.elim fun I2 h=>h.elim fun I3 h=>h.elim fun m3 h=>h.elim fun I4 h=>h.elim fun m4 h=>h.elim fun I5 h=>h.elim fun I6 h=>h.elim fun m6 h=>h.elim fun I7 h=>h.elim fun m7 h=>h.elim fun I8 h=>mxP_of (sh:=.k) (enc:=valOR_e) (a:=((.pass (.pass (.join 0 (valOR_n0 o) (fun t0=>I0 t0) (.br 112 (.back 0 ((true):Bool) [0])
 (.back 0 ((((o.ls.map Lsn.v).length:Int) != ((o.sp.map Spk.v).length:Int)):Bool) [0])) fun (t0:Bool) =>
 (.br 1 (.ret (1))
 (.cmdL (.nilT 3 1) (.loop 1 (valOR_n1 o t0) (I1 t0) (m1 t0) ((0,[]):Int×(List Int)) [0,81] fun (t1:Int×(List Int)) =>
 (.br 18 (.el 34 Spk.v o.sp fun x1 =>
 (.pass (.join 2 (valOR_n2 o t0 t1 x1) (fun t2=>I2 t0 t1 x1 t2) (.callP (valR6_c x1)
 (.br 178 (.back 2 ((true):Bool) [0,1,66])
 (.br 226 (.el 290 Spk.v o.sp fun x2 =>
 (.back 2 ((decide (x1.router≤x2.router)):Bool) [0,1,66]))
 (.back 2 ((false):Bool) [0,1,66])))) fun (t2:Bool) =>
 (.br 3 (.ret (1))
 (.app 67 AV.int t1.2 [x1.router]
 (.back 1 ((W (t1.1+1),t1.2++[x1.router]):Int×(List Int)) [0,67]))))))
 (.loop 3 (valOR_n3 o t0 t1) (I3 t0 t1) (m3 t0 t1) ((0):Int) [0,1] fun (t3:Int) =>
 (.br 18 (.el 34 Spk.v o.sp fun x3 =>
 (.br 226 (.ret (1))
 (.loop 4 (valOR_n4 o t0 t1 t3 x3) (I4 t0 t1 t3 x3) (m4 t0 t1 t3 x3) ((0):Int) [0,1,66] fun (t4:Int) =>
 (.br 19 (.el 19 Per.v x3.peers fun x4 =>
 (.callP (InI_c t1.2 x4.router)
 (.br 163 (.ret (1))
 (.back 4 ((W (t4+1)):Int) [0,1,2]))))
 (.el 67 Lsn.v o.ls fun x5 =>
 (.pass (.join 5 (valOR_n5 o t0 t1 t3 x3 t4 x5) (fun t5=>I5 t0 t1 t3 x3 t4 x5 t5) (.callP (valLR_c x5)
 (.br 195 (.back 5 ((true):Bool) [0,1,99])
 (.back 5 ((x5.router != x3.router):Bool) [0,1,99]))) fun (t5:Bool) =>
 (.br 3 (.ret (1))
 (.loop 6 (valOR_n6 o t0 t1 t3 x3 t4 x5 t5) (I6 t0 t1 t3 x3 t4 x5 t5) (m6 t0 t1 t3 x3 t4 x5 t5) ((0):Int) [0,1] fun (t6:Int) =>
 (.br 18 (.el 18 Hrd.v x5.heard fun x6 =>
 (.callP (InI_c t1.2 x6.router)
 (.br 162 (.ret (1))
 (.back 6 ((W (t6+1)):Int) [0,1]))))
 (.back 3 ((W (t3+1)):Int) [0,1])))))))))))
 (.loop 7 (valOR_n7 o t0 t1 t3) (I7 t0 t1 t3) (m7 t0 t1 t3) ((0):Int) [1] fun (t7:Int) =>
 (.br 17 (.el 17 Sig.v o.fl fun x7 =>
 (.join 8 (valOR_n8 o t0 t1 t3 t7 x7) (fun t8=>I8 t0 t1 t3 t7 x7 t8) (.callP (sigVR_c x7)
 (.br 145 (.back 8 ((true):Bool) [0])
 (.callP (InI_c t1.2 x7.src)
 (.br 257 (.back 8 ((true):Bool) [0])
 (.callP (InI_c t1.2 x7.dst)
 (.back 8 ((!(InI t1.2 x7.dst)):Bool) [0])))))) fun (t8:Bool) =>
 (.br 1 (.ret (1))
 (.back 7 ((W (t7+1)):Int) [0]))))
 (.ret (0))))))))))))):An Tryz.prog valOR_s (Int))) h (by kernel_rfl) (AV.pureB_ok rfl),fnB_ok (by kernel_rfl)⟩
theorem valO_z{o:Ovl}:valO o=0↔ovlOk o:=by
 unfold valO;by_cases h:ovlOk o<;>simp [h]
theorem idx_in{o:Ovl}(h:ovlOk o){r:Int}(hr:r∈rtrs o.sp):idxS o.sp r=(posS o.sp r:Int):=by rw [idxS_asc h,if_pos hr]
theorem idx_neg{o:Ovl}(h:ovlOk o){r:Int}:idxS o.sp r<0↔r ∉ rtrs o.sp:=by
 rw [idxS_asc h]
 split
 ·rename_i hr;simp [hr]
 ·rename_i hr;simp [hr]
def chgOR_a(o:Ovl)(router:Int)(wants:(List Wnt)):Prop:=okL [.agg [.sl 5 (o.sp.map Spk.v) false,.sl 3 (o.ls.map Lsn.v) false,.sl 10 (o.fl.map Sig.v) false],.int router,.sl 3 (wants.map Wnt.v) false]
def chgOR_s:Nat→Type
 | _=>Unit
def chgOR_e(r:Ovl×Int):AV:=.tup [Ovl.v r.1,.int r.2]
def chgOR_vc(o:Ovl)(router:Int)(wants:(List Wnt))(r0:Ovl×Int):Prop:=
 Cl (valOR_c o)
 (br ((valO o) != 0)
 (Rp chgOR_e ((⟨[],[],[]⟩:Ovl),valO o) r0)
 (Cl (idxSF_c o router)
 (br (decide ((idxS o.sp router)<0))
 (Rp chgOR_e ((⟨[],[],[]⟩:Ovl),4) r0)
 (Cl (valR_c wants)
 (br ((wErr false wants) != 0)
 (Rp chgOR_e ((⟨[],[],[]⟩:Ovl),wErr false wants) r0)
 (Rf (o.sp.map Spk.v) (ck (decide (0≤(idxS o.sp router))) (ck (decide ((idxS o.sp router)<(o.sp.length:Int)))
 (∀x1,o.sp[(idxS o.sp router).toNat]?=some x1 →
 Cl (wantsR_c x1.items)
 (Cl (chgsR_c (wantsOf x1.items) wants)
 (br (((changes (wantsOf x1.items) wants).2) != 0)
 (Rp chgOR_e ((⟨[],[],[]⟩:Ovl),(changes (wantsOf x1.items) wants).2) r0)
 (Rf (o.sp.map Spk.v) (ck (decide (0≤(idxS o.sp router))) (ck (decide ((idxS o.sp router)<(o.sp.length:Int)))
 (∀x2,o.sp[(idxS o.sp router).toNat]?=some x2 →
 Cl (changeR_c x2 ((changes (wantsOf x1.items) wants).1))
 (br (((change x2 ((changes (wantsOf x1.items) wants).1)).2) != 0)
 (Rp chgOR_e ((⟨[],[],[]⟩:Ovl),(change x2 ((changes (wantsOf x1.items) wants).1)).2) r0)
 (∃h3:o.sp.length≤1000000∧o.ls.length≤1000000∧o.fl.length≤1000000,
 Ch (copR_h o h3) [] 816
 (ck (cond (decide (0≤(idxS o.sp router))) (decide ((idxS o.sp router)<((o.sp.map Spk.v).length:Int))) false)
 (Rf (o.sp.map Spk.v) (ck (decide ((idxS o.sp router).toNat<o.sp.length))
 (∀y4,o.sp[(idxS o.sp router).toNat]?=some y4→Rf (Spk.v ((change x2 ((changes (wantsOf x1.items) wants).1)).1))
 (Rf (o.fl.map Sig.v) (Rf (o.ls.map Lsn.v) (Rf ((o.sp.set ((idxS o.sp router).toNat) ((change x2 ((changes (wantsOf x1.items) wants).1)).1)).map Spk.v) (Rp chgOR_e ((⟨o.sp.set ((idxS o.sp router).toNat) ((change x2 ((changes (wantsOf x1.items) wants).1)).1),o.ls,o.fl⟩:Ovl),0) r0)))))))))))))))))))))))))
theorem chgOR_p(o:Ovl)(r:Int)(w:List Wnt)(h:o.fl.length≤1000000)(ok:chgOR_a o r w):chgOR_vc o r w (changeV o r w):=by
 simp only [chgOR_vc,vcU,rfU,List.length_map]
 unfold changeV
 by_cases h1:ovlOk o
 case neg =>
  have:valO o=1:=if_neg h1
  rw [if_pos h1,this];simp [ovl0]
 rw [if_neg (not_not_intro h1),valO_z.mpr h1]
 have hL:=h1.1.lens
 refine ⟨fun q=>by simp at q,fun _=>⟨fun q=>?_,fun q=>?_⟩⟩
 ·rw [if_pos ((idx_neg h1).mp q)];rfl
 have h2:r∈rtrs o.sp:=Classical.not_not.mp fun c=>q ((idx_neg h1).mpr c)
 obtain ⟨p1,p2,p3,p4⟩:=pos_get h1 h2
 rw [if_neg (not_not_intro h2),idx_in h1 h2]
 simp only [Int.toNat_natCast]
 refine ⟨fun c=>?_,fun c=>⟨by omega,by omega,fun x hx=>?_⟩⟩
 ·rw [if_pos (by simpa using c)];rfl
 rw [if_neg (by simpa using c)]
 cases p3.symm.trans hx
 refine ⟨fun c=>?_,fun c=>⟨by omega,by omega,fun y hy=>?_⟩⟩
 ·rw [if_pos (by simpa using c)];rfl
 rw [if_neg (by simpa using c)]
 cases p3.symm.trans hy
 refine ⟨fun d=>?_,fun d=>?_⟩
 ·rw [if_pos (by simpa using d)];rfl
 rw [if_neg (by simpa using d)]
 exact ⟨⟨by omega,by omega,h⟩,by simp;omega,by omega,fun z hz=>rfl⟩
def chgOR_c(o:Ovl)(router:Int)(wants:(List Wnt))(h:o.fl.length≤1000000):PC Tryz.prog:=⟨79,[(.a [(.s 5),(.s 3),(.s 10)]),.k,(.s 3)],[.agg [.sl 5 (o.sp.map Spk.v) false,.sl 3 (o.ls.map Lsn.v) false,.sl 10 (o.fl.map Sig.v) false],.int router,.sl 3 (wants.map Wnt.v) false],chgOR_e (changeV o router wants),PSpec.of_ok fun ok=>mxP_of (sh:=(.a [(.a [(.s 5),(.s 3),(.s 10)]),.k])) (enc:=chgOR_e) (a:=((.callP (valOR_c o)
 (.br 128 (.ret ((⟨[],[],[]⟩:Ovl),valO o))
 (.callP (idxSF_c o router)
 (.br 224 (.ret ((⟨[],[],[]⟩:Ovl),4))
 (.callP (valR_c wants)
 (.br 304 (.ret ((⟨[],[],[]⟩:Ovl),wErr false wants))
 (.el 352 Spk.v o.sp fun x1 =>
 (.callP (wantsR_c x1.items)
 (.callP (chgsR_c (wantsOf x1.items) wants)
 (.br 560 (.ret ((⟨[],[],[]⟩:Ovl),(changes (wantsOf x1.items) wants).2))
 (.el 608 Spk.v o.sp fun x2 =>
 (.callP (changeR_c x2 ((changes (wantsOf x1.items) wants).1))
 (.br 800 (.ret ((⟨[],[],[]⟩:Ovl),(change x2 ((changes (wantsOf x1.items) wants).1)).2))
 (.req 816 (o.sp.length≤1000000∧o.ls.length≤1000000∧o.fl.length≤1000000) fun h3 =>
 (.callH [] (copR_h o h3)
 (.st 944 Spk.v o.sp (fun y4=>((change x2 ((changes (wantsOf x1.items) wants).1)).1)) fun y4 =>
 (.cmdL (.frzE 818 (o.fl.map Sig.v) (pureBL_map (fun _=>rfl) o.fl)) (.cmdL (.frzE 817 (o.ls.map Lsn.v) (pureBL_map (fun _=>rfl) o.ls)) (.cmdL (.frzE 816 ((o.sp.set ((idxS o.sp router).toNat) ((change x2 ((changes (wantsOf x1.items) wants).1)).1)).map Spk.v) (pureBL_map (fun _=>rfl) (o.sp.set ((idxS o.sp router).toNat) ((change x2 ((changes (wantsOf x1.items) wants).1)).1)))) (.ret ((⟨o.sp.set ((idxS o.sp router).toNat) ((change x2 ((changes (wantsOf x1.items) wants).1)).1),o.ls,o.fl⟩:Ovl),0))))))))))))))))))))):An Tryz.prog chgOR_s (Ovl×Int))) (chgOR_p o router wants h ok) (by kernel_rfl) (AV.pureB_ok rfl),fnB_ok (by kernel_rfl)⟩
def rstOR_a(o:Ovl)(router:Int)(wants:(List Wnt)):Prop:=okL [.agg [.sl 5 (o.sp.map Spk.v) false,.sl 3 (o.ls.map Lsn.v) false,.sl 10 (o.fl.map Sig.v) false],.int router,.sl 3 (wants.map Wnt.v) false]
def rstOR_s:Nat→Type
 | _=>Unit
def rstOR_e(r:Ovl×Int):AV:=.tup [Ovl.v r.1,.int r.2]
def rstOR_vc(o:Ovl)(router:Int)(wants:(List Wnt))(r0:Ovl×Int):Prop:=
 Cl (valOR_c o)
 (br ((valO o) != 0)
 (Rp rstOR_e ((⟨[],[],[]⟩:Ovl),valO o) r0)
 (Cl (idxSF_c o router)
 (br (decide ((idxS o.sp router)<0))
 (Rp rstOR_e ((⟨[],[],[]⟩:Ovl),4) r0)
 (Rf (o.sp.map Spk.v) (ck (decide (0≤(idxS o.sp router))) (ck (decide ((idxS o.sp router)<(o.sp.length:Int)))
 (∀x1,o.sp[(idxS o.sp router).toNat]?=some x1 →
 Cl (restartR_c x1 wants)
 (br (((restart x1 wants).2) != 0)
 (Rp rstOR_e ((⟨[],[],[]⟩:Ovl),(restart x1 wants).2) r0)
 (Rf (o.ls.map Lsn.v) (ck (decide (0≤(idxS o.sp router))) (ck (decide ((idxS o.sp router)<(o.ls.length:Int)))
 (∀x2,o.ls[(idxS o.sp router).toNat]?=some x2 →
 br (decide (1000000≤x2.epoch))
 (Rp rstOR_e ((⟨[],[],[]⟩:Ovl),3) r0)
 (∃h3:o.sp.length≤1000000∧o.ls.length≤1000000∧o.fl.length≤1000000,
 Ch (copR_h o h3) [] 592
 (ck (cond (decide (0≤(idxS o.sp router))) (decide ((idxS o.sp router)<((o.sp.map Spk.v).length:Int))) false)
 (Rf (o.sp.map Spk.v) (ck (decide ((idxS o.sp router).toNat<o.sp.length))
 (∀y4,o.sp[(idxS o.sp router).toNat]?=some y4→Rf (Spk.v ((restart x1 wants).1))
 (Rf (o.ls.map Lsn.v) (ck (decide (0≤(idxS o.sp router))) (ck (decide ((idxS o.sp router)<(o.ls.length:Int)))
 (∀x5,o.ls[(idxS o.sp router).toNat]?=some x5 →
 ck (cond (decide (0≤(idxS o.sp router))) (decide ((idxS o.sp router)<((o.ls.map Lsn.v).length:Int))) false)
 (Rf (o.ls.map Lsn.v) (ck (decide ((idxS o.sp router).toNat<o.ls.length))
 (∀y6,o.ls[(idxS o.sp router).toNat]?=some y6 →
 (Rf (α:=List AV) ((o.ls.map Lsn.v).set ((idxS o.sp router).toNat) (.agg [.int router,.int (W (x5.epoch+1)),.sl 0 [] true])) (Rf (Lsn.v (⟨router,W (x5.epoch+1),[]⟩:Lsn))
 (Rf (o.fl.map Sig.v) (Rf ((o.ls.set ((idxS o.sp router).toNat) (⟨router,W (x5.epoch+1),[]⟩:Lsn)).map Lsn.v) (Rf ((o.sp.set ((idxS o.sp router).toNat) ((restart x1 wants).1)).map Spk.v) (Rp rstOR_e ((⟨o.sp.set ((idxS o.sp router).toNat) ((restart x1 wants).1),o.ls.set ((idxS o.sp router).toNat) (⟨router,W (x5.epoch+1),[]⟩:Lsn),o.fl⟩:Ovl),0) r0))))))))))))))))))))))))))))))
theorem rstOR_p(o:Ovl)(r:Int)(w:List Wnt)(h:o.fl.length≤1000000)(ok:rstOR_a o r w):rstOR_vc o r w (restartV o r w):=by
 simp only [rstOR_vc,vcU,rfU,List.length_map]
 unfold restartV
 by_cases h1:ovlOk o
 case neg =>
  have:valO o=1:=if_neg h1
  rw [if_pos h1,this];simp [ovl0]
 rw [if_neg (not_not_intro h1),valO_z.mpr h1]
 have hL:=h1.1.lens
 refine ⟨fun q=>by simp at q,fun _=>⟨fun q=>?_,fun q=>?_⟩⟩
 ·rw [if_pos ((idx_neg h1).mp q)];rfl
 have h2:r∈rtrs o.sp:=Classical.not_not.mp fun c=>q ((idx_neg h1).mpr c)
 obtain ⟨p1,p2,p3,p4⟩:=pos_get h1 h2
 have he:=(h1.1.lso _ (mem_of_get p4)).1.2.1
 rw [if_neg (not_not_intro h2),idx_in h1 h2]
 simp only [Int.toNat_natCast]
 refine ⟨by omega,by omega,fun x hx=>?_⟩
 cases p3.symm.trans hx
 refine ⟨fun c=>?_,fun c=>⟨by omega,by omega,fun y hy=>?_⟩⟩
 ·rw [if_pos (by simpa using c)];rfl
 rw [if_neg (by simpa using c)]
 cases p4.symm.trans hy
 refine ⟨fun d=>?_,fun d=>?_⟩
 ·rw [if_pos (by omega)];rfl
 rw [if_neg (by omega)]
 refine ⟨⟨by omega,by omega,h⟩,by simp;omega,by omega,fun z hz=>⟨by omega,by omega,fun u hu=>⟨by simp;omega,by omega,fun v hv=>?_⟩⟩⟩
 cases p4.symm.trans hu
 rw [W_eq (by omega)]
def rstOR_c(o:Ovl)(router:Int)(wants:(List Wnt))(h:o.fl.length≤1000000):PC Tryz.prog:=⟨81,[(.a [(.s 5),(.s 3),(.s 10)]),.k,(.s 3)],[.agg [.sl 5 (o.sp.map Spk.v) false,.sl 3 (o.ls.map Lsn.v) false,.sl 10 (o.fl.map Sig.v) false],.int router,.sl 3 (wants.map Wnt.v) false],rstOR_e (restartV o router wants),PSpec.of_ok fun ok=>mxP_of (sh:=(.a [(.a [(.s 5),(.s 3),(.s 10)]),.k])) (enc:=rstOR_e) (a:=((.callP (valOR_c o)
 (.br 128 (.ret ((⟨[],[],[]⟩:Ovl),valO o))
 (.callP (idxSF_c o router)
 (.br 224 (.ret ((⟨[],[],[]⟩:Ovl),4))
 (.el 272 Spk.v o.sp fun x1 =>
 (.callP (restartR_c x1 wants)
 (.br 464 (.ret ((⟨[],[],[]⟩:Ovl),(restart x1 wants).2))
 (.el 512 Lsn.v o.ls fun x2 =>
 (.br 576 (.ret ((⟨[],[],[]⟩:Ovl),3))
 (.req 592 (o.sp.length≤1000000∧o.ls.length≤1000000∧o.fl.length≤1000000) fun h3 =>
 (.callH [] (copR_h o h3)
 (.st 720 Spk.v o.sp (fun y4=>((restart x1 wants).1)) fun y4 =>
 (.el 848 Lsn.v o.ls fun x5 =>
 (.stI 944 Lsn.v o.ls fun y6 =>
 (.cmd (.wkS 593 ((idxS o.sp router).toNat) (.a [.k,.k,(.s 4)]) Lsn.v o.ls (.agg [.int router,.int (W (x5.epoch+1)),.sl 0 [] true]) (⟨router,W (x5.epoch+1),[]⟩:Lsn)) (.cmdL (.frzE 594 (o.fl.map Sig.v) (pureBL_map (fun _=>rfl) o.fl)) (.cmdL (.frzE 593 ((o.ls.set ((idxS o.sp router).toNat) (⟨router,W (x5.epoch+1),[]⟩:Lsn)).map Lsn.v) (pureBL_map (fun _=>rfl) (o.ls.set ((idxS o.sp router).toNat) (⟨router,W (x5.epoch+1),[]⟩:Lsn)))) (.cmdL (.frzE 592 ((o.sp.set ((idxS o.sp router).toNat) ((restart x1 wants).1)).map Spk.v) (pureBL_map (fun _=>rfl) (o.sp.set ((idxS o.sp router).toNat) ((restart x1 wants).1)))) (.ret ((⟨o.sp.set ((idxS o.sp router).toNat) ((restart x1 wants).1),o.ls.set ((idxS o.sp router).toNat) (⟨router,W (x5.epoch+1),[]⟩:Lsn),o.fl⟩:Ovl),0)))))))))))))))))))):An Tryz.prog rstOR_s (Ovl×Int))) (rstOR_p o router wants h ok) (by kernel_rfl) (AV.pureB_ok rfl),fnB_ok (by kernel_rfl)⟩
theorem posS_R{R:List Int}{sp sp':List Spk}{ls ls':List Lsn}(h:NetOk R sp ls)(h':NetOk R sp' ls')(r:Int):posS sp r=posS sp' r:=
 posK_keys (key:=Spk.router) (key':=Spk.router) (h.spr.trans h'.spr.symm) r
def rndOR_a(o:Ovl)(faults:(List Fau)):Prop:=okL [.agg [.sl 5 (o.sp.map Spk.v) false,.sl 3 (o.ls.map Lsn.v) false,.sl 10 (o.fl.map Sig.v) false],.sl 2 (faults.map Fau.v) false]
def rndOR_n0(o:Ovl)(faults:(List Fau))(t0:Int×(List Spk)×(List Sig)×(List Lsn)):NF:=⟨[(2,.k,.ref 0 0),(4,.k,.ref 1 0),(7,.k,.ref 2 0),(41,.k,.vec 6),(42,.k,.int ((((arr o.fl faults).1).map Sig.v).length:Int)),(43,.k,.int t0.1)],[.box (.agg [.sl 5 (o.sp.map Spk.v) false,.sl 3 (o.ls.map Lsn.v) false,.sl 10 (o.fl.map Sig.v) false]),.box (.agg [.sl 0 [] true,.sl 0 [] true,.sl 0 [] true]),.box (.agg [.vec 3,.vec 4,.vec 5]),.vec 5 (t0.2.1.map Spk.v) (pureBL_map (fun _=>rfl) t0.2.1),.vec 3 (t0.2.2.2.map Lsn.v) (pureBL_map (fun _=>rfl) t0.2.2.2),.vec 10 (t0.2.2.1.map Sig.v) (pureBL_map (fun _=>rfl) t0.2.2.1),.vec 10 (((arr o.fl faults).1).map Sig.v) (pureBL_map (fun _=>rfl) ((arr o.fl faults).1))]⟩
def rndOR_n1(o:Ovl)(faults:(List Fau))(t0:Int×(List Spk)×(List Sig)×(List Lsn))(t1:Int×(List Sig)):NF:=⟨[(4,.k,.ref 0 0),(7,.k,.ref 1 0),(97,.k,.vec 2),(98,.k,.int ((t0.2.1.map Spk.v).length:Int)),(99,.k,.int t1.1)],[.box (.agg [.sl 0 [] true,.sl 0 [] true,.sl 0 [] true]),.box (.agg [.vec 2,.vec 3,.vec 4]),.vec 5 (t0.2.1.map Spk.v) (pureBL_map (fun _=>rfl) t0.2.1),.vec 3 (t0.2.2.2.map Lsn.v) (pureBL_map (fun _=>rfl) t0.2.2.2),.vec 10 (t1.2.map Sig.v) (pureBL_map (fun _=>rfl) t1.2)]⟩
def rndOR_n2(o:Ovl)(faults:(List Fau))(t0:Int×(List Spk)×(List Sig)×(List Lsn))(t1:Int×(List Sig))(x8:Spk)(t2:Int×(List Sig)):NF:=⟨[(4,.k,.ref 0 0),(7,.k,.ref 1 0),(19,.k,.ref 5 0),(97,.k,.vec 2),(98,.k,.int ((t0.2.1.map Spk.v).length:Int)),(99,.k,.int t1.1),(104,.k,.sl 3 (x8.peers.map Per.v) false),(105,.k,.int ((x8.peers.map Per.v).length:Int)),(106,.k,.int t2.1)],[.box (.agg [.sl 0 [] true,.sl 0 [] true,.sl 0 [] true]),.box (.agg [.vec 2,.vec 3,.vec 4]),.vec 5 (t0.2.1.map Spk.v) (pureBL_map (fun _=>rfl) t0.2.1),.vec 3 (t0.2.2.2.map Lsn.v) (pureBL_map (fun _=>rfl) t0.2.2.2),.vec 10 (t2.2.map Sig.v) (pureBL_map (fun _=>rfl) t2.2),.box (.agg [.int x8.router,.int x8.epoch,.int x8.last,.sl 4 (x8.items.map Itm.v) false,.sl 3 (x8.peers.map Per.v) false])]⟩
def rndOR_s:Nat→Type
 | 0=>Int×(List Spk)×(List Sig)×(List Lsn)
 | 1=>Int×(List Sig)
 | 2=>Int×(List Sig)
 | _=>Unit
def rndOR_e(r:Ovl×Int):AV:=.tup [Ovl.v r.1,.int r.2]
def rndOR_vc(o:Ovl)(faults:(List Fau))(I0:(Int×(List Spk)×(List Sig)×(List Lsn))→Prop)(m0:(Int×(List Spk)×(List Sig)×(List Lsn))→Nat)(I1:Int×(List Spk)×(List Sig)×(List Lsn)→(Int×(List Sig))→Prop)(m1:Int×(List Spk)×(List Sig)×(List Lsn)→(Int×(List Sig))→Nat)(I2:Int×(List Spk)×(List Sig)×(List Lsn)→Int×(List Sig)→Spk→(Int×(List Sig))→Prop)(m2:Int×(List Spk)×(List Sig)×(List Lsn)→Int×(List Sig)→Spk→(Int×(List Sig))→Nat)(r0:Ovl×Int):Prop:=
 Cl (valOR_c o)
 (br ((valO o) != 0)
 (Rp rndOR_e ((⟨[],[],[]⟩:Ovl),valO o) r0)
 (∃h1:o.sp.length≤1000000∧o.ls.length≤1000000∧o.fl.length≤1000000,
 Ch (copR_h o h1) [] 144
 (∃h2:okArr o.fl faults,
 Ch (arrR_h o.fl faults h2) [] 240
 (Be (rndOR_n0 o faults) [0,16,160,144,145,241,240] I0 (0,o.sp,(arr o.fl faults).2,o.ls)∧∀t0,I0 t0 →
 br (decide (t0.1<((((arr o.fl faults).1).map Sig.v).length:Int)))
 (ck (cond (decide (0≤t0.1)) (decide (t0.1<((((arr o.fl faults).1).map Sig.v).length:Int))) false)
 (Rf (((arr o.fl faults).1).map Sig.v) (ck (decide (t0.1.toNat<((arr o.fl faults).1).length))
 (∀x3,((arr o.fl faults).1)[t0.1.toNat]?=some x3 →
 Cl (idxSF_c o x3.dst)
 (br (x3.kind==3)
 (ck (cond (decide (0≤(idxS o.sp x3.dst))) (decide ((idxS o.sp x3.dst)<((t0.2.1.map Spk.v).length:Int))) false)
 (Rf (t0.2.1.map Spk.v) (ck (decide ((idxS o.sp x3.dst).toNat<t0.2.1.length))
 (∀x4,t0.2.1[(idxS o.sp x3.dst).toNat]?=some x4 →
 Cl (ackR_c x4 x3)
 (br (((ack x4 x3).2)==0)
 (ck (cond (decide (0≤(idxS o.sp x3.dst))) (decide ((idxS o.sp x3.dst)<((t0.2.1.map Spk.v).length:Int))) false)
 (Rf (t0.2.1.map Spk.v) (ck (decide ((idxS o.sp x3.dst).toNat<t0.2.1.length))
 (∀y5,t0.2.1[(idxS o.sp x3.dst).toNat]?=some y5→Rf (Spk.v ((ack x4 x3).1))
 (Bk (rndOR_n0 o faults) [0,1,2,3,4,5,6] I0 m0 (W (t0.1+1),t0.2.1.set ((idxS o.sp x3.dst).toNat) ((ack x4 x3).1),t0.2.2.1,t0.2.2.2) t0)))))
 (Bk (rndOR_n0 o faults) [0,1,2,3,4,5,6] I0 m0 (W (t0.1+1),t0.2.1,t0.2.2.1,t0.2.2.2) t0))))))
 (ck (cond (decide (0≤(idxS o.sp x3.dst))) (decide ((idxS o.sp x3.dst)<((t0.2.2.2.map Lsn.v).length:Int))) false)
 (Rf (t0.2.2.2.map Lsn.v) (ck (decide ((idxS o.sp x3.dst).toNat<t0.2.2.2.length))
 (∀x6,t0.2.2.2[(idxS o.sp x3.dst).toNat]?=some x6 →
 Cl (hearR_c x6 x3)
 (br (((hear x6 x3).2)==0)
 (ck (cond (decide (0≤(idxS o.sp x3.dst))) (decide ((idxS o.sp x3.dst)<((t0.2.2.2.map Lsn.v).length:Int))) false)
 (Rf (t0.2.2.2.map Lsn.v) (ck (decide ((idxS o.sp x3.dst).toNat<t0.2.2.2.length))
 (∀y7,t0.2.2.2[(idxS o.sp x3.dst).toNat]?=some y7→Rf (Lsn.v ((hear x6 x3).1.1))
 (Rf (α:=List AV) (t0.2.2.1.map Sig.v) (Rf (α:=List AV) [(Sig.v ((hear x6 x3).1.2))]
 (ck (decide (t0.2.2.1.length+1≤1000000))
 (Bk (rndOR_n0 o faults) [0,1,2,3,4,663,6] I0 m0 (W (t0.1+1),t0.2.1,t0.2.2.1++[(hear x6 x3).1.2],t0.2.2.2.set ((idxS o.sp x3.dst).toNat) ((hear x6 x3).1.1)) t0))))))))
 (Bk (rndOR_n0 o faults) [0,1,2,3,4,5,6] I0 m0 (W (t0.1+1),t0.2.1,t0.2.2.1,t0.2.2.2) t0)))))))))))
 (Be (rndOR_n1 o faults t0) [1,2,3,4,5] (I1 t0) (0,t0.2.2.1)∧∀t1,I1 t0 t1 →
 br (decide (t1.1<((t0.2.1.map Spk.v).length:Int)))
 (ck (cond (decide (0≤t1.1)) (decide (t1.1<((t0.2.1.map Spk.v).length:Int))) false)
 (Rf (t0.2.1.map Spk.v) (ck (decide (t1.1.toNat<t0.2.1.length))
 (∀x8,t0.2.1[t1.1.toNat]?=some x8 →
 Be (rndOR_n2 o faults t0 t1 x8) [0,1,2,3,4,53] (I2 t0 t1 x8) (0,t1.2)∧∀t2,I2 t0 t1 x8 t2 →
 br (decide (t2.1<((x8.peers.map Per.v).length:Int)))
 (Rf (x8.peers.map Per.v) (ck (decide (0≤t2.1)) (ck (decide (t2.1<(x8.peers.length:Int)))
 (∀x9,x8.peers[t2.1.toNat]?=some x9 →
 Cl (sendR_c x8 x9.router)
 (Rf (α:=List AV) (t2.2.map Sig.v) (Rf (α:=List AV) (((send x8 x9.router).1).map Sig.v)
 (ck (decide (t2.2.length+((send x8 x9.router).1).length≤1000000))
 (Bk (rndOR_n2 o faults t0 t1 x8) [0,1,2,3,278,5] (I2 t0 t1 x8) (m2 t0 t1 x8) (W (t2.1+1),t2.2++((send x8 x9.router).1)) t2))))))))
 (Bk (rndOR_n1 o faults t0) [0,1,2,3,4] (I1 t0) (m1 t0) (W (t1.1+1),t2.2) t1)))))
 (Rf (t1.2.map Sig.v) (Rf (t0.2.2.2.map Lsn.v) (Rf (t0.2.1.map Spk.v) (Rp rndOR_e ((⟨t0.2.1,t0.2.2.2,t1.2⟩:Ovl),0) r0)))))))))
theorem rndOR_p(o:Ovl)(f:List Fau)(h:okRnd o f)(ok:rndOR_a o f):∃I0 m0 I1 m1 I2 m2,rndOR_vc o f I0 m0 I1 m1 I2 m2 (roundO o f):=by
 obtain ⟨h1,h2⟩:=h
 by_cases hv:ovlOk o
 case neg =>
  refine ⟨fun _=>True,fun _=>0,fun _ _=>True,fun _ _=>0,fun _ _ _ _=>True,fun _ _ _ _=>0,?_⟩
  have e:roundO o f=(ovl0,1):=if_pos hv
  have e2:valO o=1:=if_neg hv
  rw [e]
  simp only [rndOR_vc,vcU,rfU,List.length_map]
  simp [e2,ovl0]
 have hn:=hv.1
 obtain ⟨hnow,hlate⟩:=arr_mem (P:=sigIn (rtrs o.sp)) (f:=f) hv.2
 have hlen:=arr_len (l:=o.fl) (f:=f)
 have e:roundO o f=(roundN o (arr o.fl f).1 (arr o.fl f).2,0):=if_neg (not_not_intro hv)
 rw [e]
 have hA:okArr o.fl f:=⟨by omega,h2,fun x hx=>sig_srcs (hv.2 x hx).1⟩
 refine ⟨fun t=>∃k:Nat,t=((k:Int),(((arr o.fl f).1.take k).foldl deliver ((o.sp,o.ls),(arr o.fl f).2)).1.1,(((arr o.fl f).1.take k).foldl deliver ((o.sp,o.ls),(arr o.fl f).2)).2,(((arr o.fl f).1.take k).foldl deliver ((o.sp,o.ls),(arr o.fl f).2)).1.2)∧k≤(arr o.fl f).1.length,
  fun t=>(arr o.fl f).1.length-t.1.toNat,
  fun t0 t=>∃j:Nat,t=((j:Int),t0.2.2.1++(t0.2.1.take j).flatMap sends1)∧j≤t0.2.1.length,fun t0 t=>t0.2.1.length-t.1.toNat,
  fun t0 t1 x t=>∃i:Nat,t=((i:Int),t1.2++(x.peers.take i).flatMap fun p=>(send x p.router).1)∧i≤x.peers.length,fun t0 t1 x t=>x.peers.length-t.1.toNat,?_⟩
 simp only [rndOR_vc,vcU,rfU,List.length_map]
 generalize (arr o.fl f).1=now at *
 generalize (arr o.fl f).2=late at *
 have hLo:=hn.lens
 refine ⟨fun q=>by rw [valO_z.mpr hv] at q;simp at q,fun _=>⟨⟨by omega,by omega,by omega⟩,hA,⟨0,rfl,by omega⟩,?_⟩⟩
 rintro _ ⟨k,rfl,hk⟩
 have d:=delivers_ok (l:=now.take k) (s:=((o.sp,o.ls),late)) hn fun x hx=>hnow x (List.mem_of_mem_take hx)
 have dl:=delivers_len (l:=now.take k) (s:=((o.sp,o.ls),late))
 have hst:∀x,now[k]?=some x→(now.take (k+1)).foldl deliver ((o.sp,o.ls),late)=deliver ((now.take k).foldl deliver ((o.sp,o.ls),late)) x:=fun x hx=>by rw [take_succ hx,List.foldl_append];rfl
 have hend:k=now.length→roundN o now late=⟨((now.take k).foldl deliver ((o.sp,o.ls),late)).1.1,((now.take k).foldl deliver ((o.sp,o.ls),late)).1.2,((now.take k).foldl deliver ((o.sp,o.ls),late)).2++sends ((now.take k).foldl deliver ((o.sp,o.ls),late)).1.1⟩:=fun e=>by rw [e,List.take_length];rfl
 generalize (now.take k).foldl deliver ((o.sp,o.ls),late)=s at *
 obtain ⟨⟨sp,ls⟩,out⟩:=s
 have dn:=d.net
 simp only at dn
 obtain ⟨n1,n2⟩:=dn.lens
 rw [List.length_take] at dl
 simp only [Int.toNat_natCast] at dl ⊢
 refine ⟨fun a1=>⟨by simp;omega,by omega,fun x hx=>?_⟩,fun a1=>⟨⟨0,by simp,by omega⟩,?_⟩⟩
 ·have e1:=hst x hx
  have hxi:=(hnow x (mem_of_get hx)).2.2
  obtain ⟨p1,p2,p3,p4⟩:=dn.pos hxi
  rw [W_succ (n:=now.length) (by omega) (by omega),idx_in hv hxi,posS_R hn dn]
  simp only [Int.toNat_natCast]
  have fin:∀a b c,deliver ((sp,ls),out) x=((a,c),b)→(∃k_1:Nat,(((k+1:Nat):Int),a,b,c)=((k_1:Int),((now.take k_1).foldl deliver ((o.sp,o.ls),late)).1.1,((now.take k_1).foldl deliver ((o.sp,o.ls),late)).2,((now.take k_1).foldl deliver ((o.sp,o.ls),late)).1.2)∧k_1≤now.length)∧now.length-((k+1:Nat):Int).toNat<now.length-k:=fun a b c e =>
   ⟨⟨k+1,by rw [e1,e],by omega⟩,by omega⟩
  refine ⟨fun c1=>⟨by simp;omega,by omega,fun y hy=>⟨fun c2=>⟨by simp;omega,by omega,fun z hz=>fin _ _ _ ?_⟩,fun c2=>fin _ _ _ ?_⟩⟩,fun c1=>⟨by simp;omega,by omega,fun y hy=>⟨fun c2=>⟨by simp;omega,by omega,fun z hz=>⟨by omega,fin _ _ _ ?_⟩⟩,fun c2=>fin _ _ _ ?_⟩⟩⟩
  ·cases p3.symm.trans hy
   unfold deliver;rw [if_pos (by simpa using c1),if_pos (by simpa using c2)]
  ·cases p3.symm.trans hy
   unfold deliver;rw [if_pos (by simpa using c1),if_neg (by simpa using c2)]
  ·cases p4.symm.trans hy
   unfold deliver;rw [if_neg (by simpa using c1),if_pos (by simpa using c2)]
  ·cases p4.symm.trans hy
   unfold deliver;rw [if_neg (by simpa using c1),if_neg (by simpa using c2)]
 ·have he:=hend (by omega)
  rintro _ ⟨j,rfl,hj⟩
  have hsj:((sp.take j).flatMap sends1).length≤14400:=by
   have:((sp.take j).flatMap sends1).length≤(sp.take j).length * 1200:=flat_len fun s hs=>by
    have:(sends1 s).length≤s.peers.length * 100:=flat_len fun p _=>send_le
    have:=(dn.spo s (List.mem_of_mem_take hs)).1.2.2.2.2.1
    omega
   rw [List.length_take] at this
   omega
  simp only [Int.toNat_natCast]
  refine ⟨fun b1=>⟨by simp;omega,by omega,fun x hx=>⟨⟨0,by simp,by omega⟩,?_⟩⟩,fun b1=>?_⟩
  ·have hxp:=(dn.spo x (mem_of_get hx)).1.2.2.2.2.1
   rintro _ ⟨i,rfl,hi⟩
   have hpi:((x.peers.take i).flatMap fun p=>(send x p.router).1).length≤1200:=by
    have:((x.peers.take i).flatMap fun p=>(send x p.router).1).length≤(x.peers.take i).length * 100:=flat_len fun p _=>send_le
    rw [List.length_take] at this
    omega
   simp only [Int.toNat_natCast]
   refine ⟨fun c1=>⟨by omega,by omega,fun p hp=>⟨?_,⟨i+1,?_,by omega⟩,?_⟩⟩,fun c1=>⟨⟨j+1,?_,by omega⟩,?_⟩⟩
   ·have:=send_le (s:=x) (to:=p.router)
    simp only [List.length_append];omega
   ·rw [W_succ (n:=x.peers.length) (by omega) (by omega),flat_take hp];simp
   ·rw [W_succ (n:=x.peers.length) (by omega) (by omega)];omega
   ·have ei:i=x.peers.length:=by omega
    rw [W_succ (n:=sp.length) (by omega) (by omega),flat_take hx,ei,List.take_length]
    simp [sends1]
   ·rw [W_succ (n:=sp.length) (by omega) (by omega)];omega
  ·have ej:j=sp.length:=by omega
   rw [ej,List.take_length,he]
   rfl
def rndOR_c(o:Ovl)(faults:(List Fau))(h:okRnd o faults):PC Tryz.prog:=⟨22,[(.a [(.s 5),(.s 3),(.s 10)]),(.s 2)],[.agg [.sl 5 (o.sp.map Spk.v) false,.sl 3 (o.ls.map Lsn.v) false,.sl 10 (o.fl.map Sig.v) false],.sl 2 (faults.map Fau.v) false],rndOR_e (roundO o faults),PSpec.of_ok fun ok=>(rndOR_p o faults h ok).elim fun I0 h=>h.elim fun m0 h=>h.elim fun I1 h=>h.elim fun m1 h=>h.elim fun I2 h=>h.elim fun m2 h=>mxP_of (sh:=(.a [(.a [(.s 5),(.s 3),(.s 10)]),.k])) (enc:=rndOR_e) (a:=((.callP (valOR_c o)
 (.br 128 (.ret ((⟨[],[],[]⟩:Ovl),valO o))
 (.req 144 (o.sp.length≤1000000∧o.ls.length≤1000000∧o.fl.length≤1000000) fun h1 =>
 (.callH [] (copR_h o h1)
 (.req 240 (okArr o.fl faults) fun h2 =>
 (.callH [] (arrR_h o.fl faults h2)
 (.loop 0 (rndOR_n0 o faults) (I0) (m0) ((0,o.sp,(arr o.fl faults).2,o.ls):Int×(List Spk)×(List Sig)×(List Lsn)) [0,16,160,144,145,241,240] fun (t0:Int×(List Spk)×(List Sig)×(List Lsn)) =>
 (.br 23 (.el 39 Sig.v ((arr o.fl faults).1) fun x3 =>
 (.callP (idxSF_c o x3.dst)
 (.br 215 (.el 279 Spk.v t0.2.1 fun x4 =>
 (.callP (ackR_c x4 x3)
 (.br 455 (.st 535 Spk.v t0.2.1 (fun y5=>((ack x4 x3).1)) fun y5 =>
 (.back 0 ((W (t0.1+1),t0.2.1.set ((idxS o.sp x3.dst).toNat) ((ack x4 x3).1),t0.2.2.1,t0.2.2.2):Int×(List Spk)×(List Sig)×(List Lsn)) [0,1,2,3,4,5,6]))
 (.back 0 ((W (t0.1+1),t0.2.1,t0.2.2.1,t0.2.2.2):Int×(List Spk)×(List Sig)×(List Lsn)) [0,1,2,3,4,5,6]))))
 (.el 279 Lsn.v t0.2.2.2 fun x6 =>
 (.callP (hearR_c x6 x3)
 (.br 503 (.st 583 Lsn.v t0.2.2.2 (fun y7=>((hear x6 x3).1.1)) fun y7 =>
 (.app 663 Sig.v t0.2.2.1 [(hear x6 x3).1.2]
 (.back 0 ((W (t0.1+1),t0.2.1,t0.2.2.1++[(hear x6 x3).1.2],t0.2.2.2.set ((idxS o.sp x3.dst).toNat) ((hear x6 x3).1.1)):Int×(List Spk)×(List Sig)×(List Lsn)) [0,1,2,3,4,663,6])))
 (.back 0 ((W (t0.1+1),t0.2.1,t0.2.2.1,t0.2.2.2):Int×(List Spk)×(List Sig)×(List Lsn)) [0,1,2,3,4,5,6])))))))
 (.loop 1 (rndOR_n1 o faults t0) (I1 t0) (m1 t0) ((0,t0.2.2.1):Int×(List Sig)) [1,2,3,4,5] fun (t1:Int×(List Sig)) =>
 (.br 21 (.el 37 Spk.v t0.2.1 fun x8 =>
 (.loop 2 (rndOR_n2 o faults t0 t1 x8) (I2 t0 t1 x8) (m2 t0 t1 x8) ((0,t1.2):Int×(List Sig)) [0,1,2,3,4,53] fun (t2:Int×(List Sig)) =>
 (.br 22 (.el 22 Per.v x8.peers fun x9 =>
 (.callP (sendR_c x8 x9.router)
 (.app 278 Sig.v t2.2 ((send x8 x9.router).1)
 (.back 2 ((W (t2.1+1),t2.2++((send x8 x9.router).1)):Int×(List Sig)) [0,1,2,3,278,5]))))
 (.back 1 ((W (t1.1+1),t2.2):Int×(List Sig)) [0,1,2,3,4]))))
 (.cmdL (.frzE 4 (t1.2.map Sig.v) (pureBL_map (fun _=>rfl) t1.2)) (.cmdL (.frzE 3 (t0.2.2.2.map Lsn.v) (pureBL_map (fun _=>rfl) t0.2.2.2)) (.cmdL (.frzE 2 (t0.2.1.map Spk.v) (pureBL_map (fun _=>rfl) t0.2.1)) (.ret ((⟨t0.2.1,t0.2.2.2,t1.2⟩:Ovl),0))))))))))))))):An Tryz.prog rndOR_s (Ovl×Int))) h (by kernel_rfl) (AV.pureB_ok rfl),fnB_ok (by kernel_rfl)⟩
end Go.Proofs.YtgnogboljobocaaGreatDoor
