/- Texts joined: G36 U17 G40. -/
import Derived.Test.YtglfecmdoekabaaGreatDoorQA8
namespace Go.Proofs.YtglfecmdoekabaaGreatDoor
open Go Go.Am
set_option linter.unusedVariables false
set_option linter.unusedSimpArgs false
theorem pos_inj {o:Ovl} (h:ovlOk o) {a b:Int} (ha:a ∈ rtrs o.sp) (hb:b ∈ rtrs o.sp):posS o.sp a = posS o.sp b ↔ a = b:=by
  refine ⟨fun e=>?_,fun e=>by rw [e]⟩
  have h1:=(h.1.s ha).2
  have h2:=(h.1.s hb).2
  unfold atS at h1 h2
  rw [e] at h1
  exact h1.symm.trans h2
def knwOv_a (o:Ovl) (at_:Int) (of_:Int):Prop:=okL [.agg [.sl 5 (o.sp.map Spk.v) false,.sl 3 (o.ls.map Lsn.v) false,.sl 10 (o.fl.map Sig.v) false],.int at_,.int of_]
def knwOv_n0 (o:Ovl) (at_:Int) (of_:Int) (t0:Bool):NF:=⟨[(2,.k,.int of_),(3,.k,.ref 0 0),(8,.k,.int (posS o.sp at_:Int)),(10,.k,.int (posS o.sp of_:Int)),(27,.k,.bool t0)],[.box (.agg [.sl 5 (o.sp.map Spk.v) false,.sl 3 (o.ls.map Lsn.v) false,.sl 10 (o.fl.map Sig.v) false])]⟩
def knwOv_s:Nat → Type
  | 0=>Bool
  | _=>Unit
def knwOv_e (r:(List Wnt) × Int):AV:=.tup [.sl 3 (r.1.map Wnt.v) false,.int r.2]
def knwOv_vc (o:Ovl) (at_:Int) (of_:Int) (I0:Bool → Prop) (r0:(List Wnt) × Int):Prop:=
 Cl (validO_c o)
 (br (!(decide (ovlOk o)))
 (Rf (knwOv_e ([],1)) (([],1) = r0))
 (∃ h1:o.sp.Pairwise fun x y=>x.router < y.router,
 ∃ h2:o.sp.length ≤ 1000000,
 Cl (findS_c o at_ h1 h2)
 (∃ h3:o.sp.Pairwise fun x y=>x.router < y.router,
 ∃ h4:o.sp.length ≤ 1000000,
 Cl (findS_c o of_ h3 h4)
 ((br (!(decide (hitS o.sp at_)))
 (Nf (knwOv_n0 o at_ of_ (true)) [0] (I0 ((true):Bool)))
 (Nf (knwOv_n0 o at_ of_ (!(decide (hitS o.sp of_)))) [0] (I0 ((!(decide (hitS o.sp of_))):Bool)))) ∧ ∀ t0:Bool,I0 t0 →
 br t0
 (Rf (knwOv_e ([],4)) (([],4) = r0))
 (br ((posS o.sp at_:Int) == (posS o.sp of_:Int))
 (Rf (o.sp.map Spk.v) (ck (decide (0 ≤ (posS o.sp at_:Int))) (ck (decide ((posS o.sp at_:Int) < (o.sp.length:Int)))
 (∀ x5,o.sp[(posS o.sp at_:Int).toNat]? = some x5 →
 Cl (wantsF_c x5.items)
 (Rf (knwOv_e (wantsOf x5.items,0)) ((wantsOf x5.items,0) = r0))))))
 (Rf (o.ls.map Lsn.v) (ck (decide (0 ≤ (posS o.sp at_:Int))) (ck (decide ((posS o.sp at_:Int) < (o.ls.length:Int)))
 (∀ x6,o.ls[(posS o.sp at_:Int).toNat]? = some x6 →
 Cl (knownF_c x6 of_)
 (Rf (knwOv_e (knownW x6 of_,0)) ((knownW x6 of_,0) = r0)))))))))))
theorem knwOv_eq (o:Ovl) (at_:Int) (of_:Int) (I0:Bool → Prop) (r0:(List Wnt) × Int):mxP Tryz.prog 44 [.agg [.sl 5 (o.sp.map Spk.v) false,.sl 3 (o.ls.map Lsn.v) false,.sl 10 (o.fl.map Sig.v) false],.int at_,.int of_] (.a [(.s 3),.k]) knwOv_e ((.callP (validO_c o)
 (.br 96 (.ret ([],1))
 (.req 128 (o.sp.Pairwise fun x y=>x.router < y.router) fun h1 =>
 (.req 128 (o.sp.length ≤ 1000000) fun h2 =>
 (.callP (findS_c o at_ h1 h2)
 (.req 256 (o.sp.Pairwise fun x y=>x.router < y.router) fun h3 =>
 (.req 256 (o.sp.length ≤ 1000000) fun h4 =>
 (.callP (findS_c o of_ h3 h4)
 (.pass (.join 0 (knwOv_n0 o at_ of_) (fun t0=>I0 t0) (.br 400 (.back 0 ((true):Bool) [0])
 (.back 0 ((!(decide (hitS o.sp of_))):Bool) [0])) fun (t0:Bool) =>
 (.br 1 (.ret ([],4))
 (.br 65 (.el 113 Spk.v o.sp fun x5 =>
 (.callP (wantsF_c x5.items)
 (.ret (wantsOf x5.items,0))))
 (.el 113 Lsn.v o.ls fun x6 =>
 (.callP (knownF_c x6 of_)
 (.ret (knownW x6 of_,0)))))))))))))))):An Tryz.prog knwOv_s ((List Wnt) × Int)) r0 = knwOv_vc o at_ of_ I0 r0:=by kernel_rfl
theorem knwOv_ok (o:Ovl) (at_:Int) (of_:Int) (I0:Bool → Prop) (r0:(List Wnt) × Int) (h:knwOv_vc o at_ of_ I0 r0):PSpec Tryz.prog 44 [.agg [.sl 5 (o.sp.map Spk.v) false,.sl 3 (o.ls.map Lsn.v) false,.sl 10 (o.fl.map Sig.v) false],.int at_,.int of_] (knwOv_e r0):=by
  have e:=knwOv_eq o at_ of_ I0 r0
  rw [← e] at h
  exact mxP_ok (enc:=knwOv_e) h (AV.pureB_ok rfl)
theorem knwOv_p (o:Ovl) (a b:Int) (ok:knwOv_a o a b):∃ I0,knwOv_vc o a b I0 (knownV o a b):=by
  refine ⟨fun t=>t = decide (a ∉ rtrs o.sp ∨ b ∉ rtrs o.sp),?_⟩
  simp only [knwOv_vc,vcU,rfU,List.length_map]
  have hV:knownV o a b = if ¬ ovlOk o then ([],1) else if a ∉ rtrs o.sp ∨ b ∉ rtrs o.sp then ([],4) else if a = b then (wantsOf (atS o.sp b).items,0) else (knownW (atL o.sp o.ls a) b,0):=rfl
  rw [hV]
  by_cases hv:ovlOk o
  case neg=>simp [hv]
  have hL:=hv.1.lens
  rw [if_neg (not_not_intro hv)]
  refine ⟨fun q=>absurd hv (by simpa using q),fun _=>⟨hv.1.asc,by omega,hv.1.asc,by omega,⟨fun c=>?_,fun c=>?_⟩,?_⟩⟩
  · have c:a ∉ rtrs o.sp:=by rw [← hitS_iff hv]; simpa using c
    simp [c]
  · have c:a ∈ rtrs o.sp:=by rw [← hitS_iff hv]; simpa using c
    have e2:decide (hitS o.sp b) = decide (b ∈ rtrs o.sp):=decide_eq_decide.mpr (hitS_iff hv b)
    rw [e2]; simp [c]
  · rintro _ rfl
    refine ⟨fun c=>?_,fun c=>?_⟩
    · rw [if_pos (of_decide_eq_true c)]
    have c:=of_decide_eq_false c
    rw [if_neg c]
    have ha:a ∈ rtrs o.sp:=by simp only [not_or,Classical.not_not] at c; exact c.1
    have hb:b ∈ rtrs o.sp:=by simp only [not_or,Classical.not_not] at c; exact c.2
    obtain ⟨p1,p2,p3,p4⟩:=hv.1.pos ha
    simp only [Int.toNat_natCast]
    refine ⟨fun q=>⟨by omega,by omega,fun x hx=>?_⟩,fun q=>⟨by omega,by omega,fun x hx=>?_⟩⟩
    · have q:a = b:=(pos_inj hv ha hb).mp (by have:=eq_of_beq q; omega)
      cases p3.symm.trans hx
      rw [if_pos q,q]
    · have q:¬ a = b:=fun e=>by rw [e] at q; simp at q
      cases p4.symm.trans hx
      rw [if_neg q]
def knwOv_c (o:Ovl) (at_:Int) (of_:Int):PC Tryz.prog:=⟨44,[(.a [(.s 5),(.s 3),(.s 10)]),.k,.k],[.agg [.sl 5 (o.sp.map Spk.v) false,.sl 3 (o.ls.map Lsn.v) false,.sl 10 (o.fl.map Sig.v) false],.int at_,.int of_],knwOv_e (knownV o at_ of_),PSpec.of_ok fun ok=>(knwOv_p o at_ of_ ok).elim fun I0 h=>knwOv_ok o at_ of_ I0 _ h,fnB_ok (by kernel_rfl)⟩
def setAt (o:Ovl) (s:Spk) (p:Per):Prop:=agree s (atL o.sp o.ls p.router) ∧ p.epoch = (atL o.sp o.ls p.router).epoch ∧ p.acked = s.last
theorem NetOk.at {R:List Int} {sp:List Spk} {ls:List Lsn} (h:NetOk R sp ls) {s:Spk} (hs:s ∈ sp):atS sp s.router = s:=atK_eq (key:=Spk.router) h.asc hs
theorem netOf_iff (l:List Int):ovlOk (netOf l) ↔ okR l:=by
  have er:rtrs (netOf l).sp = l:=by
    show (l.map (spkN l)).map Spk.router = l
    rw [List.map_map]
    exact List.map_id'' (fun x=>rfl) l
  constructor
  · rintro ⟨h,_⟩
    rw [er] at h
    refine ⟨h.len,fun r hr=>?_,h.ascR⟩
    have:=(h.spo (spkN l r) (List.mem_map.mpr ⟨r,hr,rfl⟩)).1.1
    exact this
  · intro h
    refine ⟨?_,by simp [netOf]⟩
    rw [er]; exact netOf_net h
theorem new_N (l:List Int) (r:Int):new r 1 (others l r) = if spkOk (spkN l r) then (spkN l r,0) else (spk0,1):=rfl
def newOv_a (list:(List Int)):Prop:=okL [.sl 1 (list.map AV.int) false]
def newOv_n0 (list:(List Int)) (t0:Int × (List Lsn) × (List Spk)):NF:=⟨[(0,.k,.sl 1 (list.map AV.int) false),(2,.k,.ref 0 0),(4,.k,.ref 1 0),(9,.k,.sl 1 (list.map AV.int) false),(10,.k,.int ((list.map AV.int).length:Int)),(11,.k,.int t0.1)],[.box (.agg [.sl 0 [] true,.sl 0 [] true,.sl 0 [] true]),.box (.agg [.vec 2,.vec 3,.sl 0 [] true]),.vec 5 (t0.2.2.map Spk.v) (pureBL_map (fun _=>rfl) t0.2.2),.vec 3 (t0.2.1.map Lsn.v) (pureBL_map (fun _=>rfl) t0.2.1)]⟩
def newOv_s:Nat → Type
  | 0=>Int × (List Lsn) × (List Spk)
  | _=>Unit
def newOv_e (r:Ovl × Int):AV:=.tup [Ovl.v r.1,.int r.2]
def newOv_vc (list:(List Int)) (I0:(Int × (List Lsn) × (List Spk)) → Prop) (m0:(Int × (List Lsn) × (List Spk)) → Nat) (r0:Ovl × Int):Prop:=
 Nf (newOv_n0 list (0,[],[])) [0,32,96,97] (I0 (0,[],[])) ∧ ∀ t0:Int × (List Lsn) × (List Spk),I0 t0 →
 br (decide (t0.1 < ((list.map AV.int).length:Int)))
 (Rf (list.map AV.int) (ck (decide (0 ≤ t0.1)) (ck (decide (t0.1 < (list.length:Int)))
 (∀ x1,list[t0.1.toNat]? = some x1 →
 ∃ h2:list.length ≤ 1000000,
 Cl (othersF_c list x1 h2)
 (∃ h3:(others list x1).length ≤ 1000000,
 Cl (new_c x1 1 (others list x1) h3)
 (br (((new x1 1 (others list x1)).2) != 0)
 (Rf (newOv_e ((⟨[],[],[]⟩:Ovl),1)) (((⟨[],[],[]⟩:Ovl),1) = r0))
 (Rf (α:=List AV) (t0.2.2.map Spk.v) (Rf (α:=List AV) [.agg [.int (((new x1 1 (others list x1)).1).router),.int (((new x1 1 (others list x1)).1).epoch),.int (((new x1 1 (others list x1)).1).last),.sl 4 ((((new x1 1 (others list x1)).1).items).map Itm.v) false,.sl 3 ((((new x1 1 (others list x1)).1).peers).map Per.v) false]]
 (ck (decide (t0.2.2.length + 1 ≤ 1000000))
 (Idt (t0.2.1.map Lsn.v) (Rf (α:=List AV) [.agg [.int x1,.int 1,.sl 0 [] true]]
 (ck (decide ((t0.2.1.map Lsn.v).length + 1 ≤ 1000000))
 ((FitE (.a [.k,.k,(.s 4)]) Lsn.v t0.2.1 [(⟨x1,1,[]⟩:Lsn)] [.agg [.int x1,.int 1,.sl 0 [] true]] ∧
 (Nf (newOv_n0 list (W (t0.1 + 1),t0.2.1 ++ [(⟨x1,1,[]⟩:Lsn)],t0.2.2 ++ [(new x1 1 (others list x1)).1])) [0,1,340,436] (I0 (W (t0.1 + 1),t0.2.1 ++ [(⟨x1,1,[]⟩:Lsn)],t0.2.2 ++ [(new x1 1 (others list x1)).1]) ∧ m0 (W (t0.1 + 1),t0.2.1 ++ [(⟨x1,1,[]⟩:Lsn)],t0.2.2 ++ [(new x1 1 (others list x1)).1]) < m0 t0))))))))))))))))
 (Cl (validO_c (⟨t0.2.2,t0.2.1,[]⟩:Ovl))
 (ck (pureBLs [(t0.2.2.map Spk.v),(t0.2.1.map Lsn.v)])
 (br (!(decide (ovlOk (⟨t0.2.2,t0.2.1,[]⟩:Ovl))))
 (Rf (newOv_e ((⟨[],[],[]⟩:Ovl),1)) (((⟨[],[],[]⟩:Ovl),1) = r0))
 (Rf (t0.2.1.map Lsn.v) (Rf (t0.2.2.map Spk.v) (Rf (newOv_e ((⟨t0.2.2,t0.2.1,[]⟩:Ovl),0)) (((⟨t0.2.2,t0.2.1,[]⟩:Ovl),0) = r0)))))))
theorem newOv_eq (list:(List Int)) (I0:(Int × (List Lsn) × (List Spk)) → Prop) (m0:(Int × (List Lsn) × (List Spk)) → Nat) (r0:Ovl × Int):mxP Tryz.prog 49 [.sl 1 (list.map AV.int) false] (.a [(.a [(.s 5),(.s 3),(.s 10)]),.k]) newOv_e ((.cmdL (.nilB 32 0 5) (.cmdL (.nilB 32 1 3) (.loop 0 (newOv_n0 list) (I0) (m0) ((0,[],[]):Int × (List Lsn) × (List Spk)) [0,32,96,97] fun (t0:Int × (List Lsn) × (List Spk)) =>
 (.br 20 (.el 20 AV.int list fun x1 =>
 (.req 116 (list.length ≤ 1000000) fun h2 =>
 (.callP (othersF_c list x1 h2)
 (.req 132 ((others list x1).length ≤ 1000000) fun h3 =>
 (.callP (new_c x1 1 (others list x1) h3)
 (.br 276 (.ret ((⟨[],[],[]⟩:Ovl),1))
 (.app 340 Spk.v t0.2.2 [(new x1 1 (others list x1)).1]
 (.app 436 (fun y:AV=>y) (t0.2.1.map Lsn.v) [.agg [.int x1,.int 1,.sl 0 [] true]]
 (.cmd (.wkV 436 (.a [.k,.k,(.s 4)]) Lsn.v (t0.2.1 ++ [(⟨x1,1,[]⟩:Lsn)])) (.back 0 ((W (t0.1 + 1),t0.2.1 ++ [(⟨x1,1,[]⟩:Lsn)],t0.2.2 ++ [(new x1 1 (others list x1)).1]):Int × (List Lsn) × (List Spk)) [0,1,340,436]))))))))))
 (.callP (validO_c (⟨t0.2.2,t0.2.1,[]⟩:Ovl))
 (.br 68 (.ret ((⟨[],[],[]⟩:Ovl),1))
 (.cmdL (.frzE 3 (t0.2.1.map Lsn.v) (pureBL_map (fun _=>rfl) t0.2.1)) (.cmdL (.frzE 2 (t0.2.2.map Spk.v) (pureBL_map (fun _=>rfl) t0.2.2)) (.ret ((⟨t0.2.2,t0.2.1,[]⟩:Ovl),0)))))))))):An Tryz.prog newOv_s (Ovl × Int)) r0 = newOv_vc list I0 m0 r0:=by kernel_rfl
theorem newOv_ok (list:(List Int)) (I0:(Int × (List Lsn) × (List Spk)) → Prop) (m0:(Int × (List Lsn) × (List Spk)) → Nat) (r0:Ovl × Int) (h:newOv_vc list I0 m0 r0):PSpec Tryz.prog 49 [.sl 1 (list.map AV.int) false] (newOv_e r0):=by
  have e:=newOv_eq list I0 m0 r0
  rw [← e] at h
  exact mxP_ok (enc:=newOv_e) h (AV.pureB_ok rfl)
theorem newOv_p (l:List Int) (h:l.length ≤ 1000) (ok:newOv_a l):∃ I m,newOv_vc l I m (newN l):=by
  refine ⟨fun t=>∃ k:Nat,t = ((k:Int),(l.take k).map lsnN,(l.take k).map (spkN l)) ∧ k ≤ l.length,fun t=>l.length - t.1.toNat,?_⟩
  simp only [newOv_vc,vcU,rfU,List.length_map]
  refine ⟨⟨0,rfl,by omega⟩,?_⟩
  rintro _ ⟨k,rfl,hk⟩
  simp only [Int.toNat_natCast]
  refine ⟨fun a1=>⟨by omega,by omega,fun x hx=>⟨by omega,by have:=List.length_filter_le (fun y=>decide (y ≠ x)) l; unfold others; omega,?_⟩⟩,fun a1=>?_⟩
  · rw [new_N]
    refine ⟨fun q=>?_,fun q=>?_⟩
    · have q:¬ spkOk (spkN l x):=fun e=>by rw [if_pos e] at q; simp at q
      have:¬ okR l:=fun e=>q (spkN_ok e (mem_of_get hx)).1
      rw [newN,if_neg this]
      simp [q,ovl0]
    · have q:spkOk (spkN l x):=by
        by_cases e:spkOk (spkN l x)
        · exact e
        · rw [if_neg e] at q; simp at q
      rw [if_pos q,W_succ (n:=l.length) (by omega) (by omega)]
      refine ⟨by simp; omega,by simp; omega,fitE_one (fun _=>rfl) rfl,⟨k + 1,?_,by omega⟩,by omega⟩
      rw [take_succ hx,List.map_append,List.map_append]; rfl
  · rw [List.take_of_length_le (by omega)]
    have e:(⟨l.map (spkN l),l.map lsnN,[]⟩:Ovl) = netOf l:=rfl
    rw [e]
    have hN:newN l = if okR l then (netOf l,0) else (ovl0,1):=rfl
    rw [hN]
    simp only [netOf_iff]
    refine ⟨by generalize l.map (spkN l) = A; generalize l.map lsnN = B; simp [pureBLs,pureBL_map (v:=Spk.v) (fun _=>rfl),pureBL_map (v:=Lsn.v) (fun _=>rfl)],fun q=>?_,fun q=>?_⟩
    · rw [if_neg (by simpa using q)]; rfl
    · rw [if_pos (by simpa using q)]
def newOv_c (list:(List Int)) (h:list.length ≤ 1000):PC Tryz.prog:=⟨49,[(.s 1)],[.sl 1 (list.map AV.int) false],newOv_e (newN list),PSpec.of_ok fun ok=>(newOv_p list h ok).elim fun I0 h=>h.elim fun m0 h=>newOv_ok list I0 m0 _ h,fnB_ok (by kernel_rfl)⟩
end Go.Proofs.YtglfecmdoekabaaGreatDoor

namespace Go.Proofs.YtglfecmdoekabaaGreatDoor
open Go Go.Am
set_option linter.unusedVariables false
set_option linter.unusedSimpArgs false
theorem NetOk.nth {R:List Int} {sp:List Spk} {ls:List Lsn} (h:NetOk R sp ls) {i:Nat} {r:Int} (hr:R[i]? = some r):sp[i]? = some (atS sp r) ∧ ls[i]? = some (atL sp ls r):=by
  have e1:=congrArg List.length h.spr
  have e2:=congrArg List.length h.lsr
  rw [List.length_map] at e1 e2
  obtain ⟨hi,e3⟩:=List.getElem?_eq_some_iff.mp hr
  have hk:sp[i].router = r:=by
    have:(sp.map Spk.router)[i]? = some r:=by rw [h.spr]; exact hr
    rw [List.getElem?_map,List.getElem?_eq_getElem (by omega)] at this
    simpa using this
  have hp:posS sp r = i:=posK_eq (key:=Spk.router) h.asc (by omega) hk
  refine ⟨?_,?_⟩
  · unfold atS; rw [hp,List.getD_eq_getElem?_getD,List.getElem?_eq_getElem (by omega)]; rfl
  · unfold atL; rw [hp,List.getD_eq_getElem?_getD,List.getElem?_eq_getElem (by omega)]; rfl
structure ALI (two all:Ovl) (k:Int):Prop where
  l2:∃ lw,LW [2,3] two k lw
  l4:∃ lw,LW [2,3,5,8] all k lw
  al:Alike [2,3] two all
  f2:(two.fl.length:Int) ≤ k * 14400
  f4:(all.fl.length:Int) ≤ k * 14400
theorem ALI.new:ALI (netOf [2,3]) (netOf [2,3,5,8]) 0:=by
  have h2:okR [2,3]:=by decide
  have h4:okR [2,3,5,8]:=by decide
  exact ⟨⟨_,LW.new h2⟩,⟨_,LW.new h4⟩,Alike.new h2 h4 (by simp) (by simp),by simp [netOf],by simp [netOf]⟩
section
variable {two all : Ovl} {k r : Int} {w : List Wnt}
theorem ALI.sub (a:Int) (ha:a ∈ ([2,3]:List Int)):a ∈ ([2,3,5,8]:List Int):=by
  simp at ha ⊢; omega
theorem ALI.change (h:ALI two all k) (hk:0 ≤ k ∧ k ≤ 1000) (hr:r ∈ ([2,3,5,8]:List Int)) (hw:WOk 7 w) :
    (changeV all r w).2 = 0 ∧ (r < 5 → (changeV two r w).2 = 0 ∧ ALI (changeV two r w).1 (changeV all r w).1 (k + 1)) ∧ (¬ r < 5 → ALI two (changeV all r w).1 (k + 1)):=by
  obtain ⟨⟨lw,h2⟩,⟨lw',h4⟩,hal,f2,f4⟩:=h
  obtain ⟨z4,n4⟩:=h4.change hr hw hk
  obtain ⟨_,d4⟩:=changeV_ok h4.oi z4
  refine ⟨z4,fun h5=>?_,fun h5=>?_⟩
  · have hr2:r ∈ ([2,3]:List Int):=by simp at hr ⊢; omega
    obtain ⟨z2,n2⟩:=h2.change hr2 hw hk
    obtain ⟨_,d2⟩:=changeV_ok h2.oi z2
    exact ⟨z2,⟨_,n2⟩,⟨_,n4⟩,hal.change (fun a ha=>ha) ALI.sub hr2 d2 d4,by rw [d2.fl]; omega,by rw [d4.fl]; omega⟩
  · have hr2:r ∉ ([2,3]:List Int):=by simp; omega
    exact ⟨⟨_,h2.more (by omega)⟩,⟨_,n4⟩,hal.trans (d4.out ALI.sub hr2),by omega,by rw [d4.fl]; omega⟩
theorem ALI.restart (h:ALI two all k) (hk:0 ≤ k ∧ k ≤ 1000) (hr:r ∈ ([2,3,5,8]:List Int)) (hw:WOk 7 w) :
    (restartV all r w).2 = 0 ∧ (r < 5 → (restartV two r w).2 = 0 ∧ ALI (restartV two r w).1 (restartV all r w).1 (k + 1)) ∧ (¬ r < 5 → ALI two (restartV all r w).1 (k + 1)):=by
  obtain ⟨⟨lw,h2⟩,⟨lw',h4⟩,hal,f2,f4⟩:=h
  obtain ⟨z4,n4⟩:=h4.restart hr hw hk
  obtain ⟨_,d4⟩:=restartV_ok h4.oi z4
  refine ⟨z4,fun h5=>?_,fun h5=>?_⟩
  · have hr2:r ∈ ([2,3]:List Int):=by simp at hr ⊢; omega
    obtain ⟨z2,n2⟩:=h2.restart hr2 hw hk
    obtain ⟨_,d2⟩:=restartV_ok h2.oi z2
    exact ⟨z2,⟨_,n2⟩,⟨_,n4⟩,hal.restart (fun a ha=>ha) ALI.sub hr2 d2 d4,by rw [d2.fl]; omega,by rw [d4.fl]; omega⟩
  · have hr2:r ∉ ([2,3]:List Int):=by simp; omega
    exact ⟨⟨_,h2.more (by omega)⟩,⟨_,n4⟩,hal.trans (d4.out ALI.sub hr2),by omega,by rw [d4.fl]; omega⟩
theorem ALI.round (h:ALI two all k) (hk:0 ≤ k):(roundO two []).2 = 0 ∧ (roundO all []).2 = 0 ∧ ALI (roundO two []).1 (roundO all []).1 (k + 1):=by
  obtain ⟨⟨lw,h2⟩,⟨lw',h4⟩,hal,f2,f4⟩:=h
  obtain ⟨z2,n2⟩:=h2.roundO []
  obtain ⟨z4,n4⟩:=h4.roundO []
  have e2:=(h2.oi.roundO []).2.len
  have e4:=(h4.oi.roundO []).2.len
  simp only [List.length_nil] at e2 e4
  refine ⟨z2,z4,⟨_,n2.more (by omega)⟩,⟨_,n4.more (by omega)⟩,?_,by omega,by omega⟩
  rw [h2.oi.roundO_nil,h4.oi.roundO_nil]
  exact hal.round0 (fun a ha=>ha) ALI.sub h2.oi h4.oi
structure PairOk (two all:Ovl) (i:Nat) (x y:Spk) (l m:Lsn):Prop where
  it:x.items = y.items
  la:x.last = y.last
  ep:x.epoch = y.epoch
  px:x.peers.length = 1
  py:0 < y.peers.length
  pp:∀ p q,x.peers[0]? = some p → y.peers[0]? = some q → p = q
  kn:knownW l (W (5 - x.router)) = knownW m (W (5 - x.router))
theorem ALI.pair (h:ALI two all k) {i:Nat} (hi:i < 2):∃ x y l m,two.sp[i]? = some x ∧ all.sp[i]? = some y ∧ two.ls[i]? = some l ∧ all.ls[i]? = some m ∧ PairOk two all i x y l m:=by
  obtain ⟨⟨lw,h2⟩,⟨lw',h4⟩,hal,f2,f4⟩:=h
  have key:∀ r q:Int,([2,3]:List Int)[i]? = some r → ([2,3,5,8]:List Int)[i]? = some r → r ∈ ([2,3]:List Int) → q ∈ ([2,3]:List Int) → r ≠ q → q = W (5 - r) →
      (([2,3]:List Int).filter fun y=>decide (y ≠ r)) = [q] → (([2,3,5,8]:List Int).filter fun y=>decide (y ≠ r)).head? = some q →
      ∃ x y l m,two.sp[i]? = some x ∧ all.sp[i]? = some y ∧ two.ls[i]? = some l ∧ all.ls[i]? = some m ∧ PairOk two all i x y l m:=by
    intro r q g1 g2 hr hq hrq hW e2 e4
    obtain ⟨a1,a2⟩:=h2.oi.net.nth g1
    obtain ⟨b1,b2⟩:=h4.oi.net.nth g2
    obtain ⟨s1,s2⟩:=h2.oi.net.s hr
    obtain ⟨s3,s4⟩:=h4.oi.net.s (ALI.sub r hr)
    have k2:=h2.oi.net.spo _ s1
    have k4:=h4.oi.net.spo _ s3
    have l2:=h2.oi.net.lso _ (h2.oi.net.l hr).1
    have l4:=h4.oi.net.lso _ (h4.oi.net.l (ALI.sub r hr)).1
    have p2:=head_pe (b:=q) k2 (by rw [s2,e2]; rfl)
    have p4:=head_pe (b:=q) k4 (by rw [s4]; exact e4)
    have hpe:=hal.s5 r hr q hq hrq
    unfold pe at hpe
    refine ⟨_,_,_,_,a1,b1,a2,b2,hal.s3 r hr,hal.s2 r hr,hal.s1 r hr,?_,?_,fun p u hp hu=>?_,?_⟩
    · have:=congrArg List.length k2.2
      rw [List.length_map,s2,e2] at this
      exact this
    · cases hc:(atS all.sp r).peers with
      | nil=>rw [hc] at p4; simp at p4
      | cons z zs=>simp
    · rw [← List.head?_eq_getElem?] at hp hu
      rw [p2] at hp; rw [p4] at hu
      cases hp; cases hu
      exact hpe
    · rw [s2,← hW,knownW_g l2.1,knownW_g l4.1]
      have:=hal.s6 q hq r hr (Ne.symm hrq)
      unfold he at this
      rw [this]
  rcases i with _ | _ | i
  · exact key 2 3 rfl rfl (by decide) (by decide) (by decide) (by rw [W_eq (by omega)]; rfl) (by decide) (by decide)
  · exact key 3 2 rfl rfl (by decide) (by decide) (by decide) (by rw [W_eq (by omega)]; rfl) (by decide) (by decide)
  · omega
end
end Go.Proofs.YtglfecmdoekabaaGreatDoor

namespace Go.Proofs.YtglfecmdoekabaaGreatDoor
open Go Go.Am
set_option linter.unusedVariables false
set_option linter.unusedSimpArgs false
def awakeO_a:Prop:=okL []
def awakeO_s:Nat → Type
  | _=>Unit
def awakeO_e (r:Bool):AV:=.bool r
def awakeO_vc (r0:Bool):Prop:=
 ∃ h1:[1,2].length ≤ 1000,
 Cl (newOv_c [1,2] h1)
 (∃ h2:((newN [1,2]).1).fl.length ≤ 1000000,
 Cl ((chgOv_c ((newN [1,2]).1) 2 [(⟨4,2,[]⟩:Wnt)] h2).wsh [.a [(.s 5),(.s 3),(.s 10)],.k,.v (.a [.k,.k,(.s 1)])])
 (∃ h3:okRnd ((changeV ((newN [1,2]).1) 2 [(⟨4,2,[]⟩:Wnt)]).1) [],
 Cl (rndOv_c ((changeV ((newN [1,2]).1) 2 [(⟨4,2,[]⟩:Wnt)]).1) [] h3)
 (Cl (knwOv_c ((roundO ((changeV ((newN [1,2]).1) 2 [(⟨4,2,[]⟩:Wnt)]).1) []).1) 1 2)
 (∃ h4:okRnd ((roundO ((changeV ((newN [1,2]).1) 2 [(⟨4,2,[]⟩:Wnt)]).1) []).1) [],
 Cl (rndOv_c ((roundO ((changeV ((newN [1,2]).1) 2 [(⟨4,2,[]⟩:Wnt)]).1) []).1) [] h4)
 (Cl (knwOv_c ((roundO ((roundO ((changeV ((newN [1,2]).1) 2 [(⟨4,2,[]⟩:Wnt)]).1) []).1) []).1) 1 2)
 (br (((newN [1,2]).2) == 0)
 (br (((changeV ((newN [1,2]).1) 2 [(⟨4,2,[]⟩:Wnt)]).2) == 0)
 (br (((roundO ((changeV ((newN [1,2]).1) 2 [(⟨4,2,[]⟩:Wnt)]).1) []).2) == 0)
 (br (((knownV ((roundO ((changeV ((newN [1,2]).1) 2 [(⟨4,2,[]⟩:Wnt)]).1) []).1) 1 2).2) == 0)
 (br (((roundO ((roundO ((changeV ((newN [1,2]).1) 2 [(⟨4,2,[]⟩:Wnt)]).1) []).1) []).2) == 0)
 (br (((knownV ((roundO ((roundO ((changeV ((newN [1,2]).1) 2 [(⟨4,2,[]⟩:Wnt)]).1) []).1) []).1) 1 2).2) == 0)
 (br (((((knownV ((roundO ((changeV ((newN [1,2]).1) 2 [(⟨4,2,[]⟩:Wnt)]).1) []).1) 1 2).1).map Wnt.v).length:Int) == 0)
 (Cl ((sameW_c ((knownV ((roundO ((roundO ((changeV ((newN [1,2]).1) 2 [(⟨4,2,[]⟩:Wnt)]).1) []).1) []).1) 1 2).1) [(⟨4,2,[]⟩:Wnt)]).wsh [.s 3,.v (.a [.k,.k,(.s 1)])])
 (br (decide (((knownV ((roundO ((roundO ((changeV ((newN [1,2]).1) 2 [(⟨4,2,[]⟩:Wnt)]).1) []).1) []).1) 1 2).1) = [(⟨4,2,[]⟩:Wnt)]))
 (Cl (quietO_c )
 (Rf (awakeO_e ((5:Int) == 5)) (((5:Int) == 5) = r0)))
 (Rf (awakeO_e (false)) ((false) = r0))))
 (Rf (awakeO_e (false)) ((false) = r0)))
 (Rf (awakeO_e (false)) ((false) = r0)))
 (Rf (awakeO_e (false)) ((false) = r0)))
 (Rf (awakeO_e (false)) ((false) = r0)))
 (Rf (awakeO_e (false)) ((false) = r0)))
 (Rf (awakeO_e (false)) ((false) = r0)))
 (Rf (awakeO_e (false)) ((false) = r0))))))))
theorem awakeO_eq (r0:Bool):mxP Tryz.prog 46 [] .k awakeO_e ((.req 96 ([1,2].length ≤ 1000) fun h1 =>
 (.callP (newOv_c [1,2] h1)
 (.req 240 (((newN [1,2]).1).fl.length ≤ 1000000) fun h2 =>
 (.callP ((chgOv_c ((newN [1,2]).1) 2 [(⟨4,2,[]⟩:Wnt)] h2).wsh [.a [(.s 5),(.s 3),(.s 10)],.k,.v (.a [.k,.k,(.s 1)])])
 (.req 352 (okRnd ((changeV ((newN [1,2]).1) 2 [(⟨4,2,[]⟩:Wnt)]).1) []) fun h3 =>
 (.callP (rndOv_c ((changeV ((newN [1,2]).1) 2 [(⟨4,2,[]⟩:Wnt)]).1) [] h3)
 (.callP (knwOv_c ((roundO ((changeV ((newN [1,2]).1) 2 [(⟨4,2,[]⟩:Wnt)]).1) []).1) 1 2)
 (.req 576 (okRnd ((roundO ((changeV ((newN [1,2]).1) 2 [(⟨4,2,[]⟩:Wnt)]).1) []).1) []) fun h4 =>
 (.callP (rndOv_c ((roundO ((changeV ((newN [1,2]).1) 2 [(⟨4,2,[]⟩:Wnt)]).1) []).1) [] h4)
 (.callP (knwOv_c ((roundO ((roundO ((changeV ((newN [1,2]).1) 2 [(⟨4,2,[]⟩:Wnt)]).1) []).1) []).1) 1 2)
 (.br 832 (.br 896 (.br 960 (.br 1024 (.br 1088 (.br 1152 (.br 1232 (.callP ((sameW_c ((knownV ((roundO ((roundO ((changeV ((newN [1,2]).1) 2 [(⟨4,2,[]⟩:Wnt)]).1) []).1) []).1) 1 2).1) [(⟨4,2,[]⟩:Wnt)]).wsh [.s 3,.v (.a [.k,.k,(.s 1)])])
 (.br 1312 (.callP (quietO_c )
 (.ret ((5:Int) == 5)))
 (.ret (false))))
 (.ret (false)))
 (.ret (false)))
 (.ret (false)))
 (.ret (false)))
 (.ret (false)))
 (.ret (false)))
 (.ret (false))))))))))))):An Tryz.prog awakeO_s (Bool)) r0 = awakeO_vc r0:=by kernel_rfl
theorem awakeO_ok (r0:Bool) (h:awakeO_vc r0):PSpec Tryz.prog 46 [] (awakeO_e r0):=by
  have e:=awakeO_eq r0
  rw [← e] at h
  exact mxP_ok (enc:=awakeO_e) h (AV.pureB_ok rfl)
theorem awakeO_p (ok:awakeO_a):awakeO_vc true:=by
  simp only [awakeO_vc,vcU,rfU,List.length_map]
  have h0:newN [1,2] = (netOf [1,2],0):=by decide +kernel
  have h1:(changeV (netOf [1,2]) 2 [⟨4,2,[]⟩]).2 = 0:=by decide +kernel
  have r1:okRnd (changeV (netOf [1,2]) 2 [⟨4,2,[]⟩]).1 []:=by unfold okRnd; decide +kernel
  have h2:(roundO (changeV (netOf [1,2]) 2 [⟨4,2,[]⟩]).1 []).2 = 0:=by decide +kernel
  have r2:okRnd (roundO (changeV (netOf [1,2]) 2 [⟨4,2,[]⟩]).1 []).1 []:=by unfold okRnd; decide +kernel
  have h3:knownV (roundO (changeV (netOf [1,2]) 2 [⟨4,2,[]⟩]).1 []).1 1 2 = ([],0):=by decide +kernel
  have h4:(roundO (roundO (changeV (netOf [1,2]) 2 [⟨4,2,[]⟩]).1 []).1 []).2 = 0:=by decide +kernel
  have h5:knownV (roundO (roundO (changeV (netOf [1,2]) 2 [⟨4,2,[]⟩]).1 []).1 []).1 1 2 = ([⟨4,2,[]⟩],0):=by decide +kernel
  rw [h0]
  simp only [h1,h2,h3,h4,h5]
  refine ⟨by decide,by simp [netOf],r1,r2,?_⟩
  simp
def awakeO_c:PC Tryz.prog:=⟨46,[],[],awakeO_e true,PSpec.of_ok fun ok=>awakeO_ok _ (awakeO_p ok),fnB_ok (by kernel_rfl)⟩
theorem alone_r {L:List Int} {p:Nat}:pickI [2,3,5,8] (rawV L p) ∈ ([2,3,5,8]:List Int):=pickI_mem (by simp) _
def alone_a (t:(List Int)):Prop:=okL [.sl 1 (t.map AV.int) false]
def alone_n0 (t:(List Int)) (t0:Tap):NF:=⟨[(3,.k,.ref 0 0)],[.box (.agg [.sl 1 (t0.L.map AV.int) false,.int ((t0.p:Nat):Int)])]⟩
def alone_n1 (t:(List Int)) (t0:Tap) (t1:Int × Ovl):NF:=⟨[(3,.k,.ref 0 0),(4,.k,.ref 1 0),(5,.k,.int t1.1)],[.box (.agg [.sl 1 (t0.L.map AV.int) false,.int ((t0.p:Nat):Int)]),.box (.agg [.sl 5 (t1.2.sp.map Spk.v) false,.sl 3 (t1.2.ls.map Lsn.v) false,.sl 10 (t1.2.fl.map Sig.v) false])]⟩
def alone_n2 (t:(List Int)) (t0:Tap) (t1:Int × Ovl) (t2:Int × Ovl):NF:=⟨[(3,.k,.ref 0 0),(4,.k,.ref 1 0),(5,.k,.int t1.1),(6,.k,.ref 2 0),(7,.k,.int t2.1)],[.box (.agg [.sl 1 (t0.L.map AV.int) false,.int ((t0.p:Nat):Int)]),.box (.agg [.sl 5 (t1.2.sp.map Spk.v) false,.sl 3 (t1.2.ls.map Lsn.v) false,.sl 10 (t1.2.fl.map Sig.v) false]),.box (.agg [.sl 5 (t2.2.sp.map Spk.v) false,.sl 3 (t2.2.ls.map Lsn.v) false,.sl 10 (t2.2.fl.map Sig.v) false])]⟩
def alone_n3 (t:(List Int)) (t0:Tap) (t1:Int × Ovl) (t2:Int × Ovl) (t3:Bool):NF:=⟨[(3,.k,.ref 0 0),(4,.k,.ref 1 0),(5,.k,.int t1.1),(6,.k,.ref 2 0),(31,.k,.bool t3)],[.box (.agg [.sl 1 (t0.L.map AV.int) false,.int ((t0.p:Nat):Int)]),.box (.agg [.sl 5 (t1.2.sp.map Spk.v) false,.sl 3 (t1.2.ls.map Lsn.v) false,.sl 10 (t1.2.fl.map Sig.v) false]),.box (.agg [.sl 5 (t2.2.sp.map Spk.v) false,.sl 3 (t2.2.ls.map Lsn.v) false,.sl 10 (t2.2.fl.map Sig.v) false])]⟩
def alone_n4 (t:(List Int)) (t0:Tap) (t1:Int × Ovl) (t2:Int × Ovl) (t3:Bool) (t4:Int × Int × Ovl × Ovl × Tap):NF:=⟨[(3,.k,.ref 0 0),(4,.k,.ref 1 0),(5,.k,.int t4.1),(6,.k,.ref 2 0),(8,.k,.int t4.2.1)],[.box (.agg [.sl 1 (t4.2.2.2.2.L.map AV.int) false,.int ((t4.2.2.2.2.p:Nat):Int)]),.box (.agg [.sl 5 (t4.2.2.2.1.sp.map Spk.v) false,.sl 3 (t4.2.2.2.1.ls.map Lsn.v) false,.sl 10 (t4.2.2.2.1.fl.map Sig.v) false]),.box (.agg [.sl 5 (t4.2.2.1.sp.map Spk.v) false,.sl 3 (t4.2.2.1.ls.map Lsn.v) false,.sl 10 (t4.2.2.1.fl.map Sig.v) false])]⟩
def alone_n5 (t:(List Int)) (t0:Tap) (t1:Int × Ovl) (t2:Int × Ovl) (t3:Bool) (t4:Int × Int × Ovl × Ovl × Tap) (t5:Int × (List Wnt)):NF:=⟨[(3,.k,.ref 0 0),(4,.k,.ref 1 0),(5,.k,.int t4.1),(6,.k,.ref 2 0),(8,.k,.int t4.2.1),(9,.k,.int t5.1),(10,(.s 3),.sl 3 (t5.2.map Wnt.v) false)],[.box (.agg [.sl 1 (t4.2.2.2.2.L.map AV.int) false,.int ((((wantsT t4.2.2.2.2.L (rawP t4.2.2.2.2.L t4.2.2.2.2.p)).2):Nat):Int)]),.box (.agg [.sl 5 (t4.2.2.2.1.sp.map Spk.v) false,.sl 3 (t4.2.2.2.1.ls.map Lsn.v) false,.sl 10 (t4.2.2.2.1.fl.map Sig.v) false]),.box (.agg [.sl 5 (t4.2.2.1.sp.map Spk.v) false,.sl 3 (t4.2.2.1.ls.map Lsn.v) false,.sl 10 (t4.2.2.1.fl.map Sig.v) false])]⟩
def alone_n6 (t:(List Int)) (t0:Tap) (t1:Int × Ovl) (t2:Int × Ovl) (t3:Bool) (t4:Int × Int × Ovl × Ovl × Tap) (t5:Int × (List Wnt)) (t6:Int × Ovl × Int × Ovl):NF:=⟨[(3,.k,.ref 0 0),(4,.k,.ref 1 0),(5,.k,.int t6.1),(6,.k,.ref 2 0),(7,.k,.int t6.2.2.1),(8,.k,.int t4.2.1)],[.box (.agg [.sl 1 (t4.2.2.2.2.L.map AV.int) false,.int (((rawP t4.2.2.2.2.L ((wantsT t4.2.2.2.2.L (rawP t4.2.2.2.2.L t4.2.2.2.2.p)).2)):Nat):Int)]),.box (.agg [.sl 5 (t6.2.1.sp.map Spk.v) false,.sl 3 (t6.2.1.ls.map Lsn.v) false,.sl 10 (t6.2.1.fl.map Sig.v) false]),.box (.agg [.sl 5 (t6.2.2.2.sp.map Spk.v) false,.sl 3 (t6.2.2.2.ls.map Lsn.v) false,.sl 10 (t6.2.2.2.fl.map Sig.v) false])]⟩
def alone_n7 (t:(List Int)) (t0:Tap) (t1:Int × Ovl) (t2:Int × Ovl) (t3:Bool) (t4:Int × Int × Ovl × Ovl × Tap) (t5:Int × (List Wnt)) (t7:Int):NF:=⟨[(3,.k,.ref 0 0),(4,.k,.ref 1 0),(5,.k,.int t4.1),(6,.k,.ref 2 0),(8,.k,.int t4.2.1),(9,.k,.int t5.1),(10,.k,.sl 3 (t5.2.map Wnt.v) false),(42,.k,.int t7)],[.box (.agg [.sl 1 (t4.2.2.2.2.L.map AV.int) false,.int (((rawP t4.2.2.2.2.L ((wantsT t4.2.2.2.2.L (rawP t4.2.2.2.2.L t4.2.2.2.2.p)).2)):Nat):Int)]),.box (.agg [.sl 5 (t4.2.2.2.1.sp.map Spk.v) false,.sl 3 (t4.2.2.2.1.ls.map Lsn.v) false,.sl 10 (t4.2.2.2.1.fl.map Sig.v) false]),.box (.agg [.sl 5 (t4.2.2.1.sp.map Spk.v) false,.sl 3 (t4.2.2.1.ls.map Lsn.v) false,.sl 10 (t4.2.2.1.fl.map Sig.v) false])]⟩
def alone_n8 (t:(List Int)) (t0:Tap) (t1:Int × Ovl) (t2:Int × Ovl) (t3:Bool) (t4:Int × Int × Ovl × Ovl × Tap) (t5:Int × (List Wnt)) (t7:Int) (t8:Int × Ovl):NF:=⟨[(3,.k,.ref 0 0),(4,.k,.ref 1 0),(5,.k,.int t4.1),(6,.k,.ref 2 0),(7,.k,.int t8.1),(8,.k,.int t4.2.1),(9,.k,.int t5.1),(10,.k,.sl 3 (t5.2.map Wnt.v) false)],[.box (.agg [.sl 1 (t4.2.2.2.2.L.map AV.int) false,.int (((rawP t4.2.2.2.2.L ((wantsT t4.2.2.2.2.L (rawP t4.2.2.2.2.L t4.2.2.2.2.p)).2)):Nat):Int)]),.box (.agg [.sl 5 (t4.2.2.2.1.sp.map Spk.v) false,.sl 3 (t4.2.2.2.1.ls.map Lsn.v) false,.sl 10 (t4.2.2.2.1.fl.map Sig.v) false]),.box (.agg [.sl 5 (t8.2.sp.map Spk.v) false,.sl 3 (t8.2.ls.map Lsn.v) false,.sl 10 (t8.2.fl.map Sig.v) false])]⟩
def alone_n9 (t:(List Int)) (t0:Tap) (t1:Int × Ovl) (t2:Int × Ovl) (t3:Bool) (t4:Int × Int × Ovl × Ovl × Tap) (t5:Int × (List Wnt)) (t7:Int) (t9:Int × Ovl):NF:=⟨[(3,.k,.ref 0 0),(4,.k,.ref 1 0),(5,.k,.int t4.1),(6,.k,.ref 2 0),(7,.k,.int t9.1),(8,.k,.int t4.2.1),(9,.k,.int t5.1),(10,.k,.sl 3 (t5.2.map Wnt.v) false)],[.box (.agg [.sl 1 (t4.2.2.2.2.L.map AV.int) false,.int (((rawP t4.2.2.2.2.L ((wantsT t4.2.2.2.2.L (rawP t4.2.2.2.2.L t4.2.2.2.2.p)).2)):Nat):Int)]),.box (.agg [.sl 5 (t4.2.2.2.1.sp.map Spk.v) false,.sl 3 (t4.2.2.2.1.ls.map Lsn.v) false,.sl 10 (t4.2.2.2.1.fl.map Sig.v) false]),.box (.agg [.sl 5 (t9.2.sp.map Spk.v) false,.sl 3 (t9.2.ls.map Lsn.v) false,.sl 10 (t9.2.fl.map Sig.v) false])]⟩
def alone_n10 (t:(List Int)) (t0:Tap) (t1:Int × Ovl) (t2:Int × Ovl) (t3:Bool) (t4:Int × Int × Ovl × Ovl × Tap) (t5:Int × (List Wnt)) (t7:Int) (t10:Int × Ovl):NF:=⟨[(3,.k,.ref 0 0),(4,.k,.ref 1 0),(6,.k,.ref 2 0),(7,.k,.int t10.1),(8,.k,.int t4.2.1)],[.box (.agg [.sl 1 (t4.2.2.2.2.L.map AV.int) false,.int (((rawP t4.2.2.2.2.L ((wantsT t4.2.2.2.2.L (rawP t4.2.2.2.2.L t4.2.2.2.2.p)).2)):Nat):Int)]),.box (.agg [.sl 5 (t4.2.2.2.1.sp.map Spk.v) false,.sl 3 (t4.2.2.2.1.ls.map Lsn.v) false,.sl 10 (t4.2.2.2.1.fl.map Sig.v) false]),.box (.agg [.sl 5 (t10.2.sp.map Spk.v) false,.sl 3 (t10.2.ls.map Lsn.v) false,.sl 10 (t10.2.fl.map Sig.v) false])]⟩
def alone_n11 (t:(List Int)) (t0:Tap) (t1:Int × Ovl) (t2:Int × Ovl) (t3:Bool) (t4:Int × Int × Ovl × Ovl × Tap) (t5:Int × (List Wnt)) (t6:Int × Ovl × Int × Ovl) (t11:Bool):NF:=⟨[(3,.k,.ref 0 0),(4,.k,.ref 1 0),(5,.k,.int t6.1),(6,.k,.ref 2 0),(8,.k,.int t4.2.1),(106,.k,.bool t11)],[.box (.agg [.sl 1 (t4.2.2.2.2.L.map AV.int) false,.int (((rawP t4.2.2.2.2.L ((wantsT t4.2.2.2.2.L (rawP t4.2.2.2.2.L t4.2.2.2.2.p)).2)):Nat):Int)]),.box (.agg [.sl 5 (t6.2.1.sp.map Spk.v) false,.sl 3 (t6.2.1.ls.map Lsn.v) false,.sl 10 (t6.2.1.fl.map Sig.v) false]),.box (.agg [.sl 5 (t6.2.2.2.sp.map Spk.v) false,.sl 3 (t6.2.2.2.ls.map Lsn.v) false,.sl 10 (t6.2.2.2.fl.map Sig.v) false])]⟩
def alone_n12 (t:(List Int)) (t0:Tap) (t1:Int × Ovl) (t2:Int × Ovl) (t3:Bool) (t4:Int × Int × Ovl × Ovl × Tap) (t5:Int × (List Wnt)) (t6:Int × Ovl × Int × Ovl) (t11:Bool) (t12:Int):NF:=⟨[(3,.k,.ref 0 0),(4,.k,.ref 1 0),(5,.k,.int t6.1),(6,.k,.ref 2 0),(8,.k,.int t4.2.1),(11,.k,.int t12)],[.box (.agg [.sl 1 (t4.2.2.2.2.L.map AV.int) false,.int (((rawP t4.2.2.2.2.L ((wantsT t4.2.2.2.2.L (rawP t4.2.2.2.2.L t4.2.2.2.2.p)).2)):Nat):Int)]),.box (.agg [.sl 5 (t6.2.1.sp.map Spk.v) false,.sl 3 (t6.2.1.ls.map Lsn.v) false,.sl 10 (t6.2.1.fl.map Sig.v) false]),.box (.agg [.sl 5 (t6.2.2.2.sp.map Spk.v) false,.sl 3 (t6.2.2.2.ls.map Lsn.v) false,.sl 10 (t6.2.2.2.fl.map Sig.v) false])]⟩
def alone_n13 (t:(List Int)) (t0:Tap) (t1:Int × Ovl) (t2:Int × Ovl) (t3:Bool) (t4:Int × Int × Ovl × Ovl × Tap) (t5:Int × (List Wnt)) (t6:Int × Ovl × Int × Ovl) (t11:Bool) (t12:Int) (x10:Spk) (x11:Spk) (t13:Bool):NF:=⟨[(3,.k,.ref 0 0),(4,.k,.ref 1 0),(5,.k,.int t6.1),(6,.k,.ref 2 0),(8,.k,.int t4.2.1),(11,.k,.int t12),(12,.k,.ref 3 0),(163,.k,.bool t13)],[.box (.agg [.sl 1 (t4.2.2.2.2.L.map AV.int) false,.int (((rawP t4.2.2.2.2.L ((wantsT t4.2.2.2.2.L (rawP t4.2.2.2.2.L t4.2.2.2.2.p)).2)):Nat):Int)]),.box (.agg [.sl 5 (t6.2.1.sp.map Spk.v) false,.sl 3 (t6.2.1.ls.map Lsn.v) false,.sl 10 (t6.2.1.fl.map Sig.v) false]),.box (.agg [.sl 5 (t6.2.2.2.sp.map Spk.v) false,.sl 3 (t6.2.2.2.ls.map Lsn.v) false,.sl 10 (t6.2.2.2.fl.map Sig.v) false]),.box (.agg [.int x10.router,.int x10.epoch,.int x10.last,.sl 4 (x10.items.map Itm.v) false,.sl 3 (x10.peers.map Per.v) false])]⟩
def alone_n14 (t:(List Int)) (t0:Tap) (t1:Int × Ovl) (t2:Int × Ovl) (t3:Bool) (t4:Int × Int × Ovl × Ovl × Tap) (t5:Int × (List Wnt)) (t6:Int × Ovl × Int × Ovl) (t11:Bool) (t12:Int) (x10:Spk) (x11:Spk) (t13:Bool) (t14:Bool):NF:=⟨[(3,.k,.ref 0 0),(4,.k,.ref 1 0),(5,.k,.int t6.1),(6,.k,.ref 2 0),(8,.k,.int t4.2.1),(11,.k,.int t12),(183,.k,.bool t14)],[.box (.agg [.sl 1 (t4.2.2.2.2.L.map AV.int) false,.int (((rawP t4.2.2.2.2.L ((wantsT t4.2.2.2.2.L (rawP t4.2.2.2.2.L t4.2.2.2.2.p)).2)):Nat):Int)]),.box (.agg [.sl 5 (t6.2.1.sp.map Spk.v) false,.sl 3 (t6.2.1.ls.map Lsn.v) false,.sl 10 (t6.2.1.fl.map Sig.v) false]),.box (.agg [.sl 5 (t6.2.2.2.sp.map Spk.v) false,.sl 3 (t6.2.2.2.ls.map Lsn.v) false,.sl 10 (t6.2.2.2.fl.map Sig.v) false])]⟩
def alone_s:Nat → Type
  | 0=>Tap
  | 1=>Int × Ovl
  | 2=>Int × Ovl
  | 3=>Bool
  | 4=>Int × Int × Ovl × Ovl × Tap
  | 5=>Int × (List Wnt)
  | 6=>Int × Ovl × Int × Ovl
  | 7=>Int
  | 8=>Int × Ovl
  | 9=>Int × Ovl
  | 10=>Int × Ovl
  | 11=>Bool
  | 12=>Int
  | 13=>Bool
  | 14=>Bool
  | _=>Unit
def alone_e (r:Bool):AV:=.bool r
def alone_vc (t:(List Int)) (I3:Tap → Int × Ovl → Int × Ovl → Bool → Prop) (I4:Tap → Int × Ovl → Int × Ovl → Bool → (Int × Int × Ovl × Ovl × Tap) → Prop) (m4:Tap → Int × Ovl → Int × Ovl → Bool → (Int × Int × Ovl × Ovl × Tap) → Nat) (I6:Tap → Int × Ovl → Int × Ovl → Bool → Int × Int × Ovl × Ovl × Tap → Int × (List Wnt) → (Int × Ovl × Int × Ovl) → Prop) (I11:Tap → Int × Ovl → Int × Ovl → Bool → Int × Int × Ovl × Ovl × Tap → Int × (List Wnt) → Int × Ovl × Int × Ovl → Bool → Prop) (I12:Tap → Int × Ovl → Int × Ovl → Bool → Int × Int × Ovl × Ovl × Tap → Int × (List Wnt) → Int × Ovl × Int × Ovl → Bool → Int → Prop) (m12:Tap → Int × Ovl → Int × Ovl → Bool → Int × Int × Ovl × Ovl × Tap → Int × (List Wnt) → Int × Ovl × Int × Ovl → Bool → Int → Nat) (I13:Tap → Int × Ovl → Int × Ovl → Bool → Int × Int × Ovl × Ovl × Tap → Int × (List Wnt) → Int × Ovl × Int × Ovl → Bool → Int → Spk → Spk → Bool → Prop) (r0:Bool):Prop:=
 (Ch (New_h t) [] 32
 (Nf (alone_n0 t ((⟨t.take 2000,0⟩:Tap))) [32] ((((⟨t.take 2000,0⟩:Tap)):Tap) = (((⟨t.take 2000,0⟩:Tap)):Tap)))) ∧ ∀ t0:Tap,t0 = (((⟨t.take 2000,0⟩:Tap)):Tap) →
 (∃ h1:[2,3].length ≤ 1000,
 Cl (newOv_c [2,3] h1)
 (Nf (alone_n1 t t0 ((newN [2,3]).2,(newN [2,3]).1)) [0,81] ((((newN [2,3]).2,(newN [2,3]).1):Int × Ovl) = (((newN [2,3]).2,(newN [2,3]).1):Int × Ovl)))) ∧ ∀ t1:Int × Ovl,t1 = (((newN [2,3]).2,(newN [2,3]).1):Int × Ovl) →
 (∃ h2:[2,3,5,8].length ≤ 1000,
 Cl (newOv_c [2,3,5,8] h2)
 (Nf (alone_n2 t t0 t1 ((newN [2,3,5,8]).2,(newN [2,3,5,8]).1)) [0,1,82] ((((newN [2,3,5,8]).2,(newN [2,3,5,8]).1):Int × Ovl) = (((newN [2,3,5,8]).2,(newN [2,3,5,8]).1):Int × Ovl)))) ∧ ∀ t2:Int × Ovl,t2 = (((newN [2,3,5,8]).2,(newN [2,3,5,8]).1):Int × Ovl) →
 (br (t1.1 != 0)
 (Nf (alone_n3 t t0 t1 t2 (true)) [0,1,2] (I3 t0 t1 t2 ((true):Bool)))
 (Nf (alone_n3 t t0 t1 t2 (t2.1 != 0)) [0,1,2] (I3 t0 t1 t2 ((t2.1 != 0):Bool)))) ∧ ∀ t3:Bool,I3 t0 t1 t2 t3 →
 br t3
 (Rf (alone_e (false)) ((false) = r0))
 (Nf (alone_n4 t t0 t1 t2 t3 (t1.1,0,t2.2,t1.2,t0)) [0,1,2] (I4 t0 t1 t2 t3 (t1.1,0,t2.2,t1.2,t0)) ∧ ∀ t4:Int × Int × Ovl × Ovl × Tap,I4 t0 t1 t2 t3 t4 →
 br (decide (t4.2.1 < 10))
 ((∃ h3:[2,3,5,8] ≠ [],
 Ch (Pick_h t4.2.2.2.2.L t4.2.2.2.2.p [2,3,5,8] h3) [0] 67
 (Ch (wantsT_h t4.2.2.2.2.L (rawP t4.2.2.2.2.L t4.2.2.2.2.p)) [0] 99
 (Nf (alone_n5 t t0 t1 t2 t3 t4 (pickI [2,3,5,8] (rawV t4.2.2.2.2.L t4.2.2.2.2.p),(wantsT t4.2.2.2.2.L (rawP t4.2.2.2.2.L t4.2.2.2.2.p)).1)) [0,1,2] (((pickI [2,3,5,8] (rawV t4.2.2.2.2.L t4.2.2.2.2.p),(wantsT t4.2.2.2.2.L (rawP t4.2.2.2.2.L t4.2.2.2.2.p)).1):Int × (List Wnt)) = ((pickI [2,3,5,8] (rawV t4.2.2.2.2.L t4.2.2.2.2.p),(wantsT t4.2.2.2.2.L (rawP t4.2.2.2.2.L t4.2.2.2.2.p)).1):Int × (List Wnt)))))) ∧ ∀ t5:Int × (List Wnt),t5 = ((pickI [2,3,5,8] (rawV t4.2.2.2.2.L t4.2.2.2.2.p),(wantsT t4.2.2.2.2.L (rawP t4.2.2.2.2.L t4.2.2.2.2.p)).1):Int × (List Wnt)) →
 ((Ch (N_h t4.2.2.2.2.L ((wantsT t4.2.2.2.2.L (rawP t4.2.2.2.2.L t4.2.2.2.2.p)).2) 4) [0] 19
 (Nf (alone_n7 t t0 t1 t2 t3 t4 t5 (Mod (rawV t4.2.2.2.2.L ((wantsT t4.2.2.2.2.L (rawP t4.2.2.2.2.L t4.2.2.2.2.p)).2)) 4)) [0,1,2] (((Mod (rawV t4.2.2.2.2.L ((wantsT t4.2.2.2.2.L (rawP t4.2.2.2.2.L t4.2.2.2.2.p)).2)) 4):Int) = ((Mod (rawV t4.2.2.2.2.L ((wantsT t4.2.2.2.2.L (rawP t4.2.2.2.2.L t4.2.2.2.2.p)).2)) 4):Int)))) ∧ ∀ t7:Int,t7 = ((Mod (rawV t4.2.2.2.2.L ((wantsT t4.2.2.2.2.L (rawP t4.2.2.2.2.L t4.2.2.2.2.p)).2)) 4):Int) →
 br (t7 == 0)
 ((∃ h4:t4.2.2.1.fl.length ≤ 1000000,
 Cl (chgOv_c t4.2.2.1 t5.1 t5.2 h4)
 (Nf (alone_n8 t t0 t1 t2 t3 t4 t5 t7 ((changeV t4.2.2.1 t5.1 t5.2).2,(changeV t4.2.2.1 t5.1 t5.2).1)) [0,1,2] ((((changeV t4.2.2.1 t5.1 t5.2).2,(changeV t4.2.2.1 t5.1 t5.2).1):Int × Ovl) = (((changeV t4.2.2.1 t5.1 t5.2).2,(changeV t4.2.2.1 t5.1 t5.2).1):Int × Ovl)))) ∧ ∀ t8:Int × Ovl,t8 = (((changeV t4.2.2.1 t5.1 t5.2).2,(changeV t4.2.2.1 t5.1 t5.2).1):Int × Ovl) →
 br (decide (t5.1 < 5))
 (∃ h5:t4.2.2.2.1.fl.length ≤ 1000000,
 Cl (chgOv_c t4.2.2.2.1 t5.1 t5.2 h5)
 (Nf (alone_n6 t t0 t1 t2 t3 t4 t5 ((changeV t4.2.2.2.1 t5.1 t5.2).2,(changeV t4.2.2.2.1 t5.1 t5.2).1,t8.1,t8.2)) [0,1,2] (I6 t0 t1 t2 t3 t4 t5 (((changeV t4.2.2.2.1 t5.1 t5.2).2,(changeV t4.2.2.2.1 t5.1 t5.2).1,t8.1,t8.2):Int × Ovl × Int × Ovl))))
 (Nf (alone_n6 t t0 t1 t2 t3 t4 t5 (t4.1,t4.2.2.2.1,t8.1,t8.2)) [0,1,2] (I6 t0 t1 t2 t3 t4 t5 ((t4.1,t4.2.2.2.1,t8.1,t8.2):Int × Ovl × Int × Ovl))))
 (br (t7 == 1)
 ((∃ h6:t4.2.2.1.fl.length ≤ 1000000,
 Cl (rstOv_c t4.2.2.1 t5.1 t5.2 h6)
 (Nf (alone_n9 t t0 t1 t2 t3 t4 t5 t7 ((restartV t4.2.2.1 t5.1 t5.2).2,(restartV t4.2.2.1 t5.1 t5.2).1)) [0,1,2] ((((restartV t4.2.2.1 t5.1 t5.2).2,(restartV t4.2.2.1 t5.1 t5.2).1):Int × Ovl) = (((restartV t4.2.2.1 t5.1 t5.2).2,(restartV t4.2.2.1 t5.1 t5.2).1):Int × Ovl)))) ∧ ∀ t9:Int × Ovl,t9 = (((restartV t4.2.2.1 t5.1 t5.2).2,(restartV t4.2.2.1 t5.1 t5.2).1):Int × Ovl) →
 br (decide (t5.1 < 5))
 (∃ h7:t4.2.2.2.1.fl.length ≤ 1000000,
 Cl (rstOv_c t4.2.2.2.1 t5.1 t5.2 h7)
 (Nf (alone_n6 t t0 t1 t2 t3 t4 t5 ((restartV t4.2.2.2.1 t5.1 t5.2).2,(restartV t4.2.2.2.1 t5.1 t5.2).1,t9.1,t9.2)) [0,1,2] (I6 t0 t1 t2 t3 t4 t5 (((restartV t4.2.2.2.1 t5.1 t5.2).2,(restartV t4.2.2.2.1 t5.1 t5.2).1,t9.1,t9.2):Int × Ovl × Int × Ovl))))
 (Nf (alone_n6 t t0 t1 t2 t3 t4 t5 (t4.1,t4.2.2.2.1,t9.1,t9.2)) [0,1,2] (I6 t0 t1 t2 t3 t4 t5 ((t4.1,t4.2.2.2.1,t9.1,t9.2):Int × Ovl × Int × Ovl))))
 ((∃ h8:okRnd t4.2.2.1 [],
 Cl (rndOv_c t4.2.2.1 [] h8)
 (Nf (alone_n10 t t0 t1 t2 t3 t4 t5 t7 ((roundO t4.2.2.1 []).2,(roundO t4.2.2.1 []).1)) [0,1,2] ((((roundO t4.2.2.1 []).2,(roundO t4.2.2.1 []).1):Int × Ovl) = (((roundO t4.2.2.1 []).2,(roundO t4.2.2.1 []).1):Int × Ovl)))) ∧ ∀ t10:Int × Ovl,t10 = (((roundO t4.2.2.1 []).2,(roundO t4.2.2.1 []).1):Int × Ovl) →
 ∃ h9:okRnd t4.2.2.2.1 [],
 Cl (rndOv_c t4.2.2.2.1 [] h9)
 (Nf (alone_n6 t t0 t1 t2 t3 t4 t5 ((roundO t4.2.2.2.1 []).2,(roundO t4.2.2.2.1 []).1,t10.1,t10.2)) [0,1,2] (I6 t0 t1 t2 t3 t4 t5 (((roundO t4.2.2.2.1 []).2,(roundO t4.2.2.2.1 []).1,t10.1,t10.2):Int × Ovl × Int × Ovl)))))) ∧ ∀ t6:Int × Ovl × Int × Ovl,I6 t0 t1 t2 t3 t4 t5 t6 →
 (br (t6.1 != 0)
 (Nf (alone_n11 t t0 t1 t2 t3 t4 t5 t6 (true)) [0,1,2] (I11 t0 t1 t2 t3 t4 t5 t6 ((true):Bool)))
 (br (t6.2.2.1 != 0)
 (Nf (alone_n11 t t0 t1 t2 t3 t4 t5 t6 (true)) [0,1,2] (I11 t0 t1 t2 t3 t4 t5 t6 ((true):Bool)))
 (br (((t6.2.1.sp.map Spk.v).length:Int) != 2)
 (Nf (alone_n11 t t0 t1 t2 t3 t4 t5 t6 (true)) [0,1,2] (I11 t0 t1 t2 t3 t4 t5 t6 ((true):Bool)))
 (Nf (alone_n11 t t0 t1 t2 t3 t4 t5 t6 (((t6.2.2.2.sp.map Spk.v).length:Int) != 4)) [0,1,2] (I11 t0 t1 t2 t3 t4 t5 t6 ((((t6.2.2.2.sp.map Spk.v).length:Int) != 4):Bool)))))) ∧ ∀ t11:Bool,I11 t0 t1 t2 t3 t4 t5 t6 t11 →
 br t11
 (Rf (alone_e (false)) ((false) = r0))
 (Nf (alone_n12 t t0 t1 t2 t3 t4 t5 t6 t11 (0)) [0,1,2] (I12 t0 t1 t2 t3 t4 t5 t6 t11 (0)) ∧ ∀ t12:Int,I12 t0 t1 t2 t3 t4 t5 t6 t11 t12 →
 br (decide (t12 < 2))
 (Rf (t6.2.1.sp.map Spk.v) (ck (decide (0 ≤ t12)) (ck (decide (t12 < (t6.2.1.sp.length:Int)))
 (∀ x10,t6.2.1.sp[t12.toNat]? = some x10 →
 Rf (t6.2.2.2.sp.map Spk.v) (ck (decide (0 ≤ t12)) (ck (decide (t12 < (t6.2.2.2.sp.length:Int)))
 (∀ x11,t6.2.2.2.sp[t12.toNat]? = some x11 →
 (Cl (sameI_c x10.items x11.items)
 (br (!(decide (x10.items = x11.items)))
 (Nf (alone_n13 t t0 t1 t2 t3 t4 t5 t6 t11 t12 x10 x11 (true)) [0,1,2,195] (I13 t0 t1 t2 t3 t4 t5 t6 t11 t12 x10 x11 ((true):Bool)))
 (br (x10.last != x11.last)
 (Nf (alone_n13 t t0 t1 t2 t3 t4 t5 t6 t11 t12 x10 x11 (true)) [0,1,2,195] (I13 t0 t1 t2 t3 t4 t5 t6 t11 t12 x10 x11 ((true):Bool)))
 (br (x10.epoch != x11.epoch)
 (Nf (alone_n13 t t0 t1 t2 t3 t4 t5 t6 t11 t12 x10 x11 (true)) [0,1,2,195] (I13 t0 t1 t2 t3 t4 t5 t6 t11 t12 x10 x11 ((true):Bool)))
 (br (((x11.peers.map Per.v).length:Int) == 0)
 (Nf (alone_n13 t t0 t1 t2 t3 t4 t5 t6 t11 t12 x10 x11 (true)) [0,1,2,195] (I13 t0 t1 t2 t3 t4 t5 t6 t11 t12 x10 x11 ((true):Bool)))
 (br (((x10.peers.map Per.v).length:Int) != 1)
 (Nf (alone_n13 t t0 t1 t2 t3 t4 t5 t6 t11 t12 x10 x11 (true)) [0,1,2,195] (I13 t0 t1 t2 t3 t4 t5 t6 t11 t12 x10 x11 ((true):Bool)))
 (Rf (x10.peers.map Per.v) (ck (decide (0 < (x10.peers.length:Int)))
 (∀ x12,x10.peers[0]? = some x12 →
 Rf (x11.peers.map Per.v) (ck (decide (0 < (x11.peers.length:Int)))
 (∀ x13,x11.peers[0]? = some x13 →
 Nf (alone_n13 t t0 t1 t2 t3 t4 t5 t6 t11 t12 x10 x11 (!((x12.router == x13.router) && ((x12.epoch == x13.epoch) && ((x12.acked == x13.acked) && true))))) [0,1,2,195] (I13 t0 t1 t2 t3 t4 t5 t6 t11 t12 x10 x11 ((!((x12.router == x13.router) && ((x12.epoch == x13.epoch) && ((x12.acked == x13.acked) && true)))):Bool))))))))))))) ∧ ∀ t13:Bool,I13 t0 t1 t2 t3 t4 t5 t6 t11 t12 x10 x11 t13 →
 br t13
 (Rf (alone_e (false)) ((false) = r0))
 ((Rf (t6.2.1.ls.map Lsn.v) (ck (decide (0 ≤ t12)) (ck (decide (t12 < (t6.2.1.ls.length:Int)))
 (∀ x14,t6.2.1.ls[t12.toNat]? = some x14 →
 Cl (knownR_c x14 (W (5 - x10.router)))
 (Rf (t6.2.2.2.ls.map Lsn.v) (ck (decide (0 ≤ t12)) (ck (decide (t12 < (t6.2.2.2.ls.length:Int)))
 (∀ x15,t6.2.2.2.ls[t12.toNat]? = some x15 →
 Cl (knownR_c x15 (W (5 - x10.router)))
 (Cl (sameW_c (knownW x14 (W (5 - x10.router))) (knownW x15 (W (5 - x10.router))))
 (Nf (alone_n14 t t0 t1 t2 t3 t4 t5 t6 t11 t12 x10 x11 t13 (!(decide ((knownW x14 (W (5 - x10.router))) = (knownW x15 (W (5 - x10.router))))))) [0,1,2] ((∃ x14':Lsn,t6.2.1.ls[t12.toNat]? = some x14' ∧ ∃ x15':Lsn,t6.2.2.2.ls[t12.toNat]? = some x15' ∧ ((!(decide ((knownW x14 (W (5 - x10.router))) = (knownW x15 (W (5 - x10.router)))))):Bool) = ((!(decide ((knownW x14' (W (5 - x10.router))) = (knownW x15' (W (5 - x10.router)))))):Bool))))))))))))) ∧ ∀ t14:Bool,(∃ x14':Lsn,t6.2.1.ls[t12.toNat]? = some x14' ∧ ∃ x15':Lsn,t6.2.2.2.ls[t12.toNat]? = some x15' ∧ t14 = ((!(decide ((knownW x14' (W (5 - x10.router))) = (knownW x15' (W (5 - x10.router)))))):Bool)) →
 br t14
 (Rf (alone_e (false)) ((false) = r0))
 (Nf (alone_n12 t t0 t1 t2 t3 t4 t5 t6 t11 (W (t12 + 1))) [0,1,2] (I12 t0 t1 t2 t3 t4 t5 t6 t11 (W (t12 + 1)) ∧ m12 t0 t1 t2 t3 t4 t5 t6 t11 (W (t12 + 1)) < m12 t0 t1 t2 t3 t4 t5 t6 t11 t12))))))))))
 (Nf (alone_n4 t t0 t1 t2 t3 (t6.1,W (t4.2.1 + 1),t6.2.2.2,t6.2.1,(⟨t4.2.2.2.2.L,rawP t4.2.2.2.2.L ((wantsT t4.2.2.2.2.L (rawP t4.2.2.2.2.L t4.2.2.2.2.p)).2)⟩:Tap))) [0,1,2] (I4 t0 t1 t2 t3 (t6.1,W (t4.2.1 + 1),t6.2.2.2,t6.2.1,(⟨t4.2.2.2.2.L,rawP t4.2.2.2.2.L ((wantsT t4.2.2.2.2.L (rawP t4.2.2.2.2.L t4.2.2.2.2.p)).2)⟩:Tap)) ∧ m4 t0 t1 t2 t3 (t6.1,W (t4.2.1 + 1),t6.2.2.2,t6.2.1,(⟨t4.2.2.2.2.L,rawP t4.2.2.2.2.L ((wantsT t4.2.2.2.2.L (rawP t4.2.2.2.2.L t4.2.2.2.2.p)).2)⟩:Tap)) < m4 t0 t1 t2 t3 t4))))
 (Cl (awakeO_c )
 (Rf (alone_e (true)) ((true) = r0))))
theorem alone_eq (t:(List Int)) (I3:Tap → Int × Ovl → Int × Ovl → Bool → Prop) (I4:Tap → Int × Ovl → Int × Ovl → Bool → (Int × Int × Ovl × Ovl × Tap) → Prop) (m4:Tap → Int × Ovl → Int × Ovl → Bool → (Int × Int × Ovl × Ovl × Tap) → Nat) (I6:Tap → Int × Ovl → Int × Ovl → Bool → Int × Int × Ovl × Ovl × Tap → Int × (List Wnt) → (Int × Ovl × Int × Ovl) → Prop) (I11:Tap → Int × Ovl → Int × Ovl → Bool → Int × Int × Ovl × Ovl × Tap → Int × (List Wnt) → Int × Ovl × Int × Ovl → Bool → Prop) (I12:Tap → Int × Ovl → Int × Ovl → Bool → Int × Int × Ovl × Ovl × Tap → Int × (List Wnt) → Int × Ovl × Int × Ovl → Bool → Int → Prop) (m12:Tap → Int × Ovl → Int × Ovl → Bool → Int × Int × Ovl × Ovl × Tap → Int × (List Wnt) → Int × Ovl × Int × Ovl → Bool → Int → Nat) (I13:Tap → Int × Ovl → Int × Ovl → Bool → Int × Int × Ovl × Ovl × Tap → Int × (List Wnt) → Int × Ovl × Int × Ovl → Bool → Int → Spk → Spk → Bool → Prop) (r0:Bool):mxP Tryz.prog 8 [.sl 1 (t.map AV.int) false] .k alone_e ((.pass (.join 0 (alone_n0 t) (fun t0=>t0 = (((⟨t.take 2000,0⟩:Tap)):Tap)) (.callH [] (New_h t)
 (.back 0 (((⟨t.take 2000,0⟩:Tap)):Tap) [32])) fun (t0:Tap) =>
 (.join 1 (alone_n1 t t0) (fun t1=>t1 = (((newN [2,3]).2,(newN [2,3]).1):Int × Ovl)) (.req 17 ([2,3].length ≤ 1000) fun h1 =>
 (.callP (newOv_c [2,3] h1)
 (.back 1 (((newN [2,3]).2,(newN [2,3]).1):Int × Ovl) [0,81]))) fun (t1:Int × Ovl) =>
 (.join 2 (alone_n2 t t0 t1) (fun t2=>t2 = (((newN [2,3,5,8]).2,(newN [2,3,5,8]).1):Int × Ovl)) (.req 18 ([2,3,5,8].length ≤ 1000) fun h2 =>
 (.callP (newOv_c [2,3,5,8] h2)
 (.back 2 (((newN [2,3,5,8]).2,(newN [2,3,5,8]).1):Int × Ovl) [0,1,82]))) fun (t2:Int × Ovl) =>
 (.pass (.join 3 (alone_n3 t t0 t1 t2) (fun t3=>I3 t0 t1 t2 t3) (.br 51 (.back 3 ((true):Bool) [0,1,2])
 (.back 3 ((t2.1 != 0):Bool) [0,1,2])) fun (t3:Bool) =>
 (.br 3 (.ret (false))
 (.loop 4 (alone_n4 t t0 t1 t2 t3) (I4 t0 t1 t2 t3) (m4 t0 t1 t2 t3) ((t1.1,0,t2.2,t1.2,t0):Int × Int × Ovl × Ovl × Tap) [0,1,2] fun (t4:Int × Int × Ovl × Ovl × Tap) =>
 (.br 35 (.pass (.join 5 (alone_n5 t t0 t1 t2 t3 t4) (fun t5=>t5 = ((pickI [2,3,5,8] (rawV t4.2.2.2.2.L t4.2.2.2.2.p),(wantsT t4.2.2.2.2.L (rawP t4.2.2.2.2.L t4.2.2.2.2.p)).1):Int × (List Wnt))) (.req 67 ([2,3,5,8] ≠ []) fun h3 =>
 (.callH [0] (Pick_h t4.2.2.2.2.L t4.2.2.2.2.p [2,3,5,8] h3)
 (.callH [0] (wantsT_h t4.2.2.2.2.L (rawP t4.2.2.2.2.L t4.2.2.2.2.p))
 (.back 5 ((pickI [2,3,5,8] (rawV t4.2.2.2.2.L t4.2.2.2.2.p),(wantsT t4.2.2.2.2.L (rawP t4.2.2.2.2.L t4.2.2.2.2.p)).1):Int × (List Wnt)) [0,1,2])))) fun (t5:Int × (List Wnt)) =>
 (.join 6 (alone_n6 t t0 t1 t2 t3 t4 t5) (fun t6=>I6 t0 t1 t2 t3 t4 t5 t6) (.join 7 (alone_n7 t t0 t1 t2 t3 t4 t5) (fun t7=>t7 = ((Mod (rawV t4.2.2.2.2.L ((wantsT t4.2.2.2.2.L (rawP t4.2.2.2.2.L t4.2.2.2.2.p)).2)) 4):Int)) (.callH [0] (N_h t4.2.2.2.2.L ((wantsT t4.2.2.2.2.L (rawP t4.2.2.2.2.L t4.2.2.2.2.p)).2) 4)
 (.back 7 ((Mod (rawV t4.2.2.2.2.L ((wantsT t4.2.2.2.2.L (rawP t4.2.2.2.2.L t4.2.2.2.2.p)).2)) 4):Int) [0,1,2])) fun (t7:Int) =>
 (.br 35 (.join 8 (alone_n8 t t0 t1 t2 t3 t4 t5 t7) (fun t8=>t8 = (((changeV t4.2.2.1 t5.1 t5.2).2,(changeV t4.2.2.1 t5.1 t5.2).1):Int × Ovl)) (.req 83 (t4.2.2.1.fl.length ≤ 1000000) fun h4 =>
 (.callP (chgOv_c t4.2.2.1 t5.1 t5.2 h4)
 (.back 8 (((changeV t4.2.2.1 t5.1 t5.2).2,(changeV t4.2.2.1 t5.1 t5.2).1):Int × Ovl) [0,1,2]))) fun (t8:Int × Ovl) =>
 (.br 35 (.req 83 (t4.2.2.2.1.fl.length ≤ 1000000) fun h5 =>
 (.callP (chgOv_c t4.2.2.2.1 t5.1 t5.2 h5)
 (.back 6 (((changeV t4.2.2.2.1 t5.1 t5.2).2,(changeV t4.2.2.2.1 t5.1 t5.2).1,t8.1,t8.2):Int × Ovl × Int × Ovl) [0,1,2])))
 (.back 6 ((t4.1,t4.2.2.2.1,t8.1,t8.2):Int × Ovl × Int × Ovl) [0,1,2])))
 (.br 67 (.join 9 (alone_n9 t t0 t1 t2 t3 t4 t5 t7) (fun t9=>t9 = (((restartV t4.2.2.1 t5.1 t5.2).2,(restartV t4.2.2.1 t5.1 t5.2).1):Int × Ovl)) (.req 115 (t4.2.2.1.fl.length ≤ 1000000) fun h6 =>
 (.callP (rstOv_c t4.2.2.1 t5.1 t5.2 h6)
 (.back 9 (((restartV t4.2.2.1 t5.1 t5.2).2,(restartV t4.2.2.1 t5.1 t5.2).1):Int × Ovl) [0,1,2]))) fun (t9:Int × Ovl) =>
 (.br 35 (.req 83 (t4.2.2.2.1.fl.length ≤ 1000000) fun h7 =>
 (.callP (rstOv_c t4.2.2.2.1 t5.1 t5.2 h7)
 (.back 6 (((restartV t4.2.2.2.1 t5.1 t5.2).2,(restartV t4.2.2.2.1 t5.1 t5.2).1,t9.1,t9.2):Int × Ovl × Int × Ovl) [0,1,2])))
 (.back 6 ((t4.1,t4.2.2.2.1,t9.1,t9.2):Int × Ovl × Int × Ovl) [0,1,2])))
 (.join 10 (alone_n10 t t0 t1 t2 t3 t4 t5 t7) (fun t10=>t10 = (((roundO t4.2.2.1 []).2,(roundO t4.2.2.1 []).1):Int × Ovl)) (.req 83 (okRnd t4.2.2.1 []) fun h8 =>
 (.callP (rndOv_c t4.2.2.1 [] h8)
 (.back 10 (((roundO t4.2.2.1 []).2,(roundO t4.2.2.1 []).1):Int × Ovl) [0,1,2]))) fun (t10:Int × Ovl) =>
 (.req 19 (okRnd t4.2.2.2.1 []) fun h9 =>
 (.callP (rndOv_c t4.2.2.2.1 [] h9)
 (.back 6 (((roundO t4.2.2.2.1 []).2,(roundO t4.2.2.2.1 []).1,t10.1,t10.2):Int × Ovl × Int × Ovl) [0,1,2]))))))) fun (t6:Int × Ovl × Int × Ovl) =>
 (.pass (.join 11 (alone_n11 t t0 t1 t2 t3 t4 t5 t6) (fun t11=>I11 t0 t1 t2 t3 t4 t5 t6 t11) (.br 51 (.back 11 ((true):Bool) [0,1,2])
 (.br 115 (.back 11 ((true):Bool) [0,1,2])
 (.br 211 (.back 11 ((true):Bool) [0,1,2])
 (.back 11 ((((t6.2.2.2.sp.map Spk.v).length:Int) != 4):Bool) [0,1,2])))) fun (t11:Bool) =>
 (.br 3 (.ret (false))
 (.loop 12 (alone_n12 t t0 t1 t2 t3 t4 t5 t6 t11) (I12 t0 t1 t2 t3 t4 t5 t6 t11) (m12 t0 t1 t2 t3 t4 t5 t6 t11) ((0):Int) [0,1,2] fun (t12:Int) =>
 (.br 35 (.el 83 Spk.v t6.2.1.sp fun x10 =>
 (.el 163 Spk.v t6.2.2.2.sp fun x11 =>
 (.pass (.join 13 (alone_n13 t t0 t1 t2 t3 t4 t5 t6 t11 t12 x10 x11) (fun t13=>I13 t0 t1 t2 t3 t4 t5 t6 t11 t12 x10 x11 t13) (.callP (sameI_c x10.items x11.items)
 (.br 371 (.back 13 ((true):Bool) [0,1,2,195])
 (.br 483 (.back 13 ((true):Bool) [0,1,2,195])
 (.br 595 (.back 13 ((true):Bool) [0,1,2,195])
 (.br 691 (.back 13 ((true):Bool) [0,1,2,195])
 (.br 787 (.back 13 ((true):Bool) [0,1,2,195])
 (.el 819 Per.v x10.peers fun x12 =>
 (.el 883 Per.v x11.peers fun x13 =>
 (.back 13 ((!((x12.router == x13.router) && ((x12.epoch == x13.epoch) && ((x12.acked == x13.acked) && true)))):Bool) [0,1,2,195]))))))))) fun (t13:Bool) =>
 (.br 4 (.ret (false))
 (.join 14 (alone_n14 t t0 t1 t2 t3 t4 t5 t6 t11 t12 x10 x11 t13) (fun t14=>(∃ x14':Lsn,t6.2.1.ls[t12.toNat]? = some x14' ∧ ∃ x15':Lsn,t6.2.2.2.ls[t12.toNat]? = some x15' ∧ t14 = ((!(decide ((knownW x14' (W (5 - x10.router))) = (knownW x15' (W (5 - x10.router)))))):Bool))) (.el 52 Lsn.v t6.2.1.ls fun x14 =>
 (.callP (knownR_c x14 (W (5 - x10.router)))
 (.el 196 Lsn.v t6.2.2.2.ls fun x15 =>
 (.callP (knownR_c x15 (W (5 - x10.router)))
 (.callP (sameW_c (knownW x14 (W (5 - x10.router))) (knownW x15 (W (5 - x10.router))))
 (.back 14 ((!(decide ((knownW x14 (W (5 - x10.router))) = (knownW x15 (W (5 - x10.router)))))):Bool) [0,1,2])))))) fun (t14:Bool) =>
 (.br 3 (.ret (false))
 (.back 12 ((W (t12 + 1)):Int) [0,1,2]))))))))
 (.back 4 ((t6.1,W (t4.2.1 + 1),t6.2.2.2,t6.2.1,(⟨t4.2.2.2.2.L,rawP t4.2.2.2.2.L ((wantsT t4.2.2.2.2.L (rawP t4.2.2.2.2.L t4.2.2.2.2.p)).2)⟩:Tap)):Int × Int × Ovl × Ovl × Tap) [0,1,2])))))))))
 (.callP (awakeO_c )
 (.ret (true)))))))))))):An Tryz.prog alone_s (Bool)) r0 = alone_vc t I3 I4 m4 I6 I11 I12 m12 I13 r0:=by kernel_rfl
theorem alone_ok (t:(List Int)) (I3:Tap → Int × Ovl → Int × Ovl → Bool → Prop) (I4:Tap → Int × Ovl → Int × Ovl → Bool → (Int × Int × Ovl × Ovl × Tap) → Prop) (m4:Tap → Int × Ovl → Int × Ovl → Bool → (Int × Int × Ovl × Ovl × Tap) → Nat) (I6:Tap → Int × Ovl → Int × Ovl → Bool → Int × Int × Ovl × Ovl × Tap → Int × (List Wnt) → (Int × Ovl × Int × Ovl) → Prop) (I11:Tap → Int × Ovl → Int × Ovl → Bool → Int × Int × Ovl × Ovl × Tap → Int × (List Wnt) → Int × Ovl × Int × Ovl → Bool → Prop) (I12:Tap → Int × Ovl → Int × Ovl → Bool → Int × Int × Ovl × Ovl × Tap → Int × (List Wnt) → Int × Ovl × Int × Ovl → Bool → Int → Prop) (m12:Tap → Int × Ovl → Int × Ovl → Bool → Int × Int × Ovl × Ovl × Tap → Int × (List Wnt) → Int × Ovl × Int × Ovl → Bool → Int → Nat) (I13:Tap → Int × Ovl → Int × Ovl → Bool → Int × Int × Ovl × Ovl × Tap → Int × (List Wnt) → Int × Ovl × Int × Ovl → Bool → Int → Spk → Spk → Bool → Prop) (r0:Bool) (h:alone_vc t I3 I4 m4 I6 I11 I12 m12 I13 r0):PSpec Tryz.prog 8 [.sl 1 (t.map AV.int) false] (alone_e r0):=by
  have e:=alone_eq t I3 I4 m4 I6 I11 I12 m12 I13 r0
  rw [← e] at h
  exact mxP_ok (enc:=alone_e) h (AV.pureB_ok rfl)
theorem alone_p (t:List Int) (ok:alone_a t):∃ I3 I4 m4 I6 I11 I12 m12 I13,alone_vc t I3 I4 m4 I6 I11 I12 m12 I13 true:=by
  refine ⟨fun _ _ _ x=>x = false,
    fun t0 _ _ _ u=>∃ (k p:Nat),u.1 = 0 ∧ u.2.1 = k ∧ k ≤ 10 ∧ u.2.2.2.2 = ⟨t0.L,p⟩ ∧ ALI u.2.2.2.1 u.2.2.1 k,fun _ _ _ _ u=>10 - u.2.1.toNat,
    fun _ _ _ _ t4 _ u=>u.1 = 0 ∧ u.2.2.1 = 0 ∧ ALI u.2.1 u.2.2.2 (t4.2.1 + 1),
    fun _ _ _ _ _ _ _ x=>x = false,
    fun _ _ _ _ _ _ _ _ x=>∃ k:Nat,x = k ∧ k ≤ 2,fun _ _ _ _ _ _ _ _ x=>2 - x.toNat,
    fun _ _ _ _ _ _ _ _ _ _ _ x=>x = false,?_⟩
  have e2:newN [2,3] = (netOf [2,3],0):=if_pos (by decide)
  have e4:newN [2,3,5,8] = (netOf [2,3,5,8],0):=if_pos (by decide)
  simp only [alone_vc,vcU,rfU,List.length_map]
  simp only [e2,e4]
  refine ⟨trivial,?_⟩
  intro t0 h0
  refine ⟨⟨by decide,trivial⟩,?_⟩
  rintro _ rfl
  refine ⟨⟨by decide,trivial⟩,?_⟩
  rintro _ rfl
  refine ⟨⟨by simp,by simp⟩,?_⟩
  rintro _ rfl
  refine ⟨by simp,fun _=>⟨⟨0,0,rfl,rfl,by omega,by rw [h0],ALI.new⟩,?_⟩⟩
  rintro ⟨e,i,all,two,tp⟩ ⟨k,p,he,hi,hk,htp,hA⟩
  simp only at he hi htp hA
  subst he hi htp
  simp only
  refine ⟨fun a1=>⟨⟨by simp,trivial⟩,?_⟩,fun a1=>trivial⟩
  rintro ⟨r,w⟩ hrw
  obtain ⟨q1,q2⟩:=Prod.mk.inj hrw
  have hr:r ∈ ([2,3,5,8]:List Int):=by rw [q1]; exact alone_r
  have hw:WOk 7 w:=by rw [q2]; exact wantsT_ok _ _
  clear hrw q1 q2
  have f2:=hA.f2
  have f4:=hA.f4
  refine ⟨⟨trivial,fun c _=>⟨fun c0=>?_,fun _=>⟨fun c1=>?_,fun _=>?_⟩⟩⟩,?_⟩
  · obtain ⟨z4,y1,y2⟩:=hA.change ⟨by omega,by omega⟩ hr hw
    refine ⟨⟨by omega,trivial⟩,?_⟩
    rintro _ rfl
    exact ⟨fun h5=>⟨by omega,(y1 h5).1,z4,(y1 h5).2⟩,fun h5=>⟨trivial,z4,y2 h5⟩⟩
  · obtain ⟨z4,y1,y2⟩:=hA.restart ⟨by omega,by omega⟩ hr hw
    refine ⟨⟨by omega,trivial⟩,?_⟩
    rintro _ rfl
    exact ⟨fun h5=>⟨by omega,(y1 h5).1,z4,(y1 h5).2⟩,fun h5=>⟨trivial,z4,y2 h5⟩⟩
  · obtain ⟨z2,z4,n⟩:=hA.round (by omega)
    refine ⟨⟨⟨by omega,by simp⟩,trivial⟩,?_⟩
    rintro _ rfl
    exact ⟨⟨by omega,by simp⟩,z2,z4,n⟩
  · rintro ⟨e,two',f,all'⟩ ⟨g1,g2,hB⟩
    simp only at g1 g2 hB
    subst g1 g2
    obtain ⟨lw2,n2⟩:=hB.l2
    obtain ⟨lw4,n4⟩:=hB.l4
    have s2:=congrArg List.length n2.oi.net.spr
    have s4:=congrArg List.length n4.oi.net.spr
    have u2:=congrArg List.length n2.oi.net.lsr
    have u4:=congrArg List.length n4.oi.net.lsr
    rw [List.length_map] at s2 s4 u2 u4
    simp only [List.length_cons,List.length_nil] at s2 s4 u2 u4
    refine ⟨⟨by simp,fun _=>⟨by simp,fun _=>⟨by simp [s2],fun _=>by simp [s4]⟩⟩⟩,?_⟩
    rintro _ rfl
    refine ⟨by simp,fun _=>⟨⟨0,rfl,by omega⟩,?_⟩⟩
    rintro _ ⟨j,rfl,hj⟩
    simp only [Int.toNat_natCast]
    refine ⟨fun b1=>⟨by omega,by omega,fun x hx=>⟨by omega,by omega,fun y hy=>?_⟩⟩,fun b1=>?_⟩
    · obtain ⟨x',y',l,m,x1,y1,l1,m1,hP⟩:=hB.pair (i:=j) (by omega)
      cases x1.symm.trans hx
      cases y1.symm.trans hy
      have py:=hP.py
      refine ⟨⟨fun q=>by rw [hP.it] at q; simp at q,fun _=>⟨fun q=>by rw [hP.la] at q; simp at q,fun _=>⟨fun q=>by rw [hP.ep] at q; simp at q,fun _=>⟨fun q=>?_,fun _=>⟨fun q=>by rw [hP.px] at q; simp at q,fun _=>⟨by rw [hP.px]; omega,fun a ha=>⟨by omega,fun b hb=>?_⟩⟩⟩⟩⟩⟩⟩,?_⟩
      · have:y.peers.length = 0:=by have:=eq_of_beq q; omega
        omega
      · rw [hP.pp a b ha hb]; simp
      · rintro _ rfl
        refine ⟨by simp,fun _=>⟨⟨by omega,by omega,fun l' hl=>⟨by omega,by omega,fun m' hm=>⟨l',hl,m',hm,rfl⟩⟩⟩,?_⟩⟩
        rintro _ ⟨l',hl,m',hm,rfl⟩
        cases l1.symm.trans hl
        cases m1.symm.trans hm
        rw [hP.kn,W_succ (n:=2) (by omega) (by omega)]
        exact ⟨by simp,fun _=>⟨⟨j + 1,rfl,by omega⟩,by omega⟩⟩
    · rw [W_succ (n:=10) (by omega) (by omega)]
      exact ⟨⟨k + 1,_,trivial,rfl,by omega,rfl,hB⟩,by omega⟩
def alone_c (t:(List Int)):PC Tryz.prog:=⟨8,[(.s 1)],[.sl 1 (t.map AV.int) false],alone_e true,PSpec.of_ok fun ok=>(alone_p t ok).elim fun I3 h=>h.elim fun I4 h=>h.elim fun m4 h=>h.elim fun I6 h=>h.elim fun I11 h=>h.elim fun I12 h=>h.elim fun m12 h=>h.elim fun I13 h=>alone_ok t I3 I4 m4 I6 I11 I12 m12 I13 _ h,fnB_ok (by kernel_rfl)⟩
end Go.Proofs.YtglfecmdoekabaaGreatDoor
