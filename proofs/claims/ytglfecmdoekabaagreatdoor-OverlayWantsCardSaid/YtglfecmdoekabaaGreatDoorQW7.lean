/- Texts joined: G16 U5 U8 U9 U10 U11 U12 U13 G18 G19 U15 U6 G17 G20 G21 G30 G31. -/
import Derived.Test.YtglfecmdoekabaaGreatDoorSh
import Derived.Test.YtglfecmdoekabaaGreatDoorChecked
import Derived.Test.YtglfecmdoekabaaGreatDoorQW6
namespace Go.Proofs.YtglfecmdoekabaaGreatDoor
open Go Go.Am
set_option linter.unusedVariables false
set_option linter.unusedSimpArgs false
open Go.Shelf Go.RowKit Go.Lib Go.Sort in
theorem cmpW_calls (a b:Int) (x1 x2 y1 y2:Value) (w:World) (hx:x1.oneCell' = true ∧ x2.oneCell' = true) (hy:y1.oneCell' = true ∧ y2.oneCell' = true) :
    Calls Tryz.prog 103 #[.agg #[.int .i64 a,x1,x2],.agg #[.int .i64 b,y1,y2]] w fun e w'=>e = .returned (.int .i64 (Lib.compareInt a b)) ∧ ∃ q os',w' = grow (w.drewN q) os':=by
  have hcon:=fun W'=>AnyG.cmp_Compare_int Tryz.cmpI a b W'
  change ∀ W',Calls Tryz.prog 104 _ _ _ at hcon
  generalize Lib.compareInt a b = r at hcon ⊢
  go_enter Tryz.func103,Tryz.ntmps103
  go_wp2_with (go_at_call 104; refine (hcon _).mono ?_; rintro e w' ⟨rfl,rfl⟩)
  go_ret
  exact ⟨rfl,0,_,by rw [alloc_eq_grow,alloc_eq_grow,grow_grow]; rfl⟩
def okSrt (l:List Wnt):Prop:=l.length ≤ 1000000 ∧ l.Pairwise fun a b=>a.grp ≠ b.grp
def srtW (l:List Wnt):List Wnt:=l.mergeSort fun a b=>decide (a.grp ≤ b.grp)
theorem srtW_perm (l:List Wnt):(srtW l).Perm l:=List.mergeSort_perm _ _
theorem srtW_asc {l:List Wnt} (h:okSrt l):(srtW l).Pairwise fun a b=>a.grp < b.grp:=by
  have h1:(srtW l).Pairwise fun a b=>decide (a.grp ≤ b.grp) = true:=List.pairwise_mergeSort (fun a b c h1 h2=>by simp at *; omega) (fun a b=>by simp; omega) l
  have h2:(srtW l).Pairwise fun a b=>a.grp ≠ b.grp:=(List.Perm.pairwise_iff (fun h=>Ne.symm h) (srtW_perm l)).mpr h.2
  exact (h1.and h2).imp fun ⟨h1,h2⟩=>by simp at h1; omega
open Go.Shelf Go.RowKit Go.Lib Go.Sort in
theorem sortW_spec (l:List Wnt) (h:okSrt l):HSpec Tryz.prog 102 [.vec 0,.func 103 []] [.vec 3 (l.map Wnt.v)] (.tup []) [some (.vec 3 ((srtW l).map Wnt.v))]:=by
  refine sort_hspec Tryz.sortW Wnt.v Wnt.grp 3 (by omega) (fun _=>by kernel_rfl) (fun _=>by kernel_rfl) (fun x=>⟨_,rfl⟩) 103 (enters_of Tryz.func103 (by kernel_rfl) rfl) ?_ l (srtW l) (srtW_perm l) (srtW_asc h) h.1
  intro a b xs ys w hx hy ox oy
  match xs,hx with
  | [x1,x2],_ =>
  match ys,hy with
  | [y1,y2],_=>exact cmpW_calls a b x1 x2 y1 y2 w ⟨ox x1 (by simp),ox x2 (by simp)⟩ ⟨oy y1 (by simp),oy y2 (by simp)⟩
def sortW_h (l:List Wnt) (h:okSrt l):HC Tryz.prog:=⟨102,[.k,.k],[.vec 0,.func 103 []],[.vec 3 (l.map Wnt.v)],.tup [],[some (.vec 3 ((srtW l).map Wnt.v))],sortW_spec l h,fnB_ok (by kernel_rfl),
  HcOk.of (by simp [hcB,belBL,AV.belB,allB,okBk,okBkO,pureBL_map (v:=Wnt.v) (fun _=>rfl)])⟩
def noF2 (f:Flt):Bool:=f.mode == 1 && (f.srcs.length:Int) == 0
theorem noF2_iff {f:Flt}:noF2 f = true ↔ f.mode = 1 ∧ f.srcs = []:=by
  simp [noF2]
def noF2_a (f:Flt):Prop:=okL [.agg [.int f.mode,.sl 1 (f.srcs.map AV.int) false]]
def noF2_s:Nat → Type
  | _=>Unit
def noF2_e (r:Bool):AV:=.bool r
def noF2_vc (f:Flt) (r0:Bool):Prop:=
 br (f.mode == 1)
 (Rf (noF2_e (((f.srcs.map AV.int).length:Int) == 0)) ((((f.srcs.map AV.int).length:Int) == 0) = r0))
 (Rf (noF2_e (false)) ((false) = r0))
theorem noF2_eq (f:Flt) (r0:Bool):mxP Tryz.prog 101 [.agg [.int f.mode,.sl 1 (f.srcs.map AV.int) false]] .k noF2_e ((.br 96 (.ret (((f.srcs.map AV.int).length:Int) == 0))
 (.ret (false))):An Tryz.prog noF2_s (Bool)) r0 = noF2_vc f r0:=by kernel_rfl
theorem noF2_ok (f:Flt) (r0:Bool) (h:noF2_vc f r0):PSpec Tryz.prog 101 [.agg [.int f.mode,.sl 1 (f.srcs.map AV.int) false]] (noF2_e r0):=by
  have e:=noF2_eq f r0
  rw [← e] at h
  exact mxP_ok (enc:=noF2_e) h (AV.pureB_ok rfl)
theorem noF2_p (f:Flt) (ok:noF2_a f):noF2_vc f (noF2 f):=by
  simp only [noF2_vc,vcU,rfU,List.length_map]
  by_cases h:f.mode = 1 <;> simp [noF2,h]
def noF2_c (f:Flt):PC Tryz.prog:=⟨101,[(.a [.k,(.s 1)])],[.agg [.int f.mode,.sl 1 (f.srcs.map AV.int) false]],noF2_e (noF2 f),PSpec.of_ok fun ok=>noF2_ok f _ (noF2_p f ok),fnB_ok (by kernel_rfl)⟩
def wOf (l:List Itm):List Wnt:=(l.filter fun x=>!noF2 ⟨x.mode,x.srcs⟩).map fun x=>⟨x.grp,x.mode,x.srcs⟩
theorem wOf_snoc (l:List Itm) (x:Itm):wOf (l ++ [x]) = if noF2 ⟨x.mode,x.srcs⟩ = true then wOf l else wOf l ++ [⟨x.grp,x.mode,x.srcs⟩]:=by
  unfold wOf
  rw [List.filter_append,List.map_append]
  by_cases h:noF2 ⟨x.mode,x.srcs⟩ = true
  · rw [if_pos h]; simp [List.filter_cons,h]
  · rw [if_neg h]; simp [List.filter_cons,h]
theorem wOf_len (l:List Itm):(wOf l).length ≤ l.length:=by unfold wOf; rw [List.length_map]; exact List.length_filter_le _ _
theorem mem_wOf {l:List Itm} {w:Wnt}:w ∈ wOf l ↔ ∃ x ∈ l,¬ (x.mode = 1 ∧ x.srcs = []) ∧ w = ⟨x.grp,x.mode,x.srcs⟩:=by
  unfold wOf
  rw [List.mem_map]
  constructor
  · rintro ⟨x,hx,rfl⟩
    obtain ⟨h1,h2⟩:=List.mem_filter.mp hx
    refine ⟨x,h1,fun e=>?_,rfl⟩
    rw [noF2_iff.mpr e] at h2; cases h2
  · rintro ⟨x,hx,h,rfl⟩
    refine ⟨x,List.mem_filter.mpr ⟨hx,?_⟩,rfl⟩
    cases e:noF2 ⟨x.mode,x.srcs⟩ with
    | true=>exact absurd (noF2_iff.mp e) h
    | false=>rfl
theorem wOf_srt {l:List Itm} (h:itmsOk 1000000 l):okSrt (wOf l):=by
  refine ⟨by have:=wOf_len l; have:=itms_len h; omega,?_⟩
  unfold wOf
  rw [List.pairwise_map]
  refine List.Pairwise.filter _ ?_
  have:=h.2.1
  rw [List.Nodup,List.pairwise_map] at this
  exact this
theorem wants_srt {l:List Itm} (h:itmsOk 1000000 l):srtW (wOf l) = wantsOf l:=by
  rw [wantsOf,if_pos h]
  refine ascW_ext (srtW_asc (wOf_srt h)) (fromF_asc 99) fun w=>?_
  rw [(srtW_perm _).mem_iff,mem_wOf,mem_fromF]
  constructor
  · rintro ⟨x,hx,h1,rfl⟩
    have:=told_in h.2.1 hx
    refine ⟨by have:=(h.1 x hx).2.1; simp only; omega,this,?_⟩
    simp only
    rw [this]
    intro e
    simp only [Prod.mk.injEq] at e
    exact h1 e
  · rintro ⟨_,h1,h2⟩
    obtain ⟨x,hx,e1,e2⟩:=told_some h2
    rw [h1] at e2
    simp only [Prod.mk.injEq] at e2
    refine ⟨x,hx,fun e=>h2 ?_,?_⟩
    · rw [h1,e2.1,e2.2,e.1,e.2]
    · cases w; simp only at e1 e2; rw [e1,e2.1,e2.2]
def wantsF_a (l:(List Itm)):Prop:=okL [.sl 4 (l.map Itm.v) false]
def wantsF_n0 (l:(List Itm)) (t0:Int × (List Wnt)):NF:=⟨[(3,.k,.vec 0),(9,.k,.sl 4 (l.map Itm.v) false),(10,.k,.int ((l.map Itm.v).length:Int)),(11,.k,.int t0.1)],[.vec 3 (t0.2.map Wnt.v) (pureBL_map (fun _=>rfl) t0.2)]⟩
def wantsF_s:Nat → Type
  | 0=>Int × (List Wnt)
  | _=>Unit
def wantsF_e (r:(List Wnt)):AV:=.sl 3 (r.map Wnt.v) false
def wantsF_vc (l:(List Itm)) (I0:(Int × (List Wnt)) → Prop) (m0:(Int × (List Wnt)) → Nat) (r0:(List Wnt)):Prop:=
 Cl (itemsB_c l 1000000)
 (br (!(itemsB l 1000000))
 (Rf (wantsF_e ([])) (([]) = r0))
 (Nf (wantsF_n0 l (0,[])) [128] (I0 (0,[])) ∧ ∀ t0:Int × (List Wnt),I0 t0 →
 br (decide (t0.1 < ((l.map Itm.v).length:Int)))
 (Rf (l.map Itm.v) (ck (decide (0 ≤ t0.1)) (ck (decide (t0.1 < (l.length:Int)))
 (∀ x1,l[t0.1.toNat]? = some x1 →
 Cl (noF2_c (⟨x1.mode,x1.srcs⟩:Flt))
 (br (!(noF2 (⟨x1.mode,x1.srcs⟩:Flt)))
 (∃ h2:(⟨x1.mode,x1.srcs⟩:Flt).srcs.length ≤ 1000000,
 Cl (filtered_c (⟨x1.mode,x1.srcs⟩:Flt) h2)
 (Rf (α:=List AV) (t0.2.map Wnt.v) (Rf (α:=List AV) [.agg [.int x1.grp,.int x1.mode,.sl 1 (x1.srcs.map AV.int) false]]
 (ck (decide (t0.2.length + 1 ≤ 1000000))
 (Nf (wantsF_n0 l (W (t0.1 + 1),t0.2 ++ [(⟨x1.grp,x1.mode,x1.srcs⟩:Wnt)])) [273] (I0 (W (t0.1 + 1),t0.2 ++ [(⟨x1.grp,x1.mode,x1.srcs⟩:Wnt)]) ∧ m0 (W (t0.1 + 1),t0.2 ++ [(⟨x1.grp,x1.mode,x1.srcs⟩:Wnt)]) < m0 t0))))))
 (Nf (wantsF_n0 l (W (t0.1 + 1),t0.2)) [0] (I0 (W (t0.1 + 1),t0.2) ∧ m0 (W (t0.1 + 1),t0.2) < m0 t0)))))))
 (∃ h3:okSrt t0.2,
 Ch (sortW_h t0.2 h3) [0] 33
 (Rf ((srtW t0.2).map Wnt.v) (Rf (wantsF_e (srtW t0.2)) ((srtW t0.2) = r0))))))
theorem wantsF_eq (l:(List Itm)) (I0:(Int × (List Wnt)) → Prop) (m0:(Int × (List Wnt)) → Nat) (r0:(List Wnt)):mxP Tryz.prog 37 [.sl 4 (l.map Itm.v) false] (.s 3) wantsF_e ((.callP (itemsB_c l 1000000)
 (.br 64 (.ret ([]))
 (.cmdL (.nilT 3 3) (.loop 0 (wantsF_n0 l) (I0) (m0) ((0,[]):Int × (List Wnt)) [128] fun (t0:Int × (List Wnt)) =>
 (.br 17 (.el 17 Itm.v l fun x1 =>
 (.callP (noF2_c (⟨x1.mode,x1.srcs⟩:Flt))
 (.br 145 (.req 225 ((⟨x1.mode,x1.srcs⟩:Flt).srcs.length ≤ 1000000) fun h2 =>
 (.callP (filtered_c (⟨x1.mode,x1.srcs⟩:Flt) h2)
 (.app 273 Wnt.v t0.2 [(⟨x1.grp,x1.mode,x1.srcs⟩:Wnt)]
 (.back 0 ((W (t0.1 + 1),t0.2 ++ [(⟨x1.grp,x1.mode,x1.srcs⟩:Wnt)]):Int × (List Wnt)) [273]))))
 (.back 0 ((W (t0.1 + 1),t0.2):Int × (List Wnt)) [0]))))
 (.req 33 (okSrt t0.2) fun h3 =>
 (.callH [0] (sortW_h t0.2 h3)
 (.cmdL (.frzE 0 ((srtW t0.2).map Wnt.v) (pureBL_map (fun _=>rfl) (srtW t0.2))) (.ret (srtW t0.2)))))))))):An Tryz.prog wantsF_s ((List Wnt))) r0 = wantsF_vc l I0 m0 r0:=by kernel_rfl
theorem wantsF_ok (l:(List Itm)) (I0:(Int × (List Wnt)) → Prop) (m0:(Int × (List Wnt)) → Nat) (r0:(List Wnt)) (h:wantsF_vc l I0 m0 r0):PSpec Tryz.prog 37 [.sl 4 (l.map Itm.v) false] (wantsF_e r0):=by
  have e:=wantsF_eq l I0 m0 r0
  rw [← e] at h
  exact mxP_ok (enc:=wantsF_e) h (AV.pureB_ok rfl)
theorem wantsF_p (l:List Itm) (ok:wantsF_a l):∃ I m,wantsF_vc l I m (wantsOf l):=by
  refine ⟨fun t=>∃ k:Nat,t.1 = k ∧ k ≤ l.length ∧ t.2 = wOf (l.take k),fun t=>l.length - t.1.toNat,?_⟩
  simp only [wantsF_vc,vcU,rfU,List.length_map]
  simp only [itemsB,Bool.not_eq_true',decide_eq_false_iff_not,Bool.not_eq_false',decide_eq_true_iff]
  refine ⟨fun h=>by rw [wantsOf,if_neg h],fun h=>⟨⟨0,rfl,by omega,rfl⟩,?_⟩⟩
  rintro ⟨_,ws⟩ ⟨k,rfl,hk,rfl⟩
  have hl:=itms_len h
  simp only [Int.toNat_natCast]
  refine ⟨fun h1=>⟨by omega,by omega,fun x hx=>?_⟩,fun h1=>?_⟩
  · have hs:=srcs_len (h.1 x (mem_of_get hx)).2.2
    have hw:=wOf_len (l.take k)
    rw [List.length_take] at hw
    rw [W_succ (n:=l.length) (by omega) (by omega)]
    refine ⟨fun e=>⟨by omega,by omega,⟨k + 1,rfl,by omega,?_⟩,by omega⟩,fun e=>⟨⟨k + 1,rfl,by omega,?_⟩,by omega⟩⟩
    · rw [take_succ hx,wOf_snoc,if_neg (by simp [e])]
    · rw [take_succ hx,wOf_snoc,if_pos e]
  · have e:l.take k = l:=List.take_of_length_le (by omega)
    rw [e]
    exact ⟨wOf_srt h,by rw [wants_srt h]⟩
def wantsF_c (l:(List Itm)):PC Tryz.prog:=⟨37,[(.s 4)],[.sl 4 (l.map Itm.v) false],wantsF_e (wantsOf l),PSpec.of_ok fun ok=>(wantsF_p l ok).elim fun I0 h=>h.elim fun m0 h=>wantsF_ok l I0 m0 _ h,fnB_ok (by kernel_rfl)⟩
def knownW (l:Lsn) (r:Int):List Wnt:=if lsnOk l ∧ hitH l.heard r then wantsOf (atH l.heard r).items else []
def knownF_a (l:Lsn) (router:Int):Prop:=okL [.agg [.int l.router,.int l.epoch,.sl 4 (l.heard.map Hrd.v) false],.int router]
def knownF_s:Nat → Type
  | _=>Unit
def knownF_e (r:(List Wnt)):AV:=.sl 3 (r.map Wnt.v) false
def knownF_vc (l:Lsn) (router:Int) (r0:(List Wnt)):Prop:=
 Cl (valL_c l)
 (br ((valL l) != 0)
 (Rf (knownF_e ([])) (([]) = r0))
 (∃ h1:l.heard.Pairwise fun x y=>x.router < y.router,
 ∃ h2:l.heard.length ≤ 1000000,
 Cl (heard_c l router h1 h2)
 (br (decide (hitH l.heard router))
 (Rf (l.heard.map Hrd.v) (ck (decide (0 ≤ (posH l.heard router:Int))) (ck (decide ((posH l.heard router:Int) < (l.heard.length:Int)))
 (∀ x3,l.heard[(posH l.heard router:Int).toNat]? = some x3 →
 Cl (wantsF_c x3.items)
 (Rf (knownF_e (wantsOf x3.items)) ((wantsOf x3.items) = r0))))))
 (Rf (knownF_e ([])) (([]) = r0)))))
theorem knownF_eq (l:Lsn) (router:Int) (r0:(List Wnt)):mxP Tryz.prog 26 [.agg [.int l.router,.int l.epoch,.sl 4 (l.heard.map Hrd.v) false],.int router] (.s 3) knownF_e ((.callP (valL_c l)
 (.br 80 (.ret ([]))
 (.req 112 (l.heard.Pairwise fun x y=>x.router < y.router) fun h1 =>
 (.req 112 (l.heard.length ≤ 1000000) fun h2 =>
 (.callP (heard_c l router h1 h2)
 (.br 224 (.el 272 Hrd.v l.heard fun x3 =>
 (.callP (wantsF_c x3.items)
 (.ret (wantsOf x3.items))))
 (.ret ([])))))))):An Tryz.prog knownF_s ((List Wnt))) r0 = knownF_vc l router r0:=by kernel_rfl
theorem knownF_ok (l:Lsn) (router:Int) (r0:(List Wnt)) (h:knownF_vc l router r0):PSpec Tryz.prog 26 [.agg [.int l.router,.int l.epoch,.sl 4 (l.heard.map Hrd.v) false],.int router] (knownF_e r0):=by
  have e:=knownF_eq l router r0
  rw [← e] at h
  exact mxP_ok (enc:=knownF_e) h (AV.pureB_ok rfl)
theorem knownF_p (l:Lsn) (r:Int) (ok:knownF_a l r):knownF_vc l r (knownW l r):=by
  simp only [knownF_vc,vcU,rfU,List.length_map]
  have hv:valL l = if lsnOk l then 0 else 1:=rfl
  rw [hv]
  by_cases h:lsnOk l
  · rw [if_pos h]
    refine ⟨fun e=>by simp at e,fun _=>⟨h.2.2.2.2,by have:=h.2.2.1; omega,fun q=>⟨by omega,by have:=q.1; omega,fun x hx=>?_⟩,fun q=>by rw [knownW,if_neg fun e=>q e.2]⟩⟩
    rw [Int.toNat_natCast] at hx
    rw [knownW,if_pos ⟨h,q⟩,atH,List.getD_eq_getElem?_getD,hx]
    rfl
  · rw [if_neg h]
    exact ⟨fun _=>by rw [knownW,if_neg fun e=>h e.1],fun e=>by simp at e⟩
def knownF_c (l:Lsn) (router:Int):PC Tryz.prog:=⟨26,[(.a [.k,.k,(.s 4)]),.k],[.agg [.int l.router,.int l.epoch,.sl 4 (l.heard.map Hrd.v) false],.int router],knownF_e (knownW l router),PSpec.of_ok fun ok=>knownF_ok l router _ (knownF_p l router ok),fnB_ok (by kernel_rfl)⟩
end Go.Proofs.YtglfecmdoekabaaGreatDoor

namespace Go.Proofs.YtglfecmdoekabaaGreatDoor
open Go Go.Am
set_option linter.unusedVariables false
set_option linter.unusedSimpArgs false
structure Sent (a:Spk) (to:Int) (x:Sig):Prop where
  ok:sigErr x = 0
  kind:x.kind ≠ 3
  src:x.src = a.router
  dst:x.dst = to
  epoch:x.epoch = a.epoch
  tell:TellOk a.epoch a.last a.items x
theorem send_val {a:Spk} {to:Int} (ha:spkOk a) (hh:∃ z ∈ a.peers,z.router = to):send a to = (hello a to :: sendFrom a to (pOf a.peers to).acked 0 a.items,0) ∧ ∀ x ∈ (send a to).1,Sent a to x:=by
  have hhit:=(hitP_iff ha.2.2.2.2.2.2).mpr hh
  obtain ⟨p1,p2,p3,p4,p5,p6,p7⟩:=ha
  obtain ⟨z,hz,hzr⟩:=hh
  obtain ⟨z1,z2,_⟩:=p6 z hz
  have e:send a to = (hello a to :: sendFrom a to (pOf a.peers to).acked 0 a.items,0):=by
    unfold send
    rw [if_neg (not_not_intro ⟨p1,p2,p3,p4,p5,p6,p7⟩),if_neg (not_not_intro hhit)]
    rfl
  refine ⟨e,?_⟩
  rw [e]
  intro x hx
  rcases List.mem_cons.mp hx with rfl | hx
  · refine ⟨?_,by simp [hello],rfl,rfl,rfl,Int.le_refl _,fun q=>by simp [hello] at q⟩
    have hn:sigNums (hello a to):=by
      unfold sigNums hello
      rw [if_pos rfl]
      exact ⟨p2,p3,rfl,rfl,rfl⟩
    have he:sigEnds (hello a to):=⟨p1,by rw [← hzr]; exact z1,by simp only [hello]; omega⟩
    unfold sigErr
    rw [if_neg (by simp [hello]),if_neg (not_not_intro ⟨he,hn⟩),if_neg (by simp [hello]),if_neg (by simp [hello])]
  · obtain ⟨x1,x2,x3,x4,x5,x6,x7,x8⟩:=send_ok p4 p3.2 a.items [] 0 rfl (by omega) (by simp) (fun y hy=>by have:=(p4.1 y hy).1.1; omega) x hx
    refine ⟨?_,by omega,x2,x3,x4,by omega,fun _ _=>x8⟩
    obtain ⟨i1,i2,i3⟩:=p4.1 _ x7
    simp only [sigItm] at i1 i2 i3
    have hn:sigNums x:=by
      unfold sigNums
      rw [if_neg (by omega),if_pos x1,x4]
      exact ⟨p2,⟨i1.1,by omega⟩,x6,x5,i2⟩
    have he:sigEnds x:=⟨by rw [x2]; exact p1,by omega,by omega⟩
    unfold sigErr
    rw [if_neg (by omega),if_neg (not_not_intro ⟨he,hn⟩),if_pos x1]
    exact i3
theorem ans_err {s d e v p:Int} (hs:1 ≤ s ∧ s ≤ 99) (hd:1 ≤ d ∧ d ≤ 99) (hne:s ≠ d) (he:0 ≤ e ∧ e ≤ 1000000) (hv:0 ≤ v ∧ v ≤ 1000000) (hp:1 ≤ p ∧ p ≤ 1000000):sigErr ⟨3,s,d,e,v,0,p,0,0,[]⟩ = 0:=by
  have hn:sigNums ⟨3,s,d,e,v,0,p,0,0,[]⟩:=by
    unfold sigNums
    rw [if_neg (by simp),if_neg (by simp)]
    exact ⟨he,hv,rfl,hp,rfl⟩
  unfold sigErr
  rw [if_neg (by simp),if_neg (not_not_intro ⟨⟨hs,hd,hne⟩,hn⟩),if_neg (by simp),if_neg (by simp)]
theorem Hears.ans_ok {l l':Lsn} {x y:Sig} (hl:lsnOk l) (h:Hears l l' x y) (hx:sigErr x = 0) (hd:x.dst = l.router):sigErr y = 0:=by
  obtain ⟨e1,e2,e3⟩:=sig_ends hx
  have hm:=(h.mem _).mpr (.inl rfl)
  obtain ⟨k1,k2,k3,k4,k5⟩:=h.ok.2.2.2.1 _ hm
  rw [h.ans]
  exact ans_err hl.1 e1 (by omega) (by omega) k4 hl.2.1
structure SI (s:Spk × Lsn):Prop where
  aok:spkOk s.1
  ar:s.1.router = 1
  ap:s.1.peers.map Per.router = [2]
  lok:lsnOk s.2
  lr:s.2.router = 2
  lh:∀ h ∈ s.2.heard,h.router = 1
  pi:PI s.1.epoch s.1.last s.1.items (pOf s.1.peers 2) s.2.epoch (gOf s.2.heard 1)
theorem SI.hp {s:Spk × Lsn} (h:SI s):∃ z ∈ s.1.peers,z.router = 2:=by
  have:(2:Int) ∈ s.1.peers.map Per.router:=by rw [h.ap]; simp
  obtain ⟨z,hz,e⟩:=List.mem_map.mp this
  exact ⟨z,hz,e⟩
def rt1 (s:Spk × Lsn) (x:Sig):Spk × Lsn:=((ack s.1 (hear s.2 x).1.2).1,(hear s.2 x).1.1)
def rt (s:Spk × Lsn):Spk × Lsn:=(send s.1 2).1.foldl rt1 s
theorem hearL_epoch {e:Int} {g:Hrd} {x:Sig} {l:List Sig} (h:g.epoch ≤ e) (hx:x.epoch = e) (hl:∀ y ∈ l,y.epoch ≤ e):(hearL g (x :: l)).epoch = e:=
  ((hearL_grows (g:=hearG g x) hl).now (hearG_epoch h hx)).1
theorem Done.agree {a:Spk} {l:Lsn} {q:Int} (ha:spkOk a) (hl:lsnOk l) (hP:PI a.epoch a.last a.items (pOf a.peers q) l.epoch (gOf l.heard a.router)) (hg:(gOf l.heard a.router).epoch = a.epoch ∧ (gOf l.heard a.router).ver = a.last) :
    Go.Proofs.YtglfecmdoekabaaGreatDoor.agree a l ∧ (gOf l.heard a.router).items = a.items ∧ atH l.heard a.router = gOf l.heard a.router ∧ hitH l.heard a.router:=by
  have hh:∃ z ∈ l.heard,z.router = a.router:=by
    refine Classical.byContradiction fun hn=>?_
    have:=gOf_no hl.2.2.2.2 hn
    rw [this] at hg
    have:=hP.e1
    simp only at hg
    omega
  have hit:=(hitH_iff hl.2.2.2.2).mpr hh
  have hat:atH l.heard a.router = gOf l.heard a.router:=by
    unfold atH gOf base
    rw [if_pos hit]
  have hi:=(hP.g4 hg.1).eq hP.io hP.g3 hg.2
  exact ⟨⟨ha,hl,hit,by rw [hat]; exact hg.1,by rw [hat]; exact hg.2,by rw [hat]; exact hi⟩,hi,hat,hit⟩
theorem sendFrom_none {s:Spk} {to acked:Int}:∀ {r:List Itm} {prev:Int},(∀ y ∈ r,y.ver ≤ acked) → sendFrom s to acked prev r = []
  | [],_,_=>rfl
  | y :: r,prev,h=>by
    have:=h y (by simp)
    rw [sendFrom,if_neg (by omega),sendFrom_none fun z hz=>h z (by simp [hz])]
    rfl
theorem settled {s:Spk × Lsn} (h:SI s) (hd:Done s.1.epoch s.1.last (pOf s.1.peers 2) s.2.epoch (gOf s.2.heard 1)) :
    agree s.1 s.2 ∧ (∃ p,s.1.peers = [p] ∧ p.acked = s.1.last) ∧ (send s.1 2).2 = 0 ∧ (send s.1 2).1.length = 1 ∧ knownW s.2 1 = wantsOf s.1.items:=by
  have hP:=h.pi
  have hg:(gOf s.2.heard s.1.router).epoch = s.1.epoch ∧ (gOf s.2.heard s.1.router).ver = s.1.last:=by rw [h.ar]; exact ⟨hd.ge,hd.gv⟩
  obtain ⟨a1,a2,a3,a4⟩:=Done.agree (q:=2) h.aok h.lok (by rw [h.ar]; exact hP) hg
  have hpp:s.1.peers = [pOf s.1.peers 2]:=by
    have:=h.ap
    generalize s.1.peers = ps at this
    cases ps with
    | nil=>simp at this
    | cons p r =>
      simp only [List.map_cons,List.cons.injEq,List.map_eq_nil_iff] at this
      obtain ⟨hp,rfl⟩:=this
      have:=pOf_mem (l:=[p]) (z:=p) (List.pairwise_singleton _ _) (by simp)
      rw [← hp,this]
  obtain ⟨v,w⟩:=send_val h.aok h.hp
  refine ⟨a1,⟨_,hpp,hd.pa⟩,by rw [v],?_,?_⟩
  · rw [v,sendFrom_none fun y hy=>?_]
    · rfl
    · rw [hd.pa]; exact (hP.io.1 y hy).1.2
  · rw [h.ar] at a2 a3 a4
    unfold knownW
    rw [if_pos ⟨h.lok,a4⟩,a3,a2]
end Go.Proofs.YtglfecmdoekabaaGreatDoor

namespace Go.Proofs.YtglfecmdoekabaaGreatDoor
open Go Go.Am
set_option linter.unusedVariables false
set_option linter.unusedSimpArgs false
section
variable {α : Type} {key : α → Int}
theorem getK_set {l:List α} {r q:Int} {d z':α} (ho:l.Pairwise fun x y=>key x < key y) (hr:∃ z ∈ l,key z = r) (hk:key z' = r) (hq:∃ z ∈ l,key z = q) :
    (l.set (posK key l r) z').getD (posK key (l.set (posK key l r) z') q) d = if q = r then z' else l.getD (posK key l q) d:=by
  have ho':=sort_setK (z':=z') ho hr hk
  have hm:=mem_setK (z':=z') ho hr
  by_cases e:q = r
  · rw [if_pos e,e,← hk]
    have h1:z' ∈ l.set (posK key l (key z')) z':=by rw [hk]; exact (hm z').mpr (.inl rfl)
    rw [← hk] at ho'
    exact atK_eq ho' h1
  · rw [if_neg e]
    obtain ⟨z,hz,rfl⟩:=hq
    have h1:=(hm z).mpr (.inr ⟨hz,e⟩)
    rw [atK_eq ho' h1,atK_eq ho hz]
theorem keys_set {l:List α} {r:Int} {z':α} (ho:l.Pairwise fun x y=>key x < key y) (hr:∃ z ∈ l,key z = r) (hk:key z' = r):(l.set (posK key l r) z').map key = l.map key:=by
  obtain ⟨z,hz,hzr⟩:=hr
  obtain ⟨i,hi,rfl⟩:=List.getElem_of_mem hz
  rw [posK_eq ho hi hzr,List.map_set,hk]
  refine List.ext_getElem (by simp) fun j h1 h2=>?_
  rw [List.getElem_set]
  split
  · rename_i e; subst e; simp [hzr]
  · rfl
theorem posK_keys {β:Type} {key':β → Int} {l:List α} {m:List β} (h:l.map key = m.map key') (r:Int):posK key l r = posK key' m r:=by
  have e1:∀ {γ:Type} (k:γ → Int) (l:List γ),posK k l r = (l.map k).findIdx fun y=>!decide (y < r):=fun k l=>by
    unfold posK; rw [List.findIdx_map]; rfl
  rw [e1,e1,h]
theorem mem_keys {l:List α} {r:Int}:r ∈ l.map key ↔ ∃ z ∈ l,key z = r:=by rw [List.mem_map]
theorem getK_mem {l:List α} {r:Int} {d:α} (ho:l.Pairwise fun x y=>key x < key y) (h:r ∈ l.map key):l.getD (posK key l r) d ∈ l ∧ key (l.getD (posK key l r) d) = r:=by
  obtain ⟨z,hz,rfl⟩:=mem_keys.mp h
  rw [atK_eq ho hz]
  exact ⟨hz,rfl⟩
end
theorem nodup_sub {l R:List Int} (h:l.Nodup) (hs:∀ x ∈ l,x ∈ R):l.length ≤ R.length:=by
  induction l generalizing R with
  | nil=>simp
  | cons x l ih =>
    rw [List.nodup_cons] at h
    have hx:=hs x (by simp)
    have:=ih (R:=R.erase x) h.2 fun y hy=>by
      have hne:y ≠ x:=fun e=>h.1 (e ▸ hy)
      exact (List.mem_erase_of_ne hne).mpr (hs y (by simp [hy]))
    rw [List.length_erase_of_mem hx] at this
    have:=List.length_pos_of_mem hx
    simp only [List.length_cons]; omega
structure Ovl where
  sp:List Spk
  ls:List Lsn
  fl:List Sig
  deriving DecidableEq
def spks (l:List Spk):AV:=.sl 5 (l.map Spk.v) false
def lsns (l:List Lsn):AV:=.sl 3 (l.map Lsn.v) false
def Ovl.v (x:Ovl):AV:=.agg [spks x.sp,lsns x.ls,sigs x.fl]
def ovl0:Ovl:=⟨[],[],[]⟩
def rtrs (sp:List Spk):List Int:=sp.map Spk.router
def posS (l:List Spk) (r:Int):Nat:=l.findIdx fun p=>!decide (p.router < r)
def atS (sp:List Spk) (r:Int):Spk:=sp.getD (posS sp r) spk0
def atL (sp:List Spk) (ls:List Lsn) (r:Int):Lsn:=ls.getD (posS sp r) lsn0
def spOk (R:List Int) (s:Spk):Prop:=spkOk s ∧ s.peers.map Per.router = R.filter fun r=>decide (r ≠ s.router)
def lnOk (R:List Int) (l:Lsn):Prop:=lsnOk l ∧ ∀ h ∈ l.heard,h.router ∈ R
structure NetOk (R:List Int) (sp:List Spk) (ls:List Lsn):Prop where
  len:R.length ≤ 12
  spr:sp.map Spk.router = R
  lsr:ls.map Lsn.router = R
  asc:sp.Pairwise fun x y=>x.router < y.router
  spo:∀ s ∈ sp,spOk R s
  lso:∀ l ∈ ls,lnOk R l
def sigIn (R:List Int) (x:Sig):Prop:=sigErr x = 0 ∧ x.src ∈ R ∧ x.dst ∈ R
def ovlOk (o:Ovl):Prop:=NetOk (rtrs o.sp) o.sp o.ls ∧ ∀ x ∈ o.fl,sigIn (rtrs o.sp) x
section
variable {R : List Int} {sp : List Spk} {ls : List Lsn}
theorem NetOk.ascR (h:NetOk R sp ls):R.Pairwise (· < ·):=by rw [← h.spr,List.pairwise_map]; exact h.asc
theorem NetOk.nodup (h:NetOk R sp ls):R.Nodup:=h.ascR.imp fun q=>by omega
theorem NetOk.ascL (h:NetOk R sp ls):ls.Pairwise fun x y=>x.router < y.router:=by
  have:=h.ascR; rw [← h.lsr,List.pairwise_map] at this; exact this
theorem NetOk.posL (h:NetOk R sp ls) (r:Int):posS sp r = posK Lsn.router ls r:=posK_keys (key:=Spk.router) (key':=Lsn.router) (h.spr.trans h.lsr.symm) r
theorem NetOk.s (h:NetOk R sp ls) {r:Int} (hr:r ∈ R):atS sp r ∈ sp ∧ (atS sp r).router = r:=getK_mem (key:=Spk.router) h.asc (by rw [h.spr]; exact hr)
theorem NetOk.l (h:NetOk R sp ls) {r:Int} (hr:r ∈ R):atL sp ls r ∈ ls ∧ (atL sp ls r).router = r:=by
  unfold atL; rw [h.posL]
  exact getK_mem (key:=Lsn.router) h.ascL (by rw [h.lsr]; exact hr)
theorem NetOk.peer (h:NetOk R sp ls) {a b:Int} (ha:a ∈ R) (hb:b ∈ R) (hab:a ≠ b):∃ z ∈ (atS sp a).peers,z.router = b:=by
  obtain ⟨h1,h2⟩:=h.s ha
  refine List.mem_map.mp ?_
  rw [(h.spo _ h1).2,List.mem_filter,h2]
  exact ⟨hb,by simpa using Ne.symm hab⟩
theorem NetOk.room (h:NetOk R sp ls) {b:Int} (hb:b ∈ R):(atL sp ls b).heard.length < 12:=by
  obtain ⟨h1,h2⟩:=h.l hb
  obtain ⟨k1,k2⟩:=h.lso _ h1
  have hn:((atL sp ls b).heard.map Hrd.router).Nodup:=by
    have:=k1.2.2.2.2
    rw [List.Nodup,List.pairwise_map]; exact this.imp fun q=>by omega
  have hc:(b :: (atL sp ls b).heard.map Hrd.router).Nodup:=by
    rw [List.nodup_cons]
    refine ⟨fun q=>?_,hn⟩
    obtain ⟨z,hz,e⟩:=List.mem_map.mp q
    exact (k1.2.2.2.1 z hz).2.1 (e.trans h2.symm)
  have:=nodup_sub hc (R:=R) fun x hx=>by
    rcases List.mem_cons.mp hx with rfl | hx
    · exact hb
    · obtain ⟨z,hz,rfl⟩:=List.mem_map.mp hx
      exact k2 z hz
  have:=h.len
  simp only [List.length_cons,List.length_map] at *
  omega
end
abbrev Rnd:=(List Spk × List Lsn) × List Sig
def deliver (s:Rnd) (x:Sig):Rnd:=
  if x.kind = 3 then (if (ack (atS s.1.1 x.dst) x).2 = 0 then ((s.1.1.set (posS s.1.1 x.dst) (ack (atS s.1.1 x.dst) x).1,s.1.2),s.2) else s)
  else if (hear (atL s.1.1 s.1.2 x.dst) x).2 = 0 then ((s.1.1,s.1.2.set (posS s.1.1 x.dst) (hear (atL s.1.1 s.1.2 x.dst) x).1.1),s.2 ++ [(hear (atL s.1.1 s.1.2 x.dst) x).1.2]) else s
def ansOf (a b le:Int) (g:Hrd):Sig:=⟨3,b,a,g.epoch,g.ver,0,le,0,0,[]⟩
structure Dlv (R:List Int) (s s':Rnd) (x:Sig):Prop where
  net:NetOk R s'.1.1 s'.1.2
  epoch:∀ a ∈ R,(atS s'.1.1 a).epoch = (atS s.1.1 a).epoch
  last:∀ a ∈ R,(atS s'.1.1 a).last = (atS s.1.1 a).last
  items:∀ a ∈ R,(atS s'.1.1 a).items = (atS s.1.1 a).items
  le:∀ b ∈ R,(atL s'.1.1 s'.1.2 b).epoch = (atL s.1.1 s.1.2 b).epoch
  p:∀ a ∈ R,∀ b ∈ R,a ≠ b → pOf (atS s'.1.1 a).peers b = if x.kind = 3 ∧ x.dst = a ∧ x.src = b then ackP (atS s.1.1 a) x (pOf (atS s.1.1 a).peers b) else pOf (atS s.1.1 a).peers b
  g:∀ a ∈ R,∀ b ∈ R,a ≠ b → gOf (atL s'.1.1 s'.1.2 b).heard a = if x.kind ≠ 3 ∧ x.src = a ∧ x.dst = b then hearG (gOf (atL s.1.1 s.1.2 b).heard a) x else gOf (atL s.1.1 s.1.2 b).heard a
  out:s'.2 = s.2 ++ if x.kind = 3 then [] else [ansOf x.src x.dst (atL s.1.1 s.1.2 x.dst).epoch (hearG (gOf (atL s.1.1 s.1.2 x.dst).heard x.src) x)]
  outk:∀ y ∈ s'.2,y ∈ s.2 ∨ sigIn R y
theorem deliver_ok {R:List Int} {s:Rnd} {x:Sig} (h:NetOk R s.1.1 s.1.2) (hx:sigIn R x):Dlv R s (deliver s x) x:=by
  obtain ⟨⟨sp,ls⟩,out⟩:=s
  obtain ⟨x1,x2,x3⟩:=hx
  have hne:x.src ≠ x.dst:=(sig_ends x1).2.2
  simp only at h
  by_cases hk:x.kind = 3
  · obtain ⟨h1,h2⟩:=h.s x3
    obtain ⟨k1,k2⟩:=h.spo _ h1
    have hp:=h.peer x3 x2 (Ne.symm hne)
    obtain ⟨e1,e2⟩:=ack_val k1 x1 hk h2.symm hp
    have hd:deliver ((sp,ls),out) x = ((sp.set (posS sp x.dst) (ack (atS sp x.dst) x).1,ls),out):=by
      unfold deliver; rw [if_pos hk,if_pos e1]
    rw [hd]
    generalize hz:(ack (atS sp x.dst) x).1 = z at *
    have hzr:z.router = x.dst:=e2.router.trans h2
    have hr:∃ w ∈ sp,w.router = x.dst:=⟨_,h1,h2⟩
    have hat:∀ a ∈ R,atS (sp.set (posS sp x.dst) z) a = if a = x.dst then z else atS sp a:=fun a ha =>
      getK_set (key:=Spk.router) (d:=spk0) h.asc hr hzr (by rw [← h.spr] at ha; exact mem_keys.mp ha)
    have hkeys:(sp.set (posS sp x.dst) z).map Spk.router = sp.map Spk.router:=keys_set (key:=Spk.router) h.asc hr hzr
    have hat2:∀ b,atL (sp.set (posS sp x.dst) z) ls b = atL sp ls b:=fun b=>by
      unfold atL
      rw [show posS (sp.set (posS sp x.dst) z) b = posS sp b from posK_keys (key:=Spk.router) (key':=Spk.router) hkeys b]
    refine ⟨⟨h.len,hkeys.trans h.spr,h.lsr,sort_setK (key:=Spk.router) h.asc hr hzr,fun w hw=>?_,h.lso⟩,fun a ha=>?_,fun a ha=>?_,fun a ha=>?_,fun b _=>by simp only [hat2],fun a ha b hb hab=>?_,fun a ha b hb hab=>?_,by rw [if_pos hk,List.append_nil],fun y hy=>.inl hy⟩
    · rcases (mem_setK (key:=Spk.router) h.asc hr w).mp hw with rfl | ⟨hw,_⟩
      · exact ⟨e2.ok,by rw [e2.routers,k2,e2.router]⟩
      · exact h.spo w hw
    · simp only [hat a ha]; split
      · rename_i e; rw [e,e2.epoch]
      · rfl
    · simp only [hat a ha]; split
      · rename_i e; rw [e,e2.last]
      · rfl
    · simp only [hat a ha]; split
      · rename_i e; rw [e,e2.items]
      · rfl
    · simp only [hat a ha]
      by_cases ea:a = x.dst
      · rw [if_pos ea,ea]
        by_cases eb:x.src = b
        · rw [if_pos ⟨hk,rfl,eb⟩,← eb]; exact e2.self k1 hp
        · rw [if_neg fun q=>eb q.2.2]
          exact e2.other k1 (Ne.symm eb) (h.peer x3 hb (by rw [← ea]; exact hab))
      · rw [if_neg ea,if_neg fun q=>ea q.2.1.symm]
    · simp only [hat2]
      rw [if_neg fun q=>q.1 hk]
  · obtain ⟨h1,h2⟩:=h.l x3
    obtain ⟨k1,k2⟩:=h.lso _ h1
    obtain ⟨e1,e2⟩:=hear_val k1 x1 hk h2.symm (.inr (h.room x3))
    have hao:=e2.ans_ok k1 x1 h2.symm
    have hd:deliver ((sp,ls),out) x = ((sp,ls.set (posS sp x.dst) (hear (atL sp ls x.dst) x).1.1),out ++ [(hear (atL sp ls x.dst) x).1.2]):=by
      unfold deliver; rw [if_neg hk,if_pos e1]
    rw [hd]
    have ha:=e2.ans
    generalize hz:(hear (atL sp ls x.dst) x).1.1 = z at *
    generalize hy:(hear (atL sp ls x.dst) x).1.2 = y at *
    have hzr:z.router = x.dst:=e2.router.trans h2
    have hr:∃ w ∈ ls,w.router = x.dst:=⟨_,h1,h2⟩
    have hpos:=h.posL x.dst
    have hkeys:(ls.set (posS sp x.dst) z).map Lsn.router = ls.map Lsn.router:=by rw [hpos]; exact keys_set (key:=Lsn.router) h.ascL hr hzr
    have hat:∀ b ∈ R,atL sp (ls.set (posS sp x.dst) z) b = if b = x.dst then z else atL sp ls b:=fun b hb=>by
      unfold atL
      rw [show posS sp b = posK Lsn.router (ls.set (posS sp x.dst) z) b from posK_keys (key:=Spk.router) (key':=Lsn.router) (h.spr.trans (h.lsr.symm.trans hkeys.symm)) b,hpos]
      rw [getK_set (key:=Lsn.router) (d:=lsn0) h.ascL hr hzr (by rw [← h.lsr] at hb; exact mem_keys.mp hb)]
      rw [← hpos,show posK Lsn.router ls b = posK Lsn.router ls b from rfl]
      by_cases e:b = x.dst
      · rw [if_pos e,if_pos e]
      · rw [if_neg e,if_neg e,← h.posL b]
        congr 1
        exact (posK_keys (key:=Spk.router) (key':=Lsn.router) (h.spr.trans (h.lsr.symm.trans hkeys.symm)) b)
    refine ⟨⟨h.len,h.spr,hkeys.trans h.lsr,h.asc,h.spo,fun w hw=>?_⟩,fun a _=>rfl,fun a _=>rfl,fun a _=>rfl,fun b hb=>?_,fun a _ b _ _=>by rw [if_neg fun q=>hk q.1],fun a ha' b hb hab=>?_,?_,fun w hw=>?_⟩
    · rw [hpos] at hw
      rcases (mem_setK (key:=Lsn.router) h.ascL hr w).mp hw with rfl | ⟨hw,_⟩
      · refine ⟨e2.ok,fun q hq=>?_⟩
        rcases (e2.mem q).mp hq with rfl | ⟨hq,_⟩
        · rw [hearG_router (gOf_router k1.2.2.2.2)]; exact x2
        · exact k2 q hq
      · exact h.lso w hw
    · simp only [hat b hb]; split
      · rename_i e; rw [e,e2.epoch]
      · rfl
    · simp only [hat b hb]
      by_cases eb:b = x.dst
      · rw [if_pos eb,eb]
        by_cases ea:x.src = a
        · rw [if_pos ⟨hk,ea,rfl⟩,← ea]; exact e2.self k1
        · rw [if_neg fun q=>ea q.2.1]
          exact e2.other k1 (Ne.symm ea)
      · rw [if_neg eb,if_neg fun q=>eb q.2.2.symm]
    · rw [if_neg hk,ha,h2]; rfl
    · rcases List.mem_append.mp hw with hw | hw
      · exact .inl hw
      · rw [List.mem_singleton] at hw
        subst hw
        exact .inr ⟨hao,by rw [ha]; simp only; rw [h2]; exact x3,by rw [ha]; exact x2⟩
def isTell (a b:Int) (x:Sig):Bool:=decide (x.kind ≠ 3 ∧ x.src = a ∧ x.dst = b)
def isAck (a b:Int) (x:Sig):Bool:=decide (x.kind = 3 ∧ x.dst = a ∧ x.src = b)
def ansL (a b le:Int):Hrd → List Sig → List Sig
  | _,[]=>[]
  | g,x :: l=>ansOf a b le (hearG g x) :: ansL a b le (hearG g x) l
def ackL (s:Spk) (p:Per) (l:List Sig):Per:=l.foldl (fun p x=>ackP s x p) p
theorem ackP_cong {a b:Spk} {x:Sig} {p:Per} (h1:a.epoch = b.epoch) (h2:a.last = b.last):ackP a x p = ackP b x p:=by
  unfold ackP ackV; rw [h1,h2]
theorem ackL_cong {a b:Spk} (h1:a.epoch = b.epoch) (h2:a.last = b.last):∀ {l:List Sig} {p:Per},ackL a p l = ackL b p l
  | [],_=>rfl
  | x :: l,p=>by
    show ackL a (ackP a x p) l = ackL b (ackP b x p) l
    rw [ackP_cong h1 h2]; exact ackL_cong h1 h2
structure Dlvs (R:List Int) (s s':Rnd) (l:List Sig):Prop where
  net:NetOk R s'.1.1 s'.1.2
  epoch:∀ a ∈ R,(atS s'.1.1 a).epoch = (atS s.1.1 a).epoch
  last:∀ a ∈ R,(atS s'.1.1 a).last = (atS s.1.1 a).last
  items:∀ a ∈ R,(atS s'.1.1 a).items = (atS s.1.1 a).items
  le:∀ b ∈ R,(atL s'.1.1 s'.1.2 b).epoch = (atL s.1.1 s.1.2 b).epoch
  p:∀ a ∈ R,∀ b ∈ R,a ≠ b → pOf (atS s'.1.1 a).peers b = ackL (atS s.1.1 a) (pOf (atS s.1.1 a).peers b) (l.filter (isAck a b))
  g:∀ a ∈ R,∀ b ∈ R,a ≠ b → gOf (atL s'.1.1 s'.1.2 b).heard a = hearL (gOf (atL s.1.1 s.1.2 b).heard a) (l.filter (isTell a b))
  acks:∀ a ∈ R,∀ b ∈ R,a ≠ b → s'.2.filter (isAck a b) = s.2.filter (isAck a b) ++ ansL a b (atL s.1.1 s.1.2 b).epoch (gOf (atL s.1.1 s.1.2 b).heard a) (l.filter (isTell a b))
  tells:∀ a ∈ R,∀ b ∈ R,a ≠ b → s'.2.filter (isTell a b) = s.2.filter (isTell a b)
  outk:∀ y ∈ s'.2,y ∈ s.2 ∨ sigIn R y
theorem delivers_ok {R:List Int}:∀ {l:List Sig} {s:Rnd},NetOk R s.1.1 s.1.2 → (∀ x ∈ l,sigIn R x) → Dlvs R s (l.foldl deliver s) l
  | [],s,h,_=>⟨h,fun _ _=>rfl,fun _ _=>rfl,fun _ _=>rfl,fun _ _=>rfl,fun _ _ _ _ _=>rfl,fun _ _ _ _ _=>rfl,fun _ _ _ _ _=>by simp [ansL],fun _ _ _ _ _=>rfl,fun _ hy=>.inl hy⟩
  | x :: l,s,h,hl=>by
    have d:=deliver_ok h (hl x (by simp))
    have r:=delivers_ok (l:=l) d.net fun y hy=>hl y (by simp [hy])
    rw [List.foldl_cons]
    generalize deliver s x = s1 at *
    generalize l.foldl deliver s1 = s2 at *
    refine ⟨r.net,fun a ha=>(r.epoch a ha).trans (d.epoch a ha),fun a ha=>(r.last a ha).trans (d.last a ha),fun a ha=>(r.items a ha).trans (d.items a ha),fun b hb=>(r.le b hb).trans (d.le b hb),fun a ha b hb hab=>?_,fun a ha b hb hab=>?_,fun a ha b hb hab=>?_,fun a ha b hb hab=>?_,fun y hy=>?_⟩
    · rw [r.p a ha b hb hab,d.p a ha b hb hab,ackL_cong (d.epoch a ha) (d.last a ha),List.filter_cons]
      by_cases c:x.kind = 3 ∧ x.dst = a ∧ x.src = b
      · rw [if_pos c,if_pos (show isAck a b x = true from decide_eq_true c)]; rfl
      · rw [if_neg c,if_neg (show ¬ isAck a b x = true from fun q=>c (of_decide_eq_true q))]
    · rw [r.g a ha b hb hab,d.g a ha b hb hab,List.filter_cons]
      by_cases c:x.kind ≠ 3 ∧ x.src = a ∧ x.dst = b
      · rw [if_pos c,if_pos (show isTell a b x = true from decide_eq_true c)]; rfl
      · rw [if_neg c,if_neg (show ¬ isTell a b x = true from fun q=>c (of_decide_eq_true q))]
    · rw [r.acks a ha b hb hab,d.g a ha b hb hab,d.le b hb,d.out,List.filter_append,List.filter_cons]
      by_cases c:x.kind ≠ 3 ∧ x.src = a ∧ x.dst = b
      · rw [if_pos c,if_pos (show isTell a b x = true from decide_eq_true c),if_neg c.1]
        obtain ⟨c1,rfl,rfl⟩:=c
        simp [ansL,ansOf,isAck]
      · rw [if_neg c,if_neg (show ¬ isTell a b x = true from fun q=>c (of_decide_eq_true q))]
        by_cases k:x.kind = 3
        · rw [if_pos k]; simp
        · rw [if_neg k]
          have:List.filter (isAck a b) [ansOf x.src x.dst (atL s.1.1 s.1.2 x.dst).epoch (hearG (gOf (atL s.1.1 s.1.2 x.dst).heard x.src) x)] = []:=by
            rw [List.filter_eq_nil_iff]
            intro y hy
            rw [List.mem_singleton] at hy
            subst hy
            intro q
            have q:=of_decide_eq_true q
            exact c ⟨k,q.2.1,q.2.2⟩
          rw [this,List.append_nil]
    · rw [r.tells a ha b hb hab,d.out,List.filter_append]
      have:List.filter (isTell a b) (if x.kind = 3 then [] else [ansOf x.src x.dst (atL s.1.1 s.1.2 x.dst).epoch (hearG (gOf (atL s.1.1 s.1.2 x.dst).heard x.src) x)]) = []:=by
        rw [List.filter_eq_nil_iff]
        intro y hy
        split at hy
        · simp at hy
        · rw [List.mem_singleton] at hy
          subst hy
          intro q
          exact (of_decide_eq_true q).1 rfl
      rw [this,List.append_nil]
    · rcases r.outk y hy with hy | hy
      · exact d.outk y hy
      · exact .inr hy
def sends1 (s:Spk):List Sig:=s.peers.flatMap fun p=>(send s p.router).1
def sends (sp:List Spk):List Sig:=sp.flatMap sends1
theorem filter_flat_none {α β:Type} {f:α → List β} {q:β → Bool} {l:List α} (h:∀ x ∈ l,∀ y ∈ f x,q y = false):(l.flatMap f).filter q = []:=by
  rw [List.filter_eq_nil_iff]
  intro y hy
  obtain ⟨x,hx,hy⟩:=List.mem_flatMap.mp hy
  rw [h x hx y hy]; simp
theorem filter_flat_one {α β:Type} {f:α → List β} {q:β → Bool} {key:α → Int}:∀ {l:List α},(l.map key).Nodup → ∀ {z:α},z ∈ l → (∀ x ∈ l,key x ≠ key z → ∀ y ∈ f x,q y = false) → (l.flatMap f).filter q = (f z).filter q
  | x :: l,hn,z,hz,h=>by
    rw [List.flatMap_cons,List.filter_append]
    rw [List.map_cons,List.nodup_cons] at hn
    by_cases e:key x = key z
    · have:∀ w ∈ l,key w ≠ key z:=fun w hw q=>hn.1 (by rw [e,← q]; exact List.mem_map.mpr ⟨w,hw,rfl⟩)
      rcases List.mem_cons.mp hz with rfl | hz
      · rw [filter_flat_none fun w hw=>h w (by simp [hw]) (this w hw),List.append_nil]
      · exact absurd rfl (this z hz)
    · have hz:z ∈ l:=by
        rcases List.mem_cons.mp hz with rfl | hz
        · exact absurd rfl e
        · exact hz
      rw [filter_flat_one hn.2 hz fun w hw=>h w (by simp [hw])]
      have:List.filter q (f x) = []:=by
        rw [List.filter_eq_nil_iff]; intro y hy; rw [h x (by simp) e y hy]; simp
      rw [this,List.nil_append]
theorem sends_tells {R:List Int} {sp:List Spk} {ls:List Lsn} (h:NetOk R sp ls) {a b:Int} (ha:a ∈ R) (hb:b ∈ R) (hab:a ≠ b):(sends sp).filter (isTell a b) = (send (atS sp a) b).1:=by
  obtain ⟨h1,h2⟩:=h.s ha
  have sent:∀ s ∈ sp,∀ p ∈ s.peers,∀ y ∈ (send s p.router).1,Sent s p.router y:=fun s hs p hp=>(send_val (h.spo s hs).1 ⟨p,hp,rfl⟩).2
  have hn:(sp.map Spk.router).Nodup:=by rw [h.spr]; exact h.nodup
  unfold sends
  rw [filter_flat_one (key:=Spk.router) hn h1 fun s hs hne y hy=>by
    obtain ⟨p,hp,hy⟩:=List.mem_flatMap.mp hy
    have q:=(sent s hs p hp y hy).src
    exact decide_eq_false fun c=>hne (by rw [h2,← q,c.2.1])]
  obtain ⟨z,hz,hzb⟩:=h.peer ha hb hab
  have hpn:((atS sp a).peers.map Per.router).Nodup:=by
    have:=(h.spo _ h1).1.2.2.2.2.2.2
    rw [List.Nodup,List.pairwise_map]; exact this.imp fun q=>by omega
  unfold sends1
  rw [filter_flat_one (key:=Per.router) hpn hz fun p hp hne y hy=>by
    have q:=(sent _ h1 p hp y hy).dst
    exact decide_eq_false fun c=>hne (by rw [hzb,← q,c.2.2])]
  rw [hzb,List.filter_eq_self]
  intro y hy
  have q:=sent _ h1 z hz y (by rw [hzb]; exact hy)
  exact decide_eq_true ⟨q.kind,q.src.trans h2,q.dst.trans hzb⟩
theorem mem_sends {R:List Int} {sp:List Spk} {ls:List Lsn} (h:NetOk R sp ls) {x:Sig} (hx:x ∈ sends sp):∃ a ∈ R,∃ b ∈ R,a ≠ b ∧ Sent (atS sp a) b x:=by
  obtain ⟨s,hs,hx⟩:=List.mem_flatMap.mp hx
  obtain ⟨p,hp,hx⟩:=List.mem_flatMap.mp hx
  have q:=(send_val (h.spo s hs).1 ⟨p,hp,rfl⟩).2 x hx
  have hr:s.router ∈ R:=by rw [← h.spr]; exact List.mem_map.mpr ⟨s,hs,rfl⟩
  have hb:p.router ∈ R.filter fun r=>decide (r ≠ s.router):=by rw [← (h.spo s hs).2]; exact List.mem_map.mpr ⟨p,hp,rfl⟩
  rw [List.mem_filter] at hb
  refine ⟨s.router,hr,p.router,hb.1,Ne.symm (of_decide_eq_true hb.2),?_⟩
  have:atS sp s.router = s:=atK_eq (key:=Spk.router) h.asc hs
  rw [this]; exact q
theorem sends_acks {R:List Int} {sp:List Spk} {ls:List Lsn} (h:NetOk R sp ls) (a b:Int):(sends sp).filter (isAck a b) = []:=by
  rw [List.filter_eq_nil_iff]
  intro x hx q
  obtain ⟨_,_,_,_,_,s⟩:=mem_sends h hx
  exact s.kind (of_decide_eq_true q).1
end Go.Proofs.YtglfecmdoekabaaGreatDoor

namespace Go.Proofs.YtglfecmdoekabaaGreatDoor
open Go Go.Am
set_option linter.unusedVariables false
set_option linter.unusedSimpArgs false
structure Fau where
  kind:Int
  pos:Int
def Fau.v (x:Fau):AV:=.agg [.int x.kind,.int x.pos]
def arrK (l late:List Sig) (k:Int) (n:Nat) (x:Sig):List Sig × List Sig:=
  if k = 1 then (l.take n ++ l.drop (n + 1),late)
  else if k = 2 then (l.take n ++ [x,x] ++ l.drop (n + 1),late)
  else if k = 3 then (l.take n ++ l.drop (n + 1),late ++ [x])
  else if k = 4 then (if n + 1 < l.length then ((l.set n (l.getD (n + 1) sig0)).set (n + 1) x,late) else (l,late))
  else (l,late)
def arr1 (s:List Sig × List Sig) (f:Fau):List Sig × List Sig:=
  if f.pos < 0 ∨ (s.1.length:Int) ≤ f.pos then s else arrK s.1 s.2 f.kind f.pos.toNat (s.1.getD f.pos.toNat sig0)
def arr (l:List Sig) (f:List Fau):List Sig × List Sig:=f.foldl arr1 (l,[])
theorem arr1_mem {P:Sig → Prop} {s:List Sig × List Sig} {f:Fau} (h1:∀ x ∈ s.1,P x) (h2:∀ x ∈ s.2,P x):(∀ x ∈ (arr1 s f).1,P x) ∧ ∀ x ∈ (arr1 s f).2,P x:=by
  obtain ⟨l,late⟩:=s
  unfold arr1
  split
  · exact ⟨h1,h2⟩
  rename_i c
  simp only at c h1 h2 ⊢
  have hg:∀ n:Nat,n < l.length → P (l.getD n sig0):=fun n hn=>by
    rw [List.getD_eq_getElem?_getD,List.getElem?_eq_getElem hn]
    exact h1 _ (List.getElem_mem hn)
  have hx:=hg f.pos.toNat (by omega)
  generalize l.getD f.pos.toNat sig0 = x at *
  generalize f.pos.toNat = n at *
  have hd:∀ y ∈ l.take n ++ l.drop (n + 1),P y:=fun y hy=>by
    rcases List.mem_append.mp hy with hy | hy
    · exact h1 y (List.mem_of_mem_take hy)
    · exact h1 y (List.mem_of_mem_drop hy)
  unfold arrK
  split
  · exact ⟨hd,h2⟩
  split
  · refine ⟨fun y hy=>?_,h2⟩
    simp only [List.mem_append,List.mem_cons,List.not_mem_nil,or_false] at hy
    rcases hy with (hy | rfl | rfl) | hy
    · exact h1 y (List.mem_of_mem_take hy)
    · exact hx
    · exact hx
    · exact h1 y (List.mem_of_mem_drop hy)
  split
  · refine ⟨hd,fun y hy=>?_⟩
    rcases List.mem_append.mp hy with hy | hy
    · exact h2 y hy
    · rw [List.mem_singleton] at hy; subst hy; exact hx
  split
  · split
    · rename_i q
      refine ⟨fun y hy=>?_,h2⟩
      rcases List.mem_or_eq_of_mem_set hy with hy | rfl
      · rcases List.mem_or_eq_of_mem_set hy with hy | rfl
        · exact h1 y hy
        · exact hg _ q
      · exact hx
    · exact ⟨h1,h2⟩
  · exact ⟨h1,h2⟩
theorem arrs_mem {P:Sig → Prop}:∀ {f:List Fau} {s:List Sig × List Sig},(∀ x ∈ s.1,P x) → (∀ x ∈ s.2,P x) → (∀ x ∈ (f.foldl arr1 s).1,P x) ∧ ∀ x ∈ (f.foldl arr1 s).2,P x
  | [],_,h1,h2=>⟨h1,h2⟩
  | f :: fs,s,h1,h2=>by
    obtain ⟨a,b⟩:=arr1_mem (f:=f) h1 h2
    exact arrs_mem (f:=fs) a b
theorem arr_mem {P:Sig → Prop} {l:List Sig} {f:List Fau} (h:∀ x ∈ l,P x):(∀ x ∈ (arr l f).1,P x) ∧ ∀ x ∈ (arr l f).2,P x:=arrs_mem h (by simp)
def roundN (o:Ovl) (now late:List Sig):Ovl:=
  ⟨(now.foldl deliver ((o.sp,o.ls),late)).1.1,(now.foldl deliver ((o.sp,o.ls),late)).1.2,(now.foldl deliver ((o.sp,o.ls),late)).2 ++ sends (now.foldl deliver ((o.sp,o.ls),late)).1.1⟩
instance (R:List Int) (s:Spk):Decidable (spOk R s):=by unfold spOk; exact inferInstance
instance (R:List Int) (l:Lsn):Decidable (lnOk R l):=by unfold lnOk; exact inferInstance
instance (R:List Int) (x:Sig):Decidable (sigIn R x):=by unfold sigIn; exact inferInstance
instance (R:List Int) (sp:List Spk) (ls:List Lsn):Decidable (NetOk R sp ls):=
  decidable_of_iff (R.length ≤ 12 ∧ sp.map Spk.router = R ∧ ls.map Lsn.router = R ∧ (sp.Pairwise fun x y=>x.router < y.router) ∧ (∀ s ∈ sp,spOk R s) ∧ ∀ l ∈ ls,lnOk R l)
    ⟨fun ⟨a,b,c,d,e,f⟩=>⟨a,b,c,d,e,f⟩,fun ⟨a,b,c,d,e,f⟩=>⟨a,b,c,d,e,f⟩⟩
instance (o:Ovl):Decidable (ovlOk o):=by unfold ovlOk; exact inferInstance
def roundO (o:Ovl) (f:List Fau):Ovl × Int:=if ¬ ovlOk o then (ovl0,1) else (roundN o (arr o.fl f).1 (arr o.fl f).2,0)
def ep (o:Ovl) (a:Int):Int:=(atS o.sp a).epoch
def la (o:Ovl) (a:Int):Int:=(atS o.sp a).last
def it (o:Ovl) (a:Int):List Itm:=(atS o.sp a).items
def pe (o:Ovl) (a b:Int):Per:=pOf (atS o.sp a).peers b
def le (o:Ovl) (b:Int):Int:=(atL o.sp o.ls b).epoch
def he (o:Ovl) (a b:Int):Hrd:=gOf (atL o.sp o.ls b).heard a
def tells (o:Ovl) (a b:Int):List Sig:=o.fl.filter (isTell a b)
def acks (o:Ovl) (a b:Int):List Sig:=o.fl.filter (isAck a b)
structure Round (R:List Int) (o o':Ovl) (now late:List Sig):Prop where
  net:NetOk R o'.sp o'.ls
  fl:∀ x ∈ o'.fl,sigIn R x
  ep:∀ a ∈ R,ep o' a = ep o a
  la:∀ a ∈ R,la o' a = la o a
  it:∀ a ∈ R,it o' a = it o a
  le:∀ b ∈ R,le o' b = le o b
  p:∀ a ∈ R,∀ b ∈ R,a ≠ b → pe o' a b = ackL (atS o.sp a) (pe o a b) (now.filter (isAck a b))
  g:∀ a ∈ R,∀ b ∈ R,a ≠ b → he o' a b = hearL (he o a b) (now.filter (isTell a b))
  acks:∀ a ∈ R,∀ b ∈ R,a ≠ b → acks o' a b = late.filter (isAck a b) ++ ansL a b (Go.Proofs.YtglfecmdoekabaaGreatDoor.le o b) (he o a b) (now.filter (isTell a b))
  tells:∀ a ∈ R,∀ b ∈ R,a ≠ b → tells o' a b = late.filter (isTell a b) ++ (send (atS o'.sp a) b).1
theorem roundN_ok {R:List Int} {o:Ovl} (h:NetOk R o.sp o.ls) {now late:List Sig} (h1:∀ x ∈ now,sigIn R x) (h2:∀ x ∈ late,sigIn R x):Round R o (roundN o now late) now late:=by
  have d:=delivers_ok (l:=now) (s:=((o.sp,o.ls),late)) h h1
  unfold roundN
  generalize now.foldl deliver ((o.sp,o.ls),late) = s at *
  refine ⟨d.net,fun x hx=>?_,d.epoch,d.last,d.items,d.le,d.p,d.g,fun a ha b hb hab=>?_,fun a ha b hb hab=>?_⟩
  · rcases List.mem_append.mp hx with hx | hx
    · rcases d.outk x hx with hx | hx
      · exact h2 x hx
      · exact hx
    · obtain ⟨a,ha,b,hb,_,q⟩:=mem_sends d.net hx
      exact ⟨q.ok,by rw [q.src,(d.net.s ha).2]; exact ha,by rw [q.dst]; exact hb⟩
  · show List.filter _ (s.2 ++ sends s.1.1) = _
    rw [List.filter_append,sends_acks d.net,List.append_nil,d.acks a ha b hb hab]; rfl
  · show List.filter _ (s.2 ++ sends s.1.1) = _
    rw [List.filter_append,sends_tells d.net ha hb hab,d.tells a ha b hb hab]
section
variable {e n : Int} {its : List Itm} {p : Per} {le : Int} {g : Hrd}
theorem sig_ver {x:Sig} (hx:sigErr x = 0):0 ≤ x.ver:=by
  by_cases hk:x.kind = 3
  · unfold sigErr at hx
    split at hx
    · omega
    split at hx
    · omega
    rename_i h
    have h:=(Classical.not_not.mp h).2
    unfold sigNums at h
    rw [if_neg (by omega),if_neg (by omega)] at h
    exact h.2.1.1
  · exact (sig_told hx hk).2.1.1
def Tells (e n:Int) (its:List Itm) (l:List Sig):Prop:=∀ x ∈ l,sigErr x = 0 ∧ x.kind ≠ 3 ∧ TellOk e n its x
def AcksOk (e le:Int) (g:Hrd) (l:List Sig):Prop:=∀ x ∈ l,sigErr x = 0 ∧ AckOk e le g x
theorem AcksOk.grow {l:List Sig} (h:AcksOk e le g l) {g':Hrd} (hg:Grows e g g'):AcksOk e le g' l:=fun x hx=>⟨(h x hx).1,(h x hx).2.grow hg⟩
theorem Tells.ep {l:List Sig} (h:Tells e n its l):∀ x ∈ l,x.epoch ≤ e:=fun x hx=>(h x hx).2.2.ep
theorem PI.hears:∀ {l:List Sig} {g:Hrd},PI e n its p le g → Tells e n its l → PI e n its p le (hearL g l)
  | [],_,h,_=>h
  | x :: l,g,h,hl=>PI.hears (l:=l) (h.hear (hl x (by simp)).1 (hl x (by simp)).2.1 (hl x (by simp)).2.2) fun y hy=>hl y (by simp [hy])
theorem PI.acks {a:Spk} (h1:a.epoch = e) (h2:a.last = n):∀ {l:List Sig} {p:Per},PI e n its p le g → AcksOk e le g l → PI e n its (ackL a p l) le g
  | [],_,h,_=>h
  | x :: l,p,h,hl=>PI.acks h1 h2 (l:=l) (h.ack h1 h2 (hl x (by simp)).2 (sig_ver (hl x (by simp)).1)) fun y hy=>hl y (by simp [hy])
theorem ansL_ok {a b:Int} (ha:1 ≤ a ∧ a ≤ 99) (hb:1 ≤ b ∧ b ≤ 99) (hab:a ≠ b) (hle:1 ≤ le ∧ le ≤ 1000000) (hE:e ≤ 1000000) :
    ∀ {l:List Sig} {g:Hrd},PI e n its p le g → (∀ q:Hrd,PI e n its p le q → q.ver ≤ 1000000 → ∀ x ∈ l,(hearG q x).ver ≤ 1000000) → g.ver ≤ 1000000 → Tells e n its l → AcksOk e le (hearL g l) (ansL a b le g l)
  | [],_,_,_,_,_=>fun x hx=>by simp [ansL] at hx
  | x :: l,g,h,hv,hg,hl=>by
    obtain ⟨l1,l2,l3⟩:=hl x (by simp)
    have h':=h.hear l1 l2 l3
    have hv':=hv g h hg x (by simp)
    have r:=ansL_ok ha hb hab hle hE (l:=l) h' (fun q hq hqv y hy=>hv q hq hqv y (by simp [hy])) hv' fun y hy=>hl y (by simp [hy])
    intro y hy
    rcases List.mem_cons.mp hy with rfl | hy
    · refine ⟨ans_err hb ha (Ne.symm hab) ⟨h'.g1.1,by have:=h'.g1.2; omega⟩ ⟨h'.g2,hv'⟩ hle,?_⟩
      exact (h'.answer (r:=b) (q:=a)).grow (hearL_grows fun z hz=>(hl z (by simp [hz])).2.2.ep)
    · exact r y hy
theorem hearG_ver {x:Sig} (hx:sigErr x = 0) (hk:x.kind ≠ 3) (h:g.ver ≤ 1000000):(hearG g x).ver ≤ 1000000:=by
  have:=(sig_told hx hk).2.1.2
  unfold hearG hear1 hear0
  split <;> split <;> (try simp only) <;> omega
theorem ansL_last {a b:Int}:∀ {l:List Sig} {g:Hrd},l ≠ [] → ∃ i,ansL a b le g l = i ++ [ansOf a b le (hearL g l)]
  | [x],g,_=>⟨[],rfl⟩
  | x :: y :: l,g,_=>by
    obtain ⟨i,hi⟩:=ansL_last (l:=y :: l) (g:=hearG g x) (by simp)
    exact ⟨ansOf a b le (hearG g x) :: i,by rw [ansL,hi]; rfl⟩
theorem ansL_pep {a b:Int}:∀ {l:List Sig} {g:Hrd},∀ x ∈ ansL a b le g l,x.pep = le
  | [],_,x,hx=>by simp [ansL] at hx
  | y :: l,g,x,hx=>by
    rcases List.mem_cons.mp hx with rfl | hx
    · rfl
    · exact ansL_pep (l:=l) x hx
theorem ackL_le {a:Spk}:∀ {l:List Sig} {p:Per},p.epoch ≤ le → (∀ x ∈ l,x.pep ≤ le) → (ackL a p l).epoch ≤ le ∧ p.epoch ≤ (ackL a p l).epoch
  | [],p,h,_=>⟨h,Int.le_refl _⟩
  | x :: l,p,h,hl=>by
    have hx:=hl x (by simp)
    have h':(ackP a x p).epoch ≤ le ∧ p.epoch ≤ (ackP a x p).epoch:=by
      unfold ackP
      split
      · exact ⟨hx,by simp only; omega⟩
      split
      · exact ⟨h,Int.le_refl _⟩
      · exact ⟨h,Int.le_refl _⟩
    have:=ackL_le (a:=a) (l:=l) h'.1 fun y hy=>hl y (by simp [hy])
    exact ⟨this.1,Int.le_trans h'.2 this.2⟩
theorem ackL_now {a:Spk} {l:List Sig} {p:Per} (hn:l ≠ []) (h:p.epoch ≤ le) (hl:∀ x ∈ l,x.pep = le):(ackL a p l).epoch = le:=by
  cases l with
  | nil=>exact absurd rfl hn
  | cons x l =>
    have hx:=hl x (by simp)
    have h':(ackP a x p).epoch = le:=by
      unfold ackP
      split
      · exact hx
      split
      · simp only; omega
      · omega
    have:=ackL_le (a:=a) (l:=l) (p:=ackP a x p) (le:=le) (by omega) fun y hy=>Int.le_of_eq (hl y (by simp [hy]))
    show (ackL a (ackP a x p) l).epoch = le
    omega
theorem ackL_append {a:Spk} {l m:List Sig} {p:Per}:ackL a p (l ++ m) = ackL a (ackL a p l) m:=by unfold ackL; rw [List.foldl_append]
theorem Done.hears (hd:Done e n p le g) (h:PI e n its p le g):∀ {l:List Sig},Tells e n its l → hearL g l = g
  | [],_=>rfl
  | x :: l,hl=>by
    have:=hd.hear h (hl x (by simp)).2.1 (hl x (by simp)).2.2
    show hearL (hearG g x) l = g
    rw [this]
    exact Done.hears hd h (l:=l) fun y hy=>hl y (by simp [hy])
theorem Done.acks {a:Spk} (h1:a.epoch = e) (h2:a.last = n) (hd:Done e n p le g) (h0:0 ≤ n):∀ {l:List Sig},AcksOk e le g l → ackL a p l = p
  | [],_=>rfl
  | x :: l,hl=>by
    have:=hd.ack h0 h1 h2 (hl x (by simp)).2
    show ackL a (ackP a x p) l = p
    rw [this]
    exact Done.acks h1 h2 hd h0 (l:=l) fun y hy=>hl y (by simp [hy])
end
structure OI (R:List Int) (o:Ovl):Prop where
  net:NetOk R o.sp o.ls
  fl:∀ x ∈ o.fl,sigIn R x
  pi:∀ a ∈ R,∀ b ∈ R,a ≠ b → PI (ep o a) (la o a) (it o a) (pe o a b) (le o b) (he o a b)
  tell:∀ a ∈ R,∀ b ∈ R,a ≠ b → Tells (ep o a) (la o a) (it o a) (tells o a b)
  ack:∀ a ∈ R,∀ b ∈ R,a ≠ b → AcksOk (ep o a) (le o b) (he o a b) (acks o a b)
theorem OI.ok {R:List Int} {o:Ovl} (h:OI R o):ovlOk o:=by
  have e:rtrs o.sp = R:=h.net.spr
  exact ⟨by rw [e]; exact h.net,by rw [e]; exact h.fl⟩
theorem OI.mem {R:List Int} {o:Ovl} (h:OI R o) {x:Sig} (hx:x ∈ o.fl) {a b:Int} (ha:a ∈ R) (hb:b ∈ R) (hab:a ≠ b) :
    (isTell a b x = true → sigErr x = 0 ∧ x.kind ≠ 3 ∧ TellOk (ep o a) (la o a) (it o a) x) ∧ (isAck a b x = true → sigErr x = 0 ∧ AckOk (ep o a) (le o b) (he o a b) x):=
  ⟨fun q=>h.tell a ha b hb hab x (List.mem_filter.mpr ⟨hx,q⟩),fun q=>h.ack a ha b hb hab x (List.mem_filter.mpr ⟨hx,q⟩)⟩
theorem OI.round {R:List Int} {o:Ovl} (h:OI R o) {now late:List Sig} (h1:∀ x ∈ now,x ∈ o.fl) (h2:∀ x ∈ late,x ∈ o.fl):OI R (roundN o now late) ∧ Round R o (roundN o now late) now late:=by
  have r:=roundN_ok h.net (now:=now) (late:=late) (fun x hx=>h.fl x (h1 x hx)) fun x hx=>h.fl x (h2 x hx)
  generalize roundN o now late = o' at *
  have T:∀ a ∈ R,∀ b ∈ R,a ≠ b → ∀ l:List Sig,(∀ x ∈ l,x ∈ o.fl) → Tells (ep o a) (la o a) (it o a) (l.filter (isTell a b)):=fun a ha b hb hab l hl x hx=>by
    rw [List.mem_filter] at hx; exact (h.mem (hl x hx.1) ha hb hab).1 hx.2
  have A:∀ a ∈ R,∀ b ∈ R,a ≠ b → ∀ l:List Sig,(∀ x ∈ l,x ∈ o.fl) → AcksOk (ep o a) (le o b) (he o a b) (l.filter (isAck a b)):=fun a ha b hb hab l hl x hx=>by
    rw [List.mem_filter] at hx; exact (h.mem (hl x hx.1) ha hb hab).2 hx.2
  have G:∀ a ∈ R,∀ b ∈ R,a ≠ b → Grows (ep o a) (he o a b) (he o' a b):=fun a ha b hb hab=>by
    rw [r.g a ha b hb hab]; exact hearL_grows (T a ha b hb hab now h1).ep
  have P:∀ a ∈ R,∀ b ∈ R,a ≠ b → PI (ep o a) (la o a) (it o a) (pe o a b) (le o b) (he o' a b):=fun a ha b hb hab=>by
    rw [r.g a ha b hb hab]; exact (h.pi a ha b hb hab).hears (T a ha b hb hab now h1)
  refine ⟨⟨r.net,r.fl,fun a ha b hb hab=>?_,fun a ha b hb hab=>?_,fun a ha b hb hab=>?_⟩,r⟩
  · rw [r.ep a ha,r.la a ha,r.it a ha,r.le b hb,r.p a ha b hb hab]
    exact (P a ha b hb hab).acks rfl rfl ((A a ha b hb hab now h1).grow (G a ha b hb hab))
  · rw [r.tells a ha b hb hab]
    intro x hx
    rcases List.mem_append.mp hx with hx | hx
    · rw [r.ep a ha,r.la a ha,r.it a ha]
      exact T a ha b hb hab late h2 x hx
    · obtain ⟨q1,q2⟩:=r.net.s ha
      have q:=(send_val (r.net.spo _ q1).1 (r.net.peer ha hb hab)).2 x hx
      exact ⟨q.ok,q.kind,q.tell⟩
  · rw [r.ep a ha,r.le b hb,r.acks a ha b hb hab]
    intro x hx
    rcases List.mem_append.mp hx with hx | hx
    · exact ((A a ha b hb hab late h2).grow (G a ha b hb hab)) x hx
    · obtain ⟨q1,q2⟩:=h.net.s ha
      obtain ⟨q3,q4⟩:=h.net.l hb
      have k1:=(h.net.spo _ q1).1
      have k2:=(h.net.lso _ q3).1
      have t:=T a ha b hb hab now h1
      have z:=ansL_ok (p:=pe o a b) (a:=a) (b:=b) (by have:=k1.1; omega) (by have:=k2.1; omega) hab k2.2.1 k1.2.1.2 (h.pi a ha b hb hab)
        (l:=now.filter (isTell a b)) (fun q _ hq y hy=>hearG_ver (t y hy).1 (t y hy).2.1 hq) (gOf_ok k2 a).2.1.2 t
      rw [r.g a ha b hb hab]
      exact z x hx
structure St1 (o:Ovl) (a b:Int):Prop where
  t:tells o a b = (send (atS o.sp a) b).1
structure St2 (o:Ovl) (a b:Int):Prop extends St1 o a b where
  g:(he o a b).epoch = ep o a
  k:∀ x ∈ acks o a b,x.pep = le o b
  n:acks o a b ≠ []
structure St3 (o:Ovl) (a b:Int):Prop extends St1 o a b where
  g:(he o a b).epoch = ep o a
  p:(pe o a b).epoch = le o b
structure St4 (o:Ovl) (a b:Int):Prop extends St1 o a b where
  g:(he o a b).epoch = ep o a
  v:(he o a b).ver = la o a
  p:(pe o a b).epoch = le o b
  a:∃ i,acks o a b = i ++ [ansOf a b (le o b) (he o a b)]
def St5 (o:Ovl) (a b:Int):Prop:=Done (ep o a) (la o a) (pe o a b) (le o b) (he o a b)
def round0 (o:Ovl):Ovl:=roundN o o.fl []
theorem OI.send {R:List Int} {o:Ovl} (h:OI R o) {a b:Int} (ha:a ∈ R) (hb:b ∈ R) (hab:a ≠ b):(send (atS o.sp a) b).1 = hello (atS o.sp a) b :: sendFrom (atS o.sp a) b (pe o a b).acked 0 (atS o.sp a).items:=by
  obtain ⟨q1,q2⟩:=h.net.s ha
  rw [(send_val (h.net.spo _ q1).1 (h.net.peer ha hb hab)).1]; rfl
section
variable {R : List Int} {o : Ovl}
theorem OI.round0 (h:OI R o):OI R (round0 o):=(h.round (fun _ hx=>hx) (by simp)).1
theorem OI.r0 (h:OI R o):Round R o (Go.Proofs.YtglfecmdoekabaaGreatDoor.round0 o) o.fl []:=(h.round (fun _ hx=>hx) (by simp)).2
variable {a b : Int}
theorem OI.st1 (h:OI R o) (ha:a ∈ R) (hb:b ∈ R) (hab:a ≠ b):St1 (Go.Proofs.YtglfecmdoekabaaGreatDoor.round0 o) a b:=⟨by simpa using h.r0.tells a ha b hb hab⟩
theorem OI.acks0 (h:OI R o) (ha:a ∈ R) (hb:b ∈ R) (hab:a ≠ b):acks (Go.Proofs.YtglfecmdoekabaaGreatDoor.round0 o) a b = ansL a b (le o b) (he o a b) (tells o a b):=by simpa [tells] using h.r0.acks a ha b hb hab
theorem OI.st2 (h:OI R o) (ha:a ∈ R) (hb:b ∈ R) (hab:a ≠ b) (s:St1 o a b):St2 (Go.Proofs.YtglfecmdoekabaaGreatDoor.round0 o) a b:=by
  have r:=h.r0
  have hs:=h.send ha hb hab
  have ht:Tells (ep o a) (la o a) (it o a) (hello (atS o.sp a) b :: sendFrom (atS o.sp a) b (pe o a b).acked 0 (atS o.sp a).items):=by rw [← hs,← s.t]; exact h.tell a ha b hb hab
  refine ⟨h.st1 ha hb hab,?_,?_,?_⟩
  · rw [r.g a ha b hb hab,r.ep a ha]
    show (hearL (he o a b) (tells o a b)).epoch = _
    rw [s.t,hs]
    exact hearL_epoch (h.pi a ha b hb hab).g1.2 rfl fun y hy=>ht.ep y (by simp [hy])
  · rw [h.acks0 ha hb hab,r.le b hb]
    exact ansL_pep
  · rw [h.acks0 ha hb hab,s.t,hs]
    simp [ansL]
theorem OI.st3 (h:OI R o) (ha:a ∈ R) (hb:b ∈ R) (hab:a ≠ b) (s:St2 o a b):St3 (Go.Proofs.YtglfecmdoekabaaGreatDoor.round0 o) a b:=by
  have r:=h.r0
  refine ⟨h.st1 ha hb hab,?_,?_⟩
  · rw [r.g a ha b hb hab,r.ep a ha]
    exact ((hearL_grows (h.tell a ha b hb hab).ep).now s.g).1
  · rw [r.p a ha b hb hab,r.le b hb]
    exact ackL_now s.n (h.pi a ha b hb hab).p1 s.k
theorem OI.st4 (h:OI R o) (ha:a ∈ R) (hb:b ∈ R) (hab:a ≠ b) (s:St3 o a b):St4 (Go.Proofs.YtglfecmdoekabaaGreatDoor.round0 o) a b:=by
  have r:=h.r0
  have hs:=h.send ha hb hab
  have hpi:=h.pi a ha b hb hab
  have h':=h.round0.pi a ha b hb hab
  rw [r.ep a ha,r.la a ha,r.it a ha,r.le b hb] at h'
  have hg:he (Go.Proofs.YtglfecmdoekabaaGreatDoor.round0 o) a b = hearL (he o a b) (hello (atS o.sp a) b :: sendFrom (atS o.sp a) b (pe o a b).acked 0 (atS o.sp a).items):=by
    rw [r.g a ha b hb hab,← hs,← s.t]; rfl
  obtain ⟨f1,f2⟩:=hpi.full (s:=atS o.sp a) (to:=b) (acked:=(pe o a b).acked) rfl rfl rfl hpi.g1.2 (hpi.p3 s.p) hg h'.g2 h'.g4
  refine ⟨h.st1 ha hb hab,by rw [r.ep a ha]; exact f1,by rw [r.la a ha]; exact f2,?_,?_⟩
  · rw [r.p a ha b hb hab,r.le b hb]
    have q:=ackL_le (a:=atS o.sp a) (l:=o.fl.filter (isAck a b)) hpi.p1 fun x hx=>(h.ack a ha b hb hab x hx).2.pe
    have:=s.p
    omega
  · rw [h.acks0 ha hb hab,r.le b hb,r.g a ha b hb hab]
    exact ansL_last (l:=tells o a b) (by rw [s.t,hs]; simp)
theorem OI.st5 (h:OI R o) (ha:a ∈ R) (hb:b ∈ R) (hab:a ≠ b) (s:St4 o a b):St5 (Go.Proofs.YtglfecmdoekabaaGreatDoor.round0 o) a b:=by
  have r:=h.r0
  have hpi:=h.pi a ha b hb hab
  have hA:=h.ack a ha b hb hab
  obtain ⟨i,hi⟩:=s.a
  have hp:pe (Go.Proofs.YtglfecmdoekabaaGreatDoor.round0 o) a b = ackP (atS o.sp a) (ansOf a b (le o b) (he o a b)) (ackL (atS o.sp a) (pe o a b) i):=by
    rw [r.p a ha b hb hab]
    show ackL _ _ (acks o a b) = _
    rw [hi,ackL_append]; rfl
  rw [hi] at hA
  have h1:=hpi.acks (a:=atS o.sp a) rfl rfl (l:=i) fun x hx=>hA x (by simp [hx])
  have hd:=h1.done_ack (a:=atS o.sp a) (x:=ansOf a b (le o b) (he o a b)) rfl rfl ⟨s.g,s.v⟩ s.g s.v rfl
  rw [← hp] at hd
  have h2:=h1.ack (a:=atS o.sp a) rfl rfl (hA (ansOf a b (le o b) (he o a b)) (by simp)).2 hpi.g2
  rw [← hp] at h2
  have hh:=hd.hears h2 (h.tell a ha b hb hab)
  unfold St5
  rw [r.ep a ha,r.la a ha,r.le b hb,r.g a ha b hb hab]
  rw [show hearL (he o a b) (o.fl.filter (isTell a b)) = he o a b from hh]
  exact hd
end
end Go.Proofs.YtglfecmdoekabaaGreatDoor

namespace Go.Proofs.YtglfecmdoekabaaGreatDoor
open Go Go.Am
set_option linter.unusedVariables false
set_option linter.unusedSimpArgs false
section
variable {R : List Int} {sp : List Spk} {ls : List Lsn}
structure SetS (R:List Int) (sp:List Spk) (ls:List Lsn) (r:Int) (z:Spk):Prop where
  net:NetOk R (sp.set (posS sp r) z) ls
  s:∀ a ∈ R,atS (sp.set (posS sp r) z) a = if a = r then z else atS sp a
  l:∀ b,atL (sp.set (posS sp r) z) ls b = atL sp ls b
  pos:∀ b,posS (sp.set (posS sp r) z) b = posS sp b
theorem NetOk.setS (h:NetOk R sp ls) {r:Int} (hr:r ∈ R) {z:Spk} (hz:z.router = r) (hok:spOk R z):SetS R sp ls r z:=by
  obtain ⟨h1,h2⟩:=h.s hr
  have hr':∃ w ∈ sp,w.router = r:=⟨_,h1,h2⟩
  have hkeys:(sp.set (posS sp r) z).map Spk.router = sp.map Spk.router:=keys_set (key:=Spk.router) h.asc hr' hz
  have hpos:∀ b,posS (sp.set (posS sp r) z) b = posS sp b:=fun b=>posK_keys (key:=Spk.router) (key':=Spk.router) hkeys b
  refine ⟨⟨h.len,hkeys.trans h.spr,h.lsr,sort_setK (key:=Spk.router) h.asc hr' hz,fun w hw=>?_,h.lso⟩,fun a ha =>
      getK_set (key:=Spk.router) (d:=spk0) h.asc hr' hz (by rw [← h.spr] at ha; exact mem_keys.mp ha),fun b=>by unfold atL; rw [hpos],hpos⟩
  rcases (mem_setK (key:=Spk.router) h.asc hr' w).mp hw with rfl | ⟨hw,_⟩
  · exact hok
  · exact h.spo w hw
theorem NetOk.setL (h:NetOk R sp ls) {r:Int} (hr:r ∈ R) {z:Lsn} (hz:z.router = r) (hok:lnOk R z) :
    NetOk R sp (ls.set (posS sp r) z) ∧ ∀ b ∈ R,atL sp (ls.set (posS sp r) z) b = if b = r then z else atL sp ls b:=by
  obtain ⟨h1,h2⟩:=h.l hr
  have hr':∃ w ∈ ls,w.router = r:=⟨_,h1,h2⟩
  have hpos:=h.posL r
  have hkeys:(ls.set (posS sp r) z).map Lsn.router = ls.map Lsn.router:=by rw [hpos]; exact keys_set (key:=Lsn.router) h.ascL hr' hz
  refine ⟨⟨h.len,h.spr,hkeys.trans h.lsr,h.asc,h.spo,fun w hw=>?_⟩,fun b hb=>?_⟩
  · rw [hpos] at hw
    rcases (mem_setK (key:=Lsn.router) h.ascL hr' w).mp hw with rfl | ⟨hw,_⟩
    · exact hok
    · exact h.lso w hw
  · have e:=getK_set (key:=Lsn.router) (d:=lsn0) h.ascL hr' hz (q:=b) (by rw [← h.lsr] at hb; exact mem_keys.mp hb)
    rw [← hpos] at e
    have e2:posS sp b = posK Lsn.router (ls.set (posS sp r) z) b:=posK_keys (key:=Spk.router) (key':=Lsn.router) (h.spr.trans (h.lsr.symm.trans hkeys.symm)) b
    unfold atL
    rw [e2,e,← e2,h.posL b]
end
def changeV (o:Ovl) (r:Int) (w:List Wnt):Ovl × Int:=
  if ¬ ovlOk o then (ovl0,1) else if r ∉ rtrs o.sp then (ovl0,4) else if wErr false w ≠ 0 then (ovl0,wErr false w)
  else if (changes (wantsOf (atS o.sp r).items) w).2 ≠ 0 then (ovl0,(changes (wantsOf (atS o.sp r).items) w).2)
  else if (change (atS o.sp r) (changes (wantsOf (atS o.sp r).items) w).1).2 ≠ 0 then (ovl0,(change (atS o.sp r) (changes (wantsOf (atS o.sp r).items) w).1).2)
  else (⟨o.sp.set (posS o.sp r) (change (atS o.sp r) (changes (wantsOf (atS o.sp r).items) w).1).1,o.ls,o.fl⟩,0)
def restartV (o:Ovl) (r:Int) (w:List Wnt):Ovl × Int:=
  if ¬ ovlOk o then (ovl0,1) else if r ∉ rtrs o.sp then (ovl0,4)
  else if (restart (atS o.sp r) w).2 ≠ 0 then (ovl0,(restart (atS o.sp r) w).2)
  else if (atL o.sp o.ls r).epoch = 1000000 then (ovl0,3)
  else (⟨o.sp.set (posS o.sp r) (restart (atS o.sp r) w).1,o.ls.set (posS o.sp r) ⟨r,(atL o.sp o.ls r).epoch + 1,[]⟩,o.fl⟩,0)
structure Chgd (R:List Int) (o o':Ovl) (r:Int) (w:List Wnt):Prop where
  oi:OI R o'
  other:∀ a ∈ R,a ≠ r → atS o'.sp a = atS o.sp a
  l:∀ b,atL o'.sp o'.ls b = atL o.sp o.ls b
  ep:ep o' r = ep o r
  peers:(atS o'.sp r).peers = (atS o.sp r).peers
  fl:o'.fl = o.fl
  chg:ChgTo (atS o.sp r) (atS o'.sp r) w (changes (wantsOf (atS o.sp r).items) w).1
  val:atS o'.sp r = (change (atS o.sp r) (changes (wantsOf (atS o.sp r).items) w).1).1
  cz:(change (atS o.sp r) (changes (wantsOf (atS o.sp r).items) w).1).2 = 0
theorem changeV_ok {R:List Int} {o:Ovl} (h:OI R o) {r:Int} {w:List Wnt} (hc:(changeV o r w).2 = 0):r ∈ R ∧ Chgd R o (changeV o r w).1 r w:=by
  have e0:rtrs o.sp = R:=h.net.spr
  unfold changeV at hc ⊢
  rw [if_neg (not_not_intro h.ok)] at hc ⊢
  by_cases h1:r ∉ rtrs o.sp
  · rw [if_pos h1] at hc; simp at hc
  rw [if_neg h1] at hc ⊢
  by_cases h2:wErr false w ≠ 0
  · rw [if_pos h2] at hc; exact absurd hc h2
  rw [if_neg h2] at hc ⊢
  by_cases h3:(changes (wantsOf (atS o.sp r).items) w).2 ≠ 0
  · rw [if_pos h3] at hc; exact absurd hc h3
  rw [if_neg h3] at hc ⊢
  by_cases h4:(change (atS o.sp r) (changes (wantsOf (atS o.sp r).items) w).1).2 ≠ 0
  · rw [if_pos h4] at hc; exact absurd hc h4
  rw [if_neg h4]
  have hr:r ∈ R:=by rw [← e0]; exact Classical.not_not.mp h1
  have h3:=Classical.not_not.mp h3
  have h4:=Classical.not_not.mp h4
  obtain ⟨q1,q2⟩:=h.net.s hr
  obtain ⟨k1,k2⟩:=h.net.spo _ q1
  have hchg:=change_to k1 h3 h4
  obtain ⟨_,f2,f3,f4⟩:=change_val h4
  have hok:=change_spkOk h4
  obtain ⟨c1,c2,c3,c4⟩:=chg_ok k1.2.2.2.1 k1.2.2.1.1 (chgOk_of f2)
  generalize hz:(change (atS o.sp r) (changes (wantsOf (atS o.sp r).items) w).1).1 = z at *
  have hz1:z = ⟨(atS o.sp r).router,(atS o.sp r).epoch,((changes (wantsOf (atS o.sp r).items) w).1.foldl chg1 ((atS o.sp r).last,(atS o.sp r).items)).1,((changes (wantsOf (atS o.sp r).items) w).1.foldl chg1 ((atS o.sp r).last,(atS o.sp r).items)).2,(atS o.sp r).peers⟩:=by
    rw [← hz,f4]
  have s:=h.net.setS hr (z:=z) (by rw [hz1]; exact q2) ⟨hok,by rw [hz1]; exact k2⟩
  have hself:=s.s r hr
  rw [if_pos rfl] at hself
  have hoth:∀ a ∈ R,a ≠ r → atS (o.sp.set (posS o.sp r) z) a = atS o.sp a:=fun a ha hne=>by rw [s.s a ha,if_neg hne]
  refine ⟨hr,⟨⟨s.net,h.fl,fun a ha b hb hab=>?_,fun a ha b hb hab=>?_,fun a ha b hb hab=>?_⟩,hoth,s.l,?_,?_,rfl,?_,hself.trans hz.symm,h4⟩⟩
  · have hp:=h.pi a ha b hb hab
    unfold ep la it pe le he at *
    simp only [s.l]
    by_cases e:a = r
    · subst e
      rw [hself,hz1]
      have hl:LastOk _ _:=LastOk.chg (c:=(changes (wantsOf (atS o.sp a).items) w).1) hp.last
      exact hp.change c2 c4 c1 hl
    · rw [hoth a ha e]; exact hp
  · have ht:=h.tell a ha b hb hab
    unfold ep la it at *
    by_cases e:a = r
    · subst e
      simp only
      rw [hself,hz1]
      exact fun x hx=>⟨(ht x hx).1,(ht x hx).2.1,(ht x hx).2.2.change c2⟩
    · simp only
      rw [hoth a ha e]; exact ht
  · have hA:=h.ack a ha b hb hab
    unfold ep le he at *
    simp only [s.l]
    by_cases e:a = r
    · subst e
      rw [hself,hz1]; exact hA
    · rw [hoth a ha e]; exact hA
  · show (atS (o.sp.set (posS o.sp r) z) r).epoch = _
    rw [hself,hz1]; rfl
  · show (atS (o.sp.set (posS o.sp r) z) r).peers = _
    rw [hself,hz1]
  · show ChgTo _ (atS (o.sp.set (posS o.sp r) z) r) _ _
    rw [hself]; exact hchg
structure Rstd (R:List Int) (o o':Ovl) (r:Int) (w:List Wnt):Prop where
  oi:OI R o'
  other:∀ a ∈ R,a ≠ r → atS o'.sp a = atS o.sp a
  l:∀ b ∈ R,b ≠ r → atL o'.sp o'.ls b = atL o.sp o.ls b
  lr:atL o'.sp o'.ls r = ⟨r,le o r + 1,[]⟩
  val:atS o'.sp r = ⟨r,ep o r + 1,w.length,w.mapIdx wItm,(atS o.sp r).peers.map fun p=>⟨p.router,0,0⟩⟩
  fl:o'.fl = o.fl
  w:wErr false w = 0
theorem restartV_ok {R:List Int} {o:Ovl} (h:OI R o) {r:Int} {w:List Wnt} (hc:(restartV o r w).2 = 0):r ∈ R ∧ Rstd R o (restartV o r w).1 r w:=by
  have e0:rtrs o.sp = R:=h.net.spr
  unfold restartV at hc ⊢
  rw [if_neg (not_not_intro h.ok)] at hc ⊢
  by_cases h1:r ∉ rtrs o.sp
  · rw [if_pos h1] at hc; simp at hc
  rw [if_neg h1] at hc ⊢
  by_cases h3:(restart (atS o.sp r) w).2 ≠ 0
  · rw [if_pos h3] at hc; exact absurd hc h3
  rw [if_neg h3] at hc ⊢
  by_cases h4:(atL o.sp o.ls r).epoch = 1000000
  · rw [if_pos h4] at hc; simp at hc
  rw [if_neg h4]
  have hr:r ∈ R:=by rw [← e0]; exact Classical.not_not.mp h1
  have h3:=Classical.not_not.mp h3
  obtain ⟨q1,q2⟩:=h.net.s hr
  obtain ⟨k1,k2⟩:=h.net.spo _ q1
  obtain ⟨m1,m2⟩:=h.net.l hr
  obtain ⟨n1,n2⟩:=h.net.lso _ m1
  obtain ⟨_,f2,f3,f4⟩:=restart_val h3
  have hok:=restart_spkOk h3
  generalize hz:(restart (atS o.sp r) w).1 = z at *
  have hz1:z = ⟨r,(atS o.sp r).epoch + 1,w.length,w.mapIdx wItm,(atS o.sp r).peers.map fun p=>⟨p.router,0,0⟩⟩:=by
    rw [← hz,f4,q2]
  have s:=h.net.setS hr (z:=z) (by rw [hz1]) ⟨hok,by rw [hz1]; rw [q2] at k2; exact (List.map_map ..).trans k2⟩
  have t:=s.net.setL hr (z:=⟨r,(atL o.sp o.ls r).epoch + 1,[]⟩) rfl ⟨⟨by have:=n1.1; rw [m2] at this; exact this,⟨by have:=n1.2.1; simp only; omega,by have:=n1.2.1; simp only; omega⟩,by simp,by simp,by simp⟩,by simp⟩
  rw [s.pos r] at t
  obtain ⟨t1,t2⟩:=t
  have hself:=s.s r hr
  rw [if_pos rfl] at hself
  have hoth:∀ a ∈ R,a ≠ r → atS (o.sp.set (posS o.sp r) z) a = atS o.sp a:=fun a ha hne=>by rw [s.s a ha,if_neg hne]
  have hlr:=t2 r hr
  rw [if_pos rfl] at hlr
  have hlo:∀ b ∈ R,b ≠ r → atL (o.sp.set (posS o.sp r) z) (o.ls.set (posS o.sp r) ⟨r,(atL o.sp o.ls r).epoch + 1,[]⟩) b = atL o.sp o.ls b:=fun b hb hne=>by rw [t2 b hb,if_neg hne,s.l]
  refine ⟨hr,⟨⟨t1,h.fl,fun a ha b hb hab=>?_,fun a ha b hb hab=>?_,fun a ha b hb hab=>?_⟩,hoth,hlo,hlr,hself.trans hz1,rfl,f2⟩⟩
  · have hp:=h.pi a ha b hb hab
    unfold ep la it pe le he at *
    simp only
    by_cases e:a = r
    · subst e
      rw [hlo b hb (Ne.symm hab),hself,hz1]
      simp only
      have hpb:pOf ((atS o.sp a).peers.map fun p=>(⟨p.router,0,0⟩:Per)) b = ⟨b,0,0⟩:=by
        obtain ⟨z,hz,e⟩:=h.net.peer ha hb hab
        have ho:((atS o.sp a).peers.map fun p=>(⟨p.router,0,0⟩:Per)).Pairwise fun x y=>x.router < y.router:=by
          rw [List.pairwise_map]; exact k1.2.2.2.2.2.2
        have:=pOf_mem ho (z:=⟨b,0,0⟩) (List.mem_map.mpr ⟨z,hz,by rw [e]⟩)
        exact this
      rw [hpb]
      have hw:=(wErr_zero.mp f2)
      exact hp.restart (by omega) (restart_items (chgOk_of f2) hw.2.2.2.2) (LastOk.restart w) b (by have:=(h.net.lso _ (h.net.l hb).1).1.2.1; omega)
    · rw [hoth a ha e]
      by_cases e2:b = r
      · subst e2
        rw [hlr]
        have hg:gOf ([]:List Hrd) a = ⟨a,0,0,[]⟩:=gOf_no List.Pairwise.nil (by simp)
        simp only
        rw [hg]
        exact hp.lapse a
      · rw [hlo b hb e2]; exact hp
  · have ht:=h.tell a ha b hb hab
    unfold ep la it at *
    simp only
    by_cases e:a = r
    · subst e
      rw [hself,hz1]
      exact fun x hx=>⟨(ht x hx).1,(ht x hx).2.1,(ht x hx).2.2.restart⟩
    · rw [hoth a ha e]; exact ht
  · have hA:=h.ack a ha b hb hab
    unfold ep le he at *
    simp only
    by_cases e:a = r
    · subst e
      rw [hlo b hb (Ne.symm hab),hself,hz1]
      exact fun x hx=>⟨(hA x hx).1,(hA x hx).2.restart⟩
    · rw [hoth a ha e]
      by_cases e2:b = r
      · subst e2
        rw [hlr]
        exact fun x hx=>⟨(hA x hx).1,(hA x hx).2.lapse⟩
      · rw [hlo b hb e2]; exact hA
def agreedP (o:Ovl):Prop:=ovlOk o ∧ ∀ a ∈ rtrs o.sp,∀ b ∈ rtrs o.sp,a ≠ b → agree (atS o.sp a) (atL o.sp o.ls b)
def settledP (o:Ovl):Prop:=agreedP o ∧ ∀ a ∈ rtrs o.sp,∀ b ∈ rtrs o.sp,a ≠ b → (pe o a b).epoch = le o b ∧ (pe o a b).acked = la o a
instance (s:Spk) (l:Lsn):Decidable (agree s l):=by unfold agree; exact inferInstance
instance (o:Ovl):Decidable (agreedP o):=by unfold agreedP; exact inferInstance
instance (o:Ovl):Decidable (settledP o):=by unfold settledP; exact inferInstance
theorem OI.rt {R:List Int} {o:Ovl} (h:OI R o):rtrs o.sp = R:=h.net.spr
theorem OI.agree {R:List Int} {o:Ovl} (h:OI R o) {a b:Int} (ha:a ∈ R) (hb:b ∈ R) (hab:a ≠ b) (hg:(he o a b).epoch = ep o a ∧ (he o a b).ver = la o a) :
    Go.Proofs.YtglfecmdoekabaaGreatDoor.agree (atS o.sp a) (atL o.sp o.ls b):=by
  obtain ⟨q1,q2⟩:=h.net.s ha
  obtain ⟨m1,m2⟩:=h.net.l hb
  have hp:=h.pi a ha b hb hab
  unfold he ep la it pe le at *
  exact (Done.agree (q:=b) (h.net.spo _ q1).1 (h.net.lso _ m1).1 (by rw [q2]; exact hp) (by rw [q2]; exact hg)).1
theorem agree_g {a:Spk} {l:Lsn} (h:agree a l):(gOf l.heard a.router).epoch = a.epoch ∧ (gOf l.heard a.router).ver = a.last ∧ (gOf l.heard a.router).items = a.items:=by
  obtain ⟨h1,h2,h3,h4,h5,h6⟩:=h
  have hat:gOf l.heard a.router = atH l.heard a.router:=by
    unfold atH gOf base
    rw [if_pos h3]
  rw [hat]
  exact ⟨h4,h5,h6⟩
theorem OI.settled {R:List Int} {o:Ovl} (h:OI R o):settledP o ↔ ∀ a ∈ R,∀ b ∈ R,a ≠ b → St5 o a b:=by
  unfold settledP agreedP
  rw [h.rt]
  constructor
  · rintro ⟨⟨_,h1⟩,h2⟩ a ha b hb hab
    obtain ⟨g1,g2,_⟩:=agree_g (h1 a ha b hb hab)
    rw [(h.net.s ha).2] at g1 g2
    exact ⟨g1,g2,(h2 a ha b hb hab).1,(h2 a ha b hb hab).2⟩
  · intro hs
    exact ⟨⟨h.ok,fun a ha b hb hab=>h.agree ha hb hab ⟨(hs a ha b hb hab).ge,(hs a ha b hb hab).gv⟩⟩,fun a ha b hb hab=>⟨(hs a ha b hb hab).pe,(hs a ha b hb hab).pa⟩⟩
theorem OI.quiet {R:List Int} {o:Ovl} (h:OI R o):agreedP (Go.Proofs.YtglfecmdoekabaaGreatDoor.round0 (Go.Proofs.YtglfecmdoekabaaGreatDoor.round0 (Go.Proofs.YtglfecmdoekabaaGreatDoor.round0 (Go.Proofs.YtglfecmdoekabaaGreatDoor.round0 o)))) ∧ settledP (Go.Proofs.YtglfecmdoekabaaGreatDoor.round0 (Go.Proofs.YtglfecmdoekabaaGreatDoor.round0 (Go.Proofs.YtglfecmdoekabaaGreatDoor.round0 (Go.Proofs.YtglfecmdoekabaaGreatDoor.round0 (Go.Proofs.YtglfecmdoekabaaGreatDoor.round0 o))))):=by
  have h1:=h.round0
  have h2:=h1.round0
  have h3:=h2.round0
  have h4:=h3.round0
  have h5:=h4.round0
  have s4:∀ a ∈ R,∀ b ∈ R,a ≠ b → St4 (Go.Proofs.YtglfecmdoekabaaGreatDoor.round0 (Go.Proofs.YtglfecmdoekabaaGreatDoor.round0 (Go.Proofs.YtglfecmdoekabaaGreatDoor.round0 (Go.Proofs.YtglfecmdoekabaaGreatDoor.round0 o)))) a b:=fun a ha b hb hab =>
    h3.st4 ha hb hab (h2.st3 ha hb hab (h1.st2 ha hb hab (h.st1 ha hb hab)))
  refine ⟨⟨h4.ok,fun a ha b hb hab=>?_⟩,h5.settled.mpr fun a ha b hb hab=>h4.st5 ha hb hab (s4 a ha b hb hab)⟩
  rw [h4.rt] at ha hb
  exact h4.agree ha hb hab ⟨(s4 a ha b hb hab).g,(s4 a ha b hb hab).v⟩
def knownV (o:Ovl) (at_ of:Int):List Wnt × Int:=
  if ¬ ovlOk o then ([],1) else if at_ ∉ rtrs o.sp ∨ of ∉ rtrs o.sp then ([],4)
  else if at_ = of then (wantsOf (atS o.sp of).items,0) else (knownW (atL o.sp o.ls at_) of,0)
theorem knownV_agreed {R:List Int} {o:Ovl} (h:OI R o) (hs:agreedP o) {a b:Int} (ha:a ∈ R) (hb:b ∈ R):knownV o b a = (wantsOf (atS o.sp a).items,0):=by
  unfold knownV
  rw [if_neg (not_not_intro h.ok),h.rt,if_neg (by simp [ha,hb])]
  by_cases e:b = a
  · rw [if_pos e]
  · rw [if_neg e]
    have q:=hs.2 a (by rw [h.rt]; exact ha) b (by rw [h.rt]; exact hb) (Ne.symm e)
    obtain ⟨h1,h2,h3,h4,h5,h6⟩:=q
    rw [(h.net.s ha).2] at h3 h4 h5 h6
    unfold knownW
    rw [if_pos ⟨h2,h3⟩,h6]
end Go.Proofs.YtglfecmdoekabaaGreatDoor

namespace Go.Proofs.YtglfecmdoekabaaGreatDoor
open Go Go.Am
set_option linter.unusedVariables false
set_option linter.unusedSimpArgs false
def okR (l:List Int):Prop:=l.length ≤ 12 ∧ (∀ r ∈ l,1 ≤ r ∧ r ≤ 99) ∧ l.Pairwise (· < ·)
instance (l:List Int):Decidable (okR l):=by unfold okR; exact inferInstance
def spkN (l:List Int) (r:Int):Spk:=⟨r,1,0,[],(l.filter fun x=>decide (x ≠ r)).map fun x=>⟨x,0,0⟩⟩
def lsnN (r:Int):Lsn:=⟨r,1,[]⟩
def netOf (l:List Int):Ovl:=⟨l.map (spkN l),l.map lsnN,[]⟩
def newN (l:List Int):Ovl × Int:=if okR l then (netOf l,0) else (ovl0,1)
section
variable {l : List Int}
theorem spkN_ok (h:okR l) {r:Int} (hr:r ∈ l):spOk l (spkN l r):=by
  obtain ⟨h1,h2,h3⟩:=h
  have hl:(l.filter fun x=>decide (x ≠ r)).length ≤ 12:=Nat.le_trans (List.length_filter_le _ _) h1
  refine ⟨⟨h2 r hr,⟨Int.le_refl 1,show (1:Int) ≤ 1000000 by omega⟩,⟨Int.le_refl 0,show (0:Int) ≤ 1000000 by omega⟩,⟨by simp [spkN],by simp [spkN],by simp [spkN]⟩,by simpa [spkN] using hl,fun p hp=>?_,?_⟩,?_⟩
  · obtain ⟨x,hx,rfl⟩:=List.mem_map.mp hp
    rw [List.mem_filter] at hx
    exact ⟨h2 x hx.1,show ¬ x = r by simpa using hx.2,⟨Int.le_refl 0,show (0:Int) ≤ 1000000 by omega⟩,⟨Int.le_refl 0,Int.le_refl 0⟩⟩
  · show ((l.filter fun x=>decide (x ≠ r)).map fun x=>(⟨x,0,0⟩:Per)).Pairwise _
    rw [List.pairwise_map]; exact h3.filter _
  · show (((l.filter fun x=>decide (x ≠ r)).map fun x=>(⟨x,0,0⟩:Per)).map Per.router) = _
    rw [List.map_map]
    show List.map (fun x=>x) _ = _
    rw [List.map_id'']
    · rfl
    · intro x; rfl
theorem lsnN_ok (h:okR l) {r:Int} (hr:r ∈ l):lnOk l (lsnN r):=
  ⟨⟨h.2.1 r hr,⟨Int.le_refl 1,show (1:Int) ≤ 1000000 by omega⟩,by simp [lsnN],by simp [lsnN],by simp [lsnN]⟩,by simp [lsnN]⟩
theorem netOf_net (h:okR l):NetOk l (netOf l).sp (netOf l).ls:=by
  refine ⟨h.1,?_,?_,?_,fun s hs=>?_,fun s hs=>?_⟩
  · show (l.map (spkN l)).map Spk.router = l
    rw [List.map_map]
    exact List.map_id'' (fun x=>rfl) l
  · show (l.map lsnN).map Lsn.router = l
    rw [List.map_map]
    exact List.map_id'' (fun x=>rfl) l
  · show (l.map (spkN l)).Pairwise _
    rw [List.pairwise_map]; exact h.2.2
  · obtain ⟨r,hr,rfl⟩:=List.mem_map.mp hs; exact spkN_ok h hr
  · obtain ⟨r,hr,rfl⟩:=List.mem_map.mp hs; exact lsnN_ok h hr
theorem netOf_s (h:okR l) {a:Int} (ha:a ∈ l):atS (netOf l).sp a = spkN l a:=by
  obtain ⟨h1,h2⟩:=(netOf_net h).s ha
  obtain ⟨r,hr,e⟩:=List.mem_map.mp h1
  rw [← e] at h2 ⊢
  have:r = a:=h2
  rw [this]
theorem netOf_l (h:okR l) {a:Int} (ha:a ∈ l):atL (netOf l).sp (netOf l).ls a = lsnN a:=by
  obtain ⟨h1,h2⟩:=(netOf_net h).l ha
  obtain ⟨r,hr,e⟩:=List.mem_map.mp h1
  rw [← e] at h2 ⊢
  have:r = a:=h2
  rw [this]
theorem OI.new (h:okR l):OI l (netOf l):=by
  refine ⟨netOf_net h,by simp [netOf],fun a ha b hb hab=>?_,fun a ha b hb hab=>?_,fun a ha b hb hab=>?_⟩
  · unfold ep la it pe le he
    rw [netOf_s h ha,netOf_l h hb]
    have e1:gOf (lsnN b).heard a = ⟨a,0,0,[]⟩:=gOf_no List.Pairwise.nil (by simp [lsnN])
    have e2:pOf (spkN l a).peers b = ⟨b,0,0⟩:=by
      have ho:(spkN l a).peers.Pairwise fun x y=>x.router < y.router:=(spkN_ok h ha).1.2.2.2.2.2.2
      exact pOf_mem ho (z:=⟨b,0,0⟩) (List.mem_map.mpr ⟨b,List.mem_filter.mpr ⟨hb,by simpa using Ne.symm hab⟩,rfl⟩)
    rw [e1,e2]
    have ok0:itmsOk 0 []:=⟨by simp,by simp,by simp⟩
    exact { e1:=Int.le_refl _,n0:=Int.le_refl _,io:=ok0,last:=LastOk.nil,p1:=show (0:Int) ≤ 1 by omega,p2:=Int.le_refl _,p3:=fun _=>.inl rfl,g1:=⟨Int.le_refl _,show (0:Int) ≤ 1 by omega⟩,g2:=Int.le_refl _,g3:=ok0,g4:=fun q=>absurd (show (0:Int) = 1 from q) (by decide) }
  · intro x hx
    simp [tells,netOf] at hx
  · intro x hx
    simp [acks,netOf] at hx
end
theorem arr1_len {s:List Sig × List Sig} {f:Fau}:(arr1 s f).1.length + (arr1 s f).2.length ≤ s.1.length + s.2.length + 1:=by
  obtain ⟨l,late⟩:=s
  unfold arr1
  split
  · simp only; omega
  rename_i c
  simp only at c ⊢
  generalize hn:f.pos.toNat = n
  have hn2:n < l.length:=by omega
  have hm:min n l.length = n:=by omega
  unfold arrK
  repeat' split
  all_goals simp only [List.length_append,List.length_take,List.length_drop,List.length_cons,List.length_nil,List.length_set,hm]
  all_goals omega
theorem arrs_len:∀ {f:List Fau} {s:List Sig × List Sig},(f.foldl arr1 s).1.length + (f.foldl arr1 s).2.length ≤ s.1.length + s.2.length + f.length
  | [],s=>by simp
  | f :: fs,s=>by
    have h1:=arr1_len (s:=s) (f:=f)
    have h2:=arrs_len (f:=fs) (s:=arr1 s f)
    rw [List.foldl_cons,List.length_cons]; omega
theorem arr_len {l:List Sig} {f:List Fau}:(arr l f).1.length + (arr l f).2.length ≤ l.length + f.length:=by
  have:=arrs_len (f:=f) (s:=(l,[]))
  simpa [arr] using this
theorem deliver_len {s:Rnd} {x:Sig}:(deliver s x).2.length ≤ s.2.length + 1:=by
  unfold deliver
  repeat' split
  all_goals simp
theorem delivers_len:∀ {l:List Sig} {s:Rnd},(l.foldl deliver s).2.length ≤ s.2.length + l.length
  | [],s=>by simp
  | x :: l,s=>by
    have h1:=deliver_len (s:=s) (x:=x)
    have h2:=delivers_len (l:=l) (s:=deliver s x)
    rw [List.foldl_cons,List.length_cons]; omega
theorem flat_len {α β:Type} {f:α → List β} {k:Nat}:∀ {l:List α},(∀ x ∈ l,(f x).length ≤ k) → (l.flatMap f).length ≤ l.length * k
  | [],_=>by simp
  | x :: l,h=>by
    have h1:=h x (by simp)
    have h2:=flat_len (l:=l) fun y hy=>h y (by simp [hy])
    rw [List.flatMap_cons,List.length_append,List.length_cons,Nat.succ_mul]; omega
theorem sendFrom_le {s:Spk} {to acked:Int}:∀ {r:List Itm} {prev:Int},(sendFrom s to acked prev r).length ≤ r.length
  | [],_=>by simp [sendFrom]
  | y :: r,prev=>by
    have:=sendFrom_le (s:=s) (to:=to) (acked:=acked) (r:=r) (prev:=y.ver)
    rw [sendFrom]
    split <;> simp only [List.length_append,List.length_cons,List.length_nil] <;> omega
theorem ver_len {l:List Itm} {n:Int} (h:itmsOk n l):l.length ≤ 99:=by
  have hn:(l.map Itm.grp).Nodup:=h.2.1
  have:=nodup_sub hn (R:=(List.range 99).map fun i:Nat=>(i:Int) + 1) fun x hx=>by
    obtain ⟨y,hy,rfl⟩:=List.mem_map.mp hx
    have:=(h.1 y hy).2.1
    rw [List.mem_map]
    exact ⟨(y.grp - 1).toNat,by rw [List.mem_range]; omega,by omega⟩
  simpa using this
theorem send_le {s:Spk} {to:Int}:(send s to).1.length ≤ 100:=by
  unfold send
  split
  · simp
  split
  · simp
  rename_i h _
  have:=ver_len (Classical.not_not.mp h).2.2.2.1
  simp only [List.length_cons]
  have h2:=sendFrom_le (s:=s) (to:=to) (acked:=(pOf s.peers to).acked) (r:=s.items) (prev:=0)
  have h3:∀ ak,(sendFrom s to ak 0 s.items).length ≤ s.items.length:=fun _=>sendFrom_le
  have:=h3 (s.peers.getD (posP s.peers to) ⟨0,0,0⟩).acked
  omega
theorem sends_len {R:List Int} {sp:List Spk} {ls:List Lsn} (h:NetOk R sp ls):(sends sp).length ≤ 14400:=by
  have h1:(sends sp).length ≤ sp.length * 1200:=flat_len fun s hs=>by
    have:(sends1 s).length ≤ s.peers.length * 100:=flat_len fun p _=>send_le
    have:=(h.spo s hs).1.2.2.2.2.1
    omega
  have h2:sp.length = R.length:=by rw [← h.spr,List.length_map]
  have:=h.len
  omega
section
variable {R : List Int} {o : Ovl}
theorem OI.roundN_len (h:OI R o) {now late:List Sig} (h1:∀ x ∈ now,x ∈ o.fl) (h2:∀ x ∈ late,x ∈ o.fl):(roundN o now late).fl.length ≤ now.length + late.length + 14400:=by
  have hn:=(h.round h1 h2).1.net
  have hs:=sends_len hn
  have hd:=delivers_len (l:=now) (s:=((o.sp,o.ls),late))
  unfold roundN at hs ⊢
  simp only [List.length_append] at *
  omega
structure RoundO (R:List Int) (o o':Ovl) (f:List Fau):Prop where
  oi:OI R o'
  len:o'.fl.length ≤ o.fl.length + f.length + 14400
  val:o' = roundN o (arr o.fl f).1 (arr o.fl f).2
  now:∀ x ∈ (arr o.fl f).1,x ∈ o.fl
  late:∀ x ∈ (arr o.fl f).2,x ∈ o.fl
theorem OI.roundO (h:OI R o) (f:List Fau):(roundO o f).2 = 0 ∧ RoundO R o (roundO o f).1 f:=by
  unfold Go.Proofs.YtglfecmdoekabaaGreatDoor.roundO
  rw [if_neg (not_not_intro h.ok)]
  obtain ⟨h1,h2⟩:=arr_mem (P:=fun x=>x ∈ o.fl) (l:=o.fl) (f:=f) fun x hx=>hx
  refine ⟨rfl,(h.round h1 h2).1,?_,rfl,h1,h2⟩
  have:=h.roundN_len h1 h2
  have:=arr_len (l:=o.fl) (f:=f)
  simp only; omega
theorem OI.roundO_nil (h:OI R o):Go.Proofs.YtglfecmdoekabaaGreatDoor.roundO o [] = (Go.Proofs.YtglfecmdoekabaaGreatDoor.round0 o,0):=by
  unfold Go.Proofs.YtglfecmdoekabaaGreatDoor.roundO
  rw [if_neg (not_not_intro h.ok)]; rfl
end
def faultsL (L:List Int) (n:Int):Nat → List Fau → Nat → List Fau × Nat
  | 0,out,p=>(out,p)
  | k + 1,out,p=>faultsL L n k (out ++ [⟨rng L p 0 5,Mod (rawV L (rawP L p)) (W (n + 2))⟩]) (rawP L (rawP L p))
def faultsT (L:List Int) (n:Int) (p:Nat):List Fau × Nat:=faultsL L n (Mod (rawV L p) 4).toNat [] (rawP L p)
theorem faultsL_len {L:List Int} {n:Int}:∀ {k:Nat} {out:List Fau} {p:Nat},(faultsL L n k out p).1.length = out.length + k
  | 0,out,p=>rfl
  | k + 1,out,p=>by rw [faultsL,faultsL_len]; simp; omega
theorem faultsT_len {L:List Int} {n:Int} {p:Nat}:(faultsT L n p).1.length ≤ 3:=by
  unfold faultsT
  rw [faultsL_len]
  have:=Mod_range (x:=rawV L p) (n:=4) (by omega)
  simp only [List.length_nil]; omega
section
variable {R : List Int} {o : Ovl} {L : List Int}
end
end Go.Proofs.YtglfecmdoekabaaGreatDoor

namespace Go.Proofs.YtglfecmdoekabaaGreatDoor
open Go Go.Am
set_option linter.unusedVariables false
set_option linter.unusedSimpArgs false
theorem wants_nil:wantsOf [] = []:=by decide +kernel
theorem told_restart {w:List Wnt} (h:w.Pairwise fun x y=>x.grp < y.grp) (g:Int):told (w.mapIdx wItm) g = find2 w g:=by
  have hn:((w.mapIdx wItm).map Itm.grp).Nodup:=by
    have e:(w.mapIdx wItm).map Itm.grp = w.map Wnt.grp:=by
      refine List.ext_getElem (by simp) fun i h1 h2=>?_
      simp [wItm]
    rw [e,List.Nodup,List.pairwise_map]
    exact h.imp fun q=>by omega
  by_cases hg:∃ x ∈ w,x.grp = g
  · obtain ⟨x,hx,rfl⟩:=hg
    obtain ⟨i,hi,e⟩:=List.getElem_of_mem hx
    have hm:wItm i x ∈ w.mapIdx wItm:=List.mem_mapIdx.mpr ⟨i,hi,by rw [e]⟩
    have:=told_in hn hm
    unfold find2
    rw [findW_in h hx]
    exact this
  · have h1:told (w.mapIdx wItm) g = (1,[]):=told_no fun x hx=>by
      obtain ⟨i,hi,rfl⟩:=List.mem_mapIdx.mp hx
      exact fun e=>hg ⟨w[i],List.getElem_mem hi,e⟩
    have h2:findW w g = ⟨1,[]⟩:=findW_none fun x hx e=>hg ⟨x,hx,e⟩
    unfold find2
    rw [h1,h2]
theorem wants_restart {w:List Wnt} (h:wErr false w = 0):wantsOf (w.mapIdx wItm) = w:=by
  have hw:=wErr_zero.mp h
  have ho:=restart_items (chgOk_of h) hw.2.2.2.2
  have h1:itmsOk 1000000 (w.mapIdx wItm):=⟨fun x hx=>by
    obtain ⟨⟨a,b⟩,c,d⟩:=ho.1 x hx
    have:=hw.1
    exact ⟨⟨a,by omega⟩,c,d⟩,ho.2⟩
  unfold wantsOf
  rw [if_pos h1]
  conv=>rhs; rw [wants_from h]
  exact fromF_congr fun i _ _=>told_restart hw.2.2.2.2 i
def upW (lw:Int → List Wnt) (r:Int) (w:List Wnt) (a:Int):List Wnt:=if a = r then w else lw a
structure LW (R:List Int) (o:Ovl) (k:Int) (lw:Int → List Wnt):Prop where
  oi:OI R o
  wa:∀ a ∈ R,wantsOf (it o a) = lw a
  wk:∀ a ∈ R,WOk 7 (lw a)
  bl:∀ a ∈ R,la o a ≤ 6 * k
  be:∀ a ∈ R,ep o a ≤ k + 1
  bq:∀ a ∈ R,le o a ≤ k + 1
section
variable {R : List Int} {o : Ovl} {k : Int} {lw : Int → List Wnt} {r : Int} {w : List Wnt}
theorem LW.change (h:LW R o k lw) (hr:r ∈ R) (hw:WOk 7 w) (hk:0 ≤ k ∧ k ≤ 1000):(changeV o r w).2 = 0 ∧ LW R (changeV o r w).1 (k + 1) (upW lw r w):=by
  obtain ⟨q1,q2⟩:=h.oi.net.s hr
  obtain ⟨k1,k2⟩:=h.oi.net.spo _ q1
  have ew:wantsOf (atS o.sp r).items = lw r:=h.wa r hr
  obtain ⟨c1,c2,c3⟩:=changes_ok (h.wk r hr) hw
  rw [← ew] at c1 c2 c3
  have hl:(atS o.sp r).last ≤ 6 * k:=h.bl r hr
  have b:=(chg_ok k1.2.2.2.1 k1.2.2.1.1 (chgOk_of c2)).2.2.1
  have c4:(Go.Proofs.YtglfecmdoekabaaGreatDoor.change (atS o.sp r) (changes (wantsOf (atS o.sp r).items) w).1).2 = 0:=by
    unfold Go.Proofs.YtglfecmdoekabaaGreatDoor.change
    rw [if_neg (not_not_intro k1),if_neg (not_not_intro c2),if_neg (by omega)]
  have hz:(changeV o r w).2 = 0:=by
    unfold changeV
    rw [if_neg (not_not_intro h.oi.ok),if_neg (by rw [h.oi.rt]; exact not_not_intro hr),if_neg (not_not_intro (hw.err (by omega))),if_neg (not_not_intro c1),if_neg (not_not_intro c4)]
  obtain ⟨_,d⟩:=changeV_ok h.oi hz
  refine ⟨hz,d.oi,fun a ha=>?_,fun a ha=>?_,fun a ha=>?_,fun a ha=>?_,fun a ha=>?_⟩
  · unfold upW it
    split
    · rename_i e; subst e; exact d.chg.wants
    · rename_i e; rw [d.other a ha e]; exact h.wa a ha
  · unfold upW
    split
    · exact hw
    · exact h.wk a ha
  · by_cases e:a = r
    · subst e
      have:=d.chg.last
      unfold la
      omega
    · unfold la
      rw [d.other a ha e]
      have:(atS o.sp a).last ≤ 6 * k:=h.bl a ha
      omega
  · by_cases e:a = r
    · subst e
      rw [d.ep]
      have:=h.be a ha
      omega
    · unfold ep
      rw [d.other a ha e]
      have:(atS o.sp a).epoch ≤ k + 1:=h.be a ha
      omega
  · unfold le
    rw [d.l a]
    have:(atL o.sp o.ls a).epoch ≤ k + 1:=h.bq a ha
    omega
theorem LW.restart (h:LW R o k lw) (hr:r ∈ R) (hw:WOk 7 w) (hk:0 ≤ k ∧ k ≤ 1000):(restartV o r w).2 = 0 ∧ LW R (restartV o r w).1 (k + 1) (upW lw r w):=by
  obtain ⟨q1,q2⟩:=h.oi.net.s hr
  obtain ⟨k1,k2⟩:=h.oi.net.spo _ q1
  have hwe:wErr false w = 0:=hw.err (by omega)
  have he:(atS o.sp r).epoch ≤ k + 1:=h.be r hr
  have hq:(atL o.sp o.ls r).epoch ≤ k + 1:=h.bq r hr
  have c4:(Go.Proofs.YtglfecmdoekabaaGreatDoor.restart (atS o.sp r) w).2 = 0:=by
    unfold Go.Proofs.YtglfecmdoekabaaGreatDoor.restart
    rw [if_neg (not_not_intro k1),if_neg (not_not_intro hwe),if_neg (by omega)]
  have hz:(restartV o r w).2 = 0:=by
    unfold restartV
    rw [if_neg (not_not_intro h.oi.ok),if_neg (by rw [h.oi.rt]; exact not_not_intro hr),if_neg (not_not_intro c4),if_neg (by omega)]
  obtain ⟨_,d⟩:=restartV_ok h.oi hz
  refine ⟨hz,d.oi,fun a ha=>?_,fun a ha=>?_,fun a ha=>?_,fun a ha=>?_,fun a ha=>?_⟩
  · unfold upW it
    split
    · rename_i e; subst e; rw [d.val]; exact wants_restart hwe
    · rename_i e; rw [d.other a ha e]; exact h.wa a ha
  · unfold upW
    split
    · exact hw
    · exact h.wk a ha
  · by_cases e:a = r
    · subst e
      unfold la
      rw [d.val]
      have:=hw.len
      simp only; omega
    · unfold la
      rw [d.other a ha e]
      have:(atS o.sp a).last ≤ 6 * k:=h.bl a ha
      omega
  · by_cases e:a = r
    · subst e
      unfold ep
      rw [d.val]
      have:(atS o.sp a).epoch ≤ k + 1:=h.be a ha
      unfold ep
      simp only; omega
    · unfold ep
      rw [d.other a ha e]
      have:(atS o.sp a).epoch ≤ k + 1:=h.be a ha
      omega
  · by_cases e:a = r
    · subst e
      unfold le
      rw [d.lr]
      unfold le
      simp only; omega
    · unfold le
      rw [d.l a ha e]
      have:(atL o.sp o.ls a).epoch ≤ k + 1:=h.bq a ha
      omega
theorem LW.more (h:LW R o k lw) {m:Int} (hm:k ≤ m):LW R o m lw:=
  ⟨h.oi,h.wa,h.wk,fun a ha=>by have:=h.bl a ha; omega,fun a ha=>by have:=h.be a ha; omega,fun a ha=>by have:=h.bq a ha; omega⟩
theorem LW.roundO (h:LW R o k lw) (f:List Fau):(roundO o f).2 = 0 ∧ LW R (roundO o f).1 k lw:=by
  obtain ⟨h1,d⟩:=h.oi.roundO f
  have r:=(h.oi.round d.now d.late).2
  rw [← d.val] at r
  exact ⟨h1,d.oi,fun a ha=>by rw [r.it a ha]; exact h.wa a ha,h.wk,fun a ha=>by rw [r.la a ha]; exact h.bl a ha,fun a ha=>by rw [r.ep a ha]; exact h.be a ha,fun a ha=>by rw [r.le a ha]; exact h.bq a ha⟩
end
theorem LW.new {l:List Int} (h:okR l):LW l (netOf l) 0 fun _=>[]:=by
  have hw:WOk 7 []:=⟨fun w hw=>by simp at hw,fun w hw=>by simp at hw,fun w hw=>by simp at hw,List.Pairwise.nil,by simp⟩
  refine ⟨OI.new h,fun a ha=>?_,fun _ _=>hw,fun a ha=>?_,fun a ha=>?_,fun a ha=>?_⟩
  · unfold it; rw [netOf_s h ha]; exact wants_nil
  · unfold la; rw [netOf_s h ha]; exact Int.le_refl _
  · unfold ep; rw [netOf_s h ha]; exact Int.le_refl _
  · unfold le; rw [netOf_l h ha]; exact Int.le_refl _
end Go.Proofs.YtglfecmdoekabaaGreatDoor

namespace Go.Proofs.YtglfecmdoekabaaGreatDoor
open Go Go.Am
set_option linter.unusedVariables false
set_option linter.unusedSimpArgs false
structure Alike (P:List Int) (o q:Ovl):Prop where
  s1:∀ a ∈ P,ep o a = ep q a
  s2:∀ a ∈ P,la o a = la q a
  s3:∀ a ∈ P,it o a = it q a
  s4:∀ a ∈ P,le o a = le q a
  s5:∀ a ∈ P,∀ b ∈ P,a ≠ b → pe o a b = pe q a b
  s6:∀ a ∈ P,∀ b ∈ P,a ≠ b → he o a b = he q a b
  s7:∀ a ∈ P,∀ b ∈ P,a ≠ b → tells o a b = tells q a b
  s8:∀ a ∈ P,∀ b ∈ P,a ≠ b → acks o a b = acks q a b
theorem Alike.symm {P:List Int} {o q:Ovl} (h:Alike P o q):Alike P q o:=
  ⟨fun a ha=>(h.s1 a ha).symm,fun a ha=>(h.s2 a ha).symm,fun a ha=>(h.s3 a ha).symm,fun a ha=>(h.s4 a ha).symm,fun a ha b hb q=>(h.s5 a ha b hb q).symm,fun a ha b hb q=>(h.s6 a ha b hb q).symm,fun a ha b hb q=>(h.s7 a ha b hb q).symm,fun a ha b hb q=>(h.s8 a ha b hb q).symm⟩
theorem Alike.trans {P:List Int} {o q u:Ovl} (h:Alike P o q) (k:Alike P q u):Alike P o u:=
  ⟨fun a ha=>(h.s1 a ha).trans (k.s1 a ha),fun a ha=>(h.s2 a ha).trans (k.s2 a ha),fun a ha=>(h.s3 a ha).trans (k.s3 a ha),fun a ha=>(h.s4 a ha).trans (k.s4 a ha),fun a ha b hb q=>(h.s5 a ha b hb q).trans (k.s5 a ha b hb q),fun a ha b hb q=>(h.s6 a ha b hb q).trans (k.s6 a ha b hb q),fun a ha b hb q=>(h.s7 a ha b hb q).trans (k.s7 a ha b hb q),fun a ha b hb q=>(h.s8 a ha b hb q).trans (k.s8 a ha b hb q)⟩
section
variable {P R S : List Int} {o o' q q' : Ovl} {r : Int} {w : List Wnt}
theorem Chgd.vals (d:Chgd R o o' r w):la o' r = ((changes (wantsOf (it o r)) w).1.foldl chg1 (la o r,it o r)).1 ∧ it o' r = ((changes (wantsOf (it o r)) w).1.foldl chg1 (la o r,it o r)).2:=by
  obtain ⟨_,_,_,e⟩:=change_val d.cz
  unfold la it
  rw [d.val,e]
  exact ⟨rfl,rfl⟩
theorem Alike.fl (hf:o'.fl = o.fl) (a b:Int):tells o' a b = tells o a b ∧ acks o' a b = acks o a b:=by
  unfold tells acks; rw [hf]; exact ⟨rfl,rfl⟩
theorem Chgd.out (d:Chgd S q q' r w) (hS:∀ a ∈ P,a ∈ S) (hr:r ∉ P):Alike P q q':=by
  have ho:∀ a ∈ P,atS q'.sp a = atS q.sp a:=fun a ha=>d.other a (hS a ha) fun e=>hr (e ▸ ha)
  refine ⟨fun a ha=>?_,fun a ha=>?_,fun a ha=>?_,fun a ha=>?_,fun a ha b hb _=>?_,fun a ha b hb _=>?_,fun a ha b hb _=>(Alike.fl d.fl a b).1.symm,fun a ha b hb _=>(Alike.fl d.fl a b).2.symm⟩
  · unfold Go.Proofs.YtglfecmdoekabaaGreatDoor.ep; rw [ho a ha]
  · unfold la; rw [ho a ha]
  · unfold it; rw [ho a ha]
  · unfold le; rw [d.l]
  · unfold pe; rw [ho a ha]
  · unfold he; rw [d.l]
theorem Rstd.out (d:Rstd S q q' r w) (hS:∀ a ∈ P,a ∈ S) (hr:r ∉ P):Alike P q q':=by
  have ho:∀ a ∈ P,atS q'.sp a = atS q.sp a:=fun a ha=>d.other a (hS a ha) fun e=>hr (e ▸ ha)
  have hl:∀ a ∈ P,atL q'.sp q'.ls a = atL q.sp q.ls a:=fun a ha=>d.l a (hS a ha) fun e=>hr (e ▸ ha)
  refine ⟨fun a ha=>?_,fun a ha=>?_,fun a ha=>?_,fun a ha=>?_,fun a ha b hb _=>?_,fun a ha b hb _=>?_,fun a ha b hb _=>(Alike.fl d.fl a b).1.symm,fun a ha b hb _=>(Alike.fl d.fl a b).2.symm⟩
  · unfold ep; rw [ho a ha]
  · unfold la; rw [ho a ha]
  · unfold it; rw [ho a ha]
  · unfold le; rw [hl a ha]
  · unfold pe; rw [ho a ha]
  · unfold he; rw [hl b hb]
theorem Alike.change (h:Alike P o q) (hR:∀ a ∈ P,a ∈ R) (hS:∀ a ∈ P,a ∈ S) (hr:r ∈ P) (d:Chgd R o o' r w) (f:Chgd S q q' r w):Alike P o' q':=by
  obtain ⟨d1,d2⟩:=d.vals
  obtain ⟨f1,f2⟩:=f.vals
  refine ⟨fun a ha=>?_,fun a ha=>?_,fun a ha=>?_,fun a ha=>?_,fun a ha b hb hab=>?_,fun a ha b hb hab=>?_,fun a ha b hb hab=>?_,fun a ha b hb hab=>?_⟩
  · by_cases e:a = r
    · subst e; rw [d.ep,f.ep]; exact h.s1 a ha
    · unfold ep; rw [d.other a (hR a ha) e,f.other a (hS a ha) e]; exact h.s1 a ha
  · by_cases e:a = r
    · subst e; rw [d1,f1,h.s2 a ha,h.s3 a ha]
    · unfold la; rw [d.other a (hR a ha) e,f.other a (hS a ha) e]; exact h.s2 a ha
  · by_cases e:a = r
    · subst e; rw [d2,f2,h.s2 a ha,h.s3 a ha]
    · unfold it; rw [d.other a (hR a ha) e,f.other a (hS a ha) e]; exact h.s3 a ha
  · unfold le; rw [d.l,f.l]; exact h.s4 a ha
  · by_cases e:a = r
    · subst e; unfold pe; rw [d.peers,f.peers]; exact h.s5 a ha b hb hab
    · unfold pe; rw [d.other a (hR a ha) e,f.other a (hS a ha) e]; exact h.s5 a ha b hb hab
  · unfold he; rw [d.l,f.l]; exact h.s6 a ha b hb hab
  · rw [(Alike.fl d.fl a b).1,(Alike.fl f.fl a b).1]; exact h.s7 a ha b hb hab
  · rw [(Alike.fl d.fl a b).2,(Alike.fl f.fl a b).2]; exact h.s8 a ha b hb hab
theorem Rstd.pe (d:Rstd R o o' r w) (hr:r ∈ R) {b:Int} (hb:b ∈ R) (hrb:r ≠ b):pe o' r b = ⟨b,0,0⟩:=by
  obtain ⟨z,hz,e⟩:=d.oi.net.peer hr hb hrb
  have hz2:=hz
  rw [d.val] at hz2
  obtain ⟨y,hy,ey⟩:=List.mem_map.mp hz2
  have ez:z = ⟨b,0,0⟩:=by
    rw [← ey] at e ⊢
    have:y.router = b:=e
    rw [this]
  have ho:=(d.oi.net.spo _ (d.oi.net.s hr).1).1.2.2.2.2.2.2
  have:=pOf_mem ho hz
  rw [e] at this
  unfold Go.Proofs.YtglfecmdoekabaaGreatDoor.pe
  rw [this,ez]
theorem Alike.restart (h:Alike P o q) (hR:∀ a ∈ P,a ∈ R) (hS:∀ a ∈ P,a ∈ S) (hr:r ∈ P) (d:Rstd R o o' r w) (f:Rstd S q q' r w):Alike P o' q':=by
  refine ⟨fun a ha=>?_,fun a ha=>?_,fun a ha=>?_,fun a ha=>?_,fun a ha b hb hab=>?_,fun a ha b hb hab=>?_,fun a ha b hb hab=>?_,fun a ha b hb hab=>?_⟩
  · by_cases e:a = r
    · subst e
      have:=h.s1 a ha
      unfold ep at *
      rw [d.val,f.val]
      unfold ep
      simp only; rw [this]
    · unfold ep; rw [d.other a (hR a ha) e,f.other a (hS a ha) e]; exact h.s1 a ha
  · by_cases e:a = r
    · subst e; unfold la; rw [d.val,f.val]
    · unfold la; rw [d.other a (hR a ha) e,f.other a (hS a ha) e]; exact h.s2 a ha
  · by_cases e:a = r
    · subst e; unfold it; rw [d.val,f.val]
    · unfold it; rw [d.other a (hR a ha) e,f.other a (hS a ha) e]; exact h.s3 a ha
  · by_cases e:a = r
    · subst e
      have:=h.s4 a ha
      unfold le at *
      rw [d.lr,f.lr]
      unfold le
      simp only; rw [this]
    · unfold le; rw [d.l a (hR a ha) e,f.l a (hS a ha) e]; exact h.s4 a ha
  · by_cases e:a = r
    · subst e; rw [d.pe (hR a ha) (hR b hb) hab,f.pe (hS a ha) (hS b hb) hab]
    · unfold Go.Proofs.YtglfecmdoekabaaGreatDoor.pe; rw [d.other a (hR a ha) e,f.other a (hS a ha) e]; exact h.s5 a ha b hb hab
  · by_cases e:b = r
    · subst e; unfold he; rw [d.lr,f.lr]
    · unfold he; rw [d.l b (hR b hb) e,f.l b (hS b hb) e]; exact h.s6 a ha b hb hab
  · rw [(Alike.fl d.fl a b).1,(Alike.fl f.fl a b).1]; exact h.s7 a ha b hb hab
  · rw [(Alike.fl d.fl a b).2,(Alike.fl f.fl a b).2]; exact h.s8 a ha b hb hab
theorem sendFrom_cong {s t:Spk} (h1:s.router = t.router) (h2:s.epoch = t.epoch) {to acked:Int}:∀ {l:List Itm} {prev:Int},sendFrom s to acked prev l = sendFrom t to acked prev l
  | [],_=>rfl
  | x :: l,prev=>by
    have e:upd1 s to prev x = upd1 t to prev x:=by unfold upd1; rw [h1,h2]
    rw [sendFrom,sendFrom,e,sendFrom_cong h1 h2]
theorem Alike.round0 (h:Alike P o q) (hR:∀ a ∈ P,a ∈ R) (hS:∀ a ∈ P,a ∈ S) (ho:OI R o) (hq:OI S q):Alike P (round0 o) (round0 q):=by
  have r:=ho.r0
  have s:=hq.r0
  have e1:∀ a ∈ P,ep (Go.Proofs.YtglfecmdoekabaaGreatDoor.round0 o) a = ep (Go.Proofs.YtglfecmdoekabaaGreatDoor.round0 q) a:=fun a ha=>by rw [r.ep a (hR a ha),s.ep a (hS a ha)]; exact h.s1 a ha
  have e2:∀ a ∈ P,la (Go.Proofs.YtglfecmdoekabaaGreatDoor.round0 o) a = la (Go.Proofs.YtglfecmdoekabaaGreatDoor.round0 q) a:=fun a ha=>by rw [r.la a (hR a ha),s.la a (hS a ha)]; exact h.s2 a ha
  have e3:∀ a ∈ P,it (Go.Proofs.YtglfecmdoekabaaGreatDoor.round0 o) a = it (Go.Proofs.YtglfecmdoekabaaGreatDoor.round0 q) a:=fun a ha=>by rw [r.it a (hR a ha),s.it a (hS a ha)]; exact h.s3 a ha
  have e5:∀ a ∈ P,∀ b ∈ P,a ≠ b → Go.Proofs.YtglfecmdoekabaaGreatDoor.pe (Go.Proofs.YtglfecmdoekabaaGreatDoor.round0 o) a b = Go.Proofs.YtglfecmdoekabaaGreatDoor.pe (Go.Proofs.YtglfecmdoekabaaGreatDoor.round0 q) a b:=fun a ha b hb hab=>by
    rw [r.p a (hR a ha) b (hR b hb) hab,s.p a (hS a ha) b (hS b hb) hab,ackL_cong (a:=atS o.sp a) (b:=atS q.sp a) (h.s1 a ha) (h.s2 a ha),h.s5 a ha b hb hab]
    have:=h.s8 a ha b hb hab
    unfold acks at this
    rw [this]
  refine ⟨e1,e2,e3,fun a ha=>?_,e5,fun a ha b hb hab=>?_,fun a ha b hb hab=>?_,fun a ha b hb hab=>?_⟩
  · rw [r.le a (hR a ha),s.le a (hS a ha)]; exact h.s4 a ha
  · rw [r.g a (hR a ha) b (hR b hb) hab,s.g a (hS a ha) b (hS b hb) hab,h.s6 a ha b hb hab]
    have:=h.s7 a ha b hb hab
    unfold tells at this
    rw [this]
  · rw [(ho.st1 (hR a ha) (hR b hb) hab).t,(hq.st1 (hS a ha) (hS b hb) hab).t,ho.round0.send (hR a ha) (hR b hb) hab,hq.round0.send (hS a ha) (hS b hb) hab,e5 a ha b hb hab]
    have r1:=(ho.round0.net.s (hR a ha)).2
    have r2:=(hq.round0.net.s (hS a ha)).2
    have i1:(atS (Go.Proofs.YtglfecmdoekabaaGreatDoor.round0 o).sp a).epoch = (atS (Go.Proofs.YtglfecmdoekabaaGreatDoor.round0 q).sp a).epoch:=e1 a ha
    have i2:(atS (Go.Proofs.YtglfecmdoekabaaGreatDoor.round0 o).sp a).last = (atS (Go.Proofs.YtglfecmdoekabaaGreatDoor.round0 q).sp a).last:=e2 a ha
    have i3:(atS (Go.Proofs.YtglfecmdoekabaaGreatDoor.round0 o).sp a).items = (atS (Go.Proofs.YtglfecmdoekabaaGreatDoor.round0 q).sp a).items:=e3 a ha
    have hh:hello (atS (Go.Proofs.YtglfecmdoekabaaGreatDoor.round0 o).sp a) b = hello (atS (Go.Proofs.YtglfecmdoekabaaGreatDoor.round0 q).sp a) b:=by unfold hello; rw [r1,r2,i1,i2]
    rw [hh,i3,sendFrom_cong (s:=atS (Go.Proofs.YtglfecmdoekabaaGreatDoor.round0 o).sp a) (t:=atS (Go.Proofs.YtglfecmdoekabaaGreatDoor.round0 q).sp a) (r1.trans r2.symm) i1]
  · rw [ho.acks0 (hR a ha) (hR b hb) hab,hq.acks0 (hS a ha) (hS b hb) hab,h.s4 b hb,h.s6 a ha b hb hab,h.s7 a ha b hb hab]
end
theorem Alike.new {P R S:List Int} (hR:okR R) (hS:okR S) (h1:∀ a ∈ P,a ∈ R) (h2:∀ a ∈ P,a ∈ S):Alike P (netOf R) (netOf S):=by
  have hp:∀ {l:List Int} (hl:okR l) (a b:Int),a ∈ l → b ∈ l → a ≠ b → pOf (spkN l a).peers b = ⟨b,0,0⟩:=fun {l} hl a b ha hb hab =>
    pOf_mem (spkN_ok hl ha).1.2.2.2.2.2.2 (z:=⟨b,0,0⟩) (List.mem_map.mpr ⟨b,List.mem_filter.mpr ⟨hb,by simpa using Ne.symm hab⟩,rfl⟩)
  refine ⟨fun a ha=>?_,fun a ha=>?_,fun a ha=>?_,fun a ha=>?_,fun a ha b hb hab=>?_,fun a ha b hb hab=>?_,fun a ha b hb hab=>rfl,fun a ha b hb hab=>rfl⟩
  · unfold ep; rw [netOf_s hR (h1 a ha),netOf_s hS (h2 a ha)]; rfl
  · unfold la; rw [netOf_s hR (h1 a ha),netOf_s hS (h2 a ha)]; rfl
  · unfold it; rw [netOf_s hR (h1 a ha),netOf_s hS (h2 a ha)]; rfl
  · unfold le; rw [netOf_l hR (h1 a ha),netOf_l hS (h2 a ha)]
  · unfold pe; rw [netOf_s hR (h1 a ha),netOf_s hS (h2 a ha),hp hR a b (h1 a ha) (h1 b hb) hab,hp hS a b (h2 a ha) (h2 b hb) hab]
  · unfold he; rw [netOf_l hR (h1 b hb),netOf_l hS (h2 b hb)]
end Go.Proofs.YtglfecmdoekabaaGreatDoor

namespace Go.Proofs.YtglfecmdoekabaaGreatDoor
open Go Go.Am
set_option linter.unusedVariables false
set_option linter.unusedSimpArgs false
theorem asc_take {α:Type} (key:α → Int) {l:List α} {k:Nat} {x y:α} (hx:l[k]? = some x) (h0:0 < k) (hy:l[k - 1]? = some y) :
    (l.take (k + 1)).Pairwise (fun a b=>key a < key b) ↔ (l.take k).Pairwise (fun a b=>key a < key b) ∧ key y < key x:=by
  rw [take_succ hx,List.pairwise_append]
  have hm:y ∈ l.take k:=by
    have:(l.take k)[k - 1]? = some y:=by rw [List.getElem?_take,if_pos (by omega)]; exact hy
    exact List.mem_of_getElem? this
  constructor
  · rintro ⟨h1,_,h3⟩
    exact ⟨h1,h3 y hm x (by simp)⟩
  · rintro ⟨h1,h2⟩
    refine ⟨h1,List.pairwise_singleton _ _,fun a ha b hb=>?_⟩
    rw [List.mem_singleton] at hb; subst hb
    obtain ⟨i,hi,rfl⟩:=List.getElem_of_mem ha
    rw [List.length_take] at hi
    rw [List.getElem_take]
    obtain ⟨hk,hyk⟩:=List.getElem?_eq_some_iff.mp hy
    rcases Nat.lt_or_ge i (k - 1) with e | e
    · have:=List.pairwise_iff_getElem.mp h1 i (k - 1) (by rw [List.length_take]; omega) (by rw [List.length_take]; omega) e
      rw [List.getElem_take,List.getElem_take,hyk] at this
      omega
    · have:i = k - 1:=by omega
      subst this
      rw [hyk]; exact h2
theorem asc_first {α:Type} (key:α → Int) {l:List α} {x:α} (hx:l[0]? = some x):(l.take 1).Pairwise (fun a b=>key a < key b):=by
  rw [take_succ hx]; simp
theorem mem_take_succ {α:Type} {l:List α} {k:Nat} {x:α} (hx:l[k]? = some x) {P:α → Prop}:(∀ y ∈ l.take (k + 1),P y) ↔ (∀ y ∈ l.take k,P y) ∧ P x:=by
  rw [take_succ hx]
  constructor
  · intro h; exact ⟨fun y hy=>h y (List.mem_append_left _ hy),h x (by simp)⟩
  · rintro ⟨h1,h2⟩ y hy
    rcases List.mem_append.mp hy with hy | hy
    · exact h1 y hy
    · rw [List.mem_singleton] at hy; subst hy; exact h2
theorem itmsOk.take {n:Int} {l:List Itm} (h:itmsOk n l) (k:Nat):itmsOk n (l.take k):=
  ⟨fun x hx=>h.1 x (List.mem_of_mem_take hx),by rw [List.map_take]; exact h.2.1.sublist (List.take_sublist _ _),h.2.2.sublist (List.take_sublist _ _)⟩
end Go.Proofs.YtglfecmdoekabaaGreatDoor

namespace Go.Proofs.YtglfecmdoekabaaGreatDoor
open Go Go.Am
set_option linter.unusedVariables false
set_option linter.unusedSimpArgs false
theorem pw_succ {α:Type} (key:α → Int) {l:List α} {k:Nat} {x:α} (hx:l[k]? = some x) :
    (l.take (k + 1)).Pairwise (fun a b=>key a < key b) ↔ (l.take k).Pairwise (fun a b=>key a < key b) ∧ (0 < k → ∀ y,l[k - 1]? = some y → key y < key x):=by
  cases k with
  | zero=>simp only [asc_first key hx,List.take_zero,List.Pairwise.nil,true_and,true_iff]; intro h; omega
  | succ k =>
    obtain ⟨y,hy⟩:∃ y,l[k]? = some y:=⟨_,List.getElem?_eq_getElem (by have:=lt_of_get hx; omega)⟩
    rw [asc_take key hx (by omega) (by simpa using hy)]
    simp only [Nat.add_sub_cancel,hy,Option.some.injEq,Nat.zero_lt_succ,forall_const,forall_eq']
end Go.Proofs.YtglfecmdoekabaaGreatDoor

namespace Go.Proofs.YtglfecmdoekabaaGreatDoor
open Go Go.Am
set_option linter.unusedVariables false
set_option linter.unusedSimpArgs false
def others (l:List Int) (n:Int):List Int:=l.filter fun x=>decide (x ≠ n)
structure AtK (R:List Int) (i:Nat) (s:Spk) (l:Lsn):Prop where
  fs:spkOk s
  fasc:0 < i → ∀ y,R[i - 1]? = some y → y < s.router
  fp:s.peers.map Per.router = others R s.router
  fl:lsnOk l
  fr:l.router = s.router
  fh:∀ h ∈ l.heard,h.router ∈ R
theorem rtrs_get {sp:List Spk} {i:Nat} {s:Spk} (h:sp[i]? = some s):(rtrs sp)[i]? = some s.router:=by
  unfold rtrs; rw [List.getElem?_map,h]; rfl
theorem rtrs_len {sp:List Spk}:(rtrs sp).length = sp.length:=List.length_map ..
theorem ovl_iff {o:Ovl}:ovlOk o ↔ o.sp.length ≤ 12 ∧ o.ls.length = o.sp.length ∧ (∀ i s l,o.sp[i]? = some s → o.ls[i]? = some l → AtK (rtrs o.sp) i s l) ∧ ∀ x ∈ o.fl,sigIn (rtrs o.sp) x:=by
  constructor
  · rintro ⟨h,hf⟩
    refine ⟨by rw [← rtrs_len]; exact h.len,?_,fun i s l hs hl=>?_,hf⟩
    · have:=congrArg List.length h.lsr
      rw [List.length_map,rtrs_len] at this; exact this
    · obtain ⟨s1,s2⟩:=h.spo s (mem_of_get hs)
      obtain ⟨l1,l2⟩:=h.lso l (mem_of_get hl)
      refine ⟨s1,fun hi y hy=>?_,s2,l1,?_,l2⟩
      · unfold rtrs at hy
        rw [List.getElem?_map] at hy
        cases hz:o.sp[i - 1]? with
        | none=>rw [hz] at hy; simp at hy
        | some z =>
          rw [hz] at hy
          have hy:z.router = y:=by simpa using hy
          have:=pw_get h.asc (show i - 1 < i by omega) hz hs
          omega
      · have h1:=rtrs_get hs
        rw [← h.lsr,List.getElem?_map,hl] at h1
        simpa using h1
  · rintro ⟨h1,h2,h3,h4⟩
    have hget:∀ {i:Nat} {s:Spk},o.sp[i]? = some s → ∃ l,o.ls[i]? = some l:=fun {i s} hs=>⟨_,List.getElem?_eq_getElem (by have:=lt_of_get hs; omega)⟩
    have hgetL:∀ {i:Nat} {l:Lsn},o.ls[i]? = some l → ∃ s,o.sp[i]? = some s:=fun {i l} hs=>⟨_,List.getElem?_eq_getElem (by have:=lt_of_get hs; omega)⟩
    have hasc:∀ k:Nat,k ≤ o.sp.length → (o.sp.take k).Pairwise fun x y=>x.router < y.router:=by
      intro k
      induction k with
      | zero=>intro _; simp
      | succ k ih =>
        intro hk
        have hs:o.sp[k]? = some o.sp[k]:=List.getElem?_eq_getElem (by omega)
        obtain ⟨l,hl⟩:=hget hs
        refine (pw_succ Spk.router hs).mpr ⟨ih (by omega),fun hp y hy=>?_⟩
        exact (h3 k _ l hs hl).fasc hp _ (rtrs_get hy)
    have ha:=hasc o.sp.length (Nat.le_refl _)
    rw [List.take_length] at ha
    refine ⟨⟨by rw [rtrs_len]; exact h1,rfl,?_,ha,fun s hs=>?_,fun l hl=>?_⟩,h4⟩
    · refine List.ext_getElem (by rw [List.length_map,rtrs_len,h2]) fun i i1 i2=>?_
      rw [List.length_map] at i1
      have hl:o.ls[i]? = some o.ls[i]:=List.getElem?_eq_getElem i1
      obtain ⟨s,hs⟩:=hgetL hl
      have:=(h3 i s _ hs hl).fr
      rw [List.getElem_map,this]
      have e:=rtrs_get hs
      rw [List.getElem?_eq_getElem i2] at e
      simpa using e.symm
    · obtain ⟨i,hi,rfl⟩:=List.getElem_of_mem hs
      have hs:o.sp[i]? = some o.sp[i]:=List.getElem?_eq_getElem hi
      obtain ⟨l,hl⟩:=hget hs
      have q:=h3 i _ l hs hl
      exact ⟨q.fs,q.fp⟩
    · obtain ⟨i,hi,rfl⟩:=List.getElem_of_mem hl
      have hl:o.ls[i]? = some o.ls[i]:=List.getElem?_eq_getElem hi
      obtain ⟨s,hs⟩:=hgetL hl
      have q:=h3 i s _ hs hl
      exact ⟨q.fl,q.fh⟩
end Go.Proofs.YtglfecmdoekabaaGreatDoor

namespace Go.Proofs.YtglfecmdoekabaaGreatDoor
open Go Go.Am
set_option linter.unusedVariables false
set_option linter.unusedSimpArgs false
structure Inv2 (k:Nat) (a:Spk) (l:Lsn) (air:List Sig):Prop where
  inv:Inv k a l air
  pi:PI a.epoch a.last a.items (pOf a.peers 2) l.epoch (gOf l.heard 1)
  acks:∀ x ∈ air,x.kind = 3 → AckOk a.epoch l.epoch (gOf l.heard 1) x
theorem Inv2.sub {k:Nat} {a:Spk} {l:Lsn} {air air':List Sig} (h:Inv2 k a l air) (h1:∀ x ∈ air',x ∈ air) (h2:air'.length ≤ air.length):Inv2 k a l air':=
  ⟨h.inv.sub h1 h2,h.pi,fun x hx=>h.acks x (h1 x hx)⟩
theorem Inv2.tell {k:Nat} {a:Spk} {l:Lsn} {air:List Sig} {x:Sig} (hx:AirOk a x) (hk:x.kind ≠ 3):TellOk a.epoch a.last a.items x:=⟨(hx.tell hk).2.2,fun q1 q2=>hx.upd q1 q2⟩
theorem Inv2.grow {k:Nat} {a:Spk} {l:Lsn} {air:List Sig} (h:Inv2 k a l air):Inv2 (k + 1) a l air:=⟨h.inv.grow,h.pi,h.acks⟩
end Go.Proofs.YtglfecmdoekabaaGreatDoor

namespace Go.Proofs.YtglfecmdoekabaaGreatDoor
open Go Go.Am
set_option linter.unusedVariables false
set_option linter.unusedSimpArgs false
def sameW_a (a:(List Wnt)) (b:(List Wnt)):Prop:=okL [.sl 3 (a.map Wnt.v) false,.sl 3 (b.map Wnt.v) false]
def sameW_n0 (a:(List Wnt)) (b:(List Wnt)) (t0:Int):NF:=⟨[(0,.k,.sl 3 (a.map Wnt.v) false),(1,.k,.sl 3 (b.map Wnt.v) false),(5,.k,.int t0)],[]⟩
def sameW_s:Nat → Type
  | 0=>Int
  | _=>Unit
def sameW_e (r:Bool):AV:=.bool r
def sameW_vc (a:(List Wnt)) (b:(List Wnt)) (I0:Int → Prop) (m0:Int → Nat) (r0:Bool):Prop:=
 br (((a.map Wnt.v).length:Int) != ((b.map Wnt.v).length:Int))
 (Rf (sameW_e (false)) ((false) = r0))
 (Nf (sameW_n0 a b (0)) [] (I0 (0)) ∧ ∀ t0:Int,I0 t0 →
 br (decide (t0 < ((a.map Wnt.v).length:Int)))
 (Rf (a.map Wnt.v) (ck (decide (0 ≤ t0)) (ck (decide (t0 < (a.length:Int)))
 (∀ x1,a[t0.toNat]? = some x1 →
 Rf (b.map Wnt.v) (ck (decide (0 ≤ t0)) (ck (decide (t0 < (b.length:Int)))
 (∀ x2,b[t0.toNat]? = some x2 →
 br (x1.grp != x2.grp)
 (Rf (sameW_e (false)) ((false) = r0))
 (Rf (a.map Wnt.v) (ck (decide (0 ≤ t0)) (ck (decide (t0 < (a.length:Int)))
 (∀ x3,a[t0.toNat]? = some x3 →
 Rf (b.map Wnt.v) (ck (decide (0 ≤ t0)) (ck (decide (t0 < (b.length:Int)))
 (∀ x4,b[t0.toNat]? = some x4 →
 Cl (FSame_c (⟨x3.mode,x3.srcs⟩:Flt) (⟨x4.mode,x4.srcs⟩:Flt))
 (br (!(FSame (⟨x3.mode,x3.srcs⟩:Flt) (⟨x4.mode,x4.srcs⟩:Flt)))
 (Rf (sameW_e (false)) ((false) = r0))
 (Nf (sameW_n0 a b (W (t0 + 1))) [] (I0 (W (t0 + 1)) ∧ m0 (W (t0 + 1)) < m0 t0)))))))))))))))))
 (Rf (sameW_e (true)) ((true) = r0)))
theorem sameW_eq (a:(List Wnt)) (b:(List Wnt)) (I0:Int → Prop) (m0:Int → Nat) (r0:Bool):mxP Tryz.prog 25 [.sl 3 (a.map Wnt.v) false,.sl 3 (b.map Wnt.v) false] .k sameW_e ((.br 96 (.ret (false))
 (.loop 0 (sameW_n0 a b) (I0) (m0) ((0):Int) [] fun (t0:Int) =>
 (.br 64 (.el 96 Wnt.v a fun x1 =>
 (.el 176 Wnt.v b fun x2 =>
 (.br 256 (.ret (false))
 (.el 288 Wnt.v a fun x3 =>
 (.el 368 Wnt.v b fun x4 =>
 (.callP (FSame_c (⟨x3.mode,x3.srcs⟩:Flt) (⟨x4.mode,x4.srcs⟩:Flt))
 (.br 464 (.ret (false))
 (.back 0 ((W (t0 + 1)):Int) []))))))))
 (.ret (true))))):An Tryz.prog sameW_s (Bool)) r0 = sameW_vc a b I0 m0 r0:=by kernel_rfl
theorem sameW_ok (a:(List Wnt)) (b:(List Wnt)) (I0:Int → Prop) (m0:Int → Nat) (r0:Bool) (h:sameW_vc a b I0 m0 r0):PSpec Tryz.prog 25 [.sl 3 (a.map Wnt.v) false,.sl 3 (b.map Wnt.v) false] (sameW_e r0):=by
  have e:=sameW_eq a b I0 m0 r0
  rw [← e] at h
  exact mxP_ok (enc:=sameW_e) h (AV.pureB_ok rfl)
theorem Wnt.eq_iff {x y:Wnt}:x = y ↔ x.grp = y.grp ∧ x.mode = y.mode ∧ x.srcs = y.srcs:=by cases x; cases y; simp
theorem sameW_p (a b:List Wnt) (ok:sameW_a a b):∃ I m,sameW_vc a b I m (decide (a = b)):=by
  simp only [sameW_a,okU,Blk.ok,plainV,List.length_map] at ok
  refine ⟨fun t=>∃ k:Nat,t = k ∧ k ≤ a.length ∧ a.take k = b.take k,fun t=>a.length - t.toNat,?_⟩
  simp only [sameW_vc,vcU,rfU,List.length_map]
  refine ⟨fun e=>(decide_eq_false fun h=>by subst h; simp at e).symm,fun e=>⟨⟨0,rfl,by omega,rfl⟩,?_⟩⟩
  have e:a.length = b.length:=by simp at e; omega
  rintro _ ⟨k,rfl,hk,h⟩
  simp only [Int.toNat_natCast]
  refine ⟨fun h1=>⟨by omega,by omega,fun x hx=>⟨by omega,by omega,fun y hy=>?_⟩⟩,fun h1=>?_⟩
  · have bad:x ≠ y → false = decide (a = b):=fun hne=>(decide_eq_false fun hh=>by
      subst hh
      cases hx.symm.trans hy
      exact hne rfl).symm
    refine ⟨fun c=>bad fun q=>by subst q; simp at c,fun c=>⟨by omega,by omega,fun x2 hx2=>⟨by omega,by omega,fun y2 hy2=>?_⟩⟩⟩
    cases hx.symm.trans hx2
    cases hy.symm.trans hy2
    refine ⟨fun c3=>bad fun q=>by subst q; simp [FSame] at c3,fun c3=>?_⟩
    have q:x = y:=by
      rw [Wnt.eq_iff]
      have c3:FSame ⟨x.mode,x.srcs⟩ ⟨y.mode,y.srcs⟩ = true:=by simpa using c3
      have c3:=of_decide_eq_true c3
      simp only [Flt.mk.injEq] at c3
      exact ⟨by simpa using c,c3⟩
    subst q
    rw [W_succ (n:=a.length) (by omega) (by omega)]
    exact ⟨⟨k + 1,rfl,by omega,by rw [take_succ hx,take_succ hy,h]⟩,by omega⟩
  · rw [List.take_of_length_le (by omega),List.take_of_length_le (by omega)] at h
    exact (decide_eq_true h).symm
def sameW_c (a:(List Wnt)) (b:(List Wnt)):PC Tryz.prog:=⟨25,[(.s 3),(.s 3)],[.sl 3 (a.map Wnt.v) false,.sl 3 (b.map Wnt.v) false],sameW_e (decide (a = b)),PSpec.of_ok fun ok=>(sameW_p a b ok).elim fun I0 h=>h.elim fun m0 h=>sameW_ok a b I0 m0 _ h,fnB_ok (by kernel_rfl)⟩
end Go.Proofs.YtglfecmdoekabaaGreatDoor

namespace Go.Proofs.YtglfecmdoekabaaGreatDoor
open Go Go.Am
set_option linter.unusedVariables false
set_option linter.unusedSimpArgs false
theorem nodec {p:Prop} [Decidable p] (h:¬ p):false = decide p:=(decide_eq_false h).symm
theorem Sig.eq_iff {x y:Sig}:x = y ↔ x.kind = y.kind ∧ x.src = y.src ∧ x.dst = y.dst ∧ x.epoch = y.epoch ∧ x.ver = y.ver ∧ x.prev = y.prev ∧ x.pep = y.pep ∧ x.grp = y.grp ∧ x.mode = y.mode ∧ x.srcs = y.srcs:=by cases x; cases y; simp
theorem Spk.eq_iff {x y:Spk}:x = y ↔ x.router = y.router ∧ x.epoch = y.epoch ∧ x.last = y.last ∧ x.items = y.items ∧ x.peers = y.peers:=by cases x; cases y; simp
theorem Lsn.eq_iff {x y:Lsn}:x = y ↔ x.router = y.router ∧ x.epoch = y.epoch ∧ x.heard = y.heard:=by cases x; cases y; simp
theorem Hrd.eq_iff {x y:Hrd}:x = y ↔ x.router = y.router ∧ x.epoch = y.epoch ∧ x.ver = y.ver ∧ x.items = y.items:=by cases x; cases y; simp
theorem Per.eq_iff {x y:Per}:x = y ↔ x.router = y.router ∧ x.epoch = y.epoch ∧ x.acked = y.acked:=by cases x; cases y; simp
end Go.Proofs.YtglfecmdoekabaaGreatDoor

namespace Go.Proofs.YtglfecmdoekabaaGreatDoor
open Go Go.Am
set_option linter.unusedVariables false
set_option linter.unusedSimpArgs false
def hasR (l:List Wnt) (g:Int):Bool:=decide (∃ w ∈ l,w.grp = g)
def appF (old c:List Wnt) (g:Int):Int × List Int:=if hasR c g = true then find2 c g else find2 old g
end Go.Proofs.YtglfecmdoekabaaGreatDoor

namespace Go.Proofs.YtglfecmdoekabaaGreatDoor
open Go Go.Am
set_option linter.unusedVariables false
set_option linter.unusedSimpArgs false
def cmpS (p:Spk) (r:Int):Int:=cmpI p.router r
def cmpS_a (s:Spk) (r:Int):Prop:=okL [.agg [.int s.router,.int s.epoch,.int s.last,.sl 4 (s.items.map Itm.v) false,.sl 3 (s.peers.map Per.v) false],.int r]
def cmpS_s:Nat → Type
  | _=>Unit
def cmpS_e (r:Int):AV:=.int r
def cmpS_vc (s:Spk) (r:Int) (r0:Int):Prop:=
 Cl (cmpI_c s.router r)
 (Rf (cmpS_e (cmpI s.router r)) ((cmpI s.router r) = r0))
theorem cmpS_eq (s:Spk) (r:Int) (r0:Int):mxP Tryz.prog 162 [.agg [.int s.router,.int s.epoch,.int s.last,.sl 4 (s.items.map Itm.v) false,.sl 3 (s.peers.map Per.v) false],.int r] .k cmpS_e ((.callP (cmpI_c s.router r)
 (.ret (cmpI s.router r))):An Tryz.prog cmpS_s (Int)) r0 = cmpS_vc s r r0:=by kernel_rfl
theorem cmpS_ok (s:Spk) (r:Int) (r0:Int) (h:cmpS_vc s r r0):PSpec Tryz.prog 162 [.agg [.int s.router,.int s.epoch,.int s.last,.sl 4 (s.items.map Itm.v) false,.sl 3 (s.peers.map Per.v) false],.int r] (cmpS_e r0):=by
  have e:=cmpS_eq s r r0
  rw [← e] at h
  exact mxP_ok (enc:=cmpS_e) h (AV.pureB_ok rfl)
theorem cmpS_p (p:Spk) (r:Int) (ok:cmpS_a p r):cmpS_vc p r (cmpS p r):=by
  simp only [cmpS_vc,vcU,rfU,List.length_map]
  rfl
def cmpS_c (s:Spk) (r:Int):PC Tryz.prog:=⟨162,[(.a [.k,.k,.k,(.s 4),(.s 3)]),.k],[.agg [.int s.router,.int s.epoch,.int s.last,.sl 4 (s.items.map Itm.v) false,.sl 3 (s.peers.map Per.v) false],.int r],cmpS_e (cmpS s r),PSpec.of_ok fun ok=>cmpS_ok s r _ (cmpS_p s r ok),fnB_ok (by kernel_rfl)⟩
def hitS (l:List Spk) (r:Int):Prop:=posS l r < l.length ∧ (l.getD (posS l r) spk0).router = r
instance (l:List Spk) (r:Int):Decidable (hitS l r):=by unfold hitS; infer_instance
def bsS_a (x:(List Spk)) (target:Int):Prop:=okL [.sl 5 (x.map Spk.v) false,.int target,.func 162 []]
def bsS_n0 (x:(List Spk)) (target:Int) (t0:Int × Int):NF:=⟨[(0,.k,.sl 5 (x.map Spk.v) false),(1,.k,.int target),(2,.k,.func 162 []),(8,.k,.int ((x.map Spk.v).length:Int)),(9,.k,.int t0.1),(10,.k,.int t0.2)],[]⟩
def bsS_s:Nat → Type
  | 0=>Int × Int
  | _=>Unit
def bsS_e (r:Int × Bool):AV:=.tup [.int r.1,.bool r.2]
def bsS_vc (x:(List Spk)) (target:Int) (I0:(Int × Int) → Prop) (m0:(Int × Int) → Nat) (r0:Int × Bool):Prop:=
 Nf (bsS_n0 x target (0,((x.map Spk.v).length:Int))) [] (I0 (0,((x.map Spk.v).length:Int))) ∧ ∀ t0:Int × Int,I0 t0 →
 br (decide (t0.1 < t0.2))
 (Rf (x.map Spk.v) (ck (decide (0 ≤ (W (Int.fdiv (IntKind.u64.wrap (W (t0.1 + t0.2))) 2)))) (ck (decide ((W (Int.fdiv (IntKind.u64.wrap (W (t0.1 + t0.2))) 2)) < (x.length:Int)))
 (∀ x1,x[(W (Int.fdiv (IntKind.u64.wrap (W (t0.1 + t0.2))) 2)).toNat]? = some x1 →
 Cl (cmpS_c x1 target)
 (br (decide ((cmpS x1 target) < 0))
 (Nf (bsS_n0 x target (W ((W (Int.fdiv (IntKind.u64.wrap (W (t0.1 + t0.2))) 2)) + 1),t0.2)) [] (I0 (W ((W (Int.fdiv (IntKind.u64.wrap (W (t0.1 + t0.2))) 2)) + 1),t0.2) ∧ m0 (W ((W (Int.fdiv (IntKind.u64.wrap (W (t0.1 + t0.2))) 2)) + 1),t0.2) < m0 t0))
 (Nf (bsS_n0 x target (t0.1,W (Int.fdiv (IntKind.u64.wrap (W (t0.1 + t0.2))) 2))) [] (I0 (t0.1,W (Int.fdiv (IntKind.u64.wrap (W (t0.1 + t0.2))) 2)) ∧ m0 (t0.1,W (Int.fdiv (IntKind.u64.wrap (W (t0.1 + t0.2))) 2)) < m0 t0)))))))
 (br (decide (t0.1 < ((x.map Spk.v).length:Int)))
 (Rf (x.map Spk.v) (ck (decide (0 ≤ t0.1)) (ck (decide (t0.1 < (x.length:Int)))
 (∀ x2,x[t0.1.toNat]? = some x2 →
 Cl (cmpS_c x2 target)
 (Rf (bsS_e (t0.1,(cmpS x2 target) == 0)) ((t0.1,(cmpS x2 target) == 0) = r0))))))
 (Rf (bsS_e (t0.1,false)) ((t0.1,false) = r0)))
theorem bsS_eq (x:(List Spk)) (target:Int) (I0:(Int × Int) → Prop) (m0:(Int × Int) → Nat) (r0:Int × Bool):mxP Tryz.prog 161 [.sl 5 (x.map Spk.v) false,.int target,.func 162 []] .k bsS_e ((.loop 0 (bsS_n0 x target) (I0) (m0) ((0,((x.map Spk.v).length:Int)):Int × Int) [] fun (t0:Int × Int) =>
 (.br 48 (.el 208 Spk.v x fun x1 =>
 (.callP (cmpS_c x1 target)
 (.br 288 (.back 0 ((W ((W (Int.fdiv (IntKind.u64.wrap (W (t0.1 + t0.2))) 2)) + 1),t0.2):Int × Int) [])
 (.back 0 ((t0.1,W (Int.fdiv (IntKind.u64.wrap (W (t0.1 + t0.2))) 2)):Int × Int) []))))
 (.br 128 (.el 176 Spk.v x fun x2 =>
 (.callP (cmpS_c x2 target)
 (.ret (t0.1,(cmpS x2 target) == 0))))
 (.ret (t0.1,false))))):An Tryz.prog bsS_s (Int × Bool)) r0 = bsS_vc x target I0 m0 r0:=by kernel_rfl
theorem bsS_ok (x:(List Spk)) (target:Int) (I0:(Int × Int) → Prop) (m0:(Int × Int) → Nat) (r0:Int × Bool) (h:bsS_vc x target I0 m0 r0):PSpec Tryz.prog 161 [.sl 5 (x.map Spk.v) false,.int target,.func 162 []] (bsS_e r0):=by
  have e:=bsS_eq x target I0 m0 r0
  rw [← e] at h
  exact mxP_ok (enc:=bsS_e) h (AV.pureB_ok rfl)
theorem bsS_p (l:List Spk) (r:Int) (h:l.Pairwise fun x y=>x.router < y.router) (hl:l.length ≤ 1000000) (ok:bsS_a l r):∃ I m,bsS_vc l r I m ((posS l r:Int),decide (hitS l r)):=by
  simp only [bsS_a,okU,Blk.ok,plainV,List.length_map] at ok
  refine ⟨fun t=>∃ i j:Nat,t = ((i:Int),(j:Int)) ∧ i ≤ j ∧ j ≤ l.length ∧ (∀ k x,k < i → l[k]? = some x → x.router < r) ∧ (∀ k x,j ≤ k → l[k]? = some x → r ≤ x.router),fun t=>(t.2 - t.1).toNat,?_⟩
  simp only [bsS_vc,vcU,rfU,List.length_map]
  refine ⟨⟨0,l.length,rfl,by omega,by omega,fun k x hk=>by omega,fun k x hk hx=>by have:=lt_of_get hx; omega⟩,?_⟩
  rintro _ ⟨i,j,rfl,hij,hj,h1,h2⟩
  refine ⟨fun h3=>?_,fun h3=>?_⟩
  · have h3:i < j:=by simpa using h3
    simp only [half i j hij (by omega),Int.toNat_natCast]
    refine ⟨by omega,by omega,fun x hx=>⟨fun e=>?_,fun e=>?_⟩⟩
    · rw [cmpS,cmp_lt] at e
      rw [W_succ (n:=l.length) (by omega) (by omega)]
      refine ⟨⟨_,_,rfl,by omega,hj,fun k y hk hy=>?_,h2⟩,by omega⟩
      by_cases e':k = (i + j) / 2
      · subst e'; rw [hx] at hy; cases hy; exact e
      · have:=pw_get h (show k < (i + j) / 2 by omega) hy hx; omega
    · rw [cmpS,cmp_lt] at e
      refine ⟨⟨_,_,rfl,by omega,by omega,h1,fun k y hk hy=>?_⟩,by omega⟩
      by_cases e':k = (i + j) / 2
      · subst e'; rw [hx] at hy; cases hy; omega
      · have:=pw_get h (show (i + j) / 2 < k by omega) hx hy; omega
  · have h3:i = j:=by simp at h3; omega
    subst h3
    have hp:posS l r = i:=idx_eq (key:=Spk.router) hj h1 h2
    simp only [Int.toNat_natCast]
    refine ⟨fun h4=>⟨by omega,by omega,fun x hx=>?_⟩,fun h4=>?_⟩
    · have e:hitS l r ↔ x.router = r:=by rw [hitS,hp,getD_some hx]; exact ⟨fun h=>h.2,fun h=>⟨lt_of_get hx,h⟩⟩
      rw [hp]
      refine congrArg _ ?_
      rw [cmpS,Bool.eq_iff_iff,decide_eq_true_iff,e,beq_iff_eq,cmp_eq]
    · rw [hp,decide_eq_false]
      rw [hitS,hp]; intro h; omega
def bsS_c (x:(List Spk)) (target:Int) (h:x.Pairwise fun x y=>x.router < y.router) (hl:x.length ≤ 1000000):PC Tryz.prog:=⟨161,[(.s 5),.k,.k],[.sl 5 (x.map Spk.v) false,.int target,.func 162 []],bsS_e ((posS x target:Int),decide (hitS x target)),PSpec.of_ok fun ok=>(bsS_p x target h hl ok).elim fun I0 h=>h.elim fun m0 h=>bsS_ok x target I0 m0 _ h,fnB_ok (by kernel_rfl)⟩
def findS_a (o:Ovl) (router:Int):Prop:=okL [.agg [.sl 5 (o.sp.map Spk.v) false,.sl 3 (o.ls.map Lsn.v) false,.sl 10 (o.fl.map Sig.v) false],.int router]
def findS_s:Nat → Type
  | _=>Unit
def findS_e (r:Int × Bool):AV:=.tup [.int r.1,.bool r.2]
def findS_vc (o:Ovl) (router:Int) (r0:Int × Bool):Prop:=
 ∃ h1:o.sp.Pairwise fun x y=>x.router < y.router,
 ∃ h2:o.sp.length ≤ 1000000,
 Cl (bsS_c o.sp router h1 h2)
 (Rf (findS_e ((posS o.sp router:Int),decide (hitS o.sp router))) (((posS o.sp router:Int),decide (hitS o.sp router)) = r0))
theorem findS_eq (o:Ovl) (router:Int) (r0:Int × Bool):mxP Tryz.prog 109 [.agg [.sl 5 (o.sp.map Spk.v) false,.sl 3 (o.ls.map Lsn.v) false,.sl 10 (o.fl.map Sig.v) false],.int router] .k findS_e ((.req 96 (o.sp.Pairwise fun x y=>x.router < y.router) fun h1 =>
 (.req 96 (o.sp.length ≤ 1000000) fun h2 =>
 (.callP (bsS_c o.sp router h1 h2)
 (.ret ((posS o.sp router:Int),decide (hitS o.sp router)))))):An Tryz.prog findS_s (Int × Bool)) r0 = findS_vc o router r0:=by kernel_rfl
theorem findS_ok (o:Ovl) (router:Int) (r0:Int × Bool) (h:findS_vc o router r0):PSpec Tryz.prog 109 [.agg [.sl 5 (o.sp.map Spk.v) false,.sl 3 (o.ls.map Lsn.v) false,.sl 10 (o.fl.map Sig.v) false],.int router] (findS_e r0):=by
  have e:=findS_eq o router r0
  rw [← e] at h
  exact mxP_ok (enc:=findS_e) h (AV.pureB_ok rfl)
theorem findS_p (o:Ovl) (r:Int) (h:o.sp.Pairwise fun x y=>x.router < y.router) (hl:o.sp.length ≤ 1000000) (ok:findS_a o r):findS_vc o r ((posS o.sp r:Int),decide (hitS o.sp r)):=by
  simp only [findS_vc,vcU,rfU,List.length_map]
  exact ⟨h,hl,trivial⟩
def findS_c (o:Ovl) (router:Int) (h:o.sp.Pairwise fun x y=>x.router < y.router) (hl:o.sp.length ≤ 1000000):PC Tryz.prog:=⟨109,[(.a [(.s 5),(.s 3),(.s 10)]),.k],[.agg [.sl 5 (o.sp.map Spk.v) false,.sl 3 (o.ls.map Lsn.v) false,.sl 10 (o.fl.map Sig.v) false],.int router],findS_e ((posS o.sp router:Int),decide (hitS o.sp router)),PSpec.of_ok fun ok=>findS_ok o router _ (findS_p o router h hl ok),fnB_ok (by kernel_rfl)⟩
def rtrsF_a (o:Ovl):Prop:=okL [.agg [.sl 5 (o.sp.map Spk.v) false,.sl 3 (o.ls.map Lsn.v) false,.sl 10 (o.fl.map Sig.v) false]]
def rtrsF_n0 (o:Ovl) (t0:Int × (List Int)):NF:=⟨[(3,.k,.vec 0),(7,.k,.sl 5 (o.sp.map Spk.v) false),(8,.k,.int ((o.sp.map Spk.v).length:Int)),(9,.k,.int t0.1)],[.vec 1 (t0.2.map AV.int) (pureBL_map (fun _=>rfl) t0.2)]⟩
def rtrsF_s:Nat → Type
  | 0=>Int × (List Int)
  | _=>Unit
def rtrsF_e (r:(List Int)):AV:=.sl 1 (r.map AV.int) false
def rtrsF_vc (o:Ovl) (I0:(Int × (List Int)) → Prop) (m0:(Int × (List Int)) → Nat) (r0:(List Int)):Prop:=
 Nf (rtrsF_n0 o (0,[])) [112] (I0 (0,[])) ∧ ∀ t0:Int × (List Int),I0 t0 →
 br (decide (t0.1 < ((o.sp.map Spk.v).length:Int)))
 (Rf (o.sp.map Spk.v) (ck (decide (0 ≤ t0.1)) (ck (decide (t0.1 < (o.sp.length:Int)))
 (∀ x1,o.sp[t0.1.toNat]? = some x1 →
 Rf (α:=List AV) (t0.2.map AV.int) (Rf (α:=List AV) [.int x1.router]
 (ck (decide (t0.2.length + 1 ≤ 1000000))
 (Nf (rtrsF_n0 o (W (t0.1 + 1),t0.2 ++ [x1.router])) [145] (I0 (W (t0.1 + 1),t0.2 ++ [x1.router]) ∧ m0 (W (t0.1 + 1),t0.2 ++ [x1.router]) < m0 t0))))))))
 (Rf (t0.2.map AV.int) (Rf (rtrsF_e (t0.2)) ((t0.2) = r0)))
theorem rtrsF_eq (o:Ovl) (I0:(Int × (List Int)) → Prop) (m0:(Int × (List Int)) → Nat) (r0:(List Int)):mxP Tryz.prog 153 [.agg [.sl 5 (o.sp.map Spk.v) false,.sl 3 (o.ls.map Lsn.v) false,.sl 10 (o.fl.map Sig.v) false]] (.s 1) rtrsF_e ((.cmdL (.nilT 3 1) (.loop 0 (rtrsF_n0 o) (I0) (m0) ((0,[]):Int × (List Int)) [112] fun (t0:Int × (List Int)) =>
 (.br 17 (.el 17 Spk.v o.sp fun x1 =>
 (.app 145 AV.int t0.2 [x1.router]
 (.back 0 ((W (t0.1 + 1),t0.2 ++ [x1.router]):Int × (List Int)) [145])))
 (.cmdL (.frzE 0 (t0.2.map AV.int) (pureBL_map (fun _=>rfl) t0.2)) (.ret (t0.2)))))):An Tryz.prog rtrsF_s ((List Int))) r0 = rtrsF_vc o I0 m0 r0:=by kernel_rfl
theorem rtrsF_ok (o:Ovl) (I0:(Int × (List Int)) → Prop) (m0:(Int × (List Int)) → Nat) (r0:(List Int)) (h:rtrsF_vc o I0 m0 r0):PSpec Tryz.prog 153 [.agg [.sl 5 (o.sp.map Spk.v) false,.sl 3 (o.ls.map Lsn.v) false,.sl 10 (o.fl.map Sig.v) false]] (rtrsF_e r0):=by
  have e:=rtrsF_eq o I0 m0 r0
  rw [← e] at h
  exact mxP_ok (enc:=rtrsF_e) h (AV.pureB_ok rfl)
theorem rtrsF_p (o:Ovl) (h:o.sp.length ≤ 1000000) (ok:rtrsF_a o):∃ I m,rtrsF_vc o I m (rtrs o.sp):=by
  refine ⟨fun t=>∃ k:Nat,t.1 = k ∧ k ≤ o.sp.length ∧ t.2 = rtrs (o.sp.take k),fun t=>o.sp.length - t.1.toNat,?_⟩
  simp only [rtrsF_vc,vcU,rfU,List.length_map]
  refine ⟨⟨0,rfl,by omega,rfl⟩,?_⟩
  rintro ⟨_,_⟩ ⟨k,rfl,hk,rfl⟩
  simp only [Int.toNat_natCast]
  refine ⟨fun h1=>⟨by omega,by omega,fun x hx=>⟨by rw [rtrs_len]; simp; omega,⟨k + 1,?_,by omega,?_⟩,?_⟩⟩,fun h1=>?_⟩
  · rw [W_succ (n:=o.sp.length) (by omega) (by omega)]
  · rw [take_succ hx]; simp [rtrs]
  · rw [W_succ (n:=o.sp.length) (by omega) (by omega)]; omega
  · rw [List.take_of_length_le (by omega)]
def rtrsF_c (o:Ovl) (h:o.sp.length ≤ 1000000):PC Tryz.prog:=⟨153,[(.a [(.s 5),(.s 3),(.s 10)])],[.agg [.sl 5 (o.sp.map Spk.v) false,.sl 3 (o.ls.map Lsn.v) false,.sl 10 (o.fl.map Sig.v) false]],rtrsF_e (rtrs o.sp),PSpec.of_ok fun ok=>(rtrsF_p o h ok).elim fun I0 h=>h.elim fun m0 h=>rtrsF_ok o I0 m0 _ h,fnB_ok (by kernel_rfl)⟩
def othersF_a (l:(List Int)) (n:Int):Prop:=okL [.sl 1 (l.map AV.int) false,.int n]
def othersF_n0 (l:(List Int)) (n:Int) (t0:Int × (List Int)):NF:=⟨[(1,.k,.int n),(5,.k,.vec 0),(8,.k,.sl 1 (l.map AV.int) false),(9,.k,.int ((l.map AV.int).length:Int)),(10,.k,.int t0.1)],[.vec 1 (t0.2.map AV.int) (pureBL_map (fun _=>rfl) t0.2)]⟩
def othersF_s:Nat → Type
  | 0=>Int × (List Int)
  | _=>Unit
def othersF_e (r:(List Int)):AV:=.sl 1 (r.map AV.int) false
def othersF_vc (l:(List Int)) (n:Int) (I0:(Int × (List Int)) → Prop) (m0:(Int × (List Int)) → Nat) (r0:(List Int)):Prop:=
 Nf (othersF_n0 l n (0,[])) [80] (I0 (0,[])) ∧ ∀ t0:Int × (List Int),I0 t0 →
 br (decide (t0.1 < ((l.map AV.int).length:Int)))
 (Rf (l.map AV.int) (ck (decide (0 ≤ t0.1)) (ck (decide (t0.1 < (l.length:Int)))
 (∀ x1,l[t0.1.toNat]? = some x1 →
 br (x1 != n)
 (Rf (α:=List AV) (t0.2.map AV.int) (Rf (α:=List AV) [.int x1]
 (ck (decide (t0.2.length + 1 ≤ 1000000))
 (Nf (othersF_n0 l n (W (t0.1 + 1),t0.2 ++ [x1])) [161] (I0 (W (t0.1 + 1),t0.2 ++ [x1]) ∧ m0 (W (t0.1 + 1),t0.2 ++ [x1]) < m0 t0)))))
 (Nf (othersF_n0 l n (W (t0.1 + 1),t0.2)) [0] (I0 (W (t0.1 + 1),t0.2) ∧ m0 (W (t0.1 + 1),t0.2) < m0 t0))))))
 (Rf (t0.2.map AV.int) (Rf (othersF_e (t0.2)) ((t0.2) = r0)))
theorem othersF_eq (l:(List Int)) (n:Int) (I0:(Int × (List Int)) → Prop) (m0:(Int × (List Int)) → Nat) (r0:(List Int)):mxP Tryz.prog 116 [.sl 1 (l.map AV.int) false,.int n] (.s 1) othersF_e ((.cmdL (.nilT 5 1) (.loop 0 (othersF_n0 l n) (I0) (m0) ((0,[]):Int × (List Int)) [80] fun (t0:Int × (List Int)) =>
 (.br 17 (.el 17 AV.int l fun x1 =>
 (.br 113 (.app 161 AV.int t0.2 [x1]
 (.back 0 ((W (t0.1 + 1),t0.2 ++ [x1]):Int × (List Int)) [161]))
 (.back 0 ((W (t0.1 + 1),t0.2):Int × (List Int)) [0])))
 (.cmdL (.frzE 0 (t0.2.map AV.int) (pureBL_map (fun _=>rfl) t0.2)) (.ret (t0.2)))))):An Tryz.prog othersF_s ((List Int))) r0 = othersF_vc l n I0 m0 r0:=by kernel_rfl
theorem othersF_ok (l:(List Int)) (n:Int) (I0:(Int × (List Int)) → Prop) (m0:(Int × (List Int)) → Nat) (r0:(List Int)) (h:othersF_vc l n I0 m0 r0):PSpec Tryz.prog 116 [.sl 1 (l.map AV.int) false,.int n] (othersF_e r0):=by
  have e:=othersF_eq l n I0 m0 r0
  rw [← e] at h
  exact mxP_ok (enc:=othersF_e) h (AV.pureB_ok rfl)
theorem othersF_p (l:List Int) (n:Int) (h:l.length ≤ 1000000) (ok:othersF_a l n):∃ I m,othersF_vc l n I m (others l n):=by
  refine ⟨fun t=>∃ k:Nat,t.1 = k ∧ k ≤ l.length ∧ t.2 = others (l.take k) n ∧ t.2.length ≤ k,fun t=>l.length - t.1.toNat,?_⟩
  simp only [othersF_vc,vcU,rfU,List.length_map]
  refine ⟨⟨0,rfl,by omega,rfl,by simp⟩,?_⟩
  rintro ⟨_,_⟩ ⟨k,rfl,hk,rfl,hk2⟩
  simp only [Int.toNat_natCast] at *
  refine ⟨fun h1=>⟨by omega,by omega,fun x hx=>?_⟩,fun h1=>?_⟩
  · rw [W_succ (n:=l.length) (by omega) (by omega)]
    refine ⟨fun q=>⟨by omega,⟨k + 1,rfl,by omega,?_,by simp; omega⟩,by omega⟩,fun q=>⟨⟨k + 1,rfl,by omega,?_,by omega⟩,by omega⟩⟩
    · have q:x ≠ n:=by simpa using q
      rw [take_succ hx,others,others,List.filter_append]; simp [q]
    · have q:x = n:=by simpa using q
      rw [take_succ hx,others,others,List.filter_append]; simp [q]
  · rw [List.take_of_length_le (by omega)]
def othersF_c (l:(List Int)) (n:Int) (h:l.length ≤ 1000000):PC Tryz.prog:=⟨116,[(.s 1),.k],[.sl 1 (l.map AV.int) false,.int n],othersF_e (others l n),PSpec.of_ok fun ok=>(othersF_p l n h ok).elim fun I0 h=>h.elim fun m0 h=>othersF_ok l n I0 m0 _ h,fnB_ok (by kernel_rfl)⟩
def peerIs (p:Per) (r:Int):Bool:=decide (p.router = r)
def peerIs_a (p:Per) (r:Int):Prop:=okL [.agg [.int p.router,.int p.epoch,.int p.acked],.int r]
def peerIs_s:Nat → Type
  | _=>Unit
def peerIs_e (r:Bool):AV:=.bool r
def peerIs_vc (p:Per) (r:Int) (r0:Bool):Prop:=
 Rf (peerIs_e (p.router == r)) ((p.router == r) = r0)
theorem peerIs_eq (p:Per) (r:Int) (r0:Bool):mxP Tryz.prog 155 [.agg [.int p.router,.int p.epoch,.int p.acked],.int r] .k peerIs_e ((.ret (p.router == r)):An Tryz.prog peerIs_s (Bool)) r0 = peerIs_vc p r r0:=by kernel_rfl
theorem peerIs_ok (p:Per) (r:Int) (r0:Bool) (h:peerIs_vc p r r0):PSpec Tryz.prog 155 [.agg [.int p.router,.int p.epoch,.int p.acked],.int r] (peerIs_e r0):=by
  have e:=peerIs_eq p r r0
  rw [← e] at h
  exact mxP_ok (enc:=peerIs_e) h (AV.pureB_ok rfl)
theorem peerIs_p (p:Per) (r:Int) (ok:peerIs_a p r):peerIs_vc p r (peerIs p r):=by
  simp only [peerIs_vc,vcU,rfU,List.length_map]
  rfl
def peerIs_c (p:Per) (r:Int):PC Tryz.prog:=⟨155,[.k,.k],[.agg [.int p.router,.int p.epoch,.int p.acked],.int r],peerIs_e (decide (p.router = r)),PSpec.of_ok fun ok=>peerIs_ok p r _ (peerIs_p p r ok),fnB_ok (by kernel_rfl)⟩
def eqPI_a (s1:(List Per)) (s2:(List Int)):Prop:=okL [.sl 3 (s1.map Per.v) false,.sl 1 (s2.map AV.int) false,.func 155 []]
def eqPI_n0 (s1:(List Per)) (s2:(List Int)) (t0:Int):NF:=⟨[(1,.k,.sl 1 (s2.map AV.int) false),(2,.k,.func 155 []),(15,.k,.sl 3 (s1.map Per.v) false),(16,.k,.int ((s1.map Per.v).length:Int)),(17,.k,.int t0)],[]⟩
def eqPI_s:Nat → Type
  | 0=>Int
  | _=>Unit
def eqPI_e (r:Bool):AV:=.bool r
def eqPI_vc (s1:(List Per)) (s2:(List Int)) (I0:Int → Prop) (m0:Int → Nat) (r0:Bool):Prop:=
 br (((s1.map Per.v).length:Int) != ((s2.map AV.int).length:Int))
 (Rf (eqPI_e (false)) ((false) = r0))
 (Nf (eqPI_n0 s1 s2 (0)) [] (I0 (0)) ∧ ∀ t0:Int,I0 t0 →
 br (decide (t0 < ((s1.map Per.v).length:Int)))
 (Rf (s1.map Per.v) (ck (decide (0 ≤ t0)) (ck (decide (t0 < (s1.length:Int)))
 (∀ x1,s1[t0.toNat]? = some x1 →
 Rf (s2.map AV.int) (ck (decide (0 ≤ t0)) (ck (decide (t0 < (s2.length:Int)))
 (∀ x2,s2[t0.toNat]? = some x2 →
 Cl (peerIs_c x1 x2)
 (br (!(decide (x1.router = x2)))
 (Rf (eqPI_e (false)) ((false) = r0))
 (Nf (eqPI_n0 s1 s2 (W (t0 + 1))) [] (I0 (W (t0 + 1)) ∧ m0 (W (t0 + 1)) < m0 t0))))))))))
 (Rf (eqPI_e (true)) ((true) = r0)))
theorem eqPI_eq (s1:(List Per)) (s2:(List Int)) (I0:Int → Prop) (m0:Int → Nat) (r0:Bool):mxP Tryz.prog 154 [.sl 3 (s1.map Per.v) false,.sl 1 (s2.map AV.int) false,.func 155 []] .k eqPI_e ((.br 96 (.ret (false))
 (.loop 0 (eqPI_n0 s1 s2) (I0) (m0) ((0):Int) [] fun (t0:Int) =>
 (.br 16 (.el 32 Per.v s1 fun x1 =>
 (.el 144 AV.int s2 fun x2 =>
 (.callP (peerIs_c x1 x2)
 (.br 272 (.ret (false))
 (.back 0 ((W (t0 + 1)):Int) [])))))
 (.ret (true))))):An Tryz.prog eqPI_s (Bool)) r0 = eqPI_vc s1 s2 I0 m0 r0:=by kernel_rfl
theorem eqPI_ok (s1:(List Per)) (s2:(List Int)) (I0:Int → Prop) (m0:Int → Nat) (r0:Bool) (h:eqPI_vc s1 s2 I0 m0 r0):PSpec Tryz.prog 154 [.sl 3 (s1.map Per.v) false,.sl 1 (s2.map AV.int) false,.func 155 []] (eqPI_e r0):=by
  have e:=eqPI_eq s1 s2 I0 m0 r0
  rw [← e] at h
  exact mxP_ok (enc:=eqPI_e) h (AV.pureB_ok rfl)
theorem eqPI_p (a:List Per) (b:List Int) (ok:eqPI_a a b):∃ I m,eqPI_vc a b I m (decide (a.map Per.router = b)):=by
  simp only [eqPI_a,okU,Blk.ok,plainV,List.length_map] at ok
  refine ⟨fun t=>∃ k:Nat,t = k ∧ k ≤ a.length ∧ (a.take k).map Per.router = b.take k,fun t=>a.length - t.toNat,?_⟩
  simp only [eqPI_vc,vcU,rfU,List.length_map]
  refine ⟨fun e=>(decide_eq_false fun h=>by subst h; simp at e).symm,fun e=>⟨⟨0,rfl,by omega,rfl⟩,?_⟩⟩
  have e:a.length = b.length:=by simp at e; omega
  rintro _ ⟨k,rfl,hk,h⟩
  simp only [Int.toNat_natCast]
  refine ⟨fun h1=>⟨by omega,by omega,fun x hx=>⟨by omega,by omega,fun y hy=>⟨fun e2=>?_,fun e2=>?_⟩⟩⟩,fun h1=>?_⟩
  · refine (decide_eq_false fun hh=>?_).symm
    subst hh
    rw [List.getElem?_map,hx] at hy
    simp only [Option.map_some,Option.some.injEq] at hy
    subst hy
    simp at e2
  · have e2:x.router = y:=by simpa using e2
    rw [W_succ (n:=a.length) (by omega) (by omega)]
    exact ⟨⟨k + 1,rfl,by omega,by rw [take_succ hx,take_succ hy,List.map_append,h]; simp [e2]⟩,by omega⟩
  · rw [List.take_of_length_le (by omega),List.take_of_length_le (by omega)] at h
    exact (decide_eq_true h).symm
def eqPI_c (s1:(List Per)) (s2:(List Int)):PC Tryz.prog:=⟨154,[(.s 3),(.s 1),.k],[.sl 3 (s1.map Per.v) false,.sl 1 (s2.map AV.int) false,.func 155 []],eqPI_e (decide (s1.map Per.router = s2)),PSpec.of_ok fun ok=>(eqPI_p s1 s2 ok).elim fun I0 h=>h.elim fun m0 h=>eqPI_ok s1 s2 I0 m0 _ h,fnB_ok (by kernel_rfl)⟩
def indexI (l:List Int) (v:Int):Int:=match l.findIdx? fun x=>decide (v = x) with
  | some i=>i
  | none=>-1
theorem indexI_some {l:List Int} {r:Int} {i:Nat} (hx:l[i]? = some r) (hb:∀ y ∈ l.take i,r ≠ y):indexI l r = i:=by
  obtain ⟨hi,hxi⟩:=List.getElem?_eq_some_iff.mp hx
  have:l.findIdx? (fun p=>decide (r = p)) = some i:=by
    rw [List.findIdx?_eq_some_iff_getElem]
    refine ⟨hi,by rw [hxi]; simp,fun j hj=>?_⟩
    have:=hb l[j] (List.mem_of_getElem? (i:=j) (by rw [List.getElem?_take,if_pos hj,List.getElem?_eq_getElem (by omega)]))
    simpa using this
  unfold indexI; rw [this]
theorem indexI_none {l:List Int} {r:Int} (hb:∀ y ∈ l,r ≠ y):indexI l r = -1:=by
  have:l.findIdx? (fun p=>decide (r = p)) = none:=by
    rw [List.findIdx?_eq_none_iff]
    intro x hx; simpa using hb x hx
  unfold indexI; rw [this]
def indexI_a (s:(List Int)) (v:Int):Prop:=okL [.sl 1 (s.map AV.int) false,.int v]
def indexI_n0 (s:(List Int)) (v:Int) (t0:Int):NF:=⟨[(0,.k,.sl 1 (s.map AV.int) false),(1,.k,.int v),(7,.k,.int ((s.map AV.int).length:Int)),(8,.k,.int t0)],[]⟩
def indexI_s:Nat → Type
  | 0=>Int
  | _=>Unit
def indexI_e (r:Int):AV:=.int r
def indexI_vc (s:(List Int)) (v:Int) (I0:Int → Prop) (m0:Int → Nat) (r0:Int):Prop:=
 Nf (indexI_n0 s v (0)) [] (I0 (0)) ∧ ∀ t0:Int,I0 t0 →
 br (decide (t0 < ((s.map AV.int).length:Int)))
 (Rf (s.map AV.int) (ck (decide (0 ≤ t0)) (ck (decide (t0 < (s.length:Int)))
 (∀ x1,s[t0.toNat]? = some x1 →
 br (v == x1)
 (Rf (indexI_e (t0)) ((t0) = r0))
 (Nf (indexI_n0 s v (W (t0 + 1))) [] (I0 (W (t0 + 1)) ∧ m0 (W (t0 + 1)) < m0 t0))))))
 (Rf (indexI_e (-1)) ((-1) = r0))
theorem indexI_eq (s:(List Int)) (v:Int) (I0:Int → Prop) (m0:Int → Nat) (r0:Int):mxP Tryz.prog 186 [.sl 1 (s.map AV.int) false,.int v] .k indexI_e ((.loop 0 (indexI_n0 s v) (I0) (m0) ((0):Int) [] fun (t0:Int) =>
 (.br 16 (.el 96 AV.int s fun x1 =>
 (.br 144 (.ret (t0))
 (.back 0 ((W (t0 + 1)):Int) [])))
 (.ret (-1)))):An Tryz.prog indexI_s (Int)) r0 = indexI_vc s v I0 m0 r0:=by kernel_rfl
theorem indexI_ok (s:(List Int)) (v:Int) (I0:Int → Prop) (m0:Int → Nat) (r0:Int) (h:indexI_vc s v I0 m0 r0):PSpec Tryz.prog 186 [.sl 1 (s.map AV.int) false,.int v] (indexI_e r0):=by
  have e:=indexI_eq s v I0 m0 r0
  rw [← e] at h
  exact mxP_ok (enc:=indexI_e) h (AV.pureB_ok rfl)
theorem indexI_p (l:List Int) (v:Int) (ok:indexI_a l v):∃ I m,indexI_vc l v I m (indexI l v):=by
  simp only [indexI_a,okU,Blk.ok,plainV,List.length_map] at ok
  refine ⟨fun t=>∃ k:Nat,t = k ∧ k ≤ l.length ∧ ∀ x ∈ l.take k,v ≠ x,fun t=>l.length - t.toNat,?_⟩
  simp only [indexI_vc,vcU,rfU,List.length_map]
  have hle:l.length ≤ 9223372036854775807:=ok.1.1
  refine ⟨⟨0,rfl,by omega,by simp⟩,?_⟩
  rintro _ ⟨k,rfl,hk,hI⟩
  simp only [Int.toNat_natCast]
  refine ⟨fun h1=>⟨by omega,by omega,fun x hx=>⟨fun e=>?_,fun e=>?_⟩⟩,fun h1=>?_⟩
  · have e:v = x:=by simpa using e
    subst e
    rw [indexI_some hx hI]
  · rw [W_succ (n:=l.length) (by omega) (by omega)]
    exact ⟨⟨k + 1,rfl,by omega,(mem_take_succ hx).mpr ⟨hI,by simpa using e⟩⟩,by omega⟩
  · rw [List.take_of_length_le (by omega)] at hI
    rw [indexI_none hI]
def indexI_c (s:(List Int)) (v:Int):PC Tryz.prog:=⟨186,[(.s 1),.k],[.sl 1 (s.map AV.int) false,.int v],indexI_e (indexI s v),PSpec.of_ok fun ok=>(indexI_p s v ok).elim fun I0 h=>h.elim fun m0 h=>indexI_ok s v I0 m0 _ h,fnB_ok (by kernel_rfl)⟩
theorem indexI_nn {l:List Int} {v:Int}:0 ≤ indexI l v ↔ v ∈ l:=by
  unfold indexI
  cases e:l.findIdx? (fun p=>decide (v = p)) with
  | none =>
    rw [List.findIdx?_eq_none_iff] at e
    simp only
    refine ⟨fun h=>by omega,fun h=>by have:=e v h; simp at this⟩
  | some i =>
    rw [List.findIdx?_eq_some_iff_getElem] at e
    obtain ⟨h1,h2,_⟩:=e
    simp only
    refine ⟨fun _=>?_,fun _=>by omega⟩
    have:v = l[i]:=by simpa using h2
    rw [this]; exact List.getElem_mem h1
def contI_a (s:(List Int)) (v:Int):Prop:=okL [.sl 1 (s.map AV.int) false,.int v]
def contI_s:Nat → Type
  | _=>Unit
def contI_e (r:Bool):AV:=.bool r
def contI_vc (s:(List Int)) (v:Int) (r0:Bool):Prop:=
 Cl (indexI_c s v)
 (Rf (contI_e (decide (0 ≤ (indexI s v)))) ((decide (0 ≤ (indexI s v))) = r0))
theorem contI_eq (s:(List Int)) (v:Int) (r0:Bool):mxP Tryz.prog 156 [.sl 1 (s.map AV.int) false,.int v] .k contI_e ((.callP (indexI_c s v)
 (.ret (decide (0 ≤ (indexI s v))))):An Tryz.prog contI_s (Bool)) r0 = contI_vc s v r0:=by kernel_rfl
theorem contI_ok (s:(List Int)) (v:Int) (r0:Bool) (h:contI_vc s v r0):PSpec Tryz.prog 156 [.sl 1 (s.map AV.int) false,.int v] (contI_e r0):=by
  have e:=contI_eq s v r0
  rw [← e] at h
  exact mxP_ok (enc:=contI_e) h (AV.pureB_ok rfl)
theorem contI_p (l:List Int) (v:Int) (ok:contI_a l v):contI_vc l v (decide (v ∈ l)):=by
  simp only [contI_vc,vcU,rfU,List.length_map]
  exact decide_eq_decide.mpr indexI_nn
def contI_c (s:(List Int)) (v:Int):PC Tryz.prog:=⟨156,[(.s 1),.k],[.sl 1 (s.map AV.int) false,.int v],contI_e (decide (v ∈ s)),PSpec.of_ok fun ok=>contI_ok s v _ (contI_p s v ok),fnB_ok (by kernel_rfl)⟩
end Go.Proofs.YtglfecmdoekabaaGreatDoor

namespace Go.Proofs.YtglfecmdoekabaaGreatDoor
open Go Go.Am
set_option linter.unusedVariables false
set_option linter.unusedSimpArgs false
theorem valS_z {s:Spk}:valS s = 0 ↔ spkOk s:=by
  have hv:valS s = if spkOk s then 0 else 1:=rfl
  rw [hv]; by_cases h:spkOk s <;> simp [h]
theorem valL_z {s:Lsn}:valL s = 0 ↔ lsnOk s:=by
  have hv:valL s = if lsnOk s then 0 else 1:=rfl
  rw [hv]; by_cases h:lsnOk s <;> simp [h]
theorem ovl_lens {o:Ovl} (ok:okL [o.v]):o.sp.length ≤ 9223372036854775807 ∧ o.ls.length ≤ 9223372036854775807 ∧ o.fl.length ≤ 9223372036854775807:=by
  have h:=ok
  simp only [Ovl.v,spks,lsns,sigs,AV.ok,okL,List.length_map,maxLen_eq] at h
  omega
theorem take_all {α:Type} {P:α → Prop} {l:List α} {k:Nat} {x:α} (hx:l[k]? = some x) (h:∀ y ∈ l.take k,P y) (hp:P x):∀ y ∈ l.take (k + 1),P y:=(mem_take_succ hx).mpr ⟨h,hp⟩
def validO_a (o:Ovl):Prop:=okL [.agg [.sl 5 (o.sp.map Spk.v) false,.sl 3 (o.ls.map Lsn.v) false,.sl 10 (o.fl.map Sig.v) false]]
def validO_n0 (o:Ovl) (t0:Bool):NF:=⟨[(1,.k,.ref 0 0),(23,.k,.bool t0)],[.box (.agg [.sl 5 (o.sp.map Spk.v) false,.sl 3 (o.ls.map Lsn.v) false,.sl 10 (o.fl.map Sig.v) false])]⟩
def validO_n1 (o:Ovl) (t0:Bool) (t1:Int):NF:=⟨[(1,.k,.ref 0 0),(3,.k,.sl 1 ((rtrs o.sp).map AV.int) false),(27,.k,.sl 5 (o.sp.map Spk.v) false),(28,.k,.int ((o.sp.map Spk.v).length:Int)),(29,.k,.int t1)],[.box (.agg [.sl 5 (o.sp.map Spk.v) false,.sl 3 (o.ls.map Lsn.v) false,.sl 10 (o.fl.map Sig.v) false])]⟩
def validO_n2 (o:Ovl) (t0:Bool) (t1:Int) (x2:Spk) (t2:Bool):NF:=⟨[(1,.k,.ref 0 0),(3,.k,.sl 1 ((rtrs o.sp).map AV.int) false),(4,.k,.int t1),(5,.k,.ref 1 0),(27,.k,.sl 5 (o.sp.map Spk.v) false),(28,.k,.int ((o.sp.map Spk.v).length:Int)),(29,.k,.int t1),(50,.k,.bool t2)],[.box (.agg [.sl 5 (o.sp.map Spk.v) false,.sl 3 (o.ls.map Lsn.v) false,.sl 10 (o.fl.map Sig.v) false]),.box (.agg [.int x2.router,.int x2.epoch,.int x2.last,.sl 4 (x2.items.map Itm.v) false,.sl 3 (x2.peers.map Per.v) false])]⟩
def validO_n3 (o:Ovl) (t0:Bool) (t1:Int) (x2:Spk) (t2:Bool) (x5:Lsn) (t3:Bool):NF:=⟨[(1,.k,.ref 0 0),(3,.k,.sl 1 ((rtrs o.sp).map AV.int) false),(6,.k,.ref 1 0),(27,.k,.sl 5 (o.sp.map Spk.v) false),(28,.k,.int ((o.sp.map Spk.v).length:Int)),(29,.k,.int t1),(73,.k,.bool t3)],[.box (.agg [.sl 5 (o.sp.map Spk.v) false,.sl 3 (o.ls.map Lsn.v) false,.sl 10 (o.fl.map Sig.v) false]),.box (.agg [.int x5.router,.int x5.epoch,.sl 4 (x5.heard.map Hrd.v) false])]⟩
def validO_n4 (o:Ovl) (t0:Bool) (t1:Int) (x2:Spk) (t2:Bool) (x5:Lsn) (t3:Bool) (t4:Int):NF:=⟨[(1,.k,.ref 0 0),(3,.k,.sl 1 ((rtrs o.sp).map AV.int) false),(27,.k,.sl 5 (o.sp.map Spk.v) false),(28,.k,.int ((o.sp.map Spk.v).length:Int)),(29,.k,.int t1),(75,.k,.sl 4 (x5.heard.map Hrd.v) false),(76,.k,.int ((x5.heard.map Hrd.v).length:Int)),(77,.k,.int t4)],[.box (.agg [.sl 5 (o.sp.map Spk.v) false,.sl 3 (o.ls.map Lsn.v) false,.sl 10 (o.fl.map Sig.v) false])]⟩
def validO_n5 (o:Ovl) (t0:Bool) (t1:Int) (t5:Int):NF:=⟨[(3,.k,.sl 1 ((rtrs o.sp).map AV.int) false),(89,.k,.sl 10 (o.fl.map Sig.v) false),(90,.k,.int ((o.fl.map Sig.v).length:Int)),(91,.k,.int t5)],[]⟩
def validO_n6 (o:Ovl) (t0:Bool) (t1:Int) (t5:Int) (x7:Sig) (t6:Bool):NF:=⟨[(3,.k,.sl 1 ((rtrs o.sp).map AV.int) false),(89,.k,.sl 10 (o.fl.map Sig.v) false),(90,.k,.int ((o.fl.map Sig.v).length:Int)),(91,.k,.int t5),(111,.k,.bool t6)],[]⟩
def validO_s:Nat → Type
  | 0=>Bool
  | 1=>Int
  | 2=>Bool
  | 3=>Bool
  | 4=>Int
  | 5=>Int
  | 6=>Bool
  | _=>Unit
def validO_e (r:Bool):AV:=.bool r
def validO_vc (o:Ovl) (I0:Bool → Prop) (I1:Bool → Int → Prop) (m1:Bool → Int → Nat) (I2:Bool → Int → Spk → Bool → Prop) (I3:Bool → Int → Spk → Bool → Lsn → Bool → Prop) (I4:Bool → Int → Spk → Bool → Lsn → Bool → Int → Prop) (m4:Bool → Int → Spk → Bool → Lsn → Bool → Int → Nat) (I5:Bool → Int → Int → Prop) (m5:Bool → Int → Int → Nat) (I6:Bool → Int → Int → Sig → Bool → Prop) (r0:Bool):Prop:=
 (br (decide (12 < ((o.sp.map Spk.v).length:Int)))
 (Nf (validO_n0 o (true)) [0] (I0 ((true):Bool)))
 (Nf (validO_n0 o (((o.ls.map Lsn.v).length:Int) != ((o.sp.map Spk.v).length:Int))) [0] (I0 ((((o.ls.map Lsn.v).length:Int) != ((o.sp.map Spk.v).length:Int)):Bool)))) ∧ ∀ t0:Bool,I0 t0 →
 br t0
 (Rf (validO_e (false)) ((false) = r0))
 (∃ h1:o.sp.length ≤ 1000000,
 Cl (rtrsF_c o h1)
 (Nf (validO_n1 o t0 (0)) [0] (I1 t0 (0)) ∧ ∀ t1:Int,I1 t0 t1 →
 br (decide (t1 < ((o.sp.map Spk.v).length:Int)))
 (Rf (o.sp.map Spk.v) (ck (decide (0 ≤ t1)) (ck (decide (t1 < (o.sp.length:Int)))
 (∀ x2,o.sp[t1.toNat]? = some x2 →
 (Cl (valS_c x2)
 (br ((valS x2) != 0)
 (Nf (validO_n2 o t0 t1 x2 (true)) [0,65] (I2 t0 t1 x2 ((true):Bool)))
 (br (decide (0 < t1))
 (Rf ((rtrs o.sp).map AV.int) (ck (decide (0 ≤ (W (t1 - 1)))) (ck (decide ((W (t1 - 1)) < ((rtrs o.sp).length:Int)))
 (∀ x3,(rtrs o.sp)[(W (t1 - 1)).toNat]? = some x3 →
 Nf (validO_n2 o t0 t1 x2 (decide (x2.router ≤ x3))) [0,65] (I2 t0 t1 x2 ((decide (x2.router ≤ x3)):Bool))))))
 (Nf (validO_n2 o t0 t1 x2 (false)) [0,65] (I2 t0 t1 x2 ((false):Bool)))))) ∧ ∀ t2:Bool,I2 t0 t1 x2 t2 →
 br t2
 (Rf (validO_e (false)) ((false) = r0))
 (∃ h4:(rtrs o.sp).length ≤ 1000000,
 Cl (othersF_c (rtrs o.sp) x2.router h4)
 (Cl (eqPI_c x2.peers (others (rtrs o.sp) x2.router))
 (br (!(decide (x2.peers.map Per.router = (others (rtrs o.sp) x2.router))))
 (Rf (validO_e (false)) ((false) = r0))
 (Rf (o.ls.map Lsn.v) (ck (decide (0 ≤ t1)) (ck (decide (t1 < (o.ls.length:Int)))
 (∀ x5,o.ls[t1.toNat]? = some x5 →
 (Cl (valL_c x5)
 (br ((valL x5) != 0)
 (Nf (validO_n3 o t0 t1 x2 t2 x5 (true)) [0,210] (I3 t0 t1 x2 t2 x5 ((true):Bool)))
 (Nf (validO_n3 o t0 t1 x2 t2 x5 (x5.router != x2.router)) [0,210] (I3 t0 t1 x2 t2 x5 ((x5.router != x2.router):Bool))))) ∧ ∀ t3:Bool,I3 t0 t1 x2 t2 x5 t3 →
 br t3
 (Rf (validO_e (false)) ((false) = r0))
 (Nf (validO_n4 o t0 t1 x2 t2 x5 t3 (0)) [0] (I4 t0 t1 x2 t2 x5 t3 (0)) ∧ ∀ t4:Int,I4 t0 t1 x2 t2 x5 t3 t4 →
 br (decide (t4 < ((x5.heard.map Hrd.v).length:Int)))
 (Rf (x5.heard.map Hrd.v) (ck (decide (0 ≤ t4)) (ck (decide (t4 < (x5.heard.length:Int)))
 (∀ x6,x5.heard[t4.toNat]? = some x6 →
 Cl (contI_c (rtrs o.sp) x6.router)
 (br (!(decide (x6.router ∈ (rtrs o.sp))))
 (Rf (validO_e (false)) ((false) = r0))
 (Nf (validO_n4 o t0 t1 x2 t2 x5 t3 (W (t4 + 1))) [0] (I4 t0 t1 x2 t2 x5 t3 (W (t4 + 1)) ∧ m4 t0 t1 x2 t2 x5 t3 (W (t4 + 1)) < m4 t0 t1 x2 t2 x5 t3 t4)))))))
 (Nf (validO_n1 o t0 (W (t1 + 1))) [0] (I1 t0 (W (t1 + 1)) ∧ m1 t0 (W (t1 + 1)) < m1 t0 t1))))))))))))))
 (Nf (validO_n5 o t0 t1 (0)) [] (I5 t0 t1 (0)) ∧ ∀ t5:Int,I5 t0 t1 t5 →
 br (decide (t5 < ((o.fl.map Sig.v).length:Int)))
 (Rf (o.fl.map Sig.v) (ck (decide (0 ≤ t5)) (ck (decide (t5 < (o.fl.length:Int)))
 (∀ x7,o.fl[t5.toNat]? = some x7 →
 (Cl (sigV_c x7)
 (br ((sigErr x7) != 0)
 (Nf (validO_n6 o t0 t1 t5 x7 (true)) [] (I6 t0 t1 t5 x7 ((true):Bool)))
 (Cl (contI_c (rtrs o.sp) x7.src)
 (br (!(decide (x7.src ∈ (rtrs o.sp))))
 (Nf (validO_n6 o t0 t1 t5 x7 (true)) [] (I6 t0 t1 t5 x7 ((true):Bool)))
 (Cl (contI_c (rtrs o.sp) x7.dst)
 (Nf (validO_n6 o t0 t1 t5 x7 (!(decide (x7.dst ∈ (rtrs o.sp))))) [] (I6 t0 t1 t5 x7 ((!(decide (x7.dst ∈ (rtrs o.sp)))):Bool)))))))) ∧ ∀ t6:Bool,I6 t0 t1 t5 x7 t6 →
 br t6
 (Rf (validO_e (false)) ((false) = r0))
 (Nf (validO_n5 o t0 t1 (W (t5 + 1))) [] (I5 t0 t1 (W (t5 + 1)) ∧ m5 t0 t1 (W (t5 + 1)) < m5 t0 t1 t5))))))
 (Rf (validO_e (true)) ((true) = r0)))))
theorem validO_eq (o:Ovl) (I0:Bool → Prop) (I1:Bool → Int → Prop) (m1:Bool → Int → Nat) (I2:Bool → Int → Spk → Bool → Prop) (I3:Bool → Int → Spk → Bool → Lsn → Bool → Prop) (I4:Bool → Int → Spk → Bool → Lsn → Bool → Int → Prop) (m4:Bool → Int → Spk → Bool → Lsn → Bool → Int → Nat) (I5:Bool → Int → Int → Prop) (m5:Bool → Int → Int → Nat) (I6:Bool → Int → Int → Sig → Bool → Prop) (r0:Bool):mxP Tryz.prog 106 [.agg [.sl 5 (o.sp.map Spk.v) false,.sl 3 (o.ls.map Lsn.v) false,.sl 10 (o.fl.map Sig.v) false]] .k validO_e ((.pass (.pass (.join 0 (validO_n0 o) (fun t0=>I0 t0) (.br 112 (.back 0 ((true):Bool) [0])
 (.back 0 ((((o.ls.map Lsn.v).length:Int) != ((o.sp.map Spk.v).length:Int)):Bool) [0])) fun (t0:Bool) =>
 (.br 1 (.ret (false))
 (.req 17 (o.sp.length ≤ 1000000) fun h1 =>
 (.callP (rtrsF_c o h1)
 (.loop 1 (validO_n1 o t0) (I1 t0) (m1 t0) ((0):Int) [0] fun (t1:Int) =>
 (.br 17 (.el 33 Spk.v o.sp fun x2 =>
 (.pass (.join 2 (validO_n2 o t0 t1 x2) (fun t2=>I2 t0 t1 x2 t2) (.callP (valS_c x2)
 (.br 177 (.back 2 ((true):Bool) [0,65])
 (.br 225 (.el 273 AV.int (rtrs o.sp) fun x3 =>
 (.back 2 ((decide (x2.router ≤ x3)):Bool) [0,65]))
 (.back 2 ((false):Bool) [0,65])))) fun (t2:Bool) =>
 (.br 2 (.ret (false))
 (.req 82 ((rtrs o.sp).length ≤ 1000000) fun h4 =>
 (.callP (othersF_c (rtrs o.sp) x2.router h4)
 (.callP (eqPI_c x2.peers (others (rtrs o.sp) x2.router))
 (.br 130 (.ret (false))
 (.el 178 Lsn.v o.ls fun x5 =>
 (.pass (.join 3 (validO_n3 o t0 t1 x2 t2 x5) (fun t3=>I3 t0 t1 x2 t2 x5 t3) (.callP (valL_c x5)
 (.br 306 (.back 3 ((true):Bool) [0,210])
 (.back 3 ((x5.router != x2.router):Bool) [0,210]))) fun (t3:Bool) =>
 (.br 2 (.ret (false))
 (.loop 4 (validO_n4 o t0 t1 x2 t2 x5 t3) (I4 t0 t1 x2 t2 x5 t3) (m4 t0 t1 x2 t2 x5 t3) ((0):Int) [0] fun (t4:Int) =>
 (.br 17 (.el 17 Hrd.v x5.heard fun x6 =>
 (.callP (contI_c (rtrs o.sp) x6.router)
 (.br 161 (.ret (false))
 (.back 4 ((W (t4 + 1)):Int) [0]))))
 (.back 1 ((W (t1 + 1)):Int) [0])))))))))))))))
 (.loop 5 (validO_n5 o t0 t1) (I5 t0 t1) (m5 t0 t1) ((0):Int) [] fun (t5:Int) =>
 (.br 16 (.el 16 Sig.v o.fl fun x7 =>
 (.join 6 (validO_n6 o t0 t1 t5 x7) (fun t6=>I6 t0 t1 t5 x7 t6) (.callP (sigV_c x7)
 (.br 144 (.back 6 ((true):Bool) [])
 (.callP (contI_c (rtrs o.sp) x7.src)
 (.br 256 (.back 6 ((true):Bool) [])
 (.callP (contI_c (rtrs o.sp) x7.dst)
 (.back 6 ((!(decide (x7.dst ∈ (rtrs o.sp)))):Bool) [])))))) fun (t6:Bool) =>
 (.br 0 (.ret (false))
 (.back 5 ((W (t5 + 1)):Int) []))))
 (.ret (true)))))))))))):An Tryz.prog validO_s (Bool)) r0 = validO_vc o I0 I1 m1 I2 I3 I4 m4 I5 m5 I6 r0:=by kernel_rfl
theorem validO_ok (o:Ovl) (I0:Bool → Prop) (I1:Bool → Int → Prop) (m1:Bool → Int → Nat) (I2:Bool → Int → Spk → Bool → Prop) (I3:Bool → Int → Spk → Bool → Lsn → Bool → Prop) (I4:Bool → Int → Spk → Bool → Lsn → Bool → Int → Prop) (m4:Bool → Int → Spk → Bool → Lsn → Bool → Int → Nat) (I5:Bool → Int → Int → Prop) (m5:Bool → Int → Int → Nat) (I6:Bool → Int → Int → Sig → Bool → Prop) (r0:Bool) (h:validO_vc o I0 I1 m1 I2 I3 I4 m4 I5 m5 I6 r0):PSpec Tryz.prog 106 [.agg [.sl 5 (o.sp.map Spk.v) false,.sl 3 (o.ls.map Lsn.v) false,.sl 10 (o.fl.map Sig.v) false]] (validO_e r0):=by
  have e:=validO_eq o I0 I1 m1 I2 I3 I4 m4 I5 m5 I6 r0
  rw [← e] at h
  exact mxP_ok (enc:=validO_e) h (AV.pureB_ok rfl)
theorem validO_p (o:Ovl) (ok:validO_a o):∃ I0 I1 m1 I2 I3 I4 m4 I5 m5 I6,validO_vc o I0 I1 m1 I2 I3 I4 m4 I5 m5 I6 (decide (ovlOk o)):=by
  unfold validO_a at ok
  obtain ⟨l1,l2,l3⟩:=ovl_lens ok
  refine ⟨fun t=>t = false ↔ (o.sp.length ≤ 12 ∧ o.ls.length = o.sp.length),
    fun _ t=>∃ k:Nat,t = k ∧ k ≤ o.sp.length ∧ ∀ i s l,i < k → o.sp[i]? = some s → o.ls[i]? = some l → AtK (rtrs o.sp) i s l,fun _ t=>o.sp.length - t.toNat,
    fun _ t1 x t=>t = false ↔ (spkOk x ∧ (0 < t1.toNat → ∀ y,(rtrs o.sp)[t1.toNat - 1]? = some y → y < x.router)),
    fun _ _ x _ y t=>t = false ↔ (lsnOk y ∧ y.router = x.router),
    fun _ _ _ _ y _ t=>∃ k:Nat,t = k ∧ k ≤ y.heard.length ∧ ∀ h ∈ y.heard.take k,h.router ∈ rtrs o.sp,fun _ _ _ _ y _ t=>y.heard.length - t.toNat,
    fun _ _ t=>∃ k:Nat,t = k ∧ k ≤ o.fl.length ∧ ∀ x ∈ o.fl.take k,sigIn (rtrs o.sp) x,fun _ _ t=>o.fl.length - t.toNat,
    fun _ _ _ x t=>t = false ↔ sigIn (rtrs o.sp) x,?_⟩
  simp only [validO_vc,vcU,rfU,List.length_map]
  refine ⟨⟨fun h1=>by simp; omega,fun h1=>?_⟩,?_⟩
  · simp; omega
  intro t0 h0
  refine ⟨fun e=>?_,fun e=>?_⟩
  · subst e
    exact nodec fun q=>by have:=h0.mpr ⟨(ovl_iff.mp q).1,(ovl_iff.mp q).2.1⟩; simp at this
  obtain ⟨n1,n2⟩:=h0.mp e
  have hR:(rtrs o.sp).length = o.sp.length:=rtrs_len
  refine ⟨by omega,⟨0,rfl,by omega,fun i s l hi=>by omega⟩,?_⟩
  rintro _ ⟨k,rfl,hk,hI⟩
  simp only [Int.toNat_natCast]
  refine ⟨fun h1=>⟨by omega,by omega,fun x hx=>⟨⟨fun a1=>?_,fun a1=>⟨fun a2=>⟨?_,?_,fun y hy=>?_⟩,fun a2=>?_⟩⟩,?_⟩⟩,fun h1=>⟨⟨0,rfl,by omega,by simp⟩,?_⟩⟩
  · have a1:¬ valS x = 0:=by simpa using a1
    rw [valS_z] at a1
    simp [a1]
  · rw [W_eq (by omega)]; omega
  · rw [W_eq (by omega)]; omega
  · have a1:valS x = 0:=by simpa using a1
    have e3:(W ((k:Int) - 1)).toNat = k - 1:=by rw [W_eq (by omega)]; omega
    rw [e3] at hy
    rw [valS_z] at a1
    rw [hy]
    simp only [Option.some.injEq,forall_eq']
    exact ⟨fun q=>⟨a1,fun _=>by omega⟩,fun q=>by have:=q.2 (by omega); omega⟩
  · have a1:valS x = 0:=by simpa using a1
    rw [valS_z] at a1
    simp only [true_iff]
    exact ⟨a1,fun q=>by omega⟩
  · intro t2 h2
    refine ⟨fun e=>?_,fun e=>⟨by omega,fun a1=>?_,fun a1=>⟨by omega,by omega,fun y hy=>⟨⟨fun b1=>?_,fun b1=>?_⟩,?_⟩⟩⟩⟩
    · subst e
      exact nodec fun q=>by
        obtain ⟨l,hl⟩:∃ l,o.ls[k]? = some l:=⟨_,List.getElem?_eq_getElem (by omega)⟩
        have d:=(ovl_iff.mp q).2.2.1 k x l hx hl
        have:=h2.mpr ⟨d.fs,d.fasc⟩
        simp at this
    · have a1:¬ x.peers.map Per.router = others (rtrs o.sp) x.router:=by simpa using a1
      exact nodec fun q=>by
        obtain ⟨l,hl⟩:∃ l,o.ls[k]? = some l:=⟨_,List.getElem?_eq_getElem (by omega)⟩
        exact a1 ((ovl_iff.mp q).2.2.1 k x l hx hl).fp
    · have b1:¬ valL y = 0:=by simpa using b1
      rw [valL_z] at b1
      simp [b1]
    · have b1:valL y = 0:=by simpa using b1
      rw [valL_z] at b1
      simp [b1]
    · have a1:x.peers.map Per.router = others (rtrs o.sp) x.router:=by simpa using a1
      intro t3 h3
      refine ⟨fun e3=>?_,fun e3=>⟨⟨0,rfl,by omega,by simp⟩,?_⟩⟩
      · subst e3
        exact nodec fun q=>by
          have d:=(ovl_iff.mp q).2.2.1 k x y hx hy
          have:=h3.mpr ⟨d.fl,d.fr⟩
          simp at this
      obtain ⟨d1,d2⟩:=h2.mp e
      obtain ⟨d3,d4⟩:=h3.mp e3
      have hh:=d3.2.2.1
      rintro _ ⟨j,rfl,hj,hJ⟩
      simp only [Int.toNat_natCast]
      refine ⟨fun c1=>⟨by omega,by omega,fun z hz=>⟨fun c2=>?_,fun c2=>?_⟩⟩,fun c1=>?_⟩
      · have c2:¬ z.router ∈ rtrs o.sp:=by simpa using c2
        exact nodec fun q=>c2 (((ovl_iff.mp q).2.2.1 k x y hx hy).fh z (mem_of_get hz))
      · rw [W_succ (n:=y.heard.length) (by omega) (by omega)]
        exact ⟨⟨j + 1,rfl,by omega,take_all hz hJ (by simpa using c2)⟩,by omega⟩
      · rw [W_succ (n:=o.sp.length) (by omega) (by omega)]
        have hj:j = y.heard.length:=by omega
        rw [hj,List.take_length] at hJ
        refine ⟨⟨k + 1,rfl,by omega,fun i s l hi hs hl=>?_⟩,by omega⟩
        by_cases ei:i = k
        · subst ei
          rw [hx] at hs; rw [hy] at hl
          cases hs; cases hl
          exact ⟨d1,d2,a1,d3,d4,hJ⟩
        · exact hI i s l (by omega) hs hl
  · have hk:k = o.sp.length:=by omega
    rintro _ ⟨j,rfl,hj,hJ⟩
    simp only [Int.toNat_natCast]
    refine ⟨fun c1=>⟨by omega,by omega,fun x hx=>⟨⟨fun a1=>?_,fun a1=>⟨fun a2=>?_,fun a2=>?_⟩⟩,?_⟩⟩,fun c1=>?_⟩
    · have a1:¬ sigErr x = 0:=by simpa using a1
      simp [sigIn,a1]
    · have a2:¬ x.src ∈ rtrs o.sp:=by simpa using a2
      simp [sigIn,a2]
    · have a1:sigErr x = 0:=by simpa using a1
      have a2:x.src ∈ rtrs o.sp:=by simpa using a2
      simp [sigIn,a1,a2]
    · intro t6 h6
      refine ⟨fun e=>?_,fun e=>?_⟩
      · subst e
        exact nodec fun q=>by have:=h6.mpr ((ovl_iff.mp q).2.2.2 x (mem_of_get hx)); simp at this
      · rw [W_succ (n:=o.fl.length) (by omega) (by omega)]
        exact ⟨⟨j + 1,rfl,by omega,take_all hx hJ (h6.mp e)⟩,by omega⟩
    · have hj:j = o.fl.length:=by omega
      rw [hj,List.take_length] at hJ
      refine (decide_eq_true (ovl_iff.mpr ⟨n1,n2,fun i s l hs hl=>hI i s l (by have:=lt_of_get hs; omega) hs hl,hJ⟩)).symm
def validO_c (o:Ovl):PC Tryz.prog:=⟨106,[(.a [(.s 5),(.s 3),(.s 10)])],[.agg [.sl 5 (o.sp.map Spk.v) false,.sl 3 (o.ls.map Lsn.v) false,.sl 10 (o.fl.map Sig.v) false]],validO_e (decide (ovlOk o)),PSpec.of_ok fun ok=>(validO_p o ok).elim fun I0 h=>h.elim fun I1 h=>h.elim fun m1 h=>h.elim fun I2 h=>h.elim fun I3 h=>h.elim fun I4 h=>h.elim fun m4 h=>h.elim fun I5 h=>h.elim fun m5 h=>h.elim fun I6 h=>validO_ok o I0 I1 m1 I2 I3 I4 m4 I5 m5 I6 _ h,fnB_ok (by kernel_rfl)⟩
def quietO:Int:=5
def quietO_a:Prop:=okL []
def quietO_s:Nat → Type
  | _=>Unit
def quietO_e (r:Int):AV:=.int r
def quietO_vc (r0:Int):Prop:=
 Rf (quietO_e (5)) ((5) = r0)
theorem quietO_eq (r0:Int):mxP Tryz.prog 39 [] .k quietO_e ((.ret (5)):An Tryz.prog quietO_s (Int)) r0 = quietO_vc r0:=by kernel_rfl
theorem quietO_ok (r0:Int) (h:quietO_vc r0):PSpec Tryz.prog 39 [] (quietO_e r0):=by
  have e:=quietO_eq r0
  rw [← e] at h
  exact mxP_ok (enc:=quietO_e) h (AV.pureB_ok rfl)
theorem quietO_p (ok:quietO_a):quietO_vc quietO:=by
  simp only [quietO_vc,vcU,rfU,List.length_map]
  rfl
def quietO_c:PC Tryz.prog:=⟨39,[],[],quietO_e quietO,PSpec.of_ok fun ok=>quietO_ok _ (quietO_p ok),fnB_ok (by kernel_rfl)⟩
end Go.Proofs.YtglfecmdoekabaaGreatDoor
