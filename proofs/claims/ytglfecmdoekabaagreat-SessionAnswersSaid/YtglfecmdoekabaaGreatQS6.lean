/- Texts joined: G16 G18 G19 U3 U4 U5 U6 G17 G20 G21 G22 U7. -/
import Derived.Test.YtglfecmdoekabaaGreatSh
import Derived.Test.YtglfecmdoekabaaGreatChecked
import Derived.Test.YtglfecmdoekabaaGreatQS5
namespace Go.Proofs.YtglfecmdoekabaaGreat
open Go Go.Am
set_option linter.unusedVariables false
set_option linter.unusedSimpArgs false
open Go.Shelf Go.RowKit Go.Lib Go.Sort in
theorem cmpW_calls (a b:Int) (x1 x2 y1 y2:Value) (w:World) (hx:x1.oneCell' = true ∧ x2.oneCell' = true) (hy:y1.oneCell' = true ∧ y2.oneCell' = true) :
    Calls Tryz.prog 44 #[.agg #[.int .i64 a,x1,x2],.agg #[.int .i64 b,y1,y2]] w fun e w'=>e = .returned (.int .i64 (Lib.compareInt a b)) ∧ ∃ q os',w' = grow (w.drewN q) os':=by
  have hcon:=fun W'=>AnyG.cmp_Compare_int Tryz.cmpI a b W'
  change ∀ W',Calls Tryz.prog 45 _ _ _ at hcon
  generalize Lib.compareInt a b = r at hcon ⊢
  go_enter Tryz.func44,Tryz.ntmps44
  go_wp2_with (go_at_call 45; refine (hcon _).mono ?_; rintro e w' ⟨rfl,rfl⟩)
  go_ret
  exact ⟨rfl,0,_,by rw [alloc_eq_grow,alloc_eq_grow,grow_grow]; rfl⟩
def okSrt (l:List Wnt):Prop:=l.length ≤ 1000000 ∧ l.Pairwise fun a b=>a.grp ≠ b.grp
def srtW (l:List Wnt):List Wnt:=l.mergeSort fun a b=>decide (a.grp ≤ b.grp)
theorem srtW_perm (l:List Wnt):(srtW l).Perm l:=List.mergeSort_perm _ _
theorem srtW_asc {l:List Wnt} (h:okSrt l):(srtW l).Pairwise fun a b=>a.grp < b.grp:=by
  have h1:(srtW l).Pairwise fun a b=>decide (a.grp ≤ b.grp) = true:=List.pairwise_mergeSort (fun a b c h1 h2=>by simp at *; omega) (fun a b=>by simp; omega) l
  have h2:(srtW l).Pairwise fun a b=>a.grp ≠ b.grp:=(List.Perm.pairwise_iff (fun h=>Ne.symm h) (srtW_perm l)).mpr h.2
  exact (h1.and h2).imp fun ⟨h1,h2⟩=>by simp at h1; omega
open Go.Shelf Go.RowKit Go.Lib Go.Sort in
theorem sortW_spec (l:List Wnt) (h:okSrt l):HSpec Tryz.prog 43 [.vec 0,.func 44 []] [.vec 3 (l.map Wnt.v)] (.tup []) [some (.vec 3 ((srtW l).map Wnt.v))]:=by
  refine sort_hspec Tryz.sortW Wnt.v Wnt.grp 3 (by omega) (fun _=>by kernel_rfl) (fun _=>by kernel_rfl) (fun x=>⟨_,rfl⟩) 44 (enters_of Tryz.func44 (by kernel_rfl) rfl) ?_ l (srtW l) (srtW_perm l) (srtW_asc h) h.1
  intro a b xs ys w hx hy ox oy
  match xs,hx with
  | [x1,x2],_ =>
  match ys,hy with
  | [y1,y2],_=>exact cmpW_calls a b x1 x2 y1 y2 w ⟨ox x1 (by simp),ox x2 (by simp)⟩ ⟨oy y1 (by simp),oy y2 (by simp)⟩
def sortW_h (l:List Wnt) (h:okSrt l):HC Tryz.prog:=⟨43,[.k,.k],[.vec 0,.func 44 []],[.vec 3 (l.map Wnt.v)],.tup [],[some (.vec 3 ((srtW l).map Wnt.v))],sortW_spec l h,fnB_ok (by kernel_rfl),
  HcOk.of (by simp [hcB,belBL,AV.belB,allB,okBk,okBkO,pureBL_map (v:=Wnt.v) (fun _=>rfl)])⟩
def noF2 (f:Flt):Bool:=f.mode == 1 && (f.srcs.length:Int) == 0
theorem noF2_iff {f:Flt}:noF2 f = true ↔ f.mode = 1 ∧ f.srcs = []:=by
  simp [noF2]
def noF2_a (f:Flt):Prop:=okL [.agg [.int f.mode,.sl 1 (f.srcs.map AV.int) false]]
def noF2_s:Nat → Type
  | _=>Unit
def noF2_e (r:Bool):AV:=.bool r
def noF2_vc (f:Flt) (r0:Bool):Prop:=
 br (f.mode == 1)
 (Rf (noF2_e (((f.srcs.map AV.int).length:Int) == 0)) ((((f.srcs.map AV.int).length:Int) == 0) = r0))
 (Rf (noF2_e (false)) ((false) = r0))
theorem noF2_eq (f:Flt) (r0:Bool):mxP Tryz.prog 41 [.agg [.int f.mode,.sl 1 (f.srcs.map AV.int) false]] .k noF2_e ((.br 96 (.ret (((f.srcs.map AV.int).length:Int) == 0))
 (.ret (false))):An Tryz.prog noF2_s (Bool)) r0 = noF2_vc f r0:=by kernel_rfl
theorem noF2_ok (f:Flt) (r0:Bool) (h:noF2_vc f r0):PSpec Tryz.prog 41 [.agg [.int f.mode,.sl 1 (f.srcs.map AV.int) false]] (noF2_e r0):=by
  have e:=noF2_eq f r0
  rw [← e] at h
  exact mxP_ok (enc:=noF2_e) h (AV.pureB_ok rfl)
theorem noF2_p (f:Flt) (ok:noF2_a f):noF2_vc f (noF2 f):=by
  simp only [noF2_vc,vcU,rfU,List.length_map]
  by_cases h:f.mode = 1 <;> simp [noF2,h]
def noF2_c (f:Flt):PC Tryz.prog:=⟨41,[(.a [.k,(.s 1)])],[.agg [.int f.mode,.sl 1 (f.srcs.map AV.int) false]],noF2_e (noF2 f),PSpec.of_ok fun ok=>noF2_ok f _ (noF2_p f ok),fnB_ok (by kernel_rfl)⟩
def wOf (l:List Itm):List Wnt:=(l.filter fun x=>!noF2 ⟨x.mode,x.srcs⟩).map fun x=>⟨x.grp,x.mode,x.srcs⟩
theorem wOf_snoc (l:List Itm) (x:Itm):wOf (l ++ [x]) = if noF2 ⟨x.mode,x.srcs⟩ = true then wOf l else wOf l ++ [⟨x.grp,x.mode,x.srcs⟩]:=by
  unfold wOf
  rw [List.filter_append,List.map_append]
  by_cases h:noF2 ⟨x.mode,x.srcs⟩ = true
  · rw [if_pos h]; simp [List.filter_cons,h]
  · rw [if_neg h]; simp [List.filter_cons,h]
theorem wOf_len (l:List Itm):(wOf l).length ≤ l.length:=by unfold wOf; rw [List.length_map]; exact List.length_filter_le _ _
theorem mem_wOf {l:List Itm} {w:Wnt}:w ∈ wOf l ↔ ∃ x ∈ l,¬ (x.mode = 1 ∧ x.srcs = []) ∧ w = ⟨x.grp,x.mode,x.srcs⟩:=by
  unfold wOf
  rw [List.mem_map]
  constructor
  · rintro ⟨x,hx,rfl⟩
    obtain ⟨h1,h2⟩:=List.mem_filter.mp hx
    refine ⟨x,h1,fun e=>?_,rfl⟩
    rw [noF2_iff.mpr e] at h2; cases h2
  · rintro ⟨x,hx,h,rfl⟩
    refine ⟨x,List.mem_filter.mpr ⟨hx,?_⟩,rfl⟩
    cases e:noF2 ⟨x.mode,x.srcs⟩ with
    | true=>exact absurd (noF2_iff.mp e) h
    | false=>rfl
theorem wOf_srt {l:List Itm} (h:itmsOk 1000000 l):okSrt (wOf l):=by
  refine ⟨by have:=wOf_len l; have:=itms_len h; omega,?_⟩
  unfold wOf
  rw [List.pairwise_map]
  refine List.Pairwise.filter _ ?_
  have:=h.2.1
  rw [List.Nodup,List.pairwise_map] at this
  exact this
theorem wants_srt {l:List Itm} (h:itmsOk 1000000 l):srtW (wOf l) = wantsOf l:=by
  rw [wantsOf,if_pos h]
  refine ascW_ext (srtW_asc (wOf_srt h)) (fromF_asc 99) fun w=>?_
  rw [(srtW_perm _).mem_iff,mem_wOf,mem_fromF]
  constructor
  · rintro ⟨x,hx,h1,rfl⟩
    have:=told_in h.2.1 hx
    refine ⟨by have:=(h.1 x hx).2.1; simp only; omega,this,?_⟩
    simp only
    rw [this]
    intro e
    simp only [Prod.mk.injEq] at e
    exact h1 e
  · rintro ⟨_,h1,h2⟩
    obtain ⟨x,hx,e1,e2⟩:=told_some h2
    rw [h1] at e2
    simp only [Prod.mk.injEq] at e2
    refine ⟨x,hx,fun e=>h2 ?_,?_⟩
    · rw [h1,e2.1,e2.2,e.1,e.2]
    · cases w; simp only at e1 e2; rw [e1,e2.1,e2.2]
def wantsF_a (l:(List Itm)):Prop:=okL [.sl 4 (l.map Itm.v) false]
def wantsF_n0 (l:(List Itm)) (t0:Int × (List Wnt)):NF:=⟨[(3,.k,.vec 0),(9,.k,.sl 4 (l.map Itm.v) false),(10,.k,.int ((l.map Itm.v).length:Int)),(11,.k,.int t0.1)],[.vec 3 (t0.2.map Wnt.v) (pureBL_map (fun _=>rfl) t0.2)]⟩
def wantsF_s:Nat → Type
  | 0=>Int × (List Wnt)
  | _=>Unit
def wantsF_e (r:(List Wnt)):AV:=.sl 3 (r.map Wnt.v) false
def wantsF_vc (l:(List Itm)) (I0:(Int × (List Wnt)) → Prop) (m0:(Int × (List Wnt)) → Nat) (r0:(List Wnt)):Prop:=
 Cl (itemsB_c l 1000000)
 (br (!(itemsB l 1000000))
 (Rf (wantsF_e ([])) (([]) = r0))
 (Nf (wantsF_n0 l (0,[])) [128] (I0 (0,[])) ∧ ∀ t0:Int × (List Wnt),I0 t0 →
 br (decide (t0.1 < ((l.map Itm.v).length:Int)))
 (Rf (l.map Itm.v) (ck (decide (0 ≤ t0.1)) (ck (decide (t0.1 < (l.length:Int)))
 (∀ x1,l[t0.1.toNat]? = some x1 →
 Cl (noF2_c (⟨x1.mode,x1.srcs⟩:Flt))
 (br (!(noF2 (⟨x1.mode,x1.srcs⟩:Flt)))
 (∃ h2:(⟨x1.mode,x1.srcs⟩:Flt).srcs.length ≤ 1000000,
 Cl (filtered_c (⟨x1.mode,x1.srcs⟩:Flt) h2)
 (Rf (α:=List AV) (t0.2.map Wnt.v) (Rf (α:=List AV) [.agg [.int x1.grp,.int x1.mode,.sl 1 (x1.srcs.map AV.int) false]]
 (ck (decide (t0.2.length + 1 ≤ 1000000))
 (Nf (wantsF_n0 l (W (t0.1 + 1),t0.2 ++ [(⟨x1.grp,x1.mode,x1.srcs⟩:Wnt)])) [273] (I0 (W (t0.1 + 1),t0.2 ++ [(⟨x1.grp,x1.mode,x1.srcs⟩:Wnt)]) ∧ m0 (W (t0.1 + 1),t0.2 ++ [(⟨x1.grp,x1.mode,x1.srcs⟩:Wnt)]) < m0 t0))))))
 (Nf (wantsF_n0 l (W (t0.1 + 1),t0.2)) [0] (I0 (W (t0.1 + 1),t0.2) ∧ m0 (W (t0.1 + 1),t0.2) < m0 t0)))))))
 (∃ h3:okSrt t0.2,
 Ch (sortW_h t0.2 h3) [0] 33
 (Rf ((srtW t0.2).map Wnt.v) (Rf (wantsF_e (srtW t0.2)) ((srtW t0.2) = r0))))))
theorem wantsF_eq (l:(List Itm)) (I0:(Int × (List Wnt)) → Prop) (m0:(Int × (List Wnt)) → Nat) (r0:(List Wnt)):mxP Tryz.prog 12 [.sl 4 (l.map Itm.v) false] (.s 3) wantsF_e ((.callP (itemsB_c l 1000000)
 (.br 64 (.ret ([]))
 (.cmdL (.nilT 3 3) (.loop 0 (wantsF_n0 l) (I0) (m0) ((0,[]):Int × (List Wnt)) [128] fun (t0:Int × (List Wnt)) =>
 (.br 17 (.el 17 Itm.v l fun x1 =>
 (.callP (noF2_c (⟨x1.mode,x1.srcs⟩:Flt))
 (.br 145 (.req 225 ((⟨x1.mode,x1.srcs⟩:Flt).srcs.length ≤ 1000000) fun h2 =>
 (.callP (filtered_c (⟨x1.mode,x1.srcs⟩:Flt) h2)
 (.app 273 Wnt.v t0.2 [(⟨x1.grp,x1.mode,x1.srcs⟩:Wnt)]
 (.back 0 ((W (t0.1 + 1),t0.2 ++ [(⟨x1.grp,x1.mode,x1.srcs⟩:Wnt)]):Int × (List Wnt)) [273]))))
 (.back 0 ((W (t0.1 + 1),t0.2):Int × (List Wnt)) [0]))))
 (.req 33 (okSrt t0.2) fun h3 =>
 (.callH [0] (sortW_h t0.2 h3)
 (.cmdL (.frzE 0 ((srtW t0.2).map Wnt.v) (pureBL_map (fun _=>rfl) (srtW t0.2))) (.ret (srtW t0.2)))))))))):An Tryz.prog wantsF_s ((List Wnt))) r0 = wantsF_vc l I0 m0 r0:=by kernel_rfl
theorem wantsF_ok (l:(List Itm)) (I0:(Int × (List Wnt)) → Prop) (m0:(Int × (List Wnt)) → Nat) (r0:(List Wnt)) (h:wantsF_vc l I0 m0 r0):PSpec Tryz.prog 12 [.sl 4 (l.map Itm.v) false] (wantsF_e r0):=by
  have e:=wantsF_eq l I0 m0 r0
  rw [← e] at h
  exact mxP_ok (enc:=wantsF_e) h (AV.pureB_ok rfl)
theorem wantsF_p (l:List Itm) (ok:wantsF_a l):∃ I m,wantsF_vc l I m (wantsOf l):=by
  refine ⟨fun t=>∃ k:Nat,t.1 = k ∧ k ≤ l.length ∧ t.2 = wOf (l.take k),fun t=>l.length - t.1.toNat,?_⟩
  simp only [wantsF_vc,vcU,rfU,List.length_map]
  simp only [itemsB,Bool.not_eq_true',decide_eq_false_iff_not,Bool.not_eq_false',decide_eq_true_iff]
  refine ⟨fun h=>by rw [wantsOf,if_neg h],fun h=>⟨⟨0,rfl,by omega,rfl⟩,?_⟩⟩
  rintro ⟨_,ws⟩ ⟨k,rfl,hk,rfl⟩
  have hl:=itms_len h
  simp only [Int.toNat_natCast]
  refine ⟨fun h1=>⟨by omega,by omega,fun x hx=>?_⟩,fun h1=>?_⟩
  · have hs:=srcs_len (h.1 x (mem_of_get hx)).2.2
    have hw:=wOf_len (l.take k)
    rw [List.length_take] at hw
    rw [W_succ (n:=l.length) (by omega) (by omega)]
    refine ⟨fun e=>⟨by omega,by omega,⟨k + 1,rfl,by omega,?_⟩,by omega⟩,fun e=>⟨⟨k + 1,rfl,by omega,?_⟩,by omega⟩⟩
    · rw [take_succ hx,wOf_snoc,if_neg (by simp [e])]
    · rw [take_succ hx,wOf_snoc,if_pos e]
  · have e:l.take k = l:=List.take_of_length_le (by omega)
    rw [e]
    exact ⟨wOf_srt h,by rw [wants_srt h]⟩
def wantsF_c (l:(List Itm)):PC Tryz.prog:=⟨12,[(.s 4)],[.sl 4 (l.map Itm.v) false],wantsF_e (wantsOf l),PSpec.of_ok fun ok=>(wantsF_p l ok).elim fun I0 h=>h.elim fun m0 h=>wantsF_ok l I0 m0 _ h,fnB_ok (by kernel_rfl)⟩
end Go.Proofs.YtglfecmdoekabaaGreat

namespace Go.Proofs.YtglfecmdoekabaaGreat
open Go Go.Am
set_option linter.unusedVariables false
set_option linter.unusedSimpArgs false
def inR (x lo hi:Int):Bool:=decide (lo ≤ x ∧ x ≤ hi)
def inR_a (x:Int) (lo:Int) (hi:Int):Prop:=okL [.int x,.int lo,.int hi]
def inR_s:Nat → Type
  | _=>Unit
def inR_e (r:Bool):AV:=.bool r
def inR_vc (x:Int) (lo:Int) (hi:Int) (r0:Bool):Prop:=
 br (decide (lo ≤ x))
 (Rf (inR_e (decide (x ≤ hi))) ((decide (x ≤ hi)) = r0))
 (Rf (inR_e (false)) ((false) = r0))
theorem inR_eq (x:Int) (lo:Int) (hi:Int) (r0:Bool):mxP Tryz.prog 38 [.int x,.int lo,.int hi] .k inR_e ((.br 80 (.ret (decide (x ≤ hi)))
 (.ret (false))):An Tryz.prog inR_s (Bool)) r0 = inR_vc x lo hi r0:=by kernel_rfl
theorem inR_ok (x:Int) (lo:Int) (hi:Int) (r0:Bool) (h:inR_vc x lo hi r0):PSpec Tryz.prog 38 [.int x,.int lo,.int hi] (inR_e r0):=by
  have e:=inR_eq x lo hi r0
  rw [← e] at h
  exact mxP_ok (enc:=inR_e) h (AV.pureB_ok rfl)
theorem inR_p (x lo hi:Int) (ok:inR_a x lo hi):inR_vc x lo hi (inR x lo hi):=by
  simp only [inR_vc,vcU,rfU,List.length_map]
  refine ⟨fun h=>decide_eq_decide.mpr ⟨fun q=>⟨h,q⟩,fun q=>q.2⟩,fun h=>(decide_eq_false fun q=>h q.1).symm⟩
def inR_c (x:Int) (lo:Int) (hi:Int):PC Tryz.prog:=⟨38,[.k,.k,.k],[.int x,.int lo,.int hi],inR_e (inR x lo hi),PSpec.of_ok fun ok=>inR_ok x lo hi _ (inR_p x lo hi ok),fnB_ok (by kernel_rfl)⟩
theorem asc_take {α:Type} (key:α → Int) {l:List α} {k:Nat} {x y:α} (hx:l[k]? = some x) (h0:0 < k) (hy:l[k - 1]? = some y) :
    (l.take (k + 1)).Pairwise (fun a b=>key a < key b) ↔ (l.take k).Pairwise (fun a b=>key a < key b) ∧ key y < key x:=by
  rw [take_succ hx,List.pairwise_append]
  have hm:y ∈ l.take k:=by
    have:(l.take k)[k - 1]? = some y:=by rw [List.getElem?_take,if_pos (by omega)]; exact hy
    exact List.mem_of_getElem? this
  constructor
  · rintro ⟨h1,_,h3⟩
    exact ⟨h1,h3 y hm x (by simp)⟩
  · rintro ⟨h1,h2⟩
    refine ⟨h1,List.pairwise_singleton _ _,fun a ha b hb=>?_⟩
    rw [List.mem_singleton] at hb; subst hb
    obtain ⟨i,hi,rfl⟩:=List.getElem_of_mem ha
    rw [List.length_take] at hi
    rw [List.getElem_take]
    obtain ⟨hk,hyk⟩:=List.getElem?_eq_some_iff.mp hy
    rcases Nat.lt_or_ge i (k - 1) with e | e
    · have:=List.pairwise_iff_getElem.mp h1 i (k - 1) (by rw [List.length_take]; omega) (by rw [List.length_take]; omega) e
      rw [List.getElem_take,List.getElem_take,hyk] at this
      omega
    · have:i = k - 1:=by omega
      subst this
      rw [hyk]; exact h2
theorem asc_first {α:Type} (key:α → Int) {l:List α} {x:α} (hx:l[0]? = some x):(l.take 1).Pairwise (fun a b=>key a < key b):=by
  rw [take_succ hx]; simp
theorem mem_take_succ {α:Type} {l:List α} {k:Nat} {x:α} (hx:l[k]? = some x) {P:α → Prop}:(∀ y ∈ l.take (k + 1),P y) ↔ (∀ y ∈ l.take k,P y) ∧ P x:=by
  rw [take_succ hx]
  constructor
  · intro h; exact ⟨fun y hy=>h y (List.mem_append_left _ hy),h x (by simp)⟩
  · rintro ⟨h1,h2⟩ y hy
    rcases List.mem_append.mp hy with hy | hy
    · exact h1 y hy
    · rw [List.mem_singleton] at hy; subst hy; exact h2
theorem W_pred' {k:Nat} (h:k ≤ 9223372036854775807):W ((k:Int) - 1) = (k:Int) - 1:=W_eq (by omega)
theorem itmsOk.take {n:Int} {l:List Itm} (h:itmsOk n l) (k:Nat):itmsOk n (l.take k):=
  ⟨fun x hx=>h.1 x (List.mem_of_mem_take hx),by rw [List.map_take]; exact h.2.1.sublist (List.take_sublist _ _),h.2.2.sublist (List.take_sublist _ _)⟩
theorem itmsOk_succ {n:Int} {l:List Itm} {k:Nat} {x:Itm} (hx:l[k]? = some x):itmsOk n (l.take (k + 1)) ↔ itmsOk n (l.take k) ∧ itmOk n x ∧ (∀ y ∈ l.take k,y.grp ≠ x.grp) ∧ (0 < k → ∀ y,l[k - 1]? = some y → y.ver < x.ver):=by
  have hn:((l.take (k + 1)).map Itm.grp).Nodup ↔ ((l.take k).map Itm.grp).Nodup ∧ ∀ y ∈ l.take k,y.grp ≠ x.grp:=by
    rw [take_succ hx,List.map_append,List.nodup_append]
    simp only [List.map_cons,List.map_nil,List.mem_singleton,List.mem_map,List.nodup_cons,List.not_mem_nil,not_false_eq_true,List.nodup_nil,and_self,true_and]
    constructor
    · rintro ⟨h1,h2⟩
      exact ⟨h1,fun y hy=>h2 _ ⟨y,hy,rfl⟩ _ rfl⟩
    · rintro ⟨h1,h2⟩
      refine ⟨h1,?_⟩
      rintro _ ⟨y,hy,rfl⟩ _ rfl
      exact h2 y hy
  unfold itmsOk
  rw [mem_take_succ hx,hn]
  cases k with
  | zero =>
    have:(l.take 1).Pairwise fun x y=>x.ver < y.ver:=asc_first Itm.ver hx
    simp [this]
  | succ k =>
    obtain ⟨y,hy⟩:∃ y,l[k]? = some y:=⟨_,List.getElem?_eq_getElem (by have:=lt_of_get hx; omega)⟩
    rw [asc_take Itm.ver hx (by omega) (by simpa using hy)]
    simp only [Nat.add_sub_cancel,hy,Option.some.injEq,Nat.zero_lt_succ,forall_const,forall_eq']
    constructor
    · rintro ⟨⟨a,b⟩,⟨c,d⟩,e,f⟩; exact ⟨⟨a,c,e⟩,b,d,f⟩
    · rintro ⟨⟨a,c,e⟩,b,d,f⟩; exact ⟨⟨a,b⟩,⟨c,d⟩,e,f⟩
def itemsR_a (l:(List Itm)) (last:Int):Prop:=okL [.sl 4 (l.map Itm.v) false,.int last]
def itemsR_n0 (l:(List Itm)) (last:Int) (t0:Int):NF:=⟨[(0,.k,.sl 4 (l.map Itm.v) false),(1,.k,.int last),(8,.k,.sl 4 (l.map Itm.v) false),(9,.k,.int ((l.map Itm.v).length:Int)),(10,.k,.int t0)],[]⟩
def itemsR_n1 (l:(List Itm)) (last:Int) (t0:Int) (x1:Itm) (t1:Bool):NF:=⟨[(0,.k,.sl 4 (l.map Itm.v) false),(1,.k,.int last),(5,.k,.int t0),(6,.k,.ref 0 0),(8,.k,.sl 4 (l.map Itm.v) false),(9,.k,.int ((l.map Itm.v).length:Int)),(10,.k,.int t0),(46,.k,.bool t1)],[.box (.agg [.int x1.ver,.int x1.grp,.int x1.mode,.sl 1 (x1.srcs.map AV.int) false])]⟩
def itemsR_n2 (l:(List Itm)) (last:Int) (t0:Int) (x1:Itm) (t1:Bool) (t2:Int):NF:=⟨[(0,.k,.sl 4 (l.map Itm.v) false),(1,.k,.int last),(5,.k,.int t0),(6,.k,.ref 0 0),(7,.k,.int t2),(8,.k,.sl 4 (l.map Itm.v) false),(9,.k,.int ((l.map Itm.v).length:Int)),(10,.k,.int t0)],[.box (.agg [.int x1.ver,.int x1.grp,.int x1.mode,.sl 1 (x1.srcs.map AV.int) false])]⟩
def itemsR_s:Nat → Type
  | 0=>Int
  | 1=>Bool
  | 2=>Int
  | _=>Unit
def itemsR_e (r:Bool):AV:=.bool r
def itemsR_vc (l:(List Itm)) (last:Int) (I0:Int → Prop) (m0:Int → Nat) (I1:Int → Itm → Bool → Prop) (I2:Int → Itm → Bool → Int → Prop) (m2:Int → Itm → Bool → Int → Nat) (r0:Bool):Prop:=
 Nf (itemsR_n0 l last (0)) [] (I0 (0)) ∧ ∀ t0:Int,I0 t0 →
 br (decide (t0 < ((l.map Itm.v).length:Int)))
 (Rf (l.map Itm.v) (ck (decide (0 ≤ t0)) (ck (decide (t0 < (l.length:Int)))
 (∀ x1,l[t0.toNat]? = some x1 →
 (Cl (inR_c x1.ver 1 last)
 (br (!(inR x1.ver 1 last))
 (Nf (itemsR_n1 l last t0 x1 (true)) [64] (I1 t0 x1 ((true):Bool)))
 (Cl (inR_c x1.grp 1 99)
 (br (!(inR x1.grp 1 99))
 (Nf (itemsR_n1 l last t0 x1 (true)) [64] (I1 t0 x1 ((true):Bool)))
 (Cl (FVal_c (⟨x1.mode,x1.srcs⟩:Flt))
 (br ((fltErr (⟨x1.mode,x1.srcs⟩:Flt).mode (⟨x1.mode,x1.srcs⟩:Flt).srcs) != 0)
 (Nf (itemsR_n1 l last t0 x1 (true)) [64] (I1 t0 x1 ((true):Bool)))
 (br (decide (0 < t0))
 (Rf (l.map Itm.v) (ck (decide (0 ≤ (W (t0 - 1)))) (ck (decide ((W (t0 - 1)) < (l.length:Int)))
 (∀ x2,l[(W (t0 - 1)).toNat]? = some x2 →
 Nf (itemsR_n1 l last t0 x1 (decide (x1.ver ≤ x2.ver))) [64] (I1 t0 x1 ((decide (x1.ver ≤ x2.ver)):Bool))))))
 (Nf (itemsR_n1 l last t0 x1 (false)) [64] (I1 t0 x1 ((false):Bool)))))))))) ∧ ∀ t1:Bool,I1 t0 x1 t1 →
 br t1
 (Rf (itemsR_e (false)) ((false) = r0))
 (Nf (itemsR_n2 l last t0 x1 t1 (0)) [0] (I2 t0 x1 t1 (0)) ∧ ∀ t2:Int,I2 t0 x1 t1 t2 →
 br (decide (t2 < t0))
 (Rf (l.map Itm.v) (ck (decide (0 ≤ t2)) (ck (decide (t2 < (l.length:Int)))
 (∀ x3,l[t2.toNat]? = some x3 →
 br (x3.grp == x1.grp)
 (Rf (itemsR_e (false)) ((false) = r0))
 (Nf (itemsR_n2 l last t0 x1 t1 (W (t2 + 1))) [0] (I2 t0 x1 t1 (W (t2 + 1)) ∧ m2 t0 x1 t1 (W (t2 + 1)) < m2 t0 x1 t1 t2))))))
 (Nf (itemsR_n0 l last (W (t0 + 1))) [] (I0 (W (t0 + 1)) ∧ m0 (W (t0 + 1)) < m0 t0)))))))
 (Rf (itemsR_e (true)) ((true) = r0))
theorem itemsR_eq (l:(List Itm)) (last:Int) (I0:Int → Prop) (m0:Int → Nat) (I1:Int → Itm → Bool → Prop) (I2:Int → Itm → Bool → Int → Prop) (m2:Int → Itm → Bool → Int → Nat) (r0:Bool):mxP Tryz.prog 39 [.sl 4 (l.map Itm.v) false,.int last] .k itemsR_e ((.loop 0 (itemsR_n0 l last) (I0) (m0) ((0):Int) [] fun (t0:Int) =>
 (.br 16 (.el 32 Itm.v l fun x1 =>
 (.pass (.join 1 (itemsR_n1 l last t0 x1) (fun t1=>I1 t0 x1 t1) (.callP (inR_c x1.ver 1 last)
 (.br 208 (.back 1 ((true):Bool) [64])
 (.callP (inR_c x1.grp 1 99)
 (.br 304 (.back 1 ((true):Bool) [64])
 (.callP (FVal_c (⟨x1.mode,x1.srcs⟩:Flt))
 (.br 400 (.back 1 ((true):Bool) [64])
 (.br 448 (.el 496 Itm.v l fun x2 =>
 (.back 1 ((decide (x1.ver ≤ x2.ver)):Bool) [64]))
 (.back 1 ((false):Bool) [64])))))))) fun (t1:Bool) =>
 (.br 1 (.ret (false))
 (.loop 2 (itemsR_n2 l last t0 x1 t1) (I2 t0 x1 t1) (m2 t0 x1 t1) ((0):Int) [0] fun (t2:Int) =>
 (.br 49 (.el 81 Itm.v l fun x3 =>
 (.br 177 (.ret (false))
 (.back 2 ((W (t2 + 1)):Int) [0])))
 (.back 0 ((W (t0 + 1)):Int) [])))))))
 (.ret (true)))):An Tryz.prog itemsR_s (Bool)) r0 = itemsR_vc l last I0 m0 I1 I2 m2 r0:=by kernel_rfl
theorem itemsR_ok (l:(List Itm)) (last:Int) (I0:Int → Prop) (m0:Int → Nat) (I1:Int → Itm → Bool → Prop) (I2:Int → Itm → Bool → Int → Prop) (m2:Int → Itm → Bool → Int → Nat) (r0:Bool) (h:itemsR_vc l last I0 m0 I1 I2 m2 r0):PSpec Tryz.prog 39 [.sl 4 (l.map Itm.v) false,.int last] (itemsR_e r0):=by
  have e:=itemsR_eq l last I0 m0 I1 I2 m2 r0
  rw [← e] at h
  exact mxP_ok (enc:=itemsR_e) h (AV.pureB_ok rfl)
theorem itemsR_p (l:List Itm) (last:Int) (ok:itemsR_a l last):∃ I0 m0 I1 I2 m2,itemsR_vc l last I0 m0 I1 I2 m2 (itemsB l last):=by
  simp only [itemsR_a,okU,Blk.ok,plainV,List.length_map] at ok
  refine ⟨fun t=>∃ k:Nat,t = k ∧ k ≤ l.length ∧ itmsOk last (l.take k),fun t=>l.length - t.toNat,
    fun t x b=>b = false ↔ itmOk last x ∧ (0 < t.toNat → ∀ y,l[t.toNat - 1]? = some y → y.ver < x.ver),
    fun t x b t2=>∃ j:Nat,t2 = j ∧ j ≤ t.toNat ∧ ∀ y ∈ l.take j,y.grp ≠ x.grp,fun t x b t2=>t.toNat - t2.toNat,?_⟩
  simp only [itemsR_vc,vcU,rfU,List.length_map]
  have hle:l.length ≤ 9223372036854775807:=ok.1.1
  refine ⟨⟨0,rfl,by omega,by simp [itmsOk]⟩,?_⟩
  rintro _ ⟨k,rfl,hk,hI⟩
  simp only [Int.toNat_natCast]
  refine ⟨fun h1=>⟨by omega,by omega,fun x hx=>⟨?_,?_⟩⟩,fun h1=>?_⟩
  · simp only [inR,Bool.not_eq_true',decide_eq_false_iff_not,Bool.not_eq_false',decide_eq_true_iff]
    have no:∀ {q:Prop},¬ q → ((itmOk last x → q) → (true = false ↔ itmOk last x ∧ (0 < k → ∀ y,l[k - 1]? = some y → y.ver < x.ver))):=fun hq hi=>⟨fun e=>Bool.noConfusion e,fun e=>absurd (hi e.1) hq⟩
    refine ⟨fun h2=>no h2 fun q=>q.1,fun h2=>⟨fun h3=>no h3 fun q=>q.2.1,fun h3=>⟨fun h4=>no (q:=fltErr x.mode x.srcs = 0) (by simpa using h4) fun q=>q.2.2,fun h4=>⟨fun h5=>?_,fun h5=>?_⟩⟩⟩⟩
    · rw [W_pred' (by omega)]
      have e:((k:Int) - 1).toNat = k - 1:=by omega
      rw [e]
      refine ⟨by omega,by omega,fun y hy=>?_⟩
      have h4:fltErr x.mode x.srcs = 0:=by simpa using h4
      constructor
      · intro q; exact ⟨⟨h2,h3,h4⟩,fun _ z hz=>by rw [hy] at hz; cases hz; omega⟩
      · rintro ⟨_,q⟩; have:=q (by omega) y hy; omega
    · exact ⟨fun _=>⟨⟨h2,h3,by simpa using h4⟩,fun q=>by omega⟩,fun _=>trivial⟩
  · intro b hb
    refine ⟨fun e=>(decide_eq_false fun q=>?_).symm,fun e=>⟨⟨0,rfl,by omega,by simp⟩,?_⟩⟩
    · subst e
      have:=(itmsOk_succ hx).mp (q.take (k + 1))
      exact Bool.noConfusion (hb.mpr ⟨this.2.1,this.2.2.2⟩)
    · obtain ⟨q1,q2⟩:=hb.mp e
      rintro _ ⟨j,rfl,hj,hg⟩
      simp only [Int.toNat_natCast]
      refine ⟨fun h3=>⟨by omega,by omega,fun y hy=>⟨fun e2=>?_,fun e2=>?_⟩⟩,fun h3=>?_⟩
      · refine (decide_eq_false fun q=>?_).symm
        have:=((itmsOk_succ hx).mp (q.take (k + 1))).2.2.1 y (by
          have:(l.take k)[j]? = some y:=by rw [List.getElem?_take,if_pos (by omega)]; exact hy
          exact List.mem_of_getElem? this)
        exact this (by simpa using e2)
      · rw [W_succ (n:=k) (by omega) (by omega)]
        exact ⟨⟨j + 1,rfl,by omega,(mem_take_succ hy).mpr ⟨hg,by simpa using e2⟩⟩,by omega⟩
      · have:j = k:=by omega
        subst this
        rw [W_succ (n:=l.length) (by omega) (by omega)]
        exact ⟨⟨j + 1,rfl,by omega,(itmsOk_succ hx).mpr ⟨hI,q1,hg,q2⟩⟩,by omega⟩
  · rw [List.take_of_length_le (by omega)] at hI
    exact (decide_eq_true hI).symm
def itemsR_c (l:(List Itm)) (last:Int):PC Tryz.prog:=⟨39,[(.s 4),.k],[.sl 4 (l.map Itm.v) false,.int last],itemsR_e (itemsB l last),PSpec.of_ok fun ok=>(itemsR_p l last ok).elim fun I0 h=>h.elim fun m0 h=>h.elim fun I1 h=>h.elim fun I2 h=>h.elim fun m2 h=>itemsR_ok l last I0 m0 I1 I2 m2 _ h,fnB_ok (by kernel_rfl)⟩
def putR_a (l:(List Itm)) (x:Itm):Prop:=okL [.sl 4 (l.map Itm.v) false,.agg [.int x.ver,.int x.grp,.int x.mode,.sl 1 (x.srcs.map AV.int) false]]
def putR_n0 (l:(List Itm)) (x:Itm) (t0:Int × (List Itm)):NF:=⟨[(3,.k,.ref 0 0),(5,.k,.vec 1),(8,.k,.sl 4 (l.map Itm.v) false),(9,.k,.int ((l.map Itm.v).length:Int)),(10,.k,.int t0.1)],[.box (.agg [.int x.ver,.int x.grp,.int x.mode,.sl 1 (x.srcs.map AV.int) false]),.vec 4 (t0.2.map Itm.v) (pureBL_map (fun _=>rfl) t0.2)]⟩
def putR_s:Nat → Type
  | 0=>Int × (List Itm)
  | _=>Unit
def putR_e (r:(List Itm)):AV:=.sl 4 (r.map Itm.v) false
def putR_vc (l:(List Itm)) (x:Itm) (I0:(Int × (List Itm)) → Prop) (m0:(Int × (List Itm)) → Nat) (r0:(List Itm)):Prop:=
 Nf (putR_n0 l x (0,[])) [0,96] (I0 (0,[])) ∧ ∀ t0:Int × (List Itm),I0 t0 →
 br (decide (t0.1 < ((l.map Itm.v).length:Int)))
 (Rf (l.map Itm.v) (ck (decide (0 ≤ t0.1)) (ck (decide (t0.1 < (l.length:Int)))
 (∀ x1,l[t0.1.toNat]? = some x1 →
 br (x1.grp != x.grp)
 (Rf (α:=List AV) (t0.2.map Itm.v) (Rf (α:=List AV) [.agg [.int x1.ver,.int x1.grp,.int x1.mode,.sl 1 (x1.srcs.map AV.int) false]]
 (ck (decide (t0.2.length + 1 ≤ 1000000))
 (Nf (putR_n0 l x (W (t0.1 + 1),t0.2 ++ [x1])) [0,210] (I0 (W (t0.1 + 1),t0.2 ++ [x1]) ∧ m0 (W (t0.1 + 1),t0.2 ++ [x1]) < m0 t0)))))
 (Nf (putR_n0 l x (W (t0.1 + 1),t0.2)) [0,1] (I0 (W (t0.1 + 1),t0.2) ∧ m0 (W (t0.1 + 1),t0.2) < m0 t0))))))
 (Rf (α:=List AV) (t0.2.map Itm.v) (Rf (α:=List AV) [.agg [.int x.ver,.int x.grp,.int x.mode,.sl 1 (x.srcs.map AV.int) false]]
 (ck (decide (t0.2.length + 1 ≤ 1000000))
 (Rf ((t0.2 ++ [x]).map Itm.v) (Rf (putR_e (t0.2 ++ [x])) ((t0.2 ++ [x]) = r0))))))
theorem putR_eq (l:(List Itm)) (x:Itm) (I0:(Int × (List Itm)) → Prop) (m0:(Int × (List Itm)) → Nat) (r0:(List Itm)):mxP Tryz.prog 55 [.sl 4 (l.map Itm.v) false,.agg [.int x.ver,.int x.grp,.int x.mode,.sl 1 (x.srcs.map AV.int) false]] (.s 4) putR_e ((.cmdL (.nilT 5 4) (.loop 0 (putR_n0 l x) (I0) (m0) ((0,[]):Int × (List Itm)) [0,96] fun (t0:Int × (List Itm)) =>
 (.br 18 (.el 18 Itm.v l fun x1 =>
 (.br 162 (.app 210 Itm.v t0.2 [x1]
 (.back 0 ((W (t0.1 + 1),t0.2 ++ [x1]):Int × (List Itm)) [0,210]))
 (.back 0 ((W (t0.1 + 1),t0.2):Int × (List Itm)) [0,1])))
 (.app 66 Itm.v t0.2 [x]
 (.cmdL (.frzE 66 ((t0.2 ++ [x]).map Itm.v) (pureBL_map (fun _=>rfl) (t0.2 ++ [x]))) (.ret (t0.2 ++ [x]))))))):An Tryz.prog putR_s ((List Itm))) r0 = putR_vc l x I0 m0 r0:=by kernel_rfl
theorem putR_ok (l:(List Itm)) (x:Itm) (I0:(Int × (List Itm)) → Prop) (m0:(Int × (List Itm)) → Nat) (r0:(List Itm)) (h:putR_vc l x I0 m0 r0):PSpec Tryz.prog 55 [.sl 4 (l.map Itm.v) false,.agg [.int x.ver,.int x.grp,.int x.mode,.sl 1 (x.srcs.map AV.int) false]] (putR_e r0):=by
  have e:=putR_eq l x I0 m0 r0
  rw [← e] at h
  exact mxP_ok (enc:=putR_e) h (AV.pureB_ok rfl)
theorem putR_p (l:List Itm) (x:Itm) (hl:l.length ≤ 999999) (ok:putR_a l x):∃ I m,putR_vc l x I m (put1 l x):=by
  refine ⟨fun t=>∃ k:Nat,t.1 = k ∧ k ≤ l.length ∧ t.2 = without x.grp (l.take k),fun t=>l.length - t.1.toNat,?_⟩
  simp only [putR_vc,vcU,rfU,List.length_map]
  refine ⟨⟨0,rfl,by omega,rfl⟩,?_⟩
  rintro ⟨_,_⟩ ⟨k,rfl,hk,rfl⟩
  simp only [Int.toNat_natCast]
  have hw:∀ k,(without x.grp (l.take k)).length ≤ l.length:=fun k=>by
    unfold without
    have:=List.length_filter_le (fun y:Itm=>decide (y.grp ≠ x.grp)) (l.take k)
    rw [List.length_take] at this; omega
  have hwk:=hw k
  refine ⟨fun h1=>⟨by omega,by omega,fun y hy=>?_⟩,fun h1=>⟨by omega,?_⟩⟩
  · rw [W_succ (n:=l.length) (by omega) (by omega)]
    have e:without x.grp (l.take (k + 1)) = if y.grp = x.grp then without x.grp (l.take k) else without x.grp (l.take k) ++ [y]:=by
      rw [take_succ hy]
      unfold without
      rw [List.filter_append]
      by_cases q:y.grp = x.grp <;> simp [q]
    refine ⟨fun q=>⟨by omega,⟨k + 1,rfl,by omega,?_⟩,by omega⟩,fun q=>⟨⟨k + 1,rfl,by omega,?_⟩,by omega⟩⟩
    · rw [e,if_neg (by simpa using q)]
    · rw [e,if_pos (by simpa using q)]
  · rw [List.take_of_length_le (by omega)]; rfl
def putR_c (l:(List Itm)) (x:Itm) (hl:l.length ≤ 999999):PC Tryz.prog:=⟨55,[(.s 4),(.a [.k,.k,.k,(.s 1)])],[.sl 4 (l.map Itm.v) false,.agg [.int x.ver,.int x.grp,.int x.mode,.sl 1 (x.srcs.map AV.int) false]],putR_e (put1 l x),PSpec.of_ok fun ok=>(putR_p l x hl ok).elim fun I0 h=>h.elim fun m0 h=>putR_ok l x I0 m0 _ h,fnB_ok (by kernel_rfl)⟩
def findI_a (l:(List Itm)) (group:Int):Prop:=okL [.sl 4 (l.map Itm.v) false,.int group]
def findI_n0 (l:(List Itm)) (group:Int) (t0:Int):NF:=⟨[(1,.k,.int group),(4,.k,.ref 0 0),(7,.k,.sl 4 (l.map Itm.v) false),(8,.k,.int ((l.map Itm.v).length:Int)),(9,.k,.int t0)],[.box (.agg [.int 0,.sl 0 [] true])]⟩
def findI_s:Nat → Type
  | 0=>Int
  | _=>Unit
def findI_e (r:Flt):AV:=Flt.v r
def findI_vc (l:(List Itm)) (group:Int) (I0:Int → Prop) (m0:Int → Nat) (r0:Flt):Prop:=
 Nf (findI_n0 l group (0)) [0] (I0 (0)) ∧ ∀ t0:Int,I0 t0 →
 br (decide (t0 < ((l.map Itm.v).length:Int)))
 (Rf (l.map Itm.v) (ck (decide (0 ≤ t0)) (ck (decide (t0 < (l.length:Int)))
 (∀ x1,l[t0.toNat]? = some x1 →
 br (x1.grp == group)
 (Rf (findI_e ((⟨x1.mode,x1.srcs⟩:Flt))) (((⟨x1.mode,x1.srcs⟩:Flt)) = r0))
 (Nf (findI_n0 l group (W (t0 + 1))) [0] (I0 (W (t0 + 1)) ∧ m0 (W (t0 + 1)) < m0 t0))))))
 (Cl (Nothing_c )
 (Rf (findI_e ((⟨1,[]⟩:Flt))) (((⟨1,[]⟩:Flt)) = r0)))
theorem findI_eq (l:(List Itm)) (group:Int) (I0:Int → Prop) (m0:Int → Nat) (r0:Flt):mxP Tryz.prog 46 [.sl 4 (l.map Itm.v) false,.int group] (.a [.k,(.s 1)]) findI_e ((.loop 0 (findI_n0 l group) (I0) (m0) ((0):Int) [0] fun (t0:Int) =>
 (.br 17 (.el 17 Itm.v l fun x1 =>
 (.br 145 (.ret ((⟨x1.mode,x1.srcs⟩:Flt)))
 (.back 0 ((W (t0 + 1)):Int) [0])))
 (.callP (Nothing_c )
 (.ret ((⟨1,[]⟩:Flt)))))):An Tryz.prog findI_s (Flt)) r0 = findI_vc l group I0 m0 r0:=by kernel_rfl
theorem findI_ok (l:(List Itm)) (group:Int) (I0:Int → Prop) (m0:Int → Nat) (r0:Flt) (h:findI_vc l group I0 m0 r0):PSpec Tryz.prog 46 [.sl 4 (l.map Itm.v) false,.int group] (findI_e r0):=by
  have e:=findI_eq l group I0 m0 r0
  rw [← e] at h
  exact mxP_ok (enc:=findI_e) h (AV.pureB_ok rfl)
theorem findI_p (l:List Itm) (g:Int) (ok:findI_a l g):∃ I m,findI_vc l g I m (⟨(told l g).1,(told l g).2⟩:Flt):=by
  simp only [findI_a,okU,Blk.ok,plainV,List.length_map] at ok
  refine ⟨fun t=>∃ k:Nat,t = k ∧ k ≤ l.length ∧ ∀ x ∈ l.take k,x.grp ≠ g,fun t=>l.length - t.toNat,?_⟩
  simp only [findI_vc,vcU,rfU,List.length_map]
  have hle:l.length ≤ 9223372036854775807:=ok.1.1
  refine ⟨⟨0,rfl,by omega,by simp⟩,?_⟩
  rintro _ ⟨k,rfl,hk,hI⟩
  simp only [Int.toNat_natCast]
  refine ⟨fun h1=>⟨by omega,by omega,fun x hx=>⟨fun e=>?_,fun e=>?_⟩⟩,fun h1=>?_⟩
  · have:told l g = (x.mode,x.srcs):=by
      unfold told
      have hf:l.find? (fun y=>decide (y.grp = g)) = some x:=by
        rw [List.find?_eq_some_iff_getElem]
        obtain ⟨hk',hxk⟩:=List.getElem?_eq_some_iff.mp hx
        refine ⟨by simpa using e,k,hk',hxk,fun j hj=>?_⟩
        have:=hI l[j] (List.mem_of_getElem? (i:=j) (by rw [List.getElem?_take,if_pos hj,List.getElem?_eq_getElem (by omega)]))
        simpa using this
      rw [hf]
    rw [this]
  · rw [W_succ (n:=l.length) (by omega) (by omega)]
    exact ⟨⟨k + 1,rfl,by omega,(mem_take_succ hx).mpr ⟨hI,by simpa using e⟩⟩,by omega⟩
  · rw [List.take_of_length_le (by omega)] at hI
    rw [told_no hI]
def findI_c (l:(List Itm)) (group:Int):PC Tryz.prog:=⟨46,[(.s 4),.k],[.sl 4 (l.map Itm.v) false,.int group],findI_e (⟨(told l group).1,(told l group).2⟩:Flt),PSpec.of_ok fun ok=>(findI_p l group ok).elim fun I0 h=>h.elim fun m0 h=>findI_ok l group I0 m0 _ h,fnB_ok (by kernel_rfl)⟩
end Go.Proofs.YtglfecmdoekabaaGreat

namespace Go.Proofs.YtglfecmdoekabaaGreat
open Go Go.Am
set_option linter.unusedVariables false
set_option linter.unusedSimpArgs false
theorem pw_succ {α:Type} (key:α → Int) {l:List α} {k:Nat} {x:α} (hx:l[k]? = some x) :
    (l.take (k + 1)).Pairwise (fun a b=>key a < key b) ↔ (l.take k).Pairwise (fun a b=>key a < key b) ∧ (0 < k → ∀ y,l[k - 1]? = some y → key y < key x):=by
  cases k with
  | zero=>simp only [asc_first key hx,List.take_zero,List.Pairwise.nil,true_and,true_iff]; intro h; omega
  | succ k =>
    obtain ⟨y,hy⟩:∃ y,l[k]? = some y:=⟨_,List.getElem?_eq_getElem (by have:=lt_of_get hx; omega)⟩
    rw [asc_take key hx (by omega) (by simpa using hy)]
    simp only [Nat.add_sub_cancel,hy,Option.some.injEq,Nat.zero_lt_succ,forall_const,forall_eq']
def spkA (s:Spk):Prop:=(1 ≤ s.router ∧ s.router ≤ 99) ∧ (1 ≤ s.epoch ∧ s.epoch ≤ 1000000) ∧ (0 ≤ s.last ∧ s.last ≤ 1000000) ∧ itmsOk s.last s.items ∧ s.peers.length ≤ 12
instance (s:Spk):Decidable (spkA s):=by unfold spkA; infer_instance
def spkK (s:Spk) (k:Nat):Prop:=spkA s ∧ (∀ p ∈ s.peers.take k,perOk s.router s.last p) ∧ (s.peers.take k).Pairwise fun x y=>x.router < y.router
instance (s:Spk) (k:Nat):Decidable (spkK s k):=by unfold spkK; infer_instance
theorem spkK_succ {s:Spk} {k:Nat} {x:Per} (hx:s.peers[k]? = some x):spkK s (k + 1) ↔ spkK s k ∧ perOk s.router s.last x ∧ (0 < k → ∀ y,s.peers[k - 1]? = some y → y.router < x.router):=by
  unfold spkK
  rw [mem_take_succ hx,pw_succ Per.router hx]
  constructor
  · rintro ⟨a,⟨b,c⟩,d,e⟩; exact ⟨⟨a,b,d⟩,c,e⟩
  · rintro ⟨⟨a,b,d⟩,c,e⟩; exact ⟨a,⟨b,c⟩,d,e⟩
theorem spkK_all {s:Spk}:spkK s s.peers.length ↔ spkOk s:=by
  unfold spkK spkA spkOk
  rw [List.take_length]
  constructor
  · rintro ⟨⟨a,b,c,d,e⟩,f,g⟩; exact ⟨a,b,c,d,e,f,g⟩
  · rintro ⟨a,b,c,d,e,f,g⟩; exact ⟨⟨a,b,c,d,e⟩,f,g⟩
def valR6_a (s:Spk):Prop:=okL [.agg [.int s.router,.int s.epoch,.int s.last,.sl 4 (s.items.map Itm.v) false,.sl 3 (s.peers.map Per.v) false]]
def valR6_n0 (s:Spk) (t0:Bool):NF:=⟨[(1,.k,.ref 0 0),(3,.k,.bool t0)],[.box (.agg [.int s.router,.int s.epoch,.int s.last,.sl 4 (s.items.map Itm.v) false,.sl 3 (s.peers.map Per.v) false])]⟩
def valR6_n1 (s:Spk) (t0:Bool) (t1:Bool × Int):NF:=⟨[(1,.k,.ref 0 0),(3,.k,.bool t1.1),(33,.k,.sl 3 (s.peers.map Per.v) false),(34,.k,.int ((s.peers.map Per.v).length:Int)),(35,.k,.int t1.2)],[.box (.agg [.int s.router,.int s.epoch,.int s.last,.sl 4 (s.items.map Itm.v) false,.sl 3 (s.peers.map Per.v) false])]⟩
def valR6_s:Nat → Type
  | 0=>Bool
  | 1=>Bool × Int
  | _=>Unit
def valR6_e (r:Int):AV:=.int r
def valR6_vc (s:Spk) (I0:Bool → Prop) (I1:Bool → (Bool × Int) → Prop) (m1:Bool → (Bool × Int) → Nat) (r0:Int):Prop:=
 (Cl (inR_c s.router 1 99)
 (br (inR s.router 1 99)
 (Cl (inR_c s.epoch 1 1000000)
 (br (inR s.epoch 1 1000000)
 (Cl (inR_c s.last 0 1000000)
 (br (inR s.last 0 1000000)
 (Cl (itemsR_c s.items s.last)
 (br (itemsB s.items s.last)
 (Nf (valR6_n0 s (decide (((s.peers.map Per.v).length:Int) ≤ 12))) [0] (I0 ((decide (((s.peers.map Per.v).length:Int) ≤ 12)):Bool)))
 (Nf (valR6_n0 s (false)) [0] (I0 ((false):Bool)))))
 (Nf (valR6_n0 s (false)) [0] (I0 ((false):Bool)))))
 (Nf (valR6_n0 s (false)) [0] (I0 ((false):Bool)))))
 (Nf (valR6_n0 s (false)) [0] (I0 ((false):Bool))))) ∧ ∀ t0:Bool,I0 t0 →
 Nf (valR6_n1 s t0 (t0,0)) [0] (I1 t0 (t0,0)) ∧ ∀ t1:Bool × Int,I1 t0 t1 →
 br (decide (t1.2 < ((s.peers.map Per.v).length:Int)))
 (Rf (s.peers.map Per.v) (ck (decide (0 ≤ t1.2)) (ck (decide (t1.2 < (s.peers.length:Int)))
 (∀ x1,s.peers[t1.2.toNat]? = some x1 →
 br t1.1
 (Cl (inR_c x1.router 1 99)
 (br (inR x1.router 1 99)
 (br (x1.router != s.router)
 (Cl (inR_c x1.epoch 0 1000000)
 (br (inR x1.epoch 0 1000000)
 (Cl (inR_c x1.acked 0 s.last)
 (br (inR x1.acked 0 s.last)
 (br (t1.2 == 0)
 (Nf (valR6_n1 s t0 (true,W (t1.2 + 1))) [0] (I1 t0 (true,W (t1.2 + 1)) ∧ m1 t0 (true,W (t1.2 + 1)) < m1 t0 t1))
 (Rf (s.peers.map Per.v) (ck (decide (0 ≤ (W (t1.2 - 1)))) (ck (decide ((W (t1.2 - 1)) < (s.peers.length:Int)))
 (∀ x2,s.peers[(W (t1.2 - 1)).toNat]? = some x2 →
 Nf (valR6_n1 s t0 (decide (x2.router < x1.router),W (t1.2 + 1))) [0] (I1 t0 (decide (x2.router < x1.router),W (t1.2 + 1)) ∧ m1 t0 (decide (x2.router < x1.router),W (t1.2 + 1)) < m1 t0 t1))))))
 (Nf (valR6_n1 s t0 (false,W (t1.2 + 1))) [0] (I1 t0 (false,W (t1.2 + 1)) ∧ m1 t0 (false,W (t1.2 + 1)) < m1 t0 t1))))
 (Nf (valR6_n1 s t0 (false,W (t1.2 + 1))) [0] (I1 t0 (false,W (t1.2 + 1)) ∧ m1 t0 (false,W (t1.2 + 1)) < m1 t0 t1))))
 (Nf (valR6_n1 s t0 (false,W (t1.2 + 1))) [0] (I1 t0 (false,W (t1.2 + 1)) ∧ m1 t0 (false,W (t1.2 + 1)) < m1 t0 t1)))
 (Nf (valR6_n1 s t0 (false,W (t1.2 + 1))) [0] (I1 t0 (false,W (t1.2 + 1)) ∧ m1 t0 (false,W (t1.2 + 1)) < m1 t0 t1))))
 (Nf (valR6_n1 s t0 (false,W (t1.2 + 1))) [0] (I1 t0 (false,W (t1.2 + 1)) ∧ m1 t0 (false,W (t1.2 + 1)) < m1 t0 t1))))))
 (br (!t1.1)
 (Rf (valR6_e (1)) ((1) = r0))
 (Rf (valR6_e (0)) ((0) = r0)))
theorem valR6_eq (s:Spk) (I0:Bool → Prop) (I1:Bool → (Bool × Int) → Prop) (m1:Bool → (Bool × Int) → Nat) (r0:Int):mxP Tryz.prog 10 [.agg [.int s.router,.int s.epoch,.int s.last,.sl 4 (s.items.map Itm.v) false,.sl 3 (s.peers.map Per.v) false]] .k valR6_e ((.pass (.join 0 (valR6_n0 s) (fun t0=>I0 t0) (.callP (inR_c s.router 1 99)
 (.br 96 (.callP (inR_c s.epoch 1 1000000)
 (.br 176 (.callP (inR_c s.last 0 1000000)
 (.br 256 (.callP (itemsR_c s.items s.last)
 (.br 368 (.back 0 ((decide (((s.peers.map Per.v).length:Int) ≤ 12)):Bool) [0])
 (.back 0 ((false):Bool) [0])))
 (.back 0 ((false):Bool) [0])))
 (.back 0 ((false):Bool) [0])))
 (.back 0 ((false):Bool) [0]))) fun (t0:Bool) =>
 (.loop 1 (valR6_n1 s t0) (I1 t0) (m1 t0) ((t0,0):Bool × Int) [0] fun (t1:Bool × Int) =>
 (.br 17 (.el 33 Per.v s.peers fun x1 =>
 (.br 145 (.callP (inR_c x1.router 1 99)
 (.br 225 (.br 337 (.callP (inR_c x1.epoch 0 1000000)
 (.br 417 (.callP (inR_c x1.acked 0 s.last)
 (.br 529 (.br 577 (.back 1 ((true,W (t1.2 + 1)):Bool × Int) [0])
 (.el 641 Per.v s.peers fun x2 =>
 (.back 1 ((decide (x2.router < x1.router),W (t1.2 + 1)):Bool × Int) [0])))
 (.back 1 ((false,W (t1.2 + 1)):Bool × Int) [0])))
 (.back 1 ((false,W (t1.2 + 1)):Bool × Int) [0])))
 (.back 1 ((false,W (t1.2 + 1)):Bool × Int) [0]))
 (.back 1 ((false,W (t1.2 + 1)):Bool × Int) [0])))
 (.back 1 ((false,W (t1.2 + 1)):Bool × Int) [0])))
 (.br 49 (.ret (1))
 (.ret (0))))))):An Tryz.prog valR6_s (Int)) r0 = valR6_vc s I0 I1 m1 r0:=by kernel_rfl
theorem valR6_ok (s:Spk) (I0:Bool → Prop) (I1:Bool → (Bool × Int) → Prop) (m1:Bool → (Bool × Int) → Nat) (r0:Int) (h:valR6_vc s I0 I1 m1 r0):PSpec Tryz.prog 10 [.agg [.int s.router,.int s.epoch,.int s.last,.sl 4 (s.items.map Itm.v) false,.sl 3 (s.peers.map Per.v) false]] (valR6_e r0):=by
  have e:=valR6_eq s I0 I1 m1 r0
  rw [← e] at h
  exact mxP_ok (enc:=valR6_e) h (AV.pureB_ok rfl)
theorem valR6_p (s:Spk) (ok:valR6_a s):∃ I0 I1 m1,valR6_vc s I0 I1 m1 (valS s):=by
  unfold valR6_a at ok
  refine ⟨fun b=>b = decide (spkA s),fun b t=>∃ k:Nat,t.2 = k ∧ k ≤ s.peers.length ∧ t.1 = decide (spkK s k),fun b t=>s.peers.length - t.2.toNat,?_⟩
  simp only [valR6_vc,vcU,rfU,List.length_map]
  have hle:s.peers.length ≤ 9223372036854775807:=by
    have h:=ok
    simp only [Spk.v,pers,AV.ok,okL,List.length_map,maxLen_eq] at h
    omega
  simp only [inR,itemsB,decide_eq_true_iff,decide_eq_false_iff_not]
  refine ⟨⟨fun h1=>⟨fun h2=>⟨fun h3=>⟨fun h4=>?_,fun h4=>?_⟩,fun h3=>?_⟩,fun h2=>?_⟩,fun h1=>?_⟩,?_⟩
  · exact decide_eq_decide.mpr ⟨fun q=>⟨h1,h2,h3,h4,by omega⟩,fun q=>by have:=q.2.2.2.2; omega⟩
  · exact (decide_eq_false fun q=>h4 q.2.2.2.1).symm
  · exact (decide_eq_false fun q=>h3 q.2.2.1).symm
  · exact (decide_eq_false fun q=>h2 q.2.1).symm
  · exact (decide_eq_false fun q=>h1 q.1).symm
  · rintro _ rfl
    refine ⟨⟨0,rfl,by omega,decide_eq_decide.mpr (by simp [spkK])⟩,?_⟩
    rintro ⟨_,_⟩ ⟨k,rfl,hk,rfl⟩
    simp only [Int.toNat_natCast]
    refine ⟨fun h1=>⟨by omega,by omega,fun x hx=>?_⟩,fun h1=>?_⟩
    · rw [W_succ (n:=s.peers.length) (by omega) (by omega)]
      have no:∀ {q:Prop},¬ q → (spkK s (k + 1) → q) → (∃ k_1:Nat,((k + 1:Nat):Int) = k_1 ∧ k_1 ≤ s.peers.length ∧ false = decide (spkK s k_1)) ∧ s.peers.length - ((k + 1:Nat):Int).toNat < s.peers.length - k:=fun hq hi =>
        ⟨⟨k + 1,rfl,by omega,(decide_eq_false fun q=>hq (hi q)).symm⟩,by omega⟩
      simp only [decide_eq_true_iff,decide_eq_false_iff_not]
      refine ⟨fun a0=>⟨fun a1=>⟨fun a2=>⟨fun a3=>⟨fun a4=>⟨fun a5=>?_,fun a5=>?_⟩,fun a4=>?_⟩,fun a3=>?_⟩,fun a2=>?_⟩,fun a1=>?_⟩,fun a0=>?_⟩
      · have e:k = 0:=by simpa using a5
        subst e
        refine ⟨⟨1,rfl,by omega,(decide_eq_true ((spkK_succ hx).mpr ⟨a0,⟨a1,by simpa using a2,a3,a4⟩,fun q=>by omega⟩)).symm⟩,by omega⟩
      · have e:0 < k:=by
          rcases Nat.eq_zero_or_pos k with q | q
          · subst q; simp at a5
          · exact q
        rw [W_pred' (by omega)]
        have e2:((k:Int) - 1).toNat = k - 1:=by omega
        rw [e2]
        refine ⟨by omega,by omega,fun y hy=>⟨⟨k + 1,rfl,by omega,decide_eq_decide.mpr ?_⟩,by omega⟩⟩
        rw [spkK_succ hx]
        exact ⟨fun q=>⟨a0,⟨a1,by simpa using a2,a3,a4⟩,fun _ z hz=>by rw [hy] at hz; cases hz; exact q⟩,fun q=>q.2.2 e y hy⟩
      · exact no a4 fun q=>((spkK_succ hx).mp q).2.1.2.2.2
      · exact no a3 fun q=>((spkK_succ hx).mp q).2.1.2.2.1
      · exact no (q:=x.router ≠ s.router) (by simpa using a2) fun q=>((spkK_succ hx).mp q).2.1.2.1
      · exact no a1 fun q=>((spkK_succ hx).mp q).2.1.1
      · exact no a0 fun q=>((spkK_succ hx).mp q).1
    · have e:k = s.peers.length:=by omega
      subst e
      have hv:valS s = if spkOk s then 0 else 1:=rfl
      rw [hv]
      by_cases q:spkOk s
      · have:=spkK_all.mpr q
        rw [if_pos q]; simp [this]
      · have:¬ spkK s s.peers.length:=fun w=>q (spkK_all.mp w)
        rw [if_neg q]; simp [this]
def valR6_c (s:Spk):PC Tryz.prog:=⟨10,[(.a [.k,.k,.k,(.s 4),(.s 3)])],[.agg [.int s.router,.int s.epoch,.int s.last,.sl 4 (s.items.map Itm.v) false,.sl 3 (s.peers.map Per.v) false]],valR6_e (valS s),PSpec.of_ok fun ok=>(valR6_p s ok).elim fun I0 h=>h.elim fun I1 h=>h.elim fun m1 h=>valR6_ok s I0 I1 m1 _ h,fnB_ok (by kernel_rfl)⟩
def newR_a (router:Int) (epoch:Int) (peers:(List Int)):Prop:=okL [.int router,.int epoch,.sl 1 (peers.map AV.int) false]
def newR_n0 (router:Int) (epoch:Int) (peers:(List Int)) (t0:Int × (List Per)):NF:=⟨[(6,.k,.ref 0 0),(8,.k,.ref 1 0),(19,.k,.sl 1 (peers.map AV.int) false),(20,.k,.int ((peers.map AV.int).length:Int)),(21,.k,.int t0.1)],[.box (.agg [.int 0,.int 0,.int 0,.sl 0 [] true,.sl 0 [] true]),.box (.agg [.int router,.int epoch,.int 0,.sl 0 [] true,.vec 2]),.vec 3 (t0.2.map Per.v) (pureBL_map (fun _=>rfl) t0.2)]⟩
def newR_s:Nat → Type
  | 0=>Int × (List Per)
  | _=>Unit
def newR_e (r:Spk × Int):AV:=.tup [Spk.v r.1,.int r.2]
def newR_vc (router:Int) (epoch:Int) (peers:(List Int)) (I0:(Int × (List Per)) → Prop) (m0:(Int × (List Per)) → Nat) (r0:Spk × Int):Prop:=
 br (decide (12 < ((peers.map AV.int).length:Int)))
 (Rf (newR_e ((⟨0,0,0,[],[]⟩:Spk),1)) (((⟨0,0,0,[],[]⟩:Spk),1) = r0))
 (Nf (newR_n0 router epoch peers (0,[])) [0,80,208] (I0 (0,[])) ∧ ∀ t0:Int × (List Per),I0 t0 →
 br (decide (t0.1 < ((peers.map AV.int).length:Int)))
 (Rf (peers.map AV.int) (ck (decide (0 ≤ t0.1)) (ck (decide (t0.1 < (peers.length:Int)))
 (∀ x1,peers[t0.1.toNat]? = some x1 →
 Rf (α:=List AV) (t0.2.map Per.v) (Rf (α:=List AV) [.agg [.int x1,.int 0,.int 0]]
 (ck (decide (t0.2.length + 1 ≤ 1000000))
 (Nf (newR_n0 router epoch peers (W (t0.1 + 1),t0.2 ++ [(⟨x1,0,0⟩:Per)])) [0,1,147] (I0 (W (t0.1 + 1),t0.2 ++ [(⟨x1,0,0⟩:Per)]) ∧ m0 (W (t0.1 + 1),t0.2 ++ [(⟨x1,0,0⟩:Per)]) < m0 t0))))))))
 (Cl (valR6_c (⟨router,epoch,0,[],t0.2⟩:Spk))
 (ck (pureBLs [(t0.2.map Per.v)])
 (br ((valS (⟨router,epoch,0,[],t0.2⟩:Spk)) != 0)
 (Rf (newR_e ((⟨0,0,0,[],[]⟩:Spk),valS (⟨router,epoch,0,[],t0.2⟩:Spk))) (((⟨0,0,0,[],[]⟩:Spk),valS (⟨router,epoch,0,[],t0.2⟩:Spk)) = r0))
 (Rf (t0.2.map Per.v) (Rf (newR_e ((⟨router,epoch,0,[],t0.2⟩:Spk),0)) (((⟨router,epoch,0,[],t0.2⟩:Spk),0) = r0)))))))
theorem newR_eq (router:Int) (epoch:Int) (peers:(List Int)) (I0:(Int × (List Per)) → Prop) (m0:(Int × (List Per)) → Nat) (r0:Spk × Int):mxP Tryz.prog 26 [.int router,.int epoch,.sl 1 (peers.map AV.int) false] (.a [(.a [.k,.k,.k,(.s 4),(.s 3)]),.k]) newR_e ((.br 160 (.ret ((⟨0,0,0,[],[]⟩:Spk),1))
 (.cmdL (.nilB 80 4 3) (.loop 0 (newR_n0 router epoch peers) (I0) (m0) ((0,[]):Int × (List Per)) [0,80,208] fun (t0:Int × (List Per)) =>
 (.br 19 (.el 19 AV.int peers fun x1 =>
 (.app 147 Per.v t0.2 [(⟨x1,0,0⟩:Per)]
 (.back 0 ((W (t0.1 + 1),t0.2 ++ [(⟨x1,0,0⟩:Per)]):Int × (List Per)) [0,1,147])))
 (.callP (valR6_c (⟨router,epoch,0,[],t0.2⟩:Spk))
 (.br 99 (.ret ((⟨0,0,0,[],[]⟩:Spk),valS (⟨router,epoch,0,[],t0.2⟩:Spk)))
 (.cmdL (.frzE 2 (t0.2.map Per.v) (pureBL_map (fun _=>rfl) t0.2)) (.ret ((⟨router,epoch,0,[],t0.2⟩:Spk),0))))))))):An Tryz.prog newR_s (Spk × Int)) r0 = newR_vc router epoch peers I0 m0 r0:=by kernel_rfl
theorem newR_ok (router:Int) (epoch:Int) (peers:(List Int)) (I0:(Int × (List Per)) → Prop) (m0:(Int × (List Per)) → Nat) (r0:Spk × Int) (h:newR_vc router epoch peers I0 m0 r0):PSpec Tryz.prog 26 [.int router,.int epoch,.sl 1 (peers.map AV.int) false] (newR_e r0):=by
  have e:=newR_eq router epoch peers I0 m0 r0
  rw [← e] at h
  exact mxP_ok (enc:=newR_e) h (AV.pureB_ok rfl)
theorem newR_p (r k:Int) (p:List Int) (ok:newR_a r k p):∃ I m,newR_vc r k p I m (new r k p):=by
  refine ⟨fun t=>∃ j:Nat,t.1 = j ∧ j ≤ p.length ∧ t.2 = (p.take j).map fun x=>⟨x,0,0⟩,fun t=>p.length - t.1.toNat,?_⟩
  simp only [newR_vc,vcU,rfU,List.length_map]
  have hn:new r k p = if spkOk ⟨r,k,0,[],p.map fun x=>⟨x,0,0⟩⟩ then (⟨r,k,0,[],p.map fun x=>⟨x,0,0⟩⟩,0) else (spk0,1):=rfl
  refine ⟨fun h=>?_,fun h=>⟨⟨0,rfl,by omega,rfl⟩,?_⟩⟩
  · rw [hn,if_neg]
    · rfl
    · intro q
      have:=q.2.2.2.2.1
      simp only [List.length_map] at this; omega
  · rintro ⟨_,_⟩ ⟨j,rfl,hj,rfl⟩
    simp only [Int.toNat_natCast]
    refine ⟨fun h1=>⟨by omega,by omega,fun x hx=>⟨by simp; omega,⟨j + 1,?_,by omega,?_⟩,?_⟩⟩,fun h1=>⟨pureBLs_one (pureBL_map (fun _=>rfl) _),?_⟩⟩
    · rw [W_succ (n:=p.length) (by omega) (by omega)]
    · rw [take_succ hx,List.map_append]; rfl
    · rw [W_succ (n:=p.length) (by omega) (by omega)]; omega
    · rw [List.take_of_length_le (by omega),hn]
      have hv:valS ⟨r,k,0,[],p.map fun x=>⟨x,0,0⟩⟩ = if spkOk ⟨r,k,0,[],p.map fun x=>⟨x,0,0⟩⟩ then 0 else 1:=rfl
      rw [hv]
      by_cases q:spkOk ⟨r,k,0,[],p.map fun x=>⟨x,0,0⟩⟩
      · rw [if_pos q,if_pos q]; simp
      · rw [if_neg q,if_neg q]; simp [spk0]
def newR_c (router:Int) (epoch:Int) (peers:(List Int)):PC Tryz.prog:=⟨26,[.k,.k,(.s 1)],[.int router,.int epoch,.sl 1 (peers.map AV.int) false],newR_e (new router epoch peers),PSpec.of_ok fun ok=>(newR_p router epoch peers ok).elim fun I0 h=>h.elim fun m0 h=>newR_ok router epoch peers I0 m0 _ h,fnB_ok (by kernel_rfl)⟩
def restartR_a (s:Spk) (wants:(List Wnt)):Prop:=okL [.agg [.int s.router,.int s.epoch,.int s.last,.sl 4 (s.items.map Itm.v) false,.sl 3 (s.peers.map Per.v) false],.sl 3 (wants.map Wnt.v) false]
def restartR_n0 (s:Spk) (wants:(List Wnt)) (t0:Int × (List Itm)):NF:=⟨[(2,.k,.ref 0 0),(4,.k,.ref 1 0),(8,.k,.ref 2 0),(37,.k,.sl 3 (wants.map Wnt.v) false),(38,.k,.int ((wants.map Wnt.v).length:Int)),(39,.k,.int t0.1)],[.box (.agg [.int s.router,.int s.epoch,.int s.last,.sl 4 (s.items.map Itm.v) false,.sl 3 (s.peers.map Per.v) false]),.box (.agg [.int 0,.int 0,.int 0,.sl 0 [] true,.sl 0 [] true]),.box (.agg [.int s.router,.int (W (s.epoch + 1)),.int ((wants.map Wnt.v).length:Int),.vec 3,.sl 0 [] true]),.vec 4 (t0.2.map Itm.v) (pureBL_map (fun _=>rfl) t0.2)]⟩
def restartR_n1 (s:Spk) (wants:(List Wnt)) (t0:Int × (List Itm)) (t1:Int × (List Per)):NF:=⟨[(4,.k,.ref 0 0),(8,.k,.ref 1 0),(58,.k,.sl 3 (s.peers.map Per.v) false),(59,.k,.int ((s.peers.map Per.v).length:Int)),(60,.k,.int t1.1)],[.box (.agg [.int 0,.int 0,.int 0,.sl 0 [] true,.sl 0 [] true]),.box (.agg [.int s.router,.int (W (s.epoch + 1)),.int ((wants.map Wnt.v).length:Int),.vec 2,.vec 3]),.vec 4 (t0.2.map Itm.v) (pureBL_map (fun _=>rfl) t0.2),.vec 3 (t1.2.map Per.v) (pureBL_map (fun _=>rfl) t1.2)]⟩
def restartR_s:Nat → Type
  | 0=>Int × (List Itm)
  | 1=>Int × (List Per)
  | _=>Unit
def restartR_e (r:Spk × Int):AV:=.tup [Spk.v r.1,.int r.2]
def restartR_vc (s:Spk) (wants:(List Wnt)) (I0:(Int × (List Itm)) → Prop) (m0:(Int × (List Itm)) → Nat) (I1:Int × (List Itm) → (Int × (List Per)) → Prop) (m1:Int × (List Itm) → (Int × (List Per)) → Nat) (r0:Spk × Int):Prop:=
 Cl (valR6_c s)
 (br ((valS s) != 0)
 (Rf (restartR_e ((⟨0,0,0,[],[]⟩:Spk),valS s)) (((⟨0,0,0,[],[]⟩:Spk),valS s) = r0))
 (Cl (valR_c wants)
 (br ((wErr false wants) != 0)
 (Rf (restartR_e ((⟨0,0,0,[],[]⟩:Spk),wErr false wants)) (((⟨0,0,0,[],[]⟩:Spk),wErr false wants) = r0))
 (br (decide (1000000 ≤ s.epoch))
 (Rf (restartR_e ((⟨0,0,0,[],[]⟩:Spk),3)) (((⟨0,0,0,[],[]⟩:Spk),3) = r0))
 (Nf (restartR_n0 s wants (0,[])) [0,16,384,464] (I0 (0,[])) ∧ ∀ t0:Int × (List Itm),I0 t0 →
 br (decide (t0.1 < ((wants.map Wnt.v).length:Int)))
 (Rf (wants.map Wnt.v) (ck (decide (0 ≤ t0.1)) (ck (decide (t0.1 < (wants.length:Int)))
 (∀ x1,wants[t0.1.toNat]? = some x1 →
 Rf (α:=List AV) (t0.2.map Itm.v) (Rf (α:=List AV) [.agg [.int (W (t0.1 + 1)),.int x1.grp,.int x1.mode,.sl 1 (x1.srcs.map AV.int) false]]
 (ck (decide (t0.2.length + 1 ≤ 1000000))
 (Nf (restartR_n0 s wants (W (t0.1 + 1),t0.2 ++ [(⟨W (t0.1 + 1),x1.grp,x1.mode,x1.srcs⟩:Itm)])) [0,1,2,276] (I0 (W (t0.1 + 1),t0.2 ++ [(⟨W (t0.1 + 1),x1.grp,x1.mode,x1.srcs⟩:Itm)]) ∧ m0 (W (t0.1 + 1),t0.2 ++ [(⟨W (t0.1 + 1),x1.grp,x1.mode,x1.srcs⟩:Itm)]) < m0 t0))))))))
 (Nf (restartR_n1 s wants t0 (0,[])) [1,2,3,84] (I1 t0 (0,[])) ∧ ∀ t1:Int × (List Per),I1 t0 t1 →
 br (decide (t1.1 < ((s.peers.map Per.v).length:Int)))
 (Rf (s.peers.map Per.v) (ck (decide (0 ≤ t1.1)) (ck (decide (t1.1 < (s.peers.length:Int)))
 (∀ x2,s.peers[t1.1.toNat]? = some x2 →
 Rf (α:=List AV) (t1.2.map Per.v) (Rf (α:=List AV) [.agg [.int x2.router,.int 0,.int 0]]
 (ck (decide (t1.2.length + 1 ≤ 1000000))
 (Nf (restartR_n1 s wants t0 (W (t1.1 + 1),t1.2 ++ [(⟨x2.router,0,0⟩:Per)])) [0,1,2,180] (I1 t0 (W (t1.1 + 1),t1.2 ++ [(⟨x2.router,0,0⟩:Per)]) ∧ m1 t0 (W (t1.1 + 1),t1.2 ++ [(⟨x2.router,0,0⟩:Per)]) < m1 t0 t1))))))))
 (Rf (t1.2.map Per.v) (Rf (t0.2.map Itm.v) (Rf (restartR_e ((⟨s.router,W (s.epoch + 1),((wants.map Wnt.v).length:Int),t0.2,t1.2⟩:Spk),0)) (((⟨s.router,W (s.epoch + 1),((wants.map Wnt.v).length:Int),t0.2,t1.2⟩:Spk),0) = r0))))))))))
theorem restartR_eq (s:Spk) (wants:(List Wnt)) (I0:(Int × (List Itm)) → Prop) (m0:(Int × (List Itm)) → Nat) (I1:Int × (List Itm) → (Int × (List Per)) → Prop) (m1:Int × (List Itm) → (Int × (List Per)) → Nat) (r0:Spk × Int):mxP Tryz.prog 19 [.agg [.int s.router,.int s.epoch,.int s.last,.sl 4 (s.items.map Itm.v) false,.sl 3 (s.peers.map Per.v) false],.sl 3 (wants.map Wnt.v) false] (.a [(.a [.k,.k,.k,(.s 4),(.s 3)]),.k]) restartR_e ((.callP (valR6_c s)
 (.br 128 (.ret ((⟨0,0,0,[],[]⟩:Spk),valS s))
 (.callP (valR_c wants)
 (.br 208 (.ret ((⟨0,0,0,[],[]⟩:Spk),wErr false wants))
 (.br 256 (.ret ((⟨0,0,0,[],[]⟩:Spk),3))
 (.cmdL (.nilB 384 3 4) (.loop 0 (restartR_n0 s wants) (I0) (m0) ((0,[]):Int × (List Itm)) [0,16,384,464] fun (t0:Int × (List Itm)) =>
 (.br 20 (.el 36 Wnt.v wants fun x1 =>
 (.app 276 Itm.v t0.2 [(⟨W (t0.1 + 1),x1.grp,x1.mode,x1.srcs⟩:Itm)]
 (.back 0 ((W (t0.1 + 1),t0.2 ++ [(⟨W (t0.1 + 1),x1.grp,x1.mode,x1.srcs⟩:Itm)]):Int × (List Itm)) [0,1,2,276])))
 (.cmdL (.nilB 2 4 3) (.loop 1 (restartR_n1 s wants t0) (I1 t0) (m1 t0) ((0,[]):Int × (List Per)) [1,2,3,84] fun (t1:Int × (List Per)) =>
 (.br 20 (.el 20 Per.v s.peers fun x2 =>
 (.app 180 Per.v t1.2 [(⟨x2.router,0,0⟩:Per)]
 (.back 1 ((W (t1.1 + 1),t1.2 ++ [(⟨x2.router,0,0⟩:Per)]):Int × (List Per)) [0,1,2,180])))
 (.cmdL (.frzE 3 (t1.2.map Per.v) (pureBL_map (fun _=>rfl) t1.2)) (.cmdL (.frzE 2 (t0.2.map Itm.v) (pureBL_map (fun _=>rfl) t0.2)) (.ret ((⟨s.router,W (s.epoch + 1),((wants.map Wnt.v).length:Int),t0.2,t1.2⟩:Spk),0))))))))))))))):An Tryz.prog restartR_s (Spk × Int)) r0 = restartR_vc s wants I0 m0 I1 m1 r0:=by kernel_rfl
theorem restartR_ok (s:Spk) (wants:(List Wnt)) (I0:(Int × (List Itm)) → Prop) (m0:(Int × (List Itm)) → Nat) (I1:Int × (List Itm) → (Int × (List Per)) → Prop) (m1:Int × (List Itm) → (Int × (List Per)) → Nat) (r0:Spk × Int) (h:restartR_vc s wants I0 m0 I1 m1 r0):PSpec Tryz.prog 19 [.agg [.int s.router,.int s.epoch,.int s.last,.sl 4 (s.items.map Itm.v) false,.sl 3 (s.peers.map Per.v) false],.sl 3 (wants.map Wnt.v) false] (restartR_e r0):=by
  have e:=restartR_eq s wants I0 m0 I1 m1 r0
  rw [← e] at h
  exact mxP_ok (enc:=restartR_e) h (AV.pureB_ok rfl)
theorem restartR_p (s:Spk) (w:List Wnt) (ok:restartR_a s w):∃ I0 m0 I1 m1,restartR_vc s w I0 m0 I1 m1 (restart s w):=by
  refine ⟨fun t=>∃ j:Nat,t.1 = j ∧ j ≤ w.length ∧ t.2 = (w.mapIdx wItm).take j,fun t=>w.length - t.1.toNat,
    fun t0 t=>∃ j:Nat,t.1 = j ∧ j ≤ s.peers.length ∧ t.2 = (s.peers.take j).map fun p=>⟨p.router,0,0⟩,fun t0 t=>s.peers.length - t.1.toNat,?_⟩
  simp only [restartR_vc,vcU,rfU,List.length_map]
  have hv:valS s = if spkOk s then 0 else 1:=rfl
  rw [hv]
  unfold restart
  by_cases h1:spkOk s
  case neg=>rw [if_neg h1,if_pos h1]; simp [spk0]
  rw [if_pos h1,if_neg (not_not_intro h1)]
  refine ⟨fun q=>by simp at q,fun _=>⟨fun h2=>?_,fun h2=>?_⟩⟩
  · have h2:wErr false w ≠ 0:=by simpa using h2
    rw [if_pos h2]; rfl
  have h2:wErr false w = 0:=by simpa using h2
  rw [if_neg (not_not_intro h2)]
  have he:=h1.2.1
  refine ⟨fun h3=>?_,fun h3=>⟨⟨0,rfl,by omega,by simp⟩,?_⟩⟩
  · rw [if_pos (by omega)]; rfl
  rw [if_neg (by omega)]
  obtain ⟨w1,_⟩:=wErr_zero.mp h2
  rintro ⟨_,_⟩ ⟨j,rfl,hj,rfl⟩
  simp only [Int.toNat_natCast]
  refine ⟨fun h4=>⟨by omega,by omega,fun x hx=>?_⟩,fun h4=>⟨⟨0,rfl,by omega,rfl⟩,?_⟩⟩
  · rw [W_succ (n:=w.length) (by omega) (by omega)]
    refine ⟨by simp; omega,⟨j + 1,rfl,by omega,?_⟩,by omega⟩
    have:(w.mapIdx wItm)[j]? = some (wItm j x):=by rw [List.getElem?_mapIdx,hx]; rfl
    rw [take_succ this]
    rfl
  · rintro ⟨_,_⟩ ⟨i,rfl,hi,rfl⟩
    have hp:=h1.2.2.2.2.1
    simp only [Int.toNat_natCast]
    refine ⟨fun h5=>⟨by omega,by omega,fun x hx=>?_⟩,fun h5=>?_⟩
    · rw [W_succ (n:=s.peers.length) (by omega) (by omega)]
      refine ⟨by simp; omega,⟨i + 1,rfl,by omega,?_⟩,by omega⟩
      rw [take_succ hx,List.map_append]; rfl
    · rw [List.take_of_length_le (by simp; omega),List.take_of_length_le (l:=s.peers) (by omega),W_eq (by omega)]
def restartR_c (s:Spk) (wants:(List Wnt)):PC Tryz.prog:=⟨19,[(.a [.k,.k,.k,(.s 4),(.s 3)]),(.s 3)],[.agg [.int s.router,.int s.epoch,.int s.last,.sl 4 (s.items.map Itm.v) false,.sl 3 (s.peers.map Per.v) false],.sl 3 (wants.map Wnt.v) false],restartR_e (restart s wants),PSpec.of_ok fun ok=>(restartR_p s wants ok).elim fun I0 h=>h.elim fun m0 h=>h.elim fun I1 h=>h.elim fun m1 h=>restartR_ok s wants I0 m0 I1 m1 _ h,fnB_ok (by kernel_rfl)⟩
end Go.Proofs.YtglfecmdoekabaaGreat

namespace Go.Proofs.YtglfecmdoekabaaGreat
open Go Go.Am
set_option linter.unusedVariables false
set_option linter.unusedSimpArgs false
section
variable {α : Type} (key : α → Int)
def posK (l:List α) (r:Int):Nat:=l.findIdx fun p=>!decide (key p < r)
variable {key}
theorem posK_lt {l:List α} {r:Int} {i:Nat} (h:i < posK key l r) (hi:i < l.length):key l[i] < r:=by
  have:=List.not_of_lt_findIdx h
  simpa using this
theorem posK_ge {l:List α} {r:Int} (ho:l.Pairwise fun x y=>key x < key y) {i:Nat} (hi:i < l.length) (h:posK key l r ≤ i):r ≤ key l[i]:=by
  have hp:posK key l r < l.length:=by omega
  have h1:r ≤ key l[posK key l r]:=by
    have:(!decide (key l[posK key l r] < r)) = true:=List.findIdx_getElem (w:=hp)
    simpa using this
  rcases Nat.eq_or_lt_of_le h with e | e
  · simp only [e] at h1; exact h1
  · have:=List.pairwise_iff_getElem.mp ho _ _ hp hi e
    omega
theorem posK_eq {l:List α} {r:Int} (ho:l.Pairwise fun x y=>key x < key y) {i:Nat} (hi:i < l.length) (h:key l[i] = r):posK key l r = i:=by
  rcases Nat.lt_trichotomy (posK key l r) i with e | e | e
  · have h1:=posK_ge ho (r:=r) (i:=posK key l r) (by omega) (Nat.le_refl _)
    have:=List.pairwise_iff_getElem.mp ho _ _ (by omega) hi e
    omega
  · exact e
  · have:=posK_lt e hi; omega
theorem hitK_iff {l:List α} {r:Int} {d:α} (ho:l.Pairwise fun x y=>key x < key y):(posK key l r < l.length ∧ key (l.getD (posK key l r) d) = r) ↔ ∃ z ∈ l,key z = r:=by
  constructor
  · rintro ⟨h1,h2⟩
    rw [List.getD_eq_getElem?_getD,List.getElem?_eq_getElem h1] at h2
    exact ⟨_,List.getElem_mem h1,h2⟩
  · rintro ⟨z,hz,rfl⟩
    obtain ⟨i,hi,rfl⟩:=List.getElem_of_mem hz
    rw [posK_eq ho hi rfl]
    exact ⟨hi,by rw [List.getD_eq_getElem?_getD,List.getElem?_eq_getElem hi]; rfl⟩
end
def gOf (l:List Hrd) (r:Int):Hrd:=(base l r).getD (posH l r) hrd0
def pOf (l:List Per) (r:Int):Per:=l.getD (posP l r) ⟨0,0,0⟩
theorem hitP_iff {l:List Per} {r:Int} (ho:l.Pairwise fun x y=>x.router < y.router):hitP l r ↔ ∃ z ∈ l,z.router = r:=hitK_iff (key:=Per.router) ho
end Go.Proofs.YtglfecmdoekabaaGreat

namespace Go.Proofs.YtglfecmdoekabaaGreat
open Go Go.Am
set_option linter.unusedVariables false
set_option linter.unusedSimpArgs false
def LastOk (n:Int) (l:List Itm):Prop:=(l = [] → n = 0) ∧ ∀ x,l.getLast? = some x → x.ver = n
theorem LastOk.nil:LastOk 0 []:=⟨fun _=>rfl,fun x h=>by simp at h⟩
theorem LastOk.put {n:Int} {l:List Itm} {x:Itm} (h:x.ver = n):LastOk n (put1 l x):=by
  unfold put1
  exact ⟨fun e=>by simp at e,fun y hy=>by simp at hy; rw [← hy]; exact h⟩
theorem LastOk.restart (w:List Wnt):LastOk w.length (w.mapIdx wItm):=by
  refine ⟨fun e=>by have:=congrArg List.length e; simp at this; simp [this],fun x hx=>?_⟩
  rw [List.getLast?_eq_getElem?] at hx
  rw [List.length_mapIdx,List.getElem?_mapIdx] at hx
  cases e:w[w.length - 1]? with
  | none=>rw [e] at hx; simp at hx
  | some y =>
    rw [e] at hx
    simp at hx
    have:=(List.getElem?_eq_some_iff.mp e).1
    rw [← hx]
    simp only [wItm]; omega
theorem LastOk.all {n v:Int} {l:List Itm} (h:LastOk n l) (h0:0 ≤ v) (hv:∀ x ∈ l,x.ver ≤ v):n ≤ v:=by
  cases e:l.getLast? with
  | none=>rw [List.getLast?_eq_none_iff] at e; rw [h.1 e]; exact h0
  | some x =>
    have:=h.2 x e
    have:=hv x (List.mem_of_getLast? e)
    omega
structure TellOk (e n:Int) (it:List Itm) (x:Sig):Prop where
  ep:x.epoch ≤ e
  upd:x.kind = 2 → x.epoch = e → UpdOk n it x
structure AckOk (e le:Int) (g:Hrd) (x:Sig):Prop where
  ep:x.epoch ≤ e
  pe:x.pep ≤ le
  now:x.pep = le → x.epoch = e → g.epoch = e ∧ x.ver ≤ g.ver
structure PI (e n:Int) (it:List Itm) (p:Per) (le:Int) (g:Hrd):Prop where
  e1:1 ≤ e
  n0:0 ≤ n
  io:itmsOk n it
  last:LastOk n it
  p1:p.epoch ≤ le
  p2:0 ≤ p.acked
  p3:p.epoch = le → p.acked = 0 ∨ (g.epoch = e ∧ p.acked ≤ g.ver)
  g1:0 ≤ g.epoch ∧ g.epoch ≤ e
  g2:0 ≤ g.ver
  g3:itmsOk g.ver g.items
  g4:g.epoch = e → HrdOk n it g
section
variable {e n : Int} {it : List Itm} {p : Per} {le : Int} {g : Hrd} {x : Sig}
theorem PI.restart (h:PI e n it p le g) {m:Int} {k:List Itm} (h0:0 ≤ m) (hk:itmsOk m k) (hl:LastOk m k) (q:Int) (hle:0 ≤ le):PI (e + 1) m k ⟨q,0,0⟩ le g:=
  { e1:=by have:=h.e1; omega,n0:=h0,io:=hk,last:=hl,p1:=hle,p2:=by simp,p3:=fun _=>.inl rfl,g1:=by have:=h.g1; omega,g2:=h.g2,g3:=h.g3,g4:=fun q=>by have:=h.g1; omega }
theorem TellOk.restart (h:TellOk e n it x) {m:Int} {k:List Itm}:TellOk (e + 1) m k x:=⟨by have:=h.ep; omega,fun _ q=>by have:=h.ep; omega⟩
theorem AckOk.restart (h:AckOk e le g x):AckOk (e + 1) le g x:=⟨by have:=h.ep; omega,h.pe,fun _ q=>by have:=h.ep; omega⟩
end
end Go.Proofs.YtglfecmdoekabaaGreat

namespace Go.Proofs.YtglfecmdoekabaaGreat
open Go Go.Am
set_option linter.unusedVariables false
set_option linter.unusedSimpArgs false
structure SI (s:Spk × Lsn):Prop where
  aok:spkOk s.1
  ar:s.1.router = 1
  ap:s.1.peers.map Per.router = [2]
  lok:lsnOk s.2
  lr:s.2.router = 2
  lh:∀ h ∈ s.2.heard,h.router = 1
  pi:PI s.1.epoch s.1.last s.1.items (pOf s.1.peers 2) s.2.epoch (gOf s.2.heard 1)
theorem SI.hp {s:Spk × Lsn} (h:SI s):∃ z ∈ s.1.peers,z.router = 2:=by
  have:(2:Int) ∈ s.1.peers.map Per.router:=by rw [h.ap]; simp
  obtain ⟨z,hz,e⟩:=List.mem_map.mp this
  exact ⟨z,hz,e⟩
end Go.Proofs.YtglfecmdoekabaaGreat

namespace Go.Proofs.YtglfecmdoekabaaGreat
open Go Go.Am
set_option linter.unusedVariables false
set_option linter.unusedSimpArgs false
structure Inv2 (k:Nat) (a:Spk) (l:Lsn) (air:List Sig):Prop where
  inv:Inv k a l air
  pi:PI a.epoch a.last a.items (pOf a.peers 2) l.epoch (gOf l.heard 1)
  acks:∀ x ∈ air,x.kind = 3 → AckOk a.epoch l.epoch (gOf l.heard 1) x
theorem Inv2.sub {k:Nat} {a:Spk} {l:Lsn} {air air':List Sig} (h:Inv2 k a l air) (h1:∀ x ∈ air',x ∈ air) (h2:air'.length ≤ air.length):Inv2 k a l air':=
  ⟨h.inv.sub h1 h2,h.pi,fun x hx=>h.acks x (h1 x hx)⟩
end Go.Proofs.YtglfecmdoekabaaGreat

namespace Go.Proofs.YtglfecmdoekabaaGreat
open Go Go.Am
set_option linter.unusedVariables false
set_option linter.unusedSimpArgs false
def sameW_a (a:(List Wnt)) (b:(List Wnt)):Prop:=okL [.sl 3 (a.map Wnt.v) false,.sl 3 (b.map Wnt.v) false]
def sameW_n0 (a:(List Wnt)) (b:(List Wnt)) (t0:Int):NF:=⟨[(0,.k,.sl 3 (a.map Wnt.v) false),(1,.k,.sl 3 (b.map Wnt.v) false),(5,.k,.int t0)],[]⟩
def sameW_s:Nat → Type
  | 0=>Int
  | _=>Unit
def sameW_e (r:Bool):AV:=.bool r
def sameW_vc (a:(List Wnt)) (b:(List Wnt)) (I0:Int → Prop) (m0:Int → Nat) (r0:Bool):Prop:=
 br (((a.map Wnt.v).length:Int) != ((b.map Wnt.v).length:Int))
 (Rf (sameW_e (false)) ((false) = r0))
 (Nf (sameW_n0 a b (0)) [] (I0 (0)) ∧ ∀ t0:Int,I0 t0 →
 br (decide (t0 < ((a.map Wnt.v).length:Int)))
 (Rf (a.map Wnt.v) (ck (decide (0 ≤ t0)) (ck (decide (t0 < (a.length:Int)))
 (∀ x1,a[t0.toNat]? = some x1 →
 Rf (b.map Wnt.v) (ck (decide (0 ≤ t0)) (ck (decide (t0 < (b.length:Int)))
 (∀ x2,b[t0.toNat]? = some x2 →
 br (x1.grp != x2.grp)
 (Rf (sameW_e (false)) ((false) = r0))
 (Rf (a.map Wnt.v) (ck (decide (0 ≤ t0)) (ck (decide (t0 < (a.length:Int)))
 (∀ x3,a[t0.toNat]? = some x3 →
 Rf (b.map Wnt.v) (ck (decide (0 ≤ t0)) (ck (decide (t0 < (b.length:Int)))
 (∀ x4,b[t0.toNat]? = some x4 →
 Cl (FSame_c (⟨x3.mode,x3.srcs⟩:Flt) (⟨x4.mode,x4.srcs⟩:Flt))
 (br (!(FSame (⟨x3.mode,x3.srcs⟩:Flt) (⟨x4.mode,x4.srcs⟩:Flt)))
 (Rf (sameW_e (false)) ((false) = r0))
 (Nf (sameW_n0 a b (W (t0 + 1))) [] (I0 (W (t0 + 1)) ∧ m0 (W (t0 + 1)) < m0 t0)))))))))))))))))
 (Rf (sameW_e (true)) ((true) = r0)))
theorem sameW_eq (a:(List Wnt)) (b:(List Wnt)) (I0:Int → Prop) (m0:Int → Nat) (r0:Bool):mxP Tryz.prog 11 [.sl 3 (a.map Wnt.v) false,.sl 3 (b.map Wnt.v) false] .k sameW_e ((.br 96 (.ret (false))
 (.loop 0 (sameW_n0 a b) (I0) (m0) ((0):Int) [] fun (t0:Int) =>
 (.br 64 (.el 96 Wnt.v a fun x1 =>
 (.el 176 Wnt.v b fun x2 =>
 (.br 256 (.ret (false))
 (.el 288 Wnt.v a fun x3 =>
 (.el 368 Wnt.v b fun x4 =>
 (.callP (FSame_c (⟨x3.mode,x3.srcs⟩:Flt) (⟨x4.mode,x4.srcs⟩:Flt))
 (.br 464 (.ret (false))
 (.back 0 ((W (t0 + 1)):Int) []))))))))
 (.ret (true))))):An Tryz.prog sameW_s (Bool)) r0 = sameW_vc a b I0 m0 r0:=by kernel_rfl
theorem sameW_ok (a:(List Wnt)) (b:(List Wnt)) (I0:Int → Prop) (m0:Int → Nat) (r0:Bool) (h:sameW_vc a b I0 m0 r0):PSpec Tryz.prog 11 [.sl 3 (a.map Wnt.v) false,.sl 3 (b.map Wnt.v) false] (sameW_e r0):=by
  have e:=sameW_eq a b I0 m0 r0
  rw [← e] at h
  exact mxP_ok (enc:=sameW_e) h (AV.pureB_ok rfl)
theorem Wnt.eq_iff {x y:Wnt}:x = y ↔ x.grp = y.grp ∧ x.mode = y.mode ∧ x.srcs = y.srcs:=by cases x; cases y; simp
theorem sameW_p (a b:List Wnt) (ok:sameW_a a b):∃ I m,sameW_vc a b I m (decide (a = b)):=by
  simp only [sameW_a,okU,Blk.ok,plainV,List.length_map] at ok
  refine ⟨fun t=>∃ k:Nat,t = k ∧ k ≤ a.length ∧ a.take k = b.take k,fun t=>a.length - t.toNat,?_⟩
  simp only [sameW_vc,vcU,rfU,List.length_map]
  refine ⟨fun e=>(decide_eq_false fun h=>by subst h; simp at e).symm,fun e=>⟨⟨0,rfl,by omega,rfl⟩,?_⟩⟩
  have e:a.length = b.length:=by simp at e; omega
  rintro _ ⟨k,rfl,hk,h⟩
  simp only [Int.toNat_natCast]
  refine ⟨fun h1=>⟨by omega,by omega,fun x hx=>⟨by omega,by omega,fun y hy=>?_⟩⟩,fun h1=>?_⟩
  · have bad:x ≠ y → false = decide (a = b):=fun hne=>(decide_eq_false fun hh=>by
      subst hh
      cases hx.symm.trans hy
      exact hne rfl).symm
    refine ⟨fun c=>bad fun q=>by subst q; simp at c,fun c=>⟨by omega,by omega,fun x2 hx2=>⟨by omega,by omega,fun y2 hy2=>?_⟩⟩⟩
    cases hx.symm.trans hx2
    cases hy.symm.trans hy2
    refine ⟨fun c3=>bad fun q=>by subst q; simp [FSame] at c3,fun c3=>?_⟩
    have q:x = y:=by
      rw [Wnt.eq_iff]
      have c3:FSame ⟨x.mode,x.srcs⟩ ⟨y.mode,y.srcs⟩ = true:=by simpa using c3
      have c3:=of_decide_eq_true c3
      simp only [Flt.mk.injEq] at c3
      exact ⟨by simpa using c,c3⟩
    subst q
    rw [W_succ (n:=a.length) (by omega) (by omega)]
    exact ⟨⟨k + 1,rfl,by omega,by rw [take_succ hx,take_succ hy,h]⟩,by omega⟩
  · rw [List.take_of_length_le (by omega),List.take_of_length_le (by omega)] at h
    exact (decide_eq_true h).symm
def sameW_c (a:(List Wnt)) (b:(List Wnt)):PC Tryz.prog:=⟨11,[(.s 3),(.s 3)],[.sl 3 (a.map Wnt.v) false,.sl 3 (b.map Wnt.v) false],sameW_e (decide (a = b)),PSpec.of_ok fun ok=>(sameW_p a b ok).elim fun I0 h=>h.elim fun m0 h=>sameW_ok a b I0 m0 _ h,fnB_ok (by kernel_rfl)⟩
end Go.Proofs.YtglfecmdoekabaaGreat

namespace Go.Proofs.YtglfecmdoekabaaGreat
open Go Go.Am
set_option linter.unusedVariables false
set_option linter.unusedSimpArgs false
theorem eq_take {α:Type} {a b:List α} {k:Nat} {x y:α} (hx:a[k]? = some x) (hy:b[k]? = some y) (h:a.take k = b.take k) (e:x = y):a.take (k + 1) = b.take (k + 1):=by
  subst e; rw [take_succ hx,take_succ hy,h]
theorem ne_of_get {α:Type} {a b:List α} {k:Nat} {x y:α} (hx:a[k]? = some x) (hy:b[k]? = some y) (e:x ≠ y):a ≠ b:=by
  rintro rfl; rw [hx] at hy; cases hy; exact e rfl
theorem nodec {p:Prop} [Decidable p] (h:¬ p):false = decide p:=(decide_eq_false h).symm
theorem Sig.eq_iff {x y:Sig}:x = y ↔ x.kind = y.kind ∧ x.src = y.src ∧ x.dst = y.dst ∧ x.epoch = y.epoch ∧ x.ver = y.ver ∧ x.prev = y.prev ∧ x.pep = y.pep ∧ x.grp = y.grp ∧ x.mode = y.mode ∧ x.srcs = y.srcs:=by cases x; cases y; simp
def sameG_a (a:Sig) (b:Sig):Prop:=okL [.agg [.int a.kind,.int a.src,.int a.dst,.int a.epoch,.int a.ver,.int a.prev,.int a.pep,.int a.grp,.int a.mode,.sl 1 (a.srcs.map AV.int) false],.agg [.int b.kind,.int b.src,.int b.dst,.int b.epoch,.int b.ver,.int b.prev,.int b.pep,.int b.grp,.int b.mode,.sl 1 (b.srcs.map AV.int) false]]
def sameG_s:Nat → Type
  | _=>Unit
def sameG_e (r:Bool):AV:=.bool r
def sameG_vc (a:Sig) (b:Sig) (r0:Bool):Prop:=
 br (a.kind == b.kind)
 (br (a.src == b.src)
 (br (a.dst == b.dst)
 (br (a.epoch == b.epoch)
 (br (a.ver == b.ver)
 (br (a.prev == b.prev)
 (br (a.pep == b.pep)
 (br (a.grp == b.grp)
 (Cl (FSame_c (⟨a.mode,a.srcs⟩:Flt) (⟨b.mode,b.srcs⟩:Flt))
 (Rf (sameG_e (FSame (⟨a.mode,a.srcs⟩:Flt) (⟨b.mode,b.srcs⟩:Flt))) ((FSame (⟨a.mode,a.srcs⟩:Flt) (⟨b.mode,b.srcs⟩:Flt)) = r0)))
 (Rf (sameG_e (false)) ((false) = r0)))
 (Rf (sameG_e (false)) ((false) = r0)))
 (Rf (sameG_e (false)) ((false) = r0)))
 (Rf (sameG_e (false)) ((false) = r0)))
 (Rf (sameG_e (false)) ((false) = r0)))
 (Rf (sameG_e (false)) ((false) = r0)))
 (Rf (sameG_e (false)) ((false) = r0)))
 (Rf (sameG_e (false)) ((false) = r0))
theorem sameG_eq (a:Sig) (b:Sig) (r0:Bool):mxP Tryz.prog 62 [.agg [.int a.kind,.int a.src,.int a.dst,.int a.epoch,.int a.ver,.int a.prev,.int a.pep,.int a.grp,.int a.mode,.sl 1 (a.srcs.map AV.int) false],.agg [.int b.kind,.int b.src,.int b.dst,.int b.epoch,.int b.ver,.int b.prev,.int b.pep,.int b.grp,.int b.mode,.sl 1 (b.srcs.map AV.int) false]] .k sameG_e ((.br 144 (.br 256 (.br 368 (.br 480 (.br 592 (.br 704 (.br 816 (.br 928 (.callP (FSame_c (⟨a.mode,a.srcs⟩:Flt) (⟨b.mode,b.srcs⟩:Flt))
 (.ret (FSame (⟨a.mode,a.srcs⟩:Flt) (⟨b.mode,b.srcs⟩:Flt))))
 (.ret (false)))
 (.ret (false)))
 (.ret (false)))
 (.ret (false)))
 (.ret (false)))
 (.ret (false)))
 (.ret (false)))
 (.ret (false))):An Tryz.prog sameG_s (Bool)) r0 = sameG_vc a b r0:=by kernel_rfl
theorem sameG_ok (a:Sig) (b:Sig) (r0:Bool) (h:sameG_vc a b r0):PSpec Tryz.prog 62 [.agg [.int a.kind,.int a.src,.int a.dst,.int a.epoch,.int a.ver,.int a.prev,.int a.pep,.int a.grp,.int a.mode,.sl 1 (a.srcs.map AV.int) false],.agg [.int b.kind,.int b.src,.int b.dst,.int b.epoch,.int b.ver,.int b.prev,.int b.pep,.int b.grp,.int b.mode,.sl 1 (b.srcs.map AV.int) false]] (sameG_e r0):=by
  have e:=sameG_eq a b r0
  rw [← e] at h
  exact mxP_ok (enc:=sameG_e) h (AV.pureB_ok rfl)
theorem sameG_p (a b:Sig) (ok:sameG_a a b):sameG_vc a b (decide (a = b)):=by
  simp only [sameG_vc,vcU,rfU,List.length_map]
  have no:∀ (p:Sig → Int),(p a == p b) = false → false = decide (a = b):=fun p h=>nodec fun q=>by subst q; simp at h
  refine ⟨fun e1=>⟨fun e2=>⟨fun e3=>⟨fun e4=>⟨fun e5=>⟨fun e6=>⟨fun e7=>⟨fun e8=>?_,no Sig.grp⟩,no Sig.pep⟩,no Sig.prev⟩,no Sig.ver⟩,no Sig.epoch⟩,no Sig.dst⟩,no Sig.src⟩,no Sig.kind⟩
  unfold FSame
  rw [decide_eq_decide,Sig.eq_iff]
  simp only [beq_iff_eq] at e1 e2 e3 e4 e5 e6 e7 e8
  simp only [Flt.mk.injEq]
  exact ⟨fun q=>⟨e1,e2,e3,e4,e5,e6,e7,e8,q⟩,fun q=>q.2.2.2.2.2.2.2.2⟩
def sameG_c (a:Sig) (b:Sig):PC Tryz.prog:=⟨62,[(.a [.k,.k,.k,.k,.k,.k,.k,.k,.k,(.s 1)]),(.a [.k,.k,.k,.k,.k,.k,.k,.k,.k,(.s 1)])],[.agg [.int a.kind,.int a.src,.int a.dst,.int a.epoch,.int a.ver,.int a.prev,.int a.pep,.int a.grp,.int a.mode,.sl 1 (a.srcs.map AV.int) false],.agg [.int b.kind,.int b.src,.int b.dst,.int b.epoch,.int b.ver,.int b.prev,.int b.pep,.int b.grp,.int b.mode,.sl 1 (b.srcs.map AV.int) false]],sameG_e (decide (a = b)),PSpec.of_ok fun ok=>sameG_ok a b _ (sameG_p a b ok),fnB_ok (by kernel_rfl)⟩
def sameGA_a (a:(List Sig)) (b:(List Sig)):Prop:=okL [.sl 10 (a.map Sig.v) false,.sl 10 (b.map Sig.v) false]
def sameGA_n0 (a:(List Sig)) (b:(List Sig)) (t0:Int):NF:=⟨[(0,.k,.sl 10 (a.map Sig.v) false),(1,.k,.sl 10 (b.map Sig.v) false),(5,.k,.int t0)],[]⟩
def sameGA_s:Nat → Type
  | 0=>Int
  | _=>Unit
def sameGA_e (r:Bool):AV:=.bool r
def sameGA_vc (a:(List Sig)) (b:(List Sig)) (I0:Int → Prop) (m0:Int → Nat) (r0:Bool):Prop:=
 br (((a.map Sig.v).length:Int) != ((b.map Sig.v).length:Int))
 (Rf (sameGA_e (false)) ((false) = r0))
 (Nf (sameGA_n0 a b (0)) [] (I0 (0)) ∧ ∀ t0:Int,I0 t0 →
 br (decide (t0 < ((a.map Sig.v).length:Int)))
 (Rf (a.map Sig.v) (ck (decide (0 ≤ t0)) (ck (decide (t0 < (a.length:Int)))
 (∀ x1,a[t0.toNat]? = some x1 →
 Rf (b.map Sig.v) (ck (decide (0 ≤ t0)) (ck (decide (t0 < (b.length:Int)))
 (∀ x2,b[t0.toNat]? = some x2 →
 Cl (sameG_c x1 x2)
 (br (!(decide (x1 = x2)))
 (Rf (sameGA_e (false)) ((false) = r0))
 (Nf (sameGA_n0 a b (W (t0 + 1))) [] (I0 (W (t0 + 1)) ∧ m0 (W (t0 + 1)) < m0 t0))))))))))
 (Rf (sameGA_e (true)) ((true) = r0)))
theorem sameGA_eq (a:(List Sig)) (b:(List Sig)) (I0:Int → Prop) (m0:Int → Nat) (r0:Bool):mxP Tryz.prog 24 [.sl 10 (a.map Sig.v) false,.sl 10 (b.map Sig.v) false] .k sameGA_e ((.br 96 (.ret (false))
 (.loop 0 (sameGA_n0 a b) (I0) (m0) ((0):Int) [] fun (t0:Int) =>
 (.br 64 (.el 96 Sig.v a fun x1 =>
 (.el 160 Sig.v b fun x2 =>
 (.callP (sameG_c x1 x2)
 (.br 224 (.ret (false))
 (.back 0 ((W (t0 + 1)):Int) [])))))
 (.ret (true))))):An Tryz.prog sameGA_s (Bool)) r0 = sameGA_vc a b I0 m0 r0:=by kernel_rfl
theorem sameGA_ok (a:(List Sig)) (b:(List Sig)) (I0:Int → Prop) (m0:Int → Nat) (r0:Bool) (h:sameGA_vc a b I0 m0 r0):PSpec Tryz.prog 24 [.sl 10 (a.map Sig.v) false,.sl 10 (b.map Sig.v) false] (sameGA_e r0):=by
  have e:=sameGA_eq a b I0 m0 r0
  rw [← e] at h
  exact mxP_ok (enc:=sameGA_e) h (AV.pureB_ok rfl)
theorem sameGA_p (a b:List Sig) (ok:sameGA_a a b):∃ I m,sameGA_vc a b I m (decide (a = b)):=by
  simp only [sameGA_a,okU,Blk.ok,plainV,List.length_map] at ok
  refine ⟨fun t=>∃ k:Nat,t = k ∧ k ≤ a.length ∧ a.take k = b.take k,fun t=>a.length - t.toNat,?_⟩
  simp only [sameGA_vc,vcU,rfU,List.length_map]
  have hle:a.length ≤ 9223372036854775807:=ok.1.1
  refine ⟨fun e=>nodec fun h=>by subst h; simp at e,fun e=>⟨⟨0,rfl,by omega,rfl⟩,?_⟩⟩
  have e:a.length = b.length:=by simp at e; omega
  rintro _ ⟨k,rfl,hk,h⟩
  simp only [Int.toNat_natCast]
  refine ⟨fun h1=>⟨by omega,by omega,fun x hx=>⟨by omega,by omega,fun y hy=>⟨fun c=>?_,fun c=>?_⟩⟩⟩,fun h1=>?_⟩
  · exact nodec (ne_of_get hx hy (by simpa using c))
  · rw [W_succ (n:=a.length) (by omega) (by omega)]
    exact ⟨⟨k + 1,rfl,by omega,eq_take hx hy h (by simpa using c)⟩,by omega⟩
  · rw [List.take_of_length_le (by omega),List.take_of_length_le (by omega)] at h
    exact (decide_eq_true h).symm
def sameGA_c (a:(List Sig)) (b:(List Sig)):PC Tryz.prog:=⟨24,[(.s 10),(.s 10)],[.sl 10 (a.map Sig.v) false,.sl 10 (b.map Sig.v) false],sameGA_e (decide (a = b)),PSpec.of_ok fun ok=>(sameGA_p a b ok).elim fun I0 h=>h.elim fun m0 h=>sameGA_ok a b I0 m0 _ h,fnB_ok (by kernel_rfl)⟩
theorem Spk.eq_iff {x y:Spk}:x = y ↔ x.router = y.router ∧ x.epoch = y.epoch ∧ x.last = y.last ∧ x.items = y.items ∧ x.peers = y.peers:=by cases x; cases y; simp
theorem Lsn.eq_iff {x y:Lsn}:x = y ↔ x.router = y.router ∧ x.epoch = y.epoch ∧ x.heard = y.heard:=by cases x; cases y; simp
theorem Hrd.eq_iff {x y:Hrd}:x = y ↔ x.router = y.router ∧ x.epoch = y.epoch ∧ x.ver = y.ver ∧ x.items = y.items:=by cases x; cases y; simp
theorem Per.eq_iff {x y:Per}:x = y ↔ x.router = y.router ∧ x.epoch = y.epoch ∧ x.acked = y.acked:=by cases x; cases y; simp
def sameS_a (a:Spk) (b:Spk):Prop:=okL [.agg [.int a.router,.int a.epoch,.int a.last,.sl 4 (a.items.map Itm.v) false,.sl 3 (a.peers.map Per.v) false],.agg [.int b.router,.int b.epoch,.int b.last,.sl 4 (b.items.map Itm.v) false,.sl 3 (b.peers.map Per.v) false]]
def sameS_n0 (a:Spk) (b:Spk) (t0:Bool):NF:=⟨[(2,.k,.ref 0 0),(3,.k,.ref 1 0),(41,.k,.bool t0)],[.box (.agg [.int a.router,.int a.epoch,.int a.last,.sl 4 (a.items.map Itm.v) false,.sl 3 (a.peers.map Per.v) false]),.box (.agg [.int b.router,.int b.epoch,.int b.last,.sl 4 (b.items.map Itm.v) false,.sl 3 (b.peers.map Per.v) false])]⟩
def sameS_n1 (a:Spk) (b:Spk) (t0:Bool) (t1:Int):NF:=⟨[(2,.k,.ref 0 0),(3,.k,.ref 1 0),(5,.k,.int t1)],[.box (.agg [.int a.router,.int a.epoch,.int a.last,.sl 4 (a.items.map Itm.v) false,.sl 3 (a.peers.map Per.v) false]),.box (.agg [.int b.router,.int b.epoch,.int b.last,.sl 4 (b.items.map Itm.v) false,.sl 3 (b.peers.map Per.v) false])]⟩
def sameS_s:Nat → Type
  | 0=>Bool
  | 1=>Int
  | _=>Unit
def sameS_e (r:Bool):AV:=.bool r
def sameS_vc (a:Spk) (b:Spk) (I0:Bool → Prop) (I1:Bool → Int → Prop) (m1:Bool → Int → Nat) (r0:Bool):Prop:=
 (br (a.router != b.router)
 (Nf (sameS_n0 a b (true)) [0,16] (I0 ((true):Bool)))
 (br (a.epoch != b.epoch)
 (Nf (sameS_n0 a b (true)) [0,16] (I0 ((true):Bool)))
 (br (a.last != b.last)
 (Nf (sameS_n0 a b (true)) [0,16] (I0 ((true):Bool)))
 (Cl (sameI_c a.items b.items)
 (br (!(decide (a.items = b.items)))
 (Nf (sameS_n0 a b (true)) [0,16] (I0 ((true):Bool)))
 (Nf (sameS_n0 a b (((a.peers.map Per.v).length:Int) != ((b.peers.map Per.v).length:Int))) [0,16] (I0 ((((a.peers.map Per.v).length:Int) != ((b.peers.map Per.v).length:Int)):Bool)))))))) ∧ ∀ t0:Bool,I0 t0 →
 br t0
 (Rf (sameS_e (false)) ((false) = r0))
 (Nf (sameS_n1 a b t0 (0)) [0,1] (I1 t0 (0)) ∧ ∀ t1:Int,I1 t0 t1 →
 br (decide (t1 < ((a.peers.map Per.v).length:Int)))
 (Rf (a.peers.map Per.v) (ck (decide (0 ≤ t1)) (ck (decide (t1 < (a.peers.length:Int)))
 (∀ x1,a.peers[t1.toNat]? = some x1 →
 Rf (b.peers.map Per.v) (ck (decide (0 ≤ t1)) (ck (decide (t1 < (b.peers.length:Int)))
 (∀ x2,b.peers[t1.toNat]? = some x2 →
 br (!((x1.router == x2.router) && ((x1.epoch == x2.epoch) && ((x1.acked == x2.acked) && true))))
 (Rf (sameS_e (false)) ((false) = r0))
 (Nf (sameS_n1 a b t0 (W (t1 + 1))) [0,1] (I1 t0 (W (t1 + 1)) ∧ m1 t0 (W (t1 + 1)) < m1 t0 t1)))))))))
 (Rf (sameS_e (true)) ((true) = r0)))
theorem sameS_eq (a:Spk) (b:Spk) (I0:Bool → Prop) (I1:Bool → Int → Prop) (m1:Bool → Int → Nat) (r0:Bool):mxP Tryz.prog 20 [.agg [.int a.router,.int a.epoch,.int a.last,.sl 4 (a.items.map Itm.v) false,.sl 3 (a.peers.map Per.v) false],.agg [.int b.router,.int b.epoch,.int b.last,.sl 4 (b.items.map Itm.v) false,.sl 3 (b.peers.map Per.v) false]] .k sameS_e ((.pass (.pass (.join 0 (sameS_n0 a b) (fun t0=>I0 t0) (.br 144 (.back 0 ((true):Bool) [0,16])
 (.br 256 (.back 0 ((true):Bool) [0,16])
 (.br 368 (.back 0 ((true):Bool) [0,16])
 (.callP (sameI_c a.items b.items)
 (.br 496 (.back 0 ((true):Bool) [0,16])
 (.back 0 ((((a.peers.map Per.v).length:Int) != ((b.peers.map Per.v).length:Int)):Bool) [0,16])))))) fun (t0:Bool) =>
 (.br 2 (.ret (false))
 (.loop 1 (sameS_n1 a b t0) (I1 t0) (m1 t0) ((0):Int) [0,1] fun (t1:Int) =>
 (.br 82 (.el 130 Per.v a.peers fun x1 =>
 (.el 210 Per.v b.peers fun x2 =>
 (.br 258 (.ret (false))
 (.back 1 ((W (t1 + 1)):Int) [0,1]))))
 (.ret (true)))))))):An Tryz.prog sameS_s (Bool)) r0 = sameS_vc a b I0 I1 m1 r0:=by kernel_rfl
theorem sameS_ok (a:Spk) (b:Spk) (I0:Bool → Prop) (I1:Bool → Int → Prop) (m1:Bool → Int → Nat) (r0:Bool) (h:sameS_vc a b I0 I1 m1 r0):PSpec Tryz.prog 20 [.agg [.int a.router,.int a.epoch,.int a.last,.sl 4 (a.items.map Itm.v) false,.sl 3 (a.peers.map Per.v) false],.agg [.int b.router,.int b.epoch,.int b.last,.sl 4 (b.items.map Itm.v) false,.sl 3 (b.peers.map Per.v) false]] (sameS_e r0):=by
  have e:=sameS_eq a b I0 I1 m1 r0
  rw [← e] at h
  exact mxP_ok (enc:=sameS_e) h (AV.pureB_ok rfl)
theorem sameS_p (a b:Spk) (ok:sameS_a a b):∃ I0 I1 m1,sameS_vc a b I0 I1 m1 (decide (a = b)):=by
  unfold sameS_a at ok
  refine ⟨fun t=>t = false ↔ a.router = b.router ∧ a.epoch = b.epoch ∧ a.last = b.last ∧ a.items = b.items ∧ a.peers.length = b.peers.length,fun t0 t=>∃ k:Nat,t = k ∧ k ≤ a.peers.length ∧ a.peers.take k = b.peers.take k,fun t0 t=>a.peers.length - t.toNat,?_⟩
  simp only [sameS_vc,vcU,rfU,List.length_map]
  have hle:a.peers.length ≤ 9223372036854775807:=by
    have h:=ok
    simp only [Spk.v,pers,AV.ok,okL,List.length_map,maxLen_eq] at h
    omega
  have t:∀ {q:Prop},¬ q → (true = false ↔ q):=fun h=>⟨fun e=>Bool.noConfusion e,fun e=>absurd e h⟩
  refine ⟨⟨fun e1=>t fun q=>?_,fun e1=>⟨fun e2=>t fun q=>?_,fun e2=>⟨fun e3=>t fun q=>?_,fun e3=>⟨fun e4=>t fun q=>?_,fun e4=>?_⟩⟩⟩⟩,fun b0 hb=>⟨fun e=>?_,fun e=>⟨⟨0,rfl,by omega,rfl⟩,?_⟩⟩⟩
  · simp [q.1] at e1
  · simp [q.2.1] at e2
  · simp [q.2.2.1] at e3
  · simp [q.2.2.2.1] at e4
  · simp only [bne_eq_false_iff_eq,Bool.not_eq_false',decide_eq_true_iff] at e1 e2 e3 e4 ⊢
    constructor
    · intro q; exact ⟨e1,e2,e3,e4,by omega⟩
    · intro q; omega
  · subst e
    exact nodec fun q=>by subst q; exact Bool.noConfusion (hb.mpr ⟨rfl,rfl,rfl,rfl,rfl⟩)
  · obtain ⟨q1,q2,q3,q4,q5⟩:=hb.mp e
    rintro _ ⟨k,rfl,hk,h⟩
    simp only [Int.toNat_natCast]
    refine ⟨fun h1=>⟨by omega,by omega,fun x hx=>⟨by omega,by omega,fun y hy=>⟨fun c=>?_,fun c=>?_⟩⟩⟩,fun h1=>?_⟩
    · refine nodec fun q=>ne_of_get hx hy (fun w=>?_) (Spk.eq_iff.mp q).2.2.2.2
      subst w; simp at c
    · rw [W_succ (n:=a.peers.length) (by omega) (by omega)]
      refine ⟨⟨k + 1,rfl,by omega,eq_take hx hy h ?_⟩,by omega⟩
      rw [Per.eq_iff]
      simpa using c
    · rw [List.take_of_length_le (by omega),List.take_of_length_le (by omega)] at h
      exact (decide_eq_true (Spk.eq_iff.mpr ⟨q1,q2,q3,q4,h⟩)).symm
def sameS_c (a:Spk) (b:Spk):PC Tryz.prog:=⟨20,[(.a [.k,.k,.k,(.s 4),(.s 3)]),(.a [.k,.k,.k,(.s 4),(.s 3)])],[.agg [.int a.router,.int a.epoch,.int a.last,.sl 4 (a.items.map Itm.v) false,.sl 3 (a.peers.map Per.v) false],.agg [.int b.router,.int b.epoch,.int b.last,.sl 4 (b.items.map Itm.v) false,.sl 3 (b.peers.map Per.v) false]],sameS_e (decide (a = b)),PSpec.of_ok fun ok=>(sameS_p a b ok).elim fun I0 h=>h.elim fun I1 h=>h.elim fun m1 h=>sameS_ok a b I0 I1 m1 _ h,fnB_ok (by kernel_rfl)⟩
end Go.Proofs.YtglfecmdoekabaaGreat

namespace Go.Proofs.YtglfecmdoekabaaGreat
open Go Go.Am
set_option linter.unusedVariables false
set_option linter.unusedSimpArgs false
def hasR (l:List Wnt) (g:Int):Bool:=decide (∃ w ∈ l,w.grp = g)
def hasR_a (l:(List Wnt)) (group:Int):Prop:=okL [.sl 3 (l.map Wnt.v) false,.int group]
def hasR_n0 (l:(List Wnt)) (group:Int) (t0:Int):NF:=⟨[(1,.k,.int group),(7,.k,.sl 3 (l.map Wnt.v) false),(8,.k,.int ((l.map Wnt.v).length:Int)),(9,.k,.int t0)],[]⟩
def hasR_s:Nat → Type
  | 0=>Int
  | _=>Unit
def hasR_e (r:Bool):AV:=.bool r
def hasR_vc (l:(List Wnt)) (group:Int) (I0:Int → Prop) (m0:Int → Nat) (r0:Bool):Prop:=
 Nf (hasR_n0 l group (0)) [] (I0 (0)) ∧ ∀ t0:Int,I0 t0 →
 br (decide (t0 < ((l.map Wnt.v).length:Int)))
 (Rf (l.map Wnt.v) (ck (decide (0 ≤ t0)) (ck (decide (t0 < (l.length:Int)))
 (∀ x1,l[t0.toNat]? = some x1 →
 br (x1.grp == group)
 (Rf (hasR_e (true)) ((true) = r0))
 (Nf (hasR_n0 l group (W (t0 + 1))) [] (I0 (W (t0 + 1)) ∧ m0 (W (t0 + 1)) < m0 t0))))))
 (Rf (hasR_e (false)) ((false) = r0))
theorem hasR_eq (l:(List Wnt)) (group:Int) (I0:Int → Prop) (m0:Int → Nat) (r0:Bool):mxP Tryz.prog 85 [.sl 3 (l.map Wnt.v) false,.int group] .k hasR_e ((.loop 0 (hasR_n0 l group) (I0) (m0) ((0):Int) [] fun (t0:Int) =>
 (.br 16 (.el 16 Wnt.v l fun x1 =>
 (.br 144 (.ret (true))
 (.back 0 ((W (t0 + 1)):Int) [])))
 (.ret (false)))):An Tryz.prog hasR_s (Bool)) r0 = hasR_vc l group I0 m0 r0:=by kernel_rfl
theorem hasR_ok (l:(List Wnt)) (group:Int) (I0:Int → Prop) (m0:Int → Nat) (r0:Bool) (h:hasR_vc l group I0 m0 r0):PSpec Tryz.prog 85 [.sl 3 (l.map Wnt.v) false,.int group] (hasR_e r0):=by
  have e:=hasR_eq l group I0 m0 r0
  rw [← e] at h
  exact mxP_ok (enc:=hasR_e) h (AV.pureB_ok rfl)
theorem hasR_p (l:List Wnt) (g:Int) (ok:hasR_a l g):∃ I m,hasR_vc l g I m (hasR l g):=by
  simp only [hasR_a,okU,Blk.ok,plainV,List.length_map] at ok
  refine ⟨fun t=>∃ k:Nat,t = k ∧ k ≤ l.length ∧ ∀ x ∈ l.take k,x.grp ≠ g,fun t=>l.length - t.toNat,?_⟩
  simp only [hasR_vc,vcU,rfU,List.length_map]
  have hle:l.length ≤ 9223372036854775807:=ok.1.1
  refine ⟨⟨0,rfl,by omega,by simp⟩,?_⟩
  rintro _ ⟨k,rfl,hk,hI⟩
  simp only [Int.toNat_natCast]
  refine ⟨fun h1=>⟨by omega,by omega,fun x hx=>⟨fun e=>?_,fun e=>?_⟩⟩,fun h1=>?_⟩
  · exact (decide_eq_true ⟨x,mem_of_get hx,by simpa using e⟩).symm
  · rw [W_succ (n:=l.length) (by omega) (by omega)]
    exact ⟨⟨k + 1,rfl,by omega,(mem_take_succ hx).mpr ⟨hI,by simpa using e⟩⟩,by omega⟩
  · rw [List.take_of_length_le (by omega)] at hI
    exact nodec fun ⟨w,hw,e⟩=>hI w hw e
def hasR_c (l:(List Wnt)) (group:Int):PC Tryz.prog:=⟨85,[(.s 3),.k],[.sl 3 (l.map Wnt.v) false,.int group],hasR_e (hasR l group),PSpec.of_ok fun ok=>(hasR_p l group ok).elim fun I0 h=>h.elim fun m0 h=>hasR_ok l group I0 m0 _ h,fnB_ok (by kernel_rfl)⟩
def appF (old c:List Wnt) (g:Int):Int × List Int:=if hasR c g = true then find2 c g else find2 old g
def applyG (old c:List Wnt):List Wnt × Int:=
  if wErr false old ≠ 0 then ([],wErr false old) else if wErr true c ≠ 0 then ([],wErr true c) else limitW (fromF (appF old c) 99)
theorem fromF_len {f:Int → Int × List Int}:∀ n:Nat,(fromF f n).length ≤ n
  | 0=>Nat.le_refl _
  | n + 1=>by
    rw [fromF,List.length_append]
    have:=fromF_len (f:=f) n
    unfold from1
    split <;> simp <;> omega
def applyR_a (old:(List Wnt)) (changes:(List Wnt)):Prop:=okL [.sl 3 (old.map Wnt.v) false,.sl 3 (changes.map Wnt.v) false]
def applyR_n0 (old:(List Wnt)) (changes:(List Wnt)) (t0:Int × (List Wnt)):NF:=⟨[(0,.k,.sl 3 (old.map Wnt.v) false),(1,.k,.sl 3 (changes.map Wnt.v) false),(8,.k,.vec 0),(9,.k,.int t0.1)],[.vec 3 (t0.2.map Wnt.v) (pureBL_map (fun _=>rfl) t0.2)]⟩
def applyR_n1 (old:(List Wnt)) (changes:(List Wnt)) (t0:Int × (List Wnt)) (t1:Flt):NF:=⟨[(0,.k,.sl 3 (old.map Wnt.v) false),(1,.k,.sl 3 (changes.map Wnt.v) false),(8,.k,.vec 0),(9,.k,.int t0.1),(10,.k,.ref 1 0)],[.vec 3 (t0.2.map Wnt.v) (pureBL_map (fun _=>rfl) t0.2),.box (.agg [.int t1.mode,.sl 1 (t1.srcs.map AV.int) false])]⟩
def applyR_s:Nat → Type
  | 0=>Int × (List Wnt)
  | 1=>Flt
  | _=>Unit
def applyR_e (r:(List Wnt) × Int):AV:=.tup [.sl 3 (r.1.map Wnt.v) false,.int r.2]
def applyR_vc (old:(List Wnt)) (changes:(List Wnt)) (I0:(Int × (List Wnt)) → Prop) (m0:(Int × (List Wnt)) → Nat) (I1:Int × (List Wnt) → Flt → Prop) (r0:(List Wnt) × Int):Prop:=
 Cl (valR_c old)
 (br ((wErr false old) != 0)
 (Rf (applyR_e ([],wErr false old)) (([],wErr false old) = r0))
 (Cl (checkR_c changes true)
 (br ((wErr true changes) != 0)
 (Rf (applyR_e ([],wErr true changes)) (([],wErr true changes) = r0))
 (Nf (applyR_n0 old changes (1,[])) [224] (I0 (1,[])) ∧ ∀ t0:Int × (List Wnt),I0 t0 →
 br (decide (t0.1 ≤ 99))
 (Cl (findR_c old t0.1)
 ((Cl (hasR_c changes t0.1)
 (br (hasR changes t0.1)
 (Cl (findR_c changes t0.1)
 (Nf (applyR_n1 old changes t0 (findW changes t0.1)) [0,81] (I1 t0 ((findW changes t0.1):Flt))))
 (Nf (applyR_n1 old changes t0 (findW old t0.1)) [0,81] (I1 t0 ((findW old t0.1):Flt))))) ∧ ∀ t1:Flt,I1 t0 t1 →
 Cl (Nothing_c )
 (Cl (FSame_c t1 (⟨1,[]⟩:Flt))
 (br (!(FSame t1 (⟨1,[]⟩:Flt)))
 (Rf (α:=List AV) (t0.2.map Wnt.v) (Rf (α:=List AV) [.agg [.int t0.1,.int t1.mode,.sl 1 (t1.srcs.map AV.int) false]]
 (ck (decide (t0.2.length + 1 ≤ 1000000))
 (Nf (applyR_n0 old changes (W (t0.1 + 1),t0.2 ++ [(⟨t0.1,t1.mode,t1.srcs⟩:Wnt)])) [146] (I0 (W (t0.1 + 1),t0.2 ++ [(⟨t0.1,t1.mode,t1.srcs⟩:Wnt)]) ∧ m0 (W (t0.1 + 1),t0.2 ++ [(⟨t0.1,t1.mode,t1.srcs⟩:Wnt)]) < m0 t0)))))
 (Nf (applyR_n0 old changes (W (t0.1 + 1),t0.2)) [0] (I0 (W (t0.1 + 1),t0.2) ∧ m0 (W (t0.1 + 1),t0.2) < m0 t0))))))
 (br (decide (32 < ((t0.2.map Wnt.v).length:Int)))
 (Rf (applyR_e ([],3)) (([],3) = r0))
 (Rf (t0.2.map Wnt.v) (Rf (applyR_e (t0.2,0)) ((t0.2,0) = r0))))))))
theorem applyR_eq (old:(List Wnt)) (changes:(List Wnt)) (I0:(Int × (List Wnt)) → Prop) (m0:(Int × (List Wnt)) → Nat) (I1:Int × (List Wnt) → Flt → Prop) (r0:(List Wnt) × Int):mxP Tryz.prog 54 [.sl 3 (old.map Wnt.v) false,.sl 3 (changes.map Wnt.v) false] (.a [(.s 3),.k]) applyR_e ((.callP (valR_c old)
 (.br 112 (.ret ([],wErr false old))
 (.callP (checkR_c changes true)
 (.br 192 (.ret ([],wErr true changes))
 (.cmdL (.nilT 8 3) (.loop 0 (applyR_n0 old changes) (I0) (m0) ((1,[]):Int × (List Wnt)) [224] fun (t0:Int × (List Wnt)) =>
 (.br 33 (.callP (findR_c old t0.1)
 (.join 1 (applyR_n1 old changes t0) (fun t1=>I1 t0 t1) (.callP (hasR_c changes t0.1)
 (.br 161 (.callP (findR_c changes t0.1)
 (.back 1 ((findW changes t0.1):Flt) [0,81]))
 (.back 1 ((findW old t0.1):Flt) [0,81]))) fun (t1:Flt) =>
 (.callP (Nothing_c )
 (.callP (FSame_c t1 (⟨1,[]⟩:Flt))
 (.br 66 (.app 146 Wnt.v t0.2 [(⟨t0.1,t1.mode,t1.srcs⟩:Wnt)]
 (.back 0 ((W (t0.1 + 1),t0.2 ++ [(⟨t0.1,t1.mode,t1.srcs⟩:Wnt)]):Int × (List Wnt)) [146]))
 (.back 0 ((W (t0.1 + 1),t0.2):Int × (List Wnt)) [0]))))))
 (.br 81 (.ret ([],3))
 (.cmdL (.frzE 0 (t0.2.map Wnt.v) (pureBL_map (fun _=>rfl) t0.2)) (.ret (t0.2,0))))))))))):An Tryz.prog applyR_s ((List Wnt) × Int)) r0 = applyR_vc old changes I0 m0 I1 r0:=by kernel_rfl
theorem applyR_ok (old:(List Wnt)) (changes:(List Wnt)) (I0:(Int × (List Wnt)) → Prop) (m0:(Int × (List Wnt)) → Nat) (I1:Int × (List Wnt) → Flt → Prop) (r0:(List Wnt) × Int) (h:applyR_vc old changes I0 m0 I1 r0):PSpec Tryz.prog 54 [.sl 3 (old.map Wnt.v) false,.sl 3 (changes.map Wnt.v) false] (applyR_e r0):=by
  have e:=applyR_eq old changes I0 m0 I1 r0
  rw [← e] at h
  exact mxP_ok (enc:=applyR_e) h (AV.pureB_ok rfl)
theorem applyR_p (old c:List Wnt) (ok:applyR_a old c):∃ I0 m0 I1,applyR_vc old c I0 m0 I1 (applyG old c):=by
  refine ⟨fun t=>∃ k:Nat,t.1 = (k:Int) + 1 ∧ k ≤ 99 ∧ t.2 = fromF (appF old c) k,fun t=>100 - t.1.toNat,fun t f=>(f.mode,f.srcs) = appF old c t.1,?_⟩
  simp only [applyR_vc,vcU,rfU,List.length_map]
  unfold applyG
  refine ⟨fun h=>by rw [if_pos (by simpa using h)],fun h=>⟨fun h2=>?_,fun h2=>⟨⟨0,rfl,by omega,rfl⟩,?_⟩⟩⟩
  · rw [if_neg (by simpa using h),if_pos (by simpa using h2)]
  · rw [if_neg (by simpa using h),if_neg (by simpa using h2)]
    rintro ⟨_,_⟩ ⟨k,rfl,hk,rfl⟩
    have hlen:=fromF_len (f:=appF old c) k
    simp only
    have hw:(k:Int) + 1 ≤ 99 → W ((k:Int) + 1 + 1) = ((k + 1:Nat):Int) + 1:=fun _=>by rw [W_eq (by omega)]; omega
    refine ⟨fun h1=>⟨⟨fun q=>?_,fun q=>?_⟩,fun f hf=>⟨fun q=>⟨by omega,?_⟩,fun q=>?_⟩⟩,fun h1=>⟨fun q=>?_,fun q=>?_⟩⟩
    · unfold appF; rw [if_pos q]; rfl
    · unfold appF; rw [if_neg (by simp [q])]; rfl
    · rw [hw h1]
      refine ⟨⟨k + 1,rfl,by omega,?_⟩,by omega⟩
      rw [fromF,from1,if_neg]
      · rw [← hf]
      · rw [← hf]
        intro e
        simp only [Prod.mk.injEq] at e
        simp [FSame,flt_eq,e.1,e.2] at q
    · rw [hw h1]
      refine ⟨⟨k + 1,rfl,by omega,?_⟩,by omega⟩
      have e:f = ⟨1,[]⟩:=by simpa [FSame] using q
      rw [fromF,from1,if_pos,List.append_nil]
      rw [← hf,e]
    · have:k = 99:=by omega
      subst this
      unfold limitW
      rw [if_pos (by omega)]
    · have:k = 99:=by omega
      subst this
      unfold limitW
      rw [if_neg (by omega)]
def applyR_c (old:(List Wnt)) (changes:(List Wnt)):PC Tryz.prog:=⟨54,[(.s 3),(.s 3)],[.sl 3 (old.map Wnt.v) false,.sl 3 (changes.map Wnt.v) false],applyR_e (applyG old changes),PSpec.of_ok fun ok=>(applyR_p old changes ok).elim fun I0 h=>h.elim fun m0 h=>h.elim fun I1 h=>applyR_ok old changes I0 m0 I1 _ h,fnB_ok (by kernel_rfl)⟩
theorem find2_nil (g:Int):find2 [] g = (1,[]):=rfl
theorem applyG_err (c:List Wnt):(applyG [] c).2 = wErr true c:=by
  unfold applyG
  rw [if_neg (by decide)]
  split
  · rfl
  · rename_i h
    have h:wErr true c = 0:=by omega
    obtain ⟨h1,h2,h3,h4,h5⟩:=wErr_zero.mp h
    have e:fromF (appF [] c) 99 = c.filter fun w=>decide (¬ isNoW w):=by
      refine ascW_ext (fromF_asc 99) (h5.filter _) fun w=>?_
      rw [mem_fromF,List.mem_filter]
      simp only [decide_eq_true_iff]
      constructor
      · rintro ⟨q1,q2,q3⟩
        unfold appF at q2 q3
        by_cases hh:hasR c w.grp = true
        · rw [if_pos hh] at q2 q3
          obtain ⟨y,hy,e1,e2⟩:=findW_some (find2_ne.mp q3)
          have e3:find2 c w.grp = (y.mode,y.srcs):=by unfold find2; rw [e2]
          rw [q2] at e3 q3
          simp only [Prod.mk.injEq] at e3
          have:y = w:=by rw [Wnt.eq_iff]; exact ⟨e1,e3.1.symm,e3.2.symm⟩
          subst this
          exact ⟨hy,fun hn=>q3 (by rw [hn.1,hn.2])⟩
        · rw [if_neg hh,find2_nil] at q3; exact absurd rfl q3
      · rintro ⟨q1,q2⟩
        have hh:hasR c w.grp = true:=decide_eq_true ⟨w,q1,rfl⟩
        have e1:appF [] c w.grp = (w.mode,w.srcs):=by
          unfold appF
          rw [if_pos hh]
          unfold find2
          rw [findW_in h5 q1]
        refine ⟨h2 w q1,e1,?_⟩
        rw [e1]
        intro e
        simp only [Prod.mk.injEq] at e
        exact q2 e
    have hl:(fromF (appF [] c) 99).length ≤ 32:=by
      rw [e]
      exact Nat.le_trans (List.length_filter_le _ _) h1
    unfold limitW
    rw [if_neg (by omega),h]
theorem chg_take_len {s:Spk} (hs:spkOk s) {c:List Wnt} (hc:wErr true c = 0) (j:Nat):((c.take j).foldl chg1 (s.last,s.items)).2.length ≤ 99 ∧ 0 ≤ ((c.take j).foldl chg1 (s.last,s.items)).1 ∧ ((c.take j).foldl chg1 (s.last,s.items)).1 ≤ s.last + 32:=by
  have ho:=chgOk_of hc
  obtain ⟨q1,q2,q3,q4⟩:=chg_ok (c:=c.take j) hs.2.2.2.1 hs.2.2.1.1 fun w hw=>ho w (List.mem_of_mem_take hw)
  refine ⟨itms_len q1,q4,?_⟩
  have:=(wErr_zero.mp hc).1
  rw [List.length_take] at q3
  omega
def changeR_a (s:Spk) (changes:(List Wnt)):Prop:=okL [.agg [.int s.router,.int s.epoch,.int s.last,.sl 4 (s.items.map Itm.v) false,.sl 3 (s.peers.map Per.v) false],.sl 3 (changes.map Wnt.v) false]
def changeR_n0 (s:Spk) (changes:(List Wnt)) (t0:Int × Spk):NF:=⟨[(4,.k,.ref 0 0),(9,.k,.ref 1 0),(38,.k,.sl 3 (changes.map Wnt.v) false),(39,.k,.int ((changes.map Wnt.v).length:Int)),(40,.k,.int t0.1)],[.box (.agg [.int 0,.int 0,.int 0,.sl 0 [] true,.sl 0 [] true]),.box (.agg [.int t0.2.router,.int t0.2.epoch,.int t0.2.last,.sl 4 (t0.2.items.map Itm.v) false,.sl 3 (t0.2.peers.map Per.v) false])]⟩
def changeR_s:Nat → Type
  | 0=>Int × Spk
  | _=>Unit
def changeR_e (r:Spk × Int):AV:=.tup [Spk.v r.1,.int r.2]
def changeR_vc (s:Spk) (changes:(List Wnt)) (I0:(Int × Spk) → Prop) (m0:(Int × Spk) → Nat) (r0:Spk × Int):Prop:=
 Cl (valR6_c s)
 (br ((valS s) != 0)
 (Rf (changeR_e ((⟨0,0,0,[],[]⟩:Spk),valS s)) (((⟨0,0,0,[],[]⟩:Spk),valS s) = r0))
 (Cl (applyR_c [] changes)
 (br (((applyG [] changes).2) != 0)
 (Rf (changeR_e ((⟨0,0,0,[],[]⟩:Spk),(applyG [] changes).2)) (((⟨0,0,0,[],[]⟩:Spk),(applyG [] changes).2) = r0))
 (Rf (α:=List AV) [] (Rf (α:=List AV) (s.peers.map Per.v)
 (ck (decide (0 + s.peers.length ≤ 1000000))
 (Rf (α:=List AV) [] (Rf (α:=List AV) (s.items.map Itm.v)
 (ck (decide (0 + s.items.length ≤ 1000000))
 (Rf (s.items.map Itm.v) (Rf (s.peers.map Per.v) (Nf (changeR_n0 s changes (0,s)) [16,288] (I0 (0,s)) ∧ ∀ t0:Int × Spk,I0 t0 →
 br (decide (t0.1 < ((changes.map Wnt.v).length:Int)))
 (Rf (changes.map Wnt.v) (ck (decide (0 ≤ t0.1)) (ck (decide (t0.1 < (changes.length:Int)))
 (∀ x1,changes[t0.1.toNat]? = some x1 →
 Cl (findI_c t0.2.items x1.grp)
 (Cl (FSame_c (⟨(told t0.2.items x1.grp).1,(told t0.2.items x1.grp).2⟩:Flt) (⟨x1.mode,x1.srcs⟩:Flt))
 (br (FSame (⟨(told t0.2.items x1.grp).1,(told t0.2.items x1.grp).2⟩:Flt) (⟨x1.mode,x1.srcs⟩:Flt))
 (Nf (changeR_n0 s changes (W (t0.1 + 1),t0.2)) [0,1] (I0 (W (t0.1 + 1),t0.2) ∧ m0 (W (t0.1 + 1),t0.2) < m0 t0))
 (∃ h2:t0.2.items.length ≤ 999999,
 Cl (putR_c t0.2.items (⟨W (t0.2.last + 1),x1.grp,x1.mode,x1.srcs⟩:Itm) h2)
 (Nf (changeR_n0 s changes (W (t0.1 + 1),(⟨t0.2.router,t0.2.epoch,W (t0.2.last + 1),put1 t0.2.items (⟨W (t0.2.last + 1),x1.grp,x1.mode,x1.srcs⟩:Itm),t0.2.peers⟩:Spk))) [0,1] (I0 (W (t0.1 + 1),(⟨t0.2.router,t0.2.epoch,W (t0.2.last + 1),put1 t0.2.items (⟨W (t0.2.last + 1),x1.grp,x1.mode,x1.srcs⟩:Itm),t0.2.peers⟩:Spk)) ∧ m0 (W (t0.1 + 1),(⟨t0.2.router,t0.2.epoch,W (t0.2.last + 1),put1 t0.2.items (⟨W (t0.2.last + 1),x1.grp,x1.mode,x1.srcs⟩:Itm),t0.2.peers⟩:Spk)) < m0 t0)))))))))
 (br (decide (1000000 < t0.2.last))
 (Rf (changeR_e ((⟨0,0,0,[],[]⟩:Spk),3)) (((⟨0,0,0,[],[]⟩:Spk),3) = r0))
 (Rf (changeR_e (t0.2,0)) ((t0.2,0) = r0)))))))))))))))
theorem changeR_eq (s:Spk) (changes:(List Wnt)) (I0:(Int × Spk) → Prop) (m0:(Int × Spk) → Nat) (r0:Spk × Int):mxP Tryz.prog 17 [.agg [.int s.router,.int s.epoch,.int s.last,.sl 4 (s.items.map Itm.v) false,.sl 3 (s.peers.map Per.v) false],.sl 3 (changes.map Wnt.v) false] (.a [(.a [.k,.k,.k,(.s 4),(.s 3)]),.k]) changeR_e ((.callP (valR6_c s)
 (.br 128 (.ret ((⟨0,0,0,[],[]⟩:Spk),valS s))
 (.callP (applyR_c [] changes)
 (.br 272 (.ret ((⟨0,0,0,[],[]⟩:Spk),(applyG [] changes).2))
 (.app 368 Per.v [] s.peers
 (.app 464 Itm.v [] s.items
 (.cmd (.frzE 464 (s.items.map Itm.v) (pureBL_map (fun _=>rfl) s.items)) (.cmd (.frzE 368 (s.peers.map Per.v) (pureBL_map (fun _=>rfl) s.peers)) (.loop 0 (changeR_n0 s changes) (I0) (m0) ((0,s):Int × Spk) [16,288] fun (t0:Int × Spk) =>
 (.br 18 (.el 18 Wnt.v changes fun x1 =>
 (.callP (findI_c t0.2.items x1.grp)
 (.callP (FSame_c (⟨(told t0.2.items x1.grp).1,(told t0.2.items x1.grp).2⟩:Flt) (⟨x1.mode,x1.srcs⟩:Flt))
 (.br 210 (.back 0 ((W (t0.1 + 1),t0.2):Int × Spk) [0,1])
 (.req 434 (t0.2.items.length ≤ 999999) fun h2 =>
 (.callP (putR_c t0.2.items (⟨W (t0.2.last + 1),x1.grp,x1.mode,x1.srcs⟩:Itm) h2)
 (.back 0 ((W (t0.1 + 1),(⟨t0.2.router,t0.2.epoch,W (t0.2.last + 1),put1 t0.2.items (⟨W (t0.2.last + 1),x1.grp,x1.mode,x1.srcs⟩:Itm),t0.2.peers⟩:Spk)):Int × Spk) [0,1])))))))
 (.br 66 (.ret ((⟨0,0,0,[],[]⟩:Spk),3))
 (.ret (t0.2,0))))))))))))):An Tryz.prog changeR_s (Spk × Int)) r0 = changeR_vc s changes I0 m0 r0:=by kernel_rfl
theorem changeR_ok (s:Spk) (changes:(List Wnt)) (I0:(Int × Spk) → Prop) (m0:(Int × Spk) → Nat) (r0:Spk × Int) (h:changeR_vc s changes I0 m0 r0):PSpec Tryz.prog 17 [.agg [.int s.router,.int s.epoch,.int s.last,.sl 4 (s.items.map Itm.v) false,.sl 3 (s.peers.map Per.v) false],.sl 3 (changes.map Wnt.v) false] (changeR_e r0):=by
  have e:=changeR_eq s changes I0 m0 r0
  rw [← e] at h
  exact mxP_ok (enc:=changeR_e) h (AV.pureB_ok rfl)
theorem changeR_p (s:Spk) (c:List Wnt) (ok:changeR_a s c):∃ I m,changeR_vc s c I m (change s c):=by
  refine ⟨fun t=>∃ j:Nat,t.1 = j ∧ j ≤ c.length ∧ t.2 = ⟨s.router,s.epoch,((c.take j).foldl chg1 (s.last,s.items)).1,((c.take j).foldl chg1 (s.last,s.items)).2,s.peers⟩,fun t=>c.length - t.1.toNat,?_⟩
  simp only [changeR_vc,vcU,rfU,List.length_map]
  have hv:valS s = if spkOk s then 0 else 1:=rfl
  rw [hv,applyG_err]
  unfold change
  by_cases h1:spkOk s
  case neg=>rw [if_neg h1,if_pos h1]; simp [spk0]
  rw [if_pos h1,if_neg (not_not_intro h1)]
  refine ⟨fun q=>by simp at q,fun _=>⟨fun h2=>?_,fun h2=>?_⟩⟩
  · have h2:wErr true c ≠ 0:=by simpa using h2
    rw [if_pos h2]; rfl
  have h2:wErr true c = 0:=by simpa using h2
  rw [if_neg (not_not_intro h2)]
  have hp:=h1.2.2.2.2.1
  have hi:=itms_len h1.2.2.2.1
  have hl:=h1.2.2.1
  have hcl:=(wErr_zero.mp h2).1
  refine ⟨by omega,by omega,⟨0,rfl,by omega,rfl⟩,?_⟩
  rintro ⟨_,_⟩ ⟨j,rfl,hj,rfl⟩
  obtain ⟨b1,b2,b3⟩:=chg_take_len h1 h2 j
  simp only [Int.toNat_natCast]
  refine ⟨fun h3=>⟨by omega,by omega,fun x hx=>?_⟩,fun h3=>?_⟩
  · rw [W_succ (n:=c.length) (by omega) (by omega)]
    have e:(c.take (j + 1)).foldl chg1 (s.last,s.items) = chg1 ((c.take j).foldl chg1 (s.last,s.items)) x:=by rw [take_succ hx,List.foldl_append]; rfl
    generalize (c.take j).foldl chg1 (s.last,s.items) = u at *
    refine ⟨fun q=>⟨⟨j + 1,rfl,by omega,?_⟩,by omega⟩,fun q=>⟨by omega,⟨j + 1,rfl,by omega,?_⟩,by omega⟩⟩
    · rw [e,chg1,if_pos]
      have q:(told u.2 x.grp).1 = x.mode ∧ (told u.2 x.grp).2 = x.srcs:=by simpa [FSame,flt_eq] using q
      rw [← q.1,← q.2]
    · rw [e,chg1,if_neg,W_eq (by omega)]
      intro z
      have z1:=congrArg Prod.fst z
      have z2:=congrArg Prod.snd z
      simp [FSame,flt_eq] at q z1 z2
      exact q z1 z2
  · rw [List.take_of_length_le (by omega)]
    refine ⟨fun q=>?_,fun q=>?_⟩
    · rw [if_pos q]; rfl
    · rw [if_neg q]
def changeR_c (s:Spk) (changes:(List Wnt)):PC Tryz.prog:=⟨17,[(.a [.k,.k,.k,(.s 4),(.s 3)]),(.s 3)],[.agg [.int s.router,.int s.epoch,.int s.last,.sl 4 (s.items.map Itm.v) false,.sl 3 (s.peers.map Per.v) false],.sl 3 (changes.map Wnt.v) false],changeR_e (change s changes),PSpec.of_ok fun ok=>(changeR_p s changes ok).elim fun I0 h=>h.elim fun m0 h=>changeR_ok s changes I0 m0 _ h,fnB_ok (by kernel_rfl)⟩
def wantsR_a (l:(List Itm)):Prop:=okL [.sl 4 (l.map Itm.v) false]
def wantsR_n0 (l:(List Itm)) (t0:Int × (List Wnt)):NF:=⟨[(0,.k,.sl 4 (l.map Itm.v) false),(3,.k,.vec 0),(4,.k,.int t0.1)],[.vec 3 (t0.2.map Wnt.v) (pureBL_map (fun _=>rfl) t0.2)]⟩
def wantsR_s:Nat → Type
  | 0=>Int × (List Wnt)
  | _=>Unit
def wantsR_e (r:(List Wnt)):AV:=.sl 3 (r.map Wnt.v) false
def wantsR_vc (l:(List Itm)) (I0:(Int × (List Wnt)) → Prop) (m0:(Int × (List Wnt)) → Nat) (r0:(List Wnt)):Prop:=
 Cl (itemsR_c l 1000000)
 (br (!(itemsB l 1000000))
 (Rf (wantsR_e ([])) (([]) = r0))
 (Nf (wantsR_n0 l (1,[])) [96] (I0 (1,[])) ∧ ∀ t0:Int × (List Wnt),I0 t0 →
 br (decide (t0.1 ≤ 99))
 (Cl (findI_c l t0.1)
 (Cl (Nothing_c )
 (Cl (FSame_c (⟨(told l t0.1).1,(told l t0.1).2⟩:Flt) (⟨1,[]⟩:Flt))
 (br (!(FSame (⟨(told l t0.1).1,(told l t0.1).2⟩:Flt) (⟨1,[]⟩:Flt)))
 (Rf (α:=List AV) (t0.2.map Wnt.v) (Rf (α:=List AV) [.agg [.int t0.1,.int ((⟨(told l t0.1).1,(told l t0.1).2⟩:Flt).mode),.sl 1 (((⟨(told l t0.1).1,(told l t0.1).2⟩:Flt).srcs).map AV.int) false]]
 (ck (decide (t0.2.length + 1 ≤ 1000000))
 (Nf (wantsR_n0 l (W (t0.1 + 1),t0.2 ++ [(⟨t0.1,(⟨(told l t0.1).1,(told l t0.1).2⟩:Flt).mode,(⟨(told l t0.1).1,(told l t0.1).2⟩:Flt).srcs⟩:Wnt)])) [257] (I0 (W (t0.1 + 1),t0.2 ++ [(⟨t0.1,(⟨(told l t0.1).1,(told l t0.1).2⟩:Flt).mode,(⟨(told l t0.1).1,(told l t0.1).2⟩:Flt).srcs⟩:Wnt)]) ∧ m0 (W (t0.1 + 1),t0.2 ++ [(⟨t0.1,(⟨(told l t0.1).1,(told l t0.1).2⟩:Flt).mode,(⟨(told l t0.1).1,(told l t0.1).2⟩:Flt).srcs⟩:Wnt)]) < m0 t0)))))
 (Nf (wantsR_n0 l (W (t0.1 + 1),t0.2)) [0] (I0 (W (t0.1 + 1),t0.2) ∧ m0 (W (t0.1 + 1),t0.2) < m0 t0))))))
 (Rf (t0.2.map Wnt.v) (Rf (wantsR_e (t0.2)) ((t0.2) = r0)))))
theorem wantsR_eq (l:(List Itm)) (I0:(Int × (List Wnt)) → Prop) (m0:(Int × (List Wnt)) → Nat) (r0:(List Wnt)):mxP Tryz.prog 13 [.sl 4 (l.map Itm.v) false] (.s 3) wantsR_e ((.callP (itemsR_c l 1000000)
 (.br 64 (.ret ([]))
 (.cmdL (.nilT 3 3) (.loop 0 (wantsR_n0 l) (I0) (m0) ((1,[]):Int × (List Wnt)) [96] fun (t0:Int × (List Wnt)) =>
 (.br 33 (.callP (findI_c l t0.1)
 (.callP (Nothing_c )
 (.callP (FSame_c (⟨(told l t0.1).1,(told l t0.1).2⟩:Flt) (⟨1,[]⟩:Flt))
 (.br 177 (.app 257 Wnt.v t0.2 [(⟨t0.1,(⟨(told l t0.1).1,(told l t0.1).2⟩:Flt).mode,(⟨(told l t0.1).1,(told l t0.1).2⟩:Flt).srcs⟩:Wnt)]
 (.back 0 ((W (t0.1 + 1),t0.2 ++ [(⟨t0.1,(⟨(told l t0.1).1,(told l t0.1).2⟩:Flt).mode,(⟨(told l t0.1).1,(told l t0.1).2⟩:Flt).srcs⟩:Wnt)]):Int × (List Wnt)) [257]))
 (.back 0 ((W (t0.1 + 1),t0.2):Int × (List Wnt)) [0])))))
 (.cmdL (.frzE 0 (t0.2.map Wnt.v) (pureBL_map (fun _=>rfl) t0.2)) (.ret (t0.2)))))))):An Tryz.prog wantsR_s ((List Wnt))) r0 = wantsR_vc l I0 m0 r0:=by kernel_rfl
theorem wantsR_ok (l:(List Itm)) (I0:(Int × (List Wnt)) → Prop) (m0:(Int × (List Wnt)) → Nat) (r0:(List Wnt)) (h:wantsR_vc l I0 m0 r0):PSpec Tryz.prog 13 [.sl 4 (l.map Itm.v) false] (wantsR_e r0):=by
  have e:=wantsR_eq l I0 m0 r0
  rw [← e] at h
  exact mxP_ok (enc:=wantsR_e) h (AV.pureB_ok rfl)
theorem wantsR_p (l:List Itm) (ok:wantsR_a l):∃ I m,wantsR_vc l I m (wantsOf l):=by
  refine ⟨fun t=>∃ k:Nat,t.1 = (k:Int) + 1 ∧ k ≤ 99 ∧ t.2 = fromF (told l) k,fun t=>100 - t.1.toNat,?_⟩
  simp only [wantsR_vc,vcU,rfU,List.length_map]
  simp only [itemsB,Bool.not_eq_true',decide_eq_false_iff_not,Bool.not_eq_false',decide_eq_true_iff]
  refine ⟨fun h=>by rw [wantsOf,if_neg h],fun h=>⟨⟨0,rfl,by omega,rfl⟩,?_⟩⟩
  rintro ⟨_,_⟩ ⟨k,rfl,hk,rfl⟩
  have hlen:=fromF_len (f:=told l) k
  simp only
  have hw:(k:Int) + 1 ≤ 99 → W ((k:Int) + 1 + 1) = ((k + 1:Nat):Int) + 1:=fun _=>by rw [W_eq (by omega)]; omega
  refine ⟨fun h1=>⟨fun q=>⟨by omega,?_⟩,fun q=>?_⟩,fun h1=>?_⟩
  · rw [hw h1]
    refine ⟨⟨k + 1,rfl,by omega,?_⟩,by omega⟩
    rw [fromF,from1,if_neg]
    intro e
    have e1:=congrArg Prod.fst e
    have e2:=congrArg Prod.snd e
    simp only at e1 e2
    simp [FSame,flt_eq,e1,e2] at q
  · rw [hw h1]
    refine ⟨⟨k + 1,rfl,by omega,?_⟩,by omega⟩
    have e:(told l ((k:Int) + 1)).1 = 1 ∧ (told l ((k:Int) + 1)).2 = []:=by simpa [FSame,flt_eq] using q
    rw [fromF,from1,if_pos,List.append_nil]
    exact Prod.ext e.1 e.2
  · have:k = 99:=by omega
    subst this
    rw [wantsOf,if_pos h]
def wantsR_c (l:(List Itm)):PC Tryz.prog:=⟨13,[(.s 4)],[.sl 4 (l.map Itm.v) false],wantsR_e (wantsOf l),PSpec.of_ok fun ok=>(wantsR_p l ok).elim fun I0 h=>h.elim fun m0 h=>wantsR_ok l I0 m0 _ h,fnB_ok (by kernel_rfl)⟩
def idxP (l:List Per) (r:Int):Int:=match l.findIdx? fun p=>decide (p.router = r) with
  | some i=>i
  | none=>-1
theorem idxP_some {l:List Per} {r:Int} {i:Nat} {x:Per} (hx:l[i]? = some x) (h:x.router = r) (hb:∀ y ∈ l.take i,y.router ≠ r):idxP l r = i:=by
  obtain ⟨hi,hxi⟩:=List.getElem?_eq_some_iff.mp hx
  have:l.findIdx? (fun p=>decide (p.router = r)) = some i:=by
    rw [List.findIdx?_eq_some_iff_getElem]
    refine ⟨hi,by rw [hxi]; simpa using h,fun j hj=>?_⟩
    have:=hb l[j] (List.mem_of_getElem? (i:=j) (by rw [List.getElem?_take,if_pos hj,List.getElem?_eq_getElem (by omega)]))
    simpa using this
  unfold idxP; rw [this]
theorem idxP_none {l:List Per} {r:Int} (hb:∀ y ∈ l,y.router ≠ r):idxP l r = -1:=by
  have:l.findIdx? (fun p=>decide (p.router = r)) = none:=by
    rw [List.findIdx?_eq_none_iff]
    intro x hx; simpa using hb x hx
  unfold idxP; rw [this]
def peerR_a (s:Spk) (router:Int):Prop:=okL [.agg [.int s.router,.int s.epoch,.int s.last,.sl 4 (s.items.map Itm.v) false,.sl 3 (s.peers.map Per.v) false],.int router]
def peerR_n0 (s:Spk) (router:Int) (t0:Int):NF:=⟨[(1,.k,.int router),(8,.k,.sl 3 (s.peers.map Per.v) false),(9,.k,.int ((s.peers.map Per.v).length:Int)),(10,.k,.int t0)],[]⟩
def peerR_s:Nat → Type
  | 0=>Int
  | _=>Unit
def peerR_e (r:Int):AV:=.int r
def peerR_vc (s:Spk) (router:Int) (I0:Int → Prop) (m0:Int → Nat) (r0:Int):Prop:=
 Nf (peerR_n0 s router (0)) [] (I0 (0)) ∧ ∀ t0:Int,I0 t0 →
 br (decide (t0 < ((s.peers.map Per.v).length:Int)))
 (Rf (s.peers.map Per.v) (ck (decide (0 ≤ t0)) (ck (decide (t0 < (s.peers.length:Int)))
 (∀ x1,s.peers[t0.toNat]? = some x1 →
 br (x1.router == router)
 (Rf (peerR_e (t0)) ((t0) = r0))
 (Nf (peerR_n0 s router (W (t0 + 1))) [] (I0 (W (t0 + 1)) ∧ m0 (W (t0 + 1)) < m0 t0))))))
 (Rf (peerR_e (-1)) ((-1) = r0))
theorem peerR_eq (s:Spk) (router:Int) (I0:Int → Prop) (m0:Int → Nat) (r0:Int):mxP Tryz.prog 61 [.agg [.int s.router,.int s.epoch,.int s.last,.sl 4 (s.items.map Itm.v) false,.sl 3 (s.peers.map Per.v) false],.int router] .k peerR_e ((.loop 0 (peerR_n0 s router) (I0) (m0) ((0):Int) [] fun (t0:Int) =>
 (.br 16 (.el 32 Per.v s.peers fun x1 =>
 (.br 176 (.ret (t0))
 (.back 0 ((W (t0 + 1)):Int) [])))
 (.ret (-1)))):An Tryz.prog peerR_s (Int)) r0 = peerR_vc s router I0 m0 r0:=by kernel_rfl
theorem peerR_ok (s:Spk) (router:Int) (I0:Int → Prop) (m0:Int → Nat) (r0:Int) (h:peerR_vc s router I0 m0 r0):PSpec Tryz.prog 61 [.agg [.int s.router,.int s.epoch,.int s.last,.sl 4 (s.items.map Itm.v) false,.sl 3 (s.peers.map Per.v) false],.int router] (peerR_e r0):=by
  have e:=peerR_eq s router I0 m0 r0
  rw [← e] at h
  exact mxP_ok (enc:=peerR_e) h (AV.pureB_ok rfl)
theorem peerR_p (s:Spk) (r:Int) (ok:peerR_a s r):∃ I m,peerR_vc s r I m (idxP s.peers r):=by
  unfold peerR_a at ok
  refine ⟨fun t=>∃ k:Nat,t = k ∧ k ≤ s.peers.length ∧ ∀ x ∈ s.peers.take k,x.router ≠ r,fun t=>s.peers.length - t.toNat,?_⟩
  simp only [peerR_vc,vcU,rfU,List.length_map]
  have hle:s.peers.length ≤ 9223372036854775807:=by
    have h:=ok
    simp only [Spk.v,pers,AV.ok,okL,List.length_map,maxLen_eq] at h
    omega
  refine ⟨⟨0,rfl,by omega,by simp⟩,?_⟩
  rintro _ ⟨k,rfl,hk,hI⟩
  simp only [Int.toNat_natCast]
  refine ⟨fun h1=>⟨by omega,by omega,fun x hx=>⟨fun e=>?_,fun e=>?_⟩⟩,fun h1=>?_⟩
  · rw [idxP_some hx (by simpa using e) hI]
  · rw [W_succ (n:=s.peers.length) (by omega) (by omega)]
    exact ⟨⟨k + 1,rfl,by omega,(mem_take_succ hx).mpr ⟨hI,by simpa using e⟩⟩,by omega⟩
  · rw [List.take_of_length_le (by omega)] at hI
    rw [idxP_none hI]
def peerR_c (s:Spk) (router:Int):PC Tryz.prog:=⟨61,[(.a [.k,.k,.k,(.s 4),(.s 3)]),.k],[.agg [.int s.router,.int s.epoch,.int s.last,.sl 4 (s.items.map Itm.v) false,.sl 3 (s.peers.map Per.v) false],.int router],peerR_e (idxP s.peers router),PSpec.of_ok fun ok=>(peerR_p s router ok).elim fun I0 h=>h.elim fun m0 h=>peerR_ok s router I0 m0 _ h,fnB_ok (by kernel_rfl)⟩
theorem idxP_asc {l:List Per} {r:Int} (ho:l.Pairwise fun x y=>x.router < y.router):idxP l r = if hitP l r then (posP l r:Int) else -1:=by
  by_cases h:hitP l r
  · rw [if_pos h]
    have h1:l[posP l r]? = some (l[posP l r]'h.1):=List.getElem?_eq_getElem h.1
    have h2:(l[posP l r]'h.1).router = r:=by
      have:=h.2
      rw [List.getD_eq_getElem?_getD,h1] at this
      exact this
    refine idxP_some h1 h2 fun y hy=>?_
    obtain ⟨i,hi,rfl⟩:=List.getElem_of_mem hy
    rw [List.length_take] at hi
    rw [List.getElem_take]
    have:=posK_lt (key:=Per.router) (l:=l) (r:=r) (i:=i) (show i < posP l r by omega) (by omega)
    omega
  · rw [if_neg h]
    exact idxP_none fun y hy e=>h ((hitP_iff ho).mpr ⟨y,hy,e⟩)
end Go.Proofs.YtglfecmdoekabaaGreat

namespace Go.Proofs.YtglfecmdoekabaaGreat
open Go Go.Am
set_option linter.unusedVariables false
set_option linter.unusedSimpArgs false
def sendR_a (s:Spk) (router:Int):Prop:=okL [.agg [.int s.router,.int s.epoch,.int s.last,.sl 4 (s.items.map Itm.v) false,.sl 3 (s.peers.map Per.v) false],.int router]
def sendR_n0 (s:Spk) (router:Int) (t0:Int × Int × (List Sig)):NF:=⟨[(1,.k,.int router),(2,.k,.ref 0 0),(7,.k,.int (idxP s.peers router)),(8,.k,.vec 1),(9,.k,.int t0.1),(32,.k,.sl 4 (s.items.map Itm.v) false),(33,.k,.int ((s.items.map Itm.v).length:Int)),(34,.k,.int t0.2.1)],[.box (.agg [.int s.router,.int s.epoch,.int s.last,.sl 4 (s.items.map Itm.v) false,.sl 3 (s.peers.map Per.v) false]),.vec 10 (t0.2.2.map Sig.v) (pureBL_map (fun _=>rfl) t0.2.2)]⟩
def sendR_s:Nat → Type
  | 0=>Int × Int × (List Sig)
  | _=>Unit
def sendR_e (r:(List Sig) × Int):AV:=.tup [.sl 10 (r.1.map Sig.v) false,.int r.2]
def sendR_vc (s:Spk) (router:Int) (I0:(Int × Int × (List Sig)) → Prop) (m0:(Int × Int × (List Sig)) → Nat) (r0:(List Sig) × Int):Prop:=
 Cl (valR6_c s)
 (br ((valS s) != 0)
 (Rf (sendR_e ([],valS s)) (([],valS s) = r0))
 (Cl (peerR_c s router)
 (br (decide ((idxP s.peers router) < 0))
 (Rf (sendR_e ([],4)) (([],4) = r0))
 (Nf (sendR_n0 s router (0,0,[(⟨1,s.router,router,s.epoch,s.last,0,0,0,0,[]⟩:Sig)])) [0,352] (I0 (0,0,[(⟨1,s.router,router,s.epoch,s.last,0,0,0,0,[]⟩:Sig)])) ∧ ∀ t0:Int × Int × (List Sig),I0 t0 →
 br (decide (t0.2.1 < ((s.items.map Itm.v).length:Int)))
 (Rf (s.items.map Itm.v) (ck (decide (0 ≤ t0.2.1)) (ck (decide (t0.2.1 < (s.items.length:Int)))
 (∀ x1,s.items[t0.2.1.toNat]? = some x1 →
 Rf (s.peers.map Per.v) (ck (decide (0 ≤ (idxP s.peers router))) (ck (decide ((idxP s.peers router) < (s.peers.length:Int)))
 (∀ x2,s.peers[(idxP s.peers router).toNat]? = some x2 →
 br (decide (x2.acked < x1.ver))
 (Rf (α:=List AV) (t0.2.2.map Sig.v) (Rf (α:=List AV) [.agg [.int 2,.int s.router,.int router,.int s.epoch,.int x1.ver,.int t0.1,.int 0,.int x1.grp,.int x1.mode,.sl 1 (x1.srcs.map AV.int) false]]
 (ck (decide (t0.2.2.length + 1 ≤ 1000000))
 (Nf (sendR_n0 s router (x1.ver,W (t0.2.1 + 1),t0.2.2 ++ [(⟨2,s.router,router,s.epoch,x1.ver,t0.1,0,x1.grp,x1.mode,x1.srcs⟩:Sig)])) [0,466] (I0 (x1.ver,W (t0.2.1 + 1),t0.2.2 ++ [(⟨2,s.router,router,s.epoch,x1.ver,t0.1,0,x1.grp,x1.mode,x1.srcs⟩:Sig)]) ∧ m0 (x1.ver,W (t0.2.1 + 1),t0.2.2 ++ [(⟨2,s.router,router,s.epoch,x1.ver,t0.1,0,x1.grp,x1.mode,x1.srcs⟩:Sig)]) < m0 t0)))))
 (Nf (sendR_n0 s router (x1.ver,W (t0.2.1 + 1),t0.2.2)) [0,1] (I0 (x1.ver,W (t0.2.1 + 1),t0.2.2) ∧ m0 (x1.ver,W (t0.2.1 + 1),t0.2.2) < m0 t0)))))))))
 (Rf (t0.2.2.map Sig.v) (Rf (sendR_e (t0.2.2,0)) ((t0.2.2,0) = r0)))))))
theorem sendR_eq (s:Spk) (router:Int) (I0:(Int × Int × (List Sig)) → Prop) (m0:(Int × Int × (List Sig)) → Nat) (r0:(List Sig) × Int):mxP Tryz.prog 23 [.agg [.int s.router,.int s.epoch,.int s.last,.sl 4 (s.items.map Itm.v) false,.sl 3 (s.peers.map Per.v) false],.int router] (.a [(.s 10),.k]) sendR_e ((.callP (valR6_c s)
 (.br 128 (.ret ([],valS s))
 (.callP (peerR_c s router)
 (.br 224 (.ret ([],4))
 (.own 352 (.cmdL (.wkB 352 (.a [.k,.k,.k,.k,.k,.k,.k,.k,.k,(.s 1)])) (.loop 0 (sendR_n0 s router) (I0) (m0) ((0,0,[(⟨1,s.router,router,s.epoch,s.last,0,0,0,0,[]⟩:Sig)]):Int × Int × (List Sig)) [0,352] fun (t0:Int × Int × (List Sig)) =>
 (.br 18 (.el 18 Itm.v s.items fun x1 =>
 (.el 162 Per.v s.peers fun x2 =>
 (.br 226 (.own 450 (.app 466 Sig.v t0.2.2 [(⟨2,s.router,router,s.epoch,x1.ver,t0.1,0,x1.grp,x1.mode,x1.srcs⟩:Sig)]
 (.back 0 ((x1.ver,W (t0.2.1 + 1),t0.2.2 ++ [(⟨2,s.router,router,s.epoch,x1.ver,t0.1,0,x1.grp,x1.mode,x1.srcs⟩:Sig)]):Int × Int × (List Sig)) [0,466])))
 (.back 0 ((x1.ver,W (t0.2.1 + 1),t0.2.2):Int × Int × (List Sig)) [0,1]))))
 (.cmdL (.frzE 1 (t0.2.2.map Sig.v) (pureBL_map (fun _=>rfl) t0.2.2)) (.ret (t0.2.2,0))))))))))):An Tryz.prog sendR_s ((List Sig) × Int)) r0 = sendR_vc s router I0 m0 r0:=by kernel_rfl
theorem sendR_ok (s:Spk) (router:Int) (I0:(Int × Int × (List Sig)) → Prop) (m0:(Int × Int × (List Sig)) → Nat) (r0:(List Sig) × Int) (h:sendR_vc s router I0 m0 r0):PSpec Tryz.prog 23 [.agg [.int s.router,.int s.epoch,.int s.last,.sl 4 (s.items.map Itm.v) false,.sl 3 (s.peers.map Per.v) false],.int router] (sendR_e r0):=by
  have e:=sendR_eq s router I0 m0 r0
  rw [← e] at h
  exact mxP_ok (enc:=sendR_e) h (AV.pureB_ok rfl)
theorem sendR_p (s:Spk) (r:Int) (ok:sendR_a s r):∃ I0 m0,sendR_vc s r I0 m0 (send s r):=by
  let ak:=(s.peers.getD (posP s.peers r) ⟨0,0,0⟩).acked
  refine ⟨fun t=>∃ k:Nat,t.2.1 = k ∧ k ≤ s.items.length ∧ t.2.2.length ≤ k + 1 ∧ hello s r :: sendFrom s r ak 0 s.items = t.2.2 ++ sendFrom s r ak t.1 (s.items.drop k),fun t=>s.items.length - t.2.1.toNat,?_⟩
  simp only [sendR_vc,vcU,rfU,List.length_map]
  have hv:valS s = if spkOk s then 0 else 1:=rfl
  rw [hv]
  by_cases hs:spkOk s
  case neg=>simp [send,hs]
  rw [if_pos hs,idxP_asc hs.2.2.2.2.2.2]
  refine ⟨fun e=>by simp at e,fun _=>⟨fun e=>?_,fun e=>?_⟩⟩
  · rw [send,if_neg (not_not_intro hs),if_pos]
    intro q; rw [if_pos q] at e; omega
  have e:hitP s.peers r:=by
    refine Classical.byContradiction fun q=>e ?_
    rw [if_neg q]; omega
  rw [if_pos e,Int.toNat_natCast]
  have fin:send s r = (hello s r :: sendFrom s r ak 0 s.items,0):=by rw [send,if_neg (not_not_intro hs),if_neg (not_not_intro e)]
  have hil:=itms_len hs.2.2.2.1
  refine ⟨⟨0,rfl,by omega,by simp,rfl⟩,?_⟩
  rintro ⟨prev,_,acc⟩ ⟨k,rfl,hk,hal,h⟩
  simp only [Int.toNat_natCast] at *
  refine ⟨fun h1=>⟨by omega,by omega,fun x hx=>⟨by omega,by have:=e.1; omega,fun y hy=>?_⟩⟩,fun h1=>?_⟩
  · have hy:ak = y.acked:=by show (s.peers.getD (posP s.peers r) ⟨0,0,0⟩).acked = _; rw [getD_some hy]
    have hd:s.items.drop k = x :: s.items.drop (k + 1):=by
      have hkl:=lt_of_get hx
      rw [List.drop_eq_getElem_cons hkl]
      rw [List.getElem?_eq_getElem hkl] at hx; rw [Option.some.inj hx]
    rw [hd,sendFrom] at h
    rw [W_succ (n:=s.items.length) (by omega) (by omega)]
    refine ⟨fun e3=>⟨by omega,⟨k + 1,rfl,by omega,by simp; omega,?_⟩,by omega⟩,fun e3=>⟨⟨k + 1,rfl,by omega,by omega,?_⟩,by omega⟩⟩
    · rw [h,if_pos (by omega)]; simp [upd1]
    · rw [h,if_neg (by omega)]; simp
  · rw [List.drop_eq_nil_of_le (by omega),sendFrom,List.append_nil] at h
    rw [fin,h]
def sendR_c (s:Spk) (router:Int):PC Tryz.prog:=⟨23,[(.a [.k,.k,.k,(.s 4),(.s 3)]),.k],[.agg [.int s.router,.int s.epoch,.int s.last,.sl 4 (s.items.map Itm.v) false,.sl 3 (s.peers.map Per.v) false],.int router],sendR_e (send s router),PSpec.of_ok fun ok=>(sendR_p s router ok).elim fun I0 h=>h.elim fun m0 h=>sendR_ok s router I0 m0 _ h,fnB_ok (by kernel_rfl)⟩
end Go.Proofs.YtglfecmdoekabaaGreat

namespace Go.Proofs.YtglfecmdoekabaaGreat
open Go Go.Am
set_option linter.unusedVariables false
set_option linter.unusedSimpArgs false
def stepT (L:List Int) (p:Nat) (s:Spk):Spk × Nat:=
  if Mod (rawV L (chgT L p).2) 8 = 7 then
    (if (restart s (wantsT L (rawP L (chgT L p).2)).1).2 ≠ 0 then s else (restart s (wantsT L (rawP L (chgT L p).2)).1).1,(wantsT L (rawP L (chgT L p).2)).2)
  else (if (change s (chgT L p).1).2 ≠ 0 then s else (change s (chgT L p).1).1,rawP L (chgT L p).2)
theorem stepT_k {L:List Int} {p:Nat} {s:Spk} (h:spkOk s):spkOk (stepT L p s).1:=by
  unfold stepT
  split
  · simp only
    split
    · exact h
    · rename_i q; exact restart_spkOk (by simpa using q)
  · simp only
    split
    · exact h
    · rename_i q; exact change_spkOk (by simpa using q)
def stepN (L:List Int):Nat → Spk × Nat → Spk × Nat
  | 0,s=>s
  | n + 1,s=>stepN L n (stepT L s.2 s.1)
theorem stepN_k {L:List Int}:∀ {n:Nat} {s:Spk × Nat},spkOk s.1 → spkOk (stepN L n s).1
  | 0,_,h=>h
  | n + 1,_,h=>stepN_k (n:=n) (stepT_k h)
def per1 (L:List Int) (last:Int) (x:Per) (p:Nat):Per × Nat:=
  if Mod (rawV L p) 2 = 0 then (⟨x.router,rng L (rawP L p) 0 3,Mod (rawV L (rawP L (rawP L p))) (W (last + 1))⟩,rawP L (rawP L (rawP L p))) else (x,rawP L p)
def perN (L:List Int) (last:Int):List Per → Nat → List Per × Nat
  | [],p=>([],p)
  | x :: l,p=>((per1 L last x p).1 :: (perN L last l (per1 L last x p).2).1,(perN L last l (per1 L last x p).2).2)
theorem perN_len {L:List Int} {last:Int}:∀ {l:List Per} {p:Nat},(perN L last l p).1.length = l.length
  | [],_=>rfl
  | x :: l,p=>by simp [perN,perN_len (l:=l)]
theorem perN_append {L:List Int} {last:Int} {m:List Per}:∀ {l:List Per} {p:Nat},
    perN L last (l ++ m) p = ((perN L last l p).1 ++ (perN L last m (perN L last l p).2).1,(perN L last m (perN L last l p).2).2)
  | [],_=>rfl
  | x :: l,p=>by simp [perN,perN_append (l:=l)]
theorem per1_router {L:List Int} {last:Int} {x:Per} {p:Nat}:(per1 L last x p).1.router = x.router:=by unfold per1; split <;> rfl
theorem perN_routers {L:List Int} {last:Int}:∀ {l:List Per} {p:Nat},(perN L last l p).1.map Per.router = l.map Per.router
  | [],_=>rfl
  | x :: l,p=>by simp [perN,perN_routers (l:=l),per1_router]
theorem per1_ok {L:List Int} {r last:Int} {x:Per} {p:Nat} (h0:0 ≤ last ∧ last ≤ 1000000) (h:perOk r last x):perOk r last (per1 L last x p).1:=by
  unfold per1
  split
  · obtain ⟨h1,h2,h3,h4⟩:=h
    have a:=rng_in (L:=L) (p:=rawP L p) (lo:=0) (hi:=3) (by omega)
    rw [W_eq (by omega)]
    have b:=Mod_range (x:=rawV L (rawP L (rawP L p))) (n:=last + 1) (by omega)
    exact ⟨h1,h2,⟨by simp only; omega,by simp only; omega⟩,by simp only; omega,by simp only; omega⟩
  · exact h
theorem perN_ok {L:List Int} {r last:Int} (h0:0 ≤ last ∧ last ≤ 1000000):∀ {l:List Per} {p:Nat},(∀ x ∈ l,perOk r last x) → ∀ x ∈ (perN L last l p).1,perOk r last x
  | [],_,_,_,hx=>by simp [perN] at hx
  | y :: l,p,h,x,hx=>by
    rcases List.mem_cons.mp hx with rfl | hx
    · exact per1_ok h0 (h y (by simp))
    · exact perN_ok h0 (fun z hz=>h z (by simp [hz])) x hx
def spk1 (L:List Int) (p:Nat):Spk:=
  (new (rng L p 1 4) (pickI [1,1,5,999999] (rawV L (rawP L p))) (([7,8,9]:List Int).take (rng L (rawP L (rawP L p)) 0 3).toNat)).1
def spk2 (L:List Int) (p:Nat):Spk × Nat:=
  stepN L (Mod (rawV L (rawP L (rawP L (rawP L p)))) 6).toNat (spk1 L p,rawP L (rawP L (rawP L (rawP L p))))
def spkT (L:List Int) (p:Nat):Spk × Nat:=
  (⟨(spk2 L p).1.router,(spk2 L p).1.epoch,(spk2 L p).1.last,(spk2 L p).1.items,(perN L (spk2 L p).1.last (spk2 L p).1.peers (spk2 L p).2).1⟩,(perN L (spk2 L p).1.last (spk2 L p).1.peers (spk2 L p).2).2)
theorem perOk_old {r:Int} (h:1 ≤ r ∧ r ≤ 4):∀ x ∈ ([7,8,9]:List Int),perOk r 0 ⟨x,0,0⟩:=by
  intro x hx
  simp at hx
  rcases hx with rfl | rfl | rfl <;> exact ⟨by decide,by simp only; omega,by decide,by decide⟩
theorem spk1_ok {L:List Int} {p:Nat}:spkOk (spk1 L p):=by
  have h1:=rng_in (L:=L) (p:=p) (lo:=1) (hi:=4) (by omega)
  have h2:pickI [1,1,5,999999] (rawV L (rawP L p)) ∈ ([1,1,5,999999]:List Int):=pickI_mem (by simp) _
  have h3:1 ≤ pickI [1,1,5,999999] (rawV L (rawP L p)) ∧ pickI [1,1,5,999999] (rawV L (rawP L p)) ≤ 1000000:=by
    generalize pickI [1,1,5,999999] (rawV L (rawP L p)) = z at *
    simp at h2
    omega
  unfold spk1
  generalize pickI [1,1,5,999999] (rawV L (rawP L p)) = k at *
  generalize rng L p 1 4 = r at *
  generalize (rng L (rawP L (rawP L p)) 0 3).toNat = n
  have ok:spkOk ⟨r,k,0,[],(([7,8,9]:List Int).take n).map fun x=>⟨x,0,0⟩⟩:=by
    refine ⟨by simp only; omega,h3,⟨Int.le_refl _,by simp⟩,⟨by simp,by simp,by simp⟩,?_,?_,?_⟩
    · simp only [List.length_map,List.length_take,List.length_cons,List.length_nil]; omega
    · intro q hq
      obtain ⟨x,hx,rfl⟩:=List.mem_map.mp hq
      exact perOk_old h1 x (List.mem_of_mem_take hx)
    · rw [List.pairwise_map]
      exact List.Pairwise.take (by decide)
  have e:new r k (([7,8,9]:List Int).take n) = if spkOk ⟨r,k,0,[],(([7,8,9]:List Int).take n).map fun x=>⟨x,0,0⟩⟩ then (⟨r,k,0,[],(([7,8,9]:List Int).take n).map fun x=>⟨x,0,0⟩⟩,0) else (spk0,1):=rfl
  rw [e,if_pos ok]
  exact ok
theorem spk2_ok {L:List Int} {p:Nat}:spkOk (spk2 L p).1:=stepN_k spk1_ok
theorem spkT_k {L:List Int} {p:Nat}:spkOk (spkT L p).1:=by
  obtain ⟨h1,h2,h3,h4,h5,h6,h7⟩:=spk2_ok (L:=L) (p:=p)
  refine ⟨h1,h2,h3,h4,by simpa [spkT,perN_len] using h5,perN_ok h3 h6,?_⟩
  have e:(perN L (spk2 L p).1.last (spk2 L p).1.peers (spk2 L p).2).1.map Per.router = (spk2 L p).1.peers.map Per.router:=perN_routers
  rw [← List.pairwise_map (f:=Per.router) (R:=(· < ·))] at h7
  show List.Pairwise _ (perN L (spk2 L p).1.last (spk2 L p).1.peers (spk2 L p).2).1
  rw [← List.pairwise_map (f:=Per.router) (R:=(· < ·)),e]
  exact h7
end Go.Proofs.YtglfecmdoekabaaGreat
