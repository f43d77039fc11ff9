/- Texts joined: G16 G18 G19 U3 U4 U5 G17 G20 G21 G22 U7. -/
import Derived.Test.YtgnogboljobocaaGreatDoorSh
import Derived.Test.YtgnogboljobocaaGreatDoorChecked
import Derived.Test.YtgnogboljobocaaGreatDoorQH6
namespace Go.Proofs.YtgnogboljobocaaGreatDoor
open Go Go.Am
set_option linter.unusedVariables false
set_option linter.unusedSimpArgs false
open Go.Shelf Go.RowKit Go.Lib Go.Sort in
theorem cmpW_calls(a b:Int)(x1 x2 y1 y2:Value)(w:World)(hx:x1.oneCell'=true∧x2.oneCell'=true)(hy:y1.oneCell'=true∧y2.oneCell'=true) :
    Calls Tryz.prog 155 #[.agg #[.int .i64 a,x1,x2],.agg #[.int .i64 b,y1,y2]] w fun e w'=>e=.returned (.int .i64 (Lib.compareInt a b))∧∃q os',w'=grow (w.drewN q) os':=by
  have hcon:=fun W'=>AnyG.cmp_Compare_int Tryz.cmpI a b W'
  change ∀W',Calls Tryz.prog 156 _ _ _ at hcon
  generalize Lib.compareInt a b=r at hcon ⊢
  go_enter Tryz.func155,Tryz.ntmps155
  go_wp2_with (go_at_call 156;refine (hcon _).mono ?_;rintro e w' ⟨rfl,rfl⟩)
  go_ret
  exact ⟨rfl,0,_,by rw [alloc_eq_grow,alloc_eq_grow,grow_grow];rfl⟩
def okSrt(l:List Wnt):Prop:=l.length≤1000000∧l.Pairwise fun a b=>a.grp≠b.grp
def srtW(l:List Wnt):List Wnt:=l.mergeSort fun a b=>decide (a.grp≤b.grp)
theorem srtW_perm(l:List Wnt):(srtW l).Perm l:=List.mergeSort_perm _ _
theorem srtW_asc{l:List Wnt}(h:okSrt l):(srtW l).Pairwise fun a b=>a.grp<b.grp:=by
  have h1:(srtW l).Pairwise fun a b=>decide (a.grp≤b.grp)=true:=List.pairwise_mergeSort (fun a b c h1 h2=>by simp at *;omega) (fun a b=>by simp;omega) l
  have h2:(srtW l).Pairwise fun a b=>a.grp≠b.grp:=(List.Perm.pairwise_iff (fun h=>Ne.symm h) (srtW_perm l)).mpr h.2
  exact (h1.and h2).imp fun ⟨h1,h2⟩=>by simp at h1;omega
open Go.Shelf Go.RowKit Go.Lib Go.Sort in
theorem sortW_spec(l:List Wnt)(h:okSrt l):HSpec Tryz.prog 154 [.vec 0,.func 155 []] [.vec 3 (l.map Wnt.v)] (.tup []) [some (.vec 3 ((srtW l).map Wnt.v))]:=by
  refine sort_hspec Tryz.sortW Wnt.v Wnt.grp 3 (by omega) (fun _=>by kernel_rfl) (fun _=>by kernel_rfl) (fun x=>⟨_,rfl⟩) 155 (enters_of Tryz.func155 (by kernel_rfl) rfl) ?_ l (srtW l) (srtW_perm l) (srtW_asc h) h.1
  intro a b xs ys w hx hy ox oy
  match xs,hx with
  | [x1,x2],_ =>
  match ys,hy with
  | [y1,y2],_=>exact cmpW_calls a b x1 x2 y1 y2 w ⟨ox x1 (by simp),ox x2 (by simp)⟩ ⟨oy y1 (by simp),oy y2 (by simp)⟩
def sortW_h(l:List Wnt)(h:okSrt l):HC Tryz.prog:=⟨154,[.k,.k],[.vec 0,.func 155 []],[.vec 3 (l.map Wnt.v)],.tup [],[some (.vec 3 ((srtW l).map Wnt.v))],sortW_spec l h,fnB_ok (by kernel_rfl),
  HcOk.of (by simp [hcB,belBL,AV.belB,allB,okBk,okBkO,pureBL_map (v:=Wnt.v) (fun _=>rfl)])⟩
def noF2(f:Flt):Bool:=f.mode==1 && (f.srcs.length:Int)==0
theorem noF2_iff{f:Flt}:noF2 f=true↔f.mode=1∧f.srcs=[]:=by
  simp [noF2]
def noF2_a(f:Flt):Prop:=okL [.agg [.int f.mode,.sl 1 (f.srcs.map AV.int) false]]
def noF2_s:Nat→Type
  | _=>Unit
def noF2_e(r:Bool):AV:=.bool r
def noF2_vc(f:Flt)(r0:Bool):Prop:=
 br (f.mode==1)
 (Rp noF2_e (((f.srcs.map AV.int).length:Int)==0) r0)
 (Rp noF2_e (false) r0)
theorem noF2_ok(f:Flt)(r0:Bool)(h:noF2_vc f r0):PSpec Tryz.prog 153 [.agg [.int f.mode,.sl 1 (f.srcs.map AV.int) false]] (noF2_e r0):=mxP_of (sh:=.k) (a:=((.br 96 (.ret (((f.srcs.map AV.int).length:Int)==0))
 (.ret (false))):An Tryz.prog noF2_s (Bool))) h (by kernel_rfl) (AV.pureB_ok rfl)
theorem noF2_p(f:Flt)(ok:noF2_a f):noF2_vc f (noF2 f):=by
  simp only [noF2_vc,vcU,rfU,List.length_map]
  by_cases h:f.mode=1<;>simp [noF2,h]
def noF2_c(f:Flt):PC Tryz.prog:=⟨153,[(.a [.k,(.s 1)])],[.agg [.int f.mode,.sl 1 (f.srcs.map AV.int) false]],noF2_e (noF2 f),PSpec.of_ok fun ok=>noF2_ok f _ (noF2_p f ok),fnB_ok (by kernel_rfl)⟩
def wOf(l:List Itm):List Wnt:=(l.filter fun x=>!noF2 ⟨x.mode,x.srcs⟩).map fun x=>⟨x.grp,x.mode,x.srcs⟩
theorem wOf_snoc(l:List Itm)(x:Itm):wOf (l++[x])=if noF2 ⟨x.mode,x.srcs⟩=true then wOf l else wOf l++[⟨x.grp,x.mode,x.srcs⟩]:=by
  unfold wOf
  rw [List.filter_append,List.map_append]
  by_cases h:noF2 ⟨x.mode,x.srcs⟩=true
  · rw [if_pos h];simp [List.filter_cons,h]
  · rw [if_neg h];simp [List.filter_cons,h]
theorem wOf_len(l:List Itm):(wOf l).length≤l.length:=by unfold wOf;rw [List.length_map];exact List.length_filter_le _ _
theorem mem_wOf{l:List Itm}{w:Wnt}:w∈wOf l↔∃x∈l,¬(x.mode=1∧x.srcs=[])∧w=⟨x.grp,x.mode,x.srcs⟩:=by
  unfold wOf
  rw [List.mem_map]
  constructor
  · rintro ⟨x,hx,rfl⟩
    obtain ⟨h1,h2⟩:=List.mem_filter.mp hx
    refine ⟨x,h1,fun e=>?_,rfl⟩
    rw [noF2_iff.mpr e] at h2;cases h2
  · rintro ⟨x,hx,h,rfl⟩
    refine ⟨x,List.mem_filter.mpr ⟨hx,?_⟩,rfl⟩
    cases e:noF2 ⟨x.mode,x.srcs⟩ with
    | true=>exact absurd (noF2_iff.mp e) h
    | false=>rfl
theorem wOf_srt{l:List Itm}(h:itmsOk 1000000 l):okSrt (wOf l):=by
  refine ⟨by have:=wOf_len l;have:=itms_len h;omega,?_⟩
  unfold wOf
  rw [List.pairwise_map]
  refine List.Pairwise.filter _ ?_
  have:=h.2.1
  rw [List.Nodup,List.pairwise_map] at this
  exact this
theorem wants_srt{l:List Itm}(h:itmsOk 1000000 l):srtW (wOf l)=wantsOf l:=by
  rw [wantsOf,if_pos h]
  refine ascW_ext (srtW_asc (wOf_srt h)) (fromF_asc 99) fun w=>?_
  rw [(srtW_perm _).mem_iff,mem_wOf,mem_fromF]
  constructor
  · rintro ⟨x,hx,h1,rfl⟩
    have:=told_in h.2.1 hx
    refine ⟨by have:=(h.1 x hx).2.1;simp only;omega,this,?_⟩
    simp only
    rw [this]
    intro e
    simp only [Prod.mk.injEq] at e
    exact h1 e
  · rintro ⟨_,h1,h2⟩
    obtain ⟨x,hx,e1,e2⟩:=told_some h2
    rw [h1] at e2
    simp only [Prod.mk.injEq] at e2
    refine ⟨x,hx,fun e=>h2 ?_,?_⟩
    · rw [h1,e2.1,e2.2,e.1,e.2]
    · cases w;simp only at e1 e2;rw [e1,e2.1,e2.2]
def wantsF_a(l:(List Itm)):Prop:=okL [.sl 4 (l.map Itm.v) false]
def wantsF_n0(l:(List Itm))(t0:Int×(List Wnt)):NF:=⟨[(3,.k,.vec 0),(9,.k,.sl 4 (l.map Itm.v) false),(10,.k,.int ((l.map Itm.v).length:Int)),(11,.k,.int t0.1)],[.vec 3 (t0.2.map Wnt.v) (pureBL_map (fun _=>rfl) t0.2)]⟩
def wantsF_s:Nat→Type
  | 0=>Int×(List Wnt)
  | _=>Unit
def wantsF_e(r:(List Wnt)):AV:=.sl 3 (r.map Wnt.v) false
def wantsF_vc(l:(List Itm))(I0:(Int×(List Wnt))→Prop)(m0:(Int×(List Wnt))→Nat)(r0:(List Wnt)):Prop:=
 Cl (itemsB_c l 1000000)
 (br (!(itemsB l 1000000))
 (Rp wantsF_e ([]) r0)
 (Be (wantsF_n0 l) [128] I0 (0,[])∧∀t0,I0 t0 →
 br (decide (t0.1<((l.map Itm.v).length:Int)))
 (Rf (l.map Itm.v) (ck (decide (0≤t0.1)) (ck (decide (t0.1<(l.length:Int)))
 (∀x1,l[t0.1.toNat]?=some x1 →
 Cl (noF2_c (⟨x1.mode,x1.srcs⟩:Flt))
 (br (!(noF2 (⟨x1.mode,x1.srcs⟩:Flt)))
 (∃h2:(⟨x1.mode,x1.srcs⟩:Flt).srcs.length≤1000000,
 Cl (filtered_c (⟨x1.mode,x1.srcs⟩:Flt) h2)
 (Rf (α:=List AV) (t0.2.map Wnt.v) (Rf (α:=List AV) [.agg [.int x1.grp,.int x1.mode,.sl 1 (x1.srcs.map AV.int) false]]
 (ck (decide (t0.2.length+1≤1000000))
 (Bk (wantsF_n0 l) [273] I0 m0 (W (t0.1+1),t0.2++[(⟨x1.grp,x1.mode,x1.srcs⟩:Wnt)]) t0)))))
 (Bk (wantsF_n0 l) [0] I0 m0 (W (t0.1+1),t0.2) t0))))))
 (∃h3:okSrt t0.2,
 Ch (sortW_h t0.2 h3) [0] 33
 (Rf ((srtW t0.2).map Wnt.v) (Rp wantsF_e (srtW t0.2) r0)))))
theorem wantsF_ok(l:(List Itm))(I0:(Int×(List Wnt))→Prop)(m0:(Int×(List Wnt))→Nat)(r0:(List Wnt))(h:wantsF_vc l I0 m0 r0):PSpec Tryz.prog 62 [.sl 4 (l.map Itm.v) false] (wantsF_e r0):=mxP_of (sh:=(.s 3)) (a:=((.callP (itemsB_c l 1000000)
 (.br 64 (.ret ([]))
 (.cmdL (.nilT 3 3) (.loop 0 (wantsF_n0 l) (I0) (m0) ((0,[]):Int×(List Wnt)) [128] fun (t0:Int×(List Wnt)) =>
 (.br 17 (.el 17 Itm.v l fun x1 =>
 (.callP (noF2_c (⟨x1.mode,x1.srcs⟩:Flt))
 (.br 145 (.req 225 ((⟨x1.mode,x1.srcs⟩:Flt).srcs.length≤1000000) fun h2 =>
 (.callP (filtered_c (⟨x1.mode,x1.srcs⟩:Flt) h2)
 (.app 273 Wnt.v t0.2 [(⟨x1.grp,x1.mode,x1.srcs⟩:Wnt)]
 (.back 0 ((W (t0.1+1),t0.2++[(⟨x1.grp,x1.mode,x1.srcs⟩:Wnt)]):Int×(List Wnt)) [273]))))
 (.back 0 ((W (t0.1+1),t0.2):Int×(List Wnt)) [0]))))
 (.req 33 (okSrt t0.2) fun h3 =>
 (.callH [0] (sortW_h t0.2 h3)
 (.cmdL (.frzE 0 ((srtW t0.2).map Wnt.v) (pureBL_map (fun _=>rfl) (srtW t0.2))) (.ret (srtW t0.2)))))))))):An Tryz.prog wantsF_s ((List Wnt)))) h (by kernel_rfl) (AV.pureB_ok rfl)
theorem wantsF_p(l:List Itm)(ok:wantsF_a l):∃I m,wantsF_vc l I m (wantsOf l):=by
  refine ⟨fun t=>∃k:Nat,t.1=k∧k≤l.length∧t.2=wOf (l.take k),fun t=>l.length-t.1.toNat,?_⟩
  simp only [wantsF_vc,vcU,rfU,List.length_map]
  simp only [itemsB,Bool.not_eq_true',decide_eq_false_iff_not,Bool.not_eq_false',decide_eq_true_iff]
  refine ⟨fun h=>by rw [wantsOf,if_neg h],fun h=>⟨⟨0,rfl,by omega,rfl⟩,?_⟩⟩
  rintro ⟨_,ws⟩ ⟨k,rfl,hk,rfl⟩
  have hl:=itms_len h
  simp only [Int.toNat_natCast]
  refine ⟨fun h1=>⟨by omega,by omega,fun x hx=>?_⟩,fun h1=>?_⟩
  · have hs:=srcs_len (h.1 x (mem_of_get hx)).2.2
    have hw:=wOf_len (l.take k)
    rw [List.length_take] at hw
    rw [W_succ (n:=l.length) (by omega) (by omega)]
    refine ⟨fun e=>⟨by omega,by omega,⟨k+1,rfl,by omega,?_⟩,by omega⟩,fun e=>⟨⟨k+1,rfl,by omega,?_⟩,by omega⟩⟩
    · rw [take_succ hx,wOf_snoc,if_neg (by simp [e])]
    · rw [take_succ hx,wOf_snoc,if_pos e]
  · have e:l.take k=l:=List.take_of_length_le (by omega)
    rw [e]
    exact ⟨wOf_srt h,by rw [wants_srt h]⟩
def wantsF_c(l:(List Itm)):PC Tryz.prog:=⟨62,[(.s 4)],[.sl 4 (l.map Itm.v) false],wantsF_e (wantsOf l),PSpec.of_ok fun ok=>(wantsF_p l ok).elim fun I0 h=>h.elim fun m0 h=>wantsF_ok l I0 m0 _ h,fnB_ok (by kernel_rfl)⟩
def knownW(l:Lsn)(r:Int):List Wnt:=if lsnOk l∧hitH l.heard r then wantsOf (atH l.heard r).items else []
def knownF_a(l:Lsn)(router:Int):Prop:=okL [.agg [.int l.router,.int l.epoch,.sl 4 (l.heard.map Hrd.v) false],.int router]
def knownF_s:Nat→Type
  | _=>Unit
def knownF_e(r:(List Wnt)):AV:=.sl 3 (r.map Wnt.v) false
def knownF_vc(l:Lsn)(router:Int)(r0:(List Wnt)):Prop:=
 Cl (valL_c l)
 (br ((valL l) != 0)
 (Rp knownF_e ([]) r0)
 (∃h1:l.heard.Pairwise fun x y=>x.router<y.router,
 ∃h2:l.heard.length≤1000000,
 Cl (heard_c l router h1 h2)
 (br (decide (hitH l.heard router))
 (Rf (l.heard.map Hrd.v) (ck (decide (0≤(posH l.heard router:Int))) (ck (decide ((posH l.heard router:Int)<(l.heard.length:Int)))
 (∀x3,l.heard[(posH l.heard router:Int).toNat]?=some x3 →
 Cl (wantsF_c x3.items)
 (Rp knownF_e (wantsOf x3.items) r0)))))
 (Rp knownF_e ([]) r0))))
theorem knownF_ok(l:Lsn)(router:Int)(r0:(List Wnt))(h:knownF_vc l router r0):PSpec Tryz.prog 51 [.agg [.int l.router,.int l.epoch,.sl 4 (l.heard.map Hrd.v) false],.int router] (knownF_e r0):=mxP_of (sh:=(.s 3)) (a:=((.callP (valL_c l)
 (.br 80 (.ret ([]))
 (.req 112 (l.heard.Pairwise fun x y=>x.router<y.router) fun h1 =>
 (.req 112 (l.heard.length≤1000000) fun h2 =>
 (.callP (heard_c l router h1 h2)
 (.br 224 (.el 272 Hrd.v l.heard fun x3 =>
 (.callP (wantsF_c x3.items)
 (.ret (wantsOf x3.items))))
 (.ret ([])))))))):An Tryz.prog knownF_s ((List Wnt)))) h (by kernel_rfl) (AV.pureB_ok rfl)
theorem knownF_p(l:Lsn)(r:Int)(ok:knownF_a l r):knownF_vc l r (knownW l r):=by
  simp only [knownF_vc,vcU,rfU,List.length_map]
  have hv:valL l=if lsnOk l then 0 else 1:=rfl
  rw [hv]
  by_cases h:lsnOk l
  · rw [if_pos h]
    refine ⟨fun e=>by simp at e,fun _=>⟨h.2.2.2.2,by have:=h.2.2.1;omega,fun q=>⟨by omega,by have:=q.1;omega,fun x hx=>?_⟩,fun q=>by rw [knownW,if_neg fun e=>q e.2]⟩⟩
    rw [Int.toNat_natCast] at hx
    rw [knownW,if_pos ⟨h,q⟩,atH,List.getD_eq_getElem?_getD,hx]
    rfl
  · rw [if_neg h]
    exact ⟨fun _=>by rw [knownW,if_neg fun e=>h e.1],fun e=>by simp at e⟩
def knownF_c(l:Lsn)(router:Int):PC Tryz.prog:=⟨51,[(.a [.k,.k,(.s 4)]),.k],[.agg [.int l.router,.int l.epoch,.sl 4 (l.heard.map Hrd.v) false],.int router],knownF_e (knownW l router),PSpec.of_ok fun ok=>knownF_ok l router _ (knownF_p l router ok),fnB_ok (by kernel_rfl)⟩
end Go.Proofs.YtgnogboljobocaaGreatDoor

namespace Go.Proofs.YtgnogboljobocaaGreatDoor
open Go Go.Am
set_option linter.unusedVariables false
set_option linter.unusedSimpArgs false
def inR(x lo hi:Int):Bool:=decide (lo≤x∧x≤hi)
def inR_a(x:Int)(lo:Int)(hi:Int):Prop:=okL [.int x,.int lo,.int hi]
def inR_s:Nat→Type
  | _=>Unit
def inR_e(r:Bool):AV:=.bool r
def inR_vc(x:Int)(lo:Int)(hi:Int)(r0:Bool):Prop:=
 br (decide (lo≤x))
 (Rp inR_e (decide (x≤hi)) r0)
 (Rp inR_e (false) r0)
theorem inR_ok(x:Int)(lo:Int)(hi:Int)(r0:Bool)(h:inR_vc x lo hi r0):PSpec Tryz.prog 131 [.int x,.int lo,.int hi] (inR_e r0):=mxP_of (sh:=.k) (a:=((.br 80 (.ret (decide (x≤hi)))
 (.ret (false))):An Tryz.prog inR_s (Bool))) h (by kernel_rfl) (AV.pureB_ok rfl)
theorem inR_p(x lo hi:Int)(ok:inR_a x lo hi):inR_vc x lo hi (inR x lo hi):=by
  simp only [inR_vc,vcU,rfU,List.length_map]
  refine ⟨fun h=>decide_eq_decide.mpr ⟨fun q=>⟨h,q⟩,fun q=>q.2⟩,fun h=>(decide_eq_false fun q=>h q.1).symm⟩
def inR_c(x:Int)(lo:Int)(hi:Int):PC Tryz.prog:=⟨131,[.k,.k,.k],[.int x,.int lo,.int hi],inR_e (inR x lo hi),PSpec.of_ok fun ok=>inR_ok x lo hi _ (inR_p x lo hi ok),fnB_ok (by kernel_rfl)⟩
theorem asc_take{α:Type}(key:α→Int){l:List α}{k:Nat}{x y:α}(hx:l[k]?=some x)(h0:0<k)(hy:l[k-1]?=some y) :
    (l.take (k+1)).Pairwise (fun a b=>key a<key b)↔(l.take k).Pairwise (fun a b=>key a<key b)∧key y<key x:=by
  rw [take_succ hx,List.pairwise_append]
  have hm:y∈l.take k:=by
    have:(l.take k)[k-1]?=some y:=by rw [List.getElem?_take,if_pos (by omega)];exact hy
    exact List.mem_of_getElem? this
  constructor
  · rintro ⟨h1,_,h3⟩
    exact ⟨h1,h3 y hm x (by simp)⟩
  · rintro ⟨h1,h2⟩
    refine ⟨h1,List.pairwise_singleton _ _,fun a ha b hb=>?_⟩
    rw [List.mem_singleton] at hb;subst hb
    obtain ⟨i,hi,rfl⟩:=List.getElem_of_mem ha
    rw [List.length_take] at hi
    rw [List.getElem_take]
    obtain ⟨hk,hyk⟩:=List.getElem?_eq_some_iff.mp hy
    rcases Nat.lt_or_ge i (k-1) with e | e
    · have:=List.pairwise_iff_getElem.mp h1 i (k-1) (by rw [List.length_take];omega) (by rw [List.length_take];omega) e
      rw [List.getElem_take,List.getElem_take,hyk] at this
      omega
    · have:i=k-1:=by omega
      subst this
      rw [hyk];exact h2
theorem asc_first{α:Type}(key:α→Int){l:List α}{x:α}(hx:l[0]?=some x):(l.take 1).Pairwise (fun a b=>key a<key b):=by
  rw [take_succ hx];simp
theorem mem_take_succ{α:Type}{l:List α}{k:Nat}{x:α}(hx:l[k]?=some x){P:α→Prop}:(∀y∈l.take (k+1),P y)↔(∀y∈l.take k,P y)∧P x:=by
  rw [take_succ hx]
  constructor
  · intro h;exact ⟨fun y hy=>h y (List.mem_append_left _ hy),h x (by simp)⟩
  · rintro ⟨h1,h2⟩ y hy
    rcases List.mem_append.mp hy with hy | hy
    · exact h1 y hy
    · rw [List.mem_singleton] at hy;subst hy;exact h2
theorem W_pred'{k:Nat}(h:k≤9223372036854775807):W ((k:Int)-1)=(k:Int)-1:=W_eq (by omega)
theorem itmsOk.take{n:Int}{l:List Itm}(h:itmsOk n l)(k:Nat):itmsOk n (l.take k):=
  ⟨fun x hx=>h.1 x (List.mem_of_mem_take hx),by rw [List.map_take];exact h.2.1.sublist (List.take_sublist _ _),h.2.2.sublist (List.take_sublist _ _)⟩
theorem itmsOk_succ{n:Int}{l:List Itm}{k:Nat}{x:Itm}(hx:l[k]?=some x):itmsOk n (l.take (k+1))↔itmsOk n (l.take k)∧itmOk n x∧(∀y∈l.take k,y.grp≠x.grp)∧(0<k→∀y,l[k-1]?=some y→y.ver<x.ver):=by
  have hn:((l.take (k+1)).map Itm.grp).Nodup↔((l.take k).map Itm.grp).Nodup∧∀y∈l.take k,y.grp≠x.grp:=by
    rw [take_succ hx,List.map_append,List.nodup_append]
    simp only [List.map_cons,List.map_nil,List.mem_singleton,List.mem_map,List.nodup_cons,List.not_mem_nil,not_false_eq_true,List.nodup_nil,and_self,true_and]
    constructor
    · rintro ⟨h1,h2⟩
      exact ⟨h1,fun y hy=>h2 _ ⟨y,hy,rfl⟩ _ rfl⟩
    · rintro ⟨h1,h2⟩
      refine ⟨h1,?_⟩
      rintro _ ⟨y,hy,rfl⟩ _ rfl
      exact h2 y hy
  unfold itmsOk
  rw [mem_take_succ hx,hn]
  cases k with
  | zero =>
    have:(l.take 1).Pairwise fun x y=>x.ver<y.ver:=asc_first Itm.ver hx
    simp [this]
  | succ k =>
    obtain ⟨y,hy⟩:∃y,l[k]?=some y:=⟨_,List.getElem?_eq_getElem (by have:=lt_of_get hx;omega)⟩
    rw [asc_take Itm.ver hx (by omega) (by simpa using hy)]
    simp only [Nat.add_sub_cancel,hy,Option.some.injEq,Nat.zero_lt_succ,forall_const,forall_eq']
    constructor
    · rintro ⟨⟨a,b⟩,⟨c,d⟩,e,f⟩;exact ⟨⟨a,c,e⟩,b,d,f⟩
    · rintro ⟨⟨a,c,e⟩,b,d,f⟩;exact ⟨⟨a,b⟩,⟨c,d⟩,e,f⟩
def itemsR_a(l:(List Itm))(last:Int):Prop:=okL [.sl 4 (l.map Itm.v) false,.int last]
def itemsR_n0(l:(List Itm))(last:Int)(t0:Int):NF:=⟨[(0,.k,.sl 4 (l.map Itm.v) false),(1,.k,.int last),(8,.k,.sl 4 (l.map Itm.v) false),(9,.k,.int ((l.map Itm.v).length:Int)),(10,.k,.int t0)],[]⟩
def itemsR_n1(l:(List Itm))(last:Int)(t0:Int)(x1:Itm)(t1:Bool):NF:=⟨[(0,.k,.sl 4 (l.map Itm.v) false),(1,.k,.int last),(5,.k,.int t0),(6,.k,.ref 0 0),(8,.k,.sl 4 (l.map Itm.v) false),(9,.k,.int ((l.map Itm.v).length:Int)),(10,.k,.int t0),(46,.k,.bool t1)],[.box (.agg [.int x1.ver,.int x1.grp,.int x1.mode,.sl 1 (x1.srcs.map AV.int) false])]⟩
def itemsR_n2(l:(List Itm))(last:Int)(t0:Int)(x1:Itm)(t1:Bool)(t2:Int):NF:=⟨[(0,.k,.sl 4 (l.map Itm.v) false),(1,.k,.int last),(5,.k,.int t0),(6,.k,.ref 0 0),(7,.k,.int t2),(8,.k,.sl 4 (l.map Itm.v) false),(9,.k,.int ((l.map Itm.v).length:Int)),(10,.k,.int t0)],[.box (.agg [.int x1.ver,.int x1.grp,.int x1.mode,.sl 1 (x1.srcs.map AV.int) false])]⟩
def itemsR_s:Nat→Type
  | 0=>Int
  | 1=>Bool
  | 2=>Int
  | _=>Unit
def itemsR_e(r:Bool):AV:=.bool r
def itemsR_vc(l:(List Itm))(last:Int)(I0:Int→Prop)(m0:Int→Nat)(I1:Int→Itm→Bool→Prop)(I2:Int→Itm→Bool→Int→Prop)(m2:Int→Itm→Bool→Int→Nat)(r0:Bool):Prop:=
 Be (itemsR_n0 l last) [] I0 (0)∧∀t0,I0 t0 →
 br (decide (t0<((l.map Itm.v).length:Int)))
 (Rf (l.map Itm.v) (ck (decide (0≤t0)) (ck (decide (t0<(l.length:Int)))
 (∀x1,l[t0.toNat]?=some x1 →
 (Cl (inR_c x1.ver 1 last)
 (br (!(inR x1.ver 1 last))
 (Be (itemsR_n1 l last t0 x1) [64] (I1 t0 x1) (true))
 (Cl (inR_c x1.grp 1 99)
 (br (!(inR x1.grp 1 99))
 (Be (itemsR_n1 l last t0 x1) [64] (I1 t0 x1) (true))
 (Cl (FVal_c (⟨x1.mode,x1.srcs⟩:Flt))
 (br ((fltErr (⟨x1.mode,x1.srcs⟩:Flt).mode (⟨x1.mode,x1.srcs⟩:Flt).srcs) != 0)
 (Be (itemsR_n1 l last t0 x1) [64] (I1 t0 x1) (true))
 (br (decide (0<t0))
 (Rf (l.map Itm.v) (ck (decide (0≤(W (t0-1)))) (ck (decide ((W (t0-1))<(l.length:Int)))
 (∀x2,l[(W (t0-1)).toNat]?=some x2 →
 Be (itemsR_n1 l last t0 x1) [64] (I1 t0 x1) (decide (x1.ver≤x2.ver))))))
 (Be (itemsR_n1 l last t0 x1) [64] (I1 t0 x1) (false)))))))))∧∀t1:Bool,I1 t0 x1 t1 →
 br t1
 (Rp itemsR_e (false) r0)
 (Be (itemsR_n2 l last t0 x1 t1) [0] (I2 t0 x1 t1) (0)∧∀t2,I2 t0 x1 t1 t2 →
 br (decide (t2<t0))
 (Rf (l.map Itm.v) (ck (decide (0≤t2)) (ck (decide (t2<(l.length:Int)))
 (∀x3,l[t2.toNat]?=some x3 →
 br (x3.grp==x1.grp)
 (Rp itemsR_e (false) r0)
 (Bk (itemsR_n2 l last t0 x1 t1) [0] (I2 t0 x1 t1) (m2 t0 x1 t1) (W (t2+1)) t2)))))
 (Bk (itemsR_n0 l last) [] I0 m0 (W (t0+1)) t0))))))
 (Rp itemsR_e (true) r0)
theorem itemsR_ok(l:(List Itm))(last:Int)(I0:Int→Prop)(m0:Int→Nat)(I1:Int→Itm→Bool→Prop)(I2:Int→Itm→Bool→Int→Prop)(m2:Int→Itm→Bool→Int→Nat)(r0:Bool)(h:itemsR_vc l last I0 m0 I1 I2 m2 r0):PSpec Tryz.prog 132 [.sl 4 (l.map Itm.v) false,.int last] (itemsR_e r0):=mxP_of (sh:=.k) (a:=((.loop 0 (itemsR_n0 l last) (I0) (m0) ((0):Int) [] fun (t0:Int) =>
 (.br 16 (.el 32 Itm.v l fun x1 =>
 (.pass (.join 1 (itemsR_n1 l last t0 x1) (fun t1=>I1 t0 x1 t1) (.callP (inR_c x1.ver 1 last)
 (.br 208 (.back 1 ((true):Bool) [64])
 (.callP (inR_c x1.grp 1 99)
 (.br 304 (.back 1 ((true):Bool) [64])
 (.callP (FVal_c (⟨x1.mode,x1.srcs⟩:Flt))
 (.br 400 (.back 1 ((true):Bool) [64])
 (.br 448 (.el 496 Itm.v l fun x2 =>
 (.back 1 ((decide (x1.ver≤x2.ver)):Bool) [64]))
 (.back 1 ((false):Bool) [64])))))))) fun (t1:Bool) =>
 (.br 1 (.ret (false))
 (.loop 2 (itemsR_n2 l last t0 x1 t1) (I2 t0 x1 t1) (m2 t0 x1 t1) ((0):Int) [0] fun (t2:Int) =>
 (.br 49 (.el 81 Itm.v l fun x3 =>
 (.br 177 (.ret (false))
 (.back 2 ((W (t2+1)):Int) [0])))
 (.back 0 ((W (t0+1)):Int) [])))))))
 (.ret (true)))):An Tryz.prog itemsR_s (Bool))) h (by kernel_rfl) (AV.pureB_ok rfl)
theorem itemsR_p(l:List Itm)(last:Int)(ok:itemsR_a l last):∃I0 m0 I1 I2 m2,itemsR_vc l last I0 m0 I1 I2 m2 (itemsB l last):=by
  simp only [itemsR_a,okU,Blk.ok,plainV,List.length_map] at ok
  refine ⟨fun t=>∃k:Nat,t=k∧k≤l.length∧itmsOk last (l.take k),fun t=>l.length-t.toNat,
    fun t x b=>b=false↔itmOk last x∧(0<t.toNat→∀y,l[t.toNat-1]?=some y→y.ver<x.ver),
    fun t x b t2=>∃j:Nat,t2=j∧j≤t.toNat∧∀y∈l.take j,y.grp≠x.grp,fun t x b t2=>t.toNat-t2.toNat,?_⟩
  simp only [itemsR_vc,vcU,rfU,List.length_map]
  have hle:l.length≤9223372036854775807:=ok.1.1
  refine ⟨⟨0,rfl,by omega,by simp [itmsOk]⟩,?_⟩
  rintro _ ⟨k,rfl,hk,hI⟩
  simp only [Int.toNat_natCast]
  refine ⟨fun h1=>⟨by omega,by omega,fun x hx=>⟨?_,?_⟩⟩,fun h1=>?_⟩
  · simp only [inR,Bool.not_eq_true',decide_eq_false_iff_not,Bool.not_eq_false',decide_eq_true_iff]
    have no:∀{q:Prop},¬q→((itmOk last x→q)→(true=false↔itmOk last x∧(0<k→∀y,l[k-1]?=some y→y.ver<x.ver))):=fun hq hi=>⟨fun e=>Bool.noConfusion e,fun e=>absurd (hi e.1) hq⟩
    refine ⟨fun h2=>no h2 fun q=>q.1,fun h2=>⟨fun h3=>no h3 fun q=>q.2.1,fun h3=>⟨fun h4=>no (q:=fltErr x.mode x.srcs=0) (by simpa using h4) fun q=>q.2.2,fun h4=>⟨fun h5=>?_,fun h5=>?_⟩⟩⟩⟩
    · rw [W_pred' (by omega)]
      have e:((k:Int)-1).toNat=k-1:=by omega
      rw [e]
      refine ⟨by omega,by omega,fun y hy=>?_⟩
      have h4:fltErr x.mode x.srcs=0:=by simpa using h4
      constructor
      · intro q;exact ⟨⟨h2,h3,h4⟩,fun _ z hz=>by rw [hy] at hz;cases hz;omega⟩
      · rintro ⟨_,q⟩;have:=q (by omega) y hy;omega
    · exact ⟨fun _=>⟨⟨h2,h3,by simpa using h4⟩,fun q=>by omega⟩,fun _=>trivial⟩
  · intro b hb
    refine ⟨fun e=>(decide_eq_false fun q=>?_).symm,fun e=>⟨⟨0,rfl,by omega,by simp⟩,?_⟩⟩
    · subst e
      have:=(itmsOk_succ hx).mp (q.take (k+1))
      exact Bool.noConfusion (hb.mpr ⟨this.2.1,this.2.2.2⟩)
    · obtain ⟨q1,q2⟩:=hb.mp e
      rintro _ ⟨j,rfl,hj,hg⟩
      simp only [Int.toNat_natCast]
      refine ⟨fun h3=>⟨by omega,by omega,fun y hy=>⟨fun e2=>?_,fun e2=>?_⟩⟩,fun h3=>?_⟩
      · refine (decide_eq_false fun q=>?_).symm
        have:=((itmsOk_succ hx).mp (q.take (k+1))).2.2.1 y (by
          have:(l.take k)[j]?=some y:=by rw [List.getElem?_take,if_pos (by omega)];exact hy
          exact List.mem_of_getElem? this)
        exact this (by simpa using e2)
      · rw [W_succ (n:=k) (by omega) (by omega)]
        exact ⟨⟨j+1,rfl,by omega,(mem_take_succ hy).mpr ⟨hg,by simpa using e2⟩⟩,by omega⟩
      · have:j=k:=by omega
        subst this
        rw [W_succ (n:=l.length) (by omega) (by omega)]
        exact ⟨⟨j+1,rfl,by omega,(itmsOk_succ hx).mpr ⟨hI,q1,hg,q2⟩⟩,by omega⟩
  · rw [List.take_of_length_le (by omega)] at hI
    exact (decide_eq_true hI).symm
def itemsR_c(l:(List Itm))(last:Int):PC Tryz.prog:=⟨132,[(.s 4),.k],[.sl 4 (l.map Itm.v) false,.int last],itemsR_e (itemsB l last),PSpec.of_ok fun ok=>(itemsR_p l last ok).elim fun I0 h=>h.elim fun m0 h=>h.elim fun I1 h=>h.elim fun I2 h=>h.elim fun m2 h=>itemsR_ok l last I0 m0 I1 I2 m2 _ h,fnB_ok (by kernel_rfl)⟩
def putR_a(l:(List Itm))(x:Itm):Prop:=okL [.sl 4 (l.map Itm.v) false,.agg [.int x.ver,.int x.grp,.int x.mode,.sl 1 (x.srcs.map AV.int) false]]
def putR_n0(l:(List Itm))(x:Itm)(t0:Int×(List Itm)):NF:=⟨[(3,.k,.ref 0 0),(5,.k,.vec 1),(8,.k,.sl 4 (l.map Itm.v) false),(9,.k,.int ((l.map Itm.v).length:Int)),(10,.k,.int t0.1)],[.box (.agg [.int x.ver,.int x.grp,.int x.mode,.sl 1 (x.srcs.map AV.int) false]),.vec 4 (t0.2.map Itm.v) (pureBL_map (fun _=>rfl) t0.2)]⟩
def putR_s:Nat→Type
  | 0=>Int×(List Itm)
  | _=>Unit
def putR_e(r:(List Itm)):AV:=.sl 4 (r.map Itm.v) false
def putR_vc(l:(List Itm))(x:Itm)(I0:(Int×(List Itm))→Prop)(m0:(Int×(List Itm))→Nat)(r0:(List Itm)):Prop:=
 Be (putR_n0 l x) [0,96] I0 (0,[])∧∀t0,I0 t0 →
 br (decide (t0.1<((l.map Itm.v).length:Int)))
 (Rf (l.map Itm.v) (ck (decide (0≤t0.1)) (ck (decide (t0.1<(l.length:Int)))
 (∀x1,l[t0.1.toNat]?=some x1 →
 br (x1.grp != x.grp)
 (Rf (α:=List AV) (t0.2.map Itm.v) (Rf (α:=List AV) [.agg [.int x1.ver,.int x1.grp,.int x1.mode,.sl 1 (x1.srcs.map AV.int) false]]
 (ck (decide (t0.2.length+1≤1000000))
 (Bk (putR_n0 l x) [0,210] I0 m0 (W (t0.1+1),t0.2++[x1]) t0))))
 (Bk (putR_n0 l x) [0,1] I0 m0 (W (t0.1+1),t0.2) t0)))))
 (Rf (α:=List AV) (t0.2.map Itm.v) (Rf (α:=List AV) [.agg [.int x.ver,.int x.grp,.int x.mode,.sl 1 (x.srcs.map AV.int) false]]
 (ck (decide (t0.2.length+1≤1000000))
 (Rf ((t0.2++[x]).map Itm.v) (Rp putR_e (t0.2++[x]) r0)))))
theorem putR_ok(l:(List Itm))(x:Itm)(I0:(Int×(List Itm))→Prop)(m0:(Int×(List Itm))→Nat)(r0:(List Itm))(h:putR_vc l x I0 m0 r0):PSpec Tryz.prog 147 [.sl 4 (l.map Itm.v) false,.agg [.int x.ver,.int x.grp,.int x.mode,.sl 1 (x.srcs.map AV.int) false]] (putR_e r0):=mxP_of (sh:=(.s 4)) (a:=((.cmdL (.nilT 5 4) (.loop 0 (putR_n0 l x) (I0) (m0) ((0,[]):Int×(List Itm)) [0,96] fun (t0:Int×(List Itm)) =>
 (.br 18 (.el 18 Itm.v l fun x1 =>
 (.br 162 (.app 210 Itm.v t0.2 [x1]
 (.back 0 ((W (t0.1+1),t0.2++[x1]):Int×(List Itm)) [0,210]))
 (.back 0 ((W (t0.1+1),t0.2):Int×(List Itm)) [0,1])))
 (.app 66 Itm.v t0.2 [x]
 (.cmdL (.frzE 66 ((t0.2++[x]).map Itm.v) (pureBL_map (fun _=>rfl) (t0.2++[x]))) (.ret (t0.2++[x]))))))):An Tryz.prog putR_s ((List Itm)))) h (by kernel_rfl) (AV.pureB_ok rfl)
theorem putR_p(l:List Itm)(x:Itm)(hl:l.length≤999999)(ok:putR_a l x):∃I m,putR_vc l x I m (put1 l x):=by
  refine ⟨fun t=>∃k:Nat,t.1=k∧k≤l.length∧t.2=without x.grp (l.take k),fun t=>l.length-t.1.toNat,?_⟩
  simp only [putR_vc,vcU,rfU,List.length_map]
  refine ⟨⟨0,rfl,by omega,rfl⟩,?_⟩
  rintro ⟨_,_⟩ ⟨k,rfl,hk,rfl⟩
  simp only [Int.toNat_natCast]
  have hw:∀k,(without x.grp (l.take k)).length≤l.length:=fun k=>by
    unfold without
    have:=List.length_filter_le (fun y:Itm=>decide (y.grp≠x.grp)) (l.take k)
    rw [List.length_take] at this;omega
  have hwk:=hw k
  refine ⟨fun h1=>⟨by omega,by omega,fun y hy=>?_⟩,fun h1=>⟨by omega,?_⟩⟩
  · rw [W_succ (n:=l.length) (by omega) (by omega)]
    have e:without x.grp (l.take (k+1))=if y.grp=x.grp then without x.grp (l.take k) else without x.grp (l.take k)++[y]:=by
      rw [take_succ hy]
      unfold without
      rw [List.filter_append]
      by_cases q:y.grp=x.grp<;>simp [q]
    refine ⟨fun q=>⟨by omega,⟨k+1,rfl,by omega,?_⟩,by omega⟩,fun q=>⟨⟨k+1,rfl,by omega,?_⟩,by omega⟩⟩
    · rw [e,if_neg (by simpa using q)]
    · rw [e,if_pos (by simpa using q)]
  · rw [List.take_of_length_le (by omega)];rfl
def putR_c(l:(List Itm))(x:Itm)(hl:l.length≤999999):PC Tryz.prog:=⟨147,[(.s 4),(.a [.k,.k,.k,(.s 1)])],[.sl 4 (l.map Itm.v) false,.agg [.int x.ver,.int x.grp,.int x.mode,.sl 1 (x.srcs.map AV.int) false]],putR_e (put1 l x),PSpec.of_ok fun ok=>(putR_p l x hl ok).elim fun I0 h=>h.elim fun m0 h=>putR_ok l x I0 m0 _ h,fnB_ok (by kernel_rfl)⟩
def findI_a(l:(List Itm))(group:Int):Prop:=okL [.sl 4 (l.map Itm.v) false,.int group]
def findI_n0(l:(List Itm))(group:Int)(t0:Int):NF:=⟨[(1,.k,.int group),(4,.k,.ref 0 0),(7,.k,.sl 4 (l.map Itm.v) false),(8,.k,.int ((l.map Itm.v).length:Int)),(9,.k,.int t0)],[.box (.agg [.int 0,.sl 0 [] true])]⟩
def findI_s:Nat→Type
  | 0=>Int
  | _=>Unit
def findI_e(r:Flt):AV:=Flt.v r
def findI_vc(l:(List Itm))(group:Int)(I0:Int→Prop)(m0:Int→Nat)(r0:Flt):Prop:=
 Be (findI_n0 l group) [0] I0 (0)∧∀t0,I0 t0 →
 br (decide (t0<((l.map Itm.v).length:Int)))
 (Rf (l.map Itm.v) (ck (decide (0≤t0)) (ck (decide (t0<(l.length:Int)))
 (∀x1,l[t0.toNat]?=some x1 →
 br (x1.grp==group)
 (Rp findI_e ((⟨x1.mode,x1.srcs⟩:Flt)) r0)
 (Bk (findI_n0 l group) [0] I0 m0 (W (t0+1)) t0)))))
 (Cl (Nothing_c )
 (Rp findI_e ((⟨1,[]⟩:Flt)) r0))
theorem findI_ok(l:(List Itm))(group:Int)(I0:Int→Prop)(m0:Int→Nat)(r0:Flt)(h:findI_vc l group I0 m0 r0):PSpec Tryz.prog 162 [.sl 4 (l.map Itm.v) false,.int group] (findI_e r0):=mxP_of (sh:=(.a [.k,(.s 1)])) (a:=((.loop 0 (findI_n0 l group) (I0) (m0) ((0):Int) [0] fun (t0:Int) =>
 (.br 17 (.el 17 Itm.v l fun x1 =>
 (.br 145 (.ret ((⟨x1.mode,x1.srcs⟩:Flt)))
 (.back 0 ((W (t0+1)):Int) [0])))
 (.callP (Nothing_c )
 (.ret ((⟨1,[]⟩:Flt)))))):An Tryz.prog findI_s (Flt))) h (by kernel_rfl) (AV.pureB_ok rfl)
theorem findI_p(l:List Itm)(g:Int)(ok:findI_a l g):∃I m,findI_vc l g I m (⟨(told l g).1,(told l g).2⟩:Flt):=by
  simp only [findI_a,okU,Blk.ok,plainV,List.length_map] at ok
  refine ⟨fun t=>∃k:Nat,t=k∧k≤l.length∧∀x∈l.take k,x.grp≠g,fun t=>l.length-t.toNat,?_⟩
  simp only [findI_vc,vcU,rfU,List.length_map]
  have hle:l.length≤9223372036854775807:=ok.1.1
  refine ⟨⟨0,rfl,by omega,by simp⟩,?_⟩
  rintro _ ⟨k,rfl,hk,hI⟩
  simp only [Int.toNat_natCast]
  refine ⟨fun h1=>⟨by omega,by omega,fun x hx=>⟨fun e=>?_,fun e=>?_⟩⟩,fun h1=>?_⟩
  · have:told l g=(x.mode,x.srcs):=by
      unfold told
      have hf:l.find? (fun y=>decide (y.grp=g))=some x:=by
        rw [List.find?_eq_some_iff_getElem]
        obtain ⟨hk',hxk⟩:=List.getElem?_eq_some_iff.mp hx
        refine ⟨by simpa using e,k,hk',hxk,fun j hj=>?_⟩
        have:=hI l[j] (List.mem_of_getElem? (i:=j) (by rw [List.getElem?_take,if_pos hj,List.getElem?_eq_getElem (by omega)]))
        simpa using this
      rw [hf]
    rw [this]
  · rw [W_succ (n:=l.length) (by omega) (by omega)]
    exact ⟨⟨k+1,rfl,by omega,(mem_take_succ hx).mpr ⟨hI,by simpa using e⟩⟩,by omega⟩
  · rw [List.take_of_length_le (by omega)] at hI
    rw [told_no hI]
def findI_c(l:(List Itm))(group:Int):PC Tryz.prog:=⟨162,[(.s 4),.k],[.sl 4 (l.map Itm.v) false,.int group],findI_e (⟨(told l group).1,(told l group).2⟩:Flt),PSpec.of_ok fun ok=>(findI_p l group ok).elim fun I0 h=>h.elim fun m0 h=>findI_ok l group I0 m0 _ h,fnB_ok (by kernel_rfl)⟩
end Go.Proofs.YtgnogboljobocaaGreatDoor

namespace Go.Proofs.YtgnogboljobocaaGreatDoor
open Go Go.Am
set_option linter.unusedVariables false
set_option linter.unusedSimpArgs false
theorem pw_succ{α:Type}(key:α→Int){l:List α}{k:Nat}{x:α}(hx:l[k]?=some x) :
    (l.take (k+1)).Pairwise (fun a b=>key a<key b)↔(l.take k).Pairwise (fun a b=>key a<key b)∧(0<k→∀y,l[k-1]?=some y→key y<key x):=by
  cases k with
  | zero=>simp only [asc_first key hx,List.take_zero,List.Pairwise.nil,true_and,true_iff];intro h;omega
  | succ k =>
    obtain ⟨y,hy⟩:∃y,l[k]?=some y:=⟨_,List.getElem?_eq_getElem (by have:=lt_of_get hx;omega)⟩
    rw [asc_take key hx (by omega) (by simpa using hy)]
    simp only [Nat.add_sub_cancel,hy,Option.some.injEq,Nat.zero_lt_succ,forall_const,forall_eq']
def spkA(s:Spk):Prop:=(1≤s.router∧s.router≤99)∧(1≤s.epoch∧s.epoch≤1000000)∧(0≤s.last∧s.last≤1000000)∧itmsOk s.last s.items∧s.peers.length≤12
instance (s:Spk):Decidable (spkA s):=by unfold spkA;infer_instance
def spkK(s:Spk)(k:Nat):Prop:=spkA s∧(∀p∈s.peers.take k,perOk s.router s.last p)∧(s.peers.take k).Pairwise fun x y=>x.router<y.router
instance (s:Spk) (k:Nat):Decidable (spkK s k):=by unfold spkK;infer_instance
theorem spkK_succ{s:Spk}{k:Nat}{x:Per}(hx:s.peers[k]?=some x):spkK s (k+1)↔spkK s k∧perOk s.router s.last x∧(0<k→∀y,s.peers[k-1]?=some y→y.router<x.router):=by
  unfold spkK
  rw [mem_take_succ hx,pw_succ Per.router hx]
  constructor
  · rintro ⟨a,⟨b,c⟩,d,e⟩;exact ⟨⟨a,b,d⟩,c,e⟩
  · rintro ⟨⟨a,b,d⟩,c,e⟩;exact ⟨a,⟨b,c⟩,d,e⟩
theorem spkK_all{s:Spk}:spkK s s.peers.length↔spkOk s:=by
  unfold spkK spkA spkOk
  rw [List.take_length]
  constructor
  · rintro ⟨⟨a,b,c,d,e⟩,f,g⟩;exact ⟨a,b,c,d,e,f,g⟩
  · rintro ⟨a,b,c,d,e,f,g⟩;exact ⟨⟨a,b,c,d,e⟩,f,g⟩
def valR6_a(s:Spk):Prop:=okL [.agg [.int s.router,.int s.epoch,.int s.last,.sl 4 (s.items.map Itm.v) false,.sl 3 (s.peers.map Per.v) false]]
def valR6_n0(s:Spk)(t0:Bool):NF:=⟨[(1,.k,.ref 0 0),(3,.k,.bool t0)],[.box (.agg [.int s.router,.int s.epoch,.int s.last,.sl 4 (s.items.map Itm.v) false,.sl 3 (s.peers.map Per.v) false])]⟩
def valR6_n1(s:Spk)(t0:Bool)(t1:Bool×Int):NF:=⟨[(1,.k,.ref 0 0),(3,.k,.bool t1.1),(33,.k,.sl 3 (s.peers.map Per.v) false),(34,.k,.int ((s.peers.map Per.v).length:Int)),(35,.k,.int t1.2)],[.box (.agg [.int s.router,.int s.epoch,.int s.last,.sl 4 (s.items.map Itm.v) false,.sl 3 (s.peers.map Per.v) false])]⟩
def valR6_s:Nat→Type
  | 0=>Bool
  | 1=>Bool×Int
  | _=>Unit
def valR6_e(r:Int):AV:=.int r
def valR6_vc(s:Spk)(I0:Bool→Prop)(I1:Bool→(Bool×Int)→Prop)(m1:Bool→(Bool×Int)→Nat)(r0:Int):Prop:=
 (Cl (inR_c s.router 1 99)
 (br (inR s.router 1 99)
 (Cl (inR_c s.epoch 1 1000000)
 (br (inR s.epoch 1 1000000)
 (Cl (inR_c s.last 0 1000000)
 (br (inR s.last 0 1000000)
 (Cl (itemsR_c s.items s.last)
 (br (itemsB s.items s.last)
 (Be (valR6_n0 s) [0] I0 (decide (((s.peers.map Per.v).length:Int)≤12)))
 (Be (valR6_n0 s) [0] I0 (false))))
 (Be (valR6_n0 s) [0] I0 (false))))
 (Be (valR6_n0 s) [0] I0 (false))))
 (Be (valR6_n0 s) [0] I0 (false))))∧∀t0:Bool,I0 t0 →
 Be (valR6_n1 s t0) [0] (I1 t0) (t0,0)∧∀t1,I1 t0 t1 →
 br (decide (t1.2<((s.peers.map Per.v).length:Int)))
 (Rf (s.peers.map Per.v) (ck (decide (0≤t1.2)) (ck (decide (t1.2<(s.peers.length:Int)))
 (∀x1,s.peers[t1.2.toNat]?=some x1 →
 br t1.1
 (Cl (inR_c x1.router 1 99)
 (br (inR x1.router 1 99)
 (br (x1.router != s.router)
 (Cl (inR_c x1.epoch 0 1000000)
 (br (inR x1.epoch 0 1000000)
 (Cl (inR_c x1.acked 0 s.last)
 (br (inR x1.acked 0 s.last)
 (br (t1.2==0)
 (Bk (valR6_n1 s t0) [0] (I1 t0) (m1 t0) (true,W (t1.2+1)) t1)
 (Rf (s.peers.map Per.v) (ck (decide (0≤(W (t1.2-1)))) (ck (decide ((W (t1.2-1))<(s.peers.length:Int)))
 (∀x2,s.peers[(W (t1.2-1)).toNat]?=some x2 →
 Bk (valR6_n1 s t0) [0] (I1 t0) (m1 t0) (decide (x2.router<x1.router),W (t1.2+1)) t1)))))
 (Bk (valR6_n1 s t0) [0] (I1 t0) (m1 t0) (false,W (t1.2+1)) t1)))
 (Bk (valR6_n1 s t0) [0] (I1 t0) (m1 t0) (false,W (t1.2+1)) t1)))
 (Bk (valR6_n1 s t0) [0] (I1 t0) (m1 t0) (false,W (t1.2+1)) t1))
 (Bk (valR6_n1 s t0) [0] (I1 t0) (m1 t0) (false,W (t1.2+1)) t1)))
 (Bk (valR6_n1 s t0) [0] (I1 t0) (m1 t0) (false,W (t1.2+1)) t1)))))
 (br (!t1.1)
 (Rp valR6_e (1) r0)
 (Rp valR6_e (0) r0))
theorem valR6_ok(s:Spk)(I0:Bool→Prop)(I1:Bool→(Bool×Int)→Prop)(m1:Bool→(Bool×Int)→Nat)(r0:Int)(h:valR6_vc s I0 I1 m1 r0):PSpec Tryz.prog 124 [.agg [.int s.router,.int s.epoch,.int s.last,.sl 4 (s.items.map Itm.v) false,.sl 3 (s.peers.map Per.v) false]] (valR6_e r0):=mxP_of (sh:=.k) (a:=((.pass (.join 0 (valR6_n0 s) (fun t0=>I0 t0) (.callP (inR_c s.router 1 99)
 (.br 96 (.callP (inR_c s.epoch 1 1000000)
 (.br 176 (.callP (inR_c s.last 0 1000000)
 (.br 256 (.callP (itemsR_c s.items s.last)
 (.br 368 (.back 0 ((decide (((s.peers.map Per.v).length:Int)≤12)):Bool) [0])
 (.back 0 ((false):Bool) [0])))
 (.back 0 ((false):Bool) [0])))
 (.back 0 ((false):Bool) [0])))
 (.back 0 ((false):Bool) [0]))) fun (t0:Bool) =>
 (.loop 1 (valR6_n1 s t0) (I1 t0) (m1 t0) ((t0,0):Bool×Int) [0] fun (t1:Bool×Int) =>
 (.br 17 (.el 33 Per.v s.peers fun x1 =>
 (.br 145 (.callP (inR_c x1.router 1 99)
 (.br 225 (.br 337 (.callP (inR_c x1.epoch 0 1000000)
 (.br 417 (.callP (inR_c x1.acked 0 s.last)
 (.br 529 (.br 577 (.back 1 ((true,W (t1.2+1)):Bool×Int) [0])
 (.el 641 Per.v s.peers fun x2 =>
 (.back 1 ((decide (x2.router<x1.router),W (t1.2+1)):Bool×Int) [0])))
 (.back 1 ((false,W (t1.2+1)):Bool×Int) [0])))
 (.back 1 ((false,W (t1.2+1)):Bool×Int) [0])))
 (.back 1 ((false,W (t1.2+1)):Bool×Int) [0]))
 (.back 1 ((false,W (t1.2+1)):Bool×Int) [0])))
 (.back 1 ((false,W (t1.2+1)):Bool×Int) [0])))
 (.br 49 (.ret (1))
 (.ret (0))))))):An Tryz.prog valR6_s (Int))) h (by kernel_rfl) (AV.pureB_ok rfl)
theorem valR6_p(s:Spk)(ok:valR6_a s):∃I0 I1 m1,valR6_vc s I0 I1 m1 (valS s):=by
  unfold valR6_a at ok
  refine ⟨fun b=>b=decide (spkA s),fun b t=>∃k:Nat,t.2=k∧k≤s.peers.length∧t.1=decide (spkK s k),fun b t=>s.peers.length-t.2.toNat,?_⟩
  simp only [valR6_vc,vcU,rfU,List.length_map]
  have hle:s.peers.length≤9223372036854775807:=by
    have h:=ok
    simp only [Spk.v,pers,AV.ok,okL,List.length_map,maxLen_eq] at h
    omega
  simp only [inR,itemsB,decide_eq_true_iff,decide_eq_false_iff_not]
  refine ⟨⟨fun h1=>⟨fun h2=>⟨fun h3=>⟨fun h4=>?_,fun h4=>?_⟩,fun h3=>?_⟩,fun h2=>?_⟩,fun h1=>?_⟩,?_⟩
  · exact decide_eq_decide.mpr ⟨fun q=>⟨h1,h2,h3,h4,by omega⟩,fun q=>by have:=q.2.2.2.2;omega⟩
  · exact (decide_eq_false fun q=>h4 q.2.2.2.1).symm
  · exact (decide_eq_false fun q=>h3 q.2.2.1).symm
  · exact (decide_eq_false fun q=>h2 q.2.1).symm
  · exact (decide_eq_false fun q=>h1 q.1).symm
  · rintro _ rfl
    refine ⟨⟨0,rfl,by omega,decide_eq_decide.mpr (by simp [spkK])⟩,?_⟩
    rintro ⟨_,_⟩ ⟨k,rfl,hk,rfl⟩
    simp only [Int.toNat_natCast]
    refine ⟨fun h1=>⟨by omega,by omega,fun x hx=>?_⟩,fun h1=>?_⟩
    · rw [W_succ (n:=s.peers.length) (by omega) (by omega)]
      have no:∀{q:Prop},¬q→(spkK s (k+1)→q)→(∃k_1:Nat,((k+1:Nat):Int)=k_1∧k_1≤s.peers.length∧false=decide (spkK s k_1))∧s.peers.length-((k+1:Nat):Int).toNat<s.peers.length-k:=fun hq hi =>
        ⟨⟨k+1,rfl,by omega,(decide_eq_false fun q=>hq (hi q)).symm⟩,by omega⟩
      simp only [decide_eq_true_iff,decide_eq_false_iff_not]
      refine ⟨fun a0=>⟨fun a1=>⟨fun a2=>⟨fun a3=>⟨fun a4=>⟨fun a5=>?_,fun a5=>?_⟩,fun a4=>?_⟩,fun a3=>?_⟩,fun a2=>?_⟩,fun a1=>?_⟩,fun a0=>?_⟩
      · have e:k=0:=by simpa using a5
        subst e
        refine ⟨⟨1,rfl,by omega,(decide_eq_true ((spkK_succ hx).mpr ⟨a0,⟨a1,by simpa using a2,a3,a4⟩,fun q=>by omega⟩)).symm⟩,by omega⟩
      · have e:0<k:=by
          rcases Nat.eq_zero_or_pos k with q | q
          · subst q;simp at a5
          · exact q
        rw [W_pred' (by omega)]
        have e2:((k:Int)-1).toNat=k-1:=by omega
        rw [e2]
        refine ⟨by omega,by omega,fun y hy=>⟨⟨k+1,rfl,by omega,decide_eq_decide.mpr ?_⟩,by omega⟩⟩
        rw [spkK_succ hx]
        exact ⟨fun q=>⟨a0,⟨a1,by simpa using a2,a3,a4⟩,fun _ z hz=>by rw [hy] at hz;cases hz;exact q⟩,fun q=>q.2.2 e y hy⟩
      · exact no a4 fun q=>((spkK_succ hx).mp q).2.1.2.2.2
      · exact no a3 fun q=>((spkK_succ hx).mp q).2.1.2.2.1
      · exact no (q:=x.router≠s.router) (by simpa using a2) fun q=>((spkK_succ hx).mp q).2.1.2.1
      · exact no a1 fun q=>((spkK_succ hx).mp q).2.1.1
      · exact no a0 fun q=>((spkK_succ hx).mp q).1
    · have e:k=s.peers.length:=by omega
      subst e
      have hv:valS s=if spkOk s then 0 else 1:=rfl
      rw [hv]
      by_cases q:spkOk s
      · have:=spkK_all.mpr q
        rw [if_pos q];simp [this]
      · have:¬spkK s s.peers.length:=fun w=>q (spkK_all.mp w)
        rw [if_neg q];simp [this]
def valR6_c(s:Spk):PC Tryz.prog:=⟨124,[(.a [.k,.k,.k,(.s 4),(.s 3)])],[.agg [.int s.router,.int s.epoch,.int s.last,.sl 4 (s.items.map Itm.v) false,.sl 3 (s.peers.map Per.v) false]],valR6_e (valS s),PSpec.of_ok fun ok=>(valR6_p s ok).elim fun I0 h=>h.elim fun I1 h=>h.elim fun m1 h=>valR6_ok s I0 I1 m1 _ h,fnB_ok (by kernel_rfl)⟩
def lsnA(l:Lsn):Prop:=(1≤l.router∧l.router≤99)∧(1≤l.epoch∧l.epoch≤1000000)∧l.heard.length≤12
instance (l:Lsn):Decidable (lsnA l):=by unfold lsnA;infer_instance
def lsnK(l:Lsn)(k:Nat):Prop:=lsnA l∧(∀p∈l.heard.take k,hrdOk l.router p)∧(l.heard.take k).Pairwise fun x y=>x.router<y.router
instance (l:Lsn) (k:Nat):Decidable (lsnK l k):=by unfold lsnK;infer_instance
theorem lsnK_succ{s:Lsn}{k:Nat}{x:Hrd}(hx:s.heard[k]?=some x):lsnK s (k+1)↔lsnK s k∧hrdOk s.router x∧(0<k→∀y,s.heard[k-1]?=some y→y.router<x.router):=by
  unfold lsnK
  rw [mem_take_succ hx,pw_succ Hrd.router hx]
  constructor
  · rintro ⟨a,⟨b,c⟩,d,e⟩;exact ⟨⟨a,b,d⟩,c,e⟩
  · rintro ⟨⟨a,b,d⟩,c,e⟩;exact ⟨a,⟨b,c⟩,d,e⟩
theorem lsnK_all{s:Lsn}:lsnK s s.heard.length↔lsnOk s:=by
  unfold lsnK lsnA lsnOk
  rw [List.take_length]
  constructor
  · rintro ⟨⟨a,b,e⟩,f,g⟩;exact ⟨a,b,e,f,g⟩
  · rintro ⟨a,b,e,f,g⟩;exact ⟨⟨a,b,e⟩,f,g⟩
def valLR_a(l:Lsn):Prop:=okL [.agg [.int l.router,.int l.epoch,.sl 4 (l.heard.map Hrd.v) false]]
def valLR_n0(l:Lsn)(t0:Bool):NF:=⟨[(1,.k,.ref 0 0),(3,.k,.bool t0)],[.box (.agg [.int l.router,.int l.epoch,.sl 4 (l.heard.map Hrd.v) false])]⟩
def valLR_n1(l:Lsn)(t0:Bool)(t1:Bool×Int):NF:=⟨[(1,.k,.ref 0 0),(3,.k,.bool t1.1),(21,.k,.sl 4 (l.heard.map Hrd.v) false),(22,.k,.int ((l.heard.map Hrd.v).length:Int)),(23,.k,.int t1.2)],[.box (.agg [.int l.router,.int l.epoch,.sl 4 (l.heard.map Hrd.v) false])]⟩
def valLR_s:Nat→Type
  | 0=>Bool
  | 1=>Bool×Int
  | _=>Unit
def valLR_e(r:Int):AV:=.int r
def valLR_vc(l:Lsn)(I0:Bool→Prop)(I1:Bool→(Bool×Int)→Prop)(m1:Bool→(Bool×Int)→Nat)(r0:Int):Prop:=
 (Cl (inR_c l.router 1 99)
 (br (inR l.router 1 99)
 (Cl (inR_c l.epoch 1 1000000)
 (br (inR l.epoch 1 1000000)
 (Be (valLR_n0 l) [0] I0 (decide (((l.heard.map Hrd.v).length:Int)≤12)))
 (Be (valLR_n0 l) [0] I0 (false))))
 (Be (valLR_n0 l) [0] I0 (false))))∧∀t0:Bool,I0 t0 →
 Be (valLR_n1 l t0) [0] (I1 t0) (t0,0)∧∀t1,I1 t0 t1 →
 br (decide (t1.2<((l.heard.map Hrd.v).length:Int)))
 (Rf (l.heard.map Hrd.v) (ck (decide (0≤t1.2)) (ck (decide (t1.2<(l.heard.length:Int)))
 (∀x1,l.heard[t1.2.toNat]?=some x1 →
 br t1.1
 (Cl (inR_c x1.router 1 99)
 (br (inR x1.router 1 99)
 (br (x1.router != l.router)
 (Cl (inR_c x1.epoch 1 1000000)
 (br (inR x1.epoch 1 1000000)
 (Cl (inR_c x1.ver 0 1000000)
 (br (inR x1.ver 0 1000000)
 (Cl (itemsR_c x1.items x1.ver)
 (br (itemsB x1.items x1.ver)
 (br (t1.2==0)
 (Bk (valLR_n1 l t0) [0] (I1 t0) (m1 t0) (true,W (t1.2+1)) t1)
 (Rf (l.heard.map Hrd.v) (ck (decide (0≤(W (t1.2-1)))) (ck (decide ((W (t1.2-1))<(l.heard.length:Int)))
 (∀x2,l.heard[(W (t1.2-1)).toNat]?=some x2 →
 Bk (valLR_n1 l t0) [0] (I1 t0) (m1 t0) (decide (x2.router<x1.router),W (t1.2+1)) t1)))))
 (Bk (valLR_n1 l t0) [0] (I1 t0) (m1 t0) (false,W (t1.2+1)) t1)))
 (Bk (valLR_n1 l t0) [0] (I1 t0) (m1 t0) (false,W (t1.2+1)) t1)))
 (Bk (valLR_n1 l t0) [0] (I1 t0) (m1 t0) (false,W (t1.2+1)) t1)))
 (Bk (valLR_n1 l t0) [0] (I1 t0) (m1 t0) (false,W (t1.2+1)) t1))
 (Bk (valLR_n1 l t0) [0] (I1 t0) (m1 t0) (false,W (t1.2+1)) t1)))
 (Bk (valLR_n1 l t0) [0] (I1 t0) (m1 t0) (false,W (t1.2+1)) t1)))))
 (br (!t1.1)
 (Rp valLR_e (1) r0)
 (Rp valLR_e (0) r0))
theorem valLR_ok(l:Lsn)(I0:Bool→Prop)(I1:Bool→(Bool×Int)→Prop)(m1:Bool→(Bool×Int)→Nat)(r0:Int)(h:valLR_vc l I0 I1 m1 r0):PSpec Tryz.prog 47 [.agg [.int l.router,.int l.epoch,.sl 4 (l.heard.map Hrd.v) false]] (valLR_e r0):=mxP_of (sh:=.k) (a:=((.pass (.join 0 (valLR_n0 l) (fun t0=>I0 t0) (.callP (inR_c l.router 1 99)
 (.br 96 (.callP (inR_c l.epoch 1 1000000)
 (.br 176 (.back 0 ((decide (((l.heard.map Hrd.v).length:Int)≤12)):Bool) [0])
 (.back 0 ((false):Bool) [0])))
 (.back 0 ((false):Bool) [0]))) fun (t0:Bool) =>
 (.loop 1 (valLR_n1 l t0) (I1 t0) (m1 t0) ((t0,0):Bool×Int) [0] fun (t1:Bool×Int) =>
 (.br 17 (.el 33 Hrd.v l.heard fun x1 =>
 (.br 145 (.callP (inR_c x1.router 1 99)
 (.br 225 (.br 337 (.callP (inR_c x1.epoch 1 1000000)
 (.br 417 (.callP (inR_c x1.ver 0 1000000)
 (.br 497 (.callP (itemsR_c x1.items x1.ver)
 (.br 609 (.br 657 (.back 1 ((true,W (t1.2+1)):Bool×Int) [0])
 (.el 721 Hrd.v l.heard fun x2 =>
 (.back 1 ((decide (x2.router<x1.router),W (t1.2+1)):Bool×Int) [0])))
 (.back 1 ((false,W (t1.2+1)):Bool×Int) [0])))
 (.back 1 ((false,W (t1.2+1)):Bool×Int) [0])))
 (.back 1 ((false,W (t1.2+1)):Bool×Int) [0])))
 (.back 1 ((false,W (t1.2+1)):Bool×Int) [0]))
 (.back 1 ((false,W (t1.2+1)):Bool×Int) [0])))
 (.back 1 ((false,W (t1.2+1)):Bool×Int) [0])))
 (.br 49 (.ret (1))
 (.ret (0))))))):An Tryz.prog valLR_s (Int))) h (by kernel_rfl) (AV.pureB_ok rfl)
theorem valLR_p(s:Lsn)(ok:valLR_a s):∃I0 I1 m1,valLR_vc s I0 I1 m1 (valL s):=by
  unfold valLR_a at ok
  refine ⟨fun b=>b=decide (lsnA s),fun b t=>∃k:Nat,t.2=k∧k≤s.heard.length∧t.1=decide (lsnK s k),fun b t=>s.heard.length-t.2.toNat,?_⟩
  simp only [valLR_vc,vcU,rfU,List.length_map]
  have hle:s.heard.length≤9223372036854775807:=by
    have h:=ok
    simp only [Lsn.v,hrds,AV.ok,okL,List.length_map,maxLen_eq] at h
    omega
  simp only [inR,itemsB,decide_eq_true_iff,decide_eq_false_iff_not]
  refine ⟨⟨fun h1=>⟨fun h2=>?_,fun h2=>?_⟩,fun h1=>?_⟩,?_⟩
  · exact decide_eq_decide.mpr ⟨fun q=>⟨h1,h2,by omega⟩,fun q=>by have:=q.2.2;omega⟩
  · exact (decide_eq_false fun q=>h2 q.2.1).symm
  · exact (decide_eq_false fun q=>h1 q.1).symm
  · rintro _ rfl
    refine ⟨⟨0,rfl,by omega,decide_eq_decide.mpr (by simp [lsnK])⟩,?_⟩
    rintro ⟨_,_⟩ ⟨k,rfl,hk,rfl⟩
    simp only [Int.toNat_natCast]
    refine ⟨fun h1=>⟨by omega,by omega,fun x hx=>?_⟩,fun h1=>?_⟩
    · rw [W_succ (n:=s.heard.length) (by omega) (by omega)]
      have no:∀{q:Prop},¬q→(lsnK s (k+1)→q)→(∃k_1:Nat,((k+1:Nat):Int)=k_1∧k_1≤s.heard.length∧false=decide (lsnK s k_1))∧s.heard.length-((k+1:Nat):Int).toNat<s.heard.length-k:=fun hq hi =>
        ⟨⟨k+1,rfl,by omega,(decide_eq_false fun q=>hq (hi q)).symm⟩,by omega⟩
      simp only [decide_eq_true_iff,decide_eq_false_iff_not]
      refine ⟨fun a0=>⟨fun a1=>⟨fun a2=>⟨fun a3=>⟨fun a4=>⟨fun b4=>⟨fun a5=>?_,fun a5=>?_⟩,fun b4=>?_⟩,fun a4=>?_⟩,fun a3=>?_⟩,fun a2=>?_⟩,fun a1=>?_⟩,fun a0=>?_⟩
      · have e:k=0:=by simpa using a5
        subst e
        refine ⟨⟨1,rfl,by omega,(decide_eq_true ((lsnK_succ hx).mpr ⟨a0,⟨a1,by simpa using a2,a3,a4,b4⟩,fun q=>by omega⟩)).symm⟩,by omega⟩
      · have e:0<k:=by
          rcases Nat.eq_zero_or_pos k with q | q
          · subst q;simp at a5
          · exact q
        rw [W_pred' (by omega)]
        have e2:((k:Int)-1).toNat=k-1:=by omega
        rw [e2]
        refine ⟨by omega,by omega,fun y hy=>⟨⟨k+1,rfl,by omega,decide_eq_decide.mpr ?_⟩,by omega⟩⟩
        rw [lsnK_succ hx]
        exact ⟨fun q=>⟨a0,⟨a1,by simpa using a2,a3,a4,b4⟩,fun _ z hz=>by rw [hy] at hz;cases hz;exact q⟩,fun q=>q.2.2 e y hy⟩
      · exact no b4 fun q=>((lsnK_succ hx).mp q).2.1.2.2.2.2
      · exact no a4 fun q=>((lsnK_succ hx).mp q).2.1.2.2.2.1
      · exact no a3 fun q=>((lsnK_succ hx).mp q).2.1.2.2.1
      · exact no (q:=x.router≠s.router) (by simpa using a2) fun q=>((lsnK_succ hx).mp q).2.1.2.1
      · exact no a1 fun q=>((lsnK_succ hx).mp q).2.1.1
      · exact no a0 fun q=>((lsnK_succ hx).mp q).1
    · have e:k=s.heard.length:=by omega
      subst e
      have hv:valL s=if lsnOk s then 0 else 1:=rfl
      rw [hv]
      by_cases q:lsnOk s
      · have:=lsnK_all.mpr q
        rw [if_pos q];simp [this]
      · have:¬lsnK s s.heard.length:=fun w=>q (lsnK_all.mp w)
        rw [if_neg q];simp [this]
def valLR_c(l:Lsn):PC Tryz.prog:=⟨47,[(.a [.k,.k,(.s 4)])],[.agg [.int l.router,.int l.epoch,.sl 4 (l.heard.map Hrd.v) false]],valLR_e (valL l),PSpec.of_ok fun ok=>(valLR_p l ok).elim fun I0 h=>h.elim fun I1 h=>h.elim fun m1 h=>valLR_ok l I0 I1 m1 _ h,fnB_ok (by kernel_rfl)⟩
end Go.Proofs.YtgnogboljobocaaGreatDoor

namespace Go.Proofs.YtgnogboljobocaaGreatDoor
open Go Go.Am
set_option linter.unusedVariables false
set_option linter.unusedSimpArgs false
section
variable {α : Type} (key : α → Int)
def posK(l:List α)(r:Int):Nat:=l.findIdx fun p=>!decide (key p<r)
variable {key}
theorem posK_lt{l:List α}{r:Int}{i:Nat}(h:i<posK key l r)(hi:i<l.length):key l[i]<r:=by
  have:=List.not_of_lt_findIdx h
  simpa using this
theorem posK_ge{l:List α}{r:Int}(ho:l.Pairwise fun x y=>key x<key y){i:Nat}(hi:i<l.length)(h:posK key l r≤i):r≤key l[i]:=by
  have hp:posK key l r<l.length:=by omega
  have h1:r≤key l[posK key l r]:=by
    have:(!decide (key l[posK key l r]<r))=true:=List.findIdx_getElem (w:=hp)
    simpa using this
  rcases Nat.eq_or_lt_of_le h with e | e
  · simp only [e] at h1;exact h1
  · have:=List.pairwise_iff_getElem.mp ho _ _ hp hi e
    omega
theorem posK_eq{l:List α}{r:Int}(ho:l.Pairwise fun x y=>key x<key y){i:Nat}(hi:i<l.length)(h:key l[i]=r):posK key l r=i:=by
  rcases Nat.lt_trichotomy (posK key l r) i with e | e | e
  · have h1:=posK_ge ho (r:=r) (i:=posK key l r) (by omega) (Nat.le_refl _)
    have:=List.pairwise_iff_getElem.mp ho _ _ (by omega) hi e
    omega
  · exact e
  · have:=posK_lt e hi;omega
theorem hitK_iff{l:List α}{r:Int}{d:α}(ho:l.Pairwise fun x y=>key x<key y):(posK key l r<l.length∧key (l.getD (posK key l r) d)=r)↔∃z∈l,key z=r:=by
  constructor
  · rintro ⟨h1,h2⟩
    rw [List.getD_eq_getElem?_getD,List.getElem?_eq_getElem h1] at h2
    exact ⟨_,List.getElem_mem h1,h2⟩
  · rintro ⟨z,hz,rfl⟩
    obtain ⟨i,hi,rfl⟩:=List.getElem_of_mem hz
    rw [posK_eq ho hi rfl]
    exact ⟨hi,by rw [List.getD_eq_getElem?_getD,List.getElem?_eq_getElem hi];rfl⟩
theorem atK_eq{l:List α}{d z:α}(ho:l.Pairwise fun x y=>key x<key y)(hz:z∈l):l.getD (posK key l (key z)) d=z:=by
  obtain ⟨i,hi,rfl⟩:=List.getElem_of_mem hz
  rw [posK_eq ho hi rfl,List.getD_eq_getElem?_getD,List.getElem?_eq_getElem hi];rfl
theorem ins_setK{l:List α}{r:Int}{z0 z':α}(ho:l.Pairwise fun x y=>key x<key y)(hh:¬∃z∈l,key z=r)(hk:key z'=r) :
    ((l.take (posK key l r)++z0::l.drop (posK key l r)).set (posK key l r) z'=l.take (posK key l r)++z'::l.drop (posK key l r)) ∧
    (∀z,z∈l.take (posK key l r)++z'::l.drop (posK key l r)↔z=z'∨z∈l∧key z≠r)∧(l.take (posK key l r)++z'::l.drop (posK key l r)).Pairwise fun x y=>key x<key y:=by
  have hp:posK key l r≤l.length:=List.findIdx_le_length
  refine ⟨?_,fun z=>?_,?_⟩
  · rw [List.set_append_right _ _ (by rw [List.length_take];omega)]
    simp [List.length_take,Nat.min_eq_left hp]
  · rw [List.mem_append,List.mem_cons]
    constructor
    · rintro (h | rfl | h)
      · have:=List.mem_of_mem_take h;exact .inr ⟨this,fun e=>hh ⟨z,this,e⟩⟩
      · exact .inl rfl
      · have:=List.mem_of_mem_drop h;exact .inr ⟨this,fun e=>hh ⟨z,this,e⟩⟩
    · rintro (rfl | ⟨h,_⟩)
      · exact .inr (.inl rfl)
      · rw [←List.take_append_drop (posK key l r) l] at h
        rcases List.mem_append.mp h with h | h
        · exact .inl h
        · exact .inr (.inr h)
  · have h1:∀x∈l.take (posK key l r),key x<r:=fun x hx=>by
      obtain ⟨i,hi,rfl⟩:=List.getElem_of_mem hx
      rw [List.getElem_take]
      simp only [List.length_take] at hi
      exact posK_lt (by omega) _
    have h2:∀x∈l.drop (posK key l r),r<key x:=fun x hx=>by
      have hm:=List.mem_of_mem_drop hx
      obtain ⟨i,hi,rfl⟩:=List.getElem_of_mem hx
      rw [List.getElem_drop]
      simp only [List.length_drop] at hi
      have h3:=posK_ge ho (r:=r) (i:=posK key l r+i) (by omega) (by omega)
      have h4:key l[posK key l r+i]≠r:=fun e=>hh ⟨_,List.getElem_mem _,e⟩
      omega
    refine List.pairwise_append.mpr ⟨ho.sublist (List.take_sublist _ _),List.pairwise_cons.mpr ⟨fun y hy=>by rw [hk];exact h2 y hy,ho.sublist (List.drop_sublist _ _)⟩,fun x hx y hy=>?_⟩
    have:=h1 x hx
    rcases List.mem_cons.mp hy with rfl | hy
    · omega
    · have:=h2 y hy;omega
end
def gOf(l:List Hrd)(r:Int):Hrd:=(base l r).getD (posH l r) hrd0
def pOf(l:List Per)(r:Int):Per:=l.getD (posP l r) ⟨0,0,0⟩
theorem hitH_iff{l:List Hrd}{r:Int}(ho:l.Pairwise fun x y=>x.router<y.router):hitH l r↔∃z∈l,z.router=r:=hitK_iff (key:=Hrd.router) ho
theorem hitP_iff{l:List Per}{r:Int}(ho:l.Pairwise fun x y=>x.router<y.router):hitP l r↔∃z∈l,z.router=r:=hitK_iff (key:=Per.router) ho
theorem gOf_mem{l:List Hrd}{z:Hrd}(ho:l.Pairwise fun x y=>x.router<y.router)(hz:z∈l):gOf l z.router=z:=by
  unfold gOf base
  rw [if_pos ((hitH_iff ho).mpr ⟨z,hz,rfl⟩)]
  exact atK_eq (key:=Hrd.router) ho hz
theorem insAt_cons{α:Type}(l:List α)(i:Nat)(x:α):insAt l i x=l.take i++x::l.drop i:=by
  simp [insAt]
theorem gOf_no{l:List Hrd}{r:Int}(ho:l.Pairwise fun x y=>x.router<y.router)(h:¬∃z∈l,z.router=r):gOf l r=⟨r,0,0,[]⟩:=by
  unfold gOf base
  rw [if_neg (fun q=>h ((hitH_iff ho).mp q)),insAt_cons]
  have hp:posH l r≤l.length:=List.findIdx_le_length
  rw [List.getD_eq_getElem?_getD,List.getElem?_append_right (by rw [List.length_take];omega)]
  simp [List.length_take,Nat.min_eq_left hp]
theorem pOf_mem{l:List Per}{z:Per}(ho:l.Pairwise fun x y=>x.router<y.router)(hz:z∈l):pOf l z.router=z:=atK_eq (key:=Per.router) ho hz
theorem gOf_router{l:List Hrd}{r:Int}(ho:l.Pairwise fun x y=>x.router<y.router):(gOf l r).router=r:=by
  by_cases h:∃z∈l,z.router=r
  · obtain ⟨z,hz,rfl⟩:=h;rw [gOf_mem ho hz]
  · rw [gOf_no ho h]
def hearG(g:Hrd)(x:Sig):Hrd:=hear1 (hear0 g x) x
theorem hearG_router{g:Hrd}{x:Sig}(h:g.router=x.src):(hearG g x).router=x.src:=by
  unfold hearG hear1 hear0
  split<;>split<;>simp [h]
theorem gOf_ok{l:Lsn}(hl:lsnOk l)(r:Int):itmsOk (gOf l.heard r).ver (gOf l.heard r).items∧(0≤(gOf l.heard r).ver∧(gOf l.heard r).ver≤1000000)∧(0≤(gOf l.heard r).epoch∧(gOf l.heard r).epoch≤1000000):=by
  by_cases h:∃z∈l.heard,z.router=r
  · obtain ⟨z,hz,rfl⟩:=h
    rw [gOf_mem hl.2.2.2.2 hz]
    obtain ⟨k1,k2,k3,k4,k5⟩:=hl.2.2.2.1 z hz
    exact ⟨k5,k4,by omega,k3.2⟩
  · rw [gOf_no hl.2.2.2.2 h]
    exact ⟨⟨fun y hy=>by simp at hy,by simp,List.Pairwise.nil⟩,⟨by simp,by simp⟩,by simp,by simp⟩
end Go.Proofs.YtgnogboljobocaaGreatDoor

namespace Go.Proofs.YtgnogboljobocaaGreatDoor
open Go Go.Am
set_option linter.unusedVariables false
set_option linter.unusedSimpArgs false
def LastOk(n:Int)(l:List Itm):Prop:=(l=[]→n=0)∧∀x,l.getLast?=some x→x.ver=n
structure TellOk (e n:Int) (it:List Itm) (x:Sig):Prop where
  ep:x.epoch≤e
  upd:x.kind=2→x.epoch=e→UpdOk n it x
structure AckOk (e le:Int) (g:Hrd) (x:Sig):Prop where
  ep:x.epoch≤e
  pe:x.pep≤le
  now:x.pep=le→x.epoch=e→g.epoch=e∧x.ver≤g.ver
structure PI (e n:Int) (it:List Itm) (p:Per) (le:Int) (g:Hrd):Prop where
  e1:1≤e
  n0:0≤n
  io:itmsOk n it
  last:LastOk n it
  p1:p.epoch≤le
  p2:0≤p.acked
  p3:p.epoch=le→p.acked=0∨(g.epoch=e∧p.acked≤g.ver)
  g1:0≤g.epoch∧g.epoch≤e
  g2:0≤g.ver
  g3:itmsOk g.ver g.items
  g4:g.epoch=e→HrdOk n it g
section
variable {e n : Int} {it : List Itm} {p : Per} {le : Int} {g : Hrd} {x : Sig}
structure Done (e n:Int) (p:Per) (le:Int) (g:Hrd):Prop where
  ge:g.epoch=e
  gv:g.ver=n
  pe:p.epoch=le
  pa:p.acked=n
end
end Go.Proofs.YtgnogboljobocaaGreatDoor

namespace Go.Proofs.YtgnogboljobocaaGreatDoor
open Go Go.Am
set_option linter.unusedVariables false
set_option linter.unusedSimpArgs false
structure Sent (a:Spk) (to:Int) (x:Sig):Prop where
  ok:sigErr x=0
  kind:x.kind≠3
  src:x.src=a.router
  dst:x.dst=to
  epoch:x.epoch=a.epoch
  tell:TellOk a.epoch a.last a.items x
theorem send_val{a:Spk}{to:Int}(ha:spkOk a)(hh:∃z∈a.peers,z.router=to):send a to=(hello a to::sendFrom a to (pOf a.peers to).acked 0 a.items,0)∧∀x∈(send a to).1,Sent a to x:=by
  have hhit:=(hitP_iff ha.2.2.2.2.2.2).mpr hh
  obtain ⟨p1,p2,p3,p4,p5,p6,p7⟩:=ha
  obtain ⟨z,hz,hzr⟩:=hh
  obtain ⟨z1,z2,_⟩:=p6 z hz
  have e:send a to=(hello a to::sendFrom a to (pOf a.peers to).acked 0 a.items,0):=by
    unfold send
    rw [if_neg (not_not_intro ⟨p1,p2,p3,p4,p5,p6,p7⟩),if_neg (not_not_intro hhit)]
    rfl
  refine ⟨e,?_⟩
  rw [e]
  intro x hx
  rcases List.mem_cons.mp hx with rfl | hx
  · refine ⟨?_,by simp [hello],rfl,rfl,rfl,Int.le_refl _,fun q=>by simp [hello] at q⟩
    have hn:sigNums (hello a to):=by
      unfold sigNums hello
      rw [if_pos rfl]
      exact ⟨p2,p3,rfl,rfl,rfl⟩
    have he:sigEnds (hello a to):=⟨p1,by rw [←hzr];exact z1,by simp only [hello];omega⟩
    unfold sigErr
    rw [if_neg (by simp [hello]),if_neg (not_not_intro ⟨he,hn⟩),if_neg (by simp [hello]),if_neg (by simp [hello])]
  · obtain ⟨x1,x2,x3,x4,x5,x6,x7,x8⟩:=send_ok p4 p3.2 a.items [] 0 rfl (by omega) (by simp) (fun y hy=>by have:=(p4.1 y hy).1.1;omega) x hx
    refine ⟨?_,by omega,x2,x3,x4,by omega,fun _ _=>x8⟩
    obtain ⟨i1,i2,i3⟩:=p4.1 _ x7
    simp only [sigItm] at i1 i2 i3
    have hn:sigNums x:=by
      unfold sigNums
      rw [if_neg (by omega),if_pos x1,x4]
      exact ⟨p2,⟨i1.1,by omega⟩,x6,x5,i2⟩
    have he:sigEnds x:=⟨by rw [x2];exact p1,by omega,by omega⟩
    unfold sigErr
    rw [if_neg (by omega),if_neg (not_not_intro ⟨he,hn⟩),if_pos x1]
    exact i3
structure SI (s:Spk×Lsn):Prop where
  aok:spkOk s.1
  ar:s.1.router=1
  ap:s.1.peers.map Per.router=[2]
  lok:lsnOk s.2
  lr:s.2.router=2
  lh:∀h∈s.2.heard,h.router=1
  pi:PI s.1.epoch s.1.last s.1.items (pOf s.1.peers 2) s.2.epoch (gOf s.2.heard 1)
theorem SI.hp{s:Spk×Lsn}(h:SI s):∃z∈s.1.peers,z.router=2:=by
  have:(2:Int)∈s.1.peers.map Per.router:=by rw [h.ap];simp
  obtain ⟨z,hz,e⟩:=List.mem_map.mp this
  exact ⟨z,hz,e⟩
theorem Done.agree{a:Spk}{l:Lsn}{q:Int}(ha:spkOk a)(hl:lsnOk l)(hP:PI a.epoch a.last a.items (pOf a.peers q) l.epoch (gOf l.heard a.router))(hg:(gOf l.heard a.router).epoch=a.epoch∧(gOf l.heard a.router).ver=a.last) :
    Go.Proofs.YtgnogboljobocaaGreatDoor.agree a l∧(gOf l.heard a.router).items=a.items∧atH l.heard a.router=gOf l.heard a.router∧hitH l.heard a.router:=by
  have hh:∃z∈l.heard,z.router=a.router:=by
    refine Classical.byContradiction fun hn=>?_
    have:=gOf_no hl.2.2.2.2 hn
    rw [this] at hg
    have:=hP.e1
    simp only at hg
    omega
  have hit:=(hitH_iff hl.2.2.2.2).mpr hh
  have hat:atH l.heard a.router=gOf l.heard a.router:=by
    unfold atH gOf base
    rw [if_pos hit]
  have hi:=(hP.g4 hg.1).eq hP.io hP.g3 hg.2
  exact ⟨⟨ha,hl,hit,by rw [hat];exact hg.1,by rw [hat];exact hg.2,by rw [hat];exact hi⟩,hi,hat,hit⟩
theorem sendFrom_none{s:Spk}{to acked:Int}:∀{r:List Itm} {prev:Int},(∀y∈r,y.ver≤acked)→sendFrom s to acked prev r=[]
  | [],_,_=>rfl
  | y::r,prev,h=>by
    have:=h y (by simp)
    rw [sendFrom,if_neg (by omega),sendFrom_none fun z hz=>h z (by simp [hz])]
    rfl
theorem settled{s:Spk×Lsn}(h:SI s)(hd:Done s.1.epoch s.1.last (pOf s.1.peers 2) s.2.epoch (gOf s.2.heard 1)) :
    agree s.1 s.2∧(∃p,s.1.peers=[p]∧p.acked=s.1.last)∧(send s.1 2).2=0∧(send s.1 2).1.length=1∧knownW s.2 1=wantsOf s.1.items:=by
  have hP:=h.pi
  have hg:(gOf s.2.heard s.1.router).epoch=s.1.epoch∧(gOf s.2.heard s.1.router).ver=s.1.last:=by rw [h.ar];exact ⟨hd.ge,hd.gv⟩
  obtain ⟨a1,a2,a3,a4⟩:=Done.agree (q:=2) h.aok h.lok (by rw [h.ar];exact hP) hg
  have hpp:s.1.peers=[pOf s.1.peers 2]:=by
    have:=h.ap
    generalize s.1.peers=ps at this
    cases ps with
    | nil=>simp at this
    | cons p r =>
      simp only [List.map_cons,List.cons.injEq,List.map_eq_nil_iff] at this
      obtain ⟨hp,rfl⟩:=this
      have:=pOf_mem (l:=[p]) (z:=p) (List.pairwise_singleton _ _) (by simp)
      rw [←hp,this]
  obtain ⟨v,w⟩:=send_val h.aok h.hp
  refine ⟨a1,⟨_,hpp,hd.pa⟩,by rw [v],?_,?_⟩
  · rw [v,sendFrom_none fun y hy=>?_]
    · rfl
    · rw [hd.pa];exact (hP.io.1 y hy).1.2
  · rw [h.ar] at a2 a3 a4
    unfold knownW
    rw [if_pos ⟨h.lok,a4⟩,a3,a2]
end Go.Proofs.YtgnogboljobocaaGreatDoor

namespace Go.Proofs.YtgnogboljobocaaGreatDoor
open Go Go.Am
set_option linter.unusedVariables false
set_option linter.unusedSimpArgs false
def sameW_a(a:(List Wnt))(b:(List Wnt)):Prop:=okL [.sl 3 (a.map Wnt.v) false,.sl 3 (b.map Wnt.v) false]
def sameW_n0(a:(List Wnt))(b:(List Wnt))(t0:Int):NF:=⟨[(0,.k,.sl 3 (a.map Wnt.v) false),(1,.k,.sl 3 (b.map Wnt.v) false),(5,.k,.int t0)],[]⟩
def sameW_s:Nat→Type
  | 0=>Int
  | _=>Unit
def sameW_e(r:Bool):AV:=.bool r
def sameW_vc(a:(List Wnt))(b:(List Wnt))(I0:Int→Prop)(m0:Int→Nat)(r0:Bool):Prop:=
 br (((a.map Wnt.v).length:Int) != ((b.map Wnt.v).length:Int))
 (Rp sameW_e (false) r0)
 (Be (sameW_n0 a b) [] I0 (0)∧∀t0,I0 t0 →
 br (decide (t0<((a.map Wnt.v).length:Int)))
 (Rf (a.map Wnt.v) (ck (decide (0≤t0)) (ck (decide (t0<(a.length:Int)))
 (∀x1,a[t0.toNat]?=some x1 →
 Rf (b.map Wnt.v) (ck (decide (0≤t0)) (ck (decide (t0<(b.length:Int)))
 (∀x2,b[t0.toNat]?=some x2 →
 br (x1.grp != x2.grp)
 (Rp sameW_e (false) r0)
 (Rf (a.map Wnt.v) (ck (decide (0≤t0)) (ck (decide (t0<(a.length:Int)))
 (∀x3,a[t0.toNat]?=some x3 →
 Rf (b.map Wnt.v) (ck (decide (0≤t0)) (ck (decide (t0<(b.length:Int)))
 (∀x4,b[t0.toNat]?=some x4 →
 Cl (FSame_c (⟨x3.mode,x3.srcs⟩:Flt) (⟨x4.mode,x4.srcs⟩:Flt))
 (br (!(FSame (⟨x3.mode,x3.srcs⟩:Flt) (⟨x4.mode,x4.srcs⟩:Flt)))
 (Rp sameW_e (false) r0)
 (Bk (sameW_n0 a b) [] I0 m0 (W (t0+1)) t0))))))))))))))))
 (Rp sameW_e (true) r0))
theorem sameW_ok(a:(List Wnt))(b:(List Wnt))(I0:Int→Prop)(m0:Int→Nat)(r0:Bool)(h:sameW_vc a b I0 m0 r0):PSpec Tryz.prog 50 [.sl 3 (a.map Wnt.v) false,.sl 3 (b.map Wnt.v) false] (sameW_e r0):=mxP_of (sh:=.k) (a:=((.br 96 (.ret (false))
 (.loop 0 (sameW_n0 a b) (I0) (m0) ((0):Int) [] fun (t0:Int) =>
 (.br 64 (.el 96 Wnt.v a fun x1 =>
 (.el 176 Wnt.v b fun x2 =>
 (.br 256 (.ret (false))
 (.el 288 Wnt.v a fun x3 =>
 (.el 368 Wnt.v b fun x4 =>
 (.callP (FSame_c (⟨x3.mode,x3.srcs⟩:Flt) (⟨x4.mode,x4.srcs⟩:Flt))
 (.br 464 (.ret (false))
 (.back 0 ((W (t0+1)):Int) []))))))))
 (.ret (true))))):An Tryz.prog sameW_s (Bool))) h (by kernel_rfl) (AV.pureB_ok rfl)
theorem Wnt.eq_iff{x y:Wnt}:x=y↔x.grp=y.grp∧x.mode=y.mode∧x.srcs=y.srcs:=by cases x;cases y;simp
theorem sameW_p(a b:List Wnt)(ok:sameW_a a b):∃I m,sameW_vc a b I m (decide (a=b)):=by
  simp only [sameW_a,okU,Blk.ok,plainV,List.length_map] at ok
  refine ⟨fun t=>∃k:Nat,t=k∧k≤a.length∧a.take k=b.take k,fun t=>a.length-t.toNat,?_⟩
  simp only [sameW_vc,vcU,rfU,List.length_map]
  refine ⟨fun e=>(decide_eq_false fun h=>by subst h;simp at e).symm,fun e=>⟨⟨0,rfl,by omega,rfl⟩,?_⟩⟩
  have e:a.length=b.length:=by simp at e;omega
  rintro _ ⟨k,rfl,hk,h⟩
  simp only [Int.toNat_natCast]
  refine ⟨fun h1=>⟨by omega,by omega,fun x hx=>⟨by omega,by omega,fun y hy=>?_⟩⟩,fun h1=>?_⟩
  · have bad:x≠y→false=decide (a=b):=fun hne=>(decide_eq_false fun hh=>by
      subst hh
      cases hx.symm.trans hy
      exact hne rfl).symm
    refine ⟨fun c=>bad fun q=>by subst q;simp at c,fun c=>⟨by omega,by omega,fun x2 hx2=>⟨by omega,by omega,fun y2 hy2=>?_⟩⟩⟩
    cases hx.symm.trans hx2
    cases hy.symm.trans hy2
    refine ⟨fun c3=>bad fun q=>by subst q;simp [FSame] at c3,fun c3=>?_⟩
    have q:x=y:=by
      rw [Wnt.eq_iff]
      have c3:FSame ⟨x.mode,x.srcs⟩ ⟨y.mode,y.srcs⟩=true:=by simpa using c3
      have c3:=of_decide_eq_true c3
      simp only [Flt.mk.injEq] at c3
      exact ⟨by simpa using c,c3⟩
    subst q
    rw [W_succ (n:=a.length) (by omega) (by omega)]
    exact ⟨⟨k+1,rfl,by omega,by rw [take_succ hx,take_succ hy,h]⟩,by omega⟩
  · rw [List.take_of_length_le (by omega),List.take_of_length_le (by omega)] at h
    exact (decide_eq_true h).symm
def sameW_c(a:(List Wnt))(b:(List Wnt)):PC Tryz.prog:=⟨50,[(.s 3),(.s 3)],[.sl 3 (a.map Wnt.v) false,.sl 3 (b.map Wnt.v) false],sameW_e (decide (a=b)),PSpec.of_ok fun ok=>(sameW_p a b ok).elim fun I0 h=>h.elim fun m0 h=>sameW_ok a b I0 m0 _ h,fnB_ok (by kernel_rfl)⟩
end Go.Proofs.YtgnogboljobocaaGreatDoor

namespace Go.Proofs.YtgnogboljobocaaGreatDoor
open Go Go.Am
set_option linter.unusedVariables false
set_option linter.unusedSimpArgs false
def inR5(x lo hi:Int):Bool:=decide (lo≤x∧x≤hi)
def inR5_a(x:Int)(lo:Int)(hi:Int):Prop:=okL [.int x,.int lo,.int hi]
def inR5_s:Nat→Type
  | _=>Unit
def inR5_e(r:Bool):AV:=.bool r
def inR5_vc(x:Int)(lo:Int)(hi:Int)(r0:Bool):Prop:=
 br (decide (lo≤x))
 (Rp inR5_e (decide (x≤hi)) r0)
 (Rp inR5_e (false) r0)
theorem inR5_ok(x:Int)(lo:Int)(hi:Int)(r0:Bool)(h:inR5_vc x lo hi r0):PSpec Tryz.prog 206 [.int x,.int lo,.int hi] (inR5_e r0):=mxP_of (sh:=.k) (a:=((.br 80 (.ret (decide (x≤hi)))
 (.ret (false))):An Tryz.prog inR5_s (Bool))) h (by kernel_rfl) (AV.pureB_ok rfl)
theorem inR5_p(x lo hi:Int)(ok:inR5_a x lo hi):inR5_vc x lo hi (inR5 x lo hi):=by
  simp only [inR5_vc,vcU,rfU,List.length_map]
  refine ⟨fun h=>decide_eq_decide.mpr ⟨fun q=>⟨h,q⟩,fun q=>q.2⟩,fun h=>(decide_eq_false fun q=>h q.1).symm⟩
def inR5_c(x:Int)(lo:Int)(hi:Int):PC Tryz.prog:=⟨206,[.k,.k,.k],[.int x,.int lo,.int hi],inR5_e (inR5 x lo hi),PSpec.of_ok fun ok=>inR5_ok x lo hi _ (inR5_p x lo hi ok),fnB_ok (by kernel_rfl)⟩
theorem eq_take{α:Type}{a b:List α}{k:Nat}{x y:α}(hx:a[k]?=some x)(hy:b[k]?=some y)(h:a.take k=b.take k)(e:x=y):a.take (k+1)=b.take (k+1):=by
  subst e;rw [take_succ hx,take_succ hy,h]
theorem ne_of_get{α:Type}{a b:List α}{k:Nat}{x y:α}(hx:a[k]?=some x)(hy:b[k]?=some y)(e:x≠y):a≠b:=by
  rintro rfl;rw [hx] at hy;cases hy;exact e rfl
theorem nodec{p:Prop}[Decidable p](h:¬p):false=decide p:=(decide_eq_false h).symm
theorem Sig.eq_iff{x y:Sig}:x=y↔x.kind=y.kind∧x.src=y.src∧x.dst=y.dst∧x.epoch=y.epoch∧x.ver=y.ver∧x.prev=y.prev∧x.pep=y.pep∧x.grp=y.grp∧x.mode=y.mode∧x.srcs=y.srcs:=by cases x;cases y;simp
def sameG_a(a:Sig)(b:Sig):Prop:=okL [.agg [.int a.kind,.int a.src,.int a.dst,.int a.epoch,.int a.ver,.int a.prev,.int a.pep,.int a.grp,.int a.mode,.sl 1 (a.srcs.map AV.int) false],.agg [.int b.kind,.int b.src,.int b.dst,.int b.epoch,.int b.ver,.int b.prev,.int b.pep,.int b.grp,.int b.mode,.sl 1 (b.srcs.map AV.int) false]]
def sameG_s:Nat→Type
  | _=>Unit
def sameG_e(r:Bool):AV:=.bool r
def sameG_vc(a:Sig)(b:Sig)(r0:Bool):Prop:=
 br (a.kind==b.kind)
 (br (a.src==b.src)
 (br (a.dst==b.dst)
 (br (a.epoch==b.epoch)
 (br (a.ver==b.ver)
 (br (a.prev==b.prev)
 (br (a.pep==b.pep)
 (br (a.grp==b.grp)
 (Cl (FSame_c (⟨a.mode,a.srcs⟩:Flt) (⟨b.mode,b.srcs⟩:Flt))
 (Rp sameG_e (FSame (⟨a.mode,a.srcs⟩:Flt) (⟨b.mode,b.srcs⟩:Flt)) r0))
 (Rp sameG_e (false) r0))
 (Rp sameG_e (false) r0))
 (Rp sameG_e (false) r0))
 (Rp sameG_e (false) r0))
 (Rp sameG_e (false) r0))
 (Rp sameG_e (false) r0))
 (Rp sameG_e (false) r0))
 (Rp sameG_e (false) r0)
theorem sameG_ok(a:Sig)(b:Sig)(r0:Bool)(h:sameG_vc a b r0):PSpec Tryz.prog 56 [.agg [.int a.kind,.int a.src,.int a.dst,.int a.epoch,.int a.ver,.int a.prev,.int a.pep,.int a.grp,.int a.mode,.sl 1 (a.srcs.map AV.int) false],.agg [.int b.kind,.int b.src,.int b.dst,.int b.epoch,.int b.ver,.int b.prev,.int b.pep,.int b.grp,.int b.mode,.sl 1 (b.srcs.map AV.int) false]] (sameG_e r0):=mxP_of (sh:=.k) (a:=((.br 144 (.br 256 (.br 368 (.br 480 (.br 592 (.br 704 (.br 816 (.br 928 (.callP (FSame_c (⟨a.mode,a.srcs⟩:Flt) (⟨b.mode,b.srcs⟩:Flt))
 (.ret (FSame (⟨a.mode,a.srcs⟩:Flt) (⟨b.mode,b.srcs⟩:Flt))))
 (.ret (false)))
 (.ret (false)))
 (.ret (false)))
 (.ret (false)))
 (.ret (false)))
 (.ret (false)))
 (.ret (false)))
 (.ret (false))):An Tryz.prog sameG_s (Bool))) h (by kernel_rfl) (AV.pureB_ok rfl)
theorem sameG_p(a b:Sig)(ok:sameG_a a b):sameG_vc a b (decide (a=b)):=by
  simp only [sameG_vc,vcU,rfU,List.length_map]
  have no:∀(p:Sig→Int),(p a==p b)=false→false=decide (a=b):=fun p h=>nodec fun q=>by subst q;simp at h
  refine ⟨fun e1=>⟨fun e2=>⟨fun e3=>⟨fun e4=>⟨fun e5=>⟨fun e6=>⟨fun e7=>⟨fun e8=>?_,no Sig.grp⟩,no Sig.pep⟩,no Sig.prev⟩,no Sig.ver⟩,no Sig.epoch⟩,no Sig.dst⟩,no Sig.src⟩,no Sig.kind⟩
  unfold FSame
  rw [decide_eq_decide,Sig.eq_iff]
  simp only [beq_iff_eq] at e1 e2 e3 e4 e5 e6 e7 e8
  simp only [Flt.mk.injEq]
  exact ⟨fun q=>⟨e1,e2,e3,e4,e5,e6,e7,e8,q⟩,fun q=>q.2.2.2.2.2.2.2.2⟩
def sameG_c(a:Sig)(b:Sig):PC Tryz.prog:=⟨56,[(.a [.k,.k,.k,.k,.k,.k,.k,.k,.k,(.s 1)]),(.a [.k,.k,.k,.k,.k,.k,.k,.k,.k,(.s 1)])],[.agg [.int a.kind,.int a.src,.int a.dst,.int a.epoch,.int a.ver,.int a.prev,.int a.pep,.int a.grp,.int a.mode,.sl 1 (a.srcs.map AV.int) false],.agg [.int b.kind,.int b.src,.int b.dst,.int b.epoch,.int b.ver,.int b.prev,.int b.pep,.int b.grp,.int b.mode,.sl 1 (b.srcs.map AV.int) false]],sameG_e (decide (a=b)),PSpec.of_ok fun ok=>sameG_ok a b _ (sameG_p a b ok),fnB_ok (by kernel_rfl)⟩
theorem Spk.eq_iff{x y:Spk}:x=y↔x.router=y.router∧x.epoch=y.epoch∧x.last=y.last∧x.items=y.items∧x.peers=y.peers:=by cases x;cases y;simp
theorem Lsn.eq_iff{x y:Lsn}:x=y↔x.router=y.router∧x.epoch=y.epoch∧x.heard=y.heard:=by cases x;cases y;simp
theorem Hrd.eq_iff{x y:Hrd}:x=y↔x.router=y.router∧x.epoch=y.epoch∧x.ver=y.ver∧x.items=y.items:=by cases x;cases y;simp
theorem Per.eq_iff{x y:Per}:x=y↔x.router=y.router∧x.epoch=y.epoch∧x.acked=y.acked:=by cases x;cases y;simp
def sameS_a(a:Spk)(b:Spk):Prop:=okL [.agg [.int a.router,.int a.epoch,.int a.last,.sl 4 (a.items.map Itm.v) false,.sl 3 (a.peers.map Per.v) false],.agg [.int b.router,.int b.epoch,.int b.last,.sl 4 (b.items.map Itm.v) false,.sl 3 (b.peers.map Per.v) false]]
def sameS_n0(a:Spk)(b:Spk)(t0:Bool):NF:=⟨[(2,.k,.ref 0 0),(3,.k,.ref 1 0),(41,.k,.bool t0)],[.box (.agg [.int a.router,.int a.epoch,.int a.last,.sl 4 (a.items.map Itm.v) false,.sl 3 (a.peers.map Per.v) false]),.box (.agg [.int b.router,.int b.epoch,.int b.last,.sl 4 (b.items.map Itm.v) false,.sl 3 (b.peers.map Per.v) false])]⟩
def sameS_n1(a:Spk)(b:Spk)(t0:Bool)(t1:Int):NF:=⟨[(2,.k,.ref 0 0),(3,.k,.ref 1 0),(5,.k,.int t1)],[.box (.agg [.int a.router,.int a.epoch,.int a.last,.sl 4 (a.items.map Itm.v) false,.sl 3 (a.peers.map Per.v) false]),.box (.agg [.int b.router,.int b.epoch,.int b.last,.sl 4 (b.items.map Itm.v) false,.sl 3 (b.peers.map Per.v) false])]⟩
def sameS_s:Nat→Type
  | 0=>Bool
  | 1=>Int
  | _=>Unit
def sameS_e(r:Bool):AV:=.bool r
def sameS_vc(a:Spk)(b:Spk)(I0:Bool→Prop)(I1:Bool→Int→Prop)(m1:Bool→Int→Nat)(r0:Bool):Prop:=
 (br (a.router != b.router)
 (Be (sameS_n0 a b) [0,16] I0 (true))
 (br (a.epoch != b.epoch)
 (Be (sameS_n0 a b) [0,16] I0 (true))
 (br (a.last != b.last)
 (Be (sameS_n0 a b) [0,16] I0 (true))
 (Cl (sameI_c a.items b.items)
 (br (!(decide (a.items=b.items)))
 (Be (sameS_n0 a b) [0,16] I0 (true))
 (Be (sameS_n0 a b) [0,16] I0 (((a.peers.map Per.v).length:Int) != ((b.peers.map Per.v).length:Int))))))))∧∀t0:Bool,I0 t0 →
 br t0
 (Rp sameS_e (false) r0)
 (Be (sameS_n1 a b t0) [0,1] (I1 t0) (0)∧∀t1,I1 t0 t1 →
 br (decide (t1<((a.peers.map Per.v).length:Int)))
 (Rf (a.peers.map Per.v) (ck (decide (0≤t1)) (ck (decide (t1<(a.peers.length:Int)))
 (∀x1,a.peers[t1.toNat]?=some x1 →
 Rf (b.peers.map Per.v) (ck (decide (0≤t1)) (ck (decide (t1<(b.peers.length:Int)))
 (∀x2,b.peers[t1.toNat]?=some x2 →
 br (!((x1.router==x2.router) && ((x1.epoch==x2.epoch) && ((x1.acked==x2.acked) && true))))
 (Rp sameS_e (false) r0)
 (Bk (sameS_n1 a b t0) [0,1] (I1 t0) (m1 t0) (W (t1+1)) t1))))))))
 (Rp sameS_e (true) r0))
theorem sameS_ok(a:Spk)(b:Spk)(I0:Bool→Prop)(I1:Bool→Int→Prop)(m1:Bool→Int→Nat)(r0:Bool)(h:sameS_vc a b I0 I1 m1 r0):PSpec Tryz.prog 59 [.agg [.int a.router,.int a.epoch,.int a.last,.sl 4 (a.items.map Itm.v) false,.sl 3 (a.peers.map Per.v) false],.agg [.int b.router,.int b.epoch,.int b.last,.sl 4 (b.items.map Itm.v) false,.sl 3 (b.peers.map Per.v) false]] (sameS_e r0):=mxP_of (sh:=.k) (a:=((.pass (.pass (.join 0 (sameS_n0 a b) (fun t0=>I0 t0) (.br 144 (.back 0 ((true):Bool) [0,16])
 (.br 256 (.back 0 ((true):Bool) [0,16])
 (.br 368 (.back 0 ((true):Bool) [0,16])
 (.callP (sameI_c a.items b.items)
 (.br 496 (.back 0 ((true):Bool) [0,16])
 (.back 0 ((((a.peers.map Per.v).length:Int) != ((b.peers.map Per.v).length:Int)):Bool) [0,16])))))) fun (t0:Bool) =>
 (.br 2 (.ret (false))
 (.loop 1 (sameS_n1 a b t0) (I1 t0) (m1 t0) ((0):Int) [0,1] fun (t1:Int) =>
 (.br 82 (.el 130 Per.v a.peers fun x1 =>
 (.el 210 Per.v b.peers fun x2 =>
 (.br 258 (.ret (false))
 (.back 1 ((W (t1+1)):Int) [0,1]))))
 (.ret (true)))))))):An Tryz.prog sameS_s (Bool))) h (by kernel_rfl) (AV.pureB_ok rfl)
theorem sameS_p(a b:Spk)(ok:sameS_a a b):∃I0 I1 m1,sameS_vc a b I0 I1 m1 (decide (a=b)):=by
  unfold sameS_a at ok
  refine ⟨fun t=>t=false↔a.router=b.router∧a.epoch=b.epoch∧a.last=b.last∧a.items=b.items∧a.peers.length=b.peers.length,fun t0 t=>∃k:Nat,t=k∧k≤a.peers.length∧a.peers.take k=b.peers.take k,fun t0 t=>a.peers.length-t.toNat,?_⟩
  simp only [sameS_vc,vcU,rfU,List.length_map]
  have hle:a.peers.length≤9223372036854775807:=by
    have h:=ok
    simp only [Spk.v,pers,AV.ok,okL,List.length_map,maxLen_eq] at h
    omega
  have t:∀{q:Prop},¬q→(true=false↔q):=fun h=>⟨fun e=>Bool.noConfusion e,fun e=>absurd e h⟩
  refine ⟨⟨fun e1=>t fun q=>?_,fun e1=>⟨fun e2=>t fun q=>?_,fun e2=>⟨fun e3=>t fun q=>?_,fun e3=>⟨fun e4=>t fun q=>?_,fun e4=>?_⟩⟩⟩⟩,fun b0 hb=>⟨fun e=>?_,fun e=>⟨⟨0,rfl,by omega,rfl⟩,?_⟩⟩⟩
  · simp [q.1] at e1
  · simp [q.2.1] at e2
  · simp [q.2.2.1] at e3
  · simp [q.2.2.2.1] at e4
  · simp only [bne_eq_false_iff_eq,Bool.not_eq_false',decide_eq_true_iff] at e1 e2 e3 e4 ⊢
    constructor
    · intro q;exact ⟨e1,e2,e3,e4,by omega⟩
    · intro q;omega
  · subst e
    exact nodec fun q=>by subst q;exact Bool.noConfusion (hb.mpr ⟨rfl,rfl,rfl,rfl,rfl⟩)
  · obtain ⟨q1,q2,q3,q4,q5⟩:=hb.mp e
    rintro _ ⟨k,rfl,hk,h⟩
    simp only [Int.toNat_natCast]
    refine ⟨fun h1=>⟨by omega,by omega,fun x hx=>⟨by omega,by omega,fun y hy=>⟨fun c=>?_,fun c=>?_⟩⟩⟩,fun h1=>?_⟩
    · refine nodec fun q=>ne_of_get hx hy (fun w=>?_) (Spk.eq_iff.mp q).2.2.2.2
      subst w;simp at c
    · rw [W_succ (n:=a.peers.length) (by omega) (by omega)]
      refine ⟨⟨k+1,rfl,by omega,eq_take hx hy h ?_⟩,by omega⟩
      rw [Per.eq_iff]
      simpa using c
    · rw [List.take_of_length_le (by omega),List.take_of_length_le (by omega)] at h
      exact (decide_eq_true (Spk.eq_iff.mpr ⟨q1,q2,q3,q4,h⟩)).symm
def sameS_c(a:Spk)(b:Spk):PC Tryz.prog:=⟨59,[(.a [.k,.k,.k,(.s 4),(.s 3)]),(.a [.k,.k,.k,(.s 4),(.s 3)])],[.agg [.int a.router,.int a.epoch,.int a.last,.sl 4 (a.items.map Itm.v) false,.sl 3 (a.peers.map Per.v) false],.agg [.int b.router,.int b.epoch,.int b.last,.sl 4 (b.items.map Itm.v) false,.sl 3 (b.peers.map Per.v) false]],sameS_e (decide (a=b)),PSpec.of_ok fun ok=>(sameS_p a b ok).elim fun I0 h=>h.elim fun I1 h=>h.elim fun m1 h=>sameS_ok a b I0 I1 m1 _ h,fnB_ok (by kernel_rfl)⟩
def sameL_a(a:Lsn)(b:Lsn):Prop:=okL [.agg [.int a.router,.int a.epoch,.sl 4 (a.heard.map Hrd.v) false],.agg [.int b.router,.int b.epoch,.sl 4 (b.heard.map Hrd.v) false]]
def sameL_n0(a:Lsn)(b:Lsn)(t0:Bool):NF:=⟨[(2,.k,.ref 0 0),(3,.k,.ref 1 0),(28,.k,.bool t0)],[.box (.agg [.int a.router,.int a.epoch,.sl 4 (a.heard.map Hrd.v) false]),.box (.agg [.int b.router,.int b.epoch,.sl 4 (b.heard.map Hrd.v) false])]⟩
def sameL_n1(a:Lsn)(b:Lsn)(t0:Bool)(t1:Int):NF:=⟨[(2,.k,.ref 0 0),(3,.k,.ref 1 0),(5,.k,.int t1)],[.box (.agg [.int a.router,.int a.epoch,.sl 4 (a.heard.map Hrd.v) false]),.box (.agg [.int b.router,.int b.epoch,.sl 4 (b.heard.map Hrd.v) false])]⟩
def sameL_n2(a:Lsn)(b:Lsn)(t0:Bool)(t1:Int)(x1:Hrd)(x2:Hrd)(t2:Bool):NF:=⟨[(2,.k,.ref 0 0),(3,.k,.ref 1 0),(5,.k,.int t1),(72,.k,.bool t2)],[.box (.agg [.int a.router,.int a.epoch,.sl 4 (a.heard.map Hrd.v) false]),.box (.agg [.int b.router,.int b.epoch,.sl 4 (b.heard.map Hrd.v) false])]⟩
def sameL_s:Nat→Type
  | 0=>Bool
  | 1=>Int
  | 2=>Bool
  | _=>Unit
def sameL_e(r:Bool):AV:=.bool r
def sameL_vc(a:Lsn)(b:Lsn)(I0:Bool→Prop)(I1:Bool→Int→Prop)(m1:Bool→Int→Nat)(I2:Bool→Int→Hrd→Hrd→Bool→Prop)(r0:Bool):Prop:=
 (br (a.router != b.router)
 (Be (sameL_n0 a b) [0,16] I0 (true))
 (br (a.epoch != b.epoch)
 (Be (sameL_n0 a b) [0,16] I0 (true))
 (Be (sameL_n0 a b) [0,16] I0 (((a.heard.map Hrd.v).length:Int) != ((b.heard.map Hrd.v).length:Int)))))∧∀t0:Bool,I0 t0 →
 br t0
 (Rp sameL_e (false) r0)
 (Be (sameL_n1 a b t0) [0,1] (I1 t0) (0)∧∀t1,I1 t0 t1 →
 br (decide (t1<((a.heard.map Hrd.v).length:Int)))
 (Rf (a.heard.map Hrd.v) (ck (decide (0≤t1)) (ck (decide (t1<(a.heard.length:Int)))
 (∀x1,a.heard[t1.toNat]?=some x1 →
 Rf (b.heard.map Hrd.v) (ck (decide (0≤t1)) (ck (decide (t1<(b.heard.length:Int)))
 (∀x2,b.heard[t1.toNat]?=some x2 →
 (br (x1.router != x2.router)
 (Be (sameL_n2 a b t0 t1 x1 x2) [0,1] (I2 t0 t1 x1 x2) (true))
 (br (x1.epoch != x2.epoch)
 (Be (sameL_n2 a b t0 t1 x1 x2) [0,1] (I2 t0 t1 x1 x2) (true))
 (br (x1.ver != x2.ver)
 (Be (sameL_n2 a b t0 t1 x1 x2) [0,1] (I2 t0 t1 x1 x2) (true))
 (Cl (sameI_c x1.items x2.items)
 (Be (sameL_n2 a b t0 t1 x1 x2) [0,1] (I2 t0 t1 x1 x2) (!(decide (x1.items=x2.items))))))))∧∀t2:Bool,I2 t0 t1 x1 x2 t2 →
 br t2
 (Rp sameL_e (false) r0)
 (Bk (sameL_n1 a b t0) [0,1] (I1 t0) (m1 t0) (W (t1+1)) t1))))))))
 (Rp sameL_e (true) r0))
theorem sameL_ok(a:Lsn)(b:Lsn)(I0:Bool→Prop)(I1:Bool→Int→Prop)(m1:Bool→Int→Nat)(I2:Bool→Int→Hrd→Hrd→Bool→Prop)(r0:Bool)(h:sameL_vc a b I0 I1 m1 I2 r0):PSpec Tryz.prog 55 [.agg [.int a.router,.int a.epoch,.sl 4 (a.heard.map Hrd.v) false],.agg [.int b.router,.int b.epoch,.sl 4 (b.heard.map Hrd.v) false]] (sameL_e r0):=mxP_of (sh:=.k) (a:=((.pass (.pass (.join 0 (sameL_n0 a b) (fun t0=>I0 t0) (.br 144 (.back 0 ((true):Bool) [0,16])
 (.br 256 (.back 0 ((true):Bool) [0,16])
 (.back 0 ((((a.heard.map Hrd.v).length:Int) != ((b.heard.map Hrd.v).length:Int)):Bool) [0,16]))) fun (t0:Bool) =>
 (.br 2 (.ret (false))
 (.loop 1 (sameL_n1 a b t0) (I1 t0) (m1 t0) ((0):Int) [0,1] fun (t1:Int) =>
 (.br 82 (.el 130 Hrd.v a.heard fun x1 =>
 (.el 210 Hrd.v b.heard fun x2 =>
 (.join 2 (sameL_n2 a b t0 t1 x1 x2) (fun t2=>I2 t0 t1 x1 x2 t2) (.br 402 (.back 2 ((true):Bool) [0,1])
 (.br 514 (.back 2 ((true):Bool) [0,1])
 (.br 626 (.back 2 ((true):Bool) [0,1])
 (.callP (sameI_c x1.items x2.items)
 (.back 2 ((!(decide (x1.items=x2.items))):Bool) [0,1]))))) fun (t2:Bool) =>
 (.br 2 (.ret (false))
 (.back 1 ((W (t1+1)):Int) [0,1])))))
 (.ret (true)))))))):An Tryz.prog sameL_s (Bool))) h (by kernel_rfl) (AV.pureB_ok rfl)
theorem sameL_p(a b:Lsn)(ok:sameL_a a b):∃I0 I1 m1 I2,sameL_vc a b I0 I1 m1 I2 (decide (a=b)):=by
  unfold sameL_a at ok
  refine ⟨fun t=>t=false↔a.router=b.router∧a.epoch=b.epoch∧a.heard.length=b.heard.length,fun t0 t=>∃k:Nat,t=k∧k≤a.heard.length∧a.heard.take k=b.heard.take k,fun t0 t=>a.heard.length-t.toNat,fun t0 t1 x y t=>t=false↔x=y,?_⟩
  simp only [sameL_vc,vcU,rfU,List.length_map]
  have hle:a.heard.length≤9223372036854775807:=by
    have h:=ok
    simp only [Lsn.v,hrds,AV.ok,okL,List.length_map,maxLen_eq] at h
    omega
  have t:∀{q:Prop},¬q→(true=false↔q):=fun h=>⟨fun e=>Bool.noConfusion e,fun e=>absurd e h⟩
  refine ⟨⟨fun e1=>t fun q=>?_,fun e1=>⟨fun e2=>t fun q=>?_,fun e2=>?_⟩⟩,fun b0 hb=>⟨fun e=>?_,fun e=>⟨⟨0,rfl,by omega,rfl⟩,?_⟩⟩⟩
  · simp [q.1] at e1
  · simp [q.2.1] at e2
  · simp only [bne_eq_false_iff_eq] at e1 e2 ⊢
    constructor
    · intro q;exact ⟨e1,e2,by omega⟩
    · intro q;omega
  · subst e
    exact nodec fun q=>by subst q;exact Bool.noConfusion (hb.mpr ⟨rfl,rfl,rfl⟩)
  · obtain ⟨q1,q2,q5⟩:=hb.mp e
    rintro _ ⟨k,rfl,hk,h⟩
    simp only [Int.toNat_natCast]
    refine ⟨fun h1=>⟨by omega,by omega,fun x hx=>⟨by omega,by omega,fun y hy=>⟨⟨fun e1=>t fun q=>?_,fun e1=>⟨fun e2=>t fun q=>?_,fun e2=>⟨fun e3=>t fun q=>?_,fun e3=>?_⟩⟩⟩,fun c hc=>⟨fun e=>?_,fun e=>?_⟩⟩⟩⟩,fun h1=>?_⟩
    · simp [q] at e1
    · simp [q] at e2
    · simp [q] at e3
    · simp only [bne_eq_false_iff_eq,Bool.not_eq_false',decide_eq_true_iff] at e1 e2 e3 ⊢
      rw [Hrd.eq_iff]
      exact ⟨fun q=>⟨e1,e2,e3,q⟩,fun q=>q.2.2.2⟩
    · refine nodec fun q=>ne_of_get hx hy (fun w=>?_) (Lsn.eq_iff.mp q).2.2
      subst e;exact Bool.noConfusion (hc.mpr w)
    · rw [W_succ (n:=a.heard.length) (by omega) (by omega)]
      exact ⟨⟨k+1,rfl,by omega,eq_take hx hy h (hc.mp e)⟩,by omega⟩
    · rw [List.take_of_length_le (by omega),List.take_of_length_le (by omega)] at h
      exact (decide_eq_true (Lsn.eq_iff.mpr ⟨q1,q2,h⟩)).symm
def sameL_c(a:Lsn)(b:Lsn):PC Tryz.prog:=⟨55,[(.a [.k,.k,(.s 4)]),(.a [.k,.k,(.s 4)])],[.agg [.int a.router,.int a.epoch,.sl 4 (a.heard.map Hrd.v) false],.agg [.int b.router,.int b.epoch,.sl 4 (b.heard.map Hrd.v) false]],sameL_e (decide (a=b)),PSpec.of_ok fun ok=>(sameL_p a b ok).elim fun I0 h=>h.elim fun I1 h=>h.elim fun m1 h=>h.elim fun I2 h=>sameL_ok a b I0 I1 m1 I2 _ h,fnB_ok (by kernel_rfl)⟩
def sigVR_a(s:Sig):Prop:=okL [.agg [.int s.kind,.int s.src,.int s.dst,.int s.epoch,.int s.ver,.int s.prev,.int s.pep,.int s.grp,.int s.mode,.sl 1 (s.srcs.map AV.int) false]]
def sigVR_n0(s:Sig)(t0:Bool):NF:=⟨[(1,.k,.ref 0 0),(3,.k,.bool t0)],[.box (.agg [.int s.kind,.int s.src,.int s.dst,.int s.epoch,.int s.ver,.int s.prev,.int s.pep,.int s.grp,.int s.mode,.sl 1 (s.srcs.map AV.int) false])]⟩
def sigVR_n1(s:Sig)(t0:Bool)(t1:Bool):NF:=⟨[(126,.k,.bool t1)],[]⟩
def sigVR_s:Nat→Type
  | 0=>Bool
  | 1=>Bool
  | _=>Unit
def sigVR_e(r:Int):AV:=.int r
def sigVR_vc(s:Sig)(I0:Bool→Prop)(I1:Bool→Bool→Prop)(r0:Int):Prop:=
 (Cl (inR5_c s.src 1 99)
 (br (inR5 s.src 1 99)
 (Cl (inR5_c s.dst 1 99)
 (br (inR5 s.dst 1 99)
 (br (s.kind==1)
 (br (s.src != s.dst)
 (Cl (inR5_c s.epoch 1 1000000)
 (br (inR5 s.epoch 1 1000000)
 (Cl (inR5_c s.ver 0 1000000)
 (br (inR5 s.ver 0 1000000)
 (br (s.prev==0)
 (br (s.pep==0)
 (Be (sigVR_n0 s) [0] I0 (s.grp==0))
 (Be (sigVR_n0 s) [0] I0 (false)))
 (Be (sigVR_n0 s) [0] I0 (false)))
 (Be (sigVR_n0 s) [0] I0 (false))))
 (Be (sigVR_n0 s) [0] I0 (false))))
 (Be (sigVR_n0 s) [0] I0 (false)))
 (br (s.kind==2)
 (br (s.src != s.dst)
 (Cl (inR5_c s.epoch 1 1000000)
 (br (inR5 s.epoch 1 1000000)
 (Cl (inR5_c s.ver 1 1000000)
 (br (inR5 s.ver 1 1000000)
 (Cl (inR5_c s.prev 0 (W (s.ver-1)))
 (br (inR5 s.prev 0 (W (s.ver-1)))
 (br (s.pep==0)
 (Cl (inR5_c s.grp 1 99)
 (Be (sigVR_n0 s) [0] I0 (inR5 s.grp 1 99)))
 (Be (sigVR_n0 s) [0] I0 (false)))
 (Be (sigVR_n0 s) [0] I0 (false))))
 (Be (sigVR_n0 s) [0] I0 (false))))
 (Be (sigVR_n0 s) [0] I0 (false))))
 (Be (sigVR_n0 s) [0] I0 (false)))
 (br (s.kind==3)
 (br (s.src != s.dst)
 (Cl (inR5_c s.epoch 0 1000000)
 (br (inR5 s.epoch 0 1000000)
 (Cl (inR5_c s.ver 0 1000000)
 (br (inR5 s.ver 0 1000000)
 (br (s.prev==0)
 (Cl (inR5_c s.pep 1 1000000)
 (br (inR5 s.pep 1 1000000)
 (Be (sigVR_n0 s) [0] I0 (s.grp==0))
 (Be (sigVR_n0 s) [0] I0 (false))))
 (Be (sigVR_n0 s) [0] I0 (false)))
 (Be (sigVR_n0 s) [0] I0 (false))))
 (Be (sigVR_n0 s) [0] I0 (false))))
 (Be (sigVR_n0 s) [0] I0 (false)))
 (Rp sigVR_e (1) r0))))
 (br (s.kind==1)
 (Be (sigVR_n0 s) [0] I0 (false))
 (br (s.kind==2)
 (Be (sigVR_n0 s) [0] I0 (false))
 (br (s.kind==3)
 (Be (sigVR_n0 s) [0] I0 (false))
 (Rp sigVR_e (1) r0))))))
 (br (s.kind==1)
 (Be (sigVR_n0 s) [0] I0 (false))
 (br (s.kind==2)
 (Be (sigVR_n0 s) [0] I0 (false))
 (br (s.kind==3)
 (Be (sigVR_n0 s) [0] I0 (false))
 (Rp sigVR_e (1) r0))))))∧∀t0:Bool,I0 t0 →
 br (!t0)
 (Rp sigVR_e (2) r0)
 (br (s.kind==2)
 (Cl (FVal_c (⟨s.mode,s.srcs⟩:Flt))
 (Rp sigVR_e (fltErr (⟨s.mode,s.srcs⟩:Flt).mode (⟨s.mode,s.srcs⟩:Flt).srcs) r0))
 ((br (s.mode != 0)
 (Be (sigVR_n1 s t0) [] (I1 t0) (true))
 (Be (sigVR_n1 s t0) [] (I1 t0) (decide (0<((s.srcs.map AV.int).length:Int)))))∧∀t1:Bool,I1 t0 t1 →
 br t1
 (Rp sigVR_e (1) r0)
 (Rp sigVR_e (0) r0)))
theorem sigVR_ok(s:Sig)(I0:Bool→Prop)(I1:Bool→Bool→Prop)(r0:Int)(h:sigVR_vc s I0 I1 r0):PSpec Tryz.prog 146 [.agg [.int s.kind,.int s.src,.int s.dst,.int s.epoch,.int s.ver,.int s.prev,.int s.pep,.int s.grp,.int s.mode,.sl 1 (s.srcs.map AV.int) false]] (sigVR_e r0):=mxP_of (sh:=.k) (a:=((.pass (.join2 0 (sigVR_n0 s) (fun t0=>I0 t0) (.callP (inR5_c s.src 1 99)
 (.br 96 (.callP (inR5_c s.dst 1 99)
 (.br 176 (.br 352 (.br 384 (.callP (inR5_c s.epoch 1 1000000)
 (.br 464 (.callP (inR5_c s.ver 0 1000000)
 (.br 544 (.br 624 (.br 704 (.back 0 ((s.grp==0):Bool) [0])
 (.back 0 ((false):Bool) [0]))
 (.back 0 ((false):Bool) [0]))
 (.back 0 ((false):Bool) [0])))
 (.back 0 ((false):Bool) [0])))
 (.back 0 ((false):Bool) [0]))
 (.br 384 (.br 416 (.callP (inR5_c s.epoch 1 1000000)
 (.br 496 (.callP (inR5_c s.ver 1 1000000)
 (.br 576 (.callP (inR5_c s.prev 0 (W (s.ver-1)))
 (.br 704 (.br 784 (.callP (inR5_c s.grp 1 99)
 (.back 0 ((inR5 s.grp 1 99):Bool) [0]))
 (.back 0 ((false):Bool) [0]))
 (.back 0 ((false):Bool) [0])))
 (.back 0 ((false):Bool) [0])))
 (.back 0 ((false):Bool) [0])))
 (.back 0 ((false):Bool) [0]))
 (.br 416 (.br 448 (.callP (inR5_c s.epoch 0 1000000)
 (.br 528 (.callP (inR5_c s.ver 0 1000000)
 (.br 608 (.br 688 (.callP (inR5_c s.pep 1 1000000)
 (.br 768 (.back 0 ((s.grp==0):Bool) [0])
 (.back 0 ((false):Bool) [0])))
 (.back 0 ((false):Bool) [0]))
 (.back 0 ((false):Bool) [0])))
 (.back 0 ((false):Bool) [0])))
 (.back 0 ((false):Bool) [0]))
 (.ret (1)))))
 (.br 352 (.back 0 ((false):Bool) [0])
 (.br 384 (.back 0 ((false):Bool) [0])
 (.br 416 (.back 0 ((false):Bool) [0])
 (.ret (1)))))))
 (.br 352 (.back 0 ((false):Bool) [0])
 (.br 384 (.back 0 ((false):Bool) [0])
 (.br 416 (.back 0 ((false):Bool) [0])
 (.ret (1))))))) fun (t0:Bool) =>
 (.br 33 (.ret (2))
 (.br 81 (.callP (FVal_c (⟨s.mode,s.srcs⟩:Flt))
 (.ret (fltErr (⟨s.mode,s.srcs⟩:Flt).mode (⟨s.mode,s.srcs⟩:Flt).srcs)))
 (.pass (.join 1 (sigVR_n1 s t0) (fun t1=>I1 t0 t1) (.br 161 (.back 1 ((true):Bool) [])
 (.back 1 ((decide (0<((s.srcs.map AV.int).length:Int))):Bool) [])) fun (t1:Bool) =>
 (.br 0 (.ret (1))
 (.ret (0))))))))):An Tryz.prog sigVR_s (Int))) h (by kernel_rfl) (AV.pureB_ok rfl)
theorem sigVR_p(s:Sig)(ok:sigVR_a s):∃I0 I1,sigVR_vc s I0 I1 (sigErr s):=by
  simp only [sigVR_a,okU,Blk.ok,plainV,List.length_map] at ok
  refine ⟨fun b=>(s.kind=1∨s.kind=2∨s.kind=3)∧(b=true↔sigEnds s∧sigNums s),fun b c=>c=true↔s.mode≠0∨s.srcs≠[],?_⟩
  simp only [sigVR_vc,vcU,rfU,List.length_map]
  have hv:s.kind=2→1≤s.ver→s.ver≤1000000→W (s.ver-1)=s.ver-1:=fun _ h1 h2=>W_eq (by omega)
  simp only [inR5,decide_eq_true_iff,decide_eq_false_iff_not,beq_iff_eq,beq_eq_false_iff_ne,bne_iff_ne,bne_eq_false_iff_eq,ne_eq,Bool.false_eq_true,false_iff,Int.natCast_pos,List.length_pos_iff]
  have hk:∀{A B C:Prop},(s.kind=1→A)→(s.kind≠1→s.kind=2→B)→(s.kind≠1→s.kind≠2→s.kind=3→C)→(s.kind=1→A)∧(¬s.kind=1→(s.kind=2→B)∧(¬s.kind=2→(s.kind=3→C)∧(¬s.kind=3→True))):=fun a b c=>⟨a,fun n=>⟨b n,fun m=>⟨c n m,fun _=>trivial⟩⟩⟩
  have n1:s.kind=1→(sigNums s↔(1≤s.epoch∧s.epoch≤1000000)∧(0≤s.ver∧s.ver≤1000000)∧s.prev=0∧s.pep=0∧s.grp=0):=fun e=>by unfold sigNums;rw [if_pos e]
  have n2:s.kind=2→(sigNums s↔(1≤s.epoch∧s.epoch≤1000000)∧(1≤s.ver∧s.ver≤1000000)∧(0≤s.prev∧s.prev≤s.ver-1)∧s.pep=0∧(1≤s.grp∧s.grp≤99)):=fun e=>by unfold sigNums;rw [if_neg (by omega),if_pos e]
  have n3:s.kind=3→(sigNums s↔(0≤s.epoch∧s.epoch≤1000000)∧(0≤s.ver∧s.ver≤1000000)∧s.prev=0∧(1≤s.pep∧s.pep≤1000000)∧s.grp=0):=fun e=>by unfold sigNums;rw [if_neg (by omega),if_neg (by omega)]
  have en:sigEnds s↔(1≤s.src∧s.src≤99)∧(1≤s.dst∧s.dst≤99)∧s.src≠s.dst:=Iff.rfl
  have hw:W (s.ver-1)=s.ver-1∨¬1≤s.ver:=by
    by_cases h:1≤s.ver
    · exact .inl (W_eq (by omega))
    · exact .inr h
  generalize W (s.ver-1)=w at *
  clear hv
  generalize hN:sigNums s=N at *
  rw [en]
  refine ⟨?_,fun b hb=>⟨fun e=>?_,fun e=>⟨fun k=>?_,fun k=>⟨⟨fun m=>?_,fun m=>?_⟩,fun c hc=>⟨fun e2=>?_,fun e2=>?_⟩⟩⟩⟩⟩
  · refine ⟨fun a1=>⟨fun a2=>⟨fun k=>?_,fun k=>⟨fun k2=>?_,fun k2=>⟨fun k3=>?_,fun k3=>?_⟩⟩⟩,fun a2=>⟨fun k=>?_,fun k=>⟨fun k2=>?_,fun k2=>⟨fun k3=>?_,fun k3=>?_⟩⟩⟩⟩,fun a1=>⟨fun k=>?_,fun k=>⟨fun k2=>?_,fun k2=>⟨fun k3=>?_,fun k3=>?_⟩⟩⟩⟩
    all_goals first
      | (simp only [n1 k];omega)
      | (simp only [n2 k2];omega)
      | (simp only [n3 k3];omega)
      | (unfold sigErr;rw [if_pos (by omega)])
  · have e:b=false:=by simpa using e
    subst e
    unfold sigErr
    rw [if_neg (by omega),if_pos]
    rintro ⟨q1,q2⟩
    exact Bool.noConfusion (hb.2.mpr ⟨q1,hN ▸ q2⟩)
  · have q:=hb.2.mp (by simpa using e)
    unfold sigErr
    rw [if_neg (by omega),if_neg (not_not_intro ⟨q.1,hN ▸ q.2⟩),if_pos k]
  · exact ⟨fun _=>.inl m,fun _=>trivial⟩
  · exact ⟨fun q=>.inr q,fun q=>q.resolve_left fun z=>z m⟩
  · have q:=hb.2.mp (by simpa using e)
    unfold sigErr
    rw [if_neg (by omega),if_neg (not_not_intro ⟨q.1,hN ▸ q.2⟩),if_neg k,if_pos (hc.mp e2)]
  · have q:=hb.2.mp (by simpa using e)
    unfold sigErr
    rw [if_neg (by omega),if_neg (not_not_intro ⟨q.1,hN ▸ q.2⟩),if_neg k,if_neg]
    intro z
    have:=hc.mpr z
    rw [e2] at this;cases this
def sigVR_c(s:Sig):PC Tryz.prog:=⟨146,[(.a [.k,.k,.k,.k,.k,.k,.k,.k,.k,(.s 1)])],[.agg [.int s.kind,.int s.src,.int s.dst,.int s.epoch,.int s.ver,.int s.prev,.int s.pep,.int s.grp,.int s.mode,.sl 1 (s.srcs.map AV.int) false]],sigVR_e (sigErr s),PSpec.of_ok fun ok=>(sigVR_p s ok).elim fun I0 h=>h.elim fun I1 h=>sigVR_ok s I0 I1 _ h,fnB_ok (by kernel_rfl)⟩
end Go.Proofs.YtgnogboljobocaaGreatDoor

namespace Go.Proofs.YtgnogboljobocaaGreatDoor
open Go Go.Am
set_option linter.unusedVariables false
set_option linter.unusedSimpArgs false
def hasR(l:List Wnt)(g:Int):Bool:=decide (∃w∈l,w.grp=g)
def hasR_a(l:(List Wnt))(group:Int):Prop:=okL [.sl 3 (l.map Wnt.v) false,.int group]
def hasR_n0(l:(List Wnt))(group:Int)(t0:Int):NF:=⟨[(1,.k,.int group),(7,.k,.sl 3 (l.map Wnt.v) false),(8,.k,.int ((l.map Wnt.v).length:Int)),(9,.k,.int t0)],[]⟩
def hasR_s:Nat→Type
  | 0=>Int
  | _=>Unit
def hasR_e(r:Bool):AV:=.bool r
def hasR_vc(l:(List Wnt))(group:Int)(I0:Int→Prop)(m0:Int→Nat)(r0:Bool):Prop:=
 Be (hasR_n0 l group) [] I0 (0)∧∀t0,I0 t0 →
 br (decide (t0<((l.map Wnt.v).length:Int)))
 (Rf (l.map Wnt.v) (ck (decide (0≤t0)) (ck (decide (t0<(l.length:Int)))
 (∀x1,l[t0.toNat]?=some x1 →
 br (x1.grp==group)
 (Rp hasR_e (true) r0)
 (Bk (hasR_n0 l group) [] I0 m0 (W (t0+1)) t0)))))
 (Rp hasR_e (false) r0)
theorem hasR_ok(l:(List Wnt))(group:Int)(I0:Int→Prop)(m0:Int→Nat)(r0:Bool)(h:hasR_vc l group I0 m0 r0):PSpec Tryz.prog 262 [.sl 3 (l.map Wnt.v) false,.int group] (hasR_e r0):=mxP_of (sh:=.k) (a:=((.loop 0 (hasR_n0 l group) (I0) (m0) ((0):Int) [] fun (t0:Int) =>
 (.br 16 (.el 16 Wnt.v l fun x1 =>
 (.br 144 (.ret (true))
 (.back 0 ((W (t0+1)):Int) [])))
 (.ret (false)))):An Tryz.prog hasR_s (Bool))) h (by kernel_rfl) (AV.pureB_ok rfl)
theorem hasR_p(l:List Wnt)(g:Int)(ok:hasR_a l g):∃I m,hasR_vc l g I m (hasR l g):=by
  simp only [hasR_a,okU,Blk.ok,plainV,List.length_map] at ok
  refine ⟨fun t=>∃k:Nat,t=k∧k≤l.length∧∀x∈l.take k,x.grp≠g,fun t=>l.length-t.toNat,?_⟩
  simp only [hasR_vc,vcU,rfU,List.length_map]
  have hle:l.length≤9223372036854775807:=ok.1.1
  refine ⟨⟨0,rfl,by omega,by simp⟩,?_⟩
  rintro _ ⟨k,rfl,hk,hI⟩
  simp only [Int.toNat_natCast]
  refine ⟨fun h1=>⟨by omega,by omega,fun x hx=>⟨fun e=>?_,fun e=>?_⟩⟩,fun h1=>?_⟩
  · exact (decide_eq_true ⟨x,mem_of_get hx,by simpa using e⟩).symm
  · rw [W_succ (n:=l.length) (by omega) (by omega)]
    exact ⟨⟨k+1,rfl,by omega,(mem_take_succ hx).mpr ⟨hI,by simpa using e⟩⟩,by omega⟩
  · rw [List.take_of_length_le (by omega)] at hI
    exact nodec fun ⟨w,hw,e⟩=>hI w hw e
def hasR_c(l:(List Wnt))(group:Int):PC Tryz.prog:=⟨262,[(.s 3),.k],[.sl 3 (l.map Wnt.v) false,.int group],hasR_e (hasR l group),PSpec.of_ok fun ok=>(hasR_p l group ok).elim fun I0 h=>h.elim fun m0 h=>hasR_ok l group I0 m0 _ h,fnB_ok (by kernel_rfl)⟩
def appF(old c:List Wnt)(g:Int):Int×List Int:=if hasR c g=true then find2 c g else find2 old g
def applyG(old c:List Wnt):List Wnt×Int:=
  if wErr false old≠0 then ([],wErr false old) else if wErr true c≠0 then ([],wErr true c) else limitW (fromF (appF old c) 99)
theorem fromF_len{f:Int→Int×List Int}:∀n:Nat,(fromF f n).length≤n
  | 0=>Nat.le_refl _
  | n+1=>by
    rw [fromF,List.length_append]
    have:=fromF_len (f:=f) n
    unfold from1
    split<;>simp<;>omega
def applyR_a(old:(List Wnt))(changes:(List Wnt)):Prop:=okL [.sl 3 (old.map Wnt.v) false,.sl 3 (changes.map Wnt.v) false]
def applyR_n0(old:(List Wnt))(changes:(List Wnt))(t0:Int×(List Wnt)):NF:=⟨[(0,.k,.sl 3 (old.map Wnt.v) false),(1,.k,.sl 3 (changes.map Wnt.v) false),(8,.k,.vec 0),(9,.k,.int t0.1)],[.vec 3 (t0.2.map Wnt.v) (pureBL_map (fun _=>rfl) t0.2)]⟩
def applyR_n1(old:(List Wnt))(changes:(List Wnt))(t0:Int×(List Wnt))(t1:Flt):NF:=⟨[(0,.k,.sl 3 (old.map Wnt.v) false),(1,.k,.sl 3 (changes.map Wnt.v) false),(8,.k,.vec 0),(9,.k,.int t0.1),(10,.k,.ref 1 0)],[.vec 3 (t0.2.map Wnt.v) (pureBL_map (fun _=>rfl) t0.2),.box (.agg [.int t1.mode,.sl 1 (t1.srcs.map AV.int) false])]⟩
def applyR_s:Nat→Type
  | 0=>Int×(List Wnt)
  | 1=>Flt
  | _=>Unit
def applyR_e(r:(List Wnt)×Int):AV:=.tup [.sl 3 (r.1.map Wnt.v) false,.int r.2]
def applyR_vc(old:(List Wnt))(changes:(List Wnt))(I0:(Int×(List Wnt))→Prop)(m0:(Int×(List Wnt))→Nat)(I1:Int×(List Wnt)→Flt→Prop)(r0:(List Wnt)×Int):Prop:=
 Cl (valR_c old)
 (br ((wErr false old) != 0)
 (Rp applyR_e ([],wErr false old) r0)
 (Cl (checkR_c changes true)
 (br ((wErr true changes) != 0)
 (Rp applyR_e ([],wErr true changes) r0)
 (Be (applyR_n0 old changes) [224] I0 (1,[])∧∀t0,I0 t0 →
 br (decide (t0.1≤99))
 (Cl (findR_c old t0.1)
 ((Cl (hasR_c changes t0.1)
 (br (hasR changes t0.1)
 (Cl (findR_c changes t0.1)
 (Be (applyR_n1 old changes t0) [0,81] (I1 t0) (findW changes t0.1)))
 (Be (applyR_n1 old changes t0) [0,81] (I1 t0) (findW old t0.1))))∧∀t1:Flt,I1 t0 t1 →
 Cl (Nothing_c )
 (Cl (FSame_c t1 (⟨1,[]⟩:Flt))
 (br (!(FSame t1 (⟨1,[]⟩:Flt)))
 (Rf (α:=List AV) (t0.2.map Wnt.v) (Rf (α:=List AV) [.agg [.int t0.1,.int t1.mode,.sl 1 (t1.srcs.map AV.int) false]]
 (ck (decide (t0.2.length+1≤1000000))
 (Bk (applyR_n0 old changes) [146] I0 m0 (W (t0.1+1),t0.2++[(⟨t0.1,t1.mode,t1.srcs⟩:Wnt)]) t0))))
 (Bk (applyR_n0 old changes) [0] I0 m0 (W (t0.1+1),t0.2) t0)))))
 (br (decide (32<((t0.2.map Wnt.v).length:Int)))
 (Rp applyR_e ([],3) r0)
 (Rf (t0.2.map Wnt.v) (Rp applyR_e (t0.2,0) r0)))))))
theorem applyR_ok(old:(List Wnt))(changes:(List Wnt))(I0:(Int×(List Wnt))→Prop)(m0:(Int×(List Wnt))→Nat)(I1:Int×(List Wnt)→Flt→Prop)(r0:(List Wnt)×Int)(h:applyR_vc old changes I0 m0 I1 r0):PSpec Tryz.prog 227 [.sl 3 (old.map Wnt.v) false,.sl 3 (changes.map Wnt.v) false] (applyR_e r0):=mxP_of (sh:=(.a [(.s 3),.k])) (a:=((.callP (valR_c old)
 (.br 112 (.ret ([],wErr false old))
 (.callP (checkR_c changes true)
 (.br 192 (.ret ([],wErr true changes))
 (.cmdL (.nilT 8 3) (.loop 0 (applyR_n0 old changes) (I0) (m0) ((1,[]):Int×(List Wnt)) [224] fun (t0:Int×(List Wnt)) =>
 (.br 33 (.callP (findR_c old t0.1)
 (.join 1 (applyR_n1 old changes t0) (fun t1=>I1 t0 t1) (.callP (hasR_c changes t0.1)
 (.br 161 (.callP (findR_c changes t0.1)
 (.back 1 ((findW changes t0.1):Flt) [0,81]))
 (.back 1 ((findW old t0.1):Flt) [0,81]))) fun (t1:Flt) =>
 (.callP (Nothing_c )
 (.callP (FSame_c t1 (⟨1,[]⟩:Flt))
 (.br 66 (.app 146 Wnt.v t0.2 [(⟨t0.1,t1.mode,t1.srcs⟩:Wnt)]
 (.back 0 ((W (t0.1+1),t0.2++[(⟨t0.1,t1.mode,t1.srcs⟩:Wnt)]):Int×(List Wnt)) [146]))
 (.back 0 ((W (t0.1+1),t0.2):Int×(List Wnt)) [0]))))))
 (.br 81 (.ret ([],3))
 (.cmdL (.frzE 0 (t0.2.map Wnt.v) (pureBL_map (fun _=>rfl) t0.2)) (.ret (t0.2,0))))))))))):An Tryz.prog applyR_s ((List Wnt)×Int))) h (by kernel_rfl) (AV.pureB_ok rfl)
theorem applyR_p(old c:List Wnt)(ok:applyR_a old c):∃I0 m0 I1,applyR_vc old c I0 m0 I1 (applyG old c):=by
  refine ⟨fun t=>∃k:Nat,t.1=(k:Int)+1∧k≤99∧t.2=fromF (appF old c) k,fun t=>100-t.1.toNat,fun t f=>(f.mode,f.srcs)=appF old c t.1,?_⟩
  simp only [applyR_vc,vcU,rfU,List.length_map]
  unfold applyG
  refine ⟨fun h=>by rw [if_pos (by simpa using h)],fun h=>⟨fun h2=>?_,fun h2=>⟨⟨0,rfl,by omega,rfl⟩,?_⟩⟩⟩
  · rw [if_neg (by simpa using h),if_pos (by simpa using h2)]
  · rw [if_neg (by simpa using h),if_neg (by simpa using h2)]
    rintro ⟨_,_⟩ ⟨k,rfl,hk,rfl⟩
    have hlen:=fromF_len (f:=appF old c) k
    simp only
    have hw:(k:Int)+1≤99→W ((k:Int)+1+1)=((k+1:Nat):Int)+1:=fun _=>by rw [W_eq (by omega)];omega
    refine ⟨fun h1=>⟨⟨fun q=>?_,fun q=>?_⟩,fun f hf=>⟨fun q=>⟨by omega,?_⟩,fun q=>?_⟩⟩,fun h1=>⟨fun q=>?_,fun q=>?_⟩⟩
    · unfold appF;rw [if_pos q];rfl
    · unfold appF;rw [if_neg (by simp [q])];rfl
    · rw [hw h1]
      refine ⟨⟨k+1,rfl,by omega,?_⟩,by omega⟩
      rw [fromF,from1,if_neg]
      · rw [←hf]
      · rw [←hf]
        intro e
        simp only [Prod.mk.injEq] at e
        simp [FSame,flt_eq,e.1,e.2] at q
    · rw [hw h1]
      refine ⟨⟨k+1,rfl,by omega,?_⟩,by omega⟩
      have e:f=⟨1,[]⟩:=by simpa [FSame] using q
      rw [fromF,from1,if_pos,List.append_nil]
      rw [←hf,e]
    · have:k=99:=by omega
      subst this
      unfold limitW
      rw [if_pos (by omega)]
    · have:k=99:=by omega
      subst this
      unfold limitW
      rw [if_neg (by omega)]
def applyR_c(old:(List Wnt))(changes:(List Wnt)):PC Tryz.prog:=⟨227,[(.s 3),(.s 3)],[.sl 3 (old.map Wnt.v) false,.sl 3 (changes.map Wnt.v) false],applyR_e (applyG old changes),PSpec.of_ok fun ok=>(applyR_p old changes ok).elim fun I0 h=>h.elim fun m0 h=>h.elim fun I1 h=>applyR_ok old changes I0 m0 I1 _ h,fnB_ok (by kernel_rfl)⟩
theorem find2_nil(g:Int):find2 [] g=(1,[]):=rfl
theorem applyG_err(c:List Wnt):(applyG [] c).2=wErr true c:=by
  unfold applyG
  rw [if_neg (by decide)]
  split
  · rfl
  · rename_i h
    have h:wErr true c=0:=by omega
    obtain ⟨h1,h2,h3,h4,h5⟩:=wErr_zero.mp h
    have e:fromF (appF [] c) 99=c.filter fun w=>decide (¬isNoW w):=by
      refine ascW_ext (fromF_asc 99) (h5.filter _) fun w=>?_
      rw [mem_fromF,List.mem_filter]
      simp only [decide_eq_true_iff]
      constructor
      · rintro ⟨q1,q2,q3⟩
        unfold appF at q2 q3
        by_cases hh:hasR c w.grp=true
        · rw [if_pos hh] at q2 q3
          obtain ⟨y,hy,e1,e2⟩:=findW_some (find2_ne.mp q3)
          have e3:find2 c w.grp=(y.mode,y.srcs):=by unfold find2;rw [e2]
          rw [q2] at e3 q3
          simp only [Prod.mk.injEq] at e3
          have:y=w:=by rw [Wnt.eq_iff];exact ⟨e1,e3.1.symm,e3.2.symm⟩
          subst this
          exact ⟨hy,fun hn=>q3 (by rw [hn.1,hn.2])⟩
        · rw [if_neg hh,find2_nil] at q3;exact absurd rfl q3
      · rintro ⟨q1,q2⟩
        have hh:hasR c w.grp=true:=decide_eq_true ⟨w,q1,rfl⟩
        have e1:appF [] c w.grp=(w.mode,w.srcs):=by
          unfold appF
          rw [if_pos hh]
          unfold find2
          rw [findW_in h5 q1]
        refine ⟨h2 w q1,e1,?_⟩
        rw [e1]
        intro e
        simp only [Prod.mk.injEq] at e
        exact q2 e
    have hl:(fromF (appF [] c) 99).length≤32:=by
      rw [e]
      exact Nat.le_trans (List.length_filter_le _ _) h1
    unfold limitW
    rw [if_neg (by omega),h]
theorem chg_take_len{s:Spk}(hs:spkOk s){c:List Wnt}(hc:wErr true c=0)(j:Nat):((c.take j).foldl chg1 (s.last,s.items)).2.length≤99∧0≤((c.take j).foldl chg1 (s.last,s.items)).1∧((c.take j).foldl chg1 (s.last,s.items)).1≤s.last+32:=by
  have ho:=chgOk_of hc
  obtain ⟨q1,q2,q3,q4⟩:=chg_ok (c:=c.take j) hs.2.2.2.1 hs.2.2.1.1 fun w hw=>ho w (List.mem_of_mem_take hw)
  refine ⟨itms_len q1,q4,?_⟩
  have:=(wErr_zero.mp hc).1
  rw [List.length_take] at q3
  omega
def wantsR_a(l:(List Itm)):Prop:=okL [.sl 4 (l.map Itm.v) false]
def wantsR_n0(l:(List Itm))(t0:Int×(List Wnt)):NF:=⟨[(0,.k,.sl 4 (l.map Itm.v) false),(3,.k,.vec 0),(4,.k,.int t0.1)],[.vec 3 (t0.2.map Wnt.v) (pureBL_map (fun _=>rfl) t0.2)]⟩
def wantsR_s:Nat→Type
  | 0=>Int×(List Wnt)
  | _=>Unit
def wantsR_e(r:(List Wnt)):AV:=.sl 3 (r.map Wnt.v) false
def wantsR_vc(l:(List Itm))(I0:(Int×(List Wnt))→Prop)(m0:(Int×(List Wnt))→Nat)(r0:(List Wnt)):Prop:=
 Cl (itemsR_c l 1000000)
 (br (!(itemsB l 1000000))
 (Rp wantsR_e ([]) r0)
 (Be (wantsR_n0 l) [96] I0 (1,[])∧∀t0,I0 t0 →
 br (decide (t0.1≤99))
 (Cl (findI_c l t0.1)
 (Cl (Nothing_c )
 (Cl (FSame_c (⟨(told l t0.1).1,(told l t0.1).2⟩:Flt) (⟨1,[]⟩:Flt))
 (br (!(FSame (⟨(told l t0.1).1,(told l t0.1).2⟩:Flt) (⟨1,[]⟩:Flt)))
 (Rf (α:=List AV) (t0.2.map Wnt.v) (Rf (α:=List AV) [.agg [.int t0.1,.int ((⟨(told l t0.1).1,(told l t0.1).2⟩:Flt).mode),.sl 1 (((⟨(told l t0.1).1,(told l t0.1).2⟩:Flt).srcs).map AV.int) false]]
 (ck (decide (t0.2.length+1≤1000000))
 (Bk (wantsR_n0 l) [257] I0 m0 (W (t0.1+1),t0.2++[(⟨t0.1,(⟨(told l t0.1).1,(told l t0.1).2⟩:Flt).mode,(⟨(told l t0.1).1,(told l t0.1).2⟩:Flt).srcs⟩:Wnt)]) t0))))
 (Bk (wantsR_n0 l) [0] I0 m0 (W (t0.1+1),t0.2) t0)))))
 (Rf (t0.2.map Wnt.v) (Rp wantsR_e (t0.2) r0))))
theorem wantsR_ok(l:(List Itm))(I0:(Int×(List Wnt))→Prop)(m0:(Int×(List Wnt))→Nat)(r0:(List Wnt))(h:wantsR_vc l I0 m0 r0):PSpec Tryz.prog 70 [.sl 4 (l.map Itm.v) false] (wantsR_e r0):=mxP_of (sh:=(.s 3)) (a:=((.callP (itemsR_c l 1000000)
 (.br 64 (.ret ([]))
 (.cmdL (.nilT 3 3) (.loop 0 (wantsR_n0 l) (I0) (m0) ((1,[]):Int×(List Wnt)) [96] fun (t0:Int×(List Wnt)) =>
 (.br 33 (.callP (findI_c l t0.1)
 (.callP (Nothing_c )
 (.callP (FSame_c (⟨(told l t0.1).1,(told l t0.1).2⟩:Flt) (⟨1,[]⟩:Flt))
 (.br 177 (.app 257 Wnt.v t0.2 [(⟨t0.1,(⟨(told l t0.1).1,(told l t0.1).2⟩:Flt).mode,(⟨(told l t0.1).1,(told l t0.1).2⟩:Flt).srcs⟩:Wnt)]
 (.back 0 ((W (t0.1+1),t0.2++[(⟨t0.1,(⟨(told l t0.1).1,(told l t0.1).2⟩:Flt).mode,(⟨(told l t0.1).1,(told l t0.1).2⟩:Flt).srcs⟩:Wnt)]):Int×(List Wnt)) [257]))
 (.back 0 ((W (t0.1+1),t0.2):Int×(List Wnt)) [0])))))
 (.cmdL (.frzE 0 (t0.2.map Wnt.v) (pureBL_map (fun _=>rfl) t0.2)) (.ret (t0.2)))))))):An Tryz.prog wantsR_s ((List Wnt)))) h (by kernel_rfl) (AV.pureB_ok rfl)
theorem wantsR_p(l:List Itm)(ok:wantsR_a l):∃I m,wantsR_vc l I m (wantsOf l):=by
  refine ⟨fun t=>∃k:Nat,t.1=(k:Int)+1∧k≤99∧t.2=fromF (told l) k,fun t=>100-t.1.toNat,?_⟩
  simp only [wantsR_vc,vcU,rfU,List.length_map]
  simp only [itemsB,Bool.not_eq_true',decide_eq_false_iff_not,Bool.not_eq_false',decide_eq_true_iff]
  refine ⟨fun h=>by rw [wantsOf,if_neg h],fun h=>⟨⟨0,rfl,by omega,rfl⟩,?_⟩⟩
  rintro ⟨_,_⟩ ⟨k,rfl,hk,rfl⟩
  have hlen:=fromF_len (f:=told l) k
  simp only
  have hw:(k:Int)+1≤99→W ((k:Int)+1+1)=((k+1:Nat):Int)+1:=fun _=>by rw [W_eq (by omega)];omega
  refine ⟨fun h1=>⟨fun q=>⟨by omega,?_⟩,fun q=>?_⟩,fun h1=>?_⟩
  · rw [hw h1]
    refine ⟨⟨k+1,rfl,by omega,?_⟩,by omega⟩
    rw [fromF,from1,if_neg]
    intro e
    have e1:=congrArg Prod.fst e
    have e2:=congrArg Prod.snd e
    simp only at e1 e2
    simp [FSame,flt_eq,e1,e2] at q
  · rw [hw h1]
    refine ⟨⟨k+1,rfl,by omega,?_⟩,by omega⟩
    have e:(told l ((k:Int)+1)).1=1∧(told l ((k:Int)+1)).2=[]:=by simpa [FSame,flt_eq] using q
    rw [fromF,from1,if_pos,List.append_nil]
    exact Prod.ext e.1 e.2
  · have:k=99:=by omega
    subst this
    rw [wantsOf,if_pos h]
def wantsR_c(l:(List Itm)):PC Tryz.prog:=⟨70,[(.s 4)],[.sl 4 (l.map Itm.v) false],wantsR_e (wantsOf l),PSpec.of_ok fun ok=>(wantsR_p l ok).elim fun I0 h=>h.elim fun m0 h=>wantsR_ok l I0 m0 _ h,fnB_ok (by kernel_rfl)⟩
def idxP(l:List Per)(r:Int):Int:=match l.findIdx? fun p=>decide (p.router=r) with
  | some i=>i
  | none=>-1
theorem idxP_some{l:List Per}{r:Int}{i:Nat}{x:Per}(hx:l[i]?=some x)(h:x.router=r)(hb:∀y∈l.take i,y.router≠r):idxP l r=i:=by
  obtain ⟨hi,hxi⟩:=List.getElem?_eq_some_iff.mp hx
  have:l.findIdx? (fun p=>decide (p.router=r))=some i:=by
    rw [List.findIdx?_eq_some_iff_getElem]
    refine ⟨hi,by rw [hxi];simpa using h,fun j hj=>?_⟩
    have:=hb l[j] (List.mem_of_getElem? (i:=j) (by rw [List.getElem?_take,if_pos hj,List.getElem?_eq_getElem (by omega)]))
    simpa using this
  unfold idxP;rw [this]
theorem idxP_none{l:List Per}{r:Int}(hb:∀y∈l,y.router≠r):idxP l r=-1:=by
  have:l.findIdx? (fun p=>decide (p.router=r))=none:=by
    rw [List.findIdx?_eq_none_iff]
    intro x hx;simpa using hb x hx
  unfold idxP;rw [this]
def peerR_a(s:Spk)(router:Int):Prop:=okL [.agg [.int s.router,.int s.epoch,.int s.last,.sl 4 (s.items.map Itm.v) false,.sl 3 (s.peers.map Per.v) false],.int router]
def peerR_n0(s:Spk)(router:Int)(t0:Int):NF:=⟨[(1,.k,.int router),(8,.k,.sl 3 (s.peers.map Per.v) false),(9,.k,.int ((s.peers.map Per.v).length:Int)),(10,.k,.int t0)],[]⟩
def peerR_s:Nat→Type
  | 0=>Int
  | _=>Unit
def peerR_e(r:Int):AV:=.int r
def peerR_vc(s:Spk)(router:Int)(I0:Int→Prop)(m0:Int→Nat)(r0:Int):Prop:=
 Be (peerR_n0 s router) [] I0 (0)∧∀t0,I0 t0 →
 br (decide (t0<((s.peers.map Per.v).length:Int)))
 (Rf (s.peers.map Per.v) (ck (decide (0≤t0)) (ck (decide (t0<(s.peers.length:Int)))
 (∀x1,s.peers[t0.toNat]?=some x1 →
 br (x1.router==router)
 (Rp peerR_e (t0) r0)
 (Bk (peerR_n0 s router) [] I0 m0 (W (t0+1)) t0)))))
 (Rp peerR_e (-1) r0)
theorem peerR_ok(s:Spk)(router:Int)(I0:Int→Prop)(m0:Int→Nat)(r0:Int)(h:peerR_vc s router I0 m0 r0):PSpec Tryz.prog 125 [.agg [.int s.router,.int s.epoch,.int s.last,.sl 4 (s.items.map Itm.v) false,.sl 3 (s.peers.map Per.v) false],.int router] (peerR_e r0):=mxP_of (sh:=.k) (a:=((.loop 0 (peerR_n0 s router) (I0) (m0) ((0):Int) [] fun (t0:Int) =>
 (.br 16 (.el 32 Per.v s.peers fun x1 =>
 (.br 176 (.ret (t0))
 (.back 0 ((W (t0+1)):Int) [])))
 (.ret (-1)))):An Tryz.prog peerR_s (Int))) h (by kernel_rfl) (AV.pureB_ok rfl)
theorem peerR_p(s:Spk)(r:Int)(ok:peerR_a s r):∃I m,peerR_vc s r I m (idxP s.peers r):=by
  unfold peerR_a at ok
  refine ⟨fun t=>∃k:Nat,t=k∧k≤s.peers.length∧∀x∈s.peers.take k,x.router≠r,fun t=>s.peers.length-t.toNat,?_⟩
  simp only [peerR_vc,vcU,rfU,List.length_map]
  have hle:s.peers.length≤9223372036854775807:=by
    have h:=ok
    simp only [Spk.v,pers,AV.ok,okL,List.length_map,maxLen_eq] at h
    omega
  refine ⟨⟨0,rfl,by omega,by simp⟩,?_⟩
  rintro _ ⟨k,rfl,hk,hI⟩
  simp only [Int.toNat_natCast]
  refine ⟨fun h1=>⟨by omega,by omega,fun x hx=>⟨fun e=>?_,fun e=>?_⟩⟩,fun h1=>?_⟩
  · rw [idxP_some hx (by simpa using e) hI]
  · rw [W_succ (n:=s.peers.length) (by omega) (by omega)]
    exact ⟨⟨k+1,rfl,by omega,(mem_take_succ hx).mpr ⟨hI,by simpa using e⟩⟩,by omega⟩
  · rw [List.take_of_length_le (by omega)] at hI
    rw [idxP_none hI]
def peerR_c(s:Spk)(router:Int):PC Tryz.prog:=⟨125,[(.a [.k,.k,.k,(.s 4),(.s 3)]),.k],[.agg [.int s.router,.int s.epoch,.int s.last,.sl 4 (s.items.map Itm.v) false,.sl 3 (s.peers.map Per.v) false],.int router],peerR_e (idxP s.peers router),PSpec.of_ok fun ok=>(peerR_p s router ok).elim fun I0 h=>h.elim fun m0 h=>peerR_ok s router I0 m0 _ h,fnB_ok (by kernel_rfl)⟩
theorem idxP_asc{l:List Per}{r:Int}(ho:l.Pairwise fun x y=>x.router<y.router):idxP l r=if hitP l r then (posP l r:Int) else -1:=by
  by_cases h:hitP l r
  · rw [if_pos h]
    have h1:l[posP l r]?=some (l[posP l r]'h.1):=List.getElem?_eq_getElem h.1
    have h2:(l[posP l r]'h.1).router=r:=by
      have:=h.2
      rw [List.getD_eq_getElem?_getD,h1] at this
      exact this
    refine idxP_some h1 h2 fun y hy=>?_
    obtain ⟨i,hi,rfl⟩:=List.getElem_of_mem hy
    rw [List.length_take] at hi
    rw [List.getElem_take]
    have:=posK_lt (key:=Per.router) (l:=l) (r:=r) (i:=i) (show i<posP l r by omega) (by omega)
    omega
  · rw [if_neg h]
    exact idxP_none fun y hy e=>h ((hitP_iff ho).mpr ⟨y,hy,e⟩)
def heardO(l:Lsn)(r:Int):Hrd×Bool:=if lsnOk l∧hitH l.heard r then (atH l.heard r,true) else (⟨0,0,0,[]⟩,false)
def heardR_a(l:Lsn)(router:Int):Prop:=okL [.agg [.int l.router,.int l.epoch,.sl 4 (l.heard.map Hrd.v) false],.int router]
def heardR_n0(l:Lsn)(router:Int)(t0:Int):NF:=⟨[(1,.k,.int router),(4,.k,.ref 0 0),(12,.k,.sl 4 (l.heard.map Hrd.v) false),(13,.k,.int ((l.heard.map Hrd.v).length:Int)),(14,.k,.int t0)],[.box (.agg [.int 0,.int 0,.int 0,.sl 0 [] true])]⟩
def heardR_s:Nat→Type
  | 0=>Int
  | _=>Unit
def heardR_e(r:Hrd×Bool):AV:=.tup [Hrd.v r.1,.bool r.2]
def heardR_vc(l:Lsn)(router:Int)(I0:Int→Prop)(m0:Int→Nat)(r0:Hrd×Bool):Prop:=
 Cl (valLR_c l)
 (br ((valL l)==0)
 (Be (heardR_n0 l router) [16] I0 (0)∧∀t0,I0 t0 →
 br (decide (t0<((l.heard.map Hrd.v).length:Int)))
 (Rf (l.heard.map Hrd.v) (ck (decide (0≤t0)) (ck (decide (t0<(l.heard.length:Int)))
 (∀x1,l.heard[t0.toNat]?=some x1 →
 br (x1.router==router)
 (Rp heardR_e (x1,true) r0)
 (Bk (heardR_n0 l router) [0] I0 m0 (W (t0+1)) t0)))))
 (Rp heardR_e ((⟨0,0,0,[]⟩:Hrd),false) r0))
 (Rp heardR_e ((⟨0,0,0,[]⟩:Hrd),false) r0))
theorem heardR_ok(l:Lsn)(router:Int)(I0:Int→Prop)(m0:Int→Nat)(r0:Hrd×Bool)(h:heardR_vc l router I0 m0 r0):PSpec Tryz.prog 138 [.agg [.int l.router,.int l.epoch,.sl 4 (l.heard.map Hrd.v) false],.int router] (heardR_e r0):=mxP_of (sh:=(.a [(.a [.k,.k,.k,(.s 4)]),.k])) (a:=((.callP (valLR_c l)
 (.br 96 (.loop 0 (heardR_n0 l router) (I0) (m0) ((0):Int) [16] fun (t0:Int) =>
 (.br 17 (.el 17 Hrd.v l.heard fun x1 =>
 (.br 145 (.ret (x1,true))
 (.back 0 ((W (t0+1)):Int) [0])))
 (.ret ((⟨0,0,0,[]⟩:Hrd),false))))
 (.ret ((⟨0,0,0,[]⟩:Hrd),false)))):An Tryz.prog heardR_s (Hrd×Bool))) h (by kernel_rfl) (AV.pureB_ok rfl)
theorem heardR_p(l:Lsn)(r:Int)(ok:heardR_a l r):∃I m,heardR_vc l r I m (heardO l r):=by
  refine ⟨fun t=>∃k:Nat,t=k∧k≤l.heard.length∧∀x∈l.heard.take k,x.router≠r,fun t=>l.heard.length-t.toNat,?_⟩
  simp only [heardR_vc,vcU,rfU,List.length_map]
  have hv:valL l=if lsnOk l then 0 else 1:=rfl
  rw [hv]
  by_cases h:lsnOk l
  case neg=>rw [if_neg h];simp [heardO,h]
  rw [if_pos h]
  refine ⟨fun _=>⟨⟨0,rfl,by omega,by simp⟩,?_⟩,fun q=>by simp at q⟩
  have hl:=h.2.2.1
  rintro _ ⟨k,rfl,hk,hI⟩
  simp only [Int.toNat_natCast]
  refine ⟨fun h1=>⟨by omega,by omega,fun x hx=>⟨fun e=>?_,fun e=>?_⟩⟩,fun h1=>?_⟩
  · have e:x.router=r:=by simpa using e
    have hit:hitH l.heard r:=(hitH_iff h.2.2.2.2).mpr ⟨x,mem_of_get hx,e⟩
    rw [heardO,if_pos ⟨h,hit⟩]
    have:=gOf_mem h.2.2.2.2 (mem_of_get hx)
    unfold gOf base at this
    rw [e,if_pos hit] at this
    unfold atH
    rw [this]
  · rw [W_succ (n:=l.heard.length) (by omega) (by omega)]
    exact ⟨⟨k+1,rfl,by omega,(mem_take_succ hx).mpr ⟨hI,by simpa using e⟩⟩,by omega⟩
  · rw [List.take_of_length_le (by omega)] at hI
    rw [heardO,if_neg]
    rintro ⟨_,q⟩
    obtain ⟨z,hz,e⟩:=(hitH_iff h.2.2.2.2).mp q
    exact hI z hz e
def heardR_c(l:Lsn)(router:Int):PC Tryz.prog:=⟨138,[(.a [.k,.k,(.s 4)]),.k],[.agg [.int l.router,.int l.epoch,.sl 4 (l.heard.map Hrd.v) false],.int router],heardR_e (heardO l router),PSpec.of_ok fun ok=>(heardR_p l router ok).elim fun I0 h=>h.elim fun m0 h=>heardR_ok l router I0 m0 _ h,fnB_ok (by kernel_rfl)⟩
def knownR_a(l:Lsn)(router:Int):Prop:=okL [.agg [.int l.router,.int l.epoch,.sl 4 (l.heard.map Hrd.v) false],.int router]
def knownR_s:Nat→Type
  | _=>Unit
def knownR_e(r:(List Wnt)):AV:=.sl 3 (r.map Wnt.v) false
def knownR_vc(l:Lsn)(router:Int)(r0:(List Wnt)):Prop:=
 Cl (heardR_c l router)
 (Cl (wantsR_c (((heardO l router).1).items))
 (Rp knownR_e (wantsOf (((heardO l router).1).items)) r0))
theorem knownR_ok(l:Lsn)(router:Int)(r0:(List Wnt))(h:knownR_vc l router r0):PSpec Tryz.prog 52 [.agg [.int l.router,.int l.epoch,.sl 4 (l.heard.map Hrd.v) false],.int router] (knownR_e r0):=mxP_of (sh:=(.s 3)) (a:=((.callP (heardR_c l router)
 (.callP (wantsR_c (((heardO l router).1).items))
 (.ret (wantsOf (((heardO l router).1).items))))):An Tryz.prog knownR_s ((List Wnt)))) h (by kernel_rfl) (AV.pureB_ok rfl)
theorem wantsOf_nil:wantsOf []=[]:=by decide +kernel
theorem knownR_p(l:Lsn)(r:Int)(ok:knownR_a l r):knownR_vc l r (knownW l r):=by
  simp only [knownR_vc,vcU,rfU,List.length_map]
  unfold heardO knownW
  split
  · rfl
  · exact wantsOf_nil
def knownR_c(l:Lsn)(router:Int):PC Tryz.prog:=⟨52,[(.a [.k,.k,(.s 4)]),.k],[.agg [.int l.router,.int l.epoch,.sl 4 (l.heard.map Hrd.v) false],.int router],knownR_e (knownW l router),PSpec.of_ok fun ok=>knownR_ok l router _ (knownR_p l router ok),fnB_ok (by kernel_rfl)⟩
def agreeR_a(s:Spk)(l:Lsn):Prop:=okL [.agg [.int s.router,.int s.epoch,.int s.last,.sl 4 (s.items.map Itm.v) false,.sl 3 (s.peers.map Per.v) false],.agg [.int l.router,.int l.epoch,.sl 4 (l.heard.map Hrd.v) false]]
def agreeR_s:Nat→Type
  | _=>Unit
def agreeR_e(r:Bool):AV:=.bool r
def agreeR_vc(s:Spk)(l:Lsn)(r0:Bool):Prop:=
 Cl (heardR_c l s.router)
 (br ((heardO l s.router).2)
 (Cl (valR6_c s)
 (br ((valS s)==0)
 (br (((heardO l s.router).1).epoch==s.epoch)
 (br (((heardO l s.router).1).ver==s.last)
 (Cl (sameI_c (((heardO l s.router).1).items) s.items)
 (Rp agreeR_e (decide ((((heardO l s.router).1).items)=s.items)) r0))
 (Rp agreeR_e (false) r0))
 (Rp agreeR_e (false) r0))
 (Rp agreeR_e (false) r0)))
 (Rp agreeR_e (false) r0))
theorem agreeR_ok(s:Spk)(l:Lsn)(r0:Bool)(h:agreeR_vc s l r0):PSpec Tryz.prog 49 [.agg [.int s.router,.int s.epoch,.int s.last,.sl 4 (s.items.map Itm.v) false,.sl 3 (s.peers.map Per.v) false],.agg [.int l.router,.int l.epoch,.sl 4 (l.heard.map Hrd.v) false]] (agreeR_e r0):=mxP_of (sh:=.k) (a:=((.callP (heardR_c l s.router)
 (.br 240 (.callP (valR6_c s)
 (.br 320 (.br 432 (.br 544 (.callP (sameI_c (((heardO l s.router).1).items) s.items)
 (.ret (decide ((((heardO l s.router).1).items)=s.items))))
 (.ret (false)))
 (.ret (false)))
 (.ret (false))))
 (.ret (false)))):An Tryz.prog agreeR_s (Bool))) h (by kernel_rfl) (AV.pureB_ok rfl)
theorem agreeR_p(s:Spk)(l:Lsn)(ok:agreeR_a s l):agreeR_vc s l (decide (agree s l)):=by
  simp only [agreeR_vc,vcU,rfU,List.length_map]
  have hv:valS s=if spkOk s then 0 else 1:=rfl
  rw [hv]
  unfold heardO
  by_cases h:lsnOk l∧hitH l.heard s.router
  · rw [if_pos h]
    refine ⟨fun _=>⟨fun e1=>⟨fun e2=>⟨fun e3=>?_,fun e3=>?_⟩,fun e2=>?_⟩,fun e1=>?_⟩,fun e=>by simp at e⟩
    · have e1:spkOk s:=by
        by_cases q:spkOk s
        · exact q
        · rw [if_neg q] at e1;simp at e1
      exact decide_eq_decide.mpr ⟨fun q=>⟨e1,h.1,h.2,by simpa using e2,by simpa using e3,q⟩,fun q=>q.2.2.2.2.2⟩
    · exact nodec fun q=>by simp [q.2.2.2.2.1] at e3
    · exact nodec fun q=>by simp [q.2.2.2.1] at e2
    · exact nodec fun q=>by rw [if_pos q.1] at e1;simp at e1
  · rw [if_neg h]
    exact ⟨fun e=>by simp at e,fun _=>nodec fun q=>h ⟨q.2.1,q.2.2.1⟩⟩
def agreeR_c(s:Spk)(l:Lsn):PC Tryz.prog:=⟨49,[(.a [.k,.k,.k,(.s 4),(.s 3)]),(.a [.k,.k,(.s 4)])],[.agg [.int s.router,.int s.epoch,.int s.last,.sl 4 (s.items.map Itm.v) false,.sl 3 (s.peers.map Per.v) false],.agg [.int l.router,.int l.epoch,.sl 4 (l.heard.map Hrd.v) false]],agreeR_e (decide (agree s l)),PSpec.of_ok fun ok=>agreeR_ok s l _ (agreeR_p s l ok),fnB_ok (by kernel_rfl)⟩
end Go.Proofs.YtgnogboljobocaaGreatDoor

namespace Go.Proofs.YtgnogboljobocaaGreatDoor
open Go Go.Am
set_option linter.unusedVariables false
set_option linter.unusedSimpArgs false
def sendR_a(s:Spk)(router:Int):Prop:=okL [.agg [.int s.router,.int s.epoch,.int s.last,.sl 4 (s.items.map Itm.v) false,.sl 3 (s.peers.map Per.v) false],.int router]
def sendR_n0(s:Spk)(router:Int)(t0:Int×Int×(List Sig)):NF:=⟨[(1,.k,.int router),(2,.k,.ref 0 0),(7,.k,.int (idxP s.peers router)),(8,.k,.vec 1),(9,.k,.int t0.1),(32,.k,.sl 4 (s.items.map Itm.v) false),(33,.k,.int ((s.items.map Itm.v).length:Int)),(34,.k,.int t0.2.1)],[.box (.agg [.int s.router,.int s.epoch,.int s.last,.sl 4 (s.items.map Itm.v) false,.sl 3 (s.peers.map Per.v) false]),.vec 10 (t0.2.2.map Sig.v) (pureBL_map (fun _=>rfl) t0.2.2)]⟩
def sendR_s:Nat→Type
  | 0=>Int×Int×(List Sig)
  | _=>Unit
def sendR_e(r:(List Sig)×Int):AV:=.tup [.sl 10 (r.1.map Sig.v) false,.int r.2]
def sendR_vc(s:Spk)(router:Int)(I0:(Int×Int×(List Sig))→Prop)(m0:(Int×Int×(List Sig))→Nat)(r0:(List Sig)×Int):Prop:=
 Cl (valR6_c s)
 (br ((valS s) != 0)
 (Rp sendR_e ([],valS s) r0)
 (Cl (peerR_c s router)
 (br (decide ((idxP s.peers router)<0))
 (Rp sendR_e ([],4) r0)
 (Be (sendR_n0 s router) [0,352] I0 (0,0,[(⟨1,s.router,router,s.epoch,s.last,0,0,0,0,[]⟩:Sig)])∧∀t0,I0 t0 →
 br (decide (t0.2.1<((s.items.map Itm.v).length:Int)))
 (Rf (s.items.map Itm.v) (ck (decide (0≤t0.2.1)) (ck (decide (t0.2.1<(s.items.length:Int)))
 (∀x1,s.items[t0.2.1.toNat]?=some x1 →
 Rf (s.peers.map Per.v) (ck (decide (0≤(idxP s.peers router))) (ck (decide ((idxP s.peers router)<(s.peers.length:Int)))
 (∀x2,s.peers[(idxP s.peers router).toNat]?=some x2 →
 br (decide (x2.acked<x1.ver))
 (Rf (α:=List AV) (t0.2.2.map Sig.v) (Rf (α:=List AV) [.agg [.int 2,.int s.router,.int router,.int s.epoch,.int x1.ver,.int t0.1,.int 0,.int x1.grp,.int x1.mode,.sl 1 (x1.srcs.map AV.int) false]]
 (ck (decide (t0.2.2.length+1≤1000000))
 (Bk (sendR_n0 s router) [0,466] I0 m0 (x1.ver,W (t0.2.1+1),t0.2.2++[(⟨2,s.router,router,s.epoch,x1.ver,t0.1,0,x1.grp,x1.mode,x1.srcs⟩:Sig)]) t0))))
 (Bk (sendR_n0 s router) [0,1] I0 m0 (x1.ver,W (t0.2.1+1),t0.2.2) t0))))))))
 (Rf (t0.2.2.map Sig.v) (Rp sendR_e (t0.2.2,0) r0))))))
theorem sendR_ok(s:Spk)(router:Int)(I0:(Int×Int×(List Sig))→Prop)(m0:(Int×Int×(List Sig))→Nat)(r0:(List Sig)×Int)(h:sendR_vc s router I0 m0 r0):PSpec Tryz.prog 44 [.agg [.int s.router,.int s.epoch,.int s.last,.sl 4 (s.items.map Itm.v) false,.sl 3 (s.peers.map Per.v) false],.int router] (sendR_e r0):=mxP_of (sh:=(.a [(.s 10),.k])) (a:=((.callP (valR6_c s)
 (.br 128 (.ret ([],valS s))
 (.callP (peerR_c s router)
 (.br 224 (.ret ([],4))
 (.own 352 (.cmdL (.wkB 352 (.a [.k,.k,.k,.k,.k,.k,.k,.k,.k,(.s 1)])) (.loop 0 (sendR_n0 s router) (I0) (m0) ((0,0,[(⟨1,s.router,router,s.epoch,s.last,0,0,0,0,[]⟩:Sig)]):Int×Int×(List Sig)) [0,352] fun (t0:Int×Int×(List Sig)) =>
 (.br 18 (.el 18 Itm.v s.items fun x1 =>
 (.el 162 Per.v s.peers fun x2 =>
 (.br 226 (.own 450 (.app 466 Sig.v t0.2.2 [(⟨2,s.router,router,s.epoch,x1.ver,t0.1,0,x1.grp,x1.mode,x1.srcs⟩:Sig)]
 (.back 0 ((x1.ver,W (t0.2.1+1),t0.2.2++[(⟨2,s.router,router,s.epoch,x1.ver,t0.1,0,x1.grp,x1.mode,x1.srcs⟩:Sig)]):Int×Int×(List Sig)) [0,466])))
 (.back 0 ((x1.ver,W (t0.2.1+1),t0.2.2):Int×Int×(List Sig)) [0,1]))))
 (.cmdL (.frzE 1 (t0.2.2.map Sig.v) (pureBL_map (fun _=>rfl) t0.2.2)) (.ret (t0.2.2,0))))))))))):An Tryz.prog sendR_s ((List Sig)×Int))) h (by kernel_rfl) (AV.pureB_ok rfl)
theorem sendR_p(s:Spk)(r:Int)(ok:sendR_a s r):∃I0 m0,sendR_vc s r I0 m0 (send s r):=by
  let ak:=(s.peers.getD (posP s.peers r) ⟨0,0,0⟩).acked
  refine ⟨fun t=>∃k:Nat,t.2.1=k∧k≤s.items.length∧t.2.2.length≤k+1∧hello s r::sendFrom s r ak 0 s.items=t.2.2++sendFrom s r ak t.1 (s.items.drop k),fun t=>s.items.length-t.2.1.toNat,?_⟩
  simp only [sendR_vc,vcU,rfU,List.length_map]
  have hv:valS s=if spkOk s then 0 else 1:=rfl
  rw [hv]
  by_cases hs:spkOk s
  case neg=>simp [send,hs]
  rw [if_pos hs,idxP_asc hs.2.2.2.2.2.2]
  refine ⟨fun e=>by simp at e,fun _=>⟨fun e=>?_,fun e=>?_⟩⟩
  · rw [send,if_neg (not_not_intro hs),if_pos]
    intro q;rw [if_pos q] at e;omega
  have e:hitP s.peers r:=by
    refine Classical.byContradiction fun q=>e ?_
    rw [if_neg q];omega
  rw [if_pos e,Int.toNat_natCast]
  have fin:send s r=(hello s r::sendFrom s r ak 0 s.items,0):=by rw [send,if_neg (not_not_intro hs),if_neg (not_not_intro e)]
  have hil:=itms_len hs.2.2.2.1
  refine ⟨⟨0,rfl,by omega,by simp,rfl⟩,?_⟩
  rintro ⟨prev,_,acc⟩ ⟨k,rfl,hk,hal,h⟩
  simp only [Int.toNat_natCast] at *
  refine ⟨fun h1=>⟨by omega,by omega,fun x hx=>⟨by omega,by have:=e.1;omega,fun y hy=>?_⟩⟩,fun h1=>?_⟩
  · have hy:ak=y.acked:=by show (s.peers.getD (posP s.peers r) ⟨0,0,0⟩).acked=_;rw [getD_some hy]
    have hd:s.items.drop k=x::s.items.drop (k+1):=by
      have hkl:=lt_of_get hx
      rw [List.drop_eq_getElem_cons hkl]
      rw [List.getElem?_eq_getElem hkl] at hx;rw [Option.some.inj hx]
    rw [hd,sendFrom] at h
    rw [W_succ (n:=s.items.length) (by omega) (by omega)]
    refine ⟨fun e3=>⟨by omega,⟨k+1,rfl,by omega,by simp;omega,?_⟩,by omega⟩,fun e3=>⟨⟨k+1,rfl,by omega,by omega,?_⟩,by omega⟩⟩
    · rw [h,if_pos (by omega)];simp [upd1]
    · rw [h,if_neg (by omega)];simp
  · rw [List.drop_eq_nil_of_le (by omega),sendFrom,List.append_nil] at h
    rw [fin,h]
def sendR_c(s:Spk)(router:Int):PC Tryz.prog:=⟨44,[(.a [.k,.k,.k,(.s 4),(.s 3)]),.k],[.agg [.int s.router,.int s.epoch,.int s.last,.sl 4 (s.items.map Itm.v) false,.sl 3 (s.peers.map Per.v) false],.int router],sendR_e (send s router),PSpec.of_ok fun ok=>(sendR_p s router ok).elim fun I0 h=>h.elim fun m0 h=>sendR_ok s router I0 m0 _ h,fnB_ok (by kernel_rfl)⟩
def ackR_a(s:Spk)(x:Sig):Prop:=okL [.agg [.int s.router,.int s.epoch,.int s.last,.sl 4 (s.items.map Itm.v) false,.sl 3 (s.peers.map Per.v) false],.agg [.int x.kind,.int x.src,.int x.dst,.int x.epoch,.int x.ver,.int x.prev,.int x.pep,.int x.grp,.int x.mode,.sl 1 (x.srcs.map AV.int) false]]
def ackR_n0(s:Spk)(x:Sig)(t0:Bool):NF:=⟨[(2,.k,.ref 0 0),(3,.k,.ref 1 0),(4,.k,.ref 2 0),(33,.k,.bool t0)],[.box (.agg [.int s.router,.int s.epoch,.int s.last,.sl 4 (s.items.map Itm.v) false,.sl 3 (s.peers.map Per.v) false]),.box (.agg [.int x.kind,.int x.src,.int x.dst,.int x.epoch,.int x.ver,.int x.prev,.int x.pep,.int x.grp,.int x.mode,.sl 1 (x.srcs.map AV.int) false]),.box (.agg [.int 0,.int 0,.int 0,.sl 0 [] true,.sl 0 [] true])]⟩
def ackR_n1(s:Spk)(x:Sig)(t0:Bool)(t1:Int):NF:=⟨[(2,.k,.ref 0 0),(3,.k,.ref 1 0),(4,.k,.ref 2 0),(8,.k,.int (idxP s.peers x.src)),(9,.k,.int t1)],[.box (.agg [.int s.router,.int s.epoch,.int s.last,.sl 4 (s.items.map Itm.v) false,.sl 3 (s.peers.map Per.v) false]),.box (.agg [.int x.kind,.int x.src,.int x.dst,.int x.epoch,.int x.ver,.int x.prev,.int x.pep,.int x.grp,.int x.mode,.sl 1 (x.srcs.map AV.int) false]),.box (.agg [.int 0,.int 0,.int 0,.sl 0 [] true,.sl 0 [] true])]⟩
def ackR_n2(s:Spk)(x:Sig)(t0:Bool)(t2:Bool):NF:=⟨[(2,.k,.ref 0 0),(3,.k,.ref 1 0),(4,.k,.ref 2 0),(8,.k,.int (idxP s.peers x.src)),(9,.k,.int 0),(53,.k,.bool t2)],[.box (.agg [.int s.router,.int s.epoch,.int s.last,.sl 4 (s.items.map Itm.v) false,.sl 3 (s.peers.map Per.v) false]),.box (.agg [.int x.kind,.int x.src,.int x.dst,.int x.epoch,.int x.ver,.int x.prev,.int x.pep,.int x.grp,.int x.mode,.sl 1 (x.srcs.map AV.int) false]),.box (.agg [.int 0,.int 0,.int 0,.sl 0 [] true,.sl 0 [] true])]⟩
def ackR_s:Nat→Type
  | 0=>Bool
  | 1=>Int
  | 2=>Bool
  | _=>Unit
def ackR_e(r:Spk×Int):AV:=.tup [Spk.v r.1,.int r.2]
def ackR_vc(s:Spk)(x:Sig)(I0:Bool→Prop)(I1:Bool→Int→Prop)(I2:Bool→Bool→Prop)(r0:Spk×Int):Prop:=
 Cl (valR6_c s)
 (br ((valS s) != 0)
 (Rp ackR_e ((⟨0,0,0,[],[]⟩:Spk),valS s) r0)
 (Cl (sigVR_c x)
 (br ((sigErr x) != 0)
 (Rp ackR_e ((⟨0,0,0,[],[]⟩:Spk),sigErr x) r0)
 ((br (x.kind != 3)
 (Be (ackR_n0 s x) [0,16,32] I0 (true))
 (Be (ackR_n0 s x) [0,16,32] I0 (x.dst != s.router)))∧∀t0:Bool,I0 t0 →
 br t0
 (Rp ackR_e ((⟨0,0,0,[],[]⟩:Spk),1) r0)
 (Cl (peerR_c s x.src)
 (br (decide ((idxP s.peers x.src)<0))
 (Rp ackR_e ((⟨0,0,0,[],[]⟩:Spk),4) r0)
 (((br (x.epoch==s.epoch)
 (Be (ackR_n2 s x t0) [0,1,2] (I2 t0) (decide (x.ver≤s.last)))
 (Be (ackR_n2 s x t0) [0,1,2] (I2 t0) (false)))∧∀t2:Bool,I2 t0 t2 →
 br t2
 (Be (ackR_n1 s x t0) [0,1,2] (I1 t0) (x.ver))
 (Be (ackR_n1 s x t0) [0,1,2] (I1 t0) (0)))∧∀t1:Int,I1 t0 t1 →
 Rf (α:=List AV) [] (Rf (α:=List AV) (s.peers.map Per.v)
 (ck (decide (0+s.peers.length≤1000000))
 (ck (cond (decide (0≤(idxP s.peers x.src))) (decide ((idxP s.peers x.src)<((s.peers.map Per.v).length:Int))) false)
 (Rf (s.peers.map Per.v) (ck (decide ((idxP s.peers x.src).toNat<s.peers.length))
 (∀x1,s.peers[(idxP s.peers x.src).toNat]?=some x1 →
 br (decide (x1.epoch<x.pep))
 (Rf (s.peers.map Per.v) (ck (decide ((idxP s.peers x.src).toNat<s.peers.length))
 (∀y2,s.peers[(idxP s.peers x.src).toNat]?=some y2→Rf (Per.v (⟨y2.router,x.pep,y2.acked⟩:Per))
 (Rf ((s.peers.set ((idxP s.peers x.src).toNat) (⟨y2.router,x.pep,y2.acked⟩:Per)).map Per.v) (ck (decide ((idxP s.peers x.src).toNat<(s.peers.set ((idxP s.peers x.src).toNat) (⟨y2.router,x.pep,y2.acked⟩:Per)).length))
 (∀y3,(s.peers.set ((idxP s.peers x.src).toNat) (⟨y2.router,x.pep,y2.acked⟩:Per))[(idxP s.peers x.src).toNat]?=some y3→Rf (Per.v (⟨y3.router,y3.epoch,t1⟩:Per))
 (Rf (((s.peers.set ((idxP s.peers x.src).toNat) (⟨y2.router,x.pep,y2.acked⟩:Per)).set ((idxP s.peers x.src).toNat) (⟨y3.router,y3.epoch,t1⟩:Per)).map Per.v) (Rp ackR_e ((⟨s.router,s.epoch,s.last,s.items,(s.peers.set ((idxP s.peers x.src).toNat) (⟨y2.router,x.pep,y2.acked⟩:Per)).set ((idxP s.peers x.src).toNat) (⟨y3.router,y3.epoch,t1⟩:Per)⟩:Spk),0) r0))))))))
 (Rf (s.peers.map Per.v) (ck (decide ((idxP s.peers x.src).toNat<s.peers.length))
 (∀x4,s.peers[(idxP s.peers x.src).toNat]?=some x4 →
 br (x.pep==x4.epoch)
 (Rf (s.peers.map Per.v) (ck (decide ((idxP s.peers x.src).toNat<s.peers.length))
 (∀x5,s.peers[(idxP s.peers x.src).toNat]?=some x5 →
 Rf (s.peers.map Per.v) (ck (decide ((idxP s.peers x.src).toNat<s.peers.length))
 (∀y6,s.peers[(idxP s.peers x.src).toNat]?=some y6→Rf (Per.v (⟨y6.router,y6.epoch,maxI x5.acked t1⟩:Per))
 (Rf ((s.peers.set ((idxP s.peers x.src).toNat) (⟨y6.router,y6.epoch,maxI x5.acked t1⟩:Per)).map Per.v) (Rp ackR_e ((⟨s.router,s.epoch,s.last,s.items,s.peers.set ((idxP s.peers x.src).toNat) (⟨y6.router,y6.epoch,maxI x5.acked t1⟩:Per)⟩:Spk),0) r0)))))))
 (Rf (s.peers.map Per.v) (Rp ackR_e (s,0) r0))))))))))))))))))
theorem ackR_ok(s:Spk)(x:Sig)(I0:Bool→Prop)(I1:Bool→Int→Prop)(I2:Bool→Bool→Prop)(r0:Spk×Int)(h:ackR_vc s x I0 I1 I2 r0):PSpec Tryz.prog 58 [.agg [.int s.router,.int s.epoch,.int s.last,.sl 4 (s.items.map Itm.v) false,.sl 3 (s.peers.map Per.v) false],.agg [.int x.kind,.int x.src,.int x.dst,.int x.epoch,.int x.ver,.int x.prev,.int x.pep,.int x.grp,.int x.mode,.sl 1 (x.srcs.map AV.int) false]] (ackR_e r0):=mxP_of (sh:=(.a [(.a [.k,.k,.k,(.s 4),(.s 3)]),.k])) (a:=((.callP (valR6_c s)
 (.br 144 (.ret ((⟨0,0,0,[],[]⟩:Spk),valS s))
 (.callP (sigVR_c x)
 (.br 224 (.ret ((⟨0,0,0,[],[]⟩:Spk),sigErr x))
 (.pass (.join 0 (ackR_n0 s x) (fun t0=>I0 t0) (.br 288 (.back 0 ((true):Bool) [0,16,32])
 (.back 0 ((x.dst != s.router):Bool) [0,16,32])) fun (t0:Bool) =>
 (.br 3 (.ret ((⟨0,0,0,[],[]⟩:Spk),1))
 (.callP (peerR_c s x.src)
 (.br 115 (.ret ((⟨0,0,0,[],[]⟩:Spk),4))
 (.pass (.join 1 (ackR_n1 s x t0) (fun t1=>I1 t0 t1) (.join 2 (ackR_n2 s x t0) (fun t2=>I2 t0 t2) (.br 227 (.back 2 ((decide (x.ver≤s.last)):Bool) [0,1,2])
 (.back 2 ((false):Bool) [0,1,2])) fun (t2:Bool) =>
 (.br 3 (.back 1 ((x.ver):Int) [0,1,2])
 (.back 1 ((0):Int) [0,1,2]))) fun (t1:Int) =>
 (.app 99 Per.v [] s.peers
 (.el 307 Per.v s.peers fun x1 =>
 (.br 355 (.st 467 Per.v s.peers (fun y2=>(⟨y2.router,x.pep,y2.acked⟩:Per)) fun y2 =>
 (.st 515 Per.v (s.peers.set ((idxP s.peers x.src).toNat) (⟨y2.router,x.pep,y2.acked⟩:Per)) (fun y3=>(⟨y3.router,y3.epoch,t1⟩:Per)) fun y3 =>
 (.cmdL (.frzE 99 (((s.peers.set ((idxP s.peers x.src).toNat) (⟨y2.router,x.pep,y2.acked⟩:Per)).set ((idxP s.peers x.src).toNat) (⟨y3.router,y3.epoch,t1⟩:Per)).map Per.v) (pureBL_map (fun _=>rfl) ((s.peers.set ((idxP s.peers x.src).toNat) (⟨y2.router,x.pep,y2.acked⟩:Per)).set ((idxP s.peers x.src).toNat) (⟨y3.router,y3.epoch,t1⟩:Per)))) (.ret ((⟨s.router,s.epoch,s.last,s.items,(s.peers.set ((idxP s.peers x.src).toNat) (⟨y2.router,x.pep,y2.acked⟩:Per)).set ((idxP s.peers x.src).toNat) (⟨y3.router,y3.epoch,t1⟩:Per)⟩:Spk),0)))))
 (.el 435 Per.v s.peers fun x4 =>
 (.br 483 (.el 547 Per.v s.peers fun x5 =>
 (.st 627 Per.v s.peers (fun y6=>(⟨y6.router,y6.epoch,maxI x5.acked t1⟩:Per)) fun y6 =>
 (.cmdL (.frzE 99 ((s.peers.set ((idxP s.peers x.src).toNat) (⟨y6.router,y6.epoch,maxI x5.acked t1⟩:Per)).map Per.v) (pureBL_map (fun _=>rfl) (s.peers.set ((idxP s.peers x.src).toNat) (⟨y6.router,y6.epoch,maxI x5.acked t1⟩:Per)))) (.ret ((⟨s.router,s.epoch,s.last,s.items,s.peers.set ((idxP s.peers x.src).toNat) (⟨y6.router,y6.epoch,maxI x5.acked t1⟩:Per)⟩:Spk),0)))))
 (.cmdL (.frzE 99 (s.peers.map Per.v) (pureBL_map (fun _=>rfl) s.peers)) (.ret (s,0))))))))))))))))))):An Tryz.prog ackR_s (Spk×Int))) h (by kernel_rfl) (AV.pureB_ok rfl)
theorem ackR_p(s:Spk)(x:Sig)(ok:ackR_a s x):∃I0 I1 I2,ackR_vc s x I0 I1 I2 (ack s x):=by
  refine ⟨fun b=>b=decide (x.kind≠3∨x.dst≠s.router),fun b v=>v=ackV s x,fun b c=>c=decide (x.epoch=s.epoch∧x.ver≤s.last),?_⟩
  simp only [ackR_vc,vcU,rfU,List.length_map]
  have hv:valS s=if spkOk s then 0 else 1:=rfl
  rw [hv]
  unfold ack
  by_cases hs:spkOk s
  case neg=>rw [if_neg hs,if_pos hs];simp [spk0]
  rw [if_pos hs,if_neg (not_not_intro hs),idxP_asc hs.2.2.2.2.2.2]
  refine ⟨fun e=>by simp at e,fun _=>⟨fun e=>?_,fun e=>⟨⟨fun k=>?_,fun k=>?_⟩,fun b hb=>⟨fun c=>?_,fun c=>?_⟩⟩⟩⟩
  · rw [if_pos (by simpa using e)];rfl
  · exact (decide_eq_true (.inl (by simpa using k))).symm
  · have k:x.kind=3:=by simpa using k
    by_cases q:x.dst=s.router<;>simp [q,k]
  · subst hb
    have e0:¬sigErr x≠0:=by simpa using e
    rw [if_neg e0,if_pos (by simpa using c)];rfl
  · subst hb
    have c:¬(x.kind≠3∨x.dst≠s.router):=by simpa using c
    have e0:¬sigErr x≠0:=by simpa using e
    rw [if_neg e0,if_neg c]
    by_cases hit:hitP s.peers x.src
    case neg =>
      rw [if_neg hit,if_pos hit]
      exact ⟨fun _=>rfl,fun q=>by omega⟩
    rw [if_pos hit,if_neg (not_not_intro hit),Int.toNat_natCast]
    have hp:=hit.1
    have hpl:=hs.2.2.2.2.1
    refine ⟨fun q=>by omega,fun _=>⟨⟨⟨fun k=>?_,fun k=>?_⟩,fun b2 hb2=>⟨fun q=>?_,fun q=>?_⟩⟩,?_⟩⟩
    · have k:x.epoch=s.epoch:=by simpa using k
      simp [k]
    · have k:¬x.epoch=s.epoch:=by simpa using k
      simp [k]
    · subst hb2
      unfold ackV;rw [if_pos (by simpa using q)]
    · subst hb2
      unfold ackV;rw [if_neg (by simpa using q)]
    · rintro _ rfl
      have hat:∀y,s.peers[posP s.peers x.src]?=some y→s.peers.getD (posP s.peers x.src) ⟨0,0,0⟩=y:=fun y hy=>by rw [List.getD_eq_getElem?_getD,hy];rfl
      refine ⟨by omega,by rw [decide_eq_true (by omega),decide_eq_true (by omega)];rfl,hp,fun y hy=>⟨fun q=>⟨hp,fun y2 hy2=>⟨by simpa using hp,fun y3 hy3=>?_⟩⟩,fun q=>⟨hp,fun y4 hy4=>⟨fun q2=>⟨hp,fun y5 hy5=>⟨hp,fun y6 hy6=>?_⟩⟩,fun q2=>?_⟩⟩⟩⟩
      · rw [hy] at hy2;cases hy2
        rw [List.getElem?_set_self hp] at hy3
        cases hy3
        rw [hat _ hy,List.set_set]
        unfold ackP
        rw [if_pos q]
      · rw [hy] at hy4 hy5 hy6;cases hy4;cases hy5;cases hy6
        rw [hat _ hy]
        unfold ackP
        rw [if_neg q,if_pos (by simpa using q2)]
      · rw [hy] at hy4;cases hy4
        rw [hat _ hy]
        unfold ackP
        rw [if_neg q,if_neg (by simpa using q2)]
        have:s.peers.set (posP s.peers x.src) y=s.peers:=by
          refine List.ext_getElem (by simp) fun j h1 h2=>?_
          rw [List.getElem_set]
          split
          · rename_i e';subst e'
            exact ((List.getElem?_eq_some_iff.mp hy).2).symm
          · rfl
        rw [this]
def ackR_c(s:Spk)(x:Sig):PC Tryz.prog:=⟨58,[(.a [.k,.k,.k,(.s 4),(.s 3)]),(.a [.k,.k,.k,.k,.k,.k,.k,.k,.k,(.s 1)])],[.agg [.int s.router,.int s.epoch,.int s.last,.sl 4 (s.items.map Itm.v) false,.sl 3 (s.peers.map Per.v) false],.agg [.int x.kind,.int x.src,.int x.dst,.int x.epoch,.int x.ver,.int x.prev,.int x.pep,.int x.grp,.int x.mode,.sl 1 (x.srcs.map AV.int) false]],ackR_e (ack s x),PSpec.of_ok fun ok=>(ackR_p s x ok).elim fun I0 h=>h.elim fun I1 h=>h.elim fun I2 h=>ackR_ok s x I0 I1 I2 _ h,fnB_ok (by kernel_rfl)⟩
def bld(l:List Hrd)(r:Int)(h:Hrd)(k:Nat):List Hrd:=l.take (min k (posH l r))++((if posH l r<k then [h] else [])++((l.take k).drop (posH l r)).filter fun y=>decide (y.router≠r))
theorem bld_succ{l:List Hrd}{r:Int}{h x:Hrd}{k:Nat}(ho:l.Pairwise fun x y=>x.router<y.router)(hx:l[k]?=some x) :
    (posH l r=k↔¬posH l r<k∧r≤x.router)∧bld l r h (k+1)=bld l r h k++((if posH l r=k then [h] else [])++if x.router≠r then [x] else []):=by
  obtain ⟨hk,hxk⟩:=List.getElem?_eq_some_iff.mp hx
  have hlt:k<posH l r→x.router<r:=fun q=>by have:=posK_lt (key:=Hrd.router) (l:=l) (r:=r) q hk;rw [hxk] at this;exact this
  have hge:posH l r≤k→r≤x.router:=fun q=>by have:=posK_ge (key:=Hrd.router) (r:=r) ho hk q;rw [hxk] at this;exact this
  refine ⟨⟨fun e=>⟨by omega,hge (by omega)⟩,fun ⟨e1,e2⟩=>?_⟩,?_⟩
  · rcases Nat.lt_or_ge k (posH l r) with q | q
    · have:=hlt q;omega
    · omega
  unfold bld
  rw [take_succ hx]
  rcases Nat.lt_trichotomy k (posH l r) with q | q | q
  · have h1:=hlt q
    rw [if_neg (by omega),if_neg (by omega),if_neg (by omega),if_pos (by omega),Nat.min_eq_left (by omega),Nat.min_eq_left (by omega)]
    rw [List.drop_eq_nil_of_le (by simp;omega),List.drop_eq_nil_of_le (by simp;omega),take_succ hx]
    simp
  · rw [if_pos (by omega),if_neg (by omega),if_pos q.symm,Nat.min_eq_right (by omega),Nat.min_eq_left (by omega),←q]
    rw [List.drop_append_of_le_length (by simp;omega),List.drop_eq_nil_of_le (by simp;omega)]
    by_cases e:x.router=r<;>simp [e]
  · rw [if_pos (by omega),if_pos (by omega),if_neg (by omega),Nat.min_eq_right (by omega),Nat.min_eq_right (by omega)]
    rw [List.drop_append_of_le_length (by simp;omega),List.filter_append]
    by_cases e:x.router=r<;>simp [e]
theorem bld_len{l:List Hrd}{r:Int}{h:Hrd}{k:Nat}:(bld l r h k).length≤l.length+l.length+1:=by
  unfold bld
  have:=List.length_filter_le (fun y:Hrd=>decide (y.router≠r)) ((l.take k).drop (posH l r))
  simp only [List.length_append,List.length_take,List.length_drop] at *
  split<;>simp only [List.length_cons,List.length_nil]<;>omega
theorem bld_fin{l:List Hrd}{r:Int}{h:Hrd}(ho:l.Pairwise fun x y=>x.router<y.router)(hr:h.router=r):bld l r h l.length++(if posH l r<l.length then [] else [h])=(base l r).set (posH l r) h:=by
  have hp:posH l r≤l.length:=List.findIdx_le_length
  unfold bld
  rw [List.take_length,Nat.min_eq_right hp]
  by_cases hh:∃z∈l,z.router=r
  · have hit:=(hitH_iff ho).mpr hh
    have hlt:=hit.1
    rw [if_pos hlt,if_pos hlt,base,if_pos hit,List.append_nil,List.set_eq_take_append_cons_drop,if_pos hlt]
    congr 1
    rw [List.drop_eq_getElem_cons hlt,List.filter_cons]
    have h2:(l[posH l r]'hlt).router=r:=by
      have:=hit.2
      rw [List.getD_eq_getElem?_getD,List.getElem?_eq_getElem hlt] at this
      exact this
    rw [if_neg (by simp [h2]),List.filter_eq_self.mpr]
    · rfl
    · intro y hy
      obtain ⟨i,hi,rfl⟩:=List.getElem_of_mem hy
      rw [List.getElem_drop]
      simp only [List.length_drop] at hi
      have:=List.pairwise_iff_getElem.mp ho (posH l r) (posH l r+1+i) hlt (by omega) (by omega)
      rw [h2] at this
      simp only [ne_eq,decide_not,Bool.not_eq_true',decide_eq_false_iff_not]
      omega
  · have hn:¬hitH l r:=fun q=>hh ((hitH_iff ho).mp q)
    have hf:(l.drop (posH l r)).filter (fun y=>decide (y.router≠r))=l.drop (posH l r):=List.filter_eq_self.mpr fun y hy=>by
      have:=List.mem_of_mem_drop hy
      simpa using fun e=>hh ⟨y,this,e⟩
    have hb:base l r=l.take (posH l r)++⟨r,0,0,[]⟩::l.drop (posH l r):=by rw [base,if_neg hn,insAt_cons]
    have e:=(ins_setK (key:=Hrd.router) (z0:=⟨r,0,0,[]⟩) ho hh hr).1
    rw [hf,hb]
    refine Eq.trans ?_ e.symm
    show _=l.take (posH l r)++h::l.drop (posH l r)
    by_cases hlt:posH l r<l.length
    · rw [if_pos hlt,if_pos hlt];simp
    · rw [if_neg hlt,if_neg hlt,List.drop_eq_nil_of_le (by omega)];simp
theorem gOf_take{l:List Hrd}{r:Int}{x:Hrd}{k:Nat}(ho:l.Pairwise fun x y=>x.router<y.router)(hx:l[k]?=some x):gOf (l.take (k+1)) r=if x.router=r then x else gOf (l.take k) r:=by
  have o1:∀j,(l.take j).Pairwise fun x y=>x.router<y.router:=fun j=>ho.sublist (List.take_sublist _ _)
  have hm:x∈l.take (k+1):=by rw [take_succ hx];simp
  split
  · rename_i e;subst e;exact gOf_mem (o1 _) hm
  · rename_i e
    by_cases hh:∃z∈l.take k,z.router=r
    · obtain ⟨z,hz,rfl⟩:=hh
      rw [gOf_mem (o1 _) hz,gOf_mem (o1 _) (by rw [take_succ hx];simp [hz])]
    · rw [gOf_no (o1 _) hh,gOf_no (o1 _)]
      rintro ⟨z,hz,e2⟩
      rw [take_succ hx] at hz
      rcases List.mem_append.mp hz with hz | hz
      · exact hh ⟨z,hz,e2⟩
      · rw [List.mem_singleton] at hz;subst hz;exact e e2
def hearR_a(l:Lsn)(x:Sig):Prop:=okL [.agg [.int l.router,.int l.epoch,.sl 4 (l.heard.map Hrd.v) false],.agg [.int x.kind,.int x.src,.int x.dst,.int x.epoch,.int x.ver,.int x.prev,.int x.pep,.int x.grp,.int x.mode,.sl 1 (x.srcs.map AV.int) false]]
def hearR_n0(l:Lsn)(x:Sig)(t0:Bool):NF:=⟨[(2,.k,.ref 0 0),(3,.k,.ref 1 0),(4,.k,.ref 2 0),(5,.k,.ref 3 0),(39,.k,.bool t0)],[.box (.agg [.int l.router,.int l.epoch,.sl 4 (l.heard.map Hrd.v) false]),.box (.agg [.int x.kind,.int x.src,.int x.dst,.int x.epoch,.int x.ver,.int x.prev,.int x.pep,.int x.grp,.int x.mode,.sl 1 (x.srcs.map AV.int) false]),.box (.agg [.int 0,.int 0,.sl 0 [] true]),.box (.agg [.int 0,.int 0,.int 0,.int 0,.int 0,.int 0,.int 0,.int 0,.int 0,.sl 0 [] true])]⟩
def hearR_n1(l:Lsn)(x:Sig)(t0:Bool)(t1:Int×Hrd):NF:=⟨[(2,.k,.ref 0 0),(3,.k,.ref 1 0),(4,.k,.ref 2 0),(5,.k,.ref 3 0),(9,.k,.ref 4 0),(10,.k,.ref 5 0),(51,.k,.sl 4 (l.heard.map Hrd.v) false),(52,.k,.int ((l.heard.map Hrd.v).length:Int)),(53,.k,.int t1.1)],[.box (.agg [.int l.router,.int l.epoch,.sl 4 (l.heard.map Hrd.v) false]),.box (.agg [.int x.kind,.int x.src,.int x.dst,.int x.epoch,.int x.ver,.int x.prev,.int x.pep,.int x.grp,.int x.mode,.sl 1 (x.srcs.map AV.int) false]),.box (.agg [.int 0,.int 0,.sl 0 [] true]),.box (.agg [.int 0,.int 0,.int 0,.int 0,.int 0,.int 0,.int 0,.int 0,.int 0,.sl 0 [] true]),.box (.agg [.int l.router,.int l.epoch,.sl 0 [] true]),.box (.agg [.int t1.2.router,.int t1.2.epoch,.int t1.2.ver,.sl 4 (t1.2.items.map Itm.v) false])]⟩
def hearR_n2(l:Lsn)(x:Sig)(t0:Bool)(t1:Int×Hrd)(t2:Bool):NF:=⟨[(2,.k,.ref 0 0),(3,.k,.ref 1 0),(4,.k,.ref 2 0),(5,.k,.ref 3 0),(9,.k,.ref 4 0),(10,.k,.ref 5 0),(72,.k,.bool t2)],[.box (.agg [.int l.router,.int l.epoch,.sl 4 (l.heard.map Hrd.v) false]),.box (.agg [.int x.kind,.int x.src,.int x.dst,.int x.epoch,.int x.ver,.int x.prev,.int x.pep,.int x.grp,.int x.mode,.sl 1 (x.srcs.map AV.int) false]),.box (.agg [.int 0,.int 0,.sl 0 [] true]),.box (.agg [.int 0,.int 0,.int 0,.int 0,.int 0,.int 0,.int 0,.int 0,.int 0,.sl 0 [] true]),.box (.agg [.int l.router,.int l.epoch,.sl 0 [] true]),.box (.agg [.int t1.2.router,.int t1.2.epoch,.int t1.2.ver,.sl 4 (t1.2.items.map Itm.v) false])]⟩
def hearR_n3(l:Lsn)(x:Sig)(t0:Bool)(t1:Int×Hrd)(t2:Bool)(t3:Hrd):NF:=⟨[(2,.k,.ref 0 0),(3,.k,.ref 1 0),(4,.k,.ref 2 0),(5,.k,.ref 3 0),(9,.k,.ref 4 0),(10,.k,.ref 5 0)],[.box (.agg [.int l.router,.int l.epoch,.sl 4 (l.heard.map Hrd.v) false]),.box (.agg [.int x.kind,.int x.src,.int x.dst,.int x.epoch,.int x.ver,.int x.prev,.int x.pep,.int x.grp,.int x.mode,.sl 1 (x.srcs.map AV.int) false]),.box (.agg [.int 0,.int 0,.sl 0 [] true]),.box (.agg [.int 0,.int 0,.int 0,.int 0,.int 0,.int 0,.int 0,.int 0,.int 0,.sl 0 [] true]),.box (.agg [.int l.router,.int l.epoch,.sl 0 [] true]),.box (.agg [.int t3.router,.int t3.epoch,.int t3.ver,.sl 4 (t3.items.map Itm.v) false])]⟩
def hearR_n4(l:Lsn)(x:Sig)(t0:Bool)(t1:Int×Hrd)(t2:Bool)(t3:Hrd)(t4:Hrd):NF:=⟨[(2,.k,.ref 0 0),(3,.k,.ref 1 0),(4,.k,.ref 2 0),(5,.k,.ref 3 0),(9,.k,.ref 4 0),(10,.k,.ref 5 0)],[.box (.agg [.int l.router,.int l.epoch,.sl 4 (l.heard.map Hrd.v) false]),.box (.agg [.int x.kind,.int x.src,.int x.dst,.int x.epoch,.int x.ver,.int x.prev,.int x.pep,.int x.grp,.int x.mode,.sl 1 (x.srcs.map AV.int) false]),.box (.agg [.int 0,.int 0,.sl 0 [] true]),.box (.agg [.int 0,.int 0,.int 0,.int 0,.int 0,.int 0,.int 0,.int 0,.int 0,.sl 0 [] true]),.box (.agg [.int l.router,.int l.epoch,.sl 0 [] true]),.box (.agg [.int t4.router,.int t4.epoch,.int t4.ver,.sl 4 (t4.items.map Itm.v) false])]⟩
def hearR_n5(l:Lsn)(x:Sig)(t0:Bool)(t1:Int×Hrd)(t2:Bool)(t3:Hrd)(t5:Bool):NF:=⟨[(2,.k,.ref 0 0),(3,.k,.ref 1 0),(4,.k,.ref 2 0),(5,.k,.ref 3 0),(9,.k,.ref 4 0),(10,.k,.ref 5 0),(108,.k,.bool t5)],[.box (.agg [.int l.router,.int l.epoch,.sl 4 (l.heard.map Hrd.v) false]),.box (.agg [.int x.kind,.int x.src,.int x.dst,.int x.epoch,.int x.ver,.int x.prev,.int x.pep,.int x.grp,.int x.mode,.sl 1 (x.srcs.map AV.int) false]),.box (.agg [.int 0,.int 0,.sl 0 [] true]),.box (.agg [.int 0,.int 0,.int 0,.int 0,.int 0,.int 0,.int 0,.int 0,.int 0,.sl 0 [] true]),.box (.agg [.int l.router,.int l.epoch,.sl 0 [] true]),.box (.agg [.int t3.router,.int t3.epoch,.int t3.ver,.sl 4 (t3.items.map Itm.v) false])]⟩
def hearR_n6(l:Lsn)(x:Sig)(t0:Bool)(t1:Int×Hrd)(t2:Bool)(t3:Hrd)(t4:Hrd)(t6:Bool×Int×(List Hrd)):NF:=⟨[(2,.k,.ref 0 0),(3,.k,.ref 1 0),(4,.k,.ref 2 0),(5,.k,.ref 3 0),(9,.k,.ref 4 0),(10,.k,.ref 6 0),(13,.k,.bool t6.1),(124,.k,.sl 4 (l.heard.map Hrd.v) false),(125,.k,.int ((l.heard.map Hrd.v).length:Int)),(126,.k,.int t6.2.1)],[.box (.agg [.int l.router,.int l.epoch,.sl 4 (l.heard.map Hrd.v) false]),.box (.agg [.int x.kind,.int x.src,.int x.dst,.int x.epoch,.int x.ver,.int x.prev,.int x.pep,.int x.grp,.int x.mode,.sl 1 (x.srcs.map AV.int) false]),.box (.agg [.int 0,.int 0,.sl 0 [] true]),.box (.agg [.int 0,.int 0,.int 0,.int 0,.int 0,.int 0,.int 0,.int 0,.int 0,.sl 0 [] true]),.box (.agg [.int l.router,.int l.epoch,.vec 5]),.vec 4 (t6.2.2.map Hrd.v) (pureBL_map (fun _=>rfl) t6.2.2),.box (.agg [.int t4.router,.int t4.epoch,.int t4.ver,.sl 4 (t4.items.map Itm.v) false])]⟩
def hearR_n7(l:Lsn)(x:Sig)(t0:Bool)(t1:Int×Hrd)(t2:Bool)(t3:Hrd)(t4:Hrd)(t6:Bool×Int×(List Hrd))(x3:Hrd)(t7:Bool×(List Hrd)):NF:=⟨[(2,.k,.ref 0 0),(3,.k,.ref 1 0),(4,.k,.ref 2 0),(5,.k,.ref 3 0),(9,.k,.ref 4 0),(10,.k,.ref 6 0),(13,.k,.bool t7.1),(15,.k,.ref 7 0),(124,.k,.sl 4 (l.heard.map Hrd.v) false),(125,.k,.int ((l.heard.map Hrd.v).length:Int)),(126,.k,.int t6.2.1)],[.box (.agg [.int l.router,.int l.epoch,.sl 4 (l.heard.map Hrd.v) false]),.box (.agg [.int x.kind,.int x.src,.int x.dst,.int x.epoch,.int x.ver,.int x.prev,.int x.pep,.int x.grp,.int x.mode,.sl 1 (x.srcs.map AV.int) false]),.box (.agg [.int 0,.int 0,.sl 0 [] true]),.box (.agg [.int 0,.int 0,.int 0,.int 0,.int 0,.int 0,.int 0,.int 0,.int 0,.sl 0 [] true]),.box (.agg [.int l.router,.int l.epoch,.vec 5]),.vec 4 (t7.2.map Hrd.v) (pureBL_map (fun _=>rfl) t7.2),.box (.agg [.int t4.router,.int t4.epoch,.int t4.ver,.sl 4 (t4.items.map Itm.v) false]),.box (.agg [.int x3.router,.int x3.epoch,.int x3.ver,.sl 4 (x3.items.map Itm.v) false])]⟩
def hearR_n8(l:Lsn)(x:Sig)(t0:Bool)(t1:Int×Hrd)(t2:Bool)(t3:Hrd)(t4:Hrd)(t6:Bool×Int×(List Hrd))(x3:Hrd)(t8:Bool):NF:=⟨[(2,.k,.ref 0 0),(3,.k,.ref 1 0),(4,.k,.ref 2 0),(5,.k,.ref 3 0),(9,.k,.ref 4 0),(10,.k,.ref 6 0),(13,.k,.bool t6.1),(15,.k,.ref 7 0),(124,.k,.sl 4 (l.heard.map Hrd.v) false),(125,.k,.int ((l.heard.map Hrd.v).length:Int)),(126,.k,.int t6.2.1),(138,.k,.bool t8)],[.box (.agg [.int l.router,.int l.epoch,.sl 4 (l.heard.map Hrd.v) false]),.box (.agg [.int x.kind,.int x.src,.int x.dst,.int x.epoch,.int x.ver,.int x.prev,.int x.pep,.int x.grp,.int x.mode,.sl 1 (x.srcs.map AV.int) false]),.box (.agg [.int 0,.int 0,.sl 0 [] true]),.box (.agg [.int 0,.int 0,.int 0,.int 0,.int 0,.int 0,.int 0,.int 0,.int 0,.sl 0 [] true]),.box (.agg [.int l.router,.int l.epoch,.vec 5]),.vec 4 (t6.2.2.map Hrd.v) (pureBL_map (fun _=>rfl) t6.2.2),.box (.agg [.int t4.router,.int t4.epoch,.int t4.ver,.sl 4 (t4.items.map Itm.v) false]),.box (.agg [.int x3.router,.int x3.epoch,.int x3.ver,.sl 4 (x3.items.map Itm.v) false])]⟩
def hearR_n9(l:Lsn)(x:Sig)(t0:Bool)(t1:Int×Hrd)(t2:Bool)(t3:Hrd)(t4:Hrd)(t6:Bool×Int×(List Hrd))(t9:(List Hrd)):NF:=⟨[(2,.k,.ref 0 0),(3,.k,.ref 1 0),(4,.k,.ref 2 0),(5,.k,.ref 3 0),(9,.k,.ref 4 0),(10,.k,.ref 6 0)],[.box (.agg [.int l.router,.int l.epoch,.sl 4 (l.heard.map Hrd.v) false]),.box (.agg [.int x.kind,.int x.src,.int x.dst,.int x.epoch,.int x.ver,.int x.prev,.int x.pep,.int x.grp,.int x.mode,.sl 1 (x.srcs.map AV.int) false]),.box (.agg [.int 0,.int 0,.sl 0 [] true]),.box (.agg [.int 0,.int 0,.int 0,.int 0,.int 0,.int 0,.int 0,.int 0,.int 0,.sl 0 [] true]),.box (.agg [.int l.router,.int l.epoch,.vec 5]),.vec 4 (t9.map Hrd.v) (pureBL_map (fun _=>rfl) t9),.box (.agg [.int t4.router,.int t4.epoch,.int t4.ver,.sl 4 (t4.items.map Itm.v) false])]⟩
def hearR_s:Nat→Type
  | 0=>Bool
  | 1=>Int×Hrd
  | 2=>Bool
  | 3=>Hrd
  | 4=>Hrd
  | 5=>Bool
  | 6=>Bool×Int×(List Hrd)
  | 7=>Bool×(List Hrd)
  | 8=>Bool
  | 9=>(List Hrd)
  | _=>Unit
def hearR_e(r:Lsn×Sig×Int):AV:=.tup [Lsn.v r.1,Sig.v r.2.1,.int r.2.2]
def hearR_vc(l:Lsn)(x:Sig)(I0:Bool→Prop)(I1:Bool→(Int×Hrd)→Prop)(m1:Bool→(Int×Hrd)→Nat)(I2:Bool→Int×Hrd→Bool→Prop)(I3:Bool→Int×Hrd→Bool→Hrd→Prop)(I4:Bool→Int×Hrd→Bool→Hrd→Hrd→Prop)(I5:Bool→Int×Hrd→Bool→Hrd→Bool→Prop)(I6:Bool→Int×Hrd→Bool→Hrd→Hrd→(Bool×Int×(List Hrd))→Prop)(m6:Bool→Int×Hrd→Bool→Hrd→Hrd→(Bool×Int×(List Hrd))→Nat)(I7:Bool→Int×Hrd→Bool→Hrd→Hrd→Bool×Int×(List Hrd)→Hrd→(Bool×(List Hrd))→Prop)(I8:Bool→Int×Hrd→Bool→Hrd→Hrd→Bool×Int×(List Hrd)→Hrd→Bool→Prop)(I9:Bool→Int×Hrd→Bool→Hrd→Hrd→Bool×Int×(List Hrd)→(List Hrd)→Prop)(r0:Lsn×Sig×Int):Prop:=
 Cl (valLR_c l)
 (br ((valL l) != 0)
 (Rp hearR_e ((⟨0,0,[]⟩:Lsn),(⟨0,0,0,0,0,0,0,0,0,[]⟩:Sig),valL l) r0)
 (Cl (sigVR_c x)
 (br ((sigErr x) != 0)
 (Rp hearR_e ((⟨0,0,[]⟩:Lsn),(⟨0,0,0,0,0,0,0,0,0,[]⟩:Sig),sigErr x) r0)
 ((br (x.kind==3)
 (Be (hearR_n0 l x) [0,16,32,48] I0 (true))
 (Be (hearR_n0 l x) [0,16,32,48] I0 (x.dst != l.router)))∧∀t0:Bool,I0 t0 →
 br t0
 (Rp hearR_e ((⟨0,0,[]⟩:Lsn),(⟨0,0,0,0,0,0,0,0,0,[]⟩:Sig),1) r0)
 (Be (hearR_n1 l x t0) [0,1,2,3,84,164] (I1 t0) (0,(⟨x.src,0,0,[]⟩:Hrd))∧∀t1,I1 t0 t1 →
 br (decide (t1.1<((l.heard.map Hrd.v).length:Int)))
 (Rf (l.heard.map Hrd.v) (ck (decide (0≤t1.1)) (ck (decide (t1.1<(l.heard.length:Int)))
 (∀x1,l.heard[t1.1.toNat]?=some x1 →
 br (x1.router==x.src)
 (Bk (hearR_n1 l x t0) [0,1,2,3,4,5] (I1 t0) (m1 t0) (W (t1.1+1),x1) t1)
 (Bk (hearR_n1 l x t0) [0,1,2,3,4,5] (I1 t0) (m1 t0) (W (t1.1+1),t1.2) t1)))))
 ((br (t1.2.epoch==0)
 (Be (hearR_n2 l x t0 t1) [0,1,2,3,4,5] (I2 t0 t1) (decide (12≤((l.heard.map Hrd.v).length:Int))))
 (Be (hearR_n2 l x t0 t1) [0,1,2,3,4,5] (I2 t0 t1) (false)))∧∀t2:Bool,I2 t0 t1 t2 →
 br t2
 (Rp hearR_e ((⟨0,0,[]⟩:Lsn),(⟨0,0,0,0,0,0,0,0,0,[]⟩:Sig),3) r0)
 ((br (decide (t1.2.epoch<x.epoch))
 (Be (hearR_n3 l x t0 t1 t2) [0,1,2,3,4,5] (I3 t0 t1 t2) ((⟨x.src,x.epoch,0,[]⟩:Hrd)))
 (Be (hearR_n3 l x t0 t1 t2) [0,1,2,3,4,5] (I3 t0 t1 t2) (t1.2)))∧∀t3:Hrd,I3 t0 t1 t2 t3 →
 ((br (x.kind==2)
 (br (x.epoch==t3.epoch)
 (br (decide (x.prev≤t3.ver))
 (Be (hearR_n5 l x t0 t1 t2 t3) [0,1,2,3,4,5] (I5 t0 t1 t2 t3) (decide (t3.ver<x.ver)))
 (Be (hearR_n5 l x t0 t1 t2 t3) [0,1,2,3,4,5] (I5 t0 t1 t2 t3) (false)))
 (Be (hearR_n5 l x t0 t1 t2 t3) [0,1,2,3,4,5] (I5 t0 t1 t2 t3) (false)))
 (Be (hearR_n5 l x t0 t1 t2 t3) [0,1,2,3,4,5] (I5 t0 t1 t2 t3) (false)))∧∀t5:Bool,I5 t0 t1 t2 t3 t5 →
 br t5
 (∃h2:t3.items.length≤999999,
 Cl (putR_c t3.items (⟨x.ver,x.grp,x.mode,x.srcs⟩:Itm) h2)
 (Be (hearR_n4 l x t0 t1 t2 t3) [0,1,2,3,4,5] (I4 t0 t1 t2 t3) ((⟨t3.router,t3.epoch,x.ver,put1 t3.items (⟨x.ver,x.grp,x.mode,x.srcs⟩:Itm)⟩:Hrd))))
 (Be (hearR_n4 l x t0 t1 t2 t3) [0,1,2,3,4,5] (I4 t0 t1 t2 t3) (t3)))∧∀t4:Hrd,I4 t0 t1 t2 t3 t4 →
 Be (hearR_n6 l x t0 t1 t2 t3 t4) [0,1,2,3,4,86,5] (I6 t0 t1 t2 t3 t4) (false,0,[])∧∀t6,I6 t0 t1 t2 t3 t4 t6 →
 br (decide (t6.2.1<((l.heard.map Hrd.v).length:Int)))
 (Rf (l.heard.map Hrd.v) (ck (decide (0≤t6.2.1)) (ck (decide (t6.2.1<(l.heard.length:Int)))
 (∀x3,l.heard[t6.2.1.toNat]?=some x3 →
 ((br (!t6.1)
 (Be (hearR_n8 l x t0 t1 t2 t3 t4 t6 x3) [0,1,2,3,4,5,6,55] (I8 t0 t1 t2 t3 t4 t6 x3) (decide (x.src≤x3.router)))
 (Be (hearR_n8 l x t0 t1 t2 t3 t4 t6 x3) [0,1,2,3,4,5,6,55] (I8 t0 t1 t2 t3 t4 t6 x3) (false)))∧∀t8:Bool,I8 t0 t1 t2 t3 t4 t6 x3 t8 →
 br t8
 (Rf (α:=List AV) (t6.2.2.map Hrd.v) (Rf (α:=List AV) [.agg [.int t4.router,.int t4.epoch,.int t4.ver,.sl 4 (t4.items.map Itm.v) false]]
 (ck (decide (t6.2.2.length+1≤1000000))
 (Be (hearR_n7 l x t0 t1 t2 t3 t4 t6 x3) [0,1,2,3,4,72,6,7] (I7 t0 t1 t2 t3 t4 t6 x3) (true,t6.2.2++[t4])))))
 (Be (hearR_n7 l x t0 t1 t2 t3 t4 t6 x3) [0,1,2,3,4,5,6,7] (I7 t0 t1 t2 t3 t4 t6 x3) (t6.1,t6.2.2)))∧∀t7:Bool×(List Hrd),I7 t0 t1 t2 t3 t4 t6 x3 t7 →
 br (x3.router != x.src)
 (Rf (α:=List AV) (t7.2.map Hrd.v) (Rf (α:=List AV) [.agg [.int x3.router,.int x3.epoch,.int x3.ver,.sl 4 (x3.items.map Itm.v) false]]
 (ck (decide (t7.2.length+1≤1000000))
 (Bk (hearR_n6 l x t0 t1 t2 t3 t4) [0,1,2,3,4,152,6] (I6 t0 t1 t2 t3 t4) (m6 t0 t1 t2 t3 t4) (t7.1,W (t6.2.1+1),t7.2++[x3]) t6))))
 (Bk (hearR_n6 l x t0 t1 t2 t3 t4) [0,1,2,3,4,5,6] (I6 t0 t1 t2 t3 t4) (m6 t0 t1 t2 t3 t4) (t7.1,W (t6.2.1+1),t7.2) t6)))))
 ((br (!t6.1)
 (Rf (α:=List AV) (t6.2.2.map Hrd.v) (Rf (α:=List AV) [.agg [.int t4.router,.int t4.epoch,.int t4.ver,.sl 4 (t4.items.map Itm.v) false]]
 (ck (decide (t6.2.2.length+1≤1000000))
 (Be (hearR_n9 l x t0 t1 t2 t3 t4 t6) [0,1,2,3,4,119,6] (I9 t0 t1 t2 t3 t4 t6) (t6.2.2++[t4])))))
 (Be (hearR_n9 l x t0 t1 t2 t3 t4 t6) [0,1,2,3,4,5,6] (I9 t0 t1 t2 t3 t4 t6) (t6.2.2)))∧∀t9:(List Hrd),I9 t0 t1 t2 t3 t4 t6 t9 →
 Rf (t9.map Hrd.v) (Rp hearR_e ((⟨l.router,l.epoch,t9⟩:Lsn),(⟨3,l.router,x.src,t4.epoch,t4.ver,0,l.epoch,0,0,[]⟩:Sig),0) r0)))))))))
theorem hearR_ok(l:Lsn)(x:Sig)(I0:Bool→Prop)(I1:Bool→(Int×Hrd)→Prop)(m1:Bool→(Int×Hrd)→Nat)(I2:Bool→Int×Hrd→Bool→Prop)(I3:Bool→Int×Hrd→Bool→Hrd→Prop)(I4:Bool→Int×Hrd→Bool→Hrd→Hrd→Prop)(I5:Bool→Int×Hrd→Bool→Hrd→Bool→Prop)(I6:Bool→Int×Hrd→Bool→Hrd→Hrd→(Bool×Int×(List Hrd))→Prop)(m6:Bool→Int×Hrd→Bool→Hrd→Hrd→(Bool×Int×(List Hrd))→Nat)(I7:Bool→Int×Hrd→Bool→Hrd→Hrd→Bool×Int×(List Hrd)→Hrd→(Bool×(List Hrd))→Prop)(I8:Bool→Int×Hrd→Bool→Hrd→Hrd→Bool×Int×(List Hrd)→Hrd→Bool→Prop)(I9:Bool→Int×Hrd→Bool→Hrd→Hrd→Bool×Int×(List Hrd)→(List Hrd)→Prop)(r0:Lsn×Sig×Int)(h:hearR_vc l x I0 I1 m1 I2 I3 I4 I5 I6 m6 I7 I8 I9 r0):PSpec Tryz.prog 54 [.agg [.int l.router,.int l.epoch,.sl 4 (l.heard.map Hrd.v) false],.agg [.int x.kind,.int x.src,.int x.dst,.int x.epoch,.int x.ver,.int x.prev,.int x.pep,.int x.grp,.int x.mode,.sl 1 (x.srcs.map AV.int) false]] (hearR_e r0):=mxP_of (sh:=(.a [(.a [.k,.k,(.s 4)]),(.a [.k,.k,.k,.k,.k,.k,.k,.k,.k,(.s 1)]),.k])) (a:=((.callP (valLR_c l)
 (.br 160 (.ret ((⟨0,0,[]⟩:Lsn),(⟨0,0,0,0,0,0,0,0,0,[]⟩:Sig),valL l))
 (.callP (sigVR_c x)
 (.br 240 (.ret ((⟨0,0,[]⟩:Lsn),(⟨0,0,0,0,0,0,0,0,0,[]⟩:Sig),sigErr x))
 (.pass (.join 0 (hearR_n0 l x) (fun t0=>I0 t0) (.br 304 (.back 0 ((true):Bool) [0,16,32,48])
 (.back 0 ((x.dst != l.router):Bool) [0,16,32,48])) fun (t0:Bool) =>
 (.br 4 (.ret ((⟨0,0,[]⟩:Lsn),(⟨0,0,0,0,0,0,0,0,0,[]⟩:Sig),1))
 (.cmdL (.wkB 164 (.a [.k,.k,.k,.s 4])) (.loop 1 (hearR_n1 l x t0) (I1 t0) (m1 t0) ((0,(⟨x.src,0,0,[]⟩:Hrd)):Int×Hrd) [0,1,2,3,84,164] fun (t1:Int×Hrd) =>
 (.br 22 (.el 22 Hrd.v l.heard fun x1 =>
 (.br 166 (.back 1 ((W (t1.1+1),x1):Int×Hrd) [0,1,2,3,4,5])
 (.back 1 ((W (t1.1+1),t1.2):Int×Hrd) [0,1,2,3,4,5])))
 (.pass (.join 2 (hearR_n2 l x t0 t1) (fun t2=>I2 t0 t1 t2) (.br 86 (.back 2 ((decide (12≤((l.heard.map Hrd.v).length:Int))):Bool) [0,1,2,3,4,5])
 (.back 2 ((false):Bool) [0,1,2,3,4,5])) fun (t2:Bool) =>
 (.br 6 (.ret ((⟨0,0,[]⟩:Lsn),(⟨0,0,0,0,0,0,0,0,0,[]⟩:Sig),3))
 (.join 3 (hearR_n3 l x t0 t1 t2) (fun t3=>I3 t0 t1 t2 t3) (.br 86 (.cmdL (.wkB 5 (.a [.k,.k,.k,.s 4])) (.back 3 (((⟨x.src,x.epoch,0,[]⟩:Hrd)):Hrd) [0,1,2,3,4,5]))
 (.back 3 ((t1.2):Hrd) [0,1,2,3,4,5])) fun (t3:Hrd) =>
 (.join 4 (hearR_n4 l x t0 t1 t2 t3) (fun t4=>I4 t0 t1 t2 t3 t4) (.join 5 (hearR_n5 l x t0 t1 t2 t3) (fun t5=>I5 t0 t1 t2 t3 t5) (.br 70 (.br 182 (.br 294 (.back 5 ((decide (t3.ver<x.ver)):Bool) [0,1,2,3,4,5])
 (.back 5 ((false):Bool) [0,1,2,3,4,5]))
 (.back 5 ((false):Bool) [0,1,2,3,4,5]))
 (.back 5 ((false):Bool) [0,1,2,3,4,5])) fun (t5:Bool) =>
 (.br 6 (.req 150 (t3.items.length≤999999) fun h2 =>
 (.callP (putR_c t3.items (⟨x.ver,x.grp,x.mode,x.srcs⟩:Itm) h2)
 (.back 4 (((⟨t3.router,t3.epoch,x.ver,put1 t3.items (⟨x.ver,x.grp,x.mode,x.srcs⟩:Itm)⟩:Hrd)):Hrd) [0,1,2,3,4,5])))
 (.back 4 ((t3):Hrd) [0,1,2,3,4,5]))) fun (t4:Hrd) =>
 (.cmdL (.nilB 4 2 4) (.loop 6 (hearR_n6 l x t0 t1 t2 t3 t4) (I6 t0 t1 t2 t3 t4) (m6 t0 t1 t2 t3 t4) ((false,0,[]):Bool×Int×(List Hrd)) [0,1,2,3,4,86,5] fun (t6:Bool×Int×(List Hrd)) =>
 (.br 23 (.el 23 Hrd.v l.heard fun x3 =>
 (.join 7 (hearR_n7 l x t0 t1 t2 t3 t4 t6 x3) (fun t7=>I7 t0 t1 t2 t3 t4 t6 x3 t7) (.join 8 (hearR_n8 l x t0 t1 t2 t3 t4 t6 x3) (fun t8=>I8 t0 t1 t2 t3 t4 t6 x3 t8) (.br 135 (.back 8 ((decide (x.src≤x3.router)):Bool) [0,1,2,3,4,5,6,55])
 (.back 8 ((false):Bool) [0,1,2,3,4,5,6,55])) fun (t8:Bool) =>
 (.br 8 (.app 72 Hrd.v t6.2.2 [t4]
 (.back 7 ((true,t6.2.2++[t4]):Bool×(List Hrd)) [0,1,2,3,4,72,6,7]))
 (.back 7 ((t6.1,t6.2.2):Bool×(List Hrd)) [0,1,2,3,4,5,6,7]))) fun (t7:Bool×(List Hrd)) =>
 (.br 88 (.app 152 Hrd.v t7.2 [x3]
 (.back 6 ((t7.1,W (t6.2.1+1),t7.2++[x3]):Bool×Int×(List Hrd)) [0,1,2,3,4,152,6]))
 (.back 6 ((t7.1,W (t6.2.1+1),t7.2):Bool×Int×(List Hrd)) [0,1,2,3,4,5,6]))))
 (.join 9 (hearR_n9 l x t0 t1 t2 t3 t4 t6) (fun t9=>I9 t0 t1 t2 t3 t4 t6 t9) (.br 55 (.app 119 Hrd.v t6.2.2 [t4]
 (.back 9 ((t6.2.2++[t4]):(List Hrd)) [0,1,2,3,4,119,6]))
 (.back 9 ((t6.2.2):(List Hrd)) [0,1,2,3,4,5,6])) fun (t9:(List Hrd)) =>
 (.cmdL (.frzE 5 (t9.map Hrd.v) (pureBL_map (fun _=>rfl) t9)) (.ret ((⟨l.router,l.epoch,t9⟩:Lsn),(⟨3,l.router,x.src,t4.epoch,t4.ver,0,l.epoch,0,0,[]⟩:Sig),0)))))))))))))))))))))):An Tryz.prog hearR_s (Lsn×Sig×Int))) h (by kernel_rfl) (AV.pureB_ok rfl)
theorem hearR_p(l:Lsn)(x:Sig)(ok:hearR_a l x):∃I0 I1 m1 I2 I3 I4 I5 I6 m6 I7 I8 I9,hearR_vc l x I0 I1 m1 I2 I3 I4 I5 I6 m6 I7 I8 I9 ((hear l x).1.1,(hear l x).1.2,(hear l x).2):=by
  refine ⟨fun b=>b=decide (x.kind=3∨x.dst≠l.router),fun b t=>∃k:Nat,t.1=k∧k≤l.heard.length∧t.2=gOf (l.heard.take k) x.src,fun b t=>l.heard.length-t.1.toNat,
    fun b t c=>c=decide (t.2.epoch=0∧12≤l.heard.length),fun b t c h=>h=hear0 t.2 x,fun b t c h h'=>h'=hear1 h x,fun b t c h d=>d=decide (x.kind=2∧x.epoch=h.epoch∧x.prev≤h.ver∧h.ver<x.ver),
    fun b t c h h' u=>∃k:Nat,u.2.1=k∧k≤l.heard.length∧u.1=decide (posH l.heard x.src<k)∧u.2.2=bld l.heard x.src h' k,fun b t c h h' u=>l.heard.length-u.2.1.toNat,
    fun b t c h h' u y w=>w=(decide (posH l.heard x.src<u.2.1.toNat+1),bld l.heard x.src h' u.2.1.toNat++if posH l.heard x.src=u.2.1.toNat then [h'] else []),fun b t c h h' u y d=>d=decide (posH l.heard x.src=u.2.1.toNat),
    fun b t c h h' u w=>w=bld l.heard x.src h' l.heard.length++if posH l.heard x.src<l.heard.length then [] else [h'],?_⟩
  simp only [hearR_vc,vcU,rfU,List.length_map]
  have hv:valL l=if lsnOk l then 0 else 1:=rfl
  rw [hv]
  unfold hear
  by_cases hs:lsnOk l
  case neg=>rw [if_neg hs,if_pos hs];simp [lsn0,sig0]
  have ho:=hs.2.2.2.2
  have hl:=hs.2.2.1
  rw [if_pos hs,if_neg (not_not_intro hs)]
  refine ⟨fun e=>by simp at e,fun _=>⟨fun e=>?_,fun e=>⟨⟨fun k=>?_,fun k=>?_⟩,fun b hb=>⟨fun c=>?_,fun c=>⟨⟨0,rfl,by omega,(gOf_no List.Pairwise.nil (by simp)).symm⟩,?_⟩⟩⟩⟩⟩
  · rw [if_pos (by simpa using e)];rfl
  · exact (decide_eq_true (.inl (by simpa using k))).symm
  · have k:¬x.kind=3:=by simpa using k
    by_cases q:x.dst=l.router<;>simp [q,k]
  · subst hb
    rw [if_neg (by simpa using e),if_pos (by simpa using c)];rfl
  · subst hb
    have c:¬(x.kind=3∨x.dst≠l.router):=by simpa using c
    rw [if_neg (by simpa using e),if_neg c]
    rintro ⟨_,_⟩ ⟨k,rfl,hk,rfl⟩
    simp only [Int.toNat_natCast]
    refine ⟨fun h1=>⟨by omega,by omega,fun y hy=>?_⟩,fun h1=>?_⟩
    · rw [W_succ (n:=l.heard.length) (by omega) (by omega)]
      have:=gOf_take (r:=x.src) ho hy
      refine ⟨fun q=>⟨⟨k+1,rfl,by omega,?_⟩,by omega⟩,fun q=>⟨⟨k+1,rfl,by omega,?_⟩,by omega⟩⟩
      · rw [this,if_pos (by simpa using q)]
      · rw [this,if_neg (by simpa using q)]
    rw [List.take_of_length_le (by omega)]
    have hg:=gOf_router (r:=x.src) ho
    have hep:(gOf l.heard x.src).epoch=0↔¬hitH l.heard x.src:=by
      rw [hitH_iff ho]
      by_cases hh:∃z∈l.heard,z.router=x.src
      · obtain ⟨z,hz,hzr⟩:=hh
        have:gOf l.heard x.src=z:=by rw [←hzr];exact gOf_mem ho hz
        rw [this]
        have:=(hs.2.2.2.1 z hz).2.2.1
        exact ⟨fun q=>by omega,fun q=>absurd ⟨z,hz,hzr⟩ q⟩
      · rw [gOf_no ho hh];simp [hh]
    have hH:hearH l.heard x=hear1 (hear0 (gOf l.heard x.src) x) x:=rfl
    refine ⟨⟨fun q=>?_,fun q=>?_⟩,fun c2 hc2=>⟨fun q=>?_,fun q=>⟨⟨fun q2=>?_,fun q2=>?_⟩,?_⟩⟩⟩
    · have q:(gOf l.heard x.src).epoch=0:=by simpa using q
      simp [q];omega
    · have q:¬(gOf l.heard x.src).epoch=0:=by simpa using q
      simp [q]
    · subst hc2
      have q:(gOf l.heard x.src).epoch=0∧12≤l.heard.length:=by simpa using q
      rw [if_pos ⟨hep.mp q.1,by omega⟩];rfl
    · unfold hear0;rw [if_pos q2]
    · unfold hear0;rw [if_neg q2]
    · subst hc2
      have q:¬((gOf l.heard x.src).epoch=0∧12≤l.heard.length):=by simpa using q
      rw [if_neg fun z=>q ⟨hep.mpr z.1,by omega⟩]
      rintro _ rfl
      have hi:(hear0 (gOf l.heard x.src) x).items.length≤999999:=by
        unfold hear0
        split
        · simp
        · have:=itms_len (gOf_ok hs x.src).1;omega
      generalize hh0:hear0 (gOf l.heard x.src) x=h0 at *
      refine ⟨⟨⟨fun a1=>⟨fun a2=>⟨fun a3=>?_,fun a3=>?_⟩,fun a2=>?_⟩,fun a1=>?_⟩,fun d hd=>⟨fun a=>⟨hi,?_⟩,fun a=>?_⟩⟩,?_⟩
      · have a1:x.kind=2:=by simpa using a1
        have a2:x.epoch=h0.epoch:=by simpa using a2
        exact decide_eq_decide.mpr ⟨fun z=>⟨a1,a2,a3,z⟩,fun z=>z.2.2.2⟩
      · exact nodec fun z=>a3 z.2.2.1
      · exact nodec fun z=>by simp [z.2.1] at a2
      · exact nodec fun z=>by simp [z.1] at a1
      · subst hd
        unfold hear1;rw [if_pos (by simpa using a)];rfl
      · subst hd
        unfold hear1;rw [if_neg (by simpa using a)]
      · rintro _ rfl
        have hr:(hear1 h0 x).router=x.src:=by
          have:=hearG_router (g:=gOf l.heard x.src) (x:=x) hg
          unfold hearG at this
          rw [hh0] at this;exact this
        generalize hh1:hear1 h0 x=h1' at *
        refine ⟨⟨0,rfl,by omega,by simp,by simp [bld]⟩,?_⟩
        rintro ⟨_,_,_⟩ ⟨j,rfl,hj,rfl,rfl⟩
        simp only [Int.toNat_natCast]
        have hbl:=bld_len (l:=l.heard) (r:=x.src) (h:=h1') (k:=j)
        refine ⟨fun b1=>⟨by omega,by omega,fun y hy=>⟨⟨⟨fun b2=>?_,fun b2=>?_⟩,fun d hd=>⟨fun b3=>⟨by omega,?_⟩,fun b3=>?_⟩⟩,?_⟩⟩,fun b1=>⟨⟨fun b2=>⟨by omega,?_⟩,fun b2=>?_⟩,?_⟩⟩
        · obtain ⟨s1,s2⟩:=bld_succ (r:=x.src) (h:=h1') ho hy
          have b2:¬posH l.heard x.src<j:=by simpa using b2
          rw [decide_eq_decide,s1]
          exact ⟨fun z=>⟨b2,z⟩,fun z=>z.2⟩
        · have b2:posH l.heard x.src<j:=by simpa using b2
          exact nodec (by omega)
        · subst hd
          have b3:posH l.heard x.src=j:=by simpa using b3
          rw [if_pos b3,decide_eq_true (show posH l.heard x.src<j+1 by omega)]
        · subst hd
          have b3:¬posH l.heard x.src=j:=by simpa using b3
          rw [if_neg b3,List.append_nil]
          congr 1
          exact decide_eq_decide.mpr (by omega)
        · rintro _ rfl
          obtain ⟨s1,s2⟩:=bld_succ (r:=x.src) (h:=h1') ho hy
          rw [W_succ (n:=l.heard.length) (by omega) (by omega)]
          refine ⟨fun z=>⟨?_,⟨j+1,rfl,by omega,rfl,?_⟩,by omega⟩,fun z=>⟨⟨j+1,rfl,by omega,rfl,?_⟩,by omega⟩⟩
          · have:(if posH l.heard x.src=j then [h1'] else []).length≤1:=by split<;>simp
            rw [List.length_append];omega
          · rw [s2,if_pos (c:=y.router≠x.src) (by simpa using z),List.append_assoc]
          · rw [s2,if_neg (c:=y.router≠x.src) (by simpa using z),List.append_nil]
        · have b2:¬posH l.heard x.src<j:=by simpa using b2
          have:j=l.heard.length:=by omega
          subst this
          rw [if_neg b2]
        · have b2:posH l.heard x.src<j:=by simpa using b2
          have:j=l.heard.length:=by omega
          subst this
          rw [if_pos b2,List.append_nil]
        · rintro _ rfl
          rw [bld_fin ho hr,hH]
def hearR_c(l:Lsn)(x:Sig):PC Tryz.prog:=⟨54,[(.a [.k,.k,(.s 4)]),(.a [.k,.k,.k,.k,.k,.k,.k,.k,.k,(.s 1)])],[.agg [.int l.router,.int l.epoch,.sl 4 (l.heard.map Hrd.v) false],.agg [.int x.kind,.int x.src,.int x.dst,.int x.epoch,.int x.ver,.int x.prev,.int x.pep,.int x.grp,.int x.mode,.sl 1 (x.srcs.map AV.int) false]],hearR_e ((hear l x).1.1,(hear l x).1.2,(hear l x).2),PSpec.of_ok fun ok=>(hearR_p l x ok).elim fun I0 h=>h.elim fun I1 h=>h.elim fun m1 h=>h.elim fun I2 h=>h.elim fun I3 h=>h.elim fun I4 h=>h.elim fun I5 h=>h.elim fun I6 h=>h.elim fun m6 h=>h.elim fun I7 h=>h.elim fun I8 h=>h.elim fun I9 h=>hearR_ok l x I0 I1 m1 I2 I3 I4 I5 I6 m6 I7 I8 I9 _ h,fnB_ok (by kernel_rfl)⟩
end Go.Proofs.YtgnogboljobocaaGreatDoor

namespace Go.Proofs.YtgnogboljobocaaGreatDoor
open Go Go.Am
set_option linter.unusedVariables false
set_option linter.unusedSimpArgs false
def stepT(L:List Int)(p:Nat)(s:Spk):Spk×Nat:=
  if Mod (rawV L (chgT L p).2) 8=7 then
    (if (restart s (wantsT L (rawP L (chgT L p).2)).1).2≠0 then s else (restart s (wantsT L (rawP L (chgT L p).2)).1).1,(wantsT L (rawP L (chgT L p).2)).2)
  else (if (change s (chgT L p).1).2≠0 then s else (change s (chgT L p).1).1,rawP L (chgT L p).2)
theorem stepT_k{L:List Int}{p:Nat}{s:Spk}(h:spkOk s):spkOk (stepT L p s).1:=by
  unfold stepT
  split
  · simp only
    split
    · exact h
    · rename_i q;exact restart_spkOk (by simpa using q)
  · simp only
    split
    · exact h
    · rename_i q;exact change_spkOk (by simpa using q)
def stepN(L:List Int):Nat→Spk×Nat→Spk×Nat
  | 0,s=>s
  | n+1,s=>stepN L n (stepT L s.2 s.1)
theorem stepN_k{L:List Int}:∀{n:Nat} {s:Spk×Nat},spkOk s.1→spkOk (stepN L n s).1
  | 0,_,h=>h
  | n+1,_,h=>stepN_k (n:=n) (stepT_k h)
def per1(L:List Int)(last:Int)(x:Per)(p:Nat):Per×Nat:=
  if Mod (rawV L p) 2=0 then (⟨x.router,rng L (rawP L p) 0 3,Mod (rawV L (rawP L (rawP L p))) (W (last+1))⟩,rawP L (rawP L (rawP L p))) else (x,rawP L p)
def perN(L:List Int)(last:Int):List Per→Nat→List Per×Nat
  | [],p=>([],p)
  | x::l,p=>((per1 L last x p).1::(perN L last l (per1 L last x p).2).1,(perN L last l (per1 L last x p).2).2)
theorem perN_len{L:List Int}{last:Int}:∀{l:List Per} {p:Nat},(perN L last l p).1.length=l.length
  | [],_=>rfl
  | x::l,p=>by simp [perN,perN_len (l:=l)]
theorem perN_append{L:List Int}{last:Int}{m:List Per}:∀{l:List Per} {p:Nat},
    perN L last (l++m) p=((perN L last l p).1++(perN L last m (perN L last l p).2).1,(perN L last m (perN L last l p).2).2)
  | [],_=>rfl
  | x::l,p=>by simp [perN,perN_append (l:=l)]
theorem per1_router{L:List Int}{last:Int}{x:Per}{p:Nat}:(per1 L last x p).1.router=x.router:=by unfold per1;split<;>rfl
theorem perN_routers{L:List Int}{last:Int}:∀{l:List Per} {p:Nat},(perN L last l p).1.map Per.router=l.map Per.router
  | [],_=>rfl
  | x::l,p=>by simp [perN,perN_routers (l:=l),per1_router]
theorem per1_ok{L:List Int}{r last:Int}{x:Per}{p:Nat}(h0:0≤last∧last≤1000000)(h:perOk r last x):perOk r last (per1 L last x p).1:=by
  unfold per1
  split
  · obtain ⟨h1,h2,h3,h4⟩:=h
    have a:=rng_in (L:=L) (p:=rawP L p) (lo:=0) (hi:=3) (by omega)
    rw [W_eq (by omega)]
    have b:=Mod_range (x:=rawV L (rawP L (rawP L p))) (n:=last+1) (by omega)
    exact ⟨h1,h2,⟨by simp only;omega,by simp only;omega⟩,by simp only;omega,by simp only;omega⟩
  · exact h
theorem perN_ok{L:List Int}{r last:Int}(h0:0≤last∧last≤1000000):∀{l:List Per} {p:Nat},(∀x∈l,perOk r last x)→∀x∈(perN L last l p).1,perOk r last x
  | [],_,_,_,hx=>by simp [perN] at hx
  | y::l,p,h,x,hx=>by
    rcases List.mem_cons.mp hx with rfl | hx
    · exact per1_ok h0 (h y (by simp))
    · exact perN_ok h0 (fun z hz=>h z (by simp [hz])) x hx
def spk1(L:List Int)(p:Nat):Spk:=
  (new (rng L p 1 4) (pickI [1,1,5,999999] (rawV L (rawP L p))) (([7,8,9]:List Int).take (rng L (rawP L (rawP L p)) 0 3).toNat)).1
def spk2(L:List Int)(p:Nat):Spk×Nat:=
  stepN L (Mod (rawV L (rawP L (rawP L (rawP L p)))) 6).toNat (spk1 L p,rawP L (rawP L (rawP L (rawP L p))))
def spkT(L:List Int)(p:Nat):Spk×Nat:=
  (⟨(spk2 L p).1.router,(spk2 L p).1.epoch,(spk2 L p).1.last,(spk2 L p).1.items,(perN L (spk2 L p).1.last (spk2 L p).1.peers (spk2 L p).2).1⟩,(perN L (spk2 L p).1.last (spk2 L p).1.peers (spk2 L p).2).2)
theorem perOk_old{r:Int}(h:1≤r∧r≤4):∀x∈([7,8,9]:List Int),perOk r 0 ⟨x,0,0⟩:=by
  intro x hx
  simp at hx
  rcases hx with rfl | rfl | rfl<;>exact ⟨by decide,by simp only;omega,by decide,by decide⟩
theorem spk1_ok{L:List Int}{p:Nat}:spkOk (spk1 L p):=by
  have h1:=rng_in (L:=L) (p:=p) (lo:=1) (hi:=4) (by omega)
  have h2:pickI [1,1,5,999999] (rawV L (rawP L p))∈([1,1,5,999999]:List Int):=pickI_mem (by simp) _
  have h3:1≤pickI [1,1,5,999999] (rawV L (rawP L p))∧pickI [1,1,5,999999] (rawV L (rawP L p))≤1000000:=by
    generalize pickI [1,1,5,999999] (rawV L (rawP L p))=z at *
    simp at h2
    omega
  unfold spk1
  generalize pickI [1,1,5,999999] (rawV L (rawP L p))=k at *
  generalize rng L p 1 4=r at *
  generalize (rng L (rawP L (rawP L p)) 0 3).toNat=n
  have ok:spkOk ⟨r,k,0,[],(([7,8,9]:List Int).take n).map fun x=>⟨x,0,0⟩⟩:=by
    refine ⟨by simp only;omega,h3,⟨Int.le_refl _,by simp⟩,⟨by simp,by simp,by simp⟩,?_,?_,?_⟩
    · simp only [List.length_map,List.length_take,List.length_cons,List.length_nil];omega
    · intro q hq
      obtain ⟨x,hx,rfl⟩:=List.mem_map.mp hq
      exact perOk_old h1 x (List.mem_of_mem_take hx)
    · rw [List.pairwise_map]
      exact List.Pairwise.take (by decide)
  have e:new r k (([7,8,9]:List Int).take n)=if spkOk ⟨r,k,0,[],(([7,8,9]:List Int).take n).map fun x=>⟨x,0,0⟩⟩ then (⟨r,k,0,[],(([7,8,9]:List Int).take n).map fun x=>⟨x,0,0⟩⟩,0) else (spk0,1):=rfl
  rw [e,if_pos ok]
  exact ok
theorem spk2_ok{L:List Int}{p:Nat}:spkOk (spk2 L p).1:=stepN_k spk1_ok
theorem spkT_k{L:List Int}{p:Nat}:spkOk (spkT L p).1:=by
  obtain ⟨h1,h2,h3,h4,h5,h6,h7⟩:=spk2_ok (L:=L) (p:=p)
  refine ⟨h1,h2,h3,h4,by simpa [spkT,perN_len] using h5,perN_ok h3 h6,?_⟩
  have e:(perN L (spk2 L p).1.last (spk2 L p).1.peers (spk2 L p).2).1.map Per.router=(spk2 L p).1.peers.map Per.router:=perN_routers
  rw [←List.pairwise_map (f:=Per.router) (R:=(·<·))] at h7
  show List.Pairwise _ (perN L (spk2 L p).1.last (spk2 L p).1.peers (spk2 L p).2).1
  rw [←List.pairwise_map (f:=Per.router) (R:=(·<·)),e]
  exact h7
end Go.Proofs.YtgnogboljobocaaGreatDoor
