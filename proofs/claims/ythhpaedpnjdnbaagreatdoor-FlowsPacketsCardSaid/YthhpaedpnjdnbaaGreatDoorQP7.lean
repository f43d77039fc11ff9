/- Texts joined: G16 U5 U8 U20 U9 U10 U11 U21 U19 U23 U13 G18 G19 U15 G20 G21. -/
import Derived.Test.YthhpaedpnjdnbaaGreatDoorSh
import Derived.Test.YthhpaedpnjdnbaaGreatDoorChecked
import Derived.Test.YthhpaedpnjdnbaaGreatDoorQP6
set_option linter.unusedVariables false
set_option linter.unusedSimpArgs false
namespace Go.Proofs.YthhpaedpnjdnbaaGreatDoor
open Go Go.Am
open Go.Shelf Go.RowKit Go.Lib Go.Sort in
theorem cmpW_calls(a b:Int)(x1 x2 y1 y2:Value)(w:World)(hx:x1.oneCell'=true∧x2.oneCell'=true)(hy:y1.oneCell'=true∧y2.oneCell'=true) :
  Calls Tryz.prog 137 #[.agg #[.int .i64 a,x1,x2],.agg #[.int .i64 b,y1,y2]] w fun e w'=>e=.returned (.int .i64 (Lib.compareInt a b))∧∃q os',w'=grow (w.drewN q) os':=by
 have hcon:=fun W'=>AnyG.cmp_Compare_int Tryz.cmpI a b W'
 change ∀W',Calls Tryz.prog 132 _ _ _ at hcon
 generalize Lib.compareInt a b=r at hcon ⊢
 go_enter Tryz.func137,Tryz.ntmps137
 go_wp2_with (go_at_call 132;refine (hcon _).mono ?_;rintro e w' ⟨rfl,rfl⟩)
 go_ret
 exact ⟨rfl,0,_,by rw [alloc_eq_grow,alloc_eq_grow,grow_grow];rfl⟩
def okSrt(l:List Wnt):Prop:=l.length≤1000000∧l.Pairwise fun a b=>a.grp≠b.grp
def srtW(l:List Wnt):List Wnt:=l.mergeSort fun a b=>decide (a.grp≤b.grp)
theorem srtW_perm(l:List Wnt):(srtW l).Perm l:=List.mergeSort_perm _ _
theorem srtW_asc{l:List Wnt}(h:okSrt l):(srtW l).Pairwise fun a b=>a.grp<b.grp:=by
 have h1:(srtW l).Pairwise fun a b=>decide (a.grp≤b.grp)=true:=List.pairwise_mergeSort (fun a b c h1 h2=>by simp at *;omega) (fun a b=>by simp;omega) l
 have h2:(srtW l).Pairwise fun a b=>a.grp≠b.grp:=(List.Perm.pairwise_iff (fun h=>Ne.symm h) (srtW_perm l)).mpr h.2
 exact (h1.and h2).imp fun ⟨h1,h2⟩=>by simp at h1;omega
open Go.Shelf Go.RowKit Go.Lib Go.Sort in
theorem sortW_spec(l:List Wnt)(h:okSrt l):HSpec Tryz.prog 136 [.vec 0,.func 137 []] [.vec 3 (l.map Wnt.v)] (.tup []) [some (.vec 3 ((srtW l).map Wnt.v))]:=by
 refine sort_hspec Tryz.sortW Wnt.v Wnt.grp 3 (by omega) (fun _=>by kernel_rfl) (fun _=>by kernel_rfl) (fun x=>⟨_,rfl⟩) 137 (enters_of Tryz.func137 (by kernel_rfl) rfl) ?_ l (srtW l) (srtW_perm l) (srtW_asc h) h.1
 intro a b xs ys w hx hy ox oy
 match xs,hx with
 | [x1,x2],_ =>
 match ys,hy with
 | [y1,y2],_=>exact cmpW_calls a b x1 x2 y1 y2 w ⟨ox x1 (by simp),ox x2 (by simp)⟩ ⟨oy y1 (by simp),oy y2 (by simp)⟩
def sortW_h(l:List Wnt)(h:okSrt l):HC Tryz.prog:=⟨136,[.k,.k],[.vec 0,.func 137 []],[.vec 3 (l.map Wnt.v)],.tup [],[some (.vec 3 ((srtW l).map Wnt.v))],sortW_spec l h,fnB_ok (by kernel_rfl),
 HcOk.of (by simp [hcB,belBL,AV.belB,allB,okBk,okBkO,pureBL_map (v:=Wnt.v) (fun _=>rfl)])⟩
def noF2(f:Flt):Bool:=f.mode==1 && (f.srcs.length:Int)==0
theorem noF2_iff{f:Flt}:noF2 f=true↔f.mode=1∧f.srcs=[]:=by
 simp [noF2]
def noF2_a(f:Flt):Prop:=okL [.agg [.int f.mode,.sl 1 (f.srcs.map AV.int) false]]
def noF2_e(r:Bool):AV:=.bool r
def noF2_x(f:Flt):Ax Tryz.prog noS (Bool):=
 (.br 96 (f.mode==1) (.ret (((f.srcs.map AV.int).length:Int)==0))
(.ret (false)))
def noF2_vc(f:Flt)(r0:Bool):Prop:=(noF2_x f).vp noF2_e r0
theorem noF2_p(f:Flt)(ok:noF2_a f):noF2_vc f (noF2 f):=by
 dsimp only [noF2_vc,noF2_x,noS,Ax.vp,Ax.vc];simp only [vcU,rfU,List.length_map]
 by_cases h:f.mode=1<;>simp [noF2,h]
def noF2_c(f:Flt):PC Tryz.prog:=⟨134,[(.a [.k,(.s 1)])],[.agg [.int f.mode,.sl 1 (f.srcs.map AV.int) false]],noF2_e (noF2 f),PSpec.of_ok fun ok=>mxP_of (sh:=.k) (enc:=noF2_e) (a:=(noF2_x f).an) (noF2_p f ok) (by kernel_rfl) (AV.pureB_ok rfl),fnB_ok (by kernel_rfl)⟩
def wOf(l:List Itm):List Wnt:=(l.filter fun x=>!noF2 ⟨x.mode,x.srcs⟩).map fun x=>⟨x.grp,x.mode,x.srcs⟩
theorem wOf_snoc(l:List Itm)(x:Itm):wOf (l++[x])=if noF2 ⟨x.mode,x.srcs⟩=true then wOf l else wOf l++[⟨x.grp,x.mode,x.srcs⟩]:=by
 unfold wOf
 rw [List.filter_append,List.map_append]
 by_cases h:noF2 ⟨x.mode,x.srcs⟩=true
 ·rw [if_pos h];simp [List.filter_cons,h]
 ·rw [if_neg h];simp [List.filter_cons,h]
theorem wOf_len(l:List Itm):(wOf l).length≤l.length:=by unfold wOf;rw [List.length_map];exact List.length_filter_le _ _
theorem mem_wOf{l:List Itm}{w:Wnt}:w∈wOf l↔∃x∈l,¬(x.mode=1∧x.srcs=[])∧w=⟨x.grp,x.mode,x.srcs⟩:=by
 unfold wOf
 rw [List.mem_map]
 constructor
 ·rintro ⟨x,hx,rfl⟩
  obtain ⟨h1,h2⟩:=List.mem_filter.mp hx
  refine ⟨x,h1,fun e=>?_,rfl⟩
  rw [noF2_iff.mpr e] at h2;cases h2
 ·rintro ⟨x,hx,h,rfl⟩
  refine ⟨x,List.mem_filter.mpr ⟨hx,?_⟩,rfl⟩
  cases e:noF2 ⟨x.mode,x.srcs⟩ with
  | true=>exact absurd (noF2_iff.mp e) h
  | false=>rfl
theorem wOf_srt{l:List Itm}(h:itmsOk 1000000 l):okSrt (wOf l):=by
 refine ⟨by have:=wOf_len l;have:=itms_len h;omega,?_⟩
 unfold wOf
 rw [List.pairwise_map]
 refine List.Pairwise.filter _ ?_
 have:=h.2.1
 rw [List.Nodup,List.pairwise_map] at this
 exact this
theorem wants_srt{l:List Itm}(h:itmsOk 1000000 l):srtW (wOf l)=wantsOf l:=by
 rw [wantsOf,if_pos h]
 refine ascW_ext (srtW_asc (wOf_srt h)) (fromF_asc 99) fun w=>?_
 rw [(srtW_perm _).mem_iff,mem_wOf,mem_fromF]
 constructor
 ·rintro ⟨x,hx,h1,rfl⟩
  have:=told_in h.2.1 hx
  refine ⟨by have:=(h.1 x hx).2.1;simp only;omega,this,?_⟩
  simp only
  rw [this]
  intro e
  simp only [Prod.mk.injEq] at e
  exact h1 e
 ·rintro ⟨_,h1,h2⟩
  obtain ⟨x,hx,e1,e2⟩:=told_some h2
  rw [h1] at e2
  simp only [Prod.mk.injEq] at e2
  refine ⟨x,hx,fun e=>h2 ?_,?_⟩
  ·rw [h1,e2.1,e2.2,e.1,e.2]
  ·cases w;simp only at e1 e2;rw [e1,e2.1,e2.2]
def wantsF_a(l:(List Itm)):Prop:=okL [.sl 4 (l.map Itm.v) false]
def wantsF_n0(l:(List Itm))(t0:Int×(List Wnt)):NF:=⟨[(3,.k,.vec 0),(9,.k,.sl 4 (l.map Itm.v) false),(10,.k,.int ((l.map Itm.v).length:Int)),(11,.k,.int t0.1)],[.vec 3 (t0.2.map Wnt.v) (pureBL_map (fun _=>rfl) t0.2)]⟩
@[reducible] def wantsF_s:Nat→Type
 | 0=>Int×(List Wnt)
 | _=>Unit
def wantsF_e(r:(List Wnt)):AV:=.sl 3 (r.map Wnt.v) false
def wantsF_x(l:(List Itm))(I0:(Int×(List Wnt))→Prop)(m0:(Int×(List Wnt))→Nat):Ax Tryz.prog wantsF_s ((List Wnt)):=
 (.callP (itemsB_c l 1000000)
(.br 64 (!(itemsB l 1000000)) (.ret ([]))
(.cmdL (.nilT 3 3) (.loop 0 (wantsF_n0 l) I0 m0 (0,[]) [128] fun (t0:Int×(List Wnt)) b0 =>
(.br 17 (decide (t0.1<((l.map Itm.v).length:Int))) (.el 17 Itm.v l (fun R=>Rf (l.map Itm.v) (ck (decide (0≤t0.1)) (ck (decide (t0.1<(l.length:Int)))
(∀x1,l[t0.1.toNat]?=some x1 →
(R x1))))) fun x1 =>
(.callP (noF2_c (⟨x1.mode,x1.srcs⟩:Flt))
(.br 145 (!(noF2 (⟨x1.mode,x1.srcs⟩:Flt))) (.req 225 ((⟨x1.mode,x1.srcs⟩:Flt).srcs.length≤1000000) fun h2 =>
(.callP (filtered_c (⟨x1.mode,x1.srcs⟩:Flt) h2)
(.say (fun R=>Rf (α:=List AV) (t0.2.map Wnt.v) (Rf (α:=List AV) [.agg [.int x1.grp,.int x1.mode,.sl 1 (x1.srcs.map AV.int) false]]
(ck (decide (t0.2.length+1≤1048576))
R))) (.app 273 Wnt.v t0.2 [(⟨x1.grp,x1.mode,x1.srcs⟩:Wnt)]
(.bk 0 b0 (W (t0.1+1),t0.2++[(⟨x1.grp,x1.mode,x1.srcs⟩:Wnt)]) [273])))))
(.bk 0 b0 (W (t0.1+1),t0.2) [0]))))
(.req 33 (okSrt t0.2) fun h3 =>
(.callH [0] (sortW_h t0.2 h3) 33
(.say (Rf ((srtW t0.2).map Wnt.v)) (.cmdL (.frzE 0 ((srtW t0.2).map Wnt.v) (pureBL_map (fun _=>rfl) (srtW t0.2))) (.ret (srtW t0.2)))))))))))
def wantsF_vc(l:(List Itm))(I0:(Int×(List Wnt))→Prop)(m0:(Int×(List Wnt))→Nat)(r0:(List Wnt)):Prop:=(wantsF_x l I0 m0).vp wantsF_e r0
theorem wantsF_p(l:List Itm)(ok:wantsF_a l):∃I m,wantsF_vc l I m (wantsOf l):=by
 refine ⟨fun t=>∃k:Nat,t.1=k∧k≤l.length∧t.2=wOf (l.take k),fun t=>l.length-t.1.toNat,?_⟩
 dsimp only [wantsF_vc,wantsF_x,wantsF_s,Ax.vp,Ax.vc];simp only [vcU,rfU,List.length_map]
 simp only [itemsB,Bool.not_eq_true',decide_eq_false_iff_not,Bool.not_eq_false',decide_eq_true_iff]
 refine ⟨fun h=>by rw [wantsOf,if_neg h],fun h=>⟨⟨0,rfl,by omega,rfl⟩,?_⟩⟩
 rintro ⟨_,ws⟩ ⟨k,rfl,hk,rfl⟩
 have hl:=itms_len h
 simp only [Int.toNat_natCast]
 refine ⟨fun h1=>⟨by omega,by omega,fun x hx=>?_⟩,fun h1=>?_⟩
 ·have hs:=srcs_len (h.1 x (mem_of_get hx)).2.2
  have hw:=wOf_len (l.take k)
  rw [List.length_take] at hw
  rw [W_succ (n:=l.length) (by omega) (by omega)]
  refine ⟨fun e=>⟨by omega,by omega,⟨k+1,rfl,by omega,?_⟩,by omega⟩,fun e=>⟨⟨k+1,rfl,by omega,?_⟩,by omega⟩⟩
  ·rw [take_succ hx,wOf_snoc,if_neg (by simp [e])]
  ·rw [take_succ hx,wOf_snoc,if_pos e]
 ·have e:l.take k=l:=List.take_of_length_le (by omega)
  rw [e]
  exact ⟨wOf_srt h,by rw [wants_srt h]⟩
def wantsF_c(l:(List Itm)):PC Tryz.prog:=⟨97,[(.s 4)],[.sl 4 (l.map Itm.v) false],wantsF_e (wantsOf l),PSpec.of_ok fun ok=>(wantsF_p l ok).elim fun I0 h=>h.elim fun m0 h=>mxP_of (sh:=(.s 3)) (enc:=wantsF_e) (a:=(wantsF_x l I0 m0).an) h (by kernel_rfl) (AV.pureB_ok rfl),fnB_ok (by kernel_rfl)⟩
def knownW(l:Lsn)(r:Int):List Wnt:=if lsnOk l∧hitH l.heard r then wantsOf (atH l.heard r).items else []
def knownF_a(l:Lsn)(router:Int):Prop:=okL [.agg [.int l.router,.int l.epoch,.sl 4 (l.heard.map Hrd.v) false],.int router]
def knownF_e(r:(List Wnt)):AV:=.sl 3 (r.map Wnt.v) false
def knownF_x(l:Lsn)(router:Int):Ax Tryz.prog noS ((List Wnt)):=
 (.callP (valL_c l)
(.br 80 ((valL l) != 0) (.ret ([]))
(.req 112 (l.heard.Pairwise fun x y=>x.router<y.router) fun h1 =>
(.req 112 (l.heard.length≤1000000) fun h2 =>
(.callP (heard_c l router h1 h2)
(.br 224 (decide (hitH l.heard router)) (.el 272 Hrd.v l.heard (fun R=>Rf (l.heard.map Hrd.v) (ck (decide (0≤(posH l.heard router:Int))) (ck (decide ((posH l.heard router:Int)<(l.heard.length:Int)))
(∀x3,l.heard[(posH l.heard router:Int).toNat]?=some x3 →
(R x3))))) fun x3 =>
(.callP (wantsF_c x3.items)
(.ret (wantsOf x3.items))))
(.ret ([]))))))))
def knownF_vc(l:Lsn)(router:Int)(r0:(List Wnt)):Prop:=(knownF_x l router).vp knownF_e r0
theorem knownF_p(l:Lsn)(r:Int)(ok:knownF_a l r):knownF_vc l r (knownW l r):=by
 dsimp only [knownF_vc,knownF_x,noS,Ax.vp,Ax.vc];simp only [vcU,rfU,List.length_map]
 have hv:valL l=if lsnOk l then 0 else 1:=rfl
 rw [hv]
 by_cases h:lsnOk l
 ·rw [if_pos h]
  refine ⟨fun e=>by simp at e,fun _=>⟨h.2.2.2.2,by have:=h.2.2.1;omega,fun q=>⟨by omega,by have:=q.1;omega,fun x hx=>?_⟩,fun q=>by rw [knownW,if_neg fun e=>q e.2]⟩⟩
  rw [Int.toNat_natCast] at hx
  rw [knownW,if_pos ⟨h,q⟩,atH,List.getD_eq_getElem?_getD,hx]
  rfl
 ·rw [if_neg h]
  exact ⟨fun _=>by rw [knownW,if_neg fun e=>h e.1],fun e=>by simp at e⟩
def knownF_c(l:Lsn)(router:Int):PC Tryz.prog:=⟨98,[(.a [.k,.k,(.s 4)]),.k],[.agg [.int l.router,.int l.epoch,.sl 4 (l.heard.map Hrd.v) false],.int router],knownF_e (knownW l router),PSpec.of_ok fun ok=>mxP_of (sh:=(.s 3)) (enc:=knownF_e) (a:=(knownF_x l router).an) (knownF_p l router ok) (by kernel_rfl) (AV.pureB_ok rfl),fnB_ok (by kernel_rfl)⟩
structure Sent (a:Spk) (to:Int) (x:Sig):Prop where
  ok:sigErr x=0
  kind:x.kind≠3
  src:x.src=a.router
  dst:x.dst=to
  epoch:x.epoch=a.epoch
  tell:TellOk a.epoch a.last a.items x
theorem send_val{a:Spk}{to:Int}(ha:spkOk a)(hh:∃z∈a.peers,z.router=to):send a to=(hello a to::sendFrom a to (pOf a.peers to).acked 0 a.items,0)∧∀x∈(send a to).1,Sent a to x:=by
 have hhit:=(hitP_iff ha.2.2.2.2.2.2).mpr hh
 obtain ⟨p1,p2,p3,p4,p5,p6,p7⟩:=ha
 obtain ⟨z,hz,hzr⟩:=hh
 obtain ⟨z1,z2,_⟩:=p6 z hz
 have e:send a to=(hello a to::sendFrom a to (pOf a.peers to).acked 0 a.items,0):=by
  unfold send
  rw [if_neg (not_not_intro ⟨p1,p2,p3,p4,p5,p6,p7⟩),if_neg (not_not_intro hhit)]
  rfl
 refine ⟨e,?_⟩
 rw [e]
 intro x hx
 rcases List.mem_cons.mp hx with rfl|hx
 ·refine ⟨?_,by simp [hello],rfl,rfl,rfl,Int.le_refl _,fun q=>by simp [hello] at q⟩
  have hn:sigNums (hello a to):=by
   unfold sigNums hello
   rw [if_pos rfl]
   exact ⟨p2,p3,rfl,rfl,rfl⟩
  have he:sigEnds (hello a to):=⟨p1,by rw [←hzr];exact z1,by simp only [hello];omega⟩
  unfold sigErr
  rw [if_neg (by simp [hello]),if_neg (not_not_intro ⟨he,hn⟩),if_neg (by simp [hello]),if_neg (by simp [hello])]
 ·obtain ⟨x1,x2,x3,x4,x5,x6,x7,x8⟩:=send_ok p4 p3.2 a.items [] 0 rfl (by omega) (by simp) (fun y hy=>by have:=(p4.1 y hy).1.1;omega) x hx
  refine ⟨?_,by omega,x2,x3,x4,by omega,fun _ _=>x8⟩
  obtain ⟨i1,i2,i3⟩:=p4.1 _ x7
  simp only [sigItm] at i1 i2 i3
  have hn:sigNums x:=by
   unfold sigNums
   rw [if_neg (by omega),if_pos x1,x4]
   exact ⟨p2,⟨i1.1,by omega⟩,x6,x5,i2⟩
  have he:sigEnds x:=⟨by rw [x2];exact p1,by omega,by omega⟩
  unfold sigErr
  rw [if_neg (by omega),if_neg (not_not_intro ⟨he,hn⟩),if_pos x1]
  exact i3
theorem ans_err{s d e v p:Int}(hs:1≤s∧s≤99)(hd:1≤d∧d≤99)(hne:s≠d)(he:0≤e∧e≤1000000)(hv:0≤v∧v≤1000000)(hp:1≤p∧p≤1000000):sigErr ⟨3,s,d,e,v,0,p,0,0,[]⟩=0:=by
 have hn:sigNums ⟨3,s,d,e,v,0,p,0,0,[]⟩:=by
  unfold sigNums
  rw [if_neg (by simp),if_neg (by simp)]
  exact ⟨he,hv,rfl,hp,rfl⟩
 unfold sigErr
 rw [if_neg (by simp),if_neg (not_not_intro ⟨⟨hs,hd,hne⟩,hn⟩),if_neg (by simp),if_neg (by simp)]
theorem Hears.ans_ok{l l':Lsn}{x y:Sig}(hl:lsnOk l)(h:Hears l l' x y)(hx:sigErr x=0)(hd:x.dst=l.router):sigErr y=0:=by
 obtain ⟨e1,e2,e3⟩:=sig_ends hx
 have hm:=(h.mem _).mpr (.inl rfl)
 obtain ⟨k1,k2,k3,k4,k5⟩:=h.ok.2.2.2.1 _ hm
 rw [h.ans]
 exact ans_err hl.1 e1 (by omega) (by omega) k4 hl.2.1
structure SI (s:Spk×Lsn):Prop where
  aok:spkOk s.1
  ar:s.1.router=1
  ap:s.1.peers.map Per.router=[2]
  lok:lsnOk s.2
  lr:s.2.router=2
  lh:∀h∈s.2.heard,h.router=1
  pi:PI s.1.epoch s.1.last s.1.items (pOf s.1.peers 2) s.2.epoch (gOf s.2.heard 1)
theorem SI.hp{s:Spk×Lsn}(h:SI s):∃z∈s.1.peers,z.router=2:=by
 have:(2:Int)∈s.1.peers.map Per.router:=by rw [h.ap];simp
 obtain ⟨z,hz,e⟩:=List.mem_map.mp this
 exact ⟨z,hz,e⟩
theorem Done.agree{a:Spk}{l:Lsn}{q:Int}(ha:spkOk a)(hl:lsnOk l)(hP:PI a.epoch a.last a.items (pOf a.peers q) l.epoch (gOf l.heard a.router))(hg:(gOf l.heard a.router).epoch=a.epoch∧(gOf l.heard a.router).ver=a.last) :
  Go.Proofs.YthhpaedpnjdnbaaGreatDoor.agree a l∧(gOf l.heard a.router).items=a.items∧atH l.heard a.router=gOf l.heard a.router∧hitH l.heard a.router:=by
 have hh:∃z∈l.heard,z.router=a.router:=by
  refine Classical.byContradiction fun hn=>?_
  have:=gOf_no hl.2.2.2.2 hn
  rw [this] at hg
  have:=hP.e1
  simp only at hg
  omega
 have hit:=(hitH_iff hl.2.2.2.2).mpr hh
 have hat:atH l.heard a.router=gOf l.heard a.router:=by
  unfold atH gOf base
  rw [if_pos hit]
 have hi:=(hP.g4 hg.1).eq hP.io hP.g3 hg.2
 exact ⟨⟨ha,hl,hit,by rw [hat];exact hg.1,by rw [hat];exact hg.2,by rw [hat];exact hi⟩,hi,hat,hit⟩
theorem sendFrom_none{s:Spk}{to acked:Int}:∀{r:List Itm} {prev:Int},(∀y∈r,y.ver≤acked)→sendFrom s to acked prev r=[]
 | [],_,_=>rfl
 | y::r,prev,h=>by
  have:=h y (by simp)
  rw [sendFrom,if_neg (by omega),sendFrom_none fun z hz=>h z (by simp [hz])]
  rfl
theorem settled{s:Spk×Lsn}(h:SI s)(hd:Done s.1.epoch s.1.last (pOf s.1.peers 2) s.2.epoch (gOf s.2.heard 1)) :
  agree s.1 s.2∧(∃p,s.1.peers=[p]∧p.acked=s.1.last)∧(send s.1 2).2=0∧(send s.1 2).1.length=1∧knownW s.2 1=wantsOf s.1.items:=by
 have hP:=h.pi
 have hg:(gOf s.2.heard s.1.router).epoch=s.1.epoch∧(gOf s.2.heard s.1.router).ver=s.1.last:=by rw [h.ar];exact ⟨hd.ge,hd.gv⟩
 obtain ⟨a1,a2,a3,a4⟩:=Done.agree (q:=2) h.aok h.lok (by rw [h.ar];exact hP) hg
 have hpp:s.1.peers=[pOf s.1.peers 2]:=by
  have:=h.ap
  generalize s.1.peers=ps at this
  cases ps with
  | nil=>simp at this
  | cons p r =>
   simp only [List.map_cons,List.cons.injEq,List.map_eq_nil_iff] at this
   obtain ⟨hp,rfl⟩:=this
   have:=pOf_mem (l:=[p]) (z:=p) (List.pairwise_singleton _ _) (by simp)
   rw [←hp,this]
 obtain ⟨v,w⟩:=send_val h.aok h.hp
 refine ⟨a1,⟨_,hpp,hd.pa⟩,by rw [v],?_,?_⟩
 ·rw [v,sendFrom_none fun y hy=>?_]
  ·rfl
  ·rw [hd.pa];exact (hP.io.1 y hy).1.2
 ·rw [h.ar] at a2 a3 a4
  unfold knownW
  rw [if_pos ⟨h.lok,a4⟩,a3,a2]
section
variable {α : Type} {key : α → Int}
theorem getK_set{l:List α}{r q:Int}{d z':α}(ho:l.Pairwise fun x y=>key x<key y)(hr:∃z∈l,key z=r)(hk:key z'=r)(hq:∃z∈l,key z=q) :
  (l.set (posK key l r) z').getD (posK key (l.set (posK key l r) z') q) d=if q=r then z' else l.getD (posK key l q) d:=by
 have ho':=sort_setK (z':=z') ho hr hk
 have hm:=mem_setK (z':=z') ho hr
 by_cases e:q=r
 ·rw [if_pos e,e,←hk]
  have h1:z'∈l.set (posK key l (key z')) z':=by rw [hk];exact (hm z').mpr (.inl rfl)
  rw [←hk] at ho'
  exact atK_eq ho' h1
 ·rw [if_neg e]
  obtain ⟨z,hz,rfl⟩:=hq
  have h1:=(hm z).mpr (.inr ⟨hz,e⟩)
  rw [atK_eq ho' h1,atK_eq ho hz]
theorem keys_set{l:List α}{r:Int}{z':α}(ho:l.Pairwise fun x y=>key x<key y)(hr:∃z∈l,key z=r)(hk:key z'=r):(l.set (posK key l r) z').map key=l.map key:=by
 obtain ⟨z,hz,hzr⟩:=hr
 obtain ⟨i,hi,rfl⟩:=List.getElem_of_mem hz
 rw [posK_eq ho hi hzr,List.map_set,hk]
 refine List.ext_getElem (by simp) fun j h1 h2=>?_
 rw [List.getElem_set]
 split
 ·rename_i e;subst e;simp [hzr]
 ·rfl
theorem posK_keys{β:Type}{key':β→Int}{l:List α}{m:List β}(h:l.map key=m.map key')(r:Int):posK key l r=posK key' m r:=by
 have e1:∀{γ:Type} (k:γ→Int) (l:List γ),posK k l r=(l.map k).findIdx fun y=>!decide (y<r):=fun k l=>by
  unfold posK;rw [List.findIdx_map];rfl
 rw [e1,e1,h]
theorem mem_keys{l:List α}{r:Int}:r∈l.map key↔∃z∈l,key z=r:=by rw [List.mem_map]
theorem getK_mem{l:List α}{r:Int}{d:α}(ho:l.Pairwise fun x y=>key x<key y)(h:r∈l.map key):l.getD (posK key l r) d∈l∧key (l.getD (posK key l r) d)=r:=by
 obtain ⟨z,hz,rfl⟩:=mem_keys.mp h
 rw [atK_eq ho hz]
 exact ⟨hz,rfl⟩
end
theorem nodup_sub{l R:List Int}(h:l.Nodup)(hs:∀x∈l,x∈R):l.length≤R.length:=by
 induction l generalizing R with
 | nil=>simp
 | cons x l ih =>
  rw [List.nodup_cons] at h
  have hx:=hs x (by simp)
  have:=ih (R:=R.erase x) h.2 fun y hy=>by
   have hne:y≠x:=fun e=>h.1 (e ▸ hy)
   exact (List.mem_erase_of_ne hne).mpr (hs y (by simp [hy]))
  rw [List.length_erase_of_mem hx] at this
  have:=List.length_pos_of_mem hx
  simp only [List.length_cons];omega
structure Ovl where
  sp:List Spk
  ls:List Lsn
  fl:List Sig
  deriving DecidableEq
def spks(l:List Spk):AV:=.sl 5 (l.map Spk.v) false
def lsns(l:List Lsn):AV:=.sl 3 (l.map Lsn.v) false
def Ovl.v(x:Ovl):AV:=.agg [spks x.sp,lsns x.ls,sigs x.fl]
def ovl0:Ovl:=⟨[],[],[]⟩
def rtrs(sp:List Spk):List Int:=sp.map Spk.router
def posS(l:List Spk)(r:Int):Nat:=l.findIdx fun p=>!decide (p.router<r)
def atS(sp:List Spk)(r:Int):Spk:=sp.getD (posS sp r) spk0
def atL(sp:List Spk)(ls:List Lsn)(r:Int):Lsn:=ls.getD (posS sp r) lsn0
def spOk(R:List Int)(s:Spk):Prop:=spkOk s∧s.peers.map Per.router=R.filter fun r=>decide (r≠s.router)
def lnOk(R:List Int)(l:Lsn):Prop:=lsnOk l∧∀h∈l.heard,h.router∈R
structure NetOk (R:List Int) (sp:List Spk) (ls:List Lsn):Prop where
  len:R.length≤12
  spr:sp.map Spk.router=R
  lsr:ls.map Lsn.router=R
  asc:sp.Pairwise fun x y=>x.router<y.router
  spo:∀s∈sp,spOk R s
  lso:∀l∈ls,lnOk R l
def sigIn(R:List Int)(x:Sig):Prop:=sigErr x=0∧x.src∈R∧x.dst∈R
def ovlOk(o:Ovl):Prop:=NetOk (rtrs o.sp) o.sp o.ls∧∀x∈o.fl,sigIn (rtrs o.sp) x
section
variable {R : List Int} {sp : List Spk} {ls : List Lsn}
theorem NetOk.ascR(h:NetOk R sp ls):R.Pairwise (·<·):=by rw [←h.spr,List.pairwise_map];exact h.asc
theorem NetOk.nodup(h:NetOk R sp ls):R.Nodup:=h.ascR.imp fun q=>by omega
theorem NetOk.ascL(h:NetOk R sp ls):ls.Pairwise fun x y=>x.router<y.router:=by
 have:=h.ascR;rw [←h.lsr,List.pairwise_map] at this;exact this
theorem NetOk.posL(h:NetOk R sp ls)(r:Int):posS sp r=posK Lsn.router ls r:=posK_keys (key:=Spk.router) (key':=Lsn.router) (h.spr.trans h.lsr.symm) r
theorem NetOk.s(h:NetOk R sp ls){r:Int}(hr:r∈R):atS sp r∈sp∧(atS sp r).router=r:=getK_mem (key:=Spk.router) h.asc (by rw [h.spr];exact hr)
theorem NetOk.l(h:NetOk R sp ls){r:Int}(hr:r∈R):atL sp ls r∈ls∧(atL sp ls r).router=r:=by
 unfold atL;rw [h.posL]
 exact getK_mem (key:=Lsn.router) h.ascL (by rw [h.lsr];exact hr)
theorem NetOk.peer(h:NetOk R sp ls){a b:Int}(ha:a∈R)(hb:b∈R)(hab:a≠b):∃z∈(atS sp a).peers,z.router=b:=by
 obtain ⟨h1,h2⟩:=h.s ha
 refine List.mem_map.mp ?_
 rw [(h.spo _ h1).2,List.mem_filter,h2]
 exact ⟨hb,by simpa using Ne.symm hab⟩
theorem NetOk.room(h:NetOk R sp ls){b:Int}(hb:b∈R):(atL sp ls b).heard.length<12:=by
 obtain ⟨h1,h2⟩:=h.l hb
 obtain ⟨k1,k2⟩:=h.lso _ h1
 have hn:((atL sp ls b).heard.map Hrd.router).Nodup:=by
  have:=k1.2.2.2.2
  rw [List.Nodup,List.pairwise_map];exact this.imp fun q=>by omega
 have hc:(b::(atL sp ls b).heard.map Hrd.router).Nodup:=by
  rw [List.nodup_cons]
  refine ⟨fun q=>?_,hn⟩
  obtain ⟨z,hz,e⟩:=List.mem_map.mp q
  exact (k1.2.2.2.1 z hz).2.1 (e.trans h2.symm)
 have:=nodup_sub hc (R:=R) fun x hx=>by
  rcases List.mem_cons.mp hx with rfl|hx
  ·exact hb
  ·obtain ⟨z,hz,rfl⟩:=List.mem_map.mp hx
   exact k2 z hz
 have:=h.len
 simp only [List.length_cons,List.length_map] at *
 omega
end
abbrev Rnd:=(List Spk×List Lsn)×List Sig
def deliver(s:Rnd)(x:Sig):Rnd:=
 if x.kind=3 then (if (ack (atS s.1.1 x.dst) x).2=0 then ((s.1.1.set (posS s.1.1 x.dst) (ack (atS s.1.1 x.dst) x).1,s.1.2),s.2) else s)
 else if (hear (atL s.1.1 s.1.2 x.dst) x).2=0 then ((s.1.1,s.1.2.set (posS s.1.1 x.dst) (hear (atL s.1.1 s.1.2 x.dst) x).1.1),s.2++[(hear (atL s.1.1 s.1.2 x.dst) x).1.2]) else s
def ansOf(a b le:Int)(g:Hrd):Sig:=⟨3,b,a,g.epoch,g.ver,0,le,0,0,[]⟩
structure Dlv (R:List Int) (s s':Rnd) (x:Sig):Prop where
  net:NetOk R s'.1.1 s'.1.2
  epoch:∀a∈R,(atS s'.1.1 a).epoch=(atS s.1.1 a).epoch
  last:∀a∈R,(atS s'.1.1 a).last=(atS s.1.1 a).last
  items:∀a∈R,(atS s'.1.1 a).items=(atS s.1.1 a).items
  le:∀b∈R,(atL s'.1.1 s'.1.2 b).epoch=(atL s.1.1 s.1.2 b).epoch
  p:∀a∈R,∀b∈R,a≠b→pOf (atS s'.1.1 a).peers b=if x.kind=3∧x.dst=a∧x.src=b then ackP (atS s.1.1 a) x (pOf (atS s.1.1 a).peers b) else pOf (atS s.1.1 a).peers b
  g:∀a∈R,∀b∈R,a≠b→gOf (atL s'.1.1 s'.1.2 b).heard a=if x.kind≠3∧x.src=a∧x.dst=b then hearG (gOf (atL s.1.1 s.1.2 b).heard a) x else gOf (atL s.1.1 s.1.2 b).heard a
  out:s'.2=s.2++if x.kind=3 then [] else [ansOf x.src x.dst (atL s.1.1 s.1.2 x.dst).epoch (hearG (gOf (atL s.1.1 s.1.2 x.dst).heard x.src) x)]
  outk:∀y∈s'.2,y∈s.2∨sigIn R y
theorem deliver_ok{R:List Int}{s:Rnd}{x:Sig}(h:NetOk R s.1.1 s.1.2)(hx:sigIn R x):Dlv R s (deliver s x) x:=by
 obtain ⟨⟨sp,ls⟩,out⟩:=s
 obtain ⟨x1,x2,x3⟩:=hx
 have hne:x.src≠x.dst:=(sig_ends x1).2.2
 simp only at h
 by_cases hk:x.kind=3
 ·obtain ⟨h1,h2⟩:=h.s x3
  obtain ⟨k1,k2⟩:=h.spo _ h1
  have hp:=h.peer x3 x2 (Ne.symm hne)
  obtain ⟨e1,e2⟩:=ack_val k1 x1 hk h2.symm hp
  have hd:deliver ((sp,ls),out) x=((sp.set (posS sp x.dst) (ack (atS sp x.dst) x).1,ls),out):=by
   unfold deliver;rw [if_pos hk,if_pos e1]
  rw [hd]
  generalize hz:(ack (atS sp x.dst) x).1=z at *
  have hzr:z.router=x.dst:=e2.router.trans h2
  have hr:∃w∈sp,w.router=x.dst:=⟨_,h1,h2⟩
  have hat:∀a∈R,atS (sp.set (posS sp x.dst) z) a=if a=x.dst then z else atS sp a:=fun a ha =>
   getK_set (key:=Spk.router) (d:=spk0) h.asc hr hzr (by rw [←h.spr] at ha;exact mem_keys.mp ha)
  have hkeys:(sp.set (posS sp x.dst) z).map Spk.router=sp.map Spk.router:=keys_set (key:=Spk.router) h.asc hr hzr
  have hat2:∀b,atL (sp.set (posS sp x.dst) z) ls b=atL sp ls b:=fun b=>by
   unfold atL
   rw [show posS (sp.set (posS sp x.dst) z) b=posS sp b from posK_keys (key:=Spk.router) (key':=Spk.router) hkeys b]
  refine ⟨⟨h.len,hkeys.trans h.spr,h.lsr,sort_setK (key:=Spk.router) h.asc hr hzr,fun w hw=>?_,h.lso⟩,fun a ha=>?_,fun a ha=>?_,fun a ha=>?_,fun b _=>by simp only [hat2],fun a ha b hb hab=>?_,fun a ha b hb hab=>?_,by rw [if_pos hk,List.append_nil],fun y hy=>.inl hy⟩
  ·rcases (mem_setK (key:=Spk.router) h.asc hr w).mp hw with rfl|⟨hw,_⟩
   ·exact ⟨e2.ok,by rw [e2.routers,k2,e2.router]⟩
   ·exact h.spo w hw
  ·simp only [hat a ha];split
   ·rename_i e;rw [e,e2.epoch]
   ·rfl
  ·simp only [hat a ha];split
   ·rename_i e;rw [e,e2.last]
   ·rfl
  ·simp only [hat a ha];split
   ·rename_i e;rw [e,e2.items]
   ·rfl
  ·simp only [hat a ha]
   by_cases ea:a=x.dst
   ·rw [if_pos ea,ea]
    by_cases eb:x.src=b
    ·rw [if_pos ⟨hk,rfl,eb⟩,←eb];exact e2.self k1 hp
    ·rw [if_neg fun q=>eb q.2.2]
     exact e2.other k1 (Ne.symm eb) (h.peer x3 hb (by rw [←ea];exact hab))
   ·rw [if_neg ea,if_neg fun q=>ea q.2.1.symm]
  ·simp only [hat2]
   rw [if_neg fun q=>q.1 hk]
 ·obtain ⟨h1,h2⟩:=h.l x3
  obtain ⟨k1,k2⟩:=h.lso _ h1
  obtain ⟨e1,e2⟩:=hear_val k1 x1 hk h2.symm (.inr (h.room x3))
  have hao:=e2.ans_ok k1 x1 h2.symm
  have hd:deliver ((sp,ls),out) x=((sp,ls.set (posS sp x.dst) (hear (atL sp ls x.dst) x).1.1),out++[(hear (atL sp ls x.dst) x).1.2]):=by
   unfold deliver;rw [if_neg hk,if_pos e1]
  rw [hd]
  have ha:=e2.ans
  generalize hz:(hear (atL sp ls x.dst) x).1.1=z at *
  generalize hy:(hear (atL sp ls x.dst) x).1.2=y at *
  have hzr:z.router=x.dst:=e2.router.trans h2
  have hr:∃w∈ls,w.router=x.dst:=⟨_,h1,h2⟩
  have hpos:=h.posL x.dst
  have hkeys:(ls.set (posS sp x.dst) z).map Lsn.router=ls.map Lsn.router:=by rw [hpos];exact keys_set (key:=Lsn.router) h.ascL hr hzr
  have hat:∀b∈R,atL sp (ls.set (posS sp x.dst) z) b=if b=x.dst then z else atL sp ls b:=fun b hb=>by
   unfold atL
   rw [show posS sp b=posK Lsn.router (ls.set (posS sp x.dst) z) b from posK_keys (key:=Spk.router) (key':=Lsn.router) (h.spr.trans (h.lsr.symm.trans hkeys.symm)) b,hpos]
   rw [getK_set (key:=Lsn.router) (d:=lsn0) h.ascL hr hzr (by rw [←h.lsr] at hb;exact mem_keys.mp hb)]
   rw [←hpos,show posK Lsn.router ls b=posK Lsn.router ls b from rfl]
   by_cases e:b=x.dst
   ·rw [if_pos e,if_pos e]
   ·rw [if_neg e,if_neg e,←h.posL b]
    congr 1
    exact (posK_keys (key:=Spk.router) (key':=Lsn.router) (h.spr.trans (h.lsr.symm.trans hkeys.symm)) b)
  refine ⟨⟨h.len,h.spr,hkeys.trans h.lsr,h.asc,h.spo,fun w hw=>?_⟩,fun a _=>rfl,fun a _=>rfl,fun a _=>rfl,fun b hb=>?_,fun a _ b _ _=>by rw [if_neg fun q=>hk q.1],fun a ha' b hb hab=>?_,?_,fun w hw=>?_⟩
  ·rw [hpos] at hw
   rcases (mem_setK (key:=Lsn.router) h.ascL hr w).mp hw with rfl|⟨hw,_⟩
   ·refine ⟨e2.ok,fun q hq=>?_⟩
    rcases (e2.mem q).mp hq with rfl|⟨hq,_⟩
    ·rw [hearG_router (gOf_router k1.2.2.2.2)];exact x2
    ·exact k2 q hq
   ·exact h.lso w hw
  ·simp only [hat b hb];split
   ·rename_i e;rw [e,e2.epoch]
   ·rfl
  ·simp only [hat b hb]
   by_cases eb:b=x.dst
   ·rw [if_pos eb,eb]
    by_cases ea:x.src=a
    ·rw [if_pos ⟨hk,ea,rfl⟩,←ea];exact e2.self k1
    ·rw [if_neg fun q=>ea q.2.1]
     exact e2.other k1 (Ne.symm ea)
   ·rw [if_neg eb,if_neg fun q=>eb q.2.2.symm]
  ·rw [if_neg hk,ha,h2];rfl
  ·rcases List.mem_append.mp hw with hw|hw
   ·exact .inl hw
   ·rw [List.mem_singleton] at hw
    subst hw
    exact .inr ⟨hao,by rw [ha];simp only;rw [h2];exact x3,by rw [ha];exact x2⟩
def isTell(a b:Int)(x:Sig):Bool:=decide (x.kind≠3∧x.src=a∧x.dst=b)
def isAck(a b:Int)(x:Sig):Bool:=decide (x.kind=3∧x.dst=a∧x.src=b)
def ansL(a b le:Int):Hrd→List Sig→List Sig
 | _,[]=>[]
 | g,x::l=>ansOf a b le (hearG g x)::ansL a b le (hearG g x) l
def ackL(s:Spk)(p:Per)(l:List Sig):Per:=l.foldl (fun p x=>ackP s x p) p
theorem ackP_cong{a b:Spk}{x:Sig}{p:Per}(h1:a.epoch=b.epoch)(h2:a.last=b.last):ackP a x p=ackP b x p:=by
 unfold ackP ackV;rw [h1,h2]
theorem ackL_cong{a b:Spk}(h1:a.epoch=b.epoch)(h2:a.last=b.last):∀{l:List Sig} {p:Per},ackL a p l=ackL b p l
 | [],_=>rfl
 | x::l,p=>by
  show ackL a (ackP a x p) l=ackL b (ackP b x p) l
  rw [ackP_cong h1 h2];exact ackL_cong h1 h2
structure Dlvs (R:List Int) (s s':Rnd) (l:List Sig):Prop where
  net:NetOk R s'.1.1 s'.1.2
  epoch:∀a∈R,(atS s'.1.1 a).epoch=(atS s.1.1 a).epoch
  last:∀a∈R,(atS s'.1.1 a).last=(atS s.1.1 a).last
  items:∀a∈R,(atS s'.1.1 a).items=(atS s.1.1 a).items
  le:∀b∈R,(atL s'.1.1 s'.1.2 b).epoch=(atL s.1.1 s.1.2 b).epoch
  p:∀a∈R,∀b∈R,a≠b→pOf (atS s'.1.1 a).peers b=ackL (atS s.1.1 a) (pOf (atS s.1.1 a).peers b) (l.filter (isAck a b))
  g:∀a∈R,∀b∈R,a≠b→gOf (atL s'.1.1 s'.1.2 b).heard a=hearL (gOf (atL s.1.1 s.1.2 b).heard a) (l.filter (isTell a b))
  acks:∀a∈R,∀b∈R,a≠b→s'.2.filter (isAck a b)=s.2.filter (isAck a b)++ansL a b (atL s.1.1 s.1.2 b).epoch (gOf (atL s.1.1 s.1.2 b).heard a) (l.filter (isTell a b))
  tells:∀a∈R,∀b∈R,a≠b→s'.2.filter (isTell a b)=s.2.filter (isTell a b)
  outk:∀y∈s'.2,y∈s.2∨sigIn R y
theorem delivers_ok{R:List Int}:∀{l:List Sig} {s:Rnd},NetOk R s.1.1 s.1.2→(∀x∈l,sigIn R x)→Dlvs R s (l.foldl deliver s) l
 | [],s,h,_=>⟨h,fun _ _=>rfl,fun _ _=>rfl,fun _ _=>rfl,fun _ _=>rfl,fun _ _ _ _ _=>rfl,fun _ _ _ _ _=>rfl,fun _ _ _ _ _=>by simp [ansL],fun _ _ _ _ _=>rfl,fun _ hy=>.inl hy⟩
 | x::l,s,h,hl=>by
  have d:=deliver_ok h (hl x (by simp))
  have r:=delivers_ok (l:=l) d.net fun y hy=>hl y (by simp [hy])
  rw [List.foldl_cons]
  generalize deliver s x=s1 at *
  generalize l.foldl deliver s1=s2 at *
  refine ⟨r.net,fun a ha=>(r.epoch a ha).trans (d.epoch a ha),fun a ha=>(r.last a ha).trans (d.last a ha),fun a ha=>(r.items a ha).trans (d.items a ha),fun b hb=>(r.le b hb).trans (d.le b hb),fun a ha b hb hab=>?_,fun a ha b hb hab=>?_,fun a ha b hb hab=>?_,fun a ha b hb hab=>?_,fun y hy=>?_⟩
  ·rw [r.p a ha b hb hab,d.p a ha b hb hab,ackL_cong (d.epoch a ha) (d.last a ha),List.filter_cons]
   by_cases c:x.kind=3∧x.dst=a∧x.src=b
   ·rw [if_pos c,if_pos (show isAck a b x=true from decide_eq_true c)];rfl
   ·rw [if_neg c,if_neg (show ¬isAck a b x=true from fun q=>c (of_decide_eq_true q))]
  ·rw [r.g a ha b hb hab,d.g a ha b hb hab,List.filter_cons]
   by_cases c:x.kind≠3∧x.src=a∧x.dst=b
   ·rw [if_pos c,if_pos (show isTell a b x=true from decide_eq_true c)];rfl
   ·rw [if_neg c,if_neg (show ¬isTell a b x=true from fun q=>c (of_decide_eq_true q))]
  ·rw [r.acks a ha b hb hab,d.g a ha b hb hab,d.le b hb,d.out,List.filter_append,List.filter_cons]
   by_cases c:x.kind≠3∧x.src=a∧x.dst=b
   ·rw [if_pos c,if_pos (show isTell a b x=true from decide_eq_true c),if_neg c.1]
    obtain ⟨c1,rfl,rfl⟩:=c
    simp [ansL,ansOf,isAck]
   ·rw [if_neg c,if_neg (show ¬isTell a b x=true from fun q=>c (of_decide_eq_true q))]
    by_cases k:x.kind=3
    ·rw [if_pos k];simp
    ·rw [if_neg k]
     have:List.filter (isAck a b) [ansOf x.src x.dst (atL s.1.1 s.1.2 x.dst).epoch (hearG (gOf (atL s.1.1 s.1.2 x.dst).heard x.src) x)]=[]:=by
      rw [List.filter_eq_nil_iff]
      intro y hy
      rw [List.mem_singleton] at hy
      subst hy
      intro q
      have q:=of_decide_eq_true q
      exact c ⟨k,q.2.1,q.2.2⟩
     rw [this,List.append_nil]
  ·rw [r.tells a ha b hb hab,d.out,List.filter_append]
   have:List.filter (isTell a b) (if x.kind=3 then [] else [ansOf x.src x.dst (atL s.1.1 s.1.2 x.dst).epoch (hearG (gOf (atL s.1.1 s.1.2 x.dst).heard x.src) x)])=[]:=by
    rw [List.filter_eq_nil_iff]
    intro y hy
    split at hy
    ·simp at hy
    ·rw [List.mem_singleton] at hy
     subst hy
     intro q
     exact (of_decide_eq_true q).1 rfl
   rw [this,List.append_nil]
  ·rcases r.outk y hy with hy|hy
   ·exact d.outk y hy
   ·exact .inr hy
def sends1(s:Spk):List Sig:=s.peers.flatMap fun p=>(send s p.router).1
def sends(sp:List Spk):List Sig:=sp.flatMap sends1
theorem filter_flat_none{α β:Type}{f:α→List β}{q:β→Bool}{l:List α}(h:∀x∈l,∀y∈f x,q y=false):(l.flatMap f).filter q=[]:=by
 rw [List.filter_eq_nil_iff]
 intro y hy
 obtain ⟨x,hx,hy⟩:=List.mem_flatMap.mp hy
 rw [h x hx y hy];simp
theorem filter_flat_one{α β:Type}{f:α→List β}{q:β→Bool}{key:α→Int}:∀{l:List α},(l.map key).Nodup→∀{z:α},z∈l→(∀x∈l,key x≠key z→∀y∈f x,q y=false)→(l.flatMap f).filter q=(f z).filter q
 | x::l,hn,z,hz,h=>by
  rw [List.flatMap_cons,List.filter_append]
  rw [List.map_cons,List.nodup_cons] at hn
  by_cases e:key x=key z
  ·have:∀w∈l,key w≠key z:=fun w hw q=>hn.1 (by rw [e,←q];exact List.mem_map.mpr ⟨w,hw,rfl⟩)
   rcases List.mem_cons.mp hz with rfl|hz
   ·rw [filter_flat_none fun w hw=>h w (by simp [hw]) (this w hw),List.append_nil]
   ·exact absurd rfl (this z hz)
  ·have hz:z∈l:=by
    rcases List.mem_cons.mp hz with rfl|hz
    ·exact absurd rfl e
    ·exact hz
   rw [filter_flat_one hn.2 hz fun w hw=>h w (by simp [hw])]
   have:List.filter q (f x)=[]:=by
    rw [List.filter_eq_nil_iff];intro y hy;rw [h x (by simp) e y hy];simp
   rw [this,List.nil_append]
theorem sends_tells{R:List Int}{sp:List Spk}{ls:List Lsn}(h:NetOk R sp ls){a b:Int}(ha:a∈R)(hb:b∈R)(hab:a≠b):(sends sp).filter (isTell a b)=(send (atS sp a) b).1:=by
 obtain ⟨h1,h2⟩:=h.s ha
 have sent:∀s∈sp,∀p∈s.peers,∀y∈(send s p.router).1,Sent s p.router y:=fun s hs p hp=>(send_val (h.spo s hs).1 ⟨p,hp,rfl⟩).2
 have hn:(sp.map Spk.router).Nodup:=by rw [h.spr];exact h.nodup
 unfold sends
 rw [filter_flat_one (key:=Spk.router) hn h1 fun s hs hne y hy=>by
  obtain ⟨p,hp,hy⟩:=List.mem_flatMap.mp hy
  have q:=(sent s hs p hp y hy).src
  exact decide_eq_false fun c=>hne (by rw [h2,←q,c.2.1])]
 obtain ⟨z,hz,hzb⟩:=h.peer ha hb hab
 have hpn:((atS sp a).peers.map Per.router).Nodup:=by
  have:=(h.spo _ h1).1.2.2.2.2.2.2
  rw [List.Nodup,List.pairwise_map];exact this.imp fun q=>by omega
 unfold sends1
 rw [filter_flat_one (key:=Per.router) hpn hz fun p hp hne y hy=>by
  have q:=(sent _ h1 p hp y hy).dst
  exact decide_eq_false fun c=>hne (by rw [hzb,←q,c.2.2])]
 rw [hzb,List.filter_eq_self]
 intro y hy
 have q:=sent _ h1 z hz y (by rw [hzb];exact hy)
 exact decide_eq_true ⟨q.kind,q.src.trans h2,q.dst.trans hzb⟩
theorem mem_sends{R:List Int}{sp:List Spk}{ls:List Lsn}(h:NetOk R sp ls){x:Sig}(hx:x∈sends sp):∃a∈R,∃b∈R,a≠b∧Sent (atS sp a) b x:=by
 obtain ⟨s,hs,hx⟩:=List.mem_flatMap.mp hx
 obtain ⟨p,hp,hx⟩:=List.mem_flatMap.mp hx
 have q:=(send_val (h.spo s hs).1 ⟨p,hp,rfl⟩).2 x hx
 have hr:s.router∈R:=by rw [←h.spr];exact List.mem_map.mpr ⟨s,hs,rfl⟩
 have hb:p.router∈R.filter fun r=>decide (r≠s.router):=by rw [←(h.spo s hs).2];exact List.mem_map.mpr ⟨p,hp,rfl⟩
 rw [List.mem_filter] at hb
 refine ⟨s.router,hr,p.router,hb.1,Ne.symm (of_decide_eq_true hb.2),?_⟩
 have:atS sp s.router=s:=atK_eq (key:=Spk.router) h.asc hs
 rw [this];exact q
theorem sends_acks{R:List Int}{sp:List Spk}{ls:List Lsn}(h:NetOk R sp ls)(a b:Int):(sends sp).filter (isAck a b)=[]:=by
 rw [List.filter_eq_nil_iff]
 intro x hx q
 obtain ⟨_,_,_,_,_,s⟩:=mem_sends h hx
 exact s.kind (of_decide_eq_true q).1
theorem ins_pw{α:Type}{R:α→α→Prop}{l:List α}{k:Nat}{x:α}(h:l.Pairwise R)(h1:∀a∈l.take k,R a x)(h2:∀a∈l.drop k,R x a):(insAt l k x).Pairwise R:=by
 have h0:=h
 rw [←List.take_append_drop k l,List.pairwise_append] at h0
 unfold insAt
 rw [List.pairwise_append,List.pairwise_append]
 refine ⟨⟨h0.1,List.pairwise_singleton _ _,fun a ha b hb=>?_⟩,h0.2.1,fun a ha b hb=>?_⟩
 ·rw [List.mem_singleton] at hb;exact hb ▸ h1 a ha
 ·rcases List.mem_append.mp ha with ha|ha
  ·exact h0.2.2 a ha b hb
  ·rw [List.mem_singleton] at ha;exact ha ▸ h2 b hb
theorem mem_insAt{α:Type}{l:List α}{k:Nat}{x y:α}:y∈insAt l k x↔y=x∨y∈l:=by
 rw [(insAt_perm l k x).mem_iff,List.mem_cons]
theorem memP_lo{l:List Mem}{x a:Mem}(h:a∈l.take (memP l x)):memLs a x:=by
 obtain ⟨i,hi,rfl⟩:=List.getElem_of_mem h
 rw [List.getElem_take]
 have:=List.not_of_lt_findIdx (p:=fun y=>!memLt y x) (xs:=l) (i:=i) (by simp at hi;unfold memP at hi;omega)
 have e:(!memLt (l[i]'(by simp at hi;omega)) x)=false:=this
 rw [Bool.not_eq_false'] at e
 exact e
theorem putM_mem{l:List Mem}{x y:Mem}(h:y∈putM l x):y∈l∨y=x:=by
 unfold putM at h
 split at h
 ·rcases List.mem_or_eq_of_mem_set h with h|h
  ·exact .inl h
  ·exact .inr h
 ·exact (mem_insAt.mp h).symm
theorem putM_pw{l:List Mem}{x:Mem}(h:l.Pairwise memLs):(putM l x).Pairwise memLs:=by
 unfold putM
 split
 ·rename_i e
  unfold memE at e
  split at e
  ·rename_i y hy
   have hlt:=lt_of_get hy
   have hyx:y.grp=x.grp∧y.host=x.host:=by simpa using e
   rw [List.pairwise_iff_getElem] at h ⊢
   intro i j hi hj hij
   rw [List.length_set] at hi hj
   have:=h i j hi hj hij
   rw [List.getElem?_eq_getElem hlt] at hy
   have hy:=Option.some.inj hy
   rw [List.getElem_set,List.getElem_set]
   by_cases e1:memP l x=i
   ·rw [if_pos e1,if_neg (by omega)]
    simp only [←e1,hy] at this
    simpa [memLs,bfrM,hyx] using this
   ·rw [if_neg e1]
    by_cases e2:memP l x=j
    ·rw [if_pos e2]
     simp only [←e2,hy] at this
     simpa [memLs,bfrM,hyx] using this
    ·rw [if_neg e2];exact this
  ·cases e
 ·rename_i e
  refine ins_pw h (fun a ha=>memP_lo ha) fun a ha=>?_
  have hlt:memP l x<l.length:=by
   refine Classical.byContradiction fun q=>?_
   rw [List.drop_of_length_le (by omega)] at ha;simp at ha
  have h1:memLt l[memP l x] x=false:=by
   have:=List.findIdx_getElem (p:=fun y=>!memLt y x) (xs:=l) (w:=hlt)
   rw [Bool.not_eq_true'] at this
   exact this
  have h2:¬(l[memP l x].grp=x.grp∧l[memP l x].host=x.host):=fun q=>e (by rw [memE,List.getElem?_eq_getElem hlt];simp [q.1,q.2])
  have h3:memLs x l[memP l x]:=by
   simp only [memLt,Bool.or_eq_false_iff,Bool.and_eq_false_iff,decide_eq_false_iff_not,beq_eq_false_iff_ne] at h1
   simp only [memLs,bfrM,Bool.or_eq_true,Bool.and_eq_true,decide_eq_true_eq,beq_iff_eq]
   omega
  rw [List.drop_eq_getElem_cons hlt] at ha
  rcases List.mem_cons.mp ha with rfl|ha
  ·exact h3
  ·have hp:(l.drop (memP l x)).Pairwise memLs:=h.sublist (List.drop_sublist _ _)
   rw [List.drop_eq_getElem_cons hlt,List.pairwise_cons] at hp
   exact memLs_tr _ _ _ h3 (hp.1 a ha)
structure MemOk (now:Int) (x:Mem):Prop where
  host:1≤x.host∧x.host≤8
  grp:1≤x.grp∧x.grp≤4
  flt:fltErr x.mode x.srcs=0
  no:¬(x.mode=1∧x.srcs=[])
  til:now≤x.til∧x.til≤now+1000
theorem memX_ok(L:List Int)(now:Int)(p:Nat):MemOk now (memX L now p).1:=by
 have hf:=filterT_in L (rawP L (rawP L p))
 have h4:=pickI_in (l:=[0,1,30,1000]) (a:=0) (b:=1000) (by decide) (by decide) (rawV L (filterT L (rawP L (rawP L p))).2)
 have h1:=rng_in (L:=L) (p:=p) (lo:=1) (hi:=8) (by omega)
 have h2:=rng_in (L:=L) (p:=rawP L p) (lo:=1) (hi:=4) (by omega)
 unfold memX
 generalize filterT L (rawP L (rawP L p))=F at *
 refine ⟨h1,h2,?_,?_,by simp only;omega⟩
 ·show fltErr (if F.1.mode=1∧F.1.srcs=[] then 2 else F.1.mode) F.1.srcs=0
  split
  ·rename_i c;rw [c.2];decide
  ·exact hf
 ·show ¬((if F.1.mode=1∧F.1.srcs=[] then 2 else F.1.mode)=1∧F.1.srcs=[])
  split
  ·omega
  ·assumption
theorem memsL_ok{L:List Int}{now:Int}:∀{n:Nat} {l:List Mem} {p:Nat},(∀x∈l,MemOk now x)→l.Pairwise memLs→(∀x∈(memsL L now n l p).1,MemOk now x)∧(memsL L now n l p).1.Pairwise memLs∧(memsL L now n l p).1.length≤l.length+n
 | 0,l,p,h1,h2=>⟨h1,h2,by simp [memsL]⟩
 | n+1,l,p,h1,h2=>by
  rw [memsL]
  obtain ⟨a,b,c⟩:=memsL_ok (L:=L) (now:=now) (n:=n) (l:=putM l (memX L now p).1) (p:=(memX L now p).2)
   (fun x hx=>by
    rcases putM_mem hx with hx|rfl
    ·exact h1 x hx
    ·exact memX_ok L now p) (putM_pw h2)
  have:=putM_len l (memX L now p).1
  exact ⟨a,b,by omega⟩
theorem memsT_ok(L:List Int){n:Int}(p:Nat)(h:0≤n∧n≤1000):(0≤(memsT L n p).1.now∧(memsT L n p).1.now≤998000)∧(∀x∈(memsT L n p).1.list,MemOk (memsT L n p).1.now x)∧(memsT L n p).1.list.Pairwise memLs∧(memsT L n p).1.list.length≤n:=by
 have hnow:=pickI_in (l:=[0,10,500,998000]) (a:=0) (b:=998000) (by decide) (by decide) (rawV L p)
 have hm:=Mod_range (x:=rawV L (rawP L p)) (show 1≤n+1 by omega)
 obtain ⟨a,b,c⟩:=memsL_ok (L:=L) (now:=(memsT L n p).1.now) (n:=(Mod (rawV L (rawP L p)) (n+1)).toNat) (l:=[]) (p:=rawP L (rawP L p)) (by simp) List.Pairwise.nil
 refine ⟨hnow,a,b,?_⟩
 have c:(memsT L n p).1.list.length≤0+(Mod (rawV L (rawP L p)) (n+1)).toNat:=c
 omega
theorem wnt_not{f:Flt}{s:Int}(h:wntF f s=true):¬(f.mode=1∧f.srcs=[]):=by
 rintro ⟨h1,h2⟩
 rw [wntF,h1,h2] at h
 simp at h
structure Fau where
  kind:Int
  pos:Int
def Fau.v(x:Fau):AV:=.agg [.int x.kind,.int x.pos]
def arrK(l late:List Sig)(k:Int)(n:Nat)(x:Sig):List Sig×List Sig:=
 if k=1 then (l.take n++l.drop (n+1),late)
 else if k=2 then (l.take n++[x,x]++l.drop (n+1),late)
 else if k=3 then (l.take n++l.drop (n+1),late++[x])
 else if k=4 then (if n+1<l.length then ((l.set n (l.getD (n+1) sig0)).set (n+1) x,late) else (l,late))
 else (l,late)
def arr1(s:List Sig×List Sig)(f:Fau):List Sig×List Sig:=
 if f.pos<0∨(s.1.length:Int)≤f.pos then s else arrK s.1 s.2 f.kind f.pos.toNat (s.1.getD f.pos.toNat sig0)
def arr(l:List Sig)(f:List Fau):List Sig×List Sig:=f.foldl arr1 (l,[])
theorem arr1_mem{P:Sig→Prop}{s:List Sig×List Sig}{f:Fau}(h1:∀x∈s.1,P x)(h2:∀x∈s.2,P x):(∀x∈(arr1 s f).1,P x)∧∀x∈(arr1 s f).2,P x:=by
 obtain ⟨l,late⟩:=s
 unfold arr1
 split
 ·exact ⟨h1,h2⟩
 rename_i c
 simp only at c h1 h2 ⊢
 have hg:∀n:Nat,n<l.length→P (l.getD n sig0):=fun n hn=>by
  rw [List.getD_eq_getElem?_getD,List.getElem?_eq_getElem hn]
  exact h1 _ (List.getElem_mem hn)
 have hx:=hg f.pos.toNat (by omega)
 generalize l.getD f.pos.toNat sig0=x at *
 generalize f.pos.toNat=n at *
 have hd:∀y∈l.take n++l.drop (n+1),P y:=fun y hy=>by
  rcases List.mem_append.mp hy with hy|hy
  ·exact h1 y (List.mem_of_mem_take hy)
  ·exact h1 y (List.mem_of_mem_drop hy)
 unfold arrK
 split
 ·exact ⟨hd,h2⟩
 split
 ·refine ⟨fun y hy=>?_,h2⟩
  simp only [List.mem_append,List.mem_cons,List.not_mem_nil,or_false] at hy
  rcases hy with (hy|rfl|rfl)|hy
  ·exact h1 y (List.mem_of_mem_take hy)
  ·exact hx
  ·exact hx
  ·exact h1 y (List.mem_of_mem_drop hy)
 split
 ·refine ⟨hd,fun y hy=>?_⟩
  rcases List.mem_append.mp hy with hy|hy
  ·exact h2 y hy
  ·rw [List.mem_singleton] at hy;subst hy;exact hx
 split
 ·split
  ·rename_i q
   refine ⟨fun y hy=>?_,h2⟩
   rcases List.mem_or_eq_of_mem_set hy with hy|rfl
   ·rcases List.mem_or_eq_of_mem_set hy with hy|rfl
    ·exact h1 y hy
    ·exact hg _ q
   ·exact hx
  ·exact ⟨h1,h2⟩
 ·exact ⟨h1,h2⟩
theorem arrs_mem{P:Sig→Prop}:∀{f:List Fau} {s:List Sig×List Sig},(∀x∈s.1,P x)→(∀x∈s.2,P x)→(∀x∈(f.foldl arr1 s).1,P x)∧∀x∈(f.foldl arr1 s).2,P x
 | [],_,h1,h2=>⟨h1,h2⟩
 | f::fs,s,h1,h2=>by
  obtain ⟨a,b⟩:=arr1_mem (f:=f) h1 h2
  exact arrs_mem (f:=fs) a b
theorem arr_mem{P:Sig→Prop}{l:List Sig}{f:List Fau}(h:∀x∈l,P x):(∀x∈(arr l f).1,P x)∧∀x∈(arr l f).2,P x:=arrs_mem h (by simp)
def roundN(o:Ovl)(now late:List Sig):Ovl:=
 ⟨(now.foldl deliver ((o.sp,o.ls),late)).1.1,(now.foldl deliver ((o.sp,o.ls),late)).1.2,(now.foldl deliver ((o.sp,o.ls),late)).2++sends (now.foldl deliver ((o.sp,o.ls),late)).1.1⟩
instance (R:List Int) (s:Spk):Decidable (spOk R s):=by unfold spOk;exact inferInstance
instance (R:List Int) (l:Lsn):Decidable (lnOk R l):=by unfold lnOk;exact inferInstance
instance (R:List Int) (x:Sig):Decidable (sigIn R x):=by unfold sigIn;exact inferInstance
instance (R:List Int) (sp:List Spk) (ls:List Lsn):Decidable (NetOk R sp ls):=
 decidable_of_iff (R.length≤12∧sp.map Spk.router=R∧ls.map Lsn.router=R∧(sp.Pairwise fun x y=>x.router<y.router)∧(∀s∈sp,spOk R s)∧∀l∈ls,lnOk R l)
  ⟨fun ⟨a,b,c,d,e,f⟩=>⟨a,b,c,d,e,f⟩,fun ⟨a,b,c,d,e,f⟩=>⟨a,b,c,d,e,f⟩⟩
instance (o:Ovl):Decidable (ovlOk o):=by unfold ovlOk;exact inferInstance
def roundO(o:Ovl)(f:List Fau):Ovl×Int:=if ¬ovlOk o then (ovl0,1) else (roundN o (arr o.fl f).1 (arr o.fl f).2,0)
def ep(o:Ovl)(a:Int):Int:=(atS o.sp a).epoch
def la(o:Ovl)(a:Int):Int:=(atS o.sp a).last
def it(o:Ovl)(a:Int):List Itm:=(atS o.sp a).items
def pe(o:Ovl)(a b:Int):Per:=pOf (atS o.sp a).peers b
def le(o:Ovl)(b:Int):Int:=(atL o.sp o.ls b).epoch
def he(o:Ovl)(a b:Int):Hrd:=gOf (atL o.sp o.ls b).heard a
def tells(o:Ovl)(a b:Int):List Sig:=o.fl.filter (isTell a b)
def acks(o:Ovl)(a b:Int):List Sig:=o.fl.filter (isAck a b)
structure Round (R:List Int) (o o':Ovl) (now late:List Sig):Prop where
  net:NetOk R o'.sp o'.ls
  fl:∀x∈o'.fl,sigIn R x
  ep:∀a∈R,ep o' a=ep o a
  la:∀a∈R,la o' a=la o a
  it:∀a∈R,it o' a=it o a
  le:∀b∈R,le o' b=le o b
  p:∀a∈R,∀b∈R,a≠b→pe o' a b=ackL (atS o.sp a) (pe o a b) (now.filter (isAck a b))
  g:∀a∈R,∀b∈R,a≠b→he o' a b=hearL (he o a b) (now.filter (isTell a b))
  acks:∀a∈R,∀b∈R,a≠b→acks o' a b=late.filter (isAck a b)++ansL a b (Go.Proofs.YthhpaedpnjdnbaaGreatDoor.le o b) (he o a b) (now.filter (isTell a b))
  tells:∀a∈R,∀b∈R,a≠b→tells o' a b=late.filter (isTell a b)++(send (atS o'.sp a) b).1
theorem roundN_ok{R:List Int}{o:Ovl}(h:NetOk R o.sp o.ls){now late:List Sig}(h1:∀x∈now,sigIn R x)(h2:∀x∈late,sigIn R x):Round R o (roundN o now late) now late:=by
 have d:=delivers_ok (l:=now) (s:=((o.sp,o.ls),late)) h h1
 unfold roundN
 generalize now.foldl deliver ((o.sp,o.ls),late)=s at *
 refine ⟨d.net,fun x hx=>?_,d.epoch,d.last,d.items,d.le,d.p,d.g,fun a ha b hb hab=>?_,fun a ha b hb hab=>?_⟩
 ·rcases List.mem_append.mp hx with hx|hx
  ·rcases d.outk x hx with hx|hx
   ·exact h2 x hx
   ·exact hx
  ·obtain ⟨a,ha,b,hb,_,q⟩:=mem_sends d.net hx
   exact ⟨q.ok,by rw [q.src,(d.net.s ha).2];exact ha,by rw [q.dst];exact hb⟩
 ·show List.filter _ (s.2++sends s.1.1)=_
  rw [List.filter_append,sends_acks d.net,List.append_nil,d.acks a ha b hb hab];rfl
 ·show List.filter _ (s.2++sends s.1.1)=_
  rw [List.filter_append,sends_tells d.net ha hb hab,d.tells a ha b hb hab]
section
variable {e n : Int} {its : List Itm} {p : Per} {le : Int} {g : Hrd}
def Tells(e n:Int)(its:List Itm)(l:List Sig):Prop:=∀x∈l,sigErr x=0∧x.kind≠3∧TellOk e n its x
def AcksOk(e le:Int)(g:Hrd)(l:List Sig):Prop:=∀x∈l,sigErr x=0∧AckOk e le g x
end
structure OI (R:List Int) (o:Ovl):Prop where
  net:NetOk R o.sp o.ls
  fl:∀x∈o.fl,sigIn R x
  pi:∀a∈R,∀b∈R,a≠b→PI (ep o a) (la o a) (it o a) (pe o a b) (le o b) (he o a b)
  tell:∀a∈R,∀b∈R,a≠b→Tells (ep o a) (la o a) (it o a) (tells o a b)
  ack:∀a∈R,∀b∈R,a≠b→AcksOk (ep o a) (le o b) (he o a b) (acks o a b)
theorem OI.ok{R:List Int}{o:Ovl}(h:OI R o):ovlOk o:=by
 have e:rtrs o.sp=R:=h.net.spr
 exact ⟨by rw [e];exact h.net,by rw [e];exact h.fl⟩
section
variable {R : List Int} {o : Ovl}
variable {a b : Int}
end
section
variable {R : List Int} {sp : List Spk} {ls : List Lsn}
structure SetS (R:List Int) (sp:List Spk) (ls:List Lsn) (r:Int) (z:Spk):Prop where
  net:NetOk R (sp.set (posS sp r) z) ls
  s:∀a∈R,atS (sp.set (posS sp r) z) a=if a=r then z else atS sp a
  l:∀b,atL (sp.set (posS sp r) z) ls b=atL sp ls b
  pos:∀b,posS (sp.set (posS sp r) z) b=posS sp b
theorem NetOk.setS(h:NetOk R sp ls){r:Int}(hr:r∈R){z:Spk}(hz:z.router=r)(hok:spOk R z):SetS R sp ls r z:=by
 obtain ⟨h1,h2⟩:=h.s hr
 have hr':∃w∈sp,w.router=r:=⟨_,h1,h2⟩
 have hkeys:(sp.set (posS sp r) z).map Spk.router=sp.map Spk.router:=keys_set (key:=Spk.router) h.asc hr' hz
 have hpos:∀b,posS (sp.set (posS sp r) z) b=posS sp b:=fun b=>posK_keys (key:=Spk.router) (key':=Spk.router) hkeys b
 refine ⟨⟨h.len,hkeys.trans h.spr,h.lsr,sort_setK (key:=Spk.router) h.asc hr' hz,fun w hw=>?_,h.lso⟩,fun a ha =>
   getK_set (key:=Spk.router) (d:=spk0) h.asc hr' hz (by rw [←h.spr] at ha;exact mem_keys.mp ha),fun b=>by unfold atL;rw [hpos],hpos⟩
 rcases (mem_setK (key:=Spk.router) h.asc hr' w).mp hw with rfl|⟨hw,_⟩
 ·exact hok
 ·exact h.spo w hw
theorem NetOk.setL(h:NetOk R sp ls){r:Int}(hr:r∈R){z:Lsn}(hz:z.router=r)(hok:lnOk R z) :
  NetOk R sp (ls.set (posS sp r) z)∧∀b∈R,atL sp (ls.set (posS sp r) z) b=if b=r then z else atL sp ls b:=by
 obtain ⟨h1,h2⟩:=h.l hr
 have hr':∃w∈ls,w.router=r:=⟨_,h1,h2⟩
 have hpos:=h.posL r
 have hkeys:(ls.set (posS sp r) z).map Lsn.router=ls.map Lsn.router:=by rw [hpos];exact keys_set (key:=Lsn.router) h.ascL hr' hz
 refine ⟨⟨h.len,h.spr,hkeys.trans h.lsr,h.asc,h.spo,fun w hw=>?_⟩,fun b hb=>?_⟩
 ·rw [hpos] at hw
  rcases (mem_setK (key:=Lsn.router) h.ascL hr' w).mp hw with rfl|⟨hw,_⟩
  ·exact hok
  ·exact h.lso w hw
 ·have e:=getK_set (key:=Lsn.router) (d:=lsn0) h.ascL hr' hz (q:=b) (by rw [←h.lsr] at hb;exact mem_keys.mp hb)
  rw [←hpos] at e
  have e2:posS sp b=posK Lsn.router (ls.set (posS sp r) z) b:=posK_keys (key:=Spk.router) (key':=Lsn.router) (h.spr.trans (h.lsr.symm.trans hkeys.symm)) b
  unfold atL
  rw [e2,e,←e2,h.posL b]
end
def changeV(o:Ovl)(r:Int)(w:List Wnt):Ovl×Int:=
 if ¬ovlOk o then (ovl0,1) else if r ∉ rtrs o.sp then (ovl0,4) else if wErr false w≠0 then (ovl0,wErr false w)
 else if (changes (wantsOf (atS o.sp r).items) w).2≠0 then (ovl0,(changes (wantsOf (atS o.sp r).items) w).2)
 else if (change (atS o.sp r) (changes (wantsOf (atS o.sp r).items) w).1).2≠0 then (ovl0,(change (atS o.sp r) (changes (wantsOf (atS o.sp r).items) w).1).2)
 else (⟨o.sp.set (posS o.sp r) (change (atS o.sp r) (changes (wantsOf (atS o.sp r).items) w).1).1,o.ls,o.fl⟩,0)
def restartV(o:Ovl)(r:Int)(w:List Wnt):Ovl×Int:=
 if ¬ovlOk o then (ovl0,1) else if r ∉ rtrs o.sp then (ovl0,4)
 else if (restart (atS o.sp r) w).2≠0 then (ovl0,(restart (atS o.sp r) w).2)
 else if (atL o.sp o.ls r).epoch=1000000 then (ovl0,3)
 else (⟨o.sp.set (posS o.sp r) (restart (atS o.sp r) w).1,o.ls.set (posS o.sp r) ⟨r,(atL o.sp o.ls r).epoch+1,[]⟩,o.fl⟩,0)
instance (s:Spk) (l:Lsn):Decidable (agree s l):=by unfold agree;exact inferInstance
theorem OI.agree{R:List Int}{o:Ovl}(h:OI R o){a b:Int}(ha:a∈R)(hb:b∈R)(hab:a≠b)(hg:(he o a b).epoch=ep o a∧(he o a b).ver=la o a) :
  Go.Proofs.YthhpaedpnjdnbaaGreatDoor.agree (atS o.sp a) (atL o.sp o.ls b):=by
 obtain ⟨q1,q2⟩:=h.net.s ha
 obtain ⟨m1,m2⟩:=h.net.l hb
 have hp:=h.pi a ha b hb hab
 unfold he ep la it pe le at *
 exact (Done.agree (q:=b) (h.net.spo _ q1).1 (h.net.lso _ m1).1 (by rw [q2];exact hp) (by rw [q2];exact hg)).1
def knownV(o:Ovl)(at_ of:Int):List Wnt×Int:=
 if ¬ovlOk o then ([],1) else if at_ ∉ rtrs o.sp∨of ∉ rtrs o.sp then ([],4)
 else if at_=of then (wantsOf (atS o.sp of).items,0) else (knownW (atL o.sp o.ls at_) of,0)
def okR(l:List Int):Prop:=l.length≤12∧(∀r∈l,1≤r∧r≤99)∧l.Pairwise (·<·)
instance (l:List Int):Decidable (okR l):=by unfold okR;exact inferInstance
def spkN(l:List Int)(r:Int):Spk:=⟨r,1,0,[],(l.filter fun x=>decide (x≠r)).map fun x=>⟨x,0,0⟩⟩
def lsnN(r:Int):Lsn:=⟨r,1,[]⟩
def netOf(l:List Int):Ovl:=⟨l.map (spkN l),l.map lsnN,[]⟩
def newN(l:List Int):Ovl×Int:=if okR l then (netOf l,0) else (ovl0,1)
section
variable {l : List Int}
theorem spkN_ok(h:okR l){r:Int}(hr:r∈l):spOk l (spkN l r):=by
 obtain ⟨h1,h2,h3⟩:=h
 have hl:(l.filter fun x=>decide (x≠r)).length≤12:=Nat.le_trans (List.length_filter_le _ _) h1
 refine ⟨⟨h2 r hr,⟨Int.le_refl 1,show (1:Int)≤1000000 by omega⟩,⟨Int.le_refl 0,show (0:Int)≤1000000 by omega⟩,⟨by simp [spkN],by simp [spkN],by simp [spkN]⟩,by simpa [spkN] using hl,fun p hp=>?_,?_⟩,?_⟩
 ·obtain ⟨x,hx,rfl⟩:=List.mem_map.mp hp
  rw [List.mem_filter] at hx
  exact ⟨h2 x hx.1,show ¬x=r by simpa using hx.2,⟨Int.le_refl 0,show (0:Int)≤1000000 by omega⟩,⟨Int.le_refl 0,Int.le_refl 0⟩⟩
 ·show ((l.filter fun x=>decide (x≠r)).map fun x=>(⟨x,0,0⟩:Per)).Pairwise _
  rw [List.pairwise_map];exact h3.filter _
 ·show (((l.filter fun x=>decide (x≠r)).map fun x=>(⟨x,0,0⟩:Per)).map Per.router)=_
  rw [List.map_map]
  show List.map (fun x=>x) _=_
  rw [List.map_id'']
  ·rfl
  ·intro x;rfl
theorem lsnN_ok(h:okR l){r:Int}(hr:r∈l):lnOk l (lsnN r):=
 ⟨⟨h.2.1 r hr,⟨Int.le_refl 1,show (1:Int)≤1000000 by omega⟩,by simp [lsnN],by simp [lsnN],by simp [lsnN]⟩,by simp [lsnN]⟩
theorem netOf_net(h:okR l):NetOk l (netOf l).sp (netOf l).ls:=by
 refine ⟨h.1,?_,?_,?_,fun s hs=>?_,fun s hs=>?_⟩
 ·show (l.map (spkN l)).map Spk.router=l
  rw [List.map_map]
  exact List.map_id'' (fun x=>rfl) l
 ·show (l.map lsnN).map Lsn.router=l
  rw [List.map_map]
  exact List.map_id'' (fun x=>rfl) l
 ·show (l.map (spkN l)).Pairwise _
  rw [List.pairwise_map];exact h.2.2
 ·obtain ⟨r,hr,rfl⟩:=List.mem_map.mp hs;exact spkN_ok h hr
 ·obtain ⟨r,hr,rfl⟩:=List.mem_map.mp hs;exact lsnN_ok h hr
end
theorem arr1_len{s:List Sig×List Sig}{f:Fau}:(arr1 s f).1.length+(arr1 s f).2.length≤s.1.length+s.2.length+1:=by
 obtain ⟨l,late⟩:=s
 unfold arr1
 split
 ·simp only;omega
 rename_i c
 simp only at c ⊢
 generalize hn:f.pos.toNat=n
 have hn2:n<l.length:=by omega
 have hm:min n l.length=n:=by omega
 unfold arrK
 repeat' split
 all_goals simp only [List.length_append,List.length_take,List.length_drop,List.length_cons,List.length_nil,List.length_set,hm]
 all_goals omega
theorem arrs_len:∀{f:List Fau} {s:List Sig×List Sig},(f.foldl arr1 s).1.length+(f.foldl arr1 s).2.length≤s.1.length+s.2.length+f.length
 | [],s=>by simp
 | f::fs,s=>by
  have h1:=arr1_len (s:=s) (f:=f)
  have h2:=arrs_len (f:=fs) (s:=arr1 s f)
  rw [List.foldl_cons,List.length_cons];omega
theorem arr_len{l:List Sig}{f:List Fau}:(arr l f).1.length+(arr l f).2.length≤l.length+f.length:=by
 have:=arrs_len (f:=f) (s:=(l,[]))
 simpa [arr] using this
theorem deliver_len{s:Rnd}{x:Sig}:(deliver s x).2.length≤s.2.length+1:=by
 unfold deliver
 repeat' split
 all_goals simp
theorem delivers_len:∀{l:List Sig} {s:Rnd},(l.foldl deliver s).2.length≤s.2.length+l.length
 | [],s=>by simp
 | x::l,s=>by
  have h1:=deliver_len (s:=s) (x:=x)
  have h2:=delivers_len (l:=l) (s:=deliver s x)
  rw [List.foldl_cons,List.length_cons];omega
theorem flat_len{α β:Type}{f:α→List β}{k:Nat}:∀{l:List α},(∀x∈l,(f x).length≤k)→(l.flatMap f).length≤l.length * k
 | [],_=>by simp
 | x::l,h=>by
  have h1:=h x (by simp)
  have h2:=flat_len (l:=l) fun y hy=>h y (by simp [hy])
  rw [List.flatMap_cons,List.length_append,List.length_cons,Nat.succ_mul];omega
theorem sendFrom_le{s:Spk}{to acked:Int}:∀{r:List Itm} {prev:Int},(sendFrom s to acked prev r).length≤r.length
 | [],_=>by simp [sendFrom]
 | y::r,prev=>by
  have:=sendFrom_le (s:=s) (to:=to) (acked:=acked) (r:=r) (prev:=y.ver)
  rw [sendFrom]
  split<;>simp only [List.length_append,List.length_cons,List.length_nil]<;>omega
theorem ver_len{l:List Itm}{n:Int}(h:itmsOk n l):l.length≤99:=by
 have hn:(l.map Itm.grp).Nodup:=h.2.1
 have:=nodup_sub hn (R:=(List.range 99).map fun i:Nat=>(i:Int)+1) fun x hx=>by
  obtain ⟨y,hy,rfl⟩:=List.mem_map.mp hx
  have:=(h.1 y hy).2.1
  rw [List.mem_map]
  exact ⟨(y.grp-1).toNat,by rw [List.mem_range];omega,by omega⟩
 simpa using this
theorem send_le{s:Spk}{to:Int}:(send s to).1.length≤100:=by
 unfold send
 split
 ·simp
 split
 ·simp
 rename_i h _
 have:=ver_len (Classical.not_not.mp h).2.2.2.1
 simp only [List.length_cons]
 have h2:=sendFrom_le (s:=s) (to:=to) (acked:=(pOf s.peers to).acked) (r:=s.items) (prev:=0)
 have h3:∀ak,(sendFrom s to ak 0 s.items).length≤s.items.length:=fun _=>sendFrom_le
 have:=h3 (s.peers.getD (posP s.peers to) ⟨0,0,0⟩).acked
 omega
theorem sends_len{R:List Int}{sp:List Spk}{ls:List Lsn}(h:NetOk R sp ls):(sends sp).length≤14400:=by
 have h1:(sends sp).length≤sp.length * 1200:=flat_len fun s hs=>by
  have:(sends1 s).length≤s.peers.length * 100:=flat_len fun p _=>send_le
  have:=(h.spo s hs).1.2.2.2.2.1
  omega
 have h2:sp.length=R.length:=by rw [←h.spr,List.length_map]
 have:=h.len
 omega
section
variable {R : List Int} {o : Ovl}
end
def faultsL(L:List Int)(n:Int):Nat→List Fau→Nat→List Fau×Nat
 | 0,out,p=>(out,p)
 | k+1,out,p=>faultsL L n k (out++[⟨rng L p 0 5,Mod (rawV L (rawP L p)) (W (n+2))⟩]) (rawP L (rawP L p))
def faultsT(L:List Int)(n:Int)(p:Nat):List Fau×Nat:=faultsL L n (Mod (rawV L p) 4).toNat [] (rawP L p)
def heavyL(L:List Int):Nat→List Fau→Nat→List Fau×Nat
 | 0,out,p=>(out,p)
 | k+1,out,p=>if 0<Mod (rawV L p) 3 then heavyL L k (out++[⟨pickI [1,1,2,3,4] (rawV L (rawP L p)),k⟩]) (rawP L (rawP L p)) else heavyL L k out (rawP L p)
def heavyT(L:List Int)(n:Int)(p:Nat):List Fau×Nat:=heavyL L n.toNat [] p
theorem faultsL_len{L:List Int}{n:Int}:∀{k:Nat} {out:List Fau} {p:Nat},(faultsL L n k out p).1.length=out.length+k
 | 0,out,p=>rfl
 | k+1,out,p=>by rw [faultsL,faultsL_len];simp;omega
theorem faultsT_len{L:List Int}{n:Int}{p:Nat}:(faultsT L n p).1.length≤3:=by
 unfold faultsT
 rw [faultsL_len]
 have:=Mod_range (x:=rawV L p) (n:=4) (by omega)
 simp only [List.length_nil];omega
theorem heavyL_len{L:List Int}:∀{k:Nat} {out:List Fau} {p:Nat},(heavyL L k out p).1.length≤out.length+k
 | 0,out,p=>Nat.le_refl _
 | k+1,out,p=>by
  rw [heavyL]
  split
  ·have:=heavyL_len (L:=L) (k:=k) (out:=out++[⟨pickI [1,1,2,3,4] (rawV L (rawP L p)),k⟩]) (p:=rawP L (rawP L p))
   simp only [List.length_append,List.length_singleton] at this;omega
  ·have:=heavyL_len (L:=L) (k:=k) (out:=out) (p:=rawP L p)
   omega
theorem heavyT_len{L:List Int}{n:Int}{p:Nat}:(heavyT L n p).1.length≤n.toNat:=by
 have:=heavyL_len (L:=L) (k:=n.toNat) (out:=[]) (p:=p)
 simpa [heavyT] using this
def orO(o:Ovl)(x:Ovl×Int):Ovl:=if x.2≠0 then o else x.1
def actT(L:List Int)(p:Nat)(o:Ovl):Ovl×Nat:=
 if Mod (rawV L (rawP L p)) 6=0∨Mod (rawV L (rawP L p)) 6=1 then
  (orO o (changeV o (o.sp.getD (Mod (rawV L p) o.sp.length).toNat spk0).router (wantsT L (rawP L (rawP L p))).1),(wantsT L (rawP L (rawP L p))).2)
 else if Mod (rawV L (rawP L p)) 6=2 then
  (orO o (restartV o (o.sp.getD (Mod (rawV L p) o.sp.length).toNat spk0).router (wantsT L (rawP L (rawP L p))).1),(wantsT L (rawP L (rawP L p))).2)
 else if Mod (rawV L (rawP L p)) 6=3 then
  (orO o (roundO o (heavyT L (min o.fl.length 40) (rawP L (rawP L p))).1),(heavyT L (min o.fl.length 40) (rawP L (rawP L p))).2)
 else (orO o (roundO o (faultsT L o.fl.length (rawP L (rawP L p))).1),(faultsT L o.fl.length (rawP L (rawP L p))).2)
section
variable {R : List Int} {o : Ovl} {L : List Int}
end
theorem rtsL_ok{L:List Int}:∀{n:Nat} {id:Int} {p:Nat} {rs:List Rtr},0≤id→(rs.map Rtr.id).Pairwise (·<·)→(∀r∈rs,1≤r.id∧r.id≤id∧r.cap=true) →
  ((rtsL L n id p rs).1.map Rtr.id).Pairwise (·<·)∧∀r∈(rtsL L n id p rs).1,1≤r.id∧r.id≤id+5 * n∧r.cap=true
 | 0,id,p,rs,h0,h1,h2=>⟨h1,fun r hr=>by have:=h2 r hr;exact ⟨this.1,by omega,this.2.2⟩⟩
 | n+1,id,p,rs,h0,h1,h2=>by
  have h5:=pick5 (L:=L) (p:=p)
  rw [rtsL]
  obtain ⟨a,b⟩:=rtsL_ok (L:=L) (n:=n) (id:=id+pickI [1,1,1,2,5] (rawV L p)) (p:=rawP L p) (rs:=rs++[⟨id+pickI [1,1,1,2,5] (rawV L p),true⟩]) (by omega)
   (by
    rw [List.map_append,List.pairwise_append]
    refine ⟨h1,List.pairwise_singleton _ _,fun x hx y hy=>?_⟩
    obtain ⟨r,hr,rfl⟩:=List.mem_map.mp hx
    have:=h2 r hr
    have hy:y=id+pickI [1,1,1,2,5] (rawV L p):=by simpa using hy
    omega)
   (fun r hr=>by
    rcases List.mem_append.mp hr with hr|hr
    ·have:=h2 r hr;exact ⟨this.1,by omega,this.2.2⟩
    ·have hr:r=⟨id+pickI [1,1,1,2,5] (rawV L p),true⟩:=by simpa using hr
     subst hr;exact ⟨by show 1≤id+_;omega,Int.le_refl _,rfl⟩)
  exact ⟨a,fun r hr=>by have:=b r hr;exact ⟨this.1,by omega,this.2.2⟩⟩
theorem topoT_rs{L:List Int}{p:Nat}{most:Int}(h:1≤most∧most≤100):(1≤(topoT L p most).1.rs.length∧(topoT L p most).1.rs.length≤most)∧((topoT L p most).1.rs.map Rtr.id).Pairwise (·<·) ∧
  ∀r∈(topoT L p most).1.rs,1≤r.id∧r.id≤5 * most∧r.cap=true:=by
 have hn:=rng_in (L:=L) (p:=p) (lo:=1) (hi:=most) (by omega)
 have hl:(topoT L p most).1.rs.length=(rng L p 1 most).toNat:=by
  show (topoR L p most).1.length=_
  rw [topoR,rtsL_len];simp
 obtain ⟨a,b⟩:=rtsL_ok (L:=L) (n:=(rng L p 1 most).toNat) (id:=0) (p:=rawP L p) (rs:=[]) (by omega) List.Pairwise.nil (by simp)
 exact ⟨by omega,a,fun r hr=>by have:=b r hr;exact ⟨this.1,by omega,this.2.2⟩⟩
structure EsOk (rs:List Rtr) (ks:List Int) (id:Int) (es:List Edg):Prop where
  nd:(es.map Edg.router).Nodup
  at_:∀e∈es,∃(j:Nat) (r:Rtr),(j:Int) ∉ ks∧rs[j]?=some r∧r.id=e.router
  asc:(es.map Edg.id).Pairwise (·<·)
  ids:∀e∈es,1≤e.id∧e.id≤id
theorem plnL_ok{L:List Int}{rs:List Rtr}(hid:(rs.map Rtr.id).Pairwise (·<·)):∀{ks:List Int} {id:Int} {es:List Edg} {p:Nat},ks.Nodup→(∀k∈ks,0≤k∧k<rs.length)→0≤id→EsOk rs ks id es →
  EsOk rs [] (id+9 * ks.length) (plnL L rs ks id es p).1∧(plnL L rs ks id es p).1.length≤es.length+ks.length
 | [],id,es,p,h1,h2,h0,h=>⟨⟨h.nd,h.at_,h.asc,fun e he=>by have:=h.ids e he;simp;omega⟩,by simp [plnL]⟩
 | k::ks,id,es,p,h1,h2,h0,h=>by
  have hk:=h2 k (by simp)
  have hn:=List.nodup_cons.mp h1
  have h9:=pickI_in (l:=[1,1,1,2,7,9]) (a:=1) (b:=9) (by decide) (by decide) (rawV L (rawP L p))
  rw [plnL]
  split
  ·obtain ⟨a,b⟩:=plnL_ok hid (L:=L) (ks:=ks) (id:=id) (es:=es) (p:=rawP L p) hn.2 (fun x hx=>h2 x (by simp [hx])) h0 ⟨h.nd,fun e he=>by
    obtain ⟨j,r,q1,q2⟩:=h.at_ e he
    exact ⟨j,r,fun q=>q1 (by simp [q]),q2⟩,h.asc,h.ids⟩
   exact ⟨⟨a.nd,a.at_,a.asc,fun e he=>by have:=a.ids e he;simp;omega⟩,by simp;omega⟩
  ·have hlt:k.toNat<rs.length:=by omega
   have hr:rs[k.toNat]?=some rs[k.toNat]:=List.getElem?_eq_getElem hlt
   have hg:rs.getD k.toNat ⟨0,false⟩=rs[k.toNat]:=by rw [List.getD_eq_getElem?_getD,hr];rfl
   rw [hg]
   generalize hq:id+pickI [1,1,1,2,7,9] (rawV L (rawP L p))=id' at *
   obtain ⟨a,b⟩:=plnL_ok hid (L:=L) (ks:=ks) (id:=id') (es:=es++[⟨rs[k.toNat].id,id'⟩]) (p:=rawP L (rawP L p)) hn.2 (fun x hx=>h2 x (by simp [hx])) (by omega) (by
    refine ⟨?_,fun e he=>?_,?_,fun e he=>?_⟩
    ·rw [List.map_append,List.nodup_append]
     refine ⟨h.nd,by simp,fun x hx y hy=>?_⟩
     obtain ⟨e,he,rfl⟩:=List.mem_map.mp hx
     obtain ⟨j,r,q1,q2,q3⟩:=h.at_ e he
     have hy:y=rs[k.toNat].id:=by simpa using hy
     rintro rfl
     have hj:=lt_of_get q2
     rw [List.getElem?_eq_getElem hj] at q2
     have q2:=Option.some.inj q2
     have hne:j≠k.toNat:=fun e'=>q1 (by subst e';rw [show ((k.toNat:Nat):Int)=k by omega];simp)
     rw [List.pairwise_iff_getElem] at hid
     have e1:(rs.map Rtr.id)[j]'(by simpa using hj)=(rs.map Rtr.id)[k.toNat]'(by simpa using hlt):=by
      rw [List.getElem_map,List.getElem_map,q2,q3];exact hy
     rcases Nat.lt_or_gt_of_ne hne with c|c
     ·have:=hid j k.toNat (by simpa using hj) (by simpa using hlt) c;omega
     ·have:=hid k.toNat j (by simpa using hlt) (by simpa using hj) c;omega
    ·rcases List.mem_append.mp he with he|he
     ·obtain ⟨j,r,q1,q2⟩:=h.at_ e he
      exact ⟨j,r,fun q=>q1 (by simp [q]),q2⟩
     ·have he:e=⟨rs[k.toNat].id,id'⟩:=by simpa using he
      subst he
      exact ⟨k.toNat,_,by rw [show ((k.toNat:Nat):Int)=k by omega];exact hn.1,hr,rfl⟩
    ·rw [List.map_append,List.pairwise_append]
     refine ⟨h.asc,List.pairwise_singleton _ _,fun x hx y hy=>?_⟩
     obtain ⟨e,he,rfl⟩:=List.mem_map.mp hx
     have:=h.ids e he
     have hy:y=id':=by simpa using hy
     omega
    ·rcases List.mem_append.mp he with he|he
     ·have:=h.ids e he;omega
     ·have he:e=⟨rs[k.toNat].id,id'⟩:=by simpa using he
      subst he;exact ⟨by show 1≤id';omega,Int.le_refl _⟩)
   refine ⟨⟨a.nd,a.at_,a.asc,fun e he=>by have:=a.ids e he;simp;omega⟩,?_⟩
   simp at b ⊢;omega
structure PlnOk (t:Tpl) (p:Pln):Prop where
  nd:(p.es.map Edg.router).Nodup
  at_:∀e∈p.es,∃r∈t.rs,r.id=e.router
  asc:(p.es.map Edg.id).Pairwise (·<·)
  ids:∀e∈p.es,1≤e.id∧e.id≤9 * t.rs.length
  sub:0≤p.sub∧p.sub≤2
  len:p.len=8∨p.len=16∨p.len=32∨p.len=64∨p.len=0∧p.es=[]
  es:p.es.length≤t.rs.length
theorem plnT_ok{L:List Int}{p:Nat}{t:Tpl}(hid:(t.rs.map Rtr.id).Pairwise (·<·)):PlnOk t (plnT L p t).1:=by
 obtain ⟨o1,o2⟩:=ordT_facts (L:=L) (n:=(t.rs.length:Int)) (p:=rawP L p) (by omega)
 have hl:(ordT L (t.rs.length:Int) (rawP L p)).1.length=t.rs.length:=by rw [ordT_len];simp
 obtain ⟨a,b⟩:=plnL_ok hid (L:=L) (ks:=(ordT L (t.rs.length:Int) (rawP L p)).1) (id:=0) (es:=[]) (p:=(ordT L (t.rs.length:Int) (rawP L p)).2) o1 o2 (by omega) ⟨by simp,by simp,by simp,by simp⟩
 rw [hl] at a b
 have h3:=Mod_range (x:=rawV L p) (show 1≤(3:Int) by omega)
 have h5:pickI [8,8,16,32,64] (rawV L (plnR L p t).2)∈([8,8,16,32,64]:List Int):=pickI_mem (by decide) _
 have h5:pickI [8,8,16,32,64] (rawV L (plnR L p t).2)=8∨pickI [8,8,16,32,64] (rawV L (plnR L p t).2)=16∨pickI [8,8,16,32,64] (rawV L (plnR L p t).2)=32∨pickI [8,8,16,32,64] (rawV L (plnR L p t).2)=64:=by
  simp only [List.mem_cons,List.not_mem_nil,or_false] at h5;omega
 have hes:(plnT L p t).1.es=(plnR L p t).1:=by unfold plnT;split<;>rfl
 have hsub:(plnT L p t).1.sub=Mod (rawV L p) 3:=by unfold plnT;split<;>rfl
 have a:EsOk t.rs [] (0+9 * t.rs.length) (plnR L p t).1:=a
 refine ⟨hes ▸ a.nd,fun e he=>?_,hes ▸ a.asc,fun e he=>?_,by omega,?_,by rw [hes];have b:(plnR L p t).1.length≤0+t.rs.length:=b;omega⟩
 ·rw [hes] at he
  obtain ⟨j,r,_,q2,q3⟩:=a.at_ e he
  exact ⟨r,mem_of_get q2,q3⟩
 ·rw [hes] at he
  have:=a.ids e he;omega
 ·unfold plnT
  split
  ·show _=_∨_;rcases h5 with h|h|h|h<;>simp [h]
  ·rename_i c
   right;right;right;right
   exact ⟨rfl,List.eq_nil_of_length_eq_zero (show (plnR L p t).1.length=0 by omega)⟩
structure Sit where
  router:Int
  now:Int
  list:List Mem
  deriving DecidableEq
structure Scn where
  rs:List Rtr
  ls:List Lnk
  sub:Int
  len:Int
  es:List Edg
  sites:List Sit
  sp:List Spk
  lsn:List Lsn
  fl:List Sig
def Sit.v(x:Sit):AV:=.agg [.int x.router,.int x.now,.sl 5 (x.list.map Mem.v) false]
def rtsP(es:List Edg):List Int:=es.foldl (fun out e=>put out e.router) []
def shM(d h:Int)(x:Mem):Mem:=⟨h+x.host,x.grp,x.mode,x.srcs,x.til+d⟩
def sitsL(L:List Int)(now:Int):List Int→List Sit→Nat→List Sit×Nat
 | [],out,p=>(out,p)
 | r::rs,out,p=>sitsL L now rs (out++[⟨r,now,(memsT L 4 p).1.list.map (shM (now-(memsT L 4 p).1.now) (10 * out.length))⟩]) (memsT L 4 p).2
def actsL(L:List Int)(b:Bool):Nat→Ovl×Nat→Ovl×Nat
 | 0,s=>s
 | n+1,s=>actsL L b n (if b=true then actT L s.2 s.1 else s)
def chg1L(L:List Int)(x:Sit)(s:Ovl×Nat):Ovl×Nat:=
 if (ofW ⟨x.now,x.list⟩).2=0 then (if 0<Mod (rawV L s.2) 6 then (orO s.1 (changeV s.1 x.router (ofW ⟨x.now,x.list⟩).1),rawP L s.2) else (s.1,rawP L s.2)) else s
def chgsL(L:List Int):List Sit→Ovl×Nat→Ovl×Nat
 | [],s=>s
 | x::xs,s=>chgsL L xs (chg1L L x s)
def rndsL(L:List Int):Nat→Ovl×Nat→Ovl×Nat
 | 0,s=>s
 | n+1,s=>rndsL L n ((roundO s.1 (faultsT L s.1.fl.length s.2).1).1,(faultsT L s.1.fl.length s.2).2)
def scnP(L:List Int)(p:Nat)(most:Int):Pln×Nat:=plnT L (topoT L p most).2 (topoT L p most).1
def scnR(L:List Int)(p:Nat)(most:Int):List Int:=rtsP (scnP L p most).1.es
def scnN(L:List Int)(p:Nat)(most:Int):Int:=pickI [0,100] (rawV L (scnP L p most).2)
def scnS(L:List Int)(p:Nat)(most:Int):List Sit×Nat:=sitsL L (scnN L p most) (scnR L p most) [] (rawP L (scnP L p most).2)
def scnA(L:List Int)(p:Nat)(most:Int):Ovl×Nat:=
 actsL L (decide (0<(scnR L p most).length)) (Mod (rawV L (scnS L p most).2) 4).toNat ((newN (scnR L p most)).1,rawP L (scnS L p most).2)
def scnC(L:List Int)(p:Nat)(most:Int):Ovl×Nat:=chgsL L (scnS L p most).1 (scnA L p most)
def scnZ(L:List Int)(p:Nat)(most:Int):Ovl×Nat:=rndsL L (Mod (rawV L (scnC L p most).2) 4).toNat ((scnC L p most).1,rawP L (scnC L p most).2)
def scnT(L:List Int)(p:Nat)(most:Int):Scn×Nat:=
 (⟨(topoT L p most).1.rs,(topoT L p most).1.ls,(scnP L p most).1.sub,(scnP L p most).1.len,(scnP L p most).1.es,(scnS L p most).1,(scnZ L p most).1.sp,(scnZ L p most).1.ls,(scnZ L p most).1.fl⟩,(scnZ L p most).2)
theorem rtsP_ok(es:List Edg):(rtsP es).Pairwise (·<·)∧(∀r,r∈rtsP es↔∃e∈es,e.router=r)∧(rtsP es).length≤es.length:=by
 have key:∀(l:List Edg) (s:List Int),ascI s→ascI (l.foldl (fun out e=>put out e.router) s)∧(∀g,g∈l.foldl (fun out e=>put out e.router) s↔g∈s∨∃x∈l,x.router=g)∧(l.foldl (fun out e=>put out e.router) s).length≤s.length+l.length:=by
  intro l
  induction l with
  | nil=>intro s hs;exact ⟨hs,fun g=>by simp,by simp⟩
  | cons x l ih =>
   intro s hs
   obtain ⟨a,b,c⟩:=ih (put s x.router) (put_asc hs)
   have:=put_length s x.router
   refine ⟨a,fun g=>?_,by simp only [List.foldl_cons,List.length_cons];omega⟩
   rw [List.foldl_cons,b]
   have hp:g∈put s x.router↔g∈s∨g=x.router:=by
    refine ⟨put_mem,fun q=>?_⟩
    unfold put
    split
    ·rename_i e
     rcases q with q|q
     ·exact q
     ·exact q ▸ mem_of_get e
    ·exact mem_insAt.mpr q.symm
   rw [hp]
   constructor
   ·rintro ((q|q)|⟨y,q1,q2⟩)
    ·exact .inl q
    ·exact .inr ⟨x,by simp,q.symm⟩
    ·exact .inr ⟨y,by simp [q1],q2⟩
   ·rintro (q|⟨y,q1,q2⟩)
    ·exact .inl (.inl q)
    ·rcases List.mem_cons.mp q1 with rfl|q1
     ·exact .inl (.inr q2.symm)
     ·exact .inr ⟨y,q1,q2⟩
 obtain ⟨a,b,c⟩:=key es [] (asc_pw.mpr List.Pairwise.nil)
 exact ⟨asc_pw.mp a,fun g=>by rw [rtsP,b];simp,Nat.le_trans c (by simp)⟩
structure SitOk (now:Int) (x:Sit):Prop where
  now_:x.now=now
  err:memErr ⟨x.now,x.list⟩=0
  grp:∀y∈x.list,1≤y.grp∧y.grp≤4
theorem shM_ok{m:Mems}{now d h:Int}(h1:∀x∈m.list,MemOk m.now x)(h2:m.list.Pairwise memLs)(h3:m.list.length≤64)(hd:d=now-m.now)(hn:0≤now∧now≤1000000)(hh:0≤h∧h≤90) :
  memErr ⟨now,m.list.map (shM d h)⟩=0∧∀y∈m.list.map (shM d h),1≤y.grp∧y.grp≤4:=by
 refine ⟨memErr_ok hn (by simpa using h3) (fun x hx=>?_) (fun x hx=>?_) (fun x hx=>?_) ?_,fun x hx=>?_⟩
 ·obtain ⟨y,hy,rfl⟩:=List.mem_map.mp hx
  have:=h1 y hy
  have h4:=this.host;have h5:=this.grp;have h6:=this.til
  refine ⟨⟨?_,?_⟩,⟨?_,?_⟩,?_,?_⟩<;>simp only [shM]<;>omega
 ·obtain ⟨y,hy,rfl⟩:=List.mem_map.mp hx
  exact (h1 y hy).flt
 ·obtain ⟨y,hy,rfl⟩:=List.mem_map.mp hx
  exact (h1 y hy).no
 ·rw [List.pairwise_map]
  refine h2.imp fun {a b} q=>?_
  have q:bfrM a b.grp b.host=true:=q
  show bfrM (shM d h a) (shM d h b).grp (shM d h b).host=true
  simp only [bfrM,shM,Bool.or_eq_true,Bool.and_eq_true,decide_eq_true_eq,beq_iff_eq] at q ⊢
  rcases q with q|⟨q1,q2⟩
  ·exact .inl (decide_eq_true q)
  ·exact .inr ⟨q1,decide_eq_true (show h+a.host<h+b.host by omega)⟩
 ·obtain ⟨y,hy,rfl⟩:=List.mem_map.mp hx
  exact (h1 y hy).grp
theorem sitsL_ok{L:List Int}{now:Int}(hn:0≤now∧now≤1000000):∀{rs:List Int} {out:List Sit} {p:Nat},out.length+rs.length≤10→(∀x∈out,SitOk now x) →
  (∀x∈(sitsL L now rs out p).1,SitOk now x)∧(sitsL L now rs out p).1.map Sit.router=out.map Sit.router++rs
 | [],out,p,hl,h=>⟨h,by simp [sitsL]⟩
 | r::rs,out,p,hl,h=>by
  obtain ⟨m1,m2,m3,m4⟩:=memsT_ok L (n:=4) p (by omega)
  simp only [List.length_cons] at hl
  obtain ⟨s1,s2⟩:=shM_ok (now:=now) (d:=now-(memsT L 4 p).1.now) (h:=10 * (out.length:Int)) m2 m3 (by omega) rfl hn (by omega)
  rw [sitsL]
  obtain ⟨a,b⟩:=sitsL_ok hn (L:=L) (rs:=rs) (out:=out++[⟨r,now,(memsT L 4 p).1.list.map (shM (now-(memsT L 4 p).1.now) (10 * out.length))⟩]) (p:=(memsT L 4 p).2) (by simp;omega) (fun x hx=>by
   rcases List.mem_append.mp hx with hx|hx
   ·exact h x hx
   ·have hx:x=⟨r,now,(memsT L 4 p).1.list.map (shM (now-(memsT L 4 p).1.now) (10 * out.length))⟩:=by simpa using hx
    subst hx;exact ⟨rfl,s1,s2⟩)
  exact ⟨a,by rw [b];simp⟩
section
variable {L : List Int} {p : Nat} {most : Int}
theorem scnP_ok(h:1≤most∧most≤8):PlnOk (topoT L p most).1 (scnP L p most).1:=plnT_ok (topoT_rs (by omega)).2.1
theorem scnR_ok(h:1≤most∧most≤8):okR (scnR L p most)∧(scnR L p most).length≤8:=by
 obtain ⟨t1,t2,t3⟩:=topoT_rs (L:=L) (p:=p) (most:=most) (by omega)
 have hp:=scnP_ok (L:=L) (p:=p) h
 obtain ⟨r1,r2,r3⟩:=rtsP_ok (scnP L p most).1.es
 have:=hp.es
 have hl:(scnR L p most).length≤8:=by unfold scnR;omega
 refine ⟨⟨by omega,fun r hr=>?_,r1⟩,hl⟩
 obtain ⟨e,he,rfl⟩:=(r2 r).mp hr
 obtain ⟨z,hz,q⟩:=hp.at_ e he
 have:=t3 z hz
 omega
theorem scnN_ok:0≤scnN L p most∧scnN L p most≤1000000:=by
 have:=pickI_in (l:=[0,100]) (a:=0) (b:=100) (by decide) (by decide) (rawV L (scnP L p most).2)
 unfold scnN;omega
theorem scnS_ok(h:1≤most∧most≤8):(∀x∈(scnS L p most).1,SitOk (scnN L p most) x)∧(scnS L p most).1.map Sit.router=scnR L p most:=by
 have:=(scnR_ok (L:=L) (p:=p) h).2
 obtain ⟨a,b⟩:=sitsL_ok (L:=L) (scnN_ok (L:=L) (p:=p) (most:=most)) (rs:=scnR L p most) (out:=[]) (p:=rawP L (scnP L p most).2) (by simp;omega) (by simp)
 exact ⟨a,by rw [scnS,b];rfl⟩
theorem scnS_len(h:1≤most∧most≤8):(scnS L p most).1.length≤8:=by
 have:=congrArg List.length (scnS_ok (L:=L) (p:=p) h).2
 rw [List.length_map] at this
 have:=(scnR_ok (L:=L) (p:=p) h).2
 omega
end
structure NI (R:List Int) (o:Ovl):Prop where
  net:NetOk R o.sp o.ls
  fl:∀x∈o.fl,sigIn R x
section
variable {R : List Int} {o : Ovl} {L : List Int}
theorem NI.ok(h:NI R o):ovlOk o:=by
 have e:rtrs o.sp=R:=h.net.spr
 exact ⟨by rw [e];exact h.net,by rw [e];exact h.fl⟩
theorem NI.chg(h:NI R o){r:Int}{w:List Wnt}(hc:(changeV o r w).2=0):NI R (changeV o r w).1∧(changeV o r w).1.fl=o.fl:=by
 have e0:rtrs o.sp=R:=h.net.spr
 unfold changeV at hc ⊢
 rw [if_neg (not_not_intro h.ok)] at hc ⊢
 by_cases h1:r ∉ rtrs o.sp
 ·rw [if_pos h1] at hc;simp at hc
 rw [if_neg h1] at hc ⊢
 by_cases h2:wErr false w≠0
 ·rw [if_pos h2] at hc;exact absurd hc h2
 rw [if_neg h2] at hc ⊢
 by_cases h3:(changes (wantsOf (atS o.sp r).items) w).2≠0
 ·rw [if_pos h3] at hc;exact absurd hc h3
 rw [if_neg h3] at hc ⊢
 by_cases h4:(change (atS o.sp r) (changes (wantsOf (atS o.sp r).items) w).1).2≠0
 ·rw [if_pos h4] at hc;exact absurd hc h4
 rw [if_neg h4]
 have hr:r∈R:=by rw [←e0];exact Classical.not_not.mp h1
 have h4:=Classical.not_not.mp h4
 obtain ⟨q1,q2⟩:=h.net.s hr
 obtain ⟨k1,k2⟩:=h.net.spo _ q1
 obtain ⟨_,f2,f3,f4⟩:=change_val h4
 have hok:=change_spkOk h4
 generalize hz:(change (atS o.sp r) (changes (wantsOf (atS o.sp r).items) w).1).1=z at *
 have hz1:z.router=(atS o.sp r).router∧z.peers=(atS o.sp r).peers:=by rw [←hz,f4];exact ⟨rfl,rfl⟩
 have s:=h.net.setS hr (z:=z) (by rw [hz1.1];exact q2) ⟨hok,by rw [hz1.1,hz1.2];exact k2⟩
 exact ⟨⟨s.net,h.fl⟩,rfl⟩
theorem NI.rst(h:NI R o){r:Int}{w:List Wnt}(hc:(restartV o r w).2=0):NI R (restartV o r w).1∧(restartV o r w).1.fl=o.fl:=by
 have e0:rtrs o.sp=R:=h.net.spr
 unfold restartV at hc ⊢
 rw [if_neg (not_not_intro h.ok)] at hc ⊢
 by_cases h1:r ∉ rtrs o.sp
 ·rw [if_pos h1] at hc;simp at hc
 rw [if_neg h1] at hc ⊢
 by_cases h3:(restart (atS o.sp r) w).2≠0
 ·rw [if_pos h3] at hc;exact absurd hc h3
 rw [if_neg h3] at hc ⊢
 by_cases h4:(atL o.sp o.ls r).epoch=1000000
 ·rw [if_pos h4] at hc;simp at hc
 rw [if_neg h4]
 have hr:r∈R:=by rw [←e0];exact Classical.not_not.mp h1
 have h3:=Classical.not_not.mp h3
 obtain ⟨q1,q2⟩:=h.net.s hr
 obtain ⟨k1,k2⟩:=h.net.spo _ q1
 obtain ⟨m1,m2⟩:=h.net.l hr
 obtain ⟨n1,n2⟩:=h.net.lso _ m1
 obtain ⟨_,f2,f3,f4⟩:=restart_val h3
 have hok:=restart_spkOk h3
 generalize hz:(restart (atS o.sp r) w).1=z at *
 have hz1:z=⟨r,(atS o.sp r).epoch+1,w.length,w.mapIdx wItm,(atS o.sp r).peers.map fun p=>⟨p.router,0,0⟩⟩:=by
  rw [←hz,f4,q2]
 have s:=h.net.setS hr (z:=z) (by rw [hz1]) ⟨hok,by rw [hz1];rw [q2] at k2;exact (List.map_map ..).trans k2⟩
 have t:=s.net.setL hr (z:=⟨r,(atL o.sp o.ls r).epoch+1,[]⟩) rfl ⟨⟨by have:=n1.1;rw [m2] at this;exact this,⟨by have:=n1.2.1;simp only;omega,by have:=n1.2.1;simp only;omega⟩,by simp,by simp,by simp⟩,by simp⟩
 rw [s.pos r] at t
 exact ⟨⟨t.1,h.fl⟩,rfl⟩
theorem NI.round(h:NI R o)(f:List Fau):(roundO o f).2=0∧NI R (roundO o f).1∧(roundO o f).1.fl.length≤o.fl.length+f.length+14400:=by
 unfold roundO
 rw [if_neg (not_not_intro h.ok)]
 obtain ⟨h1,h2⟩:=arr_mem (P:=fun x=>x∈o.fl) (l:=o.fl) (f:=f) fun x hx=>hx
 have r:=roundN_ok h.net (fun x hx=>h.fl x (h1 x hx)) (fun x hx=>h.fl x (h2 x hx))
 refine ⟨rfl,⟨r.net,r.fl⟩,?_⟩
 have hs:=sends_len r.net
 have hd:=delivers_len (l:=(arr o.fl f).1) (s:=((o.sp,o.ls),(arr o.fl f).2))
 have ha:=arr_len (l:=o.fl) (f:=f)
 unfold roundN at hs ⊢
 simp only [List.length_append] at *
 omega
theorem NI.or{x:Ovl×Int}{B:Nat}(h:NI R o)(hb:o.fl.length≤B)(hx:x.2=0→NI R x.1∧x.1.fl.length≤B):NI R (orO o x)∧(orO o x).fl.length≤B:=by
 unfold orO
 by_cases e:x.2≠0
 ·rw [if_pos e];exact ⟨h,hb⟩
 ·rw [if_neg e];exact hx (Classical.not_not.mp e)
theorem NI.act(h:NI R o){p:Nat}:NI R (actT L p o).1∧(actT L p o).1.fl.length≤o.fl.length+14440:=by
 unfold actT
 split
 ·exact h.or (by omega) fun q=>⟨(h.chg q).1,by rw [(h.chg q).2];omega⟩
 split
 ·exact h.or (by omega) fun q=>⟨(h.rst q).1,by rw [(h.rst q).2];omega⟩
 split
 ·exact h.or (by omega) fun q=>by
   have k:=(h.round (heavyT L (min o.fl.length 40) (rawP L (rawP L p))).1).2
   have:=heavyT_len (L:=L) (n:=min o.fl.length 40) (p:=rawP L (rawP L p))
   exact ⟨k.1,by have:=k.2;omega⟩
 ·exact h.or (by omega) fun q=>by
   have k:=(h.round (faultsT L o.fl.length (rawP L (rawP L p))).1).2
   have:=faultsT_len (L:=L) (n:=o.fl.length) (p:=rawP L (rawP L p))
   exact ⟨k.1,by have:=k.2;omega⟩
theorem NI.new{l:List Int}(h:okR l):NI l (netOf l):=⟨netOf_net h,by simp [netOf]⟩
end
def NIB(R:List Int)(o:Ovl)(B:Nat):Prop:=NI R o∧o.fl.length≤B
theorem NIB.more{R:List Int}{o:Ovl}{B B':Nat}(h:NIB R o B)(hB:B≤B'):NIB R o B':=⟨h.1,Nat.le_trans h.2 hB⟩
theorem NIB.or{R:List Int}{o:Ovl}{B:Nat}{x:Ovl×Int}(h:NIB R o B)(hx:x.2=0→NIB R x.1 B):NIB R (orO o x) B:=by
 unfold orO
 by_cases e:x.2≠0
 ·rw [if_pos e];exact h
 ·rw [if_neg e];exact hx (Classical.not_not.mp e)
theorem NIB.round{R:List Int}{o:Ovl}{B:Nat}(h:NIB R o B)(f:List Fau):(roundO o f).2=0∧NIB R (roundO o f).1 (B+f.length+14400):=by
 obtain ⟨a,b,c⟩:=h.1.round f
 have:=h.2
 exact ⟨a,b,by omega⟩
theorem NIB.act{R:List Int}{o:Ovl}{B:Nat}{L:List Int}{p:Nat}(h:NIB R o B):NIB R (actT L p o).1 (B+14440):=by
 obtain ⟨a,b⟩:=h.1.act (L:=L) (p:=p)
 have:=h.2
 exact ⟨a,by omega⟩
theorem actsL_ni{R:List Int}{L:List Int}{b:Bool}:∀{n:Nat} {s:Ovl×Nat} {B:Nat},NIB R s.1 B→NIB R (actsL L b n s).1 (B+14440 * n)
 | 0,s,B,h=>h.more (by omega)
 | n+1,s,B,h=>by
  rw [actsL]
  have:NIB R (if b=true then actT L s.2 s.1 else s).1 (B+14440):=by
   split
   ·exact h.act
   ·exact h.more (by omega)
  exact (actsL_ni (n:=n) this).more (by omega)
theorem chg1L_ni{R:List Int}{L:List Int}{x:Sit}{s:Ovl×Nat}{B:Nat}(h:NIB R s.1 B):NIB R (chg1L L x s).1 B:=by
 unfold chg1L
 split
 ·split
  ·exact h.or fun q=>by
    obtain ⟨a,b⟩:=h.1.chg q
    exact ⟨a,by rw [b];exact h.2⟩
  ·exact h
 ·exact h
theorem chgsL_ni{R:List Int}{L:List Int}:∀{l:List Sit} {s:Ovl×Nat} {B:Nat},NIB R s.1 B→NIB R (chgsL L l s).1 B
 | [],s,B,h=>h
 | x::l,s,B,h=>by
  rw [chgsL]
  exact chgsL_ni (chg1L_ni h)
theorem rndsL_ni{R:List Int}{L:List Int}:∀{n:Nat} {s:Ovl×Nat} {B:Nat},NIB R s.1 B→NIB R (rndsL L n s).1 (B+14403 * n)
 | 0,s,B,h=>h.more (by omega)
 | n+1,s,B,h=>by
  rw [rndsL]
  have h1:=(h.round (faultsT L s.1.fl.length s.2).1).2
  have:=faultsT_len (L:=L) (n:=s.1.fl.length) (p:=s.2)
  exact (rndsL_ni (n:=n) (s:=((roundO s.1 (faultsT L s.1.fl.length s.2).1).1,(faultsT L s.1.fl.length s.2).2)) h1).more (by omega)
section
variable {L : List Int} {p : Nat} {most : Int}
theorem mod4(x:Int):(Mod x 4).toNat≤3:=by
 obtain ⟨h1,h2⟩:=Mod_range (x:=x) (n:=4) (by decide)
 generalize Mod x 4=y at *
 omega
theorem scn0_ni(h:1≤most∧most≤8):NIB (scnR L p most) (newN (scnR L p most)).1 0:=by
 have hr:=(scnR_ok (L:=L) (p:=p) h).1
 rw [newN,if_pos hr]
 exact ⟨NI.new hr,by simp [netOf]⟩
theorem scnA_ni(h:1≤most∧most≤8):NIB (scnR L p most) (scnA L p most).1 43320:=by
 have z:=scn0_ni (L:=L) (p:=p) h
 have h4:=mod4 (rawV L (scnS L p most).2)
 unfold scnA
 generalize (newN (scnR L p most)).1=o0 at z ⊢
 generalize (Mod (rawV L (scnS L p most).2) 4).toNat=n at h4 ⊢
 exact (actsL_ni (L:=L) (b:=decide (0<(scnR L p most).length)) (n:=n) (s:=(o0,rawP L (scnS L p most).2)) z).more (by omega)
theorem scnC_ni(h:1≤most∧most≤8):NIB (scnR L p most) (scnC L p most).1 43320:=by
 have z:=scnA_ni (L:=L) (p:=p) h
 unfold scnC
 generalize scnA L p most=A at z ⊢
 exact chgsL_ni (L:=L) z
theorem scnZ_ni(h:1≤most∧most≤8):NIB (scnR L p most) (scnZ L p most).1 86529:=by
 have z:=scnC_ni (L:=L) (p:=p) h
 have h4:=mod4 (rawV L (scnC L p most).2)
 unfold scnZ
 generalize scnC L p most=C at z h4 ⊢
 generalize (Mod (rawV L C.2) 4).toNat=n at h4 ⊢
 exact (rndsL_ni (L:=L) (n:=n) (s:=(C.1,rawP L C.2)) z).more (by omega)
end
structure Alike (P:List Int) (o q:Ovl):Prop where
  s1:∀a∈P,ep o a=ep q a
  s2:∀a∈P,la o a=la q a
  s3:∀a∈P,it o a=it q a
  s4:∀a∈P,le o a=le q a
  s5:∀a∈P,∀b∈P,a≠b→pe o a b=pe q a b
  s6:∀a∈P,∀b∈P,a≠b→he o a b=he q a b
  s7:∀a∈P,∀b∈P,a≠b→tells o a b=tells q a b
  s8:∀a∈P,∀b∈P,a≠b→acks o a b=acks q a b
theorem Alike.symm{P:List Int}{o q:Ovl}(h:Alike P o q):Alike P q o:=
 ⟨fun a ha=>(h.s1 a ha).symm,fun a ha=>(h.s2 a ha).symm,fun a ha=>(h.s3 a ha).symm,fun a ha=>(h.s4 a ha).symm,fun a ha b hb q=>(h.s5 a ha b hb q).symm,fun a ha b hb q=>(h.s6 a ha b hb q).symm,fun a ha b hb q=>(h.s7 a ha b hb q).symm,fun a ha b hb q=>(h.s8 a ha b hb q).symm⟩
section
variable {P R S : List Int} {o o' q q' : Ovl} {r : Int} {w : List Wnt}
theorem Alike.fl(hf:o'.fl=o.fl)(a b:Int):tells o' a b=tells o a b∧acks o' a b=acks o a b:=by
 unfold tells acks;rw [hf];exact ⟨rfl,rfl⟩
end
def inR(x lo hi:Int):Bool:=decide (lo≤x∧x≤hi)
def inR_a(x:Int)(lo:Int)(hi:Int):Prop:=okL [.int x,.int lo,.int hi]
def inR_e(r:Bool):AV:=.bool r
def inR_x(x:Int)(lo:Int)(hi:Int):Ax Tryz.prog noS (Bool):=
 (.br 80 (decide (lo≤x)) (.ret (decide (x≤hi)))
(.ret (false)))
def inR_vc(x:Int)(lo:Int)(hi:Int)(r0:Bool):Prop:=(inR_x x lo hi).vp inR_e r0
theorem inR_p(x lo hi:Int)(ok:inR_a x lo hi):inR_vc x lo hi (inR x lo hi):=by
 dsimp only [inR_vc,inR_x,noS,Ax.vp,Ax.vc];simp only [vcU,rfU,List.length_map]
 refine ⟨fun h=>decide_eq_decide.mpr ⟨fun q=>⟨h,q⟩,fun q=>q.2⟩,fun h=>(decide_eq_false fun q=>h q.1).symm⟩
def inR_c(x:Int)(lo:Int)(hi:Int):PC Tryz.prog:=⟨149,[.k,.k,.k],[.int x,.int lo,.int hi],inR_e (inR x lo hi),PSpec.of_ok fun ok=>mxP_of (sh:=.k) (enc:=inR_e) (a:=(inR_x x lo hi).an) (inR_p x lo hi ok) (by kernel_rfl) (AV.pureB_ok rfl),fnB_ok (by kernel_rfl)⟩
theorem asc_take{α:Type}(key:α→Int){l:List α}{k:Nat}{x y:α}(hx:l[k]?=some x)(h0:0<k)(hy:l[k-1]?=some y) :
  (l.take (k+1)).Pairwise (fun a b=>key a<key b)↔(l.take k).Pairwise (fun a b=>key a<key b)∧key y<key x:=by
 rw [take_succ hx,List.pairwise_append]
 have hm:y∈l.take k:=by
  have:(l.take k)[k-1]?=some y:=by rw [List.getElem?_take,if_pos (by omega)];exact hy
  exact List.mem_of_getElem? this
 constructor
 ·rintro ⟨h1,_,h3⟩
  exact ⟨h1,h3 y hm x (by simp)⟩
 ·rintro ⟨h1,h2⟩
  refine ⟨h1,List.pairwise_singleton _ _,fun a ha b hb=>?_⟩
  rw [List.mem_singleton] at hb;subst hb
  obtain ⟨i,hi,rfl⟩:=List.getElem_of_mem ha
  rw [List.length_take] at hi
  rw [List.getElem_take]
  obtain ⟨hk,hyk⟩:=List.getElem?_eq_some_iff.mp hy
  rcases Nat.lt_or_ge i (k-1) with e|e
  ·have:=List.pairwise_iff_getElem.mp h1 i (k-1) (by rw [List.length_take];omega) (by rw [List.length_take];omega) e
   rw [List.getElem_take,List.getElem_take,hyk] at this
   omega
  ·have:i=k-1:=by omega
   subst this
   rw [hyk];exact h2
theorem asc_first{α:Type}(key:α→Int){l:List α}{x:α}(hx:l[0]?=some x):(l.take 1).Pairwise (fun a b=>key a<key b):=by
 rw [take_succ hx];simp
theorem mem_take_succ{α:Type}{l:List α}{k:Nat}{x:α}(hx:l[k]?=some x){P:α→Prop}:(∀y∈l.take (k+1),P y)↔(∀y∈l.take k,P y)∧P x:=by
 rw [take_succ hx]
 constructor
 ·intro h;exact ⟨fun y hy=>h y (List.mem_append_left _ hy),h x (by simp)⟩
 ·rintro ⟨h1,h2⟩ y hy
  rcases List.mem_append.mp hy with hy|hy
  ·exact h1 y hy
  ·rw [List.mem_singleton] at hy;subst hy;exact h2
theorem W_pred'{k:Nat}(h:k≤9223372036854775807):W ((k:Int)-1)=(k:Int)-1:=W_eq (by omega)
theorem itmsOk.take{n:Int}{l:List Itm}(h:itmsOk n l)(k:Nat):itmsOk n (l.take k):=
 ⟨fun x hx=>h.1 x (List.mem_of_mem_take hx),by rw [List.map_take];exact h.2.1.sublist (List.take_sublist _ _),h.2.2.sublist (List.take_sublist _ _)⟩
theorem itmsOk_succ{n:Int}{l:List Itm}{k:Nat}{x:Itm}(hx:l[k]?=some x):itmsOk n (l.take (k+1))↔itmsOk n (l.take k)∧itmOk n x∧(∀y∈l.take k,y.grp≠x.grp)∧(0<k→∀y,l[k-1]?=some y→y.ver<x.ver):=by
 have hn:((l.take (k+1)).map Itm.grp).Nodup↔((l.take k).map Itm.grp).Nodup∧∀y∈l.take k,y.grp≠x.grp:=by
  rw [take_succ hx,List.map_append,List.nodup_append]
  simp only [List.map_cons,List.map_nil,List.mem_singleton,List.mem_map,List.nodup_cons,List.not_mem_nil,not_false_eq_true,List.nodup_nil,and_self,true_and]
  constructor
  ·rintro ⟨h1,h2⟩
   exact ⟨h1,fun y hy=>h2 _ ⟨y,hy,rfl⟩ _ rfl⟩
  ·rintro ⟨h1,h2⟩
   refine ⟨h1,?_⟩
   rintro _ ⟨y,hy,rfl⟩ _ rfl
   exact h2 y hy
 unfold itmsOk
 rw [mem_take_succ hx,hn]
 cases k with
 | zero =>
  have:(l.take 1).Pairwise fun x y=>x.ver<y.ver:=asc_first Itm.ver hx
  simp [this]
 | succ k =>
  obtain ⟨y,hy⟩:∃y,l[k]?=some y:=⟨_,List.getElem?_eq_getElem (by have:=lt_of_get hx;omega)⟩
  rw [asc_take Itm.ver hx (by omega) (by simpa using hy)]
  simp only [Nat.add_sub_cancel,hy,Option.some.injEq,Nat.zero_lt_succ,forall_const,forall_eq']
  constructor
  ·rintro ⟨⟨a,b⟩,⟨c,d⟩,e,f⟩;exact ⟨⟨a,c,e⟩,b,d,f⟩
  ·rintro ⟨⟨a,c,e⟩,b,d,f⟩;exact ⟨⟨a,b⟩,⟨c,d⟩,e,f⟩
def itemsR_a(l:(List Itm))(last:Int):Prop:=okL [.sl 4 (l.map Itm.v) false,.int last]
def itemsR_n0(l:(List Itm))(last:Int)(t0:Int):NF:=⟨[(0,.k,.sl 4 (l.map Itm.v) false),(1,.k,.int last),(8,.k,.sl 4 (l.map Itm.v) false),(9,.k,.int ((l.map Itm.v).length:Int)),(10,.k,.int t0)],[]⟩
def itemsR_n1(l:(List Itm))(last:Int)(t0:Int)(x1:Itm)(t1:Bool):NF:=⟨[(0,.k,.sl 4 (l.map Itm.v) false),(1,.k,.int last),(5,.k,.int t0),(6,.k,.ref 0 0),(8,.k,.sl 4 (l.map Itm.v) false),(9,.k,.int ((l.map Itm.v).length:Int)),(10,.k,.int t0),(46,.k,.bool t1)],[.box (.agg [.int x1.ver,.int x1.grp,.int x1.mode,.sl 1 (x1.srcs.map AV.int) false])]⟩
def itemsR_n2(l:(List Itm))(last:Int)(t0:Int)(x1:Itm)(t2:Int):NF:=⟨[(0,.k,.sl 4 (l.map Itm.v) false),(1,.k,.int last),(5,.k,.int t0),(6,.k,.ref 0 0),(7,.k,.int t2),(8,.k,.sl 4 (l.map Itm.v) false),(9,.k,.int ((l.map Itm.v).length:Int)),(10,.k,.int t0)],[.box (.agg [.int x1.ver,.int x1.grp,.int x1.mode,.sl 1 (x1.srcs.map AV.int) false])]⟩
@[reducible] def itemsR_s:Nat→Type
 | 0=>Int
 | 1=>Bool
 | 2=>Int
 | _=>Unit
def itemsR_e(r:Bool):AV:=.bool r
def itemsR_x(l:(List Itm))(last:Int)(I0:Int→Prop)(m0:Int→Nat)(I1:Int→Itm→Bool→Prop)(I2:Int→Itm→Bool→Int→Prop)(m2:Int→Itm→Bool→Int→Nat):Ax Tryz.prog itemsR_s (Bool):=
 (.loop 0 (itemsR_n0 l last) I0 m0 ((0):Int) [] fun (t0:Int) b0 =>
(.br 16 (decide (t0<((l.map Itm.v).length:Int))) (.el 32 Itm.v l (fun R=>Rf (l.map Itm.v) (ck (decide (0≤t0)) (ck (decide (t0<(l.length:Int)))
(∀x1,l[t0.toNat]?=some x1 →
(R x1))))) fun x1 =>
(.pass (.join 1 (itemsR_n1 l last t0 x1) (fun (t1:Bool)=>I1 t0 x1 t1) (fun b1=>(.callP (inR_c x1.ver 1 last)
(.br 208 (!(inR x1.ver 1 last)) (.bk 1 b1 ((true):Bool) [64])
(.callP (inR_c x1.grp 1 99)
(.br 304 (!(inR x1.grp 1 99)) (.bk 1 b1 ((true):Bool) [64])
(.callP (FVal_c (⟨x1.mode,x1.srcs⟩:Flt))
(.br 400 ((fltErr (⟨x1.mode,x1.srcs⟩:Flt).mode (⟨x1.mode,x1.srcs⟩:Flt).srcs) != 0) (.bk 1 b1 ((true):Bool) [64])
(.br 448 (decide (0<t0)) (.el 496 Itm.v l (fun R=>Rf (l.map Itm.v) (ck (decide (0≤(W (t0-1)))) (ck (decide ((W (t0-1))<(l.length:Int)))
(∀x2,l[(W (t0-1)).toNat]?=some x2 →
(R x2))))) fun x2 =>
(.bk 1 b1 ((decide (x1.ver≤x2.ver)):Bool) [64]))
(.bk 1 b1 ((false):Bool) [64]))))))))) fun (t1:Bool) =>
(.br 1 t1 (.ret (false))
(.loop 2 (itemsR_n2 l last t0 x1) (I2 t0 x1 t1) (m2 t0 x1 t1) ((0):Int) [0] fun (t2:Int) b2 =>
(.br 49 (decide (t2<t0)) (.el 81 Itm.v l (fun R=>Rf (l.map Itm.v) (ck (decide (0≤t2)) (ck (decide (t2<(l.length:Int)))
(∀x3,l[t2.toNat]?=some x3 →
(R x3))))) fun x3 =>
(.br 177 (x3.grp==x1.grp) (.ret (false))
(.bk 2 b2 ((W (t2+1)):Int) [0])))
(.bk 0 b0 ((W (t0+1)):Int) [])))))))
(.ret (true))))
def itemsR_vc(l:(List Itm))(last:Int)(I0:Int→Prop)(m0:Int→Nat)(I1:Int→Itm→Bool→Prop)(I2:Int→Itm→Bool→Int→Prop)(m2:Int→Itm→Bool→Int→Nat)(r0:Bool):Prop:=(itemsR_x l last I0 m0 I1 I2 m2).vp itemsR_e r0
theorem itemsR_p(l:List Itm)(last:Int)(ok:itemsR_a l last):∃I0 m0 I1 I2 m2,itemsR_vc l last I0 m0 I1 I2 m2 (itemsB l last):=by
 simp only [itemsR_a,okU,Blk.ok,plainV,List.length_map] at ok
 refine ⟨fun t=>∃k:Nat,t=k∧k≤l.length∧itmsOk last (l.take k),fun t=>l.length-t.toNat,
  fun t x b=>b=false↔itmOk last x∧(0<t.toNat→∀y,l[t.toNat-1]?=some y→y.ver<x.ver),
  fun t x b t2=>∃j:Nat,t2=j∧j≤t.toNat∧∀y∈l.take j,y.grp≠x.grp,fun t x b t2=>t.toNat-t2.toNat,?_⟩
 dsimp only [itemsR_vc,itemsR_x,itemsR_s,Ax.vp,Ax.vc];simp only [vcU,rfU,List.length_map]
 have hle:l.length≤9223372036854775807:=ok.1.1
 refine ⟨⟨0,rfl,by omega,by simp [itmsOk]⟩,?_⟩
 rintro _ ⟨k,rfl,hk,hI⟩
 simp only [Int.toNat_natCast]
 refine ⟨fun h1=>⟨by omega,by omega,fun x hx=>⟨?_,?_⟩⟩,fun h1=>?_⟩
 ·simp only [inR,Bool.not_eq_true',decide_eq_false_iff_not,Bool.not_eq_false',decide_eq_true_iff]
  have no:∀{q:Prop},¬q→((itmOk last x→q)→(true=false↔itmOk last x∧(0<k→∀y,l[k-1]?=some y→y.ver<x.ver))):=fun hq hi=>⟨fun e=>Bool.noConfusion e,fun e=>absurd (hi e.1) hq⟩
  refine ⟨fun h2=>no h2 fun q=>q.1,fun h2=>⟨fun h3=>no h3 fun q=>q.2.1,fun h3=>⟨fun h4=>no (q:=fltErr x.mode x.srcs=0) (by simpa using h4) fun q=>q.2.2,fun h4=>⟨fun h5=>?_,fun h5=>?_⟩⟩⟩⟩
  ·rw [W_pred' (by omega)]
   have e:((k:Int)-1).toNat=k-1:=by omega
   rw [e]
   refine ⟨by omega,by omega,fun y hy=>?_⟩
   have h4:fltErr x.mode x.srcs=0:=by simpa using h4
   constructor
   ·intro q;exact ⟨⟨h2,h3,h4⟩,fun _ z hz=>by rw [hy] at hz;cases hz;omega⟩
   ·rintro ⟨_,q⟩;have:=q (by omega) y hy;omega
  ·exact ⟨fun _=>⟨⟨h2,h3,by simpa using h4⟩,fun q=>by omega⟩,fun _=>trivial⟩
 ·intro b hb
  refine ⟨fun e=>(decide_eq_false fun q=>?_).symm,fun e=>⟨⟨0,rfl,by omega,by simp⟩,?_⟩⟩
  ·subst e
   have:=(itmsOk_succ hx).mp (q.take (k+1))
   exact Bool.noConfusion (hb.mpr ⟨this.2.1,this.2.2.2⟩)
  ·obtain ⟨q1,q2⟩:=hb.mp e
   rintro _ ⟨j,rfl,hj,hg⟩
   simp only [Int.toNat_natCast]
   refine ⟨fun h3=>⟨by omega,by omega,fun y hy=>⟨fun e2=>?_,fun e2=>?_⟩⟩,fun h3=>?_⟩
   ·refine (decide_eq_false fun q=>?_).symm
    have:=((itmsOk_succ hx).mp (q.take (k+1))).2.2.1 y (by
     have:(l.take k)[j]?=some y:=by rw [List.getElem?_take,if_pos (by omega)];exact hy
     exact List.mem_of_getElem? this)
    exact this (by simpa using e2)
   ·rw [W_succ (n:=k) (by omega) (by omega)]
    exact ⟨⟨j+1,rfl,by omega,(mem_take_succ hy).mpr ⟨hg,by simpa using e2⟩⟩,by omega⟩
   ·have:j=k:=by omega
    subst this
    rw [W_succ (n:=l.length) (by omega) (by omega)]
    exact ⟨⟨j+1,rfl,by omega,(itmsOk_succ hx).mpr ⟨hI,q1,hg,q2⟩⟩,by omega⟩
 ·rw [List.take_of_length_le (by omega)] at hI
  exact (decide_eq_true hI).symm
def itemsR_c(l:(List Itm))(last:Int):PC Tryz.prog:=⟨115,[(.s 4),.k],[.sl 4 (l.map Itm.v) false,.int last],itemsR_e (itemsB l last),PSpec.of_ok fun ok=>(itemsR_p l last ok).elim fun I0 h=>h.elim fun m0 h=>h.elim fun I1 h=>h.elim fun I2 h=>h.elim fun m2 h=>mxP_of (sh:=.k) (enc:=itemsR_e) (a:=(itemsR_x l last I0 m0 I1 I2 m2).an) h (by kernel_rfl) (AV.pureB_ok rfl),fnB_ok (by kernel_rfl)⟩
def putR_a(l:(List Itm))(x:Itm):Prop:=okL [.sl 4 (l.map Itm.v) false,.agg [.int x.ver,.int x.grp,.int x.mode,.sl 1 (x.srcs.map AV.int) false]]
def putR_n0(l:(List Itm))(x:Itm)(t0:Int×(List Itm)):NF:=⟨[(3,.k,.ref 0 0),(5,.k,.vec 1),(8,.k,.sl 4 (l.map Itm.v) false),(9,.k,.int ((l.map Itm.v).length:Int)),(10,.k,.int t0.1)],[.box (.agg [.int x.ver,.int x.grp,.int x.mode,.sl 1 (x.srcs.map AV.int) false]),.vec 4 (t0.2.map Itm.v) (pureBL_map (fun _=>rfl) t0.2)]⟩
@[reducible] def putR_s:Nat→Type
 | 0=>Int×(List Itm)
 | _=>Unit
def putR_e(r:(List Itm)):AV:=.sl 4 (r.map Itm.v) false
def putR_x(l:(List Itm))(x:Itm)(I0:(Int×(List Itm))→Prop)(m0:(Int×(List Itm))→Nat):Ax Tryz.prog putR_s ((List Itm)):=
 (.cmdL (.nilT 5 4) (.loop 0 (putR_n0 l x) I0 m0 (0,[]) [0,96] fun (t0:Int×(List Itm)) b0 =>
(.br 18 (decide (t0.1<((l.map Itm.v).length:Int))) (.el 18 Itm.v l (fun R=>Rf (l.map Itm.v) (ck (decide (0≤t0.1)) (ck (decide (t0.1<(l.length:Int)))
(∀x1,l[t0.1.toNat]?=some x1 →
(R x1))))) fun x1 =>
(.br 162 (x1.grp != x.grp) (.say (fun R=>Rf (α:=List AV) (t0.2.map Itm.v) (Rf (α:=List AV) [.agg [.int x1.ver,.int x1.grp,.int x1.mode,.sl 1 (x1.srcs.map AV.int) false]]
(ck (decide (t0.2.length+1≤1048576))
R))) (.app 210 Itm.v t0.2 [x1]
(.bk 0 b0 (W (t0.1+1),t0.2++[x1]) [0,210])))
(.bk 0 b0 (W (t0.1+1),t0.2) [0,1])))
(.say (fun R=>Rf (α:=List AV) (t0.2.map Itm.v) (Rf (α:=List AV) [.agg [.int x.ver,.int x.grp,.int x.mode,.sl 1 (x.srcs.map AV.int) false]]
(ck (decide (t0.2.length+1≤1048576))
R))) (.app 66 Itm.v t0.2 [x]
(.say (Rf ((t0.2++[x]).map Itm.v)) (.cmdL (.frzE 66 ((t0.2++[x]).map Itm.v) (pureBL_map (fun _=>rfl) (t0.2++[x]))) (.ret (t0.2++[x])))))))))
def putR_vc(l:(List Itm))(x:Itm)(I0:(Int×(List Itm))→Prop)(m0:(Int×(List Itm))→Nat)(r0:(List Itm)):Prop:=(putR_x l x I0 m0).vp putR_e r0
theorem putR_p(l:List Itm)(x:Itm)(hl:l.length≤999999)(ok:putR_a l x):∃I m,putR_vc l x I m (put1 l x):=by
 refine ⟨fun t=>∃k:Nat,t.1=k∧k≤l.length∧t.2=without x.grp (l.take k),fun t=>l.length-t.1.toNat,?_⟩
 dsimp only [putR_vc,putR_x,putR_s,Ax.vp,Ax.vc];simp only [vcU,rfU,List.length_map]
 refine ⟨⟨0,rfl,by omega,rfl⟩,?_⟩
 rintro ⟨_,_⟩ ⟨k,rfl,hk,rfl⟩
 simp only [Int.toNat_natCast]
 have hw:∀k,(without x.grp (l.take k)).length≤l.length:=fun k=>by
  unfold without
  have:=List.length_filter_le (fun y:Itm=>decide (y.grp≠x.grp)) (l.take k)
  rw [List.length_take] at this;omega
 have hwk:=hw k
 refine ⟨fun h1=>⟨by omega,by omega,fun y hy=>?_⟩,fun h1=>⟨by omega,?_⟩⟩
 ·rw [W_succ (n:=l.length) (by omega) (by omega)]
  have e:without x.grp (l.take (k+1))=if y.grp=x.grp then without x.grp (l.take k) else without x.grp (l.take k)++[y]:=by
   rw [take_succ hy]
   unfold without
   rw [List.filter_append]
   by_cases q:y.grp=x.grp<;>simp [q]
  refine ⟨fun q=>⟨by omega,⟨k+1,rfl,by omega,?_⟩,by omega⟩,fun q=>⟨⟨k+1,rfl,by omega,?_⟩,by omega⟩⟩
  ·rw [e,if_neg (by simpa using q)]
  ·rw [e,if_pos (by simpa using q)]
 ·rw [List.take_of_length_le (by omega)];rfl
def putR_c(l:(List Itm))(x:Itm)(hl:l.length≤999999):PC Tryz.prog:=⟨109,[(.s 4),(.a [.k,.k,.k,(.s 1)])],[.sl 4 (l.map Itm.v) false,.agg [.int x.ver,.int x.grp,.int x.mode,.sl 1 (x.srcs.map AV.int) false]],putR_e (put1 l x),PSpec.of_ok fun ok=>(putR_p l x hl ok).elim fun I0 h=>h.elim fun m0 h=>mxP_of (sh:=(.s 4)) (enc:=putR_e) (a:=(putR_x l x I0 m0).an) h (by kernel_rfl) (AV.pureB_ok rfl),fnB_ok (by kernel_rfl)⟩
def findI_a(l:(List Itm))(group:Int):Prop:=okL [.sl 4 (l.map Itm.v) false,.int group]
def findI_n0(l:(List Itm))(group:Int)(t0:Int):NF:=⟨[(1,.k,.int group),(4,.k,.ref 0 0),(7,.k,.sl 4 (l.map Itm.v) false),(8,.k,.int ((l.map Itm.v).length:Int)),(9,.k,.int t0)],[.box (.agg [.int 0,.sl 0 [] true])]⟩
@[reducible] def findI_s:Nat→Type
 | 0=>Int
 | _=>Unit
def findI_e(r:Flt):AV:=Flt.v r
def findI_x(l:(List Itm))(group:Int)(I0:Int→Prop)(m0:Int→Nat):Ax Tryz.prog findI_s (Flt):=
 (.loop 0 (findI_n0 l group) I0 m0 ((0):Int) [0] fun (t0:Int) b0 =>
(.br 17 (decide (t0<((l.map Itm.v).length:Int))) (.el 17 Itm.v l (fun R=>Rf (l.map Itm.v) (ck (decide (0≤t0)) (ck (decide (t0<(l.length:Int)))
(∀x1,l[t0.toNat]?=some x1 →
(R x1))))) fun x1 =>
(.br 145 (x1.grp==group) (.ret ((⟨x1.mode,x1.srcs⟩:Flt)))
(.bk 0 b0 ((W (t0+1)):Int) [0])))
(.callP (Nothing_c )
(.ret ((⟨1,[]⟩:Flt))))))
def findI_vc(l:(List Itm))(group:Int)(I0:Int→Prop)(m0:Int→Nat)(r0:Flt):Prop:=(findI_x l group I0 m0).vp findI_e r0
theorem findI_p(l:List Itm)(g:Int)(ok:findI_a l g):∃I m,findI_vc l g I m (⟨(told l g).1,(told l g).2⟩:Flt):=by
 simp only [findI_a,okU,Blk.ok,plainV,List.length_map] at ok
 refine ⟨fun t=>∃k:Nat,t=k∧k≤l.length∧∀x∈l.take k,x.grp≠g,fun t=>l.length-t.toNat,?_⟩
 dsimp only [findI_vc,findI_x,findI_s,Ax.vp,Ax.vc];simp only [vcU,rfU,List.length_map]
 have hle:l.length≤9223372036854775807:=ok.1.1
 refine ⟨⟨0,rfl,by omega,by simp⟩,?_⟩
 rintro _ ⟨k,rfl,hk,hI⟩
 simp only [Int.toNat_natCast]
 refine ⟨fun h1=>⟨by omega,by omega,fun x hx=>⟨fun e=>?_,fun e=>?_⟩⟩,fun h1=>?_⟩
 ·have:told l g=(x.mode,x.srcs):=by
   unfold told
   have hf:l.find? (fun y=>decide (y.grp=g))=some x:=by
    rw [List.find?_eq_some_iff_getElem]
    obtain ⟨hk',hxk⟩:=List.getElem?_eq_some_iff.mp hx
    refine ⟨by simpa using e,k,hk',hxk,fun j hj=>?_⟩
    have:=hI l[j] (List.mem_of_getElem? (i:=j) (by rw [List.getElem?_take,if_pos hj,List.getElem?_eq_getElem (by omega)]))
    simpa using this
   rw [hf]
  rw [this]
 ·rw [W_succ (n:=l.length) (by omega) (by omega)]
  exact ⟨⟨k+1,rfl,by omega,(mem_take_succ hx).mpr ⟨hI,by simpa using e⟩⟩,by omega⟩
 ·rw [List.take_of_length_le (by omega)] at hI
  rw [told_no hI]
def findI_c(l:(List Itm))(group:Int):PC Tryz.prog:=⟨116,[(.s 4),.k],[.sl 4 (l.map Itm.v) false,.int group],findI_e (⟨(told l group).1,(told l group).2⟩:Flt),PSpec.of_ok fun ok=>(findI_p l group ok).elim fun I0 h=>h.elim fun m0 h=>mxP_of (sh:=(.a [.k,(.s 1)])) (enc:=findI_e) (a:=(findI_x l group I0 m0).an) h (by kernel_rfl) (AV.pureB_ok rfl),fnB_ok (by kernel_rfl)⟩
theorem pw_succ{α:Type}(key:α→Int){l:List α}{k:Nat}{x:α}(hx:l[k]?=some x) :
  (l.take (k+1)).Pairwise (fun a b=>key a<key b)↔(l.take k).Pairwise (fun a b=>key a<key b)∧(0<k→∀y,l[k-1]?=some y→key y<key x):=by
 cases k with
 | zero=>simp only [asc_first key hx,List.take_zero,List.Pairwise.nil,true_and,true_iff];intro h;omega
 | succ k =>
  obtain ⟨y,hy⟩:∃y,l[k]?=some y:=⟨_,List.getElem?_eq_getElem (by have:=lt_of_get hx;omega)⟩
  rw [asc_take key hx (by omega) (by simpa using hy)]
  simp only [Nat.add_sub_cancel,hy,Option.some.injEq,Nat.zero_lt_succ,forall_const,forall_eq']
def spkA(s:Spk):Prop:=(1≤s.router∧s.router≤99)∧(1≤s.epoch∧s.epoch≤1000000)∧(0≤s.last∧s.last≤1000000)∧itmsOk s.last s.items∧s.peers.length≤12
instance (s:Spk):Decidable (spkA s):=by unfold spkA;infer_instance
def spkK(s:Spk)(k:Nat):Prop:=spkA s∧(∀p∈s.peers.take k,perOk s.router s.last p)∧(s.peers.take k).Pairwise fun x y=>x.router<y.router
instance (s:Spk) (k:Nat):Decidable (spkK s k):=by unfold spkK;infer_instance
theorem spkK_succ{s:Spk}{k:Nat}{x:Per}(hx:s.peers[k]?=some x):spkK s (k+1)↔spkK s k∧perOk s.router s.last x∧(0<k→∀y,s.peers[k-1]?=some y→y.router<x.router):=by
 unfold spkK
 rw [mem_take_succ hx,pw_succ Per.router hx]
 constructor
 ·rintro ⟨a,⟨b,c⟩,d,e⟩;exact ⟨⟨a,b,d⟩,c,e⟩
 ·rintro ⟨⟨a,b,d⟩,c,e⟩;exact ⟨a,⟨b,c⟩,d,e⟩
theorem spkK_all{s:Spk}:spkK s s.peers.length↔spkOk s:=by
 unfold spkK spkA spkOk
 rw [List.take_length]
 constructor
 ·rintro ⟨⟨a,b,c,d,e⟩,f,g⟩;exact ⟨a,b,c,d,e,f,g⟩
 ·rintro ⟨a,b,c,d,e,f,g⟩;exact ⟨⟨a,b,c,d,e⟩,f,g⟩
def valR6_a(s:Spk):Prop:=okL [.agg [.int s.router,.int s.epoch,.int s.last,.sl 4 (s.items.map Itm.v) false,.sl 3 (s.peers.map Per.v) false]]
def valR6_n0(s:Spk)(t0:Bool):NF:=⟨[(1,.k,.ref 0 0),(3,.k,.bool t0)],[.box (.agg [.int s.router,.int s.epoch,.int s.last,.sl 4 (s.items.map Itm.v) false,.sl 3 (s.peers.map Per.v) false])]⟩
def valR6_n1(s:Spk)(t1:Bool×Int):NF:=⟨[(1,.k,.ref 0 0),(3,.k,.bool t1.1),(33,.k,.sl 3 (s.peers.map Per.v) false),(34,.k,.int ((s.peers.map Per.v).length:Int)),(35,.k,.int t1.2)],[.box (.agg [.int s.router,.int s.epoch,.int s.last,.sl 4 (s.items.map Itm.v) false,.sl 3 (s.peers.map Per.v) false])]⟩
@[reducible] def valR6_s:Nat→Type
 | 0=>Bool
 | 1=>Bool×Int
 | _=>Unit
def valR6_e(r:Int):AV:=.int r
def valR6_x(s:Spk)(I0:Bool→Prop)(I1:Bool→(Bool×Int)→Prop)(m1:Bool→(Bool×Int)→Nat):Ax Tryz.prog valR6_s (Int):=
 (.pass (.join 0 (valR6_n0 s) (fun (t0:Bool)=>I0 t0) (fun b0=>(.callP (inR_c s.router 1 99)
(.br 96 (inR s.router 1 99) (.callP (inR_c s.epoch 1 1000000)
(.br 176 (inR s.epoch 1 1000000) (.callP (inR_c s.last 0 1000000)
(.br 256 (inR s.last 0 1000000) (.callP (itemsR_c s.items s.last)
(.br 368 (itemsB s.items s.last) (.bk 0 b0 ((decide (((s.peers.map Per.v).length:Int)≤12)):Bool) [0])
(.bk 0 b0 ((false):Bool) [0])))
(.bk 0 b0 ((false):Bool) [0])))
(.bk 0 b0 ((false):Bool) [0])))
(.bk 0 b0 ((false):Bool) [0])))) fun (t0:Bool) =>
(.loop 1 (valR6_n1 s) (I1 t0) (m1 t0) (t0,0) [0] fun (t1:Bool×Int) b1 =>
(.br 17 (decide (t1.2<((s.peers.map Per.v).length:Int))) (.el 33 Per.v s.peers (fun R=>Rf (s.peers.map Per.v) (ck (decide (0≤t1.2)) (ck (decide (t1.2<(s.peers.length:Int)))
(∀x1,s.peers[t1.2.toNat]?=some x1 →
(R x1))))) fun x1 =>
(.br 145 t1.1 (.callP (inR_c x1.router 1 99)
(.br 225 (inR x1.router 1 99) (.br 337 (x1.router != s.router) (.callP (inR_c x1.epoch 0 1000000)
(.br 417 (inR x1.epoch 0 1000000) (.callP (inR_c x1.acked 0 s.last)
(.br 529 (inR x1.acked 0 s.last) (.br 577 (t1.2==0) (.bk 1 b1 (true,W (t1.2+1)) [0])
(.el 641 Per.v s.peers (fun R=>Rf (s.peers.map Per.v) (ck (decide (0≤(W (t1.2-1)))) (ck (decide ((W (t1.2-1))<(s.peers.length:Int)))
(∀x2,s.peers[(W (t1.2-1)).toNat]?=some x2 →
(R x2))))) fun x2 =>
(.bk 1 b1 (decide (x2.router<x1.router),W (t1.2+1)) [0])))
(.bk 1 b1 (false,W (t1.2+1)) [0])))
(.bk 1 b1 (false,W (t1.2+1)) [0])))
(.bk 1 b1 (false,W (t1.2+1)) [0]))
(.bk 1 b1 (false,W (t1.2+1)) [0])))
(.bk 1 b1 (false,W (t1.2+1)) [0])))
(.br 49 (!t1.1) (.ret (1))
(.ret (0)))))))
def valR6_vc(s:Spk)(I0:Bool→Prop)(I1:Bool→(Bool×Int)→Prop)(m1:Bool→(Bool×Int)→Nat)(r0:Int):Prop:=(valR6_x s I0 I1 m1).vp valR6_e r0
theorem valR6_p(s:Spk)(ok:valR6_a s):∃I0 I1 m1,valR6_vc s I0 I1 m1 (valS s):=by
 unfold valR6_a at ok
 refine ⟨fun b=>b=decide (spkA s),fun b t=>∃k:Nat,t.2=k∧k≤s.peers.length∧t.1=decide (spkK s k),fun b t=>s.peers.length-t.2.toNat,?_⟩
 dsimp only [valR6_vc,valR6_x,valR6_s,Ax.vp,Ax.vc];simp only [vcU,rfU,List.length_map]
 have hle:s.peers.length≤9223372036854775807:=by
  have h:=ok
  simp only [Spk.v,pers,AV.ok,okL,List.length_map,maxLen_eq] at h
  omega
 simp only [inR,itemsB,decide_eq_true_iff,decide_eq_false_iff_not]
 refine ⟨⟨fun h1=>⟨fun h2=>⟨fun h3=>⟨fun h4=>?_,fun h4=>?_⟩,fun h3=>?_⟩,fun h2=>?_⟩,fun h1=>?_⟩,?_⟩
 ·exact decide_eq_decide.mpr ⟨fun q=>⟨h1,h2,h3,h4,by omega⟩,fun q=>by have:=q.2.2.2.2;omega⟩
 ·exact (decide_eq_false fun q=>h4 q.2.2.2.1).symm
 ·exact (decide_eq_false fun q=>h3 q.2.2.1).symm
 ·exact (decide_eq_false fun q=>h2 q.2.1).symm
 ·exact (decide_eq_false fun q=>h1 q.1).symm
 ·rintro _ rfl
  refine ⟨⟨0,rfl,by omega,decide_eq_decide.mpr (by simp [spkK])⟩,?_⟩
  rintro ⟨_,_⟩ ⟨k,rfl,hk,rfl⟩
  simp only [Int.toNat_natCast]
  refine ⟨fun h1=>⟨by omega,by omega,fun x hx=>?_⟩,fun h1=>?_⟩
  ·rw [W_succ (n:=s.peers.length) (by omega) (by omega)]
   have no:∀{q:Prop},¬q→(spkK s (k+1)→q)→(∃k_1:Nat,((k+1:Nat):Int)=k_1∧k_1≤s.peers.length∧false=decide (spkK s k_1))∧s.peers.length-((k+1:Nat):Int).toNat<s.peers.length-k:=fun hq hi =>
    ⟨⟨k+1,rfl,by omega,(decide_eq_false fun q=>hq (hi q)).symm⟩,by omega⟩
   simp only [decide_eq_true_iff,decide_eq_false_iff_not]
   refine ⟨fun a0=>⟨fun a1=>⟨fun a2=>⟨fun a3=>⟨fun a4=>⟨fun a5=>?_,fun a5=>?_⟩,fun a4=>?_⟩,fun a3=>?_⟩,fun a2=>?_⟩,fun a1=>?_⟩,fun a0=>?_⟩
   ·have e:k=0:=by simpa using a5
    subst e
    refine ⟨⟨1,rfl,by omega,(decide_eq_true ((spkK_succ hx).mpr ⟨a0,⟨a1,by simpa using a2,a3,a4⟩,fun q=>by omega⟩)).symm⟩,by omega⟩
   ·have e:0<k:=by
     rcases Nat.eq_zero_or_pos k with q|q
     ·subst q;simp at a5
     ·exact q
    rw [W_pred' (by omega)]
    have e2:((k:Int)-1).toNat=k-1:=by omega
    rw [e2]
    refine ⟨by omega,by omega,fun y hy=>⟨⟨k+1,rfl,by omega,decide_eq_decide.mpr ?_⟩,by omega⟩⟩
    rw [spkK_succ hx]
    exact ⟨fun q=>⟨a0,⟨a1,by simpa using a2,a3,a4⟩,fun _ z hz=>by rw [hy] at hz;cases hz;exact q⟩,fun q=>q.2.2 e y hy⟩
   ·exact no a4 fun q=>((spkK_succ hx).mp q).2.1.2.2.2
   ·exact no a3 fun q=>((spkK_succ hx).mp q).2.1.2.2.1
   ·exact no (q:=x.router≠s.router) (by simpa using a2) fun q=>((spkK_succ hx).mp q).2.1.2.1
   ·exact no a1 fun q=>((spkK_succ hx).mp q).2.1.1
   ·exact no a0 fun q=>((spkK_succ hx).mp q).1
  ·have e:k=s.peers.length:=by omega
   subst e
   have hv:valS s=if spkOk s then 0 else 1:=rfl
   rw [hv]
   by_cases q:spkOk s
   ·have:=spkK_all.mpr q
    rw [if_pos q];simp [this]
   ·have:¬spkK s s.peers.length:=fun w=>q (spkK_all.mp w)
    rw [if_neg q];simp [this]
def valR6_c(s:Spk):PC Tryz.prog:=⟨105,[(.a [.k,.k,.k,(.s 4),(.s 3)])],[.agg [.int s.router,.int s.epoch,.int s.last,.sl 4 (s.items.map Itm.v) false,.sl 3 (s.peers.map Per.v) false]],valR6_e (valS s),PSpec.of_ok fun ok=>(valR6_p s ok).elim fun I0 h=>h.elim fun I1 h=>h.elim fun m1 h=>mxP_of (sh:=.k) (enc:=valR6_e) (a:=(valR6_x s I0 I1 m1).an) h (by kernel_rfl) (AV.pureB_ok rfl),fnB_ok (by kernel_rfl)⟩
def lsnA(l:Lsn):Prop:=(1≤l.router∧l.router≤99)∧(1≤l.epoch∧l.epoch≤1000000)∧l.heard.length≤12
instance (l:Lsn):Decidable (lsnA l):=by unfold lsnA;infer_instance
def lsnK(l:Lsn)(k:Nat):Prop:=lsnA l∧(∀p∈l.heard.take k,hrdOk l.router p)∧(l.heard.take k).Pairwise fun x y=>x.router<y.router
instance (l:Lsn) (k:Nat):Decidable (lsnK l k):=by unfold lsnK;infer_instance
theorem lsnK_succ{s:Lsn}{k:Nat}{x:Hrd}(hx:s.heard[k]?=some x):lsnK s (k+1)↔lsnK s k∧hrdOk s.router x∧(0<k→∀y,s.heard[k-1]?=some y→y.router<x.router):=by
 unfold lsnK
 rw [mem_take_succ hx,pw_succ Hrd.router hx]
 constructor
 ·rintro ⟨a,⟨b,c⟩,d,e⟩;exact ⟨⟨a,b,d⟩,c,e⟩
 ·rintro ⟨⟨a,b,d⟩,c,e⟩;exact ⟨a,⟨b,c⟩,d,e⟩
theorem lsnK_all{s:Lsn}:lsnK s s.heard.length↔lsnOk s:=by
 unfold lsnK lsnA lsnOk
 rw [List.take_length]
 constructor
 ·rintro ⟨⟨a,b,e⟩,f,g⟩;exact ⟨a,b,e,f,g⟩
 ·rintro ⟨a,b,e,f,g⟩;exact ⟨⟨a,b,e⟩,f,g⟩
def valLR_a(l:Lsn):Prop:=okL [.agg [.int l.router,.int l.epoch,.sl 4 (l.heard.map Hrd.v) false]]
def valLR_n0(l:Lsn)(t0:Bool):NF:=⟨[(1,.k,.ref 0 0),(3,.k,.bool t0)],[.box (.agg [.int l.router,.int l.epoch,.sl 4 (l.heard.map Hrd.v) false])]⟩
def valLR_n1(l:Lsn)(t1:Bool×Int):NF:=⟨[(1,.k,.ref 0 0),(3,.k,.bool t1.1),(21,.k,.sl 4 (l.heard.map Hrd.v) false),(22,.k,.int ((l.heard.map Hrd.v).length:Int)),(23,.k,.int t1.2)],[.box (.agg [.int l.router,.int l.epoch,.sl 4 (l.heard.map Hrd.v) false])]⟩
@[reducible] def valLR_s:Nat→Type
 | 0=>Bool
 | 1=>Bool×Int
 | _=>Unit
def valLR_e(r:Int):AV:=.int r
def valLR_x(l:Lsn)(I0:Bool→Prop)(I1:Bool→(Bool×Int)→Prop)(m1:Bool→(Bool×Int)→Nat):Ax Tryz.prog valLR_s (Int):=
 (.pass (.join 0 (valLR_n0 l) (fun (t0:Bool)=>I0 t0) (fun b0=>(.callP (inR_c l.router 1 99)
(.br 96 (inR l.router 1 99) (.callP (inR_c l.epoch 1 1000000)
(.br 176 (inR l.epoch 1 1000000) (.bk 0 b0 ((decide (((l.heard.map Hrd.v).length:Int)≤12)):Bool) [0])
(.bk 0 b0 ((false):Bool) [0])))
(.bk 0 b0 ((false):Bool) [0])))) fun (t0:Bool) =>
(.loop 1 (valLR_n1 l) (I1 t0) (m1 t0) (t0,0) [0] fun (t1:Bool×Int) b1 =>
(.br 17 (decide (t1.2<((l.heard.map Hrd.v).length:Int))) (.el 33 Hrd.v l.heard (fun R=>Rf (l.heard.map Hrd.v) (ck (decide (0≤t1.2)) (ck (decide (t1.2<(l.heard.length:Int)))
(∀x1,l.heard[t1.2.toNat]?=some x1 →
(R x1))))) fun x1 =>
(.br 145 t1.1 (.callP (inR_c x1.router 1 99)
(.br 225 (inR x1.router 1 99) (.br 337 (x1.router != l.router) (.callP (inR_c x1.epoch 1 1000000)
(.br 417 (inR x1.epoch 1 1000000) (.callP (inR_c x1.ver 0 1000000)
(.br 497 (inR x1.ver 0 1000000) (.callP (itemsR_c x1.items x1.ver)
(.br 609 (itemsB x1.items x1.ver) (.br 657 (t1.2==0) (.bk 1 b1 (true,W (t1.2+1)) [0])
(.el 721 Hrd.v l.heard (fun R=>Rf (l.heard.map Hrd.v) (ck (decide (0≤(W (t1.2-1)))) (ck (decide ((W (t1.2-1))<(l.heard.length:Int)))
(∀x2,l.heard[(W (t1.2-1)).toNat]?=some x2 →
(R x2))))) fun x2 =>
(.bk 1 b1 (decide (x2.router<x1.router),W (t1.2+1)) [0])))
(.bk 1 b1 (false,W (t1.2+1)) [0])))
(.bk 1 b1 (false,W (t1.2+1)) [0])))
(.bk 1 b1 (false,W (t1.2+1)) [0])))
(.bk 1 b1 (false,W (t1.2+1)) [0]))
(.bk 1 b1 (false,W (t1.2+1)) [0])))
(.bk 1 b1 (false,W (t1.2+1)) [0])))
(.br 49 (!t1.1) (.ret (1))
(.ret (0)))))))
def valLR_vc(l:Lsn)(I0:Bool→Prop)(I1:Bool→(Bool×Int)→Prop)(m1:Bool→(Bool×Int)→Nat)(r0:Int):Prop:=(valLR_x l I0 I1 m1).vp valLR_e r0
theorem valLR_p(s:Lsn)(ok:valLR_a s):∃I0 I1 m1,valLR_vc s I0 I1 m1 (valL s):=by
 unfold valLR_a at ok
 refine ⟨fun b=>b=decide (lsnA s),fun b t=>∃k:Nat,t.2=k∧k≤s.heard.length∧t.1=decide (lsnK s k),fun b t=>s.heard.length-t.2.toNat,?_⟩
 dsimp only [valLR_vc,valLR_x,valLR_s,Ax.vp,Ax.vc];simp only [vcU,rfU,List.length_map]
 have hle:s.heard.length≤9223372036854775807:=by
  have h:=ok
  simp only [Lsn.v,hrds,AV.ok,okL,List.length_map,maxLen_eq] at h
  omega
 simp only [inR,itemsB,decide_eq_true_iff,decide_eq_false_iff_not]
 refine ⟨⟨fun h1=>⟨fun h2=>?_,fun h2=>?_⟩,fun h1=>?_⟩,?_⟩
 ·exact decide_eq_decide.mpr ⟨fun q=>⟨h1,h2,by omega⟩,fun q=>by have:=q.2.2;omega⟩
 ·exact (decide_eq_false fun q=>h2 q.2.1).symm
 ·exact (decide_eq_false fun q=>h1 q.1).symm
 ·rintro _ rfl
  refine ⟨⟨0,rfl,by omega,decide_eq_decide.mpr (by simp [lsnK])⟩,?_⟩
  rintro ⟨_,_⟩ ⟨k,rfl,hk,rfl⟩
  simp only [Int.toNat_natCast]
  refine ⟨fun h1=>⟨by omega,by omega,fun x hx=>?_⟩,fun h1=>?_⟩
  ·rw [W_succ (n:=s.heard.length) (by omega) (by omega)]
   have no:∀{q:Prop},¬q→(lsnK s (k+1)→q)→(∃k_1:Nat,((k+1:Nat):Int)=k_1∧k_1≤s.heard.length∧false=decide (lsnK s k_1))∧s.heard.length-((k+1:Nat):Int).toNat<s.heard.length-k:=fun hq hi =>
    ⟨⟨k+1,rfl,by omega,(decide_eq_false fun q=>hq (hi q)).symm⟩,by omega⟩
   simp only [decide_eq_true_iff,decide_eq_false_iff_not]
   refine ⟨fun a0=>⟨fun a1=>⟨fun a2=>⟨fun a3=>⟨fun a4=>⟨fun b4=>⟨fun a5=>?_,fun a5=>?_⟩,fun b4=>?_⟩,fun a4=>?_⟩,fun a3=>?_⟩,fun a2=>?_⟩,fun a1=>?_⟩,fun a0=>?_⟩
   ·have e:k=0:=by simpa using a5
    subst e
    refine ⟨⟨1,rfl,by omega,(decide_eq_true ((lsnK_succ hx).mpr ⟨a0,⟨a1,by simpa using a2,a3,a4,b4⟩,fun q=>by omega⟩)).symm⟩,by omega⟩
   ·have e:0<k:=by
     rcases Nat.eq_zero_or_pos k with q|q
     ·subst q;simp at a5
     ·exact q
    rw [W_pred' (by omega)]
    have e2:((k:Int)-1).toNat=k-1:=by omega
    rw [e2]
    refine ⟨by omega,by omega,fun y hy=>⟨⟨k+1,rfl,by omega,decide_eq_decide.mpr ?_⟩,by omega⟩⟩
    rw [lsnK_succ hx]
    exact ⟨fun q=>⟨a0,⟨a1,by simpa using a2,a3,a4,b4⟩,fun _ z hz=>by rw [hy] at hz;cases hz;exact q⟩,fun q=>q.2.2 e y hy⟩
   ·exact no b4 fun q=>((lsnK_succ hx).mp q).2.1.2.2.2.2
   ·exact no a4 fun q=>((lsnK_succ hx).mp q).2.1.2.2.2.1
   ·exact no a3 fun q=>((lsnK_succ hx).mp q).2.1.2.2.1
   ·exact no (q:=x.router≠s.router) (by simpa using a2) fun q=>((lsnK_succ hx).mp q).2.1.2.1
   ·exact no a1 fun q=>((lsnK_succ hx).mp q).2.1.1
   ·exact no a0 fun q=>((lsnK_succ hx).mp q).1
  ·have e:k=s.heard.length:=by omega
   subst e
   have hv:valL s=if lsnOk s then 0 else 1:=rfl
   rw [hv]
   by_cases q:lsnOk s
   ·have:=lsnK_all.mpr q
    rw [if_pos q];simp [this]
   ·have:¬lsnK s s.heard.length:=fun w=>q (lsnK_all.mp w)
    rw [if_neg q];simp [this]
def valLR_c(l:Lsn):PC Tryz.prog:=⟨106,[(.a [.k,.k,(.s 4)])],[.agg [.int l.router,.int l.epoch,.sl 4 (l.heard.map Hrd.v) false]],valLR_e (valL l),PSpec.of_ok fun ok=>(valLR_p l ok).elim fun I0 h=>h.elim fun I1 h=>h.elim fun m1 h=>mxP_of (sh:=.k) (enc:=valLR_e) (a:=(valLR_x l I0 I1 m1).an) h (by kernel_rfl) (AV.pureB_ok rfl),fnB_ok (by kernel_rfl)⟩
def newR_a(router:Int)(epoch:Int)(peers:(List Int)):Prop:=okL [.int router,.int epoch,.sl 1 (peers.map AV.int) false]
def newR_n0(router:Int)(epoch:Int)(peers:(List Int))(t0:Int×(List Per)):NF:=⟨[(6,.k,.ref 0 0),(8,.k,.ref 1 0),(19,.k,.sl 1 (peers.map AV.int) false),(20,.k,.int ((peers.map AV.int).length:Int)),(21,.k,.int t0.1)],[.box (.agg [.int 0,.int 0,.int 0,.sl 0 [] true,.sl 0 [] true]),.box (.agg [.int router,.int epoch,.int 0,.sl 0 [] true,.vec 2]),.vec 3 (t0.2.map Per.v) (pureBL_map (fun _=>rfl) t0.2)]⟩
@[reducible] def newR_s:Nat→Type
 | 0=>Int×(List Per)
 | _=>Unit
def newR_e(r:Spk×Int):AV:=.tup [Spk.v r.1,.int r.2]
def newR_x(router:Int)(epoch:Int)(peers:(List Int))(I0:(Int×(List Per))→Prop)(m0:(Int×(List Per))→Nat):Ax Tryz.prog newR_s (Spk×Int):=
 (.br 160 (decide (12<((peers.map AV.int).length:Int))) (.ret ((⟨0,0,0,[],[]⟩:Spk),1))
(.cmdL (.nilB 80 4 3) (.loop 0 (newR_n0 router epoch peers) I0 m0 (0,[]) [0,80,208] fun (t0:Int×(List Per)) b0 =>
(.br 19 (decide (t0.1<((peers.map AV.int).length:Int))) (.el 19 AV.int peers (fun R=>Rf (peers.map AV.int) (ck (decide (0≤t0.1)) (ck (decide (t0.1<(peers.length:Int)))
(∀x1,peers[t0.1.toNat]?=some x1 →
(R x1))))) fun x1 =>
(.say (fun R=>Rf (α:=List AV) (t0.2.map Per.v) (Rf (α:=List AV) [.agg [.int x1,.int 0,.int 0]]
(ck (decide (t0.2.length+1≤1048576))
R))) (.app 147 Per.v t0.2 [(⟨x1,0,0⟩:Per)]
(.bk 0 b0 (W (t0.1+1),t0.2++[(⟨x1,0,0⟩:Per)]) [0,1,147]))))
(.callP (valR6_c (⟨router,epoch,0,[],t0.2⟩:Spk))
(.say (ck (pureBLs [(t0.2.map Per.v)])) (.br 99 ((valS (⟨router,epoch,0,[],t0.2⟩:Spk)) != 0) (.ret ((⟨0,0,0,[],[]⟩:Spk),valS (⟨router,epoch,0,[],t0.2⟩:Spk)))
(.say (Rf (t0.2.map Per.v)) (.cmdL (.frzE 2 (t0.2.map Per.v) (pureBL_map (fun _=>rfl) t0.2)) (.ret ((⟨router,epoch,0,[],t0.2⟩:Spk),0)))))))))))
def newR_vc(router:Int)(epoch:Int)(peers:(List Int))(I0:(Int×(List Per))→Prop)(m0:(Int×(List Per))→Nat)(r0:Spk×Int):Prop:=(newR_x router epoch peers I0 m0).vp newR_e r0
theorem newR_p(r k:Int)(p:List Int)(ok:newR_a r k p):∃I m,newR_vc r k p I m (new r k p):=by
 refine ⟨fun t=>∃j:Nat,t.1=j∧j≤p.length∧t.2=(p.take j).map fun x=>⟨x,0,0⟩,fun t=>p.length-t.1.toNat,?_⟩
 dsimp only [newR_vc,newR_x,newR_s,Ax.vp,Ax.vc];simp only [vcU,rfU,List.length_map]
 have hn:new r k p=if spkOk ⟨r,k,0,[],p.map fun x=>⟨x,0,0⟩⟩ then (⟨r,k,0,[],p.map fun x=>⟨x,0,0⟩⟩,0) else (spk0,1):=rfl
 refine ⟨fun h=>?_,fun h=>⟨⟨0,rfl,by omega,rfl⟩,?_⟩⟩
 ·rw [hn,if_neg]
  ·rfl
  ·intro q
   have:=q.2.2.2.2.1
   simp only [List.length_map] at this;omega
 ·rintro ⟨_,_⟩ ⟨j,rfl,hj,rfl⟩
  simp only [Int.toNat_natCast]
  refine ⟨fun h1=>⟨by omega,by omega,fun x hx=>⟨by simp;omega,⟨j+1,?_,by omega,?_⟩,?_⟩⟩,fun h1=>⟨pureBLs_one (pureBL_map (fun _=>rfl) _),?_⟩⟩
  ·rw [W_succ (n:=p.length) (by omega) (by omega)]
  ·rw [take_succ hx,List.map_append];rfl
  ·rw [W_succ (n:=p.length) (by omega) (by omega)];omega
  ·rw [List.take_of_length_le (by omega),hn]
   have hv:valS ⟨r,k,0,[],p.map fun x=>⟨x,0,0⟩⟩=if spkOk ⟨r,k,0,[],p.map fun x=>⟨x,0,0⟩⟩ then 0 else 1:=rfl
   rw [hv]
   by_cases q:spkOk ⟨r,k,0,[],p.map fun x=>⟨x,0,0⟩⟩
   ·rw [if_pos q,if_pos q];simp
   ·rw [if_neg q,if_neg q];simp [spk0]
def newR_c(router:Int)(epoch:Int)(peers:(List Int)):PC Tryz.prog:=⟨81,[.k,.k,(.s 1)],[.int router,.int epoch,.sl 1 (peers.map AV.int) false],newR_e (new router epoch peers),PSpec.of_ok fun ok=>(newR_p router epoch peers ok).elim fun I0 h=>h.elim fun m0 h=>mxP_of (sh:=(.a [(.a [.k,.k,.k,(.s 4),(.s 3)]),.k])) (enc:=newR_e) (a:=(newR_x router epoch peers I0 m0).an) h (by kernel_rfl) (AV.pureB_ok rfl),fnB_ok (by kernel_rfl)⟩
def restartR_a(s:Spk)(wants:(List Wnt)):Prop:=okL [.agg [.int s.router,.int s.epoch,.int s.last,.sl 4 (s.items.map Itm.v) false,.sl 3 (s.peers.map Per.v) false],.sl 3 (wants.map Wnt.v) false]
def restartR_n0(s:Spk)(wants:(List Wnt))(t0:Int×(List Itm)):NF:=⟨[(2,.k,.ref 0 0),(4,.k,.ref 1 0),(8,.k,.ref 2 0),(37,.k,.sl 3 (wants.map Wnt.v) false),(38,.k,.int ((wants.map Wnt.v).length:Int)),(39,.k,.int t0.1)],[.box (.agg [.int s.router,.int s.epoch,.int s.last,.sl 4 (s.items.map Itm.v) false,.sl 3 (s.peers.map Per.v) false]),.box (.agg [.int 0,.int 0,.int 0,.sl 0 [] true,.sl 0 [] true]),.box (.agg [.int s.router,.int (W (s.epoch+1)),.int ((wants.map Wnt.v).length:Int),.vec 3,.sl 0 [] true]),.vec 4 (t0.2.map Itm.v) (pureBL_map (fun _=>rfl) t0.2)]⟩
def restartR_n1(s:Spk)(wants:(List Wnt))(t0:Int×(List Itm))(t1:Int×(List Per)):NF:=⟨[(4,.k,.ref 0 0),(8,.k,.ref 1 0),(58,.k,.sl 3 (s.peers.map Per.v) false),(59,.k,.int ((s.peers.map Per.v).length:Int)),(60,.k,.int t1.1)],[.box (.agg [.int 0,.int 0,.int 0,.sl 0 [] true,.sl 0 [] true]),.box (.agg [.int s.router,.int (W (s.epoch+1)),.int ((wants.map Wnt.v).length:Int),.vec 2,.vec 3]),.vec 4 (t0.2.map Itm.v) (pureBL_map (fun _=>rfl) t0.2),.vec 3 (t1.2.map Per.v) (pureBL_map (fun _=>rfl) t1.2)]⟩
@[reducible] def restartR_s:Nat→Type
 | 0=>Int×(List Itm)
 | 1=>Int×(List Per)
 | _=>Unit
def restartR_e(r:Spk×Int):AV:=.tup [Spk.v r.1,.int r.2]
def restartR_x(s:Spk)(wants:(List Wnt))(I0:(Int×(List Itm))→Prop)(m0:(Int×(List Itm))→Nat)(I1:Int×(List Itm)→(Int×(List Per))→Prop)(m1:Int×(List Itm)→(Int×(List Per))→Nat):Ax Tryz.prog restartR_s (Spk×Int):=
 (.callP (valR6_c s)
(.br 128 ((valS s) != 0) (.ret ((⟨0,0,0,[],[]⟩:Spk),valS s))
(.callP (valR_c wants)
(.br 208 ((wErr false wants) != 0) (.ret ((⟨0,0,0,[],[]⟩:Spk),wErr false wants))
(.br 256 (decide (1000000≤s.epoch)) (.ret ((⟨0,0,0,[],[]⟩:Spk),3))
(.cmdL (.nilB 384 3 4) (.loop 0 (restartR_n0 s wants) I0 m0 (0,[]) [0,16,384,464] fun (t0:Int×(List Itm)) b0 =>
(.br 20 (decide (t0.1<((wants.map Wnt.v).length:Int))) (.el 36 Wnt.v wants (fun R=>Rf (wants.map Wnt.v) (ck (decide (0≤t0.1)) (ck (decide (t0.1<(wants.length:Int)))
(∀x1,wants[t0.1.toNat]?=some x1 →
(R x1))))) fun x1 =>
(.say (fun R=>Rf (α:=List AV) (t0.2.map Itm.v) (Rf (α:=List AV) [.agg [.int (W (t0.1+1)),.int x1.grp,.int x1.mode,.sl 1 (x1.srcs.map AV.int) false]]
(ck (decide (t0.2.length+1≤1048576))
R))) (.app 276 Itm.v t0.2 [(⟨W (t0.1+1),x1.grp,x1.mode,x1.srcs⟩:Itm)]
(.bk 0 b0 (W (t0.1+1),t0.2++[(⟨W (t0.1+1),x1.grp,x1.mode,x1.srcs⟩:Itm)]) [0,1,2,276]))))
(.cmdL (.nilB 2 4 3) (.loop 1 (restartR_n1 s wants t0) (I1 t0) (m1 t0) (0,[]) [1,2,3,84] fun (t1:Int×(List Per)) b1 =>
(.br 20 (decide (t1.1<((s.peers.map Per.v).length:Int))) (.el 20 Per.v s.peers (fun R=>Rf (s.peers.map Per.v) (ck (decide (0≤t1.1)) (ck (decide (t1.1<(s.peers.length:Int)))
(∀x2,s.peers[t1.1.toNat]?=some x2 →
(R x2))))) fun x2 =>
(.say (fun R=>Rf (α:=List AV) (t1.2.map Per.v) (Rf (α:=List AV) [.agg [.int x2.router,.int 0,.int 0]]
(ck (decide (t1.2.length+1≤1048576))
R))) (.app 180 Per.v t1.2 [(⟨x2.router,0,0⟩:Per)]
(.bk 1 b1 (W (t1.1+1),t1.2++[(⟨x2.router,0,0⟩:Per)]) [0,1,2,180]))))
(.say (Rf (t1.2.map Per.v)) (.cmdL (.frzE 3 (t1.2.map Per.v) (pureBL_map (fun _=>rfl) t1.2)) (.say (Rf (t0.2.map Itm.v)) (.cmdL (.frzE 2 (t0.2.map Itm.v) (pureBL_map (fun _=>rfl) t0.2)) (.ret ((⟨s.router,W (s.epoch+1),((wants.map Wnt.v).length:Int),t0.2,t1.2⟩:Spk),0)))))))))))))))))
def restartR_vc(s:Spk)(wants:(List Wnt))(I0:(Int×(List Itm))→Prop)(m0:(Int×(List Itm))→Nat)(I1:Int×(List Itm)→(Int×(List Per))→Prop)(m1:Int×(List Itm)→(Int×(List Per))→Nat)(r0:Spk×Int):Prop:=(restartR_x s wants I0 m0 I1 m1).vp restartR_e r0
theorem restartR_p(s:Spk)(w:List Wnt)(ok:restartR_a s w):∃I0 m0 I1 m1,restartR_vc s w I0 m0 I1 m1 (restart s w):=by
 refine ⟨fun t=>∃j:Nat,t.1=j∧j≤w.length∧t.2=(w.mapIdx wItm).take j,fun t=>w.length-t.1.toNat,
  fun t0 t=>∃j:Nat,t.1=j∧j≤s.peers.length∧t.2=(s.peers.take j).map fun p=>⟨p.router,0,0⟩,fun t0 t=>s.peers.length-t.1.toNat,?_⟩
 dsimp only [restartR_vc,restartR_x,restartR_s,Ax.vp,Ax.vc];simp only [vcU,rfU,List.length_map]
 have hv:valS s=if spkOk s then 0 else 1:=rfl
 rw [hv]
 unfold restart
 by_cases h1:spkOk s
 case neg=>rw [if_neg h1,if_pos h1];simp [spk0]
 rw [if_pos h1,if_neg (not_not_intro h1)]
 refine ⟨fun q=>by simp at q,fun _=>⟨fun h2=>?_,fun h2=>?_⟩⟩
 ·have h2:wErr false w≠0:=by simpa using h2
  rw [if_pos h2];rfl
 have h2:wErr false w=0:=by simpa using h2
 rw [if_neg (not_not_intro h2)]
 have he:=h1.2.1
 refine ⟨fun h3=>?_,fun h3=>⟨⟨0,rfl,by omega,by simp⟩,?_⟩⟩
 ·rw [if_pos (by omega)];rfl
 rw [if_neg (by omega)]
 obtain ⟨w1,_⟩:=wErr_zero.mp h2
 rintro ⟨_,_⟩ ⟨j,rfl,hj,rfl⟩
 simp only [Int.toNat_natCast]
 refine ⟨fun h4=>⟨by omega,by omega,fun x hx=>?_⟩,fun h4=>⟨⟨0,rfl,by omega,rfl⟩,?_⟩⟩
 ·rw [W_succ (n:=w.length) (by omega) (by omega)]
  refine ⟨by simp;omega,⟨j+1,rfl,by omega,?_⟩,by omega⟩
  have:(w.mapIdx wItm)[j]?=some (wItm j x):=by rw [List.getElem?_mapIdx,hx];rfl
  rw [take_succ this]
  rfl
 ·rintro ⟨_,_⟩ ⟨i,rfl,hi,rfl⟩
  have hp:=h1.2.2.2.2.1
  simp only [Int.toNat_natCast]
  refine ⟨fun h5=>⟨by omega,by omega,fun x hx=>?_⟩,fun h5=>?_⟩
  ·rw [W_succ (n:=s.peers.length) (by omega) (by omega)]
   refine ⟨by simp;omega,⟨i+1,rfl,by omega,?_⟩,by omega⟩
   rw [take_succ hx,List.map_append];rfl
  ·rw [List.take_of_length_le (by simp;omega),List.take_of_length_le (l:=s.peers) (by omega),W_eq (by omega)]
def restartR_c(s:Spk)(wants:(List Wnt)):PC Tryz.prog:=⟨119,[(.a [.k,.k,.k,(.s 4),(.s 3)]),(.s 3)],[.agg [.int s.router,.int s.epoch,.int s.last,.sl 4 (s.items.map Itm.v) false,.sl 3 (s.peers.map Per.v) false],.sl 3 (wants.map Wnt.v) false],restartR_e (restart s wants),PSpec.of_ok fun ok=>(restartR_p s wants ok).elim fun I0 h=>h.elim fun m0 h=>h.elim fun I1 h=>h.elim fun m1 h=>mxP_of (sh:=(.a [(.a [.k,.k,.k,(.s 4),(.s 3)]),.k])) (enc:=restartR_e) (a:=(restartR_x s wants I0 m0 I1 m1).an) h (by kernel_rfl) (AV.pureB_ok rfl),fnB_ok (by kernel_rfl)⟩
def others(l:List Int)(n:Int):List Int:=l.filter fun x=>decide (x≠n)
structure AtK (R:List Int) (i:Nat) (s:Spk) (l:Lsn):Prop where
  fs:spkOk s
  fasc:0<i→∀y,R[i-1]?=some y→y<s.router
  fp:s.peers.map Per.router=others R s.router
  fl:lsnOk l
  fr:l.router=s.router
  fh:∀h∈l.heard,h.router∈R
theorem rtrs_get{sp:List Spk}{i:Nat}{s:Spk}(h:sp[i]?=some s):(rtrs sp)[i]?=some s.router:=by
 unfold rtrs;rw [List.getElem?_map,h];rfl
theorem rtrs_len{sp:List Spk}:(rtrs sp).length=sp.length:=List.length_map ..
theorem ovl_iff{o:Ovl}:ovlOk o↔o.sp.length≤12∧o.ls.length=o.sp.length∧(∀i s l,o.sp[i]?=some s→o.ls[i]?=some l→AtK (rtrs o.sp) i s l)∧∀x∈o.fl,sigIn (rtrs o.sp) x:=by
 constructor
 ·rintro ⟨h,hf⟩
  refine ⟨by rw [←rtrs_len];exact h.len,?_,fun i s l hs hl=>?_,hf⟩
  ·have:=congrArg List.length h.lsr
   rw [List.length_map,rtrs_len] at this;exact this
  ·obtain ⟨s1,s2⟩:=h.spo s (mem_of_get hs)
   obtain ⟨l1,l2⟩:=h.lso l (mem_of_get hl)
   refine ⟨s1,fun hi y hy=>?_,s2,l1,?_,l2⟩
   ·unfold rtrs at hy
    rw [List.getElem?_map] at hy
    cases hz:o.sp[i-1]? with
    | none=>rw [hz] at hy;simp at hy
    | some z =>
     rw [hz] at hy
     have hy:z.router=y:=by simpa using hy
     have:=pw_get h.asc (show i-1<i by omega) hz hs
     omega
   ·have h1:=rtrs_get hs
    rw [←h.lsr,List.getElem?_map,hl] at h1
    simpa using h1
 ·rintro ⟨h1,h2,h3,h4⟩
  have hget:∀{i:Nat} {s:Spk},o.sp[i]?=some s→∃l,o.ls[i]?=some l:=fun {i s} hs=>⟨_,List.getElem?_eq_getElem (by have:=lt_of_get hs;omega)⟩
  have hgetL:∀{i:Nat} {l:Lsn},o.ls[i]?=some l→∃s,o.sp[i]?=some s:=fun {i l} hs=>⟨_,List.getElem?_eq_getElem (by have:=lt_of_get hs;omega)⟩
  have hasc:∀k:Nat,k≤o.sp.length→(o.sp.take k).Pairwise fun x y=>x.router<y.router:=by
   intro k
   induction k with
   | zero=>intro _;simp
   | succ k ih =>
    intro hk
    have hs:o.sp[k]?=some o.sp[k]:=List.getElem?_eq_getElem (by omega)
    obtain ⟨l,hl⟩:=hget hs
    refine (pw_succ Spk.router hs).mpr ⟨ih (by omega),fun hp y hy=>?_⟩
    exact (h3 k _ l hs hl).fasc hp _ (rtrs_get hy)
  have ha:=hasc o.sp.length (Nat.le_refl _)
  rw [List.take_length] at ha
  refine ⟨⟨by rw [rtrs_len];exact h1,rfl,?_,ha,fun s hs=>?_,fun l hl=>?_⟩,h4⟩
  ·refine List.ext_getElem (by rw [List.length_map,rtrs_len,h2]) fun i i1 i2=>?_
   rw [List.length_map] at i1
   have hl:o.ls[i]?=some o.ls[i]:=List.getElem?_eq_getElem i1
   obtain ⟨s,hs⟩:=hgetL hl
   have:=(h3 i s _ hs hl).fr
   rw [List.getElem_map,this]
   have e:=rtrs_get hs
   rw [List.getElem?_eq_getElem i2] at e
   simpa using e.symm
  ·obtain ⟨i,hi,rfl⟩:=List.getElem_of_mem hs
   have hs:o.sp[i]?=some o.sp[i]:=List.getElem?_eq_getElem hi
   obtain ⟨l,hl⟩:=hget hs
   have q:=h3 i _ l hs hl
   exact ⟨q.fs,q.fp⟩
  ·obtain ⟨i,hi,rfl⟩:=List.getElem_of_mem hl
   have hl:o.ls[i]?=some o.ls[i]:=List.getElem?_eq_getElem hi
   obtain ⟨s,hs⟩:=hgetL hl
   have q:=h3 i s _ hs hl
   exact ⟨q.fl,q.fh⟩
theorem sub_eq:∀{l m:List Int},l.Pairwise (·<·)→m.Pairwise (·<·)→(∀x∈l,x∈m)→l.length=m.length→l=m
 | [],m,_,_,_,h=>by cases m with|nil=>rfl|cons y m=>simp at h
 | x::l,[],_,_,_,h=>by simp at h
 | x::l,y::m,h1,h2,h3,h4=>by
  rw [List.pairwise_cons] at h1 h2
  have hl:l.length=m.length:=by simpa using h4
  have hsub:∀z∈l,z∈m:=fun z hz=>by
   rcases List.mem_cons.mp (h3 z (by simp [hz])) with e|e
   ·exfalso
    have hx:=h1.1 z hz
    rcases List.mem_cons.mp (h3 x (by simp)) with q|q
    ·omega
    ·have:=h2.1 x q;omega
   ·exact e
  have e:=sub_eq h1.2 h2.2 hsub hl
  subst e
  congr 1
  rcases List.mem_cons.mp (h3 x (by simp)) with q|q
  ·exact q
  ·have:=h1.1 x q;omega
theorem others_len{R:List Int}(h:R.Nodup){r:Int}(hr:r∈R):(others R r).length+1=R.length:=by
 induction R with
 | nil=>simp at hr
 | cons x R ih =>
  rw [List.nodup_cons] at h
  unfold others
  by_cases e:x=r
  ·subst e
   rw [List.filter_cons_of_neg (by simp),List.filter_eq_self.mpr fun y hy=>by simpa using fun (q:y=x)=>h.1 (q ▸ hy)]
   rfl
  ·rw [List.filter_cons_of_pos (by simpa using e),List.length_cons,List.length_cons]
   have:=ih h.2 (by rcases List.mem_cons.mp hr with q|q;exact absurd q.symm e;exact q)
   unfold others at this
   omega
theorem peers_iff{R:List Int}{s:Spk}(hR:R.Pairwise (·<·))(hs:spkOk s)(hr:s.router∈R) :
  s.peers.map Per.router=others R s.router↔s.peers.length+1=R.length∧∀p∈s.peers,p.router∈R:=by
 have hn:R.Nodup:=hR.imp fun q=>by omega
 have ho:=others_len hn hr
 constructor
 ·intro h
  have e:=congrArg List.length h
  rw [List.length_map] at e
  refine ⟨by omega,fun p hp=>?_⟩
  have:p.router∈s.peers.map Per.router:=List.mem_map.mpr ⟨p,hp,rfl⟩
  rw [h] at this
  exact (List.mem_filter.mp this).1
 ·rintro ⟨h1,h2⟩
  refine sub_eq ?_ (hR.filter _) (fun x hx=>?_) (by rw [List.length_map];omega)
  ·rw [List.pairwise_map];exact hs.2.2.2.2.2.2
  ·obtain ⟨p,hp,rfl⟩:=List.mem_map.mp hx
   exact List.mem_filter.mpr ⟨h2 p hp,by simpa using (hs.2.2.2.2.2.1 p hp).2.1⟩
def inR5(x lo hi:Int):Bool:=decide (lo≤x∧x≤hi)
def inR5_a(x:Int)(lo:Int)(hi:Int):Prop:=okL [.int x,.int lo,.int hi]
def inR5_e(r:Bool):AV:=.bool r
def inR5_x(x:Int)(lo:Int)(hi:Int):Ax Tryz.prog noS (Bool):=
 (.br 80 (decide (lo≤x)) (.ret (decide (x≤hi)))
(.ret (false)))
def inR5_vc(x:Int)(lo:Int)(hi:Int)(r0:Bool):Prop:=(inR5_x x lo hi).vp inR5_e r0
theorem inR5_p(x lo hi:Int)(ok:inR5_a x lo hi):inR5_vc x lo hi (inR5 x lo hi):=by
 dsimp only [inR5_vc,inR5_x,noS,Ax.vp,Ax.vc];simp only [vcU,rfU,List.length_map]
 refine ⟨fun h=>decide_eq_decide.mpr ⟨fun q=>⟨h,q⟩,fun q=>q.2⟩,fun h=>(decide_eq_false fun q=>h q.1).symm⟩
def inR5_c(x:Int)(lo:Int)(hi:Int):PC Tryz.prog:=⟨150,[.k,.k,.k],[.int x,.int lo,.int hi],inR5_e (inR5 x lo hi),PSpec.of_ok fun ok=>mxP_of (sh:=.k) (enc:=inR5_e) (a:=(inR5_x x lo hi).an) (inR5_p x lo hi ok) (by kernel_rfl) (AV.pureB_ok rfl),fnB_ok (by kernel_rfl)⟩
theorem nodec{p:Prop}[Decidable p](h:¬p):false=decide p:=(decide_eq_false h).symm
def sigVR_a(s:Sig):Prop:=okL [.agg [.int s.kind,.int s.src,.int s.dst,.int s.epoch,.int s.ver,.int s.prev,.int s.pep,.int s.grp,.int s.mode,.sl 1 (s.srcs.map AV.int) false]]
def sigVR_n0(s:Sig)(t0:Bool):NF:=⟨[(1,.k,.ref 0 0),(3,.k,.bool t0)],[.box (.agg [.int s.kind,.int s.src,.int s.dst,.int s.epoch,.int s.ver,.int s.prev,.int s.pep,.int s.grp,.int s.mode,.sl 1 (s.srcs.map AV.int) false])]⟩
def sigVR_n1(t1:Bool):NF:=⟨[(126,.k,.bool t1)],[]⟩
@[reducible] def sigVR_s:Nat→Type
 | 0=>Bool
 | 1=>Bool
 | _=>Unit
def sigVR_e(r:Int):AV:=.int r
def sigVR_x(s:Sig)(I0:Bool→Prop)(I1:Bool→Bool→Prop):Ax Tryz.prog sigVR_s (Int):=
 (.pass (.join2 0 (sigVR_n0 s) (fun (t0:Bool)=>I0 t0) (fun b0=>(.callP (inR5_c s.src 1 99)
(.br 96 (inR5 s.src 1 99) (.callP (inR5_c s.dst 1 99)
(.br 176 (inR5 s.dst 1 99) (.br 352 (s.kind==1) (.br 384 (s.src != s.dst) (.callP (inR5_c s.epoch 1 1000000)
(.br 464 (inR5 s.epoch 1 1000000) (.callP (inR5_c s.ver 0 1000000)
(.br 544 (inR5 s.ver 0 1000000) (.br 624 (s.prev==0) (.br 704 (s.pep==0) (.bk 0 b0 ((s.grp==0):Bool) [0])
(.bk 0 b0 ((false):Bool) [0]))
(.bk 0 b0 ((false):Bool) [0]))
(.bk 0 b0 ((false):Bool) [0])))
(.bk 0 b0 ((false):Bool) [0])))
(.bk 0 b0 ((false):Bool) [0]))
(.br 384 (s.kind==2) (.br 416 (s.src != s.dst) (.callP (inR5_c s.epoch 1 1000000)
(.br 496 (inR5 s.epoch 1 1000000) (.callP (inR5_c s.ver 1 1000000)
(.br 576 (inR5 s.ver 1 1000000) (.callP (inR5_c s.prev 0 (W (s.ver-1)))
(.br 704 (inR5 s.prev 0 (W (s.ver-1))) (.br 784 (s.pep==0) (.callP (inR5_c s.grp 1 99)
(.bk 0 b0 ((inR5 s.grp 1 99):Bool) [0]))
(.bk 0 b0 ((false):Bool) [0]))
(.bk 0 b0 ((false):Bool) [0])))
(.bk 0 b0 ((false):Bool) [0])))
(.bk 0 b0 ((false):Bool) [0])))
(.bk 0 b0 ((false):Bool) [0]))
(.br 416 (s.kind==3) (.br 448 (s.src != s.dst) (.callP (inR5_c s.epoch 0 1000000)
(.br 528 (inR5 s.epoch 0 1000000) (.callP (inR5_c s.ver 0 1000000)
(.br 608 (inR5 s.ver 0 1000000) (.br 688 (s.prev==0) (.callP (inR5_c s.pep 1 1000000)
(.br 768 (inR5 s.pep 1 1000000) (.bk 0 b0 ((s.grp==0):Bool) [0])
(.bk 0 b0 ((false):Bool) [0])))
(.bk 0 b0 ((false):Bool) [0]))
(.bk 0 b0 ((false):Bool) [0])))
(.bk 0 b0 ((false):Bool) [0])))
(.bk 0 b0 ((false):Bool) [0]))
(.ret (1)))))
(.br 352 (s.kind==1) (.bk 0 b0 ((false):Bool) [0])
(.br 384 (s.kind==2) (.bk 0 b0 ((false):Bool) [0])
(.br 416 (s.kind==3) (.bk 0 b0 ((false):Bool) [0])
(.ret (1)))))))
(.br 352 (s.kind==1) (.bk 0 b0 ((false):Bool) [0])
(.br 384 (s.kind==2) (.bk 0 b0 ((false):Bool) [0])
(.br 416 (s.kind==3) (.bk 0 b0 ((false):Bool) [0])
(.ret (1)))))))) fun (t0:Bool) =>
(.br 33 (!t0) (.ret (2))
(.br 81 (s.kind==2) (.callP (FVal_c (⟨s.mode,s.srcs⟩:Flt))
(.ret (fltErr (⟨s.mode,s.srcs⟩:Flt).mode (⟨s.mode,s.srcs⟩:Flt).srcs)))
(.pass (.join 1 (sigVR_n1) (fun (t1:Bool)=>I1 t0 t1) (fun b1=>(.br 161 (s.mode != 0) (.bk 1 b1 ((true):Bool) [])
(.bk 1 b1 ((decide (0<((s.srcs.map AV.int).length:Int))):Bool) []))) fun (t1:Bool) =>
(.br 0 t1 (.ret (1))
(.ret (0)))))))))
def sigVR_vc(s:Sig)(I0:Bool→Prop)(I1:Bool→Bool→Prop)(r0:Int):Prop:=(sigVR_x s I0 I1).vp sigVR_e r0
theorem sigVR_p(s:Sig)(ok:sigVR_a s):∃I0 I1,sigVR_vc s I0 I1 (sigErr s):=by
 simp only [sigVR_a,okU,Blk.ok,plainV,List.length_map] at ok
 refine ⟨fun b=>(s.kind=1∨s.kind=2∨s.kind=3)∧(b=true↔sigEnds s∧sigNums s),fun b c=>c=true↔s.mode≠0∨s.srcs≠[],?_⟩
 dsimp only [sigVR_vc,sigVR_x,sigVR_s,Ax.vp,Ax.vc];simp only [vcU,rfU,List.length_map]
 have hv:s.kind=2→1≤s.ver→s.ver≤1000000→W (s.ver-1)=s.ver-1:=fun _ h1 h2=>W_eq (by omega)
 simp only [inR5,decide_eq_true_iff,decide_eq_false_iff_not,beq_iff_eq,beq_eq_false_iff_ne,bne_iff_ne,bne_eq_false_iff_eq,ne_eq,Bool.false_eq_true,false_iff,Int.natCast_pos,List.length_pos_iff]
 have hk:∀{A B C:Prop},(s.kind=1→A)→(s.kind≠1→s.kind=2→B)→(s.kind≠1→s.kind≠2→s.kind=3→C)→(s.kind=1→A)∧(¬s.kind=1→(s.kind=2→B)∧(¬s.kind=2→(s.kind=3→C)∧(¬s.kind=3→True))):=fun a b c=>⟨a,fun n=>⟨b n,fun m=>⟨c n m,fun _=>trivial⟩⟩⟩
 have n1:s.kind=1→(sigNums s↔(1≤s.epoch∧s.epoch≤1000000)∧(0≤s.ver∧s.ver≤1000000)∧s.prev=0∧s.pep=0∧s.grp=0):=fun e=>by unfold sigNums;rw [if_pos e]
 have n2:s.kind=2→(sigNums s↔(1≤s.epoch∧s.epoch≤1000000)∧(1≤s.ver∧s.ver≤1000000)∧(0≤s.prev∧s.prev≤s.ver-1)∧s.pep=0∧(1≤s.grp∧s.grp≤99)):=fun e=>by unfold sigNums;rw [if_neg (by omega),if_pos e]
 have n3:s.kind=3→(sigNums s↔(0≤s.epoch∧s.epoch≤1000000)∧(0≤s.ver∧s.ver≤1000000)∧s.prev=0∧(1≤s.pep∧s.pep≤1000000)∧s.grp=0):=fun e=>by unfold sigNums;rw [if_neg (by omega),if_neg (by omega)]
 have en:sigEnds s↔(1≤s.src∧s.src≤99)∧(1≤s.dst∧s.dst≤99)∧s.src≠s.dst:=Iff.rfl
 have hw:W (s.ver-1)=s.ver-1∨¬1≤s.ver:=by
  by_cases h:1≤s.ver
  ·exact .inl (W_eq (by omega))
  ·exact .inr h
 generalize W (s.ver-1)=w at *
 clear hv
 generalize hN:sigNums s=N at *
 rw [en]
 refine ⟨?_,fun b hb=>⟨fun e=>?_,fun e=>⟨fun k=>?_,fun k=>⟨⟨fun m=>?_,fun m=>?_⟩,fun c hc=>⟨fun e2=>?_,fun e2=>?_⟩⟩⟩⟩⟩
 ·refine ⟨fun a1=>⟨fun a2=>⟨fun k=>?_,fun k=>⟨fun k2=>?_,fun k2=>⟨fun k3=>?_,fun k3=>?_⟩⟩⟩,fun a2=>⟨fun k=>?_,fun k=>⟨fun k2=>?_,fun k2=>⟨fun k3=>?_,fun k3=>?_⟩⟩⟩⟩,fun a1=>⟨fun k=>?_,fun k=>⟨fun k2=>?_,fun k2=>⟨fun k3=>?_,fun k3=>?_⟩⟩⟩⟩
  all_goals first
   | (simp only [n1 k];omega)
   | (simp only [n2 k2];omega)
   | (simp only [n3 k3];omega)
   | (unfold sigErr;rw [if_pos (by omega)])
 ·have e:b=false:=by simpa using e
  subst e
  unfold sigErr
  rw [if_neg (by omega),if_pos]
  rintro ⟨q1,q2⟩
  exact Bool.noConfusion (hb.2.mpr ⟨q1,hN ▸ q2⟩)
 ·have q:=hb.2.mp (by simpa using e)
  unfold sigErr
  rw [if_neg (by omega),if_neg (not_not_intro ⟨q.1,hN ▸ q.2⟩),if_pos k]
 ·exact ⟨fun _=>.inl m,fun _=>trivial⟩
 ·exact ⟨fun q=>.inr q,fun q=>q.resolve_left fun z=>z m⟩
 ·have q:=hb.2.mp (by simpa using e)
  unfold sigErr
  rw [if_neg (by omega),if_neg (not_not_intro ⟨q.1,hN ▸ q.2⟩),if_neg k,if_pos (hc.mp e2)]
 ·have q:=hb.2.mp (by simpa using e)
  unfold sigErr
  rw [if_neg (by omega),if_neg (not_not_intro ⟨q.1,hN ▸ q.2⟩),if_neg k,if_neg]
  intro z
  have:=hc.mpr z
  rw [e2] at this;cases this
def sigVR_c(s:Sig):PC Tryz.prog:=⟨107,[(.a [.k,.k,.k,.k,.k,.k,.k,.k,.k,(.s 1)])],[.agg [.int s.kind,.int s.src,.int s.dst,.int s.epoch,.int s.ver,.int s.prev,.int s.pep,.int s.grp,.int s.mode,.sl 1 (s.srcs.map AV.int) false]],sigVR_e (sigErr s),PSpec.of_ok fun ok=>(sigVR_p s ok).elim fun I0 h=>h.elim fun I1 h=>mxP_of (sh:=.k) (enc:=sigVR_e) (a:=(sigVR_x s I0 I1).an) h (by kernel_rfl) (AV.pureB_ok rfl),fnB_ok (by kernel_rfl)⟩
def hasR(l:List Wnt)(g:Int):Bool:=decide (∃w∈l,w.grp=g)
def hasR_a(l:(List Wnt))(group:Int):Prop:=okL [.sl 3 (l.map Wnt.v) false,.int group]
def hasR_n0(l:(List Wnt))(group:Int)(t0:Int):NF:=⟨[(1,.k,.int group),(7,.k,.sl 3 (l.map Wnt.v) false),(8,.k,.int ((l.map Wnt.v).length:Int)),(9,.k,.int t0)],[]⟩
@[reducible] def hasR_s:Nat→Type
 | 0=>Int
 | _=>Unit
def hasR_e(r:Bool):AV:=.bool r
def hasR_x(l:(List Wnt))(group:Int)(I0:Int→Prop)(m0:Int→Nat):Ax Tryz.prog hasR_s (Bool):=
 (.loop 0 (hasR_n0 l group) I0 m0 ((0):Int) [] fun (t0:Int) b0 =>
(.br 16 (decide (t0<((l.map Wnt.v).length:Int))) (.el 16 Wnt.v l (fun R=>Rf (l.map Wnt.v) (ck (decide (0≤t0)) (ck (decide (t0<(l.length:Int)))
(∀x1,l[t0.toNat]?=some x1 →
(R x1))))) fun x1 =>
(.br 144 (x1.grp==group) (.ret (true))
(.bk 0 b0 ((W (t0+1)):Int) [])))
(.ret (false))))
def hasR_vc(l:(List Wnt))(group:Int)(I0:Int→Prop)(m0:Int→Nat)(r0:Bool):Prop:=(hasR_x l group I0 m0).vp hasR_e r0
theorem hasR_p(l:List Wnt)(g:Int)(ok:hasR_a l g):∃I m,hasR_vc l g I m (hasR l g):=by
 simp only [hasR_a,okU,Blk.ok,plainV,List.length_map] at ok
 refine ⟨fun t=>∃k:Nat,t=k∧k≤l.length∧∀x∈l.take k,x.grp≠g,fun t=>l.length-t.toNat,?_⟩
 dsimp only [hasR_vc,hasR_x,hasR_s,Ax.vp,Ax.vc];simp only [vcU,rfU,List.length_map]
 have hle:l.length≤9223372036854775807:=ok.1.1
 refine ⟨⟨0,rfl,by omega,by simp⟩,?_⟩
 rintro _ ⟨k,rfl,hk,hI⟩
 simp only [Int.toNat_natCast]
 refine ⟨fun h1=>⟨by omega,by omega,fun x hx=>⟨fun e=>?_,fun e=>?_⟩⟩,fun h1=>?_⟩
 ·exact (decide_eq_true ⟨x,mem_of_get hx,by simpa using e⟩).symm
 ·rw [W_succ (n:=l.length) (by omega) (by omega)]
  exact ⟨⟨k+1,rfl,by omega,(mem_take_succ hx).mpr ⟨hI,by simpa using e⟩⟩,by omega⟩
 ·rw [List.take_of_length_le (by omega)] at hI
  exact nodec fun ⟨w,hw,e⟩=>hI w hw e
def hasR_c(l:(List Wnt))(group:Int):PC Tryz.prog:=⟨157,[(.s 3),.k],[.sl 3 (l.map Wnt.v) false,.int group],hasR_e (hasR l group),PSpec.of_ok fun ok=>(hasR_p l group ok).elim fun I0 h=>h.elim fun m0 h=>mxP_of (sh:=.k) (enc:=hasR_e) (a:=(hasR_x l group I0 m0).an) h (by kernel_rfl) (AV.pureB_ok rfl),fnB_ok (by kernel_rfl)⟩
def appF(old c:List Wnt)(g:Int):Int×List Int:=if hasR c g=true then find2 c g else find2 old g
def applyG(old c:List Wnt):List Wnt×Int:=
 if wErr false old≠0 then ([],wErr false old) else if wErr true c≠0 then ([],wErr true c) else limitW (fromF (appF old c) 99)
theorem fromF_len{f:Int→Int×List Int}:∀n:Nat,(fromF f n).length≤n
 | 0=>Nat.le_refl _
 | n+1=>by
  rw [fromF,List.length_append]
  have:=fromF_len (f:=f) n
  unfold from1
  split<;>simp<;>omega
def applyR_a(old:(List Wnt))(changes:(List Wnt)):Prop:=okL [.sl 3 (old.map Wnt.v) false,.sl 3 (changes.map Wnt.v) false]
def applyR_n0(old:(List Wnt))(changes:(List Wnt))(t0:Int×(List Wnt)):NF:=⟨[(0,.k,.sl 3 (old.map Wnt.v) false),(1,.k,.sl 3 (changes.map Wnt.v) false),(8,.k,.vec 0),(9,.k,.int t0.1)],[.vec 3 (t0.2.map Wnt.v) (pureBL_map (fun _=>rfl) t0.2)]⟩
def applyR_n1(old:(List Wnt))(changes:(List Wnt))(t0:Int×(List Wnt))(t1:Flt):NF:=⟨[(0,.k,.sl 3 (old.map Wnt.v) false),(1,.k,.sl 3 (changes.map Wnt.v) false),(8,.k,.vec 0),(9,.k,.int t0.1),(10,.k,.ref 1 0)],[.vec 3 (t0.2.map Wnt.v) (pureBL_map (fun _=>rfl) t0.2),.box (.agg [.int t1.mode,.sl 1 (t1.srcs.map AV.int) false])]⟩
@[reducible] def applyR_s:Nat→Type
 | 0=>Int×(List Wnt)
 | 1=>Flt
 | _=>Unit
def applyR_e(r:(List Wnt)×Int):AV:=.tup [.sl 3 (r.1.map Wnt.v) false,.int r.2]
def applyR_x(old:(List Wnt))(changes:(List Wnt))(I0:(Int×(List Wnt))→Prop)(m0:(Int×(List Wnt))→Nat)(I1:Int×(List Wnt)→Flt→Prop):Ax Tryz.prog applyR_s ((List Wnt)×Int):=
 (.callP (valR_c old)
(.br 112 ((wErr false old) != 0) (.ret ([],wErr false old))
(.callP (checkR_c changes true)
(.br 192 ((wErr true changes) != 0) (.ret ([],wErr true changes))
(.cmdL (.nilT 8 3) (.loop 0 (applyR_n0 old changes) I0 m0 (1,[]) [224] fun (t0:Int×(List Wnt)) b0 =>
(.br 33 (decide (t0.1≤99)) (.callP (findR_c old t0.1)
(.join 1 (applyR_n1 old changes t0) (fun (t1:Flt)=>I1 t0 t1) (fun b1=>(.callP (hasR_c changes t0.1)
(.br 161 (hasR changes t0.1) (.callP (findR_c changes t0.1)
(.bk 1 b1 ((findW changes t0.1):Flt) [0,81]))
(.bk 1 b1 ((findW old t0.1):Flt) [0,81])))) fun (t1:Flt) =>
(.callP (Nothing_c )
(.callP (FSame_c t1 (⟨1,[]⟩:Flt))
(.br 66 (!(FSame t1 (⟨1,[]⟩:Flt))) (.say (fun R=>Rf (α:=List AV) (t0.2.map Wnt.v) (Rf (α:=List AV) [.agg [.int t0.1,.int t1.mode,.sl 1 (t1.srcs.map AV.int) false]]
(ck (decide (t0.2.length+1≤1048576))
R))) (.app 146 Wnt.v t0.2 [(⟨t0.1,t1.mode,t1.srcs⟩:Wnt)]
(.bk 0 b0 (W (t0.1+1),t0.2++[(⟨t0.1,t1.mode,t1.srcs⟩:Wnt)]) [146])))
(.bk 0 b0 (W (t0.1+1),t0.2) [0]))))))
(.br 81 (decide (32<((t0.2.map Wnt.v).length:Int))) (.ret ([],3))
(.say (Rf (t0.2.map Wnt.v)) (.cmdL (.frzE 0 (t0.2.map Wnt.v) (pureBL_map (fun _=>rfl) t0.2)) (.ret (t0.2,0))))))))))))
def applyR_vc(old:(List Wnt))(changes:(List Wnt))(I0:(Int×(List Wnt))→Prop)(m0:(Int×(List Wnt))→Nat)(I1:Int×(List Wnt)→Flt→Prop)(r0:(List Wnt)×Int):Prop:=(applyR_x old changes I0 m0 I1).vp applyR_e r0
theorem applyR_p(old c:List Wnt)(ok:applyR_a old c):∃I0 m0 I1,applyR_vc old c I0 m0 I1 (applyG old c):=by
 refine ⟨fun t=>∃k:Nat,t.1=(k:Int)+1∧k≤99∧t.2=fromF (appF old c) k,fun t=>100-t.1.toNat,fun t f=>(f.mode,f.srcs)=appF old c t.1,?_⟩
 dsimp only [applyR_vc,applyR_x,applyR_s,Ax.vp,Ax.vc];simp only [vcU,rfU,List.length_map]
 unfold applyG
 refine ⟨fun h=>by rw [if_pos (by simpa using h)],fun h=>⟨fun h2=>?_,fun h2=>⟨⟨0,rfl,by omega,rfl⟩,?_⟩⟩⟩
 ·rw [if_neg (by simpa using h),if_pos (by simpa using h2)]
 ·rw [if_neg (by simpa using h),if_neg (by simpa using h2)]
  rintro ⟨_,_⟩ ⟨k,rfl,hk,rfl⟩
  have hlen:=fromF_len (f:=appF old c) k
  simp only
  have hw:(k:Int)+1≤99→W ((k:Int)+1+1)=((k+1:Nat):Int)+1:=fun _=>by rw [W_eq (by omega)];omega
  refine ⟨fun h1=>⟨⟨fun q=>?_,fun q=>?_⟩,fun f hf=>⟨fun q=>⟨by omega,?_⟩,fun q=>?_⟩⟩,fun h1=>⟨fun q=>?_,fun q=>?_⟩⟩
  ·unfold appF;rw [if_pos q];rfl
  ·unfold appF;rw [if_neg (by simp [q])];rfl
  ·rw [hw h1]
   refine ⟨⟨k+1,rfl,by omega,?_⟩,by omega⟩
   rw [fromF,from1,if_neg]
   ·rw [←hf]
   ·rw [←hf]
    intro e
    simp only [Prod.mk.injEq] at e
    simp [FSame,flt_eq,e.1,e.2] at q
  ·rw [hw h1]
   refine ⟨⟨k+1,rfl,by omega,?_⟩,by omega⟩
   have e:f=⟨1,[]⟩:=by simpa [FSame] using q
   rw [fromF,from1,if_pos,List.append_nil]
   rw [←hf,e]
  ·have:k=99:=by omega
   subst this
   unfold limitW
   rw [if_pos (by omega)]
  ·have:k=99:=by omega
   subst this
   unfold limitW
   rw [if_neg (by omega)]
def applyR_c(old:(List Wnt))(changes:(List Wnt)):PC Tryz.prog:=⟨117,[(.s 3),(.s 3)],[.sl 3 (old.map Wnt.v) false,.sl 3 (changes.map Wnt.v) false],applyR_e (applyG old changes),PSpec.of_ok fun ok=>(applyR_p old changes ok).elim fun I0 h=>h.elim fun m0 h=>h.elim fun I1 h=>mxP_of (sh:=(.a [(.s 3),.k])) (enc:=applyR_e) (a:=(applyR_x old changes I0 m0 I1).an) h (by kernel_rfl) (AV.pureB_ok rfl),fnB_ok (by kernel_rfl)⟩
theorem find2_nil(g:Int):find2 [] g=(1,[]):=rfl
theorem applyG_err(c:List Wnt):(applyG [] c).2=wErr true c:=by
 unfold applyG
 rw [if_neg (by decide)]
 split
 ·rfl
 ·rename_i h
  have h:wErr true c=0:=by omega
  obtain ⟨h1,h2,h3,h4,h5⟩:=wErr_zero.mp h
  have e:fromF (appF [] c) 99=c.filter fun w=>decide (¬isNoW w):=by
   refine ascW_ext (fromF_asc 99) (h5.filter _) fun w=>?_
   rw [mem_fromF,List.mem_filter]
   simp only [decide_eq_true_iff]
   constructor
   ·rintro ⟨q1,q2,q3⟩
    unfold appF at q2 q3
    by_cases hh:hasR c w.grp=true
    ·rw [if_pos hh] at q2 q3
     obtain ⟨y,hy,e1,e2⟩:=findW_some (find2_ne.mp q3)
     have e3:find2 c w.grp=(y.mode,y.srcs):=by unfold find2;rw [e2]
     rw [q2] at e3 q3
     simp only [Prod.mk.injEq] at e3
     have:y=w:=by rw [Wnt.eq_iff];exact ⟨e1,e3.1.symm,e3.2.symm⟩
     subst this
     exact ⟨hy,fun hn=>q3 (by rw [hn.1,hn.2])⟩
    ·rw [if_neg hh,find2_nil] at q3;exact absurd rfl q3
   ·rintro ⟨q1,q2⟩
    have hh:hasR c w.grp=true:=decide_eq_true ⟨w,q1,rfl⟩
    have e1:appF [] c w.grp=(w.mode,w.srcs):=by
     unfold appF
     rw [if_pos hh]
     unfold find2
     rw [findW_in h5 q1]
    refine ⟨h2 w q1,e1,?_⟩
    rw [e1]
    intro e
    simp only [Prod.mk.injEq] at e
    exact q2 e
  have hl:(fromF (appF [] c) 99).length≤32:=by
   rw [e]
   exact Nat.le_trans (List.length_filter_le _ _) h1
  unfold limitW
  rw [if_neg (by omega),h]
theorem chg_take_len{s:Spk}(hs:spkOk s){c:List Wnt}(hc:wErr true c=0)(j:Nat):((c.take j).foldl chg1 (s.last,s.items)).2.length≤99∧0≤((c.take j).foldl chg1 (s.last,s.items)).1∧((c.take j).foldl chg1 (s.last,s.items)).1≤s.last+32:=by
 have ho:=chgOk_of hc
 obtain ⟨q1,q2,q3,q4⟩:=chg_ok (c:=c.take j) hs.2.2.2.1 hs.2.2.1.1 fun w hw=>ho w (List.mem_of_mem_take hw)
 refine ⟨itms_len q1,q4,?_⟩
 have:=(wErr_zero.mp hc).1
 rw [List.length_take] at q3
 omega
def changeR_a(s:Spk)(changes:(List Wnt)):Prop:=okL [.agg [.int s.router,.int s.epoch,.int s.last,.sl 4 (s.items.map Itm.v) false,.sl 3 (s.peers.map Per.v) false],.sl 3 (changes.map Wnt.v) false]
def changeR_n0(changes:(List Wnt))(t0:Int×Spk):NF:=⟨[(4,.k,.ref 0 0),(9,.k,.ref 1 0),(38,.k,.sl 3 (changes.map Wnt.v) false),(39,.k,.int ((changes.map Wnt.v).length:Int)),(40,.k,.int t0.1)],[.box (.agg [.int 0,.int 0,.int 0,.sl 0 [] true,.sl 0 [] true]),.box (.agg [.int t0.2.router,.int t0.2.epoch,.int t0.2.last,.sl 4 (t0.2.items.map Itm.v) false,.sl 3 (t0.2.peers.map Per.v) false])]⟩
@[reducible] def changeR_s:Nat→Type
 | 0=>Int×Spk
 | _=>Unit
def changeR_e(r:Spk×Int):AV:=.tup [Spk.v r.1,.int r.2]
def changeR_x(s:Spk)(changes:(List Wnt))(I0:(Int×Spk)→Prop)(m0:(Int×Spk)→Nat):Ax Tryz.prog changeR_s (Spk×Int):=
 (.callP (valR6_c s)
(.br 128 ((valS s) != 0) (.ret ((⟨0,0,0,[],[]⟩:Spk),valS s))
(.callP (applyR_c [] changes)
(.br 272 (((applyG [] changes).2) != 0) (.ret ((⟨0,0,0,[],[]⟩:Spk),(applyG [] changes).2))
(.say (fun R=>Rf (α:=List AV) [] (Rf (α:=List AV) (s.peers.map Per.v)
(ck (decide (0+s.peers.length≤1048576))
R))) (.app 368 Per.v [] s.peers
(.say (fun R=>Rf (α:=List AV) [] (Rf (α:=List AV) (s.items.map Itm.v)
(ck (decide (0+s.items.length≤1048576))
R))) (.app 464 Itm.v [] s.items
(.say (Rf (s.items.map Itm.v)) (.cmd (.frzE 464 (s.items.map Itm.v) (pureBL_map (fun _=>rfl) s.items)) (.say (Rf (s.peers.map Per.v)) (.cmd (.frzE 368 (s.peers.map Per.v) (pureBL_map (fun _=>rfl) s.peers)) (.loop 0 (changeR_n0 changes) I0 m0 (0,s) [16,288] fun (t0:Int×Spk) b0 =>
(.br 18 (decide (t0.1<((changes.map Wnt.v).length:Int))) (.el 18 Wnt.v changes (fun R=>Rf (changes.map Wnt.v) (ck (decide (0≤t0.1)) (ck (decide (t0.1<(changes.length:Int)))
(∀x1,changes[t0.1.toNat]?=some x1 →
(R x1))))) fun x1 =>
(.callP (findI_c t0.2.items x1.grp)
(.callP (FSame_c (⟨(told t0.2.items x1.grp).1,(told t0.2.items x1.grp).2⟩:Flt) (⟨x1.mode,x1.srcs⟩:Flt))
(.br 210 (FSame (⟨(told t0.2.items x1.grp).1,(told t0.2.items x1.grp).2⟩:Flt) (⟨x1.mode,x1.srcs⟩:Flt)) (.bk 0 b0 (W (t0.1+1),t0.2) [0,1])
(.req 434 (t0.2.items.length≤999999) fun h2 =>
(.callP (putR_c t0.2.items (⟨W (t0.2.last+1),x1.grp,x1.mode,x1.srcs⟩:Itm) h2)
(.bk 0 b0 (W (t0.1+1),(⟨t0.2.router,t0.2.epoch,W (t0.2.last+1),put1 t0.2.items (⟨W (t0.2.last+1),x1.grp,x1.mode,x1.srcs⟩:Itm),t0.2.peers⟩:Spk)) [0,1])))))))
(.br 66 (decide (1000000<t0.2.last)) (.ret ((⟨0,0,0,[],[]⟩:Spk),3))
(.ret (t0.2,0)))))))))))))))))
def changeR_vc(s:Spk)(changes:(List Wnt))(I0:(Int×Spk)→Prop)(m0:(Int×Spk)→Nat)(r0:Spk×Int):Prop:=(changeR_x s changes I0 m0).vp changeR_e r0
theorem changeR_p(s:Spk)(c:List Wnt)(ok:changeR_a s c):∃I m,changeR_vc s c I m (change s c):=by
 refine ⟨fun t=>∃j:Nat,t.1=j∧j≤c.length∧t.2=⟨s.router,s.epoch,((c.take j).foldl chg1 (s.last,s.items)).1,((c.take j).foldl chg1 (s.last,s.items)).2,s.peers⟩,fun t=>c.length-t.1.toNat,?_⟩
 dsimp only [changeR_vc,changeR_x,changeR_s,Ax.vp,Ax.vc];simp only [vcU,rfU,List.length_map]
 have hv:valS s=if spkOk s then 0 else 1:=rfl
 rw [hv,applyG_err]
 unfold change
 by_cases h1:spkOk s
 case neg=>rw [if_neg h1,if_pos h1];simp [spk0]
 rw [if_pos h1,if_neg (not_not_intro h1)]
 refine ⟨fun q=>by simp at q,fun _=>⟨fun h2=>?_,fun h2=>?_⟩⟩
 ·have h2:wErr true c≠0:=by simpa using h2
  rw [if_pos h2];rfl
 have h2:wErr true c=0:=by simpa using h2
 rw [if_neg (not_not_intro h2)]
 have hp:=h1.2.2.2.2.1
 have hi:=itms_len h1.2.2.2.1
 have hl:=h1.2.2.1
 have hcl:=(wErr_zero.mp h2).1
 refine ⟨by omega,by omega,⟨0,rfl,by omega,rfl⟩,?_⟩
 rintro ⟨_,_⟩ ⟨j,rfl,hj,rfl⟩
 obtain ⟨b1,b2,b3⟩:=chg_take_len h1 h2 j
 simp only [Int.toNat_natCast]
 refine ⟨fun h3=>⟨by omega,by omega,fun x hx=>?_⟩,fun h3=>?_⟩
 ·rw [W_succ (n:=c.length) (by omega) (by omega)]
  have e:(c.take (j+1)).foldl chg1 (s.last,s.items)=chg1 ((c.take j).foldl chg1 (s.last,s.items)) x:=by rw [take_succ hx,List.foldl_append];rfl
  generalize (c.take j).foldl chg1 (s.last,s.items)=u at *
  refine ⟨fun q=>⟨⟨j+1,rfl,by omega,?_⟩,by omega⟩,fun q=>⟨by omega,⟨j+1,rfl,by omega,?_⟩,by omega⟩⟩
  ·rw [e,chg1,if_pos]
   have q:(told u.2 x.grp).1=x.mode∧(told u.2 x.grp).2=x.srcs:=by simpa [FSame,flt_eq] using q
   rw [←q.1,←q.2]
  ·rw [e,chg1,if_neg,W_eq (by omega)]
   intro z
   have z1:=congrArg Prod.fst z
   have z2:=congrArg Prod.snd z
   simp [FSame,flt_eq] at q z1 z2
   exact q z1 z2
 ·rw [List.take_of_length_le (by omega)]
  refine ⟨fun q=>?_,fun q=>?_⟩
  ·rw [if_pos q];rfl
  ·rw [if_neg q]
def changeR_c(s:Spk)(changes:(List Wnt)):PC Tryz.prog:=⟨78,[(.a [.k,.k,.k,(.s 4),(.s 3)]),(.s 3)],[.agg [.int s.router,.int s.epoch,.int s.last,.sl 4 (s.items.map Itm.v) false,.sl 3 (s.peers.map Per.v) false],.sl 3 (changes.map Wnt.v) false],changeR_e (change s changes),PSpec.of_ok fun ok=>(changeR_p s changes ok).elim fun I0 h=>h.elim fun m0 h=>mxP_of (sh:=(.a [(.a [.k,.k,.k,(.s 4),(.s 3)]),.k])) (enc:=changeR_e) (a:=(changeR_x s changes I0 m0).an) h (by kernel_rfl) (AV.pureB_ok rfl),fnB_ok (by kernel_rfl)⟩
def wantsR_a(l:(List Itm)):Prop:=okL [.sl 4 (l.map Itm.v) false]
def wantsR_n0(l:(List Itm))(t0:Int×(List Wnt)):NF:=⟨[(0,.k,.sl 4 (l.map Itm.v) false),(3,.k,.vec 0),(4,.k,.int t0.1)],[.vec 3 (t0.2.map Wnt.v) (pureBL_map (fun _=>rfl) t0.2)]⟩
@[reducible] def wantsR_s:Nat→Type
 | 0=>Int×(List Wnt)
 | _=>Unit
def wantsR_e(r:(List Wnt)):AV:=.sl 3 (r.map Wnt.v) false
def wantsR_x(l:(List Itm))(I0:(Int×(List Wnt))→Prop)(m0:(Int×(List Wnt))→Nat):Ax Tryz.prog wantsR_s ((List Wnt)):=
 (.callP (itemsR_c l 1000000)
(.br 64 (!(itemsB l 1000000)) (.ret ([]))
(.cmdL (.nilT 3 3) (.loop 0 (wantsR_n0 l) I0 m0 (1,[]) [96] fun (t0:Int×(List Wnt)) b0 =>
(.br 33 (decide (t0.1≤99)) (.callP (findI_c l t0.1)
(.callP (Nothing_c )
(.callP (FSame_c (⟨(told l t0.1).1,(told l t0.1).2⟩:Flt) (⟨1,[]⟩:Flt))
(.br 177 (!(FSame (⟨(told l t0.1).1,(told l t0.1).2⟩:Flt) (⟨1,[]⟩:Flt))) (.say (fun R=>Rf (α:=List AV) (t0.2.map Wnt.v) (Rf (α:=List AV) [.agg [.int t0.1,.int ((told l t0.1).1),.sl 1 (((told l t0.1).2).map AV.int) false]]
(ck (decide (t0.2.length+1≤1048576))
R))) (.app 257 Wnt.v t0.2 [(⟨t0.1,(told l t0.1).1,(told l t0.1).2⟩:Wnt)]
(.bk 0 b0 (W (t0.1+1),t0.2++[(⟨t0.1,(told l t0.1).1,(told l t0.1).2⟩:Wnt)]) [257])))
(.bk 0 b0 (W (t0.1+1),t0.2) [0])))))
(.say (Rf (t0.2.map Wnt.v)) (.cmdL (.frzE 0 (t0.2.map Wnt.v) (pureBL_map (fun _=>rfl) t0.2)) (.ret (t0.2)))))))))
def wantsR_vc(l:(List Itm))(I0:(Int×(List Wnt))→Prop)(m0:(Int×(List Wnt))→Nat)(r0:(List Wnt)):Prop:=(wantsR_x l I0 m0).vp wantsR_e r0
theorem wantsR_p(l:List Itm)(ok:wantsR_a l):∃I m,wantsR_vc l I m (wantsOf l):=by
 refine ⟨fun t=>∃k:Nat,t.1=(k:Int)+1∧k≤99∧t.2=fromF (told l) k,fun t=>100-t.1.toNat,?_⟩
 dsimp only [wantsR_vc,wantsR_x,wantsR_s,Ax.vp,Ax.vc];simp only [vcU,rfU,List.length_map]
 simp only [itemsB,Bool.not_eq_true',decide_eq_false_iff_not,Bool.not_eq_false',decide_eq_true_iff]
 refine ⟨fun h=>by rw [wantsOf,if_neg h],fun h=>⟨⟨0,rfl,by omega,rfl⟩,?_⟩⟩
 rintro ⟨_,_⟩ ⟨k,rfl,hk,rfl⟩
 have hlen:=fromF_len (f:=told l) k
 simp only
 have hw:(k:Int)+1≤99→W ((k:Int)+1+1)=((k+1:Nat):Int)+1:=fun _=>by rw [W_eq (by omega)];omega
 refine ⟨fun h1=>⟨fun q=>⟨by omega,?_⟩,fun q=>?_⟩,fun h1=>?_⟩
 ·rw [hw h1]
  refine ⟨⟨k+1,rfl,by omega,?_⟩,by omega⟩
  rw [fromF,from1,if_neg]
  intro e
  have e1:=congrArg Prod.fst e
  have e2:=congrArg Prod.snd e
  simp only at e1 e2
  simp [FSame,flt_eq,e1,e2] at q
 ·rw [hw h1]
  refine ⟨⟨k+1,rfl,by omega,?_⟩,by omega⟩
  have e:(told l ((k:Int)+1)).1=1∧(told l ((k:Int)+1)).2=[]:=by simpa [FSame,flt_eq] using q
  rw [fromF,from1,if_pos,List.append_nil]
  exact Prod.ext e.1 e.2
 ·have:k=99:=by omega
  subst this
  rw [wantsOf,if_pos h]
def wantsR_c(l:(List Itm)):PC Tryz.prog:=⟨77,[(.s 4)],[.sl 4 (l.map Itm.v) false],wantsR_e (wantsOf l),PSpec.of_ok fun ok=>(wantsR_p l ok).elim fun I0 h=>h.elim fun m0 h=>mxP_of (sh:=(.s 3)) (enc:=wantsR_e) (a:=(wantsR_x l I0 m0).an) h (by kernel_rfl) (AV.pureB_ok rfl),fnB_ok (by kernel_rfl)⟩
def idxP(l:List Per)(r:Int):Int:=match l.findIdx? fun p=>decide (p.router=r) with
 | some i=>i
 | none=>-1
theorem idxP_some{l:List Per}{r:Int}{i:Nat}{x:Per}(hx:l[i]?=some x)(h:x.router=r)(hb:∀y∈l.take i,y.router≠r):idxP l r=i:=by
 obtain ⟨hi,hxi⟩:=List.getElem?_eq_some_iff.mp hx
 have:l.findIdx? (fun p=>decide (p.router=r))=some i:=by
  rw [List.findIdx?_eq_some_iff_getElem]
  refine ⟨hi,by rw [hxi];simpa using h,fun j hj=>?_⟩
  have:=hb l[j] (List.mem_of_getElem? (i:=j) (by rw [List.getElem?_take,if_pos hj,List.getElem?_eq_getElem (by omega)]))
  simpa using this
 unfold idxP;rw [this]
theorem idxP_none{l:List Per}{r:Int}(hb:∀y∈l,y.router≠r):idxP l r=-1:=by
 have:l.findIdx? (fun p=>decide (p.router=r))=none:=by
  rw [List.findIdx?_eq_none_iff]
  intro x hx;simpa using hb x hx
 unfold idxP;rw [this]
def peerR_a(s:Spk)(router:Int):Prop:=okL [.agg [.int s.router,.int s.epoch,.int s.last,.sl 4 (s.items.map Itm.v) false,.sl 3 (s.peers.map Per.v) false],.int router]
def peerR_n0(s:Spk)(router:Int)(t0:Int):NF:=⟨[(1,.k,.int router),(8,.k,.sl 3 (s.peers.map Per.v) false),(9,.k,.int ((s.peers.map Per.v).length:Int)),(10,.k,.int t0)],[]⟩
@[reducible] def peerR_s:Nat→Type
 | 0=>Int
 | _=>Unit
def peerR_e(r:Int):AV:=.int r
def peerR_x(s:Spk)(router:Int)(I0:Int→Prop)(m0:Int→Nat):Ax Tryz.prog peerR_s (Int):=
 (.loop 0 (peerR_n0 s router) I0 m0 ((0):Int) [] fun (t0:Int) b0 =>
(.br 16 (decide (t0<((s.peers.map Per.v).length:Int))) (.el 32 Per.v s.peers (fun R=>Rf (s.peers.map Per.v) (ck (decide (0≤t0)) (ck (decide (t0<(s.peers.length:Int)))
(∀x1,s.peers[t0.toNat]?=some x1 →
(R x1))))) fun x1 =>
(.br 176 (x1.router==router) (.ret (t0))
(.bk 0 b0 ((W (t0+1)):Int) [])))
(.ret (-1))))
def peerR_vc(s:Spk)(router:Int)(I0:Int→Prop)(m0:Int→Nat)(r0:Int):Prop:=(peerR_x s router I0 m0).vp peerR_e r0
theorem peerR_p(s:Spk)(r:Int)(ok:peerR_a s r):∃I m,peerR_vc s r I m (idxP s.peers r):=by
 unfold peerR_a at ok
 refine ⟨fun t=>∃k:Nat,t=k∧k≤s.peers.length∧∀x∈s.peers.take k,x.router≠r,fun t=>s.peers.length-t.toNat,?_⟩
 dsimp only [peerR_vc,peerR_x,peerR_s,Ax.vp,Ax.vc];simp only [vcU,rfU,List.length_map]
 have hle:s.peers.length≤9223372036854775807:=by
  have h:=ok
  simp only [Spk.v,pers,AV.ok,okL,List.length_map,maxLen_eq] at h
  omega
 refine ⟨⟨0,rfl,by omega,by simp⟩,?_⟩
 rintro _ ⟨k,rfl,hk,hI⟩
 simp only [Int.toNat_natCast]
 refine ⟨fun h1=>⟨by omega,by omega,fun x hx=>⟨fun e=>?_,fun e=>?_⟩⟩,fun h1=>?_⟩
 ·rw [idxP_some hx (by simpa using e) hI]
 ·rw [W_succ (n:=s.peers.length) (by omega) (by omega)]
  exact ⟨⟨k+1,rfl,by omega,(mem_take_succ hx).mpr ⟨hI,by simpa using e⟩⟩,by omega⟩
 ·rw [List.take_of_length_le (by omega)] at hI
  rw [idxP_none hI]
def peerR_c(s:Spk)(router:Int):PC Tryz.prog:=⟨108,[(.a [.k,.k,.k,(.s 4),(.s 3)]),.k],[.agg [.int s.router,.int s.epoch,.int s.last,.sl 4 (s.items.map Itm.v) false,.sl 3 (s.peers.map Per.v) false],.int router],peerR_e (idxP s.peers router),PSpec.of_ok fun ok=>(peerR_p s router ok).elim fun I0 h=>h.elim fun m0 h=>mxP_of (sh:=.k) (enc:=peerR_e) (a:=(peerR_x s router I0 m0).an) h (by kernel_rfl) (AV.pureB_ok rfl),fnB_ok (by kernel_rfl)⟩
theorem idxP_asc{l:List Per}{r:Int}(ho:l.Pairwise fun x y=>x.router<y.router):idxP l r=if hitP l r then (posP l r:Int) else -1:=by
 by_cases h:hitP l r
 ·rw [if_pos h]
  have h1:l[posP l r]?=some (l[posP l r]'h.1):=List.getElem?_eq_getElem h.1
  have h2:(l[posP l r]'h.1).router=r:=by
   have:=h.2
   rw [List.getD_eq_getElem?_getD,h1] at this
   exact this
  refine idxP_some h1 h2 fun y hy=>?_
  obtain ⟨i,hi,rfl⟩:=List.getElem_of_mem hy
  rw [List.length_take] at hi
  rw [List.getElem_take]
  have:=posK_lt (key:=Per.router) (l:=l) (r:=r) (i:=i) (show i<posP l r by omega) (by omega)
  omega
 ·rw [if_neg h]
  exact idxP_none fun y hy e=>h ((hitP_iff ho).mpr ⟨y,hy,e⟩)
end Go.Proofs.YthhpaedpnjdnbaaGreatDoor
