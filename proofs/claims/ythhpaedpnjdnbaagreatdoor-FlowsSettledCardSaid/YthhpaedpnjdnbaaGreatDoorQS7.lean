/- Texts joined: G16 U5 U8 U20 U9 U10 U11 U12 U21 U22 U13 G18 G19 U15. -/
import Derived.Test.YthhpaedpnjdnbaaGreatDoorSh
import Derived.Test.YthhpaedpnjdnbaaGreatDoorChecked
import Derived.Test.YthhpaedpnjdnbaaGreatDoorQS6
set_option linter.unusedVariables false
set_option linter.unusedSimpArgs false
namespace Go.Proofs.YthhpaedpnjdnbaaGreatDoor
open Go Go.Am
open Go.Shelf Go.RowKit Go.Lib Go.Sort in
theorem cmpW_calls(a b:Int)(x1 x2 y1 y2:Value)(w:World)(hx:x1.oneCell'=true∧x2.oneCell'=true)(hy:y1.oneCell'=true∧y2.oneCell'=true) :
  Calls Tryz.prog 137 #[.agg #[.int .i64 a,x1,x2],.agg #[.int .i64 b,y1,y2]] w fun e w'=>e=.returned (.int .i64 (Lib.compareInt a b))∧∃q os',w'=grow (w.drewN q) os':=by
 have hcon:=fun W'=>AnyG.cmp_Compare_int Tryz.cmpI a b W'
 change ∀W',Calls Tryz.prog 132 _ _ _ at hcon
 generalize Lib.compareInt a b=r at hcon ⊢
 go_enter Tryz.func137,Tryz.ntmps137
 go_wp2_with (go_at_call 132;refine (hcon _).mono ?_;rintro e w' ⟨rfl,rfl⟩)
 go_ret
 exact ⟨rfl,0,_,by rw [alloc_eq_grow,alloc_eq_grow,grow_grow];rfl⟩
def okSrt(l:List Wnt):Prop:=l.length≤1000000∧l.Pairwise fun a b=>a.grp≠b.grp
def srtW(l:List Wnt):List Wnt:=l.mergeSort fun a b=>decide (a.grp≤b.grp)
theorem srtW_perm(l:List Wnt):(srtW l).Perm l:=List.mergeSort_perm _ _
theorem srtW_asc{l:List Wnt}(h:okSrt l):(srtW l).Pairwise fun a b=>a.grp<b.grp:=by
 have h1:(srtW l).Pairwise fun a b=>decide (a.grp≤b.grp)=true:=List.pairwise_mergeSort (fun a b c h1 h2=>by simp at *;omega) (fun a b=>by simp;omega) l
 have h2:(srtW l).Pairwise fun a b=>a.grp≠b.grp:=(List.Perm.pairwise_iff (fun h=>Ne.symm h) (srtW_perm l)).mpr h.2
 exact (h1.and h2).imp fun ⟨h1,h2⟩=>by simp at h1;omega
open Go.Shelf Go.RowKit Go.Lib Go.Sort in
theorem sortW_spec(l:List Wnt)(h:okSrt l):HSpec Tryz.prog 136 [.vec 0,.func 137 []] [.vec 3 (l.map Wnt.v)] (.tup []) [some (.vec 3 ((srtW l).map Wnt.v))]:=by
 refine sort_hspec Tryz.sortW Wnt.v Wnt.grp 3 (by omega) (fun _=>by kernel_rfl) (fun _=>by kernel_rfl) (fun x=>⟨_,rfl⟩) 137 (enters_of Tryz.func137 (by kernel_rfl) rfl) ?_ l (srtW l) (srtW_perm l) (srtW_asc h) h.1
 intro a b xs ys w hx hy ox oy
 match xs,hx with
 | [x1,x2],_ =>
 match ys,hy with
 | [y1,y2],_=>exact cmpW_calls a b x1 x2 y1 y2 w ⟨ox x1 (by simp),ox x2 (by simp)⟩ ⟨oy y1 (by simp),oy y2 (by simp)⟩
def sortW_h(l:List Wnt)(h:okSrt l):HC Tryz.prog:=⟨136,[.k,.k],[.vec 0,.func 137 []],[.vec 3 (l.map Wnt.v)],.tup [],[some (.vec 3 ((srtW l).map Wnt.v))],sortW_spec l h,fnB_ok (by kernel_rfl),
 HcOk.of (by simp [hcB,belBL,AV.belB,allB,okBk,okBkO,pureBL_map (v:=Wnt.v) (fun _=>rfl)])⟩
def noF2(f:Flt):Bool:=f.mode==1 && (f.srcs.length:Int)==0
theorem noF2_iff{f:Flt}:noF2 f=true↔f.mode=1∧f.srcs=[]:=by
 simp [noF2]
def noF2_a(f:Flt):Prop:=okL [.agg [.int f.mode,.sl 1 (f.srcs.map AV.int) false]]
def noF2_e(r:Bool):AV:=.bool r
def noF2_x(f:Flt):Ax Tryz.prog noS (Bool):=
 (.br 96 (f.mode==1) (.ret (((f.srcs.map AV.int).length:Int)==0))
(.ret (false)))
def noF2_vc(f:Flt)(r0:Bool):Prop:=(noF2_x f).vp noF2_e r0
theorem noF2_p(f:Flt)(ok:noF2_a f):noF2_vc f (noF2 f):=by
 dsimp only [noF2_vc,noF2_x,noS,Ax.vp,Ax.vc];simp only [vcU,rfU,List.length_map]
 by_cases h:f.mode=1<;>simp [noF2,h]
def noF2_c(f:Flt):PC Tryz.prog:=⟨134,[(.a [.k,(.s 1)])],[.agg [.int f.mode,.sl 1 (f.srcs.map AV.int) false]],noF2_e (noF2 f),PSpec.of_ok fun ok=>mxP_of (sh:=.k) (enc:=noF2_e) (a:=(noF2_x f).an) (noF2_p f ok) (by kernel_rfl) (AV.pureB_ok rfl),fnB_ok (by kernel_rfl)⟩
def wOf(l:List Itm):List Wnt:=(l.filter fun x=>!noF2 ⟨x.mode,x.srcs⟩).map fun x=>⟨x.grp,x.mode,x.srcs⟩
theorem wOf_snoc(l:List Itm)(x:Itm):wOf (l++[x])=if noF2 ⟨x.mode,x.srcs⟩=true then wOf l else wOf l++[⟨x.grp,x.mode,x.srcs⟩]:=by
 unfold wOf
 rw [List.filter_append,List.map_append]
 by_cases h:noF2 ⟨x.mode,x.srcs⟩=true
 ·rw [if_pos h];simp [List.filter_cons,h]
 ·rw [if_neg h];simp [List.filter_cons,h]
theorem wOf_len(l:List Itm):(wOf l).length≤l.length:=by unfold wOf;rw [List.length_map];exact List.length_filter_le _ _
theorem mem_wOf{l:List Itm}{w:Wnt}:w∈wOf l↔∃x∈l,¬(x.mode=1∧x.srcs=[])∧w=⟨x.grp,x.mode,x.srcs⟩:=by
 unfold wOf
 rw [List.mem_map]
 constructor
 ·rintro ⟨x,hx,rfl⟩
  obtain ⟨h1,h2⟩:=List.mem_filter.mp hx
  refine ⟨x,h1,fun e=>?_,rfl⟩
  rw [noF2_iff.mpr e] at h2;cases h2
 ·rintro ⟨x,hx,h,rfl⟩
  refine ⟨x,List.mem_filter.mpr ⟨hx,?_⟩,rfl⟩
  cases e:noF2 ⟨x.mode,x.srcs⟩ with
  | true=>exact absurd (noF2_iff.mp e) h
  | false=>rfl
theorem wOf_srt{l:List Itm}(h:itmsOk 1000000 l):okSrt (wOf l):=by
 refine ⟨by have:=wOf_len l;have:=itms_len h;omega,?_⟩
 unfold wOf
 rw [List.pairwise_map]
 refine List.Pairwise.filter _ ?_
 have:=h.2.1
 rw [List.Nodup,List.pairwise_map] at this
 exact this
theorem wants_srt{l:List Itm}(h:itmsOk 1000000 l):srtW (wOf l)=wantsOf l:=by
 rw [wantsOf,if_pos h]
 refine ascW_ext (srtW_asc (wOf_srt h)) (fromF_asc 99) fun w=>?_
 rw [(srtW_perm _).mem_iff,mem_wOf,mem_fromF]
 constructor
 ·rintro ⟨x,hx,h1,rfl⟩
  have:=told_in h.2.1 hx
  refine ⟨by have:=(h.1 x hx).2.1;simp only;omega,this,?_⟩
  simp only
  rw [this]
  intro e
  simp only [Prod.mk.injEq] at e
  exact h1 e
 ·rintro ⟨_,h1,h2⟩
  obtain ⟨x,hx,e1,e2⟩:=told_some h2
  rw [h1] at e2
  simp only [Prod.mk.injEq] at e2
  refine ⟨x,hx,fun e=>h2 ?_,?_⟩
  ·rw [h1,e2.1,e2.2,e.1,e.2]
  ·cases w;simp only at e1 e2;rw [e1,e2.1,e2.2]
def wantsF_a(l:(List Itm)):Prop:=okL [.sl 4 (l.map Itm.v) false]
def wantsF_n0(l:(List Itm))(t0:Int×(List Wnt)):NF:=⟨[(3,.k,.vec 0),(9,.k,.sl 4 (l.map Itm.v) false),(10,.k,.int ((l.map Itm.v).length:Int)),(11,.k,.int t0.1)],[.vec 3 (t0.2.map Wnt.v) (pureBL_map (fun _=>rfl) t0.2)]⟩
@[reducible] def wantsF_s:Nat→Type
 | 0=>Int×(List Wnt)
 | _=>Unit
def wantsF_e(r:(List Wnt)):AV:=.sl 3 (r.map Wnt.v) false
def wantsF_x(l:(List Itm))(I0:(Int×(List Wnt))→Prop)(m0:(Int×(List Wnt))→Nat):Ax Tryz.prog wantsF_s ((List Wnt)):=
 (.callP (itemsB_c l 1000000)
(.br 64 (!(itemsB l 1000000)) (.ret ([]))
(.cmdL (.nilT 3 3) (.loop 0 (wantsF_n0 l) I0 m0 (0,[]) [128] fun (t0:Int×(List Wnt)) b0 =>
(.br 17 (decide (t0.1<((l.map Itm.v).length:Int))) (.el 17 Itm.v l (fun R=>Rf (l.map Itm.v) (ck (decide (0≤t0.1)) (ck (decide (t0.1<(l.length:Int)))
(∀x1,l[t0.1.toNat]?=some x1 →
(R x1))))) fun x1 =>
(.callP (noF2_c (⟨x1.mode,x1.srcs⟩:Flt))
(.br 145 (!(noF2 (⟨x1.mode,x1.srcs⟩:Flt))) (.req 225 ((⟨x1.mode,x1.srcs⟩:Flt).srcs.length≤1000000) fun h2 =>
(.callP (filtered_c (⟨x1.mode,x1.srcs⟩:Flt) h2)
(.say (fun R=>Rf (α:=List AV) (t0.2.map Wnt.v) (Rf (α:=List AV) [.agg [.int x1.grp,.int x1.mode,.sl 1 (x1.srcs.map AV.int) false]]
(ck (decide (t0.2.length+1≤1048576))
R))) (.app 273 Wnt.v t0.2 [(⟨x1.grp,x1.mode,x1.srcs⟩:Wnt)]
(.bk 0 b0 (W (t0.1+1),t0.2++[(⟨x1.grp,x1.mode,x1.srcs⟩:Wnt)]) [273])))))
(.bk 0 b0 (W (t0.1+1),t0.2) [0]))))
(.req 33 (okSrt t0.2) fun h3 =>
(.callH [0] (sortW_h t0.2 h3) 33
(.say (Rf ((srtW t0.2).map Wnt.v)) (.cmdL (.frzE 0 ((srtW t0.2).map Wnt.v) (pureBL_map (fun _=>rfl) (srtW t0.2))) (.ret (srtW t0.2)))))))))))
def wantsF_vc(l:(List Itm))(I0:(Int×(List Wnt))→Prop)(m0:(Int×(List Wnt))→Nat)(r0:(List Wnt)):Prop:=(wantsF_x l I0 m0).vp wantsF_e r0
theorem wantsF_p(l:List Itm)(ok:wantsF_a l):∃I m,wantsF_vc l I m (wantsOf l):=by
 refine ⟨fun t=>∃k:Nat,t.1=k∧k≤l.length∧t.2=wOf (l.take k),fun t=>l.length-t.1.toNat,?_⟩
 dsimp only [wantsF_vc,wantsF_x,wantsF_s,Ax.vp,Ax.vc];simp only [vcU,rfU,List.length_map]
 simp only [itemsB,Bool.not_eq_true',decide_eq_false_iff_not,Bool.not_eq_false',decide_eq_true_iff]
 refine ⟨fun h=>by rw [wantsOf,if_neg h],fun h=>⟨⟨0,rfl,by omega,rfl⟩,?_⟩⟩
 rintro ⟨_,ws⟩ ⟨k,rfl,hk,rfl⟩
 have hl:=itms_len h
 simp only [Int.toNat_natCast]
 refine ⟨fun h1=>⟨by omega,by omega,fun x hx=>?_⟩,fun h1=>?_⟩
 ·have hs:=srcs_len (h.1 x (mem_of_get hx)).2.2
  have hw:=wOf_len (l.take k)
  rw [List.length_take] at hw
  rw [W_succ (n:=l.length) (by omega) (by omega)]
  refine ⟨fun e=>⟨by omega,by omega,⟨k+1,rfl,by omega,?_⟩,by omega⟩,fun e=>⟨⟨k+1,rfl,by omega,?_⟩,by omega⟩⟩
  ·rw [take_succ hx,wOf_snoc,if_neg (by simp [e])]
  ·rw [take_succ hx,wOf_snoc,if_pos e]
 ·have e:l.take k=l:=List.take_of_length_le (by omega)
  rw [e]
  exact ⟨wOf_srt h,by rw [wants_srt h]⟩
def wantsF_c(l:(List Itm)):PC Tryz.prog:=⟨97,[(.s 4)],[.sl 4 (l.map Itm.v) false],wantsF_e (wantsOf l),PSpec.of_ok fun ok=>(wantsF_p l ok).elim fun I0 h=>h.elim fun m0 h=>mxP_of (sh:=(.s 3)) (enc:=wantsF_e) (a:=(wantsF_x l I0 m0).an) h (by kernel_rfl) (AV.pureB_ok rfl),fnB_ok (by kernel_rfl)⟩
def knownW(l:Lsn)(r:Int):List Wnt:=if lsnOk l∧hitH l.heard r then wantsOf (atH l.heard r).items else []
def knownF_a(l:Lsn)(router:Int):Prop:=okL [.agg [.int l.router,.int l.epoch,.sl 4 (l.heard.map Hrd.v) false],.int router]
def knownF_e(r:(List Wnt)):AV:=.sl 3 (r.map Wnt.v) false
def knownF_x(l:Lsn)(router:Int):Ax Tryz.prog noS ((List Wnt)):=
 (.callP (valL_c l)
(.br 80 ((valL l) != 0) (.ret ([]))
(.req 112 (l.heard.Pairwise fun x y=>x.router<y.router) fun h1 =>
(.req 112 (l.heard.length≤1000000) fun h2 =>
(.callP (heard_c l router h1 h2)
(.br 224 (decide (hitH l.heard router)) (.el 272 Hrd.v l.heard (fun R=>Rf (l.heard.map Hrd.v) (ck (decide (0≤(posH l.heard router:Int))) (ck (decide ((posH l.heard router:Int)<(l.heard.length:Int)))
(∀x3,l.heard[(posH l.heard router:Int).toNat]?=some x3 →
(R x3))))) fun x3 =>
(.callP (wantsF_c x3.items)
(.ret (wantsOf x3.items))))
(.ret ([]))))))))
def knownF_vc(l:Lsn)(router:Int)(r0:(List Wnt)):Prop:=(knownF_x l router).vp knownF_e r0
theorem knownF_p(l:Lsn)(r:Int)(ok:knownF_a l r):knownF_vc l r (knownW l r):=by
 dsimp only [knownF_vc,knownF_x,noS,Ax.vp,Ax.vc];simp only [vcU,rfU,List.length_map]
 have hv:valL l=if lsnOk l then 0 else 1:=rfl
 rw [hv]
 by_cases h:lsnOk l
 ·rw [if_pos h]
  refine ⟨fun e=>by simp at e,fun _=>⟨h.2.2.2.2,by have:=h.2.2.1;omega,fun q=>⟨by omega,by have:=q.1;omega,fun x hx=>?_⟩,fun q=>by rw [knownW,if_neg fun e=>q e.2]⟩⟩
  rw [Int.toNat_natCast] at hx
  rw [knownW,if_pos ⟨h,q⟩,atH,List.getD_eq_getElem?_getD,hx]
  rfl
 ·rw [if_neg h]
  exact ⟨fun _=>by rw [knownW,if_neg fun e=>h e.1],fun e=>by simp at e⟩
def knownF_c(l:Lsn)(router:Int):PC Tryz.prog:=⟨98,[(.a [.k,.k,(.s 4)]),.k],[.agg [.int l.router,.int l.epoch,.sl 4 (l.heard.map Hrd.v) false],.int router],knownF_e (knownW l router),PSpec.of_ok fun ok=>mxP_of (sh:=(.s 3)) (enc:=knownF_e) (a:=(knownF_x l router).an) (knownF_p l router ok) (by kernel_rfl) (AV.pureB_ok rfl),fnB_ok (by kernel_rfl)⟩
structure Sent (a:Spk) (to:Int) (x:Sig):Prop where
  ok:sigErr x=0
  kind:x.kind≠3
  src:x.src=a.router
  dst:x.dst=to
  epoch:x.epoch=a.epoch
  tell:TellOk a.epoch a.last a.items x
theorem send_val{a:Spk}{to:Int}(ha:spkOk a)(hh:∃z∈a.peers,z.router=to):send a to=(hello a to::sendFrom a to (pOf a.peers to).acked 0 a.items,0)∧∀x∈(send a to).1,Sent a to x:=by
 have hhit:=(hitP_iff ha.2.2.2.2.2.2).mpr hh
 obtain ⟨p1,p2,p3,p4,p5,p6,p7⟩:=ha
 obtain ⟨z,hz,hzr⟩:=hh
 obtain ⟨z1,z2,_⟩:=p6 z hz
 have e:send a to=(hello a to::sendFrom a to (pOf a.peers to).acked 0 a.items,0):=by
  unfold send
  rw [if_neg (not_not_intro ⟨p1,p2,p3,p4,p5,p6,p7⟩),if_neg (not_not_intro hhit)]
  rfl
 refine ⟨e,?_⟩
 rw [e]
 intro x hx
 rcases List.mem_cons.mp hx with rfl|hx
 ·refine ⟨?_,by simp [hello],rfl,rfl,rfl,Int.le_refl _,fun q=>by simp [hello] at q⟩
  have hn:sigNums (hello a to):=by
   unfold sigNums hello
   rw [if_pos rfl]
   exact ⟨p2,p3,rfl,rfl,rfl⟩
  have he:sigEnds (hello a to):=⟨p1,by rw [←hzr];exact z1,by simp only [hello];omega⟩
  unfold sigErr
  rw [if_neg (by simp [hello]),if_neg (not_not_intro ⟨he,hn⟩),if_neg (by simp [hello]),if_neg (by simp [hello])]
 ·obtain ⟨x1,x2,x3,x4,x5,x6,x7,x8⟩:=send_ok p4 p3.2 a.items [] 0 rfl (by omega) (by simp) (fun y hy=>by have:=(p4.1 y hy).1.1;omega) x hx
  refine ⟨?_,by omega,x2,x3,x4,by omega,fun _ _=>x8⟩
  obtain ⟨i1,i2,i3⟩:=p4.1 _ x7
  simp only [sigItm] at i1 i2 i3
  have hn:sigNums x:=by
   unfold sigNums
   rw [if_neg (by omega),if_pos x1,x4]
   exact ⟨p2,⟨i1.1,by omega⟩,x6,x5,i2⟩
  have he:sigEnds x:=⟨by rw [x2];exact p1,by omega,by omega⟩
  unfold sigErr
  rw [if_neg (by omega),if_neg (not_not_intro ⟨he,hn⟩),if_pos x1]
  exact i3
theorem ans_err{s d e v p:Int}(hs:1≤s∧s≤99)(hd:1≤d∧d≤99)(hne:s≠d)(he:0≤e∧e≤1000000)(hv:0≤v∧v≤1000000)(hp:1≤p∧p≤1000000):sigErr ⟨3,s,d,e,v,0,p,0,0,[]⟩=0:=by
 have hn:sigNums ⟨3,s,d,e,v,0,p,0,0,[]⟩:=by
  unfold sigNums
  rw [if_neg (by simp),if_neg (by simp)]
  exact ⟨he,hv,rfl,hp,rfl⟩
 unfold sigErr
 rw [if_neg (by simp),if_neg (not_not_intro ⟨⟨hs,hd,hne⟩,hn⟩),if_neg (by simp),if_neg (by simp)]
theorem Hears.ans_ok{l l':Lsn}{x y:Sig}(hl:lsnOk l)(h:Hears l l' x y)(hx:sigErr x=0)(hd:x.dst=l.router):sigErr y=0:=by
 obtain ⟨e1,e2,e3⟩:=sig_ends hx
 have hm:=(h.mem _).mpr (.inl rfl)
 obtain ⟨k1,k2,k3,k4,k5⟩:=h.ok.2.2.2.1 _ hm
 rw [h.ans]
 exact ans_err hl.1 e1 (by omega) (by omega) k4 hl.2.1
structure SI (s:Spk×Lsn):Prop where
  aok:spkOk s.1
  ar:s.1.router=1
  ap:s.1.peers.map Per.router=[2]
  lok:lsnOk s.2
  lr:s.2.router=2
  lh:∀h∈s.2.heard,h.router=1
  pi:PI s.1.epoch s.1.last s.1.items (pOf s.1.peers 2) s.2.epoch (gOf s.2.heard 1)
theorem SI.hp{s:Spk×Lsn}(h:SI s):∃z∈s.1.peers,z.router=2:=by
 have:(2:Int)∈s.1.peers.map Per.router:=by rw [h.ap];simp
 obtain ⟨z,hz,e⟩:=List.mem_map.mp this
 exact ⟨z,hz,e⟩
def rt1(s:Spk×Lsn)(x:Sig):Spk×Lsn:=((ack s.1 (hear s.2 x).1.2).1,(hear s.2 x).1.1)
def rt(s:Spk×Lsn):Spk×Lsn:=(send s.1 2).1.foldl rt1 s
theorem hearL_epoch{e:Int}{g:Hrd}{x:Sig}{l:List Sig}(h:g.epoch≤e)(hx:x.epoch=e)(hl:∀y∈l,y.epoch≤e):(hearL g (x::l)).epoch=e:=
 ((hearL_grows (g:=hearG g x) hl).now (hearG_epoch h hx)).1
theorem Done.agree{a:Spk}{l:Lsn}{q:Int}(ha:spkOk a)(hl:lsnOk l)(hP:PI a.epoch a.last a.items (pOf a.peers q) l.epoch (gOf l.heard a.router))(hg:(gOf l.heard a.router).epoch=a.epoch∧(gOf l.heard a.router).ver=a.last) :
  Go.Proofs.YthhpaedpnjdnbaaGreatDoor.agree a l∧(gOf l.heard a.router).items=a.items∧atH l.heard a.router=gOf l.heard a.router∧hitH l.heard a.router:=by
 have hh:∃z∈l.heard,z.router=a.router:=by
  refine Classical.byContradiction fun hn=>?_
  have:=gOf_no hl.2.2.2.2 hn
  rw [this] at hg
  have:=hP.e1
  simp only at hg
  omega
 have hit:=(hitH_iff hl.2.2.2.2).mpr hh
 have hat:atH l.heard a.router=gOf l.heard a.router:=by
  unfold atH gOf base
  rw [if_pos hit]
 have hi:=(hP.g4 hg.1).eq hP.io hP.g3 hg.2
 exact ⟨⟨ha,hl,hit,by rw [hat];exact hg.1,by rw [hat];exact hg.2,by rw [hat];exact hi⟩,hi,hat,hit⟩
theorem sendFrom_none{s:Spk}{to acked:Int}:∀{r:List Itm} {prev:Int},(∀y∈r,y.ver≤acked)→sendFrom s to acked prev r=[]
 | [],_,_=>rfl
 | y::r,prev,h=>by
  have:=h y (by simp)
  rw [sendFrom,if_neg (by omega),sendFrom_none fun z hz=>h z (by simp [hz])]
  rfl
theorem settled{s:Spk×Lsn}(h:SI s)(hd:Done s.1.epoch s.1.last (pOf s.1.peers 2) s.2.epoch (gOf s.2.heard 1)) :
  agree s.1 s.2∧(∃p,s.1.peers=[p]∧p.acked=s.1.last)∧(send s.1 2).2=0∧(send s.1 2).1.length=1∧knownW s.2 1=wantsOf s.1.items:=by
 have hP:=h.pi
 have hg:(gOf s.2.heard s.1.router).epoch=s.1.epoch∧(gOf s.2.heard s.1.router).ver=s.1.last:=by rw [h.ar];exact ⟨hd.ge,hd.gv⟩
 obtain ⟨a1,a2,a3,a4⟩:=Done.agree (q:=2) h.aok h.lok (by rw [h.ar];exact hP) hg
 have hpp:s.1.peers=[pOf s.1.peers 2]:=by
  have:=h.ap
  generalize s.1.peers=ps at this
  cases ps with
  | nil=>simp at this
  | cons p r =>
   simp only [List.map_cons,List.cons.injEq,List.map_eq_nil_iff] at this
   obtain ⟨hp,rfl⟩:=this
   have:=pOf_mem (l:=[p]) (z:=p) (List.pairwise_singleton _ _) (by simp)
   rw [←hp,this]
 obtain ⟨v,w⟩:=send_val h.aok h.hp
 refine ⟨a1,⟨_,hpp,hd.pa⟩,by rw [v],?_,?_⟩
 ·rw [v,sendFrom_none fun y hy=>?_]
  ·rfl
  ·rw [hd.pa];exact (hP.io.1 y hy).1.2
 ·rw [h.ar] at a2 a3 a4
  unfold knownW
  rw [if_pos ⟨h.lok,a4⟩,a3,a2]
section
variable {α : Type} {key : α → Int}
theorem getK_set{l:List α}{r q:Int}{d z':α}(ho:l.Pairwise fun x y=>key x<key y)(hr:∃z∈l,key z=r)(hk:key z'=r)(hq:∃z∈l,key z=q) :
  (l.set (posK key l r) z').getD (posK key (l.set (posK key l r) z') q) d=if q=r then z' else l.getD (posK key l q) d:=by
 have ho':=sort_setK (z':=z') ho hr hk
 have hm:=mem_setK (z':=z') ho hr
 by_cases e:q=r
 ·rw [if_pos e,e,←hk]
  have h1:z'∈l.set (posK key l (key z')) z':=by rw [hk];exact (hm z').mpr (.inl rfl)
  rw [←hk] at ho'
  exact atK_eq ho' h1
 ·rw [if_neg e]
  obtain ⟨z,hz,rfl⟩:=hq
  have h1:=(hm z).mpr (.inr ⟨hz,e⟩)
  rw [atK_eq ho' h1,atK_eq ho hz]
theorem keys_set{l:List α}{r:Int}{z':α}(ho:l.Pairwise fun x y=>key x<key y)(hr:∃z∈l,key z=r)(hk:key z'=r):(l.set (posK key l r) z').map key=l.map key:=by
 obtain ⟨z,hz,hzr⟩:=hr
 obtain ⟨i,hi,rfl⟩:=List.getElem_of_mem hz
 rw [posK_eq ho hi hzr,List.map_set,hk]
 refine List.ext_getElem (by simp) fun j h1 h2=>?_
 rw [List.getElem_set]
 split
 ·rename_i e;subst e;simp [hzr]
 ·rfl
theorem posK_keys{β:Type}{key':β→Int}{l:List α}{m:List β}(h:l.map key=m.map key')(r:Int):posK key l r=posK key' m r:=by
 have e1:∀{γ:Type} (k:γ→Int) (l:List γ),posK k l r=(l.map k).findIdx fun y=>!decide (y<r):=fun k l=>by
  unfold posK;rw [List.findIdx_map];rfl
 rw [e1,e1,h]
theorem mem_keys{l:List α}{r:Int}:r∈l.map key↔∃z∈l,key z=r:=by rw [List.mem_map]
theorem getK_mem{l:List α}{r:Int}{d:α}(ho:l.Pairwise fun x y=>key x<key y)(h:r∈l.map key):l.getD (posK key l r) d∈l∧key (l.getD (posK key l r) d)=r:=by
 obtain ⟨z,hz,rfl⟩:=mem_keys.mp h
 rw [atK_eq ho hz]
 exact ⟨hz,rfl⟩
end
theorem nodup_sub{l R:List Int}(h:l.Nodup)(hs:∀x∈l,x∈R):l.length≤R.length:=by
 induction l generalizing R with
 | nil=>simp
 | cons x l ih =>
  rw [List.nodup_cons] at h
  have hx:=hs x (by simp)
  have:=ih (R:=R.erase x) h.2 fun y hy=>by
   have hne:y≠x:=fun e=>h.1 (e ▸ hy)
   exact (List.mem_erase_of_ne hne).mpr (hs y (by simp [hy]))
  rw [List.length_erase_of_mem hx] at this
  have:=List.length_pos_of_mem hx
  simp only [List.length_cons];omega
structure Ovl where
  sp:List Spk
  ls:List Lsn
  fl:List Sig
  deriving DecidableEq
def spks(l:List Spk):AV:=.sl 5 (l.map Spk.v) false
def lsns(l:List Lsn):AV:=.sl 3 (l.map Lsn.v) false
def Ovl.v(x:Ovl):AV:=.agg [spks x.sp,lsns x.ls,sigs x.fl]
def ovl0:Ovl:=⟨[],[],[]⟩
def rtrs(sp:List Spk):List Int:=sp.map Spk.router
def posS(l:List Spk)(r:Int):Nat:=l.findIdx fun p=>!decide (p.router<r)
def atS(sp:List Spk)(r:Int):Spk:=sp.getD (posS sp r) spk0
def atL(sp:List Spk)(ls:List Lsn)(r:Int):Lsn:=ls.getD (posS sp r) lsn0
def spOk(R:List Int)(s:Spk):Prop:=spkOk s∧s.peers.map Per.router=R.filter fun r=>decide (r≠s.router)
def lnOk(R:List Int)(l:Lsn):Prop:=lsnOk l∧∀h∈l.heard,h.router∈R
structure NetOk (R:List Int) (sp:List Spk) (ls:List Lsn):Prop where
  len:R.length≤12
  spr:sp.map Spk.router=R
  lsr:ls.map Lsn.router=R
  asc:sp.Pairwise fun x y=>x.router<y.router
  spo:∀s∈sp,spOk R s
  lso:∀l∈ls,lnOk R l
def sigIn(R:List Int)(x:Sig):Prop:=sigErr x=0∧x.src∈R∧x.dst∈R
def ovlOk(o:Ovl):Prop:=NetOk (rtrs o.sp) o.sp o.ls∧∀x∈o.fl,sigIn (rtrs o.sp) x
section
variable {R : List Int} {sp : List Spk} {ls : List Lsn}
theorem NetOk.ascR(h:NetOk R sp ls):R.Pairwise (·<·):=by rw [←h.spr,List.pairwise_map];exact h.asc
theorem NetOk.nodup(h:NetOk R sp ls):R.Nodup:=h.ascR.imp fun q=>by omega
theorem NetOk.ascL(h:NetOk R sp ls):ls.Pairwise fun x y=>x.router<y.router:=by
 have:=h.ascR;rw [←h.lsr,List.pairwise_map] at this;exact this
theorem NetOk.posL(h:NetOk R sp ls)(r:Int):posS sp r=posK Lsn.router ls r:=posK_keys (key:=Spk.router) (key':=Lsn.router) (h.spr.trans h.lsr.symm) r
theorem NetOk.s(h:NetOk R sp ls){r:Int}(hr:r∈R):atS sp r∈sp∧(atS sp r).router=r:=getK_mem (key:=Spk.router) h.asc (by rw [h.spr];exact hr)
theorem NetOk.l(h:NetOk R sp ls){r:Int}(hr:r∈R):atL sp ls r∈ls∧(atL sp ls r).router=r:=by
 unfold atL;rw [h.posL]
 exact getK_mem (key:=Lsn.router) h.ascL (by rw [h.lsr];exact hr)
theorem NetOk.peer(h:NetOk R sp ls){a b:Int}(ha:a∈R)(hb:b∈R)(hab:a≠b):∃z∈(atS sp a).peers,z.router=b:=by
 obtain ⟨h1,h2⟩:=h.s ha
 refine List.mem_map.mp ?_
 rw [(h.spo _ h1).2,List.mem_filter,h2]
 exact ⟨hb,by simpa using Ne.symm hab⟩
theorem NetOk.room(h:NetOk R sp ls){b:Int}(hb:b∈R):(atL sp ls b).heard.length<12:=by
 obtain ⟨h1,h2⟩:=h.l hb
 obtain ⟨k1,k2⟩:=h.lso _ h1
 have hn:((atL sp ls b).heard.map Hrd.router).Nodup:=by
  have:=k1.2.2.2.2
  rw [List.Nodup,List.pairwise_map];exact this.imp fun q=>by omega
 have hc:(b::(atL sp ls b).heard.map Hrd.router).Nodup:=by
  rw [List.nodup_cons]
  refine ⟨fun q=>?_,hn⟩
  obtain ⟨z,hz,e⟩:=List.mem_map.mp q
  exact (k1.2.2.2.1 z hz).2.1 (e.trans h2.symm)
 have:=nodup_sub hc (R:=R) fun x hx=>by
  rcases List.mem_cons.mp hx with rfl|hx
  ·exact hb
  ·obtain ⟨z,hz,rfl⟩:=List.mem_map.mp hx
   exact k2 z hz
 have:=h.len
 simp only [List.length_cons,List.length_map] at *
 omega
end
abbrev Rnd:=(List Spk×List Lsn)×List Sig
def deliver(s:Rnd)(x:Sig):Rnd:=
 if x.kind=3 then (if (ack (atS s.1.1 x.dst) x).2=0 then ((s.1.1.set (posS s.1.1 x.dst) (ack (atS s.1.1 x.dst) x).1,s.1.2),s.2) else s)
 else if (hear (atL s.1.1 s.1.2 x.dst) x).2=0 then ((s.1.1,s.1.2.set (posS s.1.1 x.dst) (hear (atL s.1.1 s.1.2 x.dst) x).1.1),s.2++[(hear (atL s.1.1 s.1.2 x.dst) x).1.2]) else s
def ansOf(a b le:Int)(g:Hrd):Sig:=⟨3,b,a,g.epoch,g.ver,0,le,0,0,[]⟩
structure Dlv (R:List Int) (s s':Rnd) (x:Sig):Prop where
  net:NetOk R s'.1.1 s'.1.2
  epoch:∀a∈R,(atS s'.1.1 a).epoch=(atS s.1.1 a).epoch
  last:∀a∈R,(atS s'.1.1 a).last=(atS s.1.1 a).last
  items:∀a∈R,(atS s'.1.1 a).items=(atS s.1.1 a).items
  le:∀b∈R,(atL s'.1.1 s'.1.2 b).epoch=(atL s.1.1 s.1.2 b).epoch
  p:∀a∈R,∀b∈R,a≠b→pOf (atS s'.1.1 a).peers b=if x.kind=3∧x.dst=a∧x.src=b then ackP (atS s.1.1 a) x (pOf (atS s.1.1 a).peers b) else pOf (atS s.1.1 a).peers b
  g:∀a∈R,∀b∈R,a≠b→gOf (atL s'.1.1 s'.1.2 b).heard a=if x.kind≠3∧x.src=a∧x.dst=b then hearG (gOf (atL s.1.1 s.1.2 b).heard a) x else gOf (atL s.1.1 s.1.2 b).heard a
  out:s'.2=s.2++if x.kind=3 then [] else [ansOf x.src x.dst (atL s.1.1 s.1.2 x.dst).epoch (hearG (gOf (atL s.1.1 s.1.2 x.dst).heard x.src) x)]
  outk:∀y∈s'.2,y∈s.2∨sigIn R y
theorem deliver_ok{R:List Int}{s:Rnd}{x:Sig}(h:NetOk R s.1.1 s.1.2)(hx:sigIn R x):Dlv R s (deliver s x) x:=by
 obtain ⟨⟨sp,ls⟩,out⟩:=s
 obtain ⟨x1,x2,x3⟩:=hx
 have hne:x.src≠x.dst:=(sig_ends x1).2.2
 simp only at h
 by_cases hk:x.kind=3
 ·obtain ⟨h1,h2⟩:=h.s x3
  obtain ⟨k1,k2⟩:=h.spo _ h1
  have hp:=h.peer x3 x2 (Ne.symm hne)
  obtain ⟨e1,e2⟩:=ack_val k1 x1 hk h2.symm hp
  have hd:deliver ((sp,ls),out) x=((sp.set (posS sp x.dst) (ack (atS sp x.dst) x).1,ls),out):=by
   unfold deliver;rw [if_pos hk,if_pos e1]
  rw [hd]
  generalize hz:(ack (atS sp x.dst) x).1=z at *
  have hzr:z.router=x.dst:=e2.router.trans h2
  have hr:∃w∈sp,w.router=x.dst:=⟨_,h1,h2⟩
  have hat:∀a∈R,atS (sp.set (posS sp x.dst) z) a=if a=x.dst then z else atS sp a:=fun a ha =>
   getK_set (key:=Spk.router) (d:=spk0) h.asc hr hzr (by rw [←h.spr] at ha;exact mem_keys.mp ha)
  have hkeys:(sp.set (posS sp x.dst) z).map Spk.router=sp.map Spk.router:=keys_set (key:=Spk.router) h.asc hr hzr
  have hat2:∀b,atL (sp.set (posS sp x.dst) z) ls b=atL sp ls b:=fun b=>by
   unfold atL
   rw [show posS (sp.set (posS sp x.dst) z) b=posS sp b from posK_keys (key:=Spk.router) (key':=Spk.router) hkeys b]
  refine ⟨⟨h.len,hkeys.trans h.spr,h.lsr,sort_setK (key:=Spk.router) h.asc hr hzr,fun w hw=>?_,h.lso⟩,fun a ha=>?_,fun a ha=>?_,fun a ha=>?_,fun b _=>by simp only [hat2],fun a ha b hb hab=>?_,fun a ha b hb hab=>?_,by rw [if_pos hk,List.append_nil],fun y hy=>.inl hy⟩
  ·rcases (mem_setK (key:=Spk.router) h.asc hr w).mp hw with rfl|⟨hw,_⟩
   ·exact ⟨e2.ok,by rw [e2.routers,k2,e2.router]⟩
   ·exact h.spo w hw
  ·simp only [hat a ha];split
   ·rename_i e;rw [e,e2.epoch]
   ·rfl
  ·simp only [hat a ha];split
   ·rename_i e;rw [e,e2.last]
   ·rfl
  ·simp only [hat a ha];split
   ·rename_i e;rw [e,e2.items]
   ·rfl
  ·simp only [hat a ha]
   by_cases ea:a=x.dst
   ·rw [if_pos ea,ea]
    by_cases eb:x.src=b
    ·rw [if_pos ⟨hk,rfl,eb⟩,←eb];exact e2.self k1 hp
    ·rw [if_neg fun q=>eb q.2.2]
     exact e2.other k1 (Ne.symm eb) (h.peer x3 hb (by rw [←ea];exact hab))
   ·rw [if_neg ea,if_neg fun q=>ea q.2.1.symm]
  ·simp only [hat2]
   rw [if_neg fun q=>q.1 hk]
 ·obtain ⟨h1,h2⟩:=h.l x3
  obtain ⟨k1,k2⟩:=h.lso _ h1
  obtain ⟨e1,e2⟩:=hear_val k1 x1 hk h2.symm (.inr (h.room x3))
  have hao:=e2.ans_ok k1 x1 h2.symm
  have hd:deliver ((sp,ls),out) x=((sp,ls.set (posS sp x.dst) (hear (atL sp ls x.dst) x).1.1),out++[(hear (atL sp ls x.dst) x).1.2]):=by
   unfold deliver;rw [if_neg hk,if_pos e1]
  rw [hd]
  have ha:=e2.ans
  generalize hz:(hear (atL sp ls x.dst) x).1.1=z at *
  generalize hy:(hear (atL sp ls x.dst) x).1.2=y at *
  have hzr:z.router=x.dst:=e2.router.trans h2
  have hr:∃w∈ls,w.router=x.dst:=⟨_,h1,h2⟩
  have hpos:=h.posL x.dst
  have hkeys:(ls.set (posS sp x.dst) z).map Lsn.router=ls.map Lsn.router:=by rw [hpos];exact keys_set (key:=Lsn.router) h.ascL hr hzr
  have hat:∀b∈R,atL sp (ls.set (posS sp x.dst) z) b=if b=x.dst then z else atL sp ls b:=fun b hb=>by
   unfold atL
   rw [show posS sp b=posK Lsn.router (ls.set (posS sp x.dst) z) b from posK_keys (key:=Spk.router) (key':=Lsn.router) (h.spr.trans (h.lsr.symm.trans hkeys.symm)) b,hpos]
   rw [getK_set (key:=Lsn.router) (d:=lsn0) h.ascL hr hzr (by rw [←h.lsr] at hb;exact mem_keys.mp hb)]
   rw [←hpos,show posK Lsn.router ls b=posK Lsn.router ls b from rfl]
   by_cases e:b=x.dst
   ·rw [if_pos e,if_pos e]
   ·rw [if_neg e,if_neg e,←h.posL b]
    congr 1
    exact (posK_keys (key:=Spk.router) (key':=Lsn.router) (h.spr.trans (h.lsr.symm.trans hkeys.symm)) b)
  refine ⟨⟨h.len,h.spr,hkeys.trans h.lsr,h.asc,h.spo,fun w hw=>?_⟩,fun a _=>rfl,fun a _=>rfl,fun a _=>rfl,fun b hb=>?_,fun a _ b _ _=>by rw [if_neg fun q=>hk q.1],fun a ha' b hb hab=>?_,?_,fun w hw=>?_⟩
  ·rw [hpos] at hw
   rcases (mem_setK (key:=Lsn.router) h.ascL hr w).mp hw with rfl|⟨hw,_⟩
   ·refine ⟨e2.ok,fun q hq=>?_⟩
    rcases (e2.mem q).mp hq with rfl|⟨hq,_⟩
    ·rw [hearG_router (gOf_router k1.2.2.2.2)];exact x2
    ·exact k2 q hq
   ·exact h.lso w hw
  ·simp only [hat b hb];split
   ·rename_i e;rw [e,e2.epoch]
   ·rfl
  ·simp only [hat b hb]
   by_cases eb:b=x.dst
   ·rw [if_pos eb,eb]
    by_cases ea:x.src=a
    ·rw [if_pos ⟨hk,ea,rfl⟩,←ea];exact e2.self k1
    ·rw [if_neg fun q=>ea q.2.1]
     exact e2.other k1 (Ne.symm ea)
   ·rw [if_neg eb,if_neg fun q=>eb q.2.2.symm]
  ·rw [if_neg hk,ha,h2];rfl
  ·rcases List.mem_append.mp hw with hw|hw
   ·exact .inl hw
   ·rw [List.mem_singleton] at hw
    subst hw
    exact .inr ⟨hao,by rw [ha];simp only;rw [h2];exact x3,by rw [ha];exact x2⟩
def isTell(a b:Int)(x:Sig):Bool:=decide (x.kind≠3∧x.src=a∧x.dst=b)
def isAck(a b:Int)(x:Sig):Bool:=decide (x.kind=3∧x.dst=a∧x.src=b)
def ansL(a b le:Int):Hrd→List Sig→List Sig
 | _,[]=>[]
 | g,x::l=>ansOf a b le (hearG g x)::ansL a b le (hearG g x) l
def ackL(s:Spk)(p:Per)(l:List Sig):Per:=l.foldl (fun p x=>ackP s x p) p
theorem ackP_cong{a b:Spk}{x:Sig}{p:Per}(h1:a.epoch=b.epoch)(h2:a.last=b.last):ackP a x p=ackP b x p:=by
 unfold ackP ackV;rw [h1,h2]
theorem ackL_cong{a b:Spk}(h1:a.epoch=b.epoch)(h2:a.last=b.last):∀{l:List Sig} {p:Per},ackL a p l=ackL b p l
 | [],_=>rfl
 | x::l,p=>by
  show ackL a (ackP a x p) l=ackL b (ackP b x p) l
  rw [ackP_cong h1 h2];exact ackL_cong h1 h2
structure Dlvs (R:List Int) (s s':Rnd) (l:List Sig):Prop where
  net:NetOk R s'.1.1 s'.1.2
  epoch:∀a∈R,(atS s'.1.1 a).epoch=(atS s.1.1 a).epoch
  last:∀a∈R,(atS s'.1.1 a).last=(atS s.1.1 a).last
  items:∀a∈R,(atS s'.1.1 a).items=(atS s.1.1 a).items
  le:∀b∈R,(atL s'.1.1 s'.1.2 b).epoch=(atL s.1.1 s.1.2 b).epoch
  p:∀a∈R,∀b∈R,a≠b→pOf (atS s'.1.1 a).peers b=ackL (atS s.1.1 a) (pOf (atS s.1.1 a).peers b) (l.filter (isAck a b))
  g:∀a∈R,∀b∈R,a≠b→gOf (atL s'.1.1 s'.1.2 b).heard a=hearL (gOf (atL s.1.1 s.1.2 b).heard a) (l.filter (isTell a b))
  acks:∀a∈R,∀b∈R,a≠b→s'.2.filter (isAck a b)=s.2.filter (isAck a b)++ansL a b (atL s.1.1 s.1.2 b).epoch (gOf (atL s.1.1 s.1.2 b).heard a) (l.filter (isTell a b))
  tells:∀a∈R,∀b∈R,a≠b→s'.2.filter (isTell a b)=s.2.filter (isTell a b)
  outk:∀y∈s'.2,y∈s.2∨sigIn R y
theorem delivers_ok{R:List Int}:∀{l:List Sig} {s:Rnd},NetOk R s.1.1 s.1.2→(∀x∈l,sigIn R x)→Dlvs R s (l.foldl deliver s) l
 | [],s,h,_=>⟨h,fun _ _=>rfl,fun _ _=>rfl,fun _ _=>rfl,fun _ _=>rfl,fun _ _ _ _ _=>rfl,fun _ _ _ _ _=>rfl,fun _ _ _ _ _=>by simp [ansL],fun _ _ _ _ _=>rfl,fun _ hy=>.inl hy⟩
 | x::l,s,h,hl=>by
  have d:=deliver_ok h (hl x (by simp))
  have r:=delivers_ok (l:=l) d.net fun y hy=>hl y (by simp [hy])
  rw [List.foldl_cons]
  generalize deliver s x=s1 at *
  generalize l.foldl deliver s1=s2 at *
  refine ⟨r.net,fun a ha=>(r.epoch a ha).trans (d.epoch a ha),fun a ha=>(r.last a ha).trans (d.last a ha),fun a ha=>(r.items a ha).trans (d.items a ha),fun b hb=>(r.le b hb).trans (d.le b hb),fun a ha b hb hab=>?_,fun a ha b hb hab=>?_,fun a ha b hb hab=>?_,fun a ha b hb hab=>?_,fun y hy=>?_⟩
  ·rw [r.p a ha b hb hab,d.p a ha b hb hab,ackL_cong (d.epoch a ha) (d.last a ha),List.filter_cons]
   by_cases c:x.kind=3∧x.dst=a∧x.src=b
   ·rw [if_pos c,if_pos (show isAck a b x=true from decide_eq_true c)];rfl
   ·rw [if_neg c,if_neg (show ¬isAck a b x=true from fun q=>c (of_decide_eq_true q))]
  ·rw [r.g a ha b hb hab,d.g a ha b hb hab,List.filter_cons]
   by_cases c:x.kind≠3∧x.src=a∧x.dst=b
   ·rw [if_pos c,if_pos (show isTell a b x=true from decide_eq_true c)];rfl
   ·rw [if_neg c,if_neg (show ¬isTell a b x=true from fun q=>c (of_decide_eq_true q))]
  ·rw [r.acks a ha b hb hab,d.g a ha b hb hab,d.le b hb,d.out,List.filter_append,List.filter_cons]
   by_cases c:x.kind≠3∧x.src=a∧x.dst=b
   ·rw [if_pos c,if_pos (show isTell a b x=true from decide_eq_true c),if_neg c.1]
    obtain ⟨c1,rfl,rfl⟩:=c
    simp [ansL,ansOf,isAck]
   ·rw [if_neg c,if_neg (show ¬isTell a b x=true from fun q=>c (of_decide_eq_true q))]
    by_cases k:x.kind=3
    ·rw [if_pos k];simp
    ·rw [if_neg k]
     have:List.filter (isAck a b) [ansOf x.src x.dst (atL s.1.1 s.1.2 x.dst).epoch (hearG (gOf (atL s.1.1 s.1.2 x.dst).heard x.src) x)]=[]:=by
      rw [List.filter_eq_nil_iff]
      intro y hy
      rw [List.mem_singleton] at hy
      subst hy
      intro q
      have q:=of_decide_eq_true q
      exact c ⟨k,q.2.1,q.2.2⟩
     rw [this,List.append_nil]
  ·rw [r.tells a ha b hb hab,d.out,List.filter_append]
   have:List.filter (isTell a b) (if x.kind=3 then [] else [ansOf x.src x.dst (atL s.1.1 s.1.2 x.dst).epoch (hearG (gOf (atL s.1.1 s.1.2 x.dst).heard x.src) x)])=[]:=by
    rw [List.filter_eq_nil_iff]
    intro y hy
    split at hy
    ·simp at hy
    ·rw [List.mem_singleton] at hy
     subst hy
     intro q
     exact (of_decide_eq_true q).1 rfl
   rw [this,List.append_nil]
  ·rcases r.outk y hy with hy|hy
   ·exact d.outk y hy
   ·exact .inr hy
def sends1(s:Spk):List Sig:=s.peers.flatMap fun p=>(send s p.router).1
def sends(sp:List Spk):List Sig:=sp.flatMap sends1
theorem filter_flat_none{α β:Type}{f:α→List β}{q:β→Bool}{l:List α}(h:∀x∈l,∀y∈f x,q y=false):(l.flatMap f).filter q=[]:=by
 rw [List.filter_eq_nil_iff]
 intro y hy
 obtain ⟨x,hx,hy⟩:=List.mem_flatMap.mp hy
 rw [h x hx y hy];simp
theorem filter_flat_one{α β:Type}{f:α→List β}{q:β→Bool}{key:α→Int}:∀{l:List α},(l.map key).Nodup→∀{z:α},z∈l→(∀x∈l,key x≠key z→∀y∈f x,q y=false)→(l.flatMap f).filter q=(f z).filter q
 | x::l,hn,z,hz,h=>by
  rw [List.flatMap_cons,List.filter_append]
  rw [List.map_cons,List.nodup_cons] at hn
  by_cases e:key x=key z
  ·have:∀w∈l,key w≠key z:=fun w hw q=>hn.1 (by rw [e,←q];exact List.mem_map.mpr ⟨w,hw,rfl⟩)
   rcases List.mem_cons.mp hz with rfl|hz
   ·rw [filter_flat_none fun w hw=>h w (by simp [hw]) (this w hw),List.append_nil]
   ·exact absurd rfl (this z hz)
  ·have hz:z∈l:=by
    rcases List.mem_cons.mp hz with rfl|hz
    ·exact absurd rfl e
    ·exact hz
   rw [filter_flat_one hn.2 hz fun w hw=>h w (by simp [hw])]
   have:List.filter q (f x)=[]:=by
    rw [List.filter_eq_nil_iff];intro y hy;rw [h x (by simp) e y hy];simp
   rw [this,List.nil_append]
theorem sends_tells{R:List Int}{sp:List Spk}{ls:List Lsn}(h:NetOk R sp ls){a b:Int}(ha:a∈R)(hb:b∈R)(hab:a≠b):(sends sp).filter (isTell a b)=(send (atS sp a) b).1:=by
 obtain ⟨h1,h2⟩:=h.s ha
 have sent:∀s∈sp,∀p∈s.peers,∀y∈(send s p.router).1,Sent s p.router y:=fun s hs p hp=>(send_val (h.spo s hs).1 ⟨p,hp,rfl⟩).2
 have hn:(sp.map Spk.router).Nodup:=by rw [h.spr];exact h.nodup
 unfold sends
 rw [filter_flat_one (key:=Spk.router) hn h1 fun s hs hne y hy=>by
  obtain ⟨p,hp,hy⟩:=List.mem_flatMap.mp hy
  have q:=(sent s hs p hp y hy).src
  exact decide_eq_false fun c=>hne (by rw [h2,←q,c.2.1])]
 obtain ⟨z,hz,hzb⟩:=h.peer ha hb hab
 have hpn:((atS sp a).peers.map Per.router).Nodup:=by
  have:=(h.spo _ h1).1.2.2.2.2.2.2
  rw [List.Nodup,List.pairwise_map];exact this.imp fun q=>by omega
 unfold sends1
 rw [filter_flat_one (key:=Per.router) hpn hz fun p hp hne y hy=>by
  have q:=(sent _ h1 p hp y hy).dst
  exact decide_eq_false fun c=>hne (by rw [hzb,←q,c.2.2])]
 rw [hzb,List.filter_eq_self]
 intro y hy
 have q:=sent _ h1 z hz y (by rw [hzb];exact hy)
 exact decide_eq_true ⟨q.kind,q.src.trans h2,q.dst.trans hzb⟩
theorem mem_sends{R:List Int}{sp:List Spk}{ls:List Lsn}(h:NetOk R sp ls){x:Sig}(hx:x∈sends sp):∃a∈R,∃b∈R,a≠b∧Sent (atS sp a) b x:=by
 obtain ⟨s,hs,hx⟩:=List.mem_flatMap.mp hx
 obtain ⟨p,hp,hx⟩:=List.mem_flatMap.mp hx
 have q:=(send_val (h.spo s hs).1 ⟨p,hp,rfl⟩).2 x hx
 have hr:s.router∈R:=by rw [←h.spr];exact List.mem_map.mpr ⟨s,hs,rfl⟩
 have hb:p.router∈R.filter fun r=>decide (r≠s.router):=by rw [←(h.spo s hs).2];exact List.mem_map.mpr ⟨p,hp,rfl⟩
 rw [List.mem_filter] at hb
 refine ⟨s.router,hr,p.router,hb.1,Ne.symm (of_decide_eq_true hb.2),?_⟩
 have:atS sp s.router=s:=atK_eq (key:=Spk.router) h.asc hs
 rw [this];exact q
theorem sends_acks{R:List Int}{sp:List Spk}{ls:List Lsn}(h:NetOk R sp ls)(a b:Int):(sends sp).filter (isAck a b)=[]:=by
 rw [List.filter_eq_nil_iff]
 intro x hx q
 obtain ⟨_,_,_,_,_,s⟩:=mem_sends h hx
 exact s.kind (of_decide_eq_true q).1
theorem ins_pw{α:Type}{R:α→α→Prop}{l:List α}{k:Nat}{x:α}(h:l.Pairwise R)(h1:∀a∈l.take k,R a x)(h2:∀a∈l.drop k,R x a):(insAt l k x).Pairwise R:=by
 have h0:=h
 rw [←List.take_append_drop k l,List.pairwise_append] at h0
 unfold insAt
 rw [List.pairwise_append,List.pairwise_append]
 refine ⟨⟨h0.1,List.pairwise_singleton _ _,fun a ha b hb=>?_⟩,h0.2.1,fun a ha b hb=>?_⟩
 ·rw [List.mem_singleton] at hb;exact hb ▸ h1 a ha
 ·rcases List.mem_append.mp ha with ha|ha
  ·exact h0.2.2 a ha b hb
  ·rw [List.mem_singleton] at ha;exact ha ▸ h2 b hb
theorem mem_insAt{α:Type}{l:List α}{k:Nat}{x y:α}:y∈insAt l k x↔y=x∨y∈l:=by
 rw [(insAt_perm l k x).mem_iff,List.mem_cons]
theorem memP_lo{l:List Mem}{x a:Mem}(h:a∈l.take (memP l x)):memLs a x:=by
 obtain ⟨i,hi,rfl⟩:=List.getElem_of_mem h
 rw [List.getElem_take]
 have:=List.not_of_lt_findIdx (p:=fun y=>!memLt y x) (xs:=l) (i:=i) (by simp at hi;unfold memP at hi;omega)
 have e:(!memLt (l[i]'(by simp at hi;omega)) x)=false:=this
 rw [Bool.not_eq_false'] at e
 exact e
theorem putM_mem{l:List Mem}{x y:Mem}(h:y∈putM l x):y∈l∨y=x:=by
 unfold putM at h
 split at h
 ·rcases List.mem_or_eq_of_mem_set h with h|h
  ·exact .inl h
  ·exact .inr h
 ·exact (mem_insAt.mp h).symm
theorem putM_pw{l:List Mem}{x:Mem}(h:l.Pairwise memLs):(putM l x).Pairwise memLs:=by
 unfold putM
 split
 ·rename_i e
  unfold memE at e
  split at e
  ·rename_i y hy
   have hlt:=lt_of_get hy
   have hyx:y.grp=x.grp∧y.host=x.host:=by simpa using e
   rw [List.pairwise_iff_getElem] at h ⊢
   intro i j hi hj hij
   rw [List.length_set] at hi hj
   have:=h i j hi hj hij
   rw [List.getElem?_eq_getElem hlt] at hy
   have hy:=Option.some.inj hy
   rw [List.getElem_set,List.getElem_set]
   by_cases e1:memP l x=i
   ·rw [if_pos e1,if_neg (by omega)]
    simp only [←e1,hy] at this
    simpa [memLs,bfrM,hyx] using this
   ·rw [if_neg e1]
    by_cases e2:memP l x=j
    ·rw [if_pos e2]
     simp only [←e2,hy] at this
     simpa [memLs,bfrM,hyx] using this
    ·rw [if_neg e2];exact this
  ·cases e
 ·rename_i e
  refine ins_pw h (fun a ha=>memP_lo ha) fun a ha=>?_
  have hlt:memP l x<l.length:=by
   refine Classical.byContradiction fun q=>?_
   rw [List.drop_of_length_le (by omega)] at ha;simp at ha
  have h1:memLt l[memP l x] x=false:=by
   have:=List.findIdx_getElem (p:=fun y=>!memLt y x) (xs:=l) (w:=hlt)
   rw [Bool.not_eq_true'] at this
   exact this
  have h2:¬(l[memP l x].grp=x.grp∧l[memP l x].host=x.host):=fun q=>e (by rw [memE,List.getElem?_eq_getElem hlt];simp [q.1,q.2])
  have h3:memLs x l[memP l x]:=by
   simp only [memLt,Bool.or_eq_false_iff,Bool.and_eq_false_iff,decide_eq_false_iff_not,beq_eq_false_iff_ne] at h1
   simp only [memLs,bfrM,Bool.or_eq_true,Bool.and_eq_true,decide_eq_true_eq,beq_iff_eq]
   omega
  rw [List.drop_eq_getElem_cons hlt] at ha
  rcases List.mem_cons.mp ha with rfl|ha
  ·exact h3
  ·have hp:(l.drop (memP l x)).Pairwise memLs:=h.sublist (List.drop_sublist _ _)
   rw [List.drop_eq_getElem_cons hlt,List.pairwise_cons] at hp
   exact memLs_tr _ _ _ h3 (hp.1 a ha)
structure MemOk (now:Int) (x:Mem):Prop where
  host:1≤x.host∧x.host≤8
  grp:1≤x.grp∧x.grp≤4
  flt:fltErr x.mode x.srcs=0
  no:¬(x.mode=1∧x.srcs=[])
  til:now≤x.til∧x.til≤now+1000
theorem memX_ok(L:List Int)(now:Int)(p:Nat):MemOk now (memX L now p).1:=by
 have hf:=filterT_in L (rawP L (rawP L p))
 have h4:=pickI_in (l:=[0,1,30,1000]) (a:=0) (b:=1000) (by decide) (by decide) (rawV L (filterT L (rawP L (rawP L p))).2)
 have h1:=rng_in (L:=L) (p:=p) (lo:=1) (hi:=8) (by omega)
 have h2:=rng_in (L:=L) (p:=rawP L p) (lo:=1) (hi:=4) (by omega)
 unfold memX
 generalize filterT L (rawP L (rawP L p))=F at *
 refine ⟨h1,h2,?_,?_,by simp only;omega⟩
 ·show fltErr (if F.1.mode=1∧F.1.srcs=[] then 2 else F.1.mode) F.1.srcs=0
  split
  ·rename_i c;rw [c.2];decide
  ·exact hf
 ·show ¬((if F.1.mode=1∧F.1.srcs=[] then 2 else F.1.mode)=1∧F.1.srcs=[])
  split
  ·omega
  ·assumption
theorem memsL_ok{L:List Int}{now:Int}:∀{n:Nat} {l:List Mem} {p:Nat},(∀x∈l,MemOk now x)→l.Pairwise memLs→(∀x∈(memsL L now n l p).1,MemOk now x)∧(memsL L now n l p).1.Pairwise memLs∧(memsL L now n l p).1.length≤l.length+n
 | 0,l,p,h1,h2=>⟨h1,h2,by simp [memsL]⟩
 | n+1,l,p,h1,h2=>by
  rw [memsL]
  obtain ⟨a,b,c⟩:=memsL_ok (L:=L) (now:=now) (n:=n) (l:=putM l (memX L now p).1) (p:=(memX L now p).2)
   (fun x hx=>by
    rcases putM_mem hx with hx|rfl
    ·exact h1 x hx
    ·exact memX_ok L now p) (putM_pw h2)
  have:=putM_len l (memX L now p).1
  exact ⟨a,b,by omega⟩
theorem memsT_ok(L:List Int){n:Int}(p:Nat)(h:0≤n∧n≤1000):(0≤(memsT L n p).1.now∧(memsT L n p).1.now≤998000)∧(∀x∈(memsT L n p).1.list,MemOk (memsT L n p).1.now x)∧(memsT L n p).1.list.Pairwise memLs∧(memsT L n p).1.list.length≤n:=by
 have hnow:=pickI_in (l:=[0,10,500,998000]) (a:=0) (b:=998000) (by decide) (by decide) (rawV L p)
 have hm:=Mod_range (x:=rawV L (rawP L p)) (show 1≤n+1 by omega)
 obtain ⟨a,b,c⟩:=memsL_ok (L:=L) (now:=(memsT L n p).1.now) (n:=(Mod (rawV L (rawP L p)) (n+1)).toNat) (l:=[]) (p:=rawP L (rawP L p)) (by simp) List.Pairwise.nil
 refine ⟨hnow,a,b,?_⟩
 have c:(memsT L n p).1.list.length≤0+(Mod (rawV L (rawP L p)) (n+1)).toNat:=c
 omega
theorem ofF_err(w:List Bool)(g:Bool):fltErr (ofF w g).mode (ofF w g).srcs=0:=by
 have h1:(ofF w g).mode=1∨(ofF w g).mode=2:=by unfold ofF;cases g<;>simp
 have h2:rngI (ofF w g).srcs:=fun s hs=>by
  have:=mem_frs.mp (List.mem_filter.mp hs).1;omega
 have h3:ascI (ofF w g).srcs:=asc_pw.mpr ((frs_asc 99).sublist List.filter_sublist)
 rw [fltErr,if_neg (not_not_intro h1),if_neg (not_not_intro h2),if_neg (not_not_intro h3)]
theorem ofF_wnt{Z:Int→Bool}{s:Int}(h:1≤s∧s≤100):wntF (ofF (wnB Z 99) (Z 100)) s=Z s:=by
 rw [wntF,decide_eq_true (ofF_err _ _),decide_eq_true h.1,Bool.true_and,Bool.true_and]
 have hm:decide ((ofF (wnB Z 99) (Z 100)).mode=1)=!Z 100:=by
  unfold ofF;cases Z 100<;>simp
 rw [hm]
 by_cases e:s=100
 ·subst e
  have:decide ((100:Int)∈(ofF (wnB Z 99) (Z 100)).srcs)=false:=decide_eq_false fun hs=>by
   have:=mem_frs.mp (List.mem_filter.mp hs).1;omega
  rw [this]
  cases Z 100<;>rfl
 ·have hg:(wnB Z 99).getD s.toNat false=Z s:=by
   rw [List.getD_eq_getElem?_getD,wnB_get (by omega),decide_eq_true (by omega),Bool.true_and,show ((s.toNat:Nat):Int)=s by omega];rfl
  have:decide (s∈(ofF (wnB Z 99) (Z 100)).srcs)=!(Z s==Z 100):=by
   rw [Bool.eq_iff_iff,decide_eq_true_eq]
   rw [show (ofF (wnB Z 99) (Z 100)).srcs=(frs 99).filter fun s=>!((wnB Z 99).getD s.toNat false==Z 100) from rfl,List.mem_filter,hg,mem_frs]
   constructor
   ·exact fun q=>q.2
   ·exact fun q=>⟨by omega,q⟩
  rw [this]
  cases Z s<;>cases Z 100<;>rfl
theorem unF_facts{a b:Flt}(ha:fltErr a.mode a.srcs=0)(hb:fltErr b.mode b.srcs=0):(unF a b).2=0∧fltErr (unF a b).1.mode (unF a b).1.srcs=0∧∀s,1≤s∧s≤100→wntF (unF a b).1 s=(wntF a s || wntF b s):=by
 have e:unF a b=(ofF (wnB (cmbZ a b false) 99) (cmbZ a b false 100),0):=by rw [unF,cmbF,if_neg (not_not_intro ha),if_neg (not_not_intro hb)]
 rw [e]
 refine ⟨rfl,ofF_err _ _,fun s hs=>?_⟩
 show wntF (ofF _ _) s=_
 rw [ofF_wnt hs]
 unfold cmbZ cmbB
 cases wntF a s<;>cases wntF b s<;>rfl
theorem wnt_some{f:Flt}(h:fltErr f.mode f.srcs=0)(hn:¬(f.mode=1∧f.srcs=[])):∃s,(1≤s∧s≤100)∧wntF f s=true:=by
 have hm:f.mode=1∨f.mode=2:=by
  refine Classical.byContradiction fun q=>?_
  rw [fltErr,if_pos q] at h;cases h
 have hr:rngI f.srcs:=by
  refine Classical.byContradiction fun q=>?_
  rw [fltErr,if_neg (not_not_intro hm),if_pos q] at h;cases h
 rcases hm with hm|hm
 ·cases hs:f.srcs with
  | nil=>exact absurd ⟨hm,hs⟩ hn
  | cons s l =>
   have:=hr s (by rw [hs];simp)
   refine ⟨s,by omega,?_⟩
   rw [wntF,decide_eq_true h,decide_eq_true this.1,hs,hm];simp
 ·refine ⟨100,by omega,?_⟩
  have:decide ((100:Int)∈f.srcs)=false:=decide_eq_false fun q=>by have:=hr 100 q;omega
  rw [wntF,decide_eq_true h,this,hm];rfl
theorem wnt_not{f:Flt}{s:Int}(h:wntF f s=true):¬(f.mode=1∧f.srcs=[]):=by
 rintro ⟨h1,h2⟩
 rw [wntF,h1,h2] at h
 simp at h
theorem grpM_facts{m:Mems}(h:memErr m=0):(grpM m).Pairwise (·<·)∧∀g,g∈grpM m↔∃x∈m.list,x.grp=g:=by
 rw [grpM,if_pos h]
 have key:∀(l:List Mem) (s:List Int),ascI s→ascI (l.foldl (fun out x=>put out x.grp) s)∧∀g,g∈l.foldl (fun out x=>put out x.grp) s↔g∈s∨∃x∈l,x.grp=g:=by
  intro l
  induction l with
  | nil=>intro s hs;exact ⟨hs,fun g=>by simp⟩
  | cons x l ih =>
   intro s hs
   obtain ⟨a,b⟩:=ih (put s x.grp) (put_asc hs)
   refine ⟨a,fun g=>?_⟩
   rw [List.foldl_cons,b]
   have hp:g∈put s x.grp↔g∈s∨g=x.grp:=by
    refine ⟨put_mem,fun q=>?_⟩
    unfold put
    split
    ·rename_i e
     rcases q with q|q
     ·exact q
     ·exact q ▸ mem_of_get e
    ·exact mem_insAt.mpr q.symm
   rw [hp]
   constructor
   ·rintro ((q|q)|⟨y,q1,q2⟩)
    ·exact .inl q
    ·exact .inr ⟨x,by simp,q.symm⟩
    ·exact .inr ⟨y,by simp [q1],q2⟩
   ·rintro (q|⟨y,q1,q2⟩)
    ·exact .inl (.inl q)
    ·rcases List.mem_cons.mp q1 with rfl|q1
     ·exact .inl (.inr q2.symm)
     ·exact .inr ⟨y,q1,q2⟩
 obtain ⟨a,b⟩:=key m.list [] (asc_pw.mpr List.Pairwise.nil)
 exact ⟨asc_pw.mp a,fun g=>by rw [b];simp⟩
theorem fltOf_ok{m:Mems}(h:memErr m=0)(g:Int):fltErr (fltOf m g).mode (fltOf m g).srcs=0∧((∃x∈m.list,x.grp=g)→¬((fltOf m g).mode=1∧(fltOf m g).srcs=[])):=by
 obtain ⟨-,-,-,h4,h5,-⟩:=memErr_zero h
 have key:∀(l:List Mem) (f:Flt),(∀x∈l,x∈m.list)→fltErr f.mode f.srcs=0→fltErr (l.foldl (fun f x=>if x.grp=g then (unF f ⟨x.mode,x.srcs⟩).1 else f) f).mode (l.foldl (fun f x=>if x.grp=g then (unF f ⟨x.mode,x.srcs⟩).1 else f) f).srcs=0 ∧
   ∀s,1≤s∧s≤100→(wntF f s=true∨∃x∈l,x.grp=g∧wntF ⟨x.mode,x.srcs⟩ s=true)→wntF (l.foldl (fun f x=>if x.grp=g then (unF f ⟨x.mode,x.srcs⟩).1 else f) f) s=true:=by
  intro l
  induction l with
  | nil=>intro f _ hf;exact ⟨hf,fun s _ q=>by simpa using q⟩
  | cons x l ih =>
   intro f hl hf
   have hx:=h4 x (hl x (by simp))
   rw [List.foldl_cons]
   by_cases e:x.grp=g
   ·rw [if_pos e]
    obtain ⟨u1,u2,u3⟩:=unF_facts hf (b:=⟨x.mode,x.srcs⟩) hx
    obtain ⟨a,b⟩:=ih (unF f ⟨x.mode,x.srcs⟩).1 (fun y hy=>hl y (by simp [hy])) u2
    refine ⟨a,fun s hs q=>b s hs ?_⟩
    rw [u3 s hs]
    rcases q with q|⟨y,q1,q2,q3⟩
    ·left;rw [q];rfl
    ·rcases List.mem_cons.mp q1 with rfl|q1
     ·left;rw [q3];simp
     ·exact .inr ⟨y,q1,q2,q3⟩
   ·rw [if_neg e]
    obtain ⟨a,b⟩:=ih f (fun y hy=>hl y (by simp [hy])) hf
    refine ⟨a,fun s hs q=>b s hs ?_⟩
    rcases q with q|⟨y,q1,q2,q3⟩
    ·exact .inl q
    ·rcases List.mem_cons.mp q1 with rfl|q1
     ·exact absurd q2 e
     ·exact .inr ⟨y,q1,q2,q3⟩
 obtain ⟨a,b⟩:=key m.list ⟨1,[]⟩ (fun _ h=>h) (by decide)
 refine ⟨a,fun ⟨x,hx,hg⟩=>?_⟩
 obtain ⟨s,hs,hw⟩:=wnt_some (f:=⟨x.mode,x.srcs⟩) (h4 x hx) (h5 x hx)
 exact wnt_not (b s hs (.inr ⟨x,hx,hg,hw⟩))
theorem ofW_facts{m:Mems}(h:memErr m=0)(hg:∀x∈m.list,1≤x.grp∧x.grp≤4):ofW m=((grpM m).map (wMem m),0)∧WOk 7 ((grpM m).map (wMem m)):=by
 obtain ⟨g1,g2⟩:=grpM_facts h
 have hr:∀g∈grpM m,1≤g∧g≤4:=fun g q=>by
  obtain ⟨x,hx,rfl⟩:=(g2 g).mp q
  exact hg x hx
 have hl:(grpM m).length≤4:=nodup_sub (R:=[1,2,3,4]) (g1.imp fun q=>by omega) fun g q=>by
  have:=hr g q
  have:g=1∨g=2∨g=3∨g=4:=by omega
  simpa using this
 refine ⟨by rw [ofW,if_neg (not_not_intro h),if_neg (by omega)],fun w hw=>?_,fun w hw=>?_,fun w hw=>?_,?_,by rw [List.length_map];omega⟩
 ·obtain ⟨g,q,rfl⟩:=List.mem_map.mp hw
  have:=hr g q
  exact ⟨this.1,by show g<7;omega⟩
 ·obtain ⟨g,q,rfl⟩:=List.mem_map.mp hw
  exact (fltOf_ok h g).1
 ·obtain ⟨g,q,rfl⟩:=List.mem_map.mp hw
  exact (fltOf_ok h g).2 ((g2 g).mp q)
 ·rw [List.pairwise_map];exact g1
structure Fau where
  kind:Int
  pos:Int
def Fau.v(x:Fau):AV:=.agg [.int x.kind,.int x.pos]
def arrK(l late:List Sig)(k:Int)(n:Nat)(x:Sig):List Sig×List Sig:=
 if k=1 then (l.take n++l.drop (n+1),late)
 else if k=2 then (l.take n++[x,x]++l.drop (n+1),late)
 else if k=3 then (l.take n++l.drop (n+1),late++[x])
 else if k=4 then (if n+1<l.length then ((l.set n (l.getD (n+1) sig0)).set (n+1) x,late) else (l,late))
 else (l,late)
def arr1(s:List Sig×List Sig)(f:Fau):List Sig×List Sig:=
 if f.pos<0∨(s.1.length:Int)≤f.pos then s else arrK s.1 s.2 f.kind f.pos.toNat (s.1.getD f.pos.toNat sig0)
def arr(l:List Sig)(f:List Fau):List Sig×List Sig:=f.foldl arr1 (l,[])
theorem arr1_mem{P:Sig→Prop}{s:List Sig×List Sig}{f:Fau}(h1:∀x∈s.1,P x)(h2:∀x∈s.2,P x):(∀x∈(arr1 s f).1,P x)∧∀x∈(arr1 s f).2,P x:=by
 obtain ⟨l,late⟩:=s
 unfold arr1
 split
 ·exact ⟨h1,h2⟩
 rename_i c
 simp only at c h1 h2 ⊢
 have hg:∀n:Nat,n<l.length→P (l.getD n sig0):=fun n hn=>by
  rw [List.getD_eq_getElem?_getD,List.getElem?_eq_getElem hn]
  exact h1 _ (List.getElem_mem hn)
 have hx:=hg f.pos.toNat (by omega)
 generalize l.getD f.pos.toNat sig0=x at *
 generalize f.pos.toNat=n at *
 have hd:∀y∈l.take n++l.drop (n+1),P y:=fun y hy=>by
  rcases List.mem_append.mp hy with hy|hy
  ·exact h1 y (List.mem_of_mem_take hy)
  ·exact h1 y (List.mem_of_mem_drop hy)
 unfold arrK
 split
 ·exact ⟨hd,h2⟩
 split
 ·refine ⟨fun y hy=>?_,h2⟩
  simp only [List.mem_append,List.mem_cons,List.not_mem_nil,or_false] at hy
  rcases hy with (hy|rfl|rfl)|hy
  ·exact h1 y (List.mem_of_mem_take hy)
  ·exact hx
  ·exact hx
  ·exact h1 y (List.mem_of_mem_drop hy)
 split
 ·refine ⟨hd,fun y hy=>?_⟩
  rcases List.mem_append.mp hy with hy|hy
  ·exact h2 y hy
  ·rw [List.mem_singleton] at hy;subst hy;exact hx
 split
 ·split
  ·rename_i q
   refine ⟨fun y hy=>?_,h2⟩
   rcases List.mem_or_eq_of_mem_set hy with hy|rfl
   ·rcases List.mem_or_eq_of_mem_set hy with hy|rfl
    ·exact h1 y hy
    ·exact hg _ q
   ·exact hx
  ·exact ⟨h1,h2⟩
 ·exact ⟨h1,h2⟩
theorem arrs_mem{P:Sig→Prop}:∀{f:List Fau} {s:List Sig×List Sig},(∀x∈s.1,P x)→(∀x∈s.2,P x)→(∀x∈(f.foldl arr1 s).1,P x)∧∀x∈(f.foldl arr1 s).2,P x
 | [],_,h1,h2=>⟨h1,h2⟩
 | f::fs,s,h1,h2=>by
  obtain ⟨a,b⟩:=arr1_mem (f:=f) h1 h2
  exact arrs_mem (f:=fs) a b
theorem arr_mem{P:Sig→Prop}{l:List Sig}{f:List Fau}(h:∀x∈l,P x):(∀x∈(arr l f).1,P x)∧∀x∈(arr l f).2,P x:=arrs_mem h (by simp)
def roundN(o:Ovl)(now late:List Sig):Ovl:=
 ⟨(now.foldl deliver ((o.sp,o.ls),late)).1.1,(now.foldl deliver ((o.sp,o.ls),late)).1.2,(now.foldl deliver ((o.sp,o.ls),late)).2++sends (now.foldl deliver ((o.sp,o.ls),late)).1.1⟩
instance (R:List Int) (s:Spk):Decidable (spOk R s):=by unfold spOk;exact inferInstance
instance (R:List Int) (l:Lsn):Decidable (lnOk R l):=by unfold lnOk;exact inferInstance
instance (R:List Int) (x:Sig):Decidable (sigIn R x):=by unfold sigIn;exact inferInstance
instance (R:List Int) (sp:List Spk) (ls:List Lsn):Decidable (NetOk R sp ls):=
 decidable_of_iff (R.length≤12∧sp.map Spk.router=R∧ls.map Lsn.router=R∧(sp.Pairwise fun x y=>x.router<y.router)∧(∀s∈sp,spOk R s)∧∀l∈ls,lnOk R l)
  ⟨fun ⟨a,b,c,d,e,f⟩=>⟨a,b,c,d,e,f⟩,fun ⟨a,b,c,d,e,f⟩=>⟨a,b,c,d,e,f⟩⟩
instance (o:Ovl):Decidable (ovlOk o):=by unfold ovlOk;exact inferInstance
def roundO(o:Ovl)(f:List Fau):Ovl×Int:=if ¬ovlOk o then (ovl0,1) else (roundN o (arr o.fl f).1 (arr o.fl f).2,0)
def ep(o:Ovl)(a:Int):Int:=(atS o.sp a).epoch
def la(o:Ovl)(a:Int):Int:=(atS o.sp a).last
def it(o:Ovl)(a:Int):List Itm:=(atS o.sp a).items
def pe(o:Ovl)(a b:Int):Per:=pOf (atS o.sp a).peers b
def le(o:Ovl)(b:Int):Int:=(atL o.sp o.ls b).epoch
def he(o:Ovl)(a b:Int):Hrd:=gOf (atL o.sp o.ls b).heard a
def tells(o:Ovl)(a b:Int):List Sig:=o.fl.filter (isTell a b)
def acks(o:Ovl)(a b:Int):List Sig:=o.fl.filter (isAck a b)
structure Round (R:List Int) (o o':Ovl) (now late:List Sig):Prop where
  net:NetOk R o'.sp o'.ls
  fl:∀x∈o'.fl,sigIn R x
  ep:∀a∈R,ep o' a=ep o a
  la:∀a∈R,la o' a=la o a
  it:∀a∈R,it o' a=it o a
  le:∀b∈R,le o' b=le o b
  p:∀a∈R,∀b∈R,a≠b→pe o' a b=ackL (atS o.sp a) (pe o a b) (now.filter (isAck a b))
  g:∀a∈R,∀b∈R,a≠b→he o' a b=hearL (he o a b) (now.filter (isTell a b))
  acks:∀a∈R,∀b∈R,a≠b→acks o' a b=late.filter (isAck a b)++ansL a b (Go.Proofs.YthhpaedpnjdnbaaGreatDoor.le o b) (he o a b) (now.filter (isTell a b))
  tells:∀a∈R,∀b∈R,a≠b→tells o' a b=late.filter (isTell a b)++(send (atS o'.sp a) b).1
theorem roundN_ok{R:List Int}{o:Ovl}(h:NetOk R o.sp o.ls){now late:List Sig}(h1:∀x∈now,sigIn R x)(h2:∀x∈late,sigIn R x):Round R o (roundN o now late) now late:=by
 have d:=delivers_ok (l:=now) (s:=((o.sp,o.ls),late)) h h1
 unfold roundN
 generalize now.foldl deliver ((o.sp,o.ls),late)=s at *
 refine ⟨d.net,fun x hx=>?_,d.epoch,d.last,d.items,d.le,d.p,d.g,fun a ha b hb hab=>?_,fun a ha b hb hab=>?_⟩
 ·rcases List.mem_append.mp hx with hx|hx
  ·rcases d.outk x hx with hx|hx
   ·exact h2 x hx
   ·exact hx
  ·obtain ⟨a,ha,b,hb,_,q⟩:=mem_sends d.net hx
   exact ⟨q.ok,by rw [q.src,(d.net.s ha).2];exact ha,by rw [q.dst];exact hb⟩
 ·show List.filter _ (s.2++sends s.1.1)=_
  rw [List.filter_append,sends_acks d.net,List.append_nil,d.acks a ha b hb hab];rfl
 ·show List.filter _ (s.2++sends s.1.1)=_
  rw [List.filter_append,sends_tells d.net ha hb hab,d.tells a ha b hb hab]
section
variable {e n : Int} {its : List Itm} {p : Per} {le : Int} {g : Hrd}
theorem sig_ver{x:Sig}(hx:sigErr x=0):0≤x.ver:=by
 by_cases hk:x.kind=3
 ·unfold sigErr at hx
  split at hx
  ·omega
  split at hx
  ·omega
  rename_i h
  have h:=(Classical.not_not.mp h).2
  unfold sigNums at h
  rw [if_neg (by omega),if_neg (by omega)] at h
  exact h.2.1.1
 ·exact (sig_told hx hk).2.1.1
def Tells(e n:Int)(its:List Itm)(l:List Sig):Prop:=∀x∈l,sigErr x=0∧x.kind≠3∧TellOk e n its x
def AcksOk(e le:Int)(g:Hrd)(l:List Sig):Prop:=∀x∈l,sigErr x=0∧AckOk e le g x
theorem AcksOk.grow{l:List Sig}(h:AcksOk e le g l){g':Hrd}(hg:Grows e g g'):AcksOk e le g' l:=fun x hx=>⟨(h x hx).1,(h x hx).2.grow hg⟩
theorem Tells.ep{l:List Sig}(h:Tells e n its l):∀x∈l,x.epoch≤e:=fun x hx=>(h x hx).2.2.ep
theorem PI.hears:∀{l:List Sig} {g:Hrd},PI e n its p le g→Tells e n its l→PI e n its p le (hearL g l)
 | [],_,h,_=>h
 | x::l,g,h,hl=>PI.hears (l:=l) (h.hear (hl x (by simp)).1 (hl x (by simp)).2.1 (hl x (by simp)).2.2) fun y hy=>hl y (by simp [hy])
theorem PI.acks{a:Spk}(h1:a.epoch=e)(h2:a.last=n):∀{l:List Sig} {p:Per},PI e n its p le g→AcksOk e le g l→PI e n its (ackL a p l) le g
 | [],_,h,_=>h
 | x::l,p,h,hl=>PI.acks h1 h2 (l:=l) (h.ack h1 h2 (hl x (by simp)).2 (sig_ver (hl x (by simp)).1)) fun y hy=>hl y (by simp [hy])
theorem ansL_ok{a b:Int}(ha:1≤a∧a≤99)(hb:1≤b∧b≤99)(hab:a≠b)(hle:1≤le∧le≤1000000)(hE:e≤1000000) :
  ∀{l:List Sig} {g:Hrd},PI e n its p le g→(∀q:Hrd,PI e n its p le q→q.ver≤1000000→∀x∈l,(hearG q x).ver≤1000000)→g.ver≤1000000→Tells e n its l→AcksOk e le (hearL g l) (ansL a b le g l)
 | [],_,_,_,_,_=>fun x hx=>by simp [ansL] at hx
 | x::l,g,h,hv,hg,hl=>by
  obtain ⟨l1,l2,l3⟩:=hl x (by simp)
  have h':=h.hear l1 l2 l3
  have hv':=hv g h hg x (by simp)
  have r:=ansL_ok ha hb hab hle hE (l:=l) h' (fun q hq hqv y hy=>hv q hq hqv y (by simp [hy])) hv' fun y hy=>hl y (by simp [hy])
  intro y hy
  rcases List.mem_cons.mp hy with rfl|hy
  ·refine ⟨ans_err hb ha (Ne.symm hab) ⟨h'.g1.1,by have:=h'.g1.2;omega⟩ ⟨h'.g2,hv'⟩ hle,?_⟩
   exact (h'.answer (r:=b) (q:=a)).grow (hearL_grows fun z hz=>(hl z (by simp [hz])).2.2.ep)
  ·exact r y hy
theorem hearG_ver{x:Sig}(hx:sigErr x=0)(hk:x.kind≠3)(h:g.ver≤1000000):(hearG g x).ver≤1000000:=by
 have:=(sig_told hx hk).2.1.2
 unfold hearG hear1 hear0
 split<;>split<;>(try simp only)<;>omega
theorem ansL_last{a b:Int}:∀{l:List Sig} {g:Hrd},l≠[]→∃i,ansL a b le g l=i++[ansOf a b le (hearL g l)]
 | [x],g,_=>⟨[],rfl⟩
 | x::y::l,g,_=>by
  obtain ⟨i,hi⟩:=ansL_last (l:=y::l) (g:=hearG g x) (by simp)
  exact ⟨ansOf a b le (hearG g x)::i,by rw [ansL,hi];rfl⟩
theorem ansL_pep{a b:Int}:∀{l:List Sig} {g:Hrd},∀x∈ansL a b le g l,x.pep=le
 | [],_,x,hx=>by simp [ansL] at hx
 | y::l,g,x,hx=>by
  rcases List.mem_cons.mp hx with rfl|hx
  ·rfl
  ·exact ansL_pep (l:=l) x hx
theorem ackL_le{a:Spk}:∀{l:List Sig} {p:Per},p.epoch≤le→(∀x∈l,x.pep≤le)→(ackL a p l).epoch≤le∧p.epoch≤(ackL a p l).epoch
 | [],p,h,_=>⟨h,Int.le_refl _⟩
 | x::l,p,h,hl=>by
  have hx:=hl x (by simp)
  have h':(ackP a x p).epoch≤le∧p.epoch≤(ackP a x p).epoch:=by
   unfold ackP
   split
   ·exact ⟨hx,by simp only;omega⟩
   split
   ·exact ⟨h,Int.le_refl _⟩
   ·exact ⟨h,Int.le_refl _⟩
  have:=ackL_le (a:=a) (l:=l) h'.1 fun y hy=>hl y (by simp [hy])
  exact ⟨this.1,Int.le_trans h'.2 this.2⟩
theorem ackL_now{a:Spk}{l:List Sig}{p:Per}(hn:l≠[])(h:p.epoch≤le)(hl:∀x∈l,x.pep=le):(ackL a p l).epoch=le:=by
 cases l with
 | nil=>exact absurd rfl hn
 | cons x l =>
  have hx:=hl x (by simp)
  have h':(ackP a x p).epoch=le:=by
   unfold ackP
   split
   ·exact hx
   split
   ·simp only;omega
   ·omega
  have:=ackL_le (a:=a) (l:=l) (p:=ackP a x p) (le:=le) (by omega) fun y hy=>Int.le_of_eq (hl y (by simp [hy]))
  show (ackL a (ackP a x p) l).epoch=le
  omega
theorem ackL_append{a:Spk}{l m:List Sig}{p:Per}:ackL a p (l++m)=ackL a (ackL a p l) m:=by unfold ackL;rw [List.foldl_append]
theorem Done.hears(hd:Done e n p le g)(h:PI e n its p le g):∀{l:List Sig},Tells e n its l→hearL g l=g
 | [],_=>rfl
 | x::l,hl=>by
  have:=hd.hear h (hl x (by simp)).2.1 (hl x (by simp)).2.2
  show hearL (hearG g x) l=g
  rw [this]
  exact Done.hears hd h (l:=l) fun y hy=>hl y (by simp [hy])
end
structure OI (R:List Int) (o:Ovl):Prop where
  net:NetOk R o.sp o.ls
  fl:∀x∈o.fl,sigIn R x
  pi:∀a∈R,∀b∈R,a≠b→PI (ep o a) (la o a) (it o a) (pe o a b) (le o b) (he o a b)
  tell:∀a∈R,∀b∈R,a≠b→Tells (ep o a) (la o a) (it o a) (tells o a b)
  ack:∀a∈R,∀b∈R,a≠b→AcksOk (ep o a) (le o b) (he o a b) (acks o a b)
theorem OI.ok{R:List Int}{o:Ovl}(h:OI R o):ovlOk o:=by
 have e:rtrs o.sp=R:=h.net.spr
 exact ⟨by rw [e];exact h.net,by rw [e];exact h.fl⟩
theorem OI.mem{R:List Int}{o:Ovl}(h:OI R o){x:Sig}(hx:x∈o.fl){a b:Int}(ha:a∈R)(hb:b∈R)(hab:a≠b) :
  (isTell a b x=true→sigErr x=0∧x.kind≠3∧TellOk (ep o a) (la o a) (it o a) x)∧(isAck a b x=true→sigErr x=0∧AckOk (ep o a) (le o b) (he o a b) x):=
 ⟨fun q=>h.tell a ha b hb hab x (List.mem_filter.mpr ⟨hx,q⟩),fun q=>h.ack a ha b hb hab x (List.mem_filter.mpr ⟨hx,q⟩)⟩
theorem OI.round{R:List Int}{o:Ovl}(h:OI R o){now late:List Sig}(h1:∀x∈now,x∈o.fl)(h2:∀x∈late,x∈o.fl):OI R (roundN o now late)∧Round R o (roundN o now late) now late:=by
 have r:=roundN_ok h.net (now:=now) (late:=late) (fun x hx=>h.fl x (h1 x hx)) fun x hx=>h.fl x (h2 x hx)
 generalize roundN o now late=o' at *
 have T:∀a∈R,∀b∈R,a≠b→∀l:List Sig,(∀x∈l,x∈o.fl)→Tells (ep o a) (la o a) (it o a) (l.filter (isTell a b)):=fun a ha b hb hab l hl x hx=>by
  rw [List.mem_filter] at hx;exact (h.mem (hl x hx.1) ha hb hab).1 hx.2
 have A:∀a∈R,∀b∈R,a≠b→∀l:List Sig,(∀x∈l,x∈o.fl)→AcksOk (ep o a) (le o b) (he o a b) (l.filter (isAck a b)):=fun a ha b hb hab l hl x hx=>by
  rw [List.mem_filter] at hx;exact (h.mem (hl x hx.1) ha hb hab).2 hx.2
 have G:∀a∈R,∀b∈R,a≠b→Grows (ep o a) (he o a b) (he o' a b):=fun a ha b hb hab=>by
  rw [r.g a ha b hb hab];exact hearL_grows (T a ha b hb hab now h1).ep
 have P:∀a∈R,∀b∈R,a≠b→PI (ep o a) (la o a) (it o a) (pe o a b) (le o b) (he o' a b):=fun a ha b hb hab=>by
  rw [r.g a ha b hb hab];exact (h.pi a ha b hb hab).hears (T a ha b hb hab now h1)
 refine ⟨⟨r.net,r.fl,fun a ha b hb hab=>?_,fun a ha b hb hab=>?_,fun a ha b hb hab=>?_⟩,r⟩
 ·rw [r.ep a ha,r.la a ha,r.it a ha,r.le b hb,r.p a ha b hb hab]
  exact (P a ha b hb hab).acks rfl rfl ((A a ha b hb hab now h1).grow (G a ha b hb hab))
 ·rw [r.tells a ha b hb hab]
  intro x hx
  rcases List.mem_append.mp hx with hx|hx
  ·rw [r.ep a ha,r.la a ha,r.it a ha]
   exact T a ha b hb hab late h2 x hx
  ·obtain ⟨q1,q2⟩:=r.net.s ha
   have q:=(send_val (r.net.spo _ q1).1 (r.net.peer ha hb hab)).2 x hx
   exact ⟨q.ok,q.kind,q.tell⟩
 ·rw [r.ep a ha,r.le b hb,r.acks a ha b hb hab]
  intro x hx
  rcases List.mem_append.mp hx with hx|hx
  ·exact ((A a ha b hb hab late h2).grow (G a ha b hb hab)) x hx
  ·obtain ⟨q1,q2⟩:=h.net.s ha
   obtain ⟨q3,q4⟩:=h.net.l hb
   have k1:=(h.net.spo _ q1).1
   have k2:=(h.net.lso _ q3).1
   have t:=T a ha b hb hab now h1
   have z:=ansL_ok (p:=pe o a b) (a:=a) (b:=b) (by have:=k1.1;omega) (by have:=k2.1;omega) hab k2.2.1 k1.2.1.2 (h.pi a ha b hb hab)
    (l:=now.filter (isTell a b)) (fun q _ hq y hy=>hearG_ver (t y hy).1 (t y hy).2.1 hq) (gOf_ok k2 a).2.1.2 t
   rw [r.g a ha b hb hab]
   exact z x hx
structure St1 (o:Ovl) (a b:Int):Prop where
  t:tells o a b=(send (atS o.sp a) b).1
structure St2 (o:Ovl) (a b:Int):Prop extends St1 o a b where
  g:(he o a b).epoch=ep o a
  k:∀x∈acks o a b,x.pep=le o b
  n:acks o a b≠[]
structure St3 (o:Ovl) (a b:Int):Prop extends St1 o a b where
  g:(he o a b).epoch=ep o a
  p:(pe o a b).epoch=le o b
structure St4 (o:Ovl) (a b:Int):Prop extends St1 o a b where
  g:(he o a b).epoch=ep o a
  v:(he o a b).ver=la o a
  p:(pe o a b).epoch=le o b
  a:∃i,acks o a b=i++[ansOf a b (le o b) (he o a b)]
def St5(o:Ovl)(a b:Int):Prop:=Done (ep o a) (la o a) (pe o a b) (le o b) (he o a b)
def round0(o:Ovl):Ovl:=roundN o o.fl []
theorem OI.send{R:List Int}{o:Ovl}(h:OI R o){a b:Int}(ha:a∈R)(hb:b∈R)(hab:a≠b):(send (atS o.sp a) b).1=hello (atS o.sp a) b::sendFrom (atS o.sp a) b (pe o a b).acked 0 (atS o.sp a).items:=by
 obtain ⟨q1,q2⟩:=h.net.s ha
 rw [(send_val (h.net.spo _ q1).1 (h.net.peer ha hb hab)).1];rfl
section
variable {R : List Int} {o : Ovl}
theorem OI.round0(h:OI R o):OI R (round0 o):=(h.round (fun _ hx=>hx) (by simp)).1
theorem OI.r0(h:OI R o):Round R o (Go.Proofs.YthhpaedpnjdnbaaGreatDoor.round0 o) o.fl []:=(h.round (fun _ hx=>hx) (by simp)).2
variable {a b : Int}
theorem OI.st1(h:OI R o)(ha:a∈R)(hb:b∈R)(hab:a≠b):St1 (Go.Proofs.YthhpaedpnjdnbaaGreatDoor.round0 o) a b:=⟨by simpa using h.r0.tells a ha b hb hab⟩
theorem OI.acks0(h:OI R o)(ha:a∈R)(hb:b∈R)(hab:a≠b):acks (Go.Proofs.YthhpaedpnjdnbaaGreatDoor.round0 o) a b=ansL a b (le o b) (he o a b) (tells o a b):=by simpa [tells] using h.r0.acks a ha b hb hab
theorem OI.st2(h:OI R o)(ha:a∈R)(hb:b∈R)(hab:a≠b)(s:St1 o a b):St2 (Go.Proofs.YthhpaedpnjdnbaaGreatDoor.round0 o) a b:=by
 have r:=h.r0
 have hs:=h.send ha hb hab
 have ht:Tells (ep o a) (la o a) (it o a) (hello (atS o.sp a) b::sendFrom (atS o.sp a) b (pe o a b).acked 0 (atS o.sp a).items):=by rw [←hs,←s.t];exact h.tell a ha b hb hab
 refine ⟨h.st1 ha hb hab,?_,?_,?_⟩
 ·rw [r.g a ha b hb hab,r.ep a ha]
  show (hearL (he o a b) (tells o a b)).epoch=_
  rw [s.t,hs]
  exact hearL_epoch (h.pi a ha b hb hab).g1.2 rfl fun y hy=>ht.ep y (by simp [hy])
 ·rw [h.acks0 ha hb hab,r.le b hb]
  exact ansL_pep
 ·rw [h.acks0 ha hb hab,s.t,hs]
  simp [ansL]
theorem OI.st3(h:OI R o)(ha:a∈R)(hb:b∈R)(hab:a≠b)(s:St2 o a b):St3 (Go.Proofs.YthhpaedpnjdnbaaGreatDoor.round0 o) a b:=by
 have r:=h.r0
 refine ⟨h.st1 ha hb hab,?_,?_⟩
 ·rw [r.g a ha b hb hab,r.ep a ha]
  exact ((hearL_grows (h.tell a ha b hb hab).ep).now s.g).1
 ·rw [r.p a ha b hb hab,r.le b hb]
  exact ackL_now s.n (h.pi a ha b hb hab).p1 s.k
theorem OI.st4(h:OI R o)(ha:a∈R)(hb:b∈R)(hab:a≠b)(s:St3 o a b):St4 (Go.Proofs.YthhpaedpnjdnbaaGreatDoor.round0 o) a b:=by
 have r:=h.r0
 have hs:=h.send ha hb hab
 have hpi:=h.pi a ha b hb hab
 have h':=h.round0.pi a ha b hb hab
 rw [r.ep a ha,r.la a ha,r.it a ha,r.le b hb] at h'
 have hg:he (Go.Proofs.YthhpaedpnjdnbaaGreatDoor.round0 o) a b=hearL (he o a b) (hello (atS o.sp a) b::sendFrom (atS o.sp a) b (pe o a b).acked 0 (atS o.sp a).items):=by
  rw [r.g a ha b hb hab,←hs,←s.t];rfl
 obtain ⟨f1,f2⟩:=hpi.full (s:=atS o.sp a) (to:=b) (acked:=(pe o a b).acked) rfl rfl rfl hpi.g1.2 (hpi.p3 s.p) hg h'.g2 h'.g4
 refine ⟨h.st1 ha hb hab,by rw [r.ep a ha];exact f1,by rw [r.la a ha];exact f2,?_,?_⟩
 ·rw [r.p a ha b hb hab,r.le b hb]
  have q:=ackL_le (a:=atS o.sp a) (l:=o.fl.filter (isAck a b)) hpi.p1 fun x hx=>(h.ack a ha b hb hab x hx).2.pe
  have:=s.p
  omega
 ·rw [h.acks0 ha hb hab,r.le b hb,r.g a ha b hb hab]
  exact ansL_last (l:=tells o a b) (by rw [s.t,hs];simp)
theorem OI.st5(h:OI R o)(ha:a∈R)(hb:b∈R)(hab:a≠b)(s:St4 o a b):St5 (Go.Proofs.YthhpaedpnjdnbaaGreatDoor.round0 o) a b:=by
 have r:=h.r0
 have hpi:=h.pi a ha b hb hab
 have hA:=h.ack a ha b hb hab
 obtain ⟨i,hi⟩:=s.a
 have hp:pe (Go.Proofs.YthhpaedpnjdnbaaGreatDoor.round0 o) a b=ackP (atS o.sp a) (ansOf a b (le o b) (he o a b)) (ackL (atS o.sp a) (pe o a b) i):=by
  rw [r.p a ha b hb hab]
  show ackL _ _ (acks o a b)=_
  rw [hi,ackL_append];rfl
 rw [hi] at hA
 have h1:=hpi.acks (a:=atS o.sp a) rfl rfl (l:=i) fun x hx=>hA x (by simp [hx])
 have hd:=h1.done_ack (a:=atS o.sp a) (x:=ansOf a b (le o b) (he o a b)) rfl rfl ⟨s.g,s.v⟩ s.g s.v rfl
 rw [←hp] at hd
 have h2:=h1.ack (a:=atS o.sp a) rfl rfl (hA (ansOf a b (le o b) (he o a b)) (by simp)).2 hpi.g2
 rw [←hp] at h2
 have hh:=hd.hears h2 (h.tell a ha b hb hab)
 unfold St5
 rw [r.ep a ha,r.la a ha,r.le b hb,r.g a ha b hb hab]
 rw [show hearL (he o a b) (o.fl.filter (isTell a b))=he o a b from hh]
 exact hd
end
section
variable {R : List Int} {sp : List Spk} {ls : List Lsn}
structure SetS (R:List Int) (sp:List Spk) (ls:List Lsn) (r:Int) (z:Spk):Prop where
  net:NetOk R (sp.set (posS sp r) z) ls
  s:∀a∈R,atS (sp.set (posS sp r) z) a=if a=r then z else atS sp a
  l:∀b,atL (sp.set (posS sp r) z) ls b=atL sp ls b
  pos:∀b,posS (sp.set (posS sp r) z) b=posS sp b
theorem NetOk.setS(h:NetOk R sp ls){r:Int}(hr:r∈R){z:Spk}(hz:z.router=r)(hok:spOk R z):SetS R sp ls r z:=by
 obtain ⟨h1,h2⟩:=h.s hr
 have hr':∃w∈sp,w.router=r:=⟨_,h1,h2⟩
 have hkeys:(sp.set (posS sp r) z).map Spk.router=sp.map Spk.router:=keys_set (key:=Spk.router) h.asc hr' hz
 have hpos:∀b,posS (sp.set (posS sp r) z) b=posS sp b:=fun b=>posK_keys (key:=Spk.router) (key':=Spk.router) hkeys b
 refine ⟨⟨h.len,hkeys.trans h.spr,h.lsr,sort_setK (key:=Spk.router) h.asc hr' hz,fun w hw=>?_,h.lso⟩,fun a ha =>
   getK_set (key:=Spk.router) (d:=spk0) h.asc hr' hz (by rw [←h.spr] at ha;exact mem_keys.mp ha),fun b=>by unfold atL;rw [hpos],hpos⟩
 rcases (mem_setK (key:=Spk.router) h.asc hr' w).mp hw with rfl|⟨hw,_⟩
 ·exact hok
 ·exact h.spo w hw
theorem NetOk.setL(h:NetOk R sp ls){r:Int}(hr:r∈R){z:Lsn}(hz:z.router=r)(hok:lnOk R z) :
  NetOk R sp (ls.set (posS sp r) z)∧∀b∈R,atL sp (ls.set (posS sp r) z) b=if b=r then z else atL sp ls b:=by
 obtain ⟨h1,h2⟩:=h.l hr
 have hr':∃w∈ls,w.router=r:=⟨_,h1,h2⟩
 have hpos:=h.posL r
 have hkeys:(ls.set (posS sp r) z).map Lsn.router=ls.map Lsn.router:=by rw [hpos];exact keys_set (key:=Lsn.router) h.ascL hr' hz
 refine ⟨⟨h.len,h.spr,hkeys.trans h.lsr,h.asc,h.spo,fun w hw=>?_⟩,fun b hb=>?_⟩
 ·rw [hpos] at hw
  rcases (mem_setK (key:=Lsn.router) h.ascL hr' w).mp hw with rfl|⟨hw,_⟩
  ·exact hok
  ·exact h.lso w hw
 ·have e:=getK_set (key:=Lsn.router) (d:=lsn0) h.ascL hr' hz (q:=b) (by rw [←h.lsr] at hb;exact mem_keys.mp hb)
  rw [←hpos] at e
  have e2:posS sp b=posK Lsn.router (ls.set (posS sp r) z) b:=posK_keys (key:=Spk.router) (key':=Lsn.router) (h.spr.trans (h.lsr.symm.trans hkeys.symm)) b
  unfold atL
  rw [e2,e,←e2,h.posL b]
end
def changeV(o:Ovl)(r:Int)(w:List Wnt):Ovl×Int:=
 if ¬ovlOk o then (ovl0,1) else if r ∉ rtrs o.sp then (ovl0,4) else if wErr false w≠0 then (ovl0,wErr false w)
 else if (changes (wantsOf (atS o.sp r).items) w).2≠0 then (ovl0,(changes (wantsOf (atS o.sp r).items) w).2)
 else if (change (atS o.sp r) (changes (wantsOf (atS o.sp r).items) w).1).2≠0 then (ovl0,(change (atS o.sp r) (changes (wantsOf (atS o.sp r).items) w).1).2)
 else (⟨o.sp.set (posS o.sp r) (change (atS o.sp r) (changes (wantsOf (atS o.sp r).items) w).1).1,o.ls,o.fl⟩,0)
def restartV(o:Ovl)(r:Int)(w:List Wnt):Ovl×Int:=
 if ¬ovlOk o then (ovl0,1) else if r ∉ rtrs o.sp then (ovl0,4)
 else if (restart (atS o.sp r) w).2≠0 then (ovl0,(restart (atS o.sp r) w).2)
 else if (atL o.sp o.ls r).epoch=1000000 then (ovl0,3)
 else (⟨o.sp.set (posS o.sp r) (restart (atS o.sp r) w).1,o.ls.set (posS o.sp r) ⟨r,(atL o.sp o.ls r).epoch+1,[]⟩,o.fl⟩,0)
structure Chgd (R:List Int) (o o':Ovl) (r:Int) (w:List Wnt):Prop where
  oi:OI R o'
  other:∀a∈R,a≠r→atS o'.sp a=atS o.sp a
  l:∀b,atL o'.sp o'.ls b=atL o.sp o.ls b
  ep:ep o' r=ep o r
  peers:(atS o'.sp r).peers=(atS o.sp r).peers
  fl:o'.fl=o.fl
  chg:ChgTo (atS o.sp r) (atS o'.sp r) w (changes (wantsOf (atS o.sp r).items) w).1
  val:atS o'.sp r=(change (atS o.sp r) (changes (wantsOf (atS o.sp r).items) w).1).1
  cz:(change (atS o.sp r) (changes (wantsOf (atS o.sp r).items) w).1).2=0
theorem changeV_ok{R:List Int}{o:Ovl}(h:OI R o){r:Int}{w:List Wnt}(hc:(changeV o r w).2=0):r∈R∧Chgd R o (changeV o r w).1 r w:=by
 have e0:rtrs o.sp=R:=h.net.spr
 unfold changeV at hc ⊢
 rw [if_neg (not_not_intro h.ok)] at hc ⊢
 by_cases h1:r ∉ rtrs o.sp
 ·rw [if_pos h1] at hc;simp at hc
 rw [if_neg h1] at hc ⊢
 by_cases h2:wErr false w≠0
 ·rw [if_pos h2] at hc;exact absurd hc h2
 rw [if_neg h2] at hc ⊢
 by_cases h3:(changes (wantsOf (atS o.sp r).items) w).2≠0
 ·rw [if_pos h3] at hc;exact absurd hc h3
 rw [if_neg h3] at hc ⊢
 by_cases h4:(change (atS o.sp r) (changes (wantsOf (atS o.sp r).items) w).1).2≠0
 ·rw [if_pos h4] at hc;exact absurd hc h4
 rw [if_neg h4]
 have hr:r∈R:=by rw [←e0];exact Classical.not_not.mp h1
 have h3:=Classical.not_not.mp h3
 have h4:=Classical.not_not.mp h4
 obtain ⟨q1,q2⟩:=h.net.s hr
 obtain ⟨k1,k2⟩:=h.net.spo _ q1
 have hchg:=change_to k1 h3 h4
 obtain ⟨_,f2,f3,f4⟩:=change_val h4
 have hok:=change_spkOk h4
 obtain ⟨c1,c2,c3,c4⟩:=chg_ok k1.2.2.2.1 k1.2.2.1.1 (chgOk_of f2)
 generalize hz:(change (atS o.sp r) (changes (wantsOf (atS o.sp r).items) w).1).1=z at *
 have hz1:z=⟨(atS o.sp r).router,(atS o.sp r).epoch,((changes (wantsOf (atS o.sp r).items) w).1.foldl chg1 ((atS o.sp r).last,(atS o.sp r).items)).1,((changes (wantsOf (atS o.sp r).items) w).1.foldl chg1 ((atS o.sp r).last,(atS o.sp r).items)).2,(atS o.sp r).peers⟩:=by
  rw [←hz,f4]
 have s:=h.net.setS hr (z:=z) (by rw [hz1];exact q2) ⟨hok,by rw [hz1];exact k2⟩
 have hself:=s.s r hr
 rw [if_pos rfl] at hself
 have hoth:∀a∈R,a≠r→atS (o.sp.set (posS o.sp r) z) a=atS o.sp a:=fun a ha hne=>by rw [s.s a ha,if_neg hne]
 refine ⟨hr,⟨⟨s.net,h.fl,fun a ha b hb hab=>?_,fun a ha b hb hab=>?_,fun a ha b hb hab=>?_⟩,hoth,s.l,?_,?_,rfl,?_,hself.trans hz.symm,h4⟩⟩
 ·have hp:=h.pi a ha b hb hab
  unfold ep la it pe le he at *
  simp only [s.l]
  by_cases e:a=r
  ·subst e
   rw [hself,hz1]
   have hl:LastOk _ _:=LastOk.chg (c:=(changes (wantsOf (atS o.sp a).items) w).1) hp.last
   exact hp.change c2 c4 c1 hl
  ·rw [hoth a ha e];exact hp
 ·have ht:=h.tell a ha b hb hab
  unfold ep la it at *
  by_cases e:a=r
  ·subst e
   simp only
   rw [hself,hz1]
   exact fun x hx=>⟨(ht x hx).1,(ht x hx).2.1,(ht x hx).2.2.change c2⟩
  ·simp only
   rw [hoth a ha e];exact ht
 ·have hA:=h.ack a ha b hb hab
  unfold ep le he at *
  simp only [s.l]
  by_cases e:a=r
  ·subst e
   rw [hself,hz1];exact hA
  ·rw [hoth a ha e];exact hA
 ·show (atS (o.sp.set (posS o.sp r) z) r).epoch=_
  rw [hself,hz1];rfl
 ·show (atS (o.sp.set (posS o.sp r) z) r).peers=_
  rw [hself,hz1]
 ·show ChgTo _ (atS (o.sp.set (posS o.sp r) z) r) _ _
  rw [hself];exact hchg
structure Rstd (R:List Int) (o o':Ovl) (r:Int) (w:List Wnt):Prop where
  oi:OI R o'
  other:∀a∈R,a≠r→atS o'.sp a=atS o.sp a
  l:∀b∈R,b≠r→atL o'.sp o'.ls b=atL o.sp o.ls b
  lr:atL o'.sp o'.ls r=⟨r,le o r+1,[]⟩
  val:atS o'.sp r=⟨r,ep o r+1,w.length,w.mapIdx wItm,(atS o.sp r).peers.map fun p=>⟨p.router,0,0⟩⟩
  fl:o'.fl=o.fl
  w:wErr false w=0
theorem restartV_ok{R:List Int}{o:Ovl}(h:OI R o){r:Int}{w:List Wnt}(hc:(restartV o r w).2=0):r∈R∧Rstd R o (restartV o r w).1 r w:=by
 have e0:rtrs o.sp=R:=h.net.spr
 unfold restartV at hc ⊢
 rw [if_neg (not_not_intro h.ok)] at hc ⊢
 by_cases h1:r ∉ rtrs o.sp
 ·rw [if_pos h1] at hc;simp at hc
 rw [if_neg h1] at hc ⊢
 by_cases h3:(restart (atS o.sp r) w).2≠0
 ·rw [if_pos h3] at hc;exact absurd hc h3
 rw [if_neg h3] at hc ⊢
 by_cases h4:(atL o.sp o.ls r).epoch=1000000
 ·rw [if_pos h4] at hc;simp at hc
 rw [if_neg h4]
 have hr:r∈R:=by rw [←e0];exact Classical.not_not.mp h1
 have h3:=Classical.not_not.mp h3
 obtain ⟨q1,q2⟩:=h.net.s hr
 obtain ⟨k1,k2⟩:=h.net.spo _ q1
 obtain ⟨m1,m2⟩:=h.net.l hr
 obtain ⟨n1,n2⟩:=h.net.lso _ m1
 obtain ⟨_,f2,f3,f4⟩:=restart_val h3
 have hok:=restart_spkOk h3
 generalize hz:(restart (atS o.sp r) w).1=z at *
 have hz1:z=⟨r,(atS o.sp r).epoch+1,w.length,w.mapIdx wItm,(atS o.sp r).peers.map fun p=>⟨p.router,0,0⟩⟩:=by
  rw [←hz,f4,q2]
 have s:=h.net.setS hr (z:=z) (by rw [hz1]) ⟨hok,by rw [hz1];rw [q2] at k2;exact (List.map_map ..).trans k2⟩
 have t:=s.net.setL hr (z:=⟨r,(atL o.sp o.ls r).epoch+1,[]⟩) rfl ⟨⟨by have:=n1.1;rw [m2] at this;exact this,⟨by have:=n1.2.1;simp only;omega,by have:=n1.2.1;simp only;omega⟩,by simp,by simp,by simp⟩,by simp⟩
 rw [s.pos r] at t
 obtain ⟨t1,t2⟩:=t
 have hself:=s.s r hr
 rw [if_pos rfl] at hself
 have hoth:∀a∈R,a≠r→atS (o.sp.set (posS o.sp r) z) a=atS o.sp a:=fun a ha hne=>by rw [s.s a ha,if_neg hne]
 have hlr:=t2 r hr
 rw [if_pos rfl] at hlr
 have hlo:∀b∈R,b≠r→atL (o.sp.set (posS o.sp r) z) (o.ls.set (posS o.sp r) ⟨r,(atL o.sp o.ls r).epoch+1,[]⟩) b=atL o.sp o.ls b:=fun b hb hne=>by rw [t2 b hb,if_neg hne,s.l]
 refine ⟨hr,⟨⟨t1,h.fl,fun a ha b hb hab=>?_,fun a ha b hb hab=>?_,fun a ha b hb hab=>?_⟩,hoth,hlo,hlr,hself.trans hz1,rfl,f2⟩⟩
 ·have hp:=h.pi a ha b hb hab
  unfold ep la it pe le he at *
  simp only
  by_cases e:a=r
  ·subst e
   rw [hlo b hb (Ne.symm hab),hself,hz1]
   simp only
   have hpb:pOf ((atS o.sp a).peers.map fun p=>(⟨p.router,0,0⟩:Per)) b=⟨b,0,0⟩:=by
    obtain ⟨z,hz,e⟩:=h.net.peer ha hb hab
    have ho:((atS o.sp a).peers.map fun p=>(⟨p.router,0,0⟩:Per)).Pairwise fun x y=>x.router<y.router:=by
     rw [List.pairwise_map];exact k1.2.2.2.2.2.2
    have:=pOf_mem ho (z:=⟨b,0,0⟩) (List.mem_map.mpr ⟨z,hz,by rw [e]⟩)
    exact this
   rw [hpb]
   have hw:=(wErr_zero.mp f2)
   exact hp.restart (by omega) (restart_items (chgOk_of f2) hw.2.2.2.2) (LastOk.restart w) b (by have:=(h.net.lso _ (h.net.l hb).1).1.2.1;omega)
  ·rw [hoth a ha e]
   by_cases e2:b=r
   ·subst e2
    rw [hlr]
    have hg:gOf ([]:List Hrd) a=⟨a,0,0,[]⟩:=gOf_no List.Pairwise.nil (by simp)
    simp only
    rw [hg]
    exact hp.lapse a
   ·rw [hlo b hb e2];exact hp
 ·have ht:=h.tell a ha b hb hab
  unfold ep la it at *
  simp only
  by_cases e:a=r
  ·subst e
   rw [hself,hz1]
   exact fun x hx=>⟨(ht x hx).1,(ht x hx).2.1,(ht x hx).2.2.restart⟩
  ·rw [hoth a ha e];exact ht
 ·have hA:=h.ack a ha b hb hab
  unfold ep le he at *
  simp only
  by_cases e:a=r
  ·subst e
   rw [hlo b hb (Ne.symm hab),hself,hz1]
   exact fun x hx=>⟨(hA x hx).1,(hA x hx).2.restart⟩
  ·rw [hoth a ha e]
   by_cases e2:b=r
   ·subst e2
    rw [hlr]
    exact fun x hx=>⟨(hA x hx).1,(hA x hx).2.lapse⟩
   ·rw [hlo b hb e2];exact hA
def agreedP(o:Ovl):Prop:=ovlOk o∧∀a∈rtrs o.sp,∀b∈rtrs o.sp,a≠b→agree (atS o.sp a) (atL o.sp o.ls b)
def settledP(o:Ovl):Prop:=agreedP o∧∀a∈rtrs o.sp,∀b∈rtrs o.sp,a≠b→(pe o a b).epoch=le o b∧(pe o a b).acked=la o a
instance (s:Spk) (l:Lsn):Decidable (agree s l):=by unfold agree;exact inferInstance
instance (o:Ovl):Decidable (agreedP o):=by unfold agreedP;exact inferInstance
instance (o:Ovl):Decidable (settledP o):=by unfold settledP;exact inferInstance
theorem OI.rt{R:List Int}{o:Ovl}(h:OI R o):rtrs o.sp=R:=h.net.spr
theorem OI.agree{R:List Int}{o:Ovl}(h:OI R o){a b:Int}(ha:a∈R)(hb:b∈R)(hab:a≠b)(hg:(he o a b).epoch=ep o a∧(he o a b).ver=la o a) :
  Go.Proofs.YthhpaedpnjdnbaaGreatDoor.agree (atS o.sp a) (atL o.sp o.ls b):=by
 obtain ⟨q1,q2⟩:=h.net.s ha
 obtain ⟨m1,m2⟩:=h.net.l hb
 have hp:=h.pi a ha b hb hab
 unfold he ep la it pe le at *
 exact (Done.agree (q:=b) (h.net.spo _ q1).1 (h.net.lso _ m1).1 (by rw [q2];exact hp) (by rw [q2];exact hg)).1
theorem agree_g{a:Spk}{l:Lsn}(h:agree a l):(gOf l.heard a.router).epoch=a.epoch∧(gOf l.heard a.router).ver=a.last∧(gOf l.heard a.router).items=a.items:=by
 obtain ⟨h1,h2,h3,h4,h5,h6⟩:=h
 have hat:gOf l.heard a.router=atH l.heard a.router:=by
  unfold atH gOf base
  rw [if_pos h3]
 rw [hat]
 exact ⟨h4,h5,h6⟩
theorem OI.settled{R:List Int}{o:Ovl}(h:OI R o):settledP o↔∀a∈R,∀b∈R,a≠b→St5 o a b:=by
 unfold settledP agreedP
 rw [h.rt]
 constructor
 ·rintro ⟨⟨_,h1⟩,h2⟩ a ha b hb hab
  obtain ⟨g1,g2,_⟩:=agree_g (h1 a ha b hb hab)
  rw [(h.net.s ha).2] at g1 g2
  exact ⟨g1,g2,(h2 a ha b hb hab).1,(h2 a ha b hb hab).2⟩
 ·intro hs
  exact ⟨⟨h.ok,fun a ha b hb hab=>h.agree ha hb hab ⟨(hs a ha b hb hab).ge,(hs a ha b hb hab).gv⟩⟩,fun a ha b hb hab=>⟨(hs a ha b hb hab).pe,(hs a ha b hb hab).pa⟩⟩
theorem OI.quiet{R:List Int}{o:Ovl}(h:OI R o):agreedP (Go.Proofs.YthhpaedpnjdnbaaGreatDoor.round0 (Go.Proofs.YthhpaedpnjdnbaaGreatDoor.round0 (Go.Proofs.YthhpaedpnjdnbaaGreatDoor.round0 (Go.Proofs.YthhpaedpnjdnbaaGreatDoor.round0 o))))∧settledP (Go.Proofs.YthhpaedpnjdnbaaGreatDoor.round0 (Go.Proofs.YthhpaedpnjdnbaaGreatDoor.round0 (Go.Proofs.YthhpaedpnjdnbaaGreatDoor.round0 (Go.Proofs.YthhpaedpnjdnbaaGreatDoor.round0 (Go.Proofs.YthhpaedpnjdnbaaGreatDoor.round0 o))))):=by
 have h1:=h.round0
 have h2:=h1.round0
 have h3:=h2.round0
 have h4:=h3.round0
 have h5:=h4.round0
 have s4:∀a∈R,∀b∈R,a≠b→St4 (Go.Proofs.YthhpaedpnjdnbaaGreatDoor.round0 (Go.Proofs.YthhpaedpnjdnbaaGreatDoor.round0 (Go.Proofs.YthhpaedpnjdnbaaGreatDoor.round0 (Go.Proofs.YthhpaedpnjdnbaaGreatDoor.round0 o)))) a b:=fun a ha b hb hab =>
  h3.st4 ha hb hab (h2.st3 ha hb hab (h1.st2 ha hb hab (h.st1 ha hb hab)))
 refine ⟨⟨h4.ok,fun a ha b hb hab=>?_⟩,h5.settled.mpr fun a ha b hb hab=>h4.st5 ha hb hab (s4 a ha b hb hab)⟩
 rw [h4.rt] at ha hb
 exact h4.agree ha hb hab ⟨(s4 a ha b hb hab).g,(s4 a ha b hb hab).v⟩
def knownV(o:Ovl)(at_ of:Int):List Wnt×Int:=
 if ¬ovlOk o then ([],1) else if at_ ∉ rtrs o.sp∨of ∉ rtrs o.sp then ([],4)
 else if at_=of then (wantsOf (atS o.sp of).items,0) else (knownW (atL o.sp o.ls at_) of,0)
theorem knownV_agreed{R:List Int}{o:Ovl}(h:OI R o)(hs:agreedP o){a b:Int}(ha:a∈R)(hb:b∈R):knownV o b a=(wantsOf (atS o.sp a).items,0):=by
 unfold knownV
 rw [if_neg (not_not_intro h.ok),h.rt,if_neg (by simp [ha,hb])]
 by_cases e:b=a
 ·rw [if_pos e]
 ·rw [if_neg e]
  have q:=hs.2 a (by rw [h.rt];exact ha) b (by rw [h.rt];exact hb) (Ne.symm e)
  obtain ⟨h1,h2,h3,h4,h5,h6⟩:=q
  rw [(h.net.s ha).2] at h3 h4 h5 h6
  unfold knownW
  rw [if_pos ⟨h2,h3⟩,h6]
def okR(l:List Int):Prop:=l.length≤12∧(∀r∈l,1≤r∧r≤99)∧l.Pairwise (·<·)
instance (l:List Int):Decidable (okR l):=by unfold okR;exact inferInstance
def spkN(l:List Int)(r:Int):Spk:=⟨r,1,0,[],(l.filter fun x=>decide (x≠r)).map fun x=>⟨x,0,0⟩⟩
def lsnN(r:Int):Lsn:=⟨r,1,[]⟩
def netOf(l:List Int):Ovl:=⟨l.map (spkN l),l.map lsnN,[]⟩
def newN(l:List Int):Ovl×Int:=if okR l then (netOf l,0) else (ovl0,1)
section
variable {l : List Int}
theorem spkN_ok(h:okR l){r:Int}(hr:r∈l):spOk l (spkN l r):=by
 obtain ⟨h1,h2,h3⟩:=h
 have hl:(l.filter fun x=>decide (x≠r)).length≤12:=Nat.le_trans (List.length_filter_le _ _) h1
 refine ⟨⟨h2 r hr,⟨Int.le_refl 1,show (1:Int)≤1000000 by omega⟩,⟨Int.le_refl 0,show (0:Int)≤1000000 by omega⟩,⟨by simp [spkN],by simp [spkN],by simp [spkN]⟩,by simpa [spkN] using hl,fun p hp=>?_,?_⟩,?_⟩
 ·obtain ⟨x,hx,rfl⟩:=List.mem_map.mp hp
  rw [List.mem_filter] at hx
  exact ⟨h2 x hx.1,show ¬x=r by simpa using hx.2,⟨Int.le_refl 0,show (0:Int)≤1000000 by omega⟩,⟨Int.le_refl 0,Int.le_refl 0⟩⟩
 ·show ((l.filter fun x=>decide (x≠r)).map fun x=>(⟨x,0,0⟩:Per)).Pairwise _
  rw [List.pairwise_map];exact h3.filter _
 ·show (((l.filter fun x=>decide (x≠r)).map fun x=>(⟨x,0,0⟩:Per)).map Per.router)=_
  rw [List.map_map]
  show List.map (fun x=>x) _=_
  rw [List.map_id'']
  ·rfl
  ·intro x;rfl
theorem lsnN_ok(h:okR l){r:Int}(hr:r∈l):lnOk l (lsnN r):=
 ⟨⟨h.2.1 r hr,⟨Int.le_refl 1,show (1:Int)≤1000000 by omega⟩,by simp [lsnN],by simp [lsnN],by simp [lsnN]⟩,by simp [lsnN]⟩
theorem netOf_net(h:okR l):NetOk l (netOf l).sp (netOf l).ls:=by
 refine ⟨h.1,?_,?_,?_,fun s hs=>?_,fun s hs=>?_⟩
 ·show (l.map (spkN l)).map Spk.router=l
  rw [List.map_map]
  exact List.map_id'' (fun x=>rfl) l
 ·show (l.map lsnN).map Lsn.router=l
  rw [List.map_map]
  exact List.map_id'' (fun x=>rfl) l
 ·show (l.map (spkN l)).Pairwise _
  rw [List.pairwise_map];exact h.2.2
 ·obtain ⟨r,hr,rfl⟩:=List.mem_map.mp hs;exact spkN_ok h hr
 ·obtain ⟨r,hr,rfl⟩:=List.mem_map.mp hs;exact lsnN_ok h hr
theorem netOf_s(h:okR l){a:Int}(ha:a∈l):atS (netOf l).sp a=spkN l a:=by
 obtain ⟨h1,h2⟩:=(netOf_net h).s ha
 obtain ⟨r,hr,e⟩:=List.mem_map.mp h1
 rw [←e] at h2 ⊢
 have:r=a:=h2
 rw [this]
theorem netOf_l(h:okR l){a:Int}(ha:a∈l):atL (netOf l).sp (netOf l).ls a=lsnN a:=by
 obtain ⟨h1,h2⟩:=(netOf_net h).l ha
 obtain ⟨r,hr,e⟩:=List.mem_map.mp h1
 rw [←e] at h2 ⊢
 have:r=a:=h2
 rw [this]
theorem OI.new(h:okR l):OI l (netOf l):=by
  refine ⟨netOf_net h,by simp [netOf],fun a ha b hb hab=>?_,fun a ha b hb hab=>?_,fun a ha b hb hab=>?_⟩
  · unfold ep la it pe le he
    rw [netOf_s h ha,netOf_l h hb]
    have e1:gOf (lsnN b).heard a=⟨a,0,0,[]⟩:=gOf_no List.Pairwise.nil (by simp [lsnN])
    have e2:pOf (spkN l a).peers b=⟨b,0,0⟩:=by
      have ho:(spkN l a).peers.Pairwise fun x y=>x.router<y.router:=(spkN_ok h ha).1.2.2.2.2.2.2
      exact pOf_mem ho (z:=⟨b,0,0⟩) (List.mem_map.mpr ⟨b,List.mem_filter.mpr ⟨hb,by simpa using Ne.symm hab⟩,rfl⟩)
    rw [e1,e2]
    have ok0:itmsOk 0 []:=⟨by simp,by simp,by simp⟩
    exact { e1:=Int.le_refl _,n0:=Int.le_refl _,io:=ok0,last:=LastOk.nil,p1:=show (0:Int)≤1 by omega,p2:=Int.le_refl _,p3:=fun _=>.inl rfl,g1:=⟨Int.le_refl _,show (0:Int)≤1 by omega⟩,g2:=Int.le_refl _,g3:=ok0,g4:=fun q=>absurd (show (0:Int)=1 from q) (by decide) }
  · intro x hx
    simp [tells,netOf] at hx
  · intro x hx
    simp [acks,netOf] at hx
end
theorem arr1_len{s:List Sig×List Sig}{f:Fau}:(arr1 s f).1.length+(arr1 s f).2.length≤s.1.length+s.2.length+1:=by
 obtain ⟨l,late⟩:=s
 unfold arr1
 split
 ·simp only;omega
 rename_i c
 simp only at c ⊢
 generalize hn:f.pos.toNat=n
 have hn2:n<l.length:=by omega
 have hm:min n l.length=n:=by omega
 unfold arrK
 repeat' split
 all_goals simp only [List.length_append,List.length_take,List.length_drop,List.length_cons,List.length_nil,List.length_set,hm]
 all_goals omega
theorem arrs_len:∀{f:List Fau} {s:List Sig×List Sig},(f.foldl arr1 s).1.length+(f.foldl arr1 s).2.length≤s.1.length+s.2.length+f.length
 | [],s=>by simp
 | f::fs,s=>by
  have h1:=arr1_len (s:=s) (f:=f)
  have h2:=arrs_len (f:=fs) (s:=arr1 s f)
  rw [List.foldl_cons,List.length_cons];omega
theorem arr_len{l:List Sig}{f:List Fau}:(arr l f).1.length+(arr l f).2.length≤l.length+f.length:=by
 have:=arrs_len (f:=f) (s:=(l,[]))
 simpa [arr] using this
theorem deliver_len{s:Rnd}{x:Sig}:(deliver s x).2.length≤s.2.length+1:=by
 unfold deliver
 repeat' split
 all_goals simp
theorem delivers_len:∀{l:List Sig} {s:Rnd},(l.foldl deliver s).2.length≤s.2.length+l.length
 | [],s=>by simp
 | x::l,s=>by
  have h1:=deliver_len (s:=s) (x:=x)
  have h2:=delivers_len (l:=l) (s:=deliver s x)
  rw [List.foldl_cons,List.length_cons];omega
theorem flat_len{α β:Type}{f:α→List β}{k:Nat}:∀{l:List α},(∀x∈l,(f x).length≤k)→(l.flatMap f).length≤l.length * k
 | [],_=>by simp
 | x::l,h=>by
  have h1:=h x (by simp)
  have h2:=flat_len (l:=l) fun y hy=>h y (by simp [hy])
  rw [List.flatMap_cons,List.length_append,List.length_cons,Nat.succ_mul];omega
theorem sendFrom_le{s:Spk}{to acked:Int}:∀{r:List Itm} {prev:Int},(sendFrom s to acked prev r).length≤r.length
 | [],_=>by simp [sendFrom]
 | y::r,prev=>by
  have:=sendFrom_le (s:=s) (to:=to) (acked:=acked) (r:=r) (prev:=y.ver)
  rw [sendFrom]
  split<;>simp only [List.length_append,List.length_cons,List.length_nil]<;>omega
theorem ver_len{l:List Itm}{n:Int}(h:itmsOk n l):l.length≤99:=by
 have hn:(l.map Itm.grp).Nodup:=h.2.1
 have:=nodup_sub hn (R:=(List.range 99).map fun i:Nat=>(i:Int)+1) fun x hx=>by
  obtain ⟨y,hy,rfl⟩:=List.mem_map.mp hx
  have:=(h.1 y hy).2.1
  rw [List.mem_map]
  exact ⟨(y.grp-1).toNat,by rw [List.mem_range];omega,by omega⟩
 simpa using this
theorem send_le{s:Spk}{to:Int}:(send s to).1.length≤100:=by
 unfold send
 split
 ·simp
 split
 ·simp
 rename_i h _
 have:=ver_len (Classical.not_not.mp h).2.2.2.1
 simp only [List.length_cons]
 have h2:=sendFrom_le (s:=s) (to:=to) (acked:=(pOf s.peers to).acked) (r:=s.items) (prev:=0)
 have h3:∀ak,(sendFrom s to ak 0 s.items).length≤s.items.length:=fun _=>sendFrom_le
 have:=h3 (s.peers.getD (posP s.peers to) ⟨0,0,0⟩).acked
 omega
theorem sends_len{R:List Int}{sp:List Spk}{ls:List Lsn}(h:NetOk R sp ls):(sends sp).length≤14400:=by
 have h1:(sends sp).length≤sp.length * 1200:=flat_len fun s hs=>by
  have:(sends1 s).length≤s.peers.length * 100:=flat_len fun p _=>send_le
  have:=(h.spo s hs).1.2.2.2.2.1
  omega
 have h2:sp.length=R.length:=by rw [←h.spr,List.length_map]
 have:=h.len
 omega
section
variable {R : List Int} {o : Ovl}
theorem OI.roundN_len(h:OI R o){now late:List Sig}(h1:∀x∈now,x∈o.fl)(h2:∀x∈late,x∈o.fl):(roundN o now late).fl.length≤now.length+late.length+14400:=by
 have hn:=(h.round h1 h2).1.net
 have hs:=sends_len hn
 have hd:=delivers_len (l:=now) (s:=((o.sp,o.ls),late))
 unfold roundN at hs ⊢
 simp only [List.length_append] at *
 omega
structure RoundO (R:List Int) (o o':Ovl) (f:List Fau):Prop where
  oi:OI R o'
  len:o'.fl.length≤o.fl.length+f.length+14400
  val:o'=roundN o (arr o.fl f).1 (arr o.fl f).2
  now:∀x∈(arr o.fl f).1,x∈o.fl
  late:∀x∈(arr o.fl f).2,x∈o.fl
theorem OI.roundO(h:OI R o)(f:List Fau):(roundO o f).2=0∧RoundO R o (roundO o f).1 f:=by
 unfold Go.Proofs.YthhpaedpnjdnbaaGreatDoor.roundO
 rw [if_neg (not_not_intro h.ok)]
 obtain ⟨h1,h2⟩:=arr_mem (P:=fun x=>x∈o.fl) (l:=o.fl) (f:=f) fun x hx=>hx
 refine ⟨rfl,(h.round h1 h2).1,?_,rfl,h1,h2⟩
 have:=h.roundN_len h1 h2
 have:=arr_len (l:=o.fl) (f:=f)
 simp only;omega
theorem OI.roundO_nil(h:OI R o):Go.Proofs.YthhpaedpnjdnbaaGreatDoor.roundO o []=(Go.Proofs.YthhpaedpnjdnbaaGreatDoor.round0 o,0):=by
 unfold Go.Proofs.YthhpaedpnjdnbaaGreatDoor.roundO
 rw [if_neg (not_not_intro h.ok)];rfl
end
def faultsL(L:List Int)(n:Int):Nat→List Fau→Nat→List Fau×Nat
 | 0,out,p=>(out,p)
 | k+1,out,p=>faultsL L n k (out++[⟨rng L p 0 5,Mod (rawV L (rawP L p)) (W (n+2))⟩]) (rawP L (rawP L p))
def faultsT(L:List Int)(n:Int)(p:Nat):List Fau×Nat:=faultsL L n (Mod (rawV L p) 4).toNat [] (rawP L p)
def heavyL(L:List Int):Nat→List Fau→Nat→List Fau×Nat
 | 0,out,p=>(out,p)
 | k+1,out,p=>if 0<Mod (rawV L p) 3 then heavyL L k (out++[⟨pickI [1,1,2,3,4] (rawV L (rawP L p)),k⟩]) (rawP L (rawP L p)) else heavyL L k out (rawP L p)
def heavyT(L:List Int)(n:Int)(p:Nat):List Fau×Nat:=heavyL L n.toNat [] p
theorem faultsL_len{L:List Int}{n:Int}:∀{k:Nat} {out:List Fau} {p:Nat},(faultsL L n k out p).1.length=out.length+k
 | 0,out,p=>rfl
 | k+1,out,p=>by rw [faultsL,faultsL_len];simp;omega
theorem faultsT_len{L:List Int}{n:Int}{p:Nat}:(faultsT L n p).1.length≤3:=by
 unfold faultsT
 rw [faultsL_len]
 have:=Mod_range (x:=rawV L p) (n:=4) (by omega)
 simp only [List.length_nil];omega
theorem heavyL_len{L:List Int}:∀{k:Nat} {out:List Fau} {p:Nat},(heavyL L k out p).1.length≤out.length+k
 | 0,out,p=>Nat.le_refl _
 | k+1,out,p=>by
  rw [heavyL]
  split
  ·have:=heavyL_len (L:=L) (k:=k) (out:=out++[⟨pickI [1,1,2,3,4] (rawV L (rawP L p)),k⟩]) (p:=rawP L (rawP L p))
   simp only [List.length_append,List.length_singleton] at this;omega
  ·have:=heavyL_len (L:=L) (k:=k) (out:=out) (p:=rawP L p)
   omega
theorem heavyT_len{L:List Int}{n:Int}{p:Nat}:(heavyT L n p).1.length≤n.toNat:=by
 have:=heavyL_len (L:=L) (k:=n.toNat) (out:=[]) (p:=p)
 simpa [heavyT] using this
def orO(o:Ovl)(x:Ovl×Int):Ovl:=if x.2≠0 then o else x.1
def actT(L:List Int)(p:Nat)(o:Ovl):Ovl×Nat:=
 if Mod (rawV L (rawP L p)) 6=0∨Mod (rawV L (rawP L p)) 6=1 then
  (orO o (changeV o (o.sp.getD (Mod (rawV L p) o.sp.length).toNat spk0).router (wantsT L (rawP L (rawP L p))).1),(wantsT L (rawP L (rawP L p))).2)
 else if Mod (rawV L (rawP L p)) 6=2 then
  (orO o (restartV o (o.sp.getD (Mod (rawV L p) o.sp.length).toNat spk0).router (wantsT L (rawP L (rawP L p))).1),(wantsT L (rawP L (rawP L p))).2)
 else if Mod (rawV L (rawP L p)) 6=3 then
  (orO o (roundO o (heavyT L (min o.fl.length 40) (rawP L (rawP L p))).1),(heavyT L (min o.fl.length 40) (rawP L (rawP L p))).2)
 else (orO o (roundO o (faultsT L o.fl.length (rawP L (rawP L p))).1),(faultsT L o.fl.length (rawP L (rawP L p))).2)
section
variable {R : List Int} {o : Ovl} {L : List Int}
end
theorem wants_nil:wantsOf []=[]:=by decide +kernel
theorem told_restart{w:List Wnt}(h:w.Pairwise fun x y=>x.grp<y.grp)(g:Int):told (w.mapIdx wItm) g=find2 w g:=by
 have hn:((w.mapIdx wItm).map Itm.grp).Nodup:=by
  have e:(w.mapIdx wItm).map Itm.grp=w.map Wnt.grp:=by
   refine List.ext_getElem (by simp) fun i h1 h2=>?_
   simp [wItm]
  rw [e,List.Nodup,List.pairwise_map]
  exact h.imp fun q=>by omega
 by_cases hg:∃x∈w,x.grp=g
 ·obtain ⟨x,hx,rfl⟩:=hg
  obtain ⟨i,hi,e⟩:=List.getElem_of_mem hx
  have hm:wItm i x∈w.mapIdx wItm:=List.mem_mapIdx.mpr ⟨i,hi,by rw [e]⟩
  have:=told_in hn hm
  unfold find2
  rw [findW_in h hx]
  exact this
 ·have h1:told (w.mapIdx wItm) g=(1,[]):=told_no fun x hx=>by
   obtain ⟨i,hi,rfl⟩:=List.mem_mapIdx.mp hx
   exact fun e=>hg ⟨w[i],List.getElem_mem hi,e⟩
  have h2:findW w g=⟨1,[]⟩:=findW_none fun x hx e=>hg ⟨x,hx,e⟩
  unfold find2
  rw [h1,h2]
theorem wants_restart{w:List Wnt}(h:wErr false w=0):wantsOf (w.mapIdx wItm)=w:=by
 have hw:=wErr_zero.mp h
 have ho:=restart_items (chgOk_of h) hw.2.2.2.2
 have h1:itmsOk 1000000 (w.mapIdx wItm):=⟨fun x hx=>by
  obtain ⟨⟨a,b⟩,c,d⟩:=ho.1 x hx
  have:=hw.1
  exact ⟨⟨a,by omega⟩,c,d⟩,ho.2⟩
 unfold wantsOf
 rw [if_pos h1]
 conv=>rhs;rw [wants_from h]
 exact fromF_congr fun i _ _=>told_restart hw.2.2.2.2 i
def upW(lw:Int→List Wnt)(r:Int)(w:List Wnt)(a:Int):List Wnt:=if a=r then w else lw a
structure LW (R:List Int) (o:Ovl) (k:Int) (lw:Int→List Wnt):Prop where
  oi:OI R o
  wa:∀a∈R,wantsOf (it o a)=lw a
  wk:∀a∈R,WOk 7 (lw a)
  bl:∀a∈R,la o a≤6 * k
  be:∀a∈R,ep o a≤k+1
  bq:∀a∈R,le o a≤k+1
section
variable {R : List Int} {o : Ovl} {k : Int} {lw : Int → List Wnt} {r : Int} {w : List Wnt}
theorem LW.change(h:LW R o k lw)(hr:r∈R)(hw:WOk 7 w)(hk:0≤k∧k≤1000):(changeV o r w).2=0∧LW R (changeV o r w).1 (k+1) (upW lw r w):=by
 obtain ⟨q1,q2⟩:=h.oi.net.s hr
 obtain ⟨k1,k2⟩:=h.oi.net.spo _ q1
 have ew:wantsOf (atS o.sp r).items=lw r:=h.wa r hr
 obtain ⟨c1,c2,c3⟩:=changes_ok (h.wk r hr) hw
 rw [←ew] at c1 c2 c3
 have hl:(atS o.sp r).last≤6 * k:=h.bl r hr
 have b:=(chg_ok k1.2.2.2.1 k1.2.2.1.1 (chgOk_of c2)).2.2.1
 have c4:(Go.Proofs.YthhpaedpnjdnbaaGreatDoor.change (atS o.sp r) (changes (wantsOf (atS o.sp r).items) w).1).2=0:=by
  unfold Go.Proofs.YthhpaedpnjdnbaaGreatDoor.change
  rw [if_neg (not_not_intro k1),if_neg (not_not_intro c2),if_neg (by omega)]
 have hz:(changeV o r w).2=0:=by
  unfold changeV
  rw [if_neg (not_not_intro h.oi.ok),if_neg (by rw [h.oi.rt];exact not_not_intro hr),if_neg (not_not_intro (hw.err (by omega))),if_neg (not_not_intro c1),if_neg (not_not_intro c4)]
 obtain ⟨_,d⟩:=changeV_ok h.oi hz
 refine ⟨hz,d.oi,fun a ha=>?_,fun a ha=>?_,fun a ha=>?_,fun a ha=>?_,fun a ha=>?_⟩
 ·unfold upW it
  split
  ·rename_i e;subst e;exact d.chg.wants
  ·rename_i e;rw [d.other a ha e];exact h.wa a ha
 ·unfold upW
  split
  ·exact hw
  ·exact h.wk a ha
 ·by_cases e:a=r
  ·subst e
   have:=d.chg.last
   unfold la
   omega
  ·unfold la
   rw [d.other a ha e]
   have:(atS o.sp a).last≤6 * k:=h.bl a ha
   omega
 ·by_cases e:a=r
  ·subst e
   rw [d.ep]
   have:=h.be a ha
   omega
  ·unfold ep
   rw [d.other a ha e]
   have:(atS o.sp a).epoch≤k+1:=h.be a ha
   omega
 ·unfold le
  rw [d.l a]
  have:(atL o.sp o.ls a).epoch≤k+1:=h.bq a ha
  omega
theorem LW.restart(h:LW R o k lw)(hr:r∈R)(hw:WOk 7 w)(hk:0≤k∧k≤1000):(restartV o r w).2=0∧LW R (restartV o r w).1 (k+1) (upW lw r w):=by
 obtain ⟨q1,q2⟩:=h.oi.net.s hr
 obtain ⟨k1,k2⟩:=h.oi.net.spo _ q1
 have hwe:wErr false w=0:=hw.err (by omega)
 have he:(atS o.sp r).epoch≤k+1:=h.be r hr
 have hq:(atL o.sp o.ls r).epoch≤k+1:=h.bq r hr
 have c4:(Go.Proofs.YthhpaedpnjdnbaaGreatDoor.restart (atS o.sp r) w).2=0:=by
  unfold Go.Proofs.YthhpaedpnjdnbaaGreatDoor.restart
  rw [if_neg (not_not_intro k1),if_neg (not_not_intro hwe),if_neg (by omega)]
 have hz:(restartV o r w).2=0:=by
  unfold restartV
  rw [if_neg (not_not_intro h.oi.ok),if_neg (by rw [h.oi.rt];exact not_not_intro hr),if_neg (not_not_intro c4),if_neg (by omega)]
 obtain ⟨_,d⟩:=restartV_ok h.oi hz
 refine ⟨hz,d.oi,fun a ha=>?_,fun a ha=>?_,fun a ha=>?_,fun a ha=>?_,fun a ha=>?_⟩
 ·unfold upW it
  split
  ·rename_i e;subst e;rw [d.val];exact wants_restart hwe
  ·rename_i e;rw [d.other a ha e];exact h.wa a ha
 ·unfold upW
  split
  ·exact hw
  ·exact h.wk a ha
 ·by_cases e:a=r
  ·subst e
   unfold la
   rw [d.val]
   have:=hw.len
   simp only;omega
  ·unfold la
   rw [d.other a ha e]
   have:(atS o.sp a).last≤6 * k:=h.bl a ha
   omega
 ·by_cases e:a=r
  ·subst e
   unfold ep
   rw [d.val]
   have:(atS o.sp a).epoch≤k+1:=h.be a ha
   unfold ep
   simp only;omega
  ·unfold ep
   rw [d.other a ha e]
   have:(atS o.sp a).epoch≤k+1:=h.be a ha
   omega
 ·by_cases e:a=r
  ·subst e
   unfold le
   rw [d.lr]
   unfold le
   simp only;omega
  ·unfold le
   rw [d.l a ha e]
   have:(atL o.sp o.ls a).epoch≤k+1:=h.bq a ha
   omega
theorem LW.more(h:LW R o k lw){m:Int}(hm:k≤m):LW R o m lw:=
 ⟨h.oi,h.wa,h.wk,fun a ha=>by have:=h.bl a ha;omega,fun a ha=>by have:=h.be a ha;omega,fun a ha=>by have:=h.bq a ha;omega⟩
theorem LW.roundO(h:LW R o k lw)(f:List Fau):(roundO o f).2=0∧LW R (roundO o f).1 k lw:=by
 obtain ⟨h1,d⟩:=h.oi.roundO f
 have r:=(h.oi.round d.now d.late).2
 rw [←d.val] at r
 exact ⟨h1,d.oi,fun a ha=>by rw [r.it a ha];exact h.wa a ha,h.wk,fun a ha=>by rw [r.la a ha];exact h.bl a ha,fun a ha=>by rw [r.ep a ha];exact h.be a ha,fun a ha=>by rw [r.le a ha];exact h.bq a ha⟩
end
theorem LW.new{l:List Int}(h:okR l):LW l (netOf l) 0 fun _=>[]:=by
 have hw:WOk 7 []:=⟨fun w hw=>by simp at hw,fun w hw=>by simp at hw,fun w hw=>by simp at hw,List.Pairwise.nil,by simp⟩
 refine ⟨OI.new h,fun a ha=>?_,fun _ _=>hw,fun a ha=>?_,fun a ha=>?_,fun a ha=>?_⟩
 ·unfold it;rw [netOf_s h ha];exact wants_nil
 ·unfold la;rw [netOf_s h ha];exact Int.le_refl _
 ·unfold ep;rw [netOf_s h ha];exact Int.le_refl _
 ·unfold le;rw [netOf_l h ha];exact Int.le_refl _
theorem rtsL_ok{L:List Int}:∀{n:Nat} {id:Int} {p:Nat} {rs:List Rtr},0≤id→(rs.map Rtr.id).Pairwise (·<·)→(∀r∈rs,1≤r.id∧r.id≤id∧r.cap=true) →
  ((rtsL L n id p rs).1.map Rtr.id).Pairwise (·<·)∧∀r∈(rtsL L n id p rs).1,1≤r.id∧r.id≤id+5 * n∧r.cap=true
 | 0,id,p,rs,h0,h1,h2=>⟨h1,fun r hr=>by have:=h2 r hr;exact ⟨this.1,by omega,this.2.2⟩⟩
 | n+1,id,p,rs,h0,h1,h2=>by
  have h5:=pick5 (L:=L) (p:=p)
  rw [rtsL]
  obtain ⟨a,b⟩:=rtsL_ok (L:=L) (n:=n) (id:=id+pickI [1,1,1,2,5] (rawV L p)) (p:=rawP L p) (rs:=rs++[⟨id+pickI [1,1,1,2,5] (rawV L p),true⟩]) (by omega)
   (by
    rw [List.map_append,List.pairwise_append]
    refine ⟨h1,List.pairwise_singleton _ _,fun x hx y hy=>?_⟩
    obtain ⟨r,hr,rfl⟩:=List.mem_map.mp hx
    have:=h2 r hr
    have hy:y=id+pickI [1,1,1,2,5] (rawV L p):=by simpa using hy
    omega)
   (fun r hr=>by
    rcases List.mem_append.mp hr with hr|hr
    ·have:=h2 r hr;exact ⟨this.1,by omega,this.2.2⟩
    ·have hr:r=⟨id+pickI [1,1,1,2,5] (rawV L p),true⟩:=by simpa using hr
     subst hr;exact ⟨by show 1≤id+_;omega,Int.le_refl _,rfl⟩)
  exact ⟨a,fun r hr=>by have:=b r hr;exact ⟨this.1,by omega,this.2.2⟩⟩
theorem topoT_rs{L:List Int}{p:Nat}{most:Int}(h:1≤most∧most≤100):(1≤(topoT L p most).1.rs.length∧(topoT L p most).1.rs.length≤most)∧((topoT L p most).1.rs.map Rtr.id).Pairwise (·<·) ∧
  ∀r∈(topoT L p most).1.rs,1≤r.id∧r.id≤5 * most∧r.cap=true:=by
 have hn:=rng_in (L:=L) (p:=p) (lo:=1) (hi:=most) (by omega)
 have hl:(topoT L p most).1.rs.length=(rng L p 1 most).toNat:=by
  show (topoR L p most).1.length=_
  rw [topoR,rtsL_len];simp
 obtain ⟨a,b⟩:=rtsL_ok (L:=L) (n:=(rng L p 1 most).toNat) (id:=0) (p:=rawP L p) (rs:=[]) (by omega) List.Pairwise.nil (by simp)
 exact ⟨by omega,a,fun r hr=>by have:=b r hr;exact ⟨this.1,by omega,this.2.2⟩⟩
structure EsOk (rs:List Rtr) (ks:List Int) (id:Int) (es:List Edg):Prop where
  nd:(es.map Edg.router).Nodup
  at_:∀e∈es,∃(j:Nat) (r:Rtr),(j:Int) ∉ ks∧rs[j]?=some r∧r.id=e.router
  asc:(es.map Edg.id).Pairwise (·<·)
  ids:∀e∈es,1≤e.id∧e.id≤id
theorem plnL_ok{L:List Int}{rs:List Rtr}(hid:(rs.map Rtr.id).Pairwise (·<·)):∀{ks:List Int} {id:Int} {es:List Edg} {p:Nat},ks.Nodup→(∀k∈ks,0≤k∧k<rs.length)→0≤id→EsOk rs ks id es →
  EsOk rs [] (id+9 * ks.length) (plnL L rs ks id es p).1∧(plnL L rs ks id es p).1.length≤es.length+ks.length
 | [],id,es,p,h1,h2,h0,h=>⟨⟨h.nd,h.at_,h.asc,fun e he=>by have:=h.ids e he;simp;omega⟩,by simp [plnL]⟩
 | k::ks,id,es,p,h1,h2,h0,h=>by
  have hk:=h2 k (by simp)
  have hn:=List.nodup_cons.mp h1
  have h9:=pickI_in (l:=[1,1,1,2,7,9]) (a:=1) (b:=9) (by decide) (by decide) (rawV L (rawP L p))
  rw [plnL]
  split
  ·obtain ⟨a,b⟩:=plnL_ok hid (L:=L) (ks:=ks) (id:=id) (es:=es) (p:=rawP L p) hn.2 (fun x hx=>h2 x (by simp [hx])) h0 ⟨h.nd,fun e he=>by
    obtain ⟨j,r,q1,q2⟩:=h.at_ e he
    exact ⟨j,r,fun q=>q1 (by simp [q]),q2⟩,h.asc,h.ids⟩
   exact ⟨⟨a.nd,a.at_,a.asc,fun e he=>by have:=a.ids e he;simp;omega⟩,by simp;omega⟩
  ·have hlt:k.toNat<rs.length:=by omega
   have hr:rs[k.toNat]?=some rs[k.toNat]:=List.getElem?_eq_getElem hlt
   have hg:rs.getD k.toNat ⟨0,false⟩=rs[k.toNat]:=by rw [List.getD_eq_getElem?_getD,hr];rfl
   rw [hg]
   generalize hq:id+pickI [1,1,1,2,7,9] (rawV L (rawP L p))=id' at *
   obtain ⟨a,b⟩:=plnL_ok hid (L:=L) (ks:=ks) (id:=id') (es:=es++[⟨rs[k.toNat].id,id'⟩]) (p:=rawP L (rawP L p)) hn.2 (fun x hx=>h2 x (by simp [hx])) (by omega) (by
    refine ⟨?_,fun e he=>?_,?_,fun e he=>?_⟩
    ·rw [List.map_append,List.nodup_append]
     refine ⟨h.nd,by simp,fun x hx y hy=>?_⟩
     obtain ⟨e,he,rfl⟩:=List.mem_map.mp hx
     obtain ⟨j,r,q1,q2,q3⟩:=h.at_ e he
     have hy:y=rs[k.toNat].id:=by simpa using hy
     rintro rfl
     have hj:=lt_of_get q2
     rw [List.getElem?_eq_getElem hj] at q2
     have q2:=Option.some.inj q2
     have hne:j≠k.toNat:=fun e'=>q1 (by subst e';rw [show ((k.toNat:Nat):Int)=k by omega];simp)
     rw [List.pairwise_iff_getElem] at hid
     have e1:(rs.map Rtr.id)[j]'(by simpa using hj)=(rs.map Rtr.id)[k.toNat]'(by simpa using hlt):=by
      rw [List.getElem_map,List.getElem_map,q2,q3];exact hy
     rcases Nat.lt_or_gt_of_ne hne with c|c
     ·have:=hid j k.toNat (by simpa using hj) (by simpa using hlt) c;omega
     ·have:=hid k.toNat j (by simpa using hlt) (by simpa using hj) c;omega
    ·rcases List.mem_append.mp he with he|he
     ·obtain ⟨j,r,q1,q2⟩:=h.at_ e he
      exact ⟨j,r,fun q=>q1 (by simp [q]),q2⟩
     ·have he:e=⟨rs[k.toNat].id,id'⟩:=by simpa using he
      subst he
      exact ⟨k.toNat,_,by rw [show ((k.toNat:Nat):Int)=k by omega];exact hn.1,hr,rfl⟩
    ·rw [List.map_append,List.pairwise_append]
     refine ⟨h.asc,List.pairwise_singleton _ _,fun x hx y hy=>?_⟩
     obtain ⟨e,he,rfl⟩:=List.mem_map.mp hx
     have:=h.ids e he
     have hy:y=id':=by simpa using hy
     omega
    ·rcases List.mem_append.mp he with he|he
     ·have:=h.ids e he;omega
     ·have he:e=⟨rs[k.toNat].id,id'⟩:=by simpa using he
      subst he;exact ⟨by show 1≤id';omega,Int.le_refl _⟩)
   refine ⟨⟨a.nd,a.at_,a.asc,fun e he=>by have:=a.ids e he;simp;omega⟩,?_⟩
   simp at b ⊢;omega
structure PlnOk (t:Tpl) (p:Pln):Prop where
  nd:(p.es.map Edg.router).Nodup
  at_:∀e∈p.es,∃r∈t.rs,r.id=e.router
  asc:(p.es.map Edg.id).Pairwise (·<·)
  ids:∀e∈p.es,1≤e.id∧e.id≤9 * t.rs.length
  sub:0≤p.sub∧p.sub≤2
  len:p.len=8∨p.len=16∨p.len=32∨p.len=64∨p.len=0∧p.es=[]
  es:p.es.length≤t.rs.length
theorem plnT_ok{L:List Int}{p:Nat}{t:Tpl}(hid:(t.rs.map Rtr.id).Pairwise (·<·)):PlnOk t (plnT L p t).1:=by
 obtain ⟨o1,o2⟩:=ordT_facts (L:=L) (n:=(t.rs.length:Int)) (p:=rawP L p) (by omega)
 have hl:(ordT L (t.rs.length:Int) (rawP L p)).1.length=t.rs.length:=by rw [ordT_len];simp
 obtain ⟨a,b⟩:=plnL_ok hid (L:=L) (ks:=(ordT L (t.rs.length:Int) (rawP L p)).1) (id:=0) (es:=[]) (p:=(ordT L (t.rs.length:Int) (rawP L p)).2) o1 o2 (by omega) ⟨by simp,by simp,by simp,by simp⟩
 rw [hl] at a b
 have h3:=Mod_range (x:=rawV L p) (show 1≤(3:Int) by omega)
 have h5:pickI [8,8,16,32,64] (rawV L (plnR L p t).2)∈([8,8,16,32,64]:List Int):=pickI_mem (by decide) _
 have h5:pickI [8,8,16,32,64] (rawV L (plnR L p t).2)=8∨pickI [8,8,16,32,64] (rawV L (plnR L p t).2)=16∨pickI [8,8,16,32,64] (rawV L (plnR L p t).2)=32∨pickI [8,8,16,32,64] (rawV L (plnR L p t).2)=64:=by
  simp only [List.mem_cons,List.not_mem_nil,or_false] at h5;omega
 have hes:(plnT L p t).1.es=(plnR L p t).1:=by unfold plnT;split<;>rfl
 have hsub:(plnT L p t).1.sub=Mod (rawV L p) 3:=by unfold plnT;split<;>rfl
 have a:EsOk t.rs [] (0+9 * t.rs.length) (plnR L p t).1:=a
 refine ⟨hes ▸ a.nd,fun e he=>?_,hes ▸ a.asc,fun e he=>?_,by omega,?_,by rw [hes];have b:(plnR L p t).1.length≤0+t.rs.length:=b;omega⟩
 ·rw [hes] at he
  obtain ⟨j,r,_,q2,q3⟩:=a.at_ e he
  exact ⟨r,mem_of_get q2,q3⟩
 ·rw [hes] at he
  have:=a.ids e he;omega
 ·unfold plnT
  split
  ·show _=_∨_;rcases h5 with h|h|h|h<;>simp [h]
  ·rename_i c
   right;right;right;right
   exact ⟨rfl,List.eq_nil_of_length_eq_zero (show (plnR L p t).1.length=0 by omega)⟩
structure Sit where
  router:Int
  now:Int
  list:List Mem
  deriving DecidableEq
structure Scn where
  rs:List Rtr
  ls:List Lnk
  sub:Int
  len:Int
  es:List Edg
  sites:List Sit
  sp:List Spk
  lsn:List Lsn
  fl:List Sig
def Sit.v(x:Sit):AV:=.agg [.int x.router,.int x.now,.sl 5 (x.list.map Mem.v) false]
def Scn.v(x:Scn):AV:=.agg [.sl 2 (x.rs.map Rtr.v) false,.sl 5 (x.ls.map Lnk.v) false,.int x.sub,.int x.len,.sl 2 (x.es.map Edg.v) false,.sl 3 (x.sites.map Sit.v) false,.sl 5 (x.sp.map Spk.v) false,.sl 3 (x.lsn.map Lsn.v) false,.sl 10 (x.fl.map Sig.v) false]
def rtsP(es:List Edg):List Int:=es.foldl (fun out e=>put out e.router) []
def shM(d h:Int)(x:Mem):Mem:=⟨h+x.host,x.grp,x.mode,x.srcs,x.til+d⟩
def sitsL(L:List Int)(now:Int):List Int→List Sit→Nat→List Sit×Nat
 | [],out,p=>(out,p)
 | r::rs,out,p=>sitsL L now rs (out++[⟨r,now,(memsT L 4 p).1.list.map (shM (now-(memsT L 4 p).1.now) (10 * out.length))⟩]) (memsT L 4 p).2
def actsL(L:List Int)(b:Bool):Nat→Ovl×Nat→Ovl×Nat
 | 0,s=>s
 | n+1,s=>actsL L b n (if b=true then actT L s.2 s.1 else s)
def chg1L(L:List Int)(x:Sit)(s:Ovl×Nat):Ovl×Nat:=
 if (ofW ⟨x.now,x.list⟩).2=0 then (if 0<Mod (rawV L s.2) 6 then (orO s.1 (changeV s.1 x.router (ofW ⟨x.now,x.list⟩).1),rawP L s.2) else (s.1,rawP L s.2)) else s
def chgsL(L:List Int):List Sit→Ovl×Nat→Ovl×Nat
 | [],s=>s
 | x::xs,s=>chgsL L xs (chg1L L x s)
def rndsL(L:List Int):Nat→Ovl×Nat→Ovl×Nat
 | 0,s=>s
 | n+1,s=>rndsL L n ((roundO s.1 (faultsT L s.1.fl.length s.2).1).1,(faultsT L s.1.fl.length s.2).2)
def scnP(L:List Int)(p:Nat)(most:Int):Pln×Nat:=plnT L (topoT L p most).2 (topoT L p most).1
def scnR(L:List Int)(p:Nat)(most:Int):List Int:=rtsP (scnP L p most).1.es
def scnN(L:List Int)(p:Nat)(most:Int):Int:=pickI [0,100] (rawV L (scnP L p most).2)
def scnS(L:List Int)(p:Nat)(most:Int):List Sit×Nat:=sitsL L (scnN L p most) (scnR L p most) [] (rawP L (scnP L p most).2)
def scnA(L:List Int)(p:Nat)(most:Int):Ovl×Nat:=
 actsL L (decide (0<(scnR L p most).length)) (Mod (rawV L (scnS L p most).2) 4).toNat ((newN (scnR L p most)).1,rawP L (scnS L p most).2)
def scnC(L:List Int)(p:Nat)(most:Int):Ovl×Nat:=chgsL L (scnS L p most).1 (scnA L p most)
def scnZ(L:List Int)(p:Nat)(most:Int):Ovl×Nat:=rndsL L (Mod (rawV L (scnC L p most).2) 4).toNat ((scnC L p most).1,rawP L (scnC L p most).2)
def scnT(L:List Int)(p:Nat)(most:Int):Scn×Nat:=
 (⟨(topoT L p most).1.rs,(topoT L p most).1.ls,(scnP L p most).1.sub,(scnP L p most).1.len,(scnP L p most).1.es,(scnS L p most).1,(scnZ L p most).1.sp,(scnZ L p most).1.ls,(scnZ L p most).1.fl⟩,(scnZ L p most).2)
theorem rtsP_ok(es:List Edg):(rtsP es).Pairwise (·<·)∧(∀r,r∈rtsP es↔∃e∈es,e.router=r)∧(rtsP es).length≤es.length:=by
 have key:∀(l:List Edg) (s:List Int),ascI s→ascI (l.foldl (fun out e=>put out e.router) s)∧(∀g,g∈l.foldl (fun out e=>put out e.router) s↔g∈s∨∃x∈l,x.router=g)∧(l.foldl (fun out e=>put out e.router) s).length≤s.length+l.length:=by
  intro l
  induction l with
  | nil=>intro s hs;exact ⟨hs,fun g=>by simp,by simp⟩
  | cons x l ih =>
   intro s hs
   obtain ⟨a,b,c⟩:=ih (put s x.router) (put_asc hs)
   have:=put_length s x.router
   refine ⟨a,fun g=>?_,by simp only [List.foldl_cons,List.length_cons];omega⟩
   rw [List.foldl_cons,b]
   have hp:g∈put s x.router↔g∈s∨g=x.router:=by
    refine ⟨put_mem,fun q=>?_⟩
    unfold put
    split
    ·rename_i e
     rcases q with q|q
     ·exact q
     ·exact q ▸ mem_of_get e
    ·exact mem_insAt.mpr q.symm
   rw [hp]
   constructor
   ·rintro ((q|q)|⟨y,q1,q2⟩)
    ·exact .inl q
    ·exact .inr ⟨x,by simp,q.symm⟩
    ·exact .inr ⟨y,by simp [q1],q2⟩
   ·rintro (q|⟨y,q1,q2⟩)
    ·exact .inl (.inl q)
    ·rcases List.mem_cons.mp q1 with rfl|q1
     ·exact .inl (.inr q2.symm)
     ·exact .inr ⟨y,q1,q2⟩
 obtain ⟨a,b,c⟩:=key es [] (asc_pw.mpr List.Pairwise.nil)
 exact ⟨asc_pw.mp a,fun g=>by rw [rtsP,b];simp,Nat.le_trans c (by simp)⟩
structure SitOk (now:Int) (x:Sit):Prop where
  now_:x.now=now
  err:memErr ⟨x.now,x.list⟩=0
  grp:∀y∈x.list,1≤y.grp∧y.grp≤4
theorem shM_ok{m:Mems}{now d h:Int}(h1:∀x∈m.list,MemOk m.now x)(h2:m.list.Pairwise memLs)(h3:m.list.length≤64)(hd:d=now-m.now)(hn:0≤now∧now≤1000000)(hh:0≤h∧h≤90) :
  memErr ⟨now,m.list.map (shM d h)⟩=0∧∀y∈m.list.map (shM d h),1≤y.grp∧y.grp≤4:=by
 refine ⟨memErr_ok hn (by simpa using h3) (fun x hx=>?_) (fun x hx=>?_) (fun x hx=>?_) ?_,fun x hx=>?_⟩
 ·obtain ⟨y,hy,rfl⟩:=List.mem_map.mp hx
  have:=h1 y hy
  have h4:=this.host;have h5:=this.grp;have h6:=this.til
  refine ⟨⟨?_,?_⟩,⟨?_,?_⟩,?_,?_⟩<;>simp only [shM]<;>omega
 ·obtain ⟨y,hy,rfl⟩:=List.mem_map.mp hx
  exact (h1 y hy).flt
 ·obtain ⟨y,hy,rfl⟩:=List.mem_map.mp hx
  exact (h1 y hy).no
 ·rw [List.pairwise_map]
  refine h2.imp fun {a b} q=>?_
  have q:bfrM a b.grp b.host=true:=q
  show bfrM (shM d h a) (shM d h b).grp (shM d h b).host=true
  simp only [bfrM,shM,Bool.or_eq_true,Bool.and_eq_true,decide_eq_true_eq,beq_iff_eq] at q ⊢
  rcases q with q|⟨q1,q2⟩
  ·exact .inl (decide_eq_true q)
  ·exact .inr ⟨q1,decide_eq_true (show h+a.host<h+b.host by omega)⟩
 ·obtain ⟨y,hy,rfl⟩:=List.mem_map.mp hx
  exact (h1 y hy).grp
theorem sitsL_ok{L:List Int}{now:Int}(hn:0≤now∧now≤1000000):∀{rs:List Int} {out:List Sit} {p:Nat},out.length+rs.length≤10→(∀x∈out,SitOk now x) →
  (∀x∈(sitsL L now rs out p).1,SitOk now x)∧(sitsL L now rs out p).1.map Sit.router=out.map Sit.router++rs
 | [],out,p,hl,h=>⟨h,by simp [sitsL]⟩
 | r::rs,out,p,hl,h=>by
  obtain ⟨m1,m2,m3,m4⟩:=memsT_ok L (n:=4) p (by omega)
  simp only [List.length_cons] at hl
  obtain ⟨s1,s2⟩:=shM_ok (now:=now) (d:=now-(memsT L 4 p).1.now) (h:=10 * (out.length:Int)) m2 m3 (by omega) rfl hn (by omega)
  rw [sitsL]
  obtain ⟨a,b⟩:=sitsL_ok hn (L:=L) (rs:=rs) (out:=out++[⟨r,now,(memsT L 4 p).1.list.map (shM (now-(memsT L 4 p).1.now) (10 * out.length))⟩]) (p:=(memsT L 4 p).2) (by simp;omega) (fun x hx=>by
   rcases List.mem_append.mp hx with hx|hx
   ·exact h x hx
   ·have hx:x=⟨r,now,(memsT L 4 p).1.list.map (shM (now-(memsT L 4 p).1.now) (10 * out.length))⟩:=by simpa using hx
    subst hx;exact ⟨rfl,s1,s2⟩)
  exact ⟨a,by rw [b];simp⟩
def LWB(R:List Int)(o:Ovl)(k:Int)(B:Nat):Prop:=(∃lw,LW R o k lw)∧o.fl.length≤B
theorem LWB.oi{R:List Int}{o:Ovl}{k:Int}{B:Nat}(h:LWB R o k B):OI R o:=by obtain ⟨⟨lw,h⟩,_⟩:=h;exact h.oi
theorem LWB.or{R:List Int}{o:Ovl}{k:Int}{B:Nat}{x:Ovl×Int}(h:LWB R o k B)(hx:x.2=0→LWB R x.1 (k+1) B):LWB R (orO o x) (k+1) B:=by
 unfold orO
 by_cases e:x.2≠0
 ·rw [if_pos e];obtain ⟨⟨lw,h⟩,hb⟩:=h;exact ⟨⟨lw,h.more (by omega)⟩,hb⟩
 ·rw [if_neg e];exact hx (Classical.not_not.mp e)
theorem LWB.more{R:List Int}{o:Ovl}{k k':Int}{B B':Nat}(h:LWB R o k B)(hk:k≤k')(hB:B≤B'):LWB R o k' B':=by
 obtain ⟨⟨lw,h⟩,hb⟩:=h;exact ⟨⟨lw,h.more hk⟩,by omega⟩
theorem LWB.change{R:List Int}{o:Ovl}{k:Int}{B:Nat}{r:Int}{w:List Wnt}(h:LWB R o k B)(hw:WOk 7 w)(hk:0≤k∧k≤1000)(q:(changeV o r w).2=0):LWB R (changeV o r w).1 (k+1) B:=by
 obtain ⟨⟨lw,h⟩,hb⟩:=h
 obtain ⟨hr,c⟩:=changeV_ok h.oi q
 exact ⟨⟨_,(h.change hr hw hk).2⟩,by rw [c.fl];exact hb⟩
theorem LWB.restart{R:List Int}{o:Ovl}{k:Int}{B:Nat}{r:Int}{w:List Wnt}(h:LWB R o k B)(hw:WOk 7 w)(hk:0≤k∧k≤1000)(q:(restartV o r w).2=0):LWB R (restartV o r w).1 (k+1) B:=by
 obtain ⟨⟨lw,h⟩,hb⟩:=h
 obtain ⟨hr,c⟩:=restartV_ok h.oi q
 exact ⟨⟨_,(h.restart hr hw hk).2⟩,by rw [c.fl];exact hb⟩
theorem LWB.round{R:List Int}{o:Ovl}{k:Int}{B:Nat}(h:LWB R o k B)(f:List Fau):(roundO o f).2=0∧LWB R (roundO o f).1 k (B+f.length+14400):=by
 obtain ⟨⟨lw,h⟩,hb⟩:=h
 have:=(h.oi.roundO f).2.len
 exact ⟨(h.roundO f).1,⟨lw,(h.roundO f).2⟩,by omega⟩
theorem LWB.act{R:List Int}{o:Ovl}{k:Int}{B:Nat}{L:List Int}{p:Nat}(h:LWB R o k B)(hk:0≤k∧k≤1000):LWB R (actT L p o).1 (k+1) (B+14440):=by
 have h':LWB R o k (B+14440):=h.more (by omega) (by omega)
 unfold actT
 split
 ·exact h'.or fun q=>h'.change (wantsT_ok _ _) hk q
 split
 ·exact h'.or fun q=>h'.restart (wantsT_ok _ _) hk q
 split
 ·refine h'.or fun q=>?_
  have k':=(h.round (heavyT L (min o.fl.length 40) (rawP L (rawP L p))).1).2
  have:=heavyT_len (L:=L) (n:=min o.fl.length 40) (p:=rawP L (rawP L p))
  exact k'.more (by omega) (by omega)
 ·refine h'.or fun q=>?_
  have k':=(h.round (faultsT L o.fl.length (rawP L (rawP L p))).1).2
  have:=faultsT_len (L:=L) (n:=o.fl.length) (p:=rawP L (rawP L p))
  exact k'.more (by omega) (by omega)
theorem actsL_ok{R:List Int}{L:List Int}{b:Bool}:∀{n:Nat} {s:Ovl×Nat} {k:Int} {B:Nat},LWB R s.1 k B→0≤k→k+n≤1000→LWB R (actsL L b n s).1 (k+n) (B+14440 * n)
 | 0,s,k,B,h,h0,h1=>h.more (by omega) (by omega)
 | n+1,s,k,B,h,h0,h1=>by
  rw [actsL]
  have:LWB R (if b=true then actT L s.2 s.1 else s).1 (k+1) (B+14440):=by
   split
   ·exact h.act (by omega)
   ·exact h.more (by omega) (by omega)
  exact (actsL_ok (n:=n) this (by omega) (by omega)).more (by omega) (by omega)
theorem chg1L_ok{R:List Int}{L:List Int}{now:Int}{x:Sit}{s:Ovl×Nat}{k:Int}{B:Nat}(hx:SitOk now x)(h:LWB R s.1 k B)(hk:0≤k∧k≤1000):LWB R (chg1L L x s).1 (k+1) B:=by
 obtain ⟨o1,o2⟩:=ofW_facts hx.err hx.grp
 rw [chg1L,o1,if_pos rfl]
 split
 ·exact h.or fun q=>h.change o2 hk q
 ·exact h.more (by omega) (by omega)
theorem chgsL_ok{R:List Int}{L:List Int}{now:Int}:∀{l:List Sit} {s:Ovl×Nat} {k:Int} {B:Nat},(∀x∈l,SitOk now x)→LWB R s.1 k B→0≤k→k+l.length≤1000→LWB R (chgsL L l s).1 (k+l.length) B
 | [],s,k,B,_,h,h0,h1=>h.more (by simp) (by omega)
 | x::l,s,k,B,hl,h,h0,h1=>by
  simp only [List.length_cons] at h1 ⊢
  rw [chgsL]
  exact (chgsL_ok (l:=l) (fun y hy=>hl y (by simp [hy])) (chg1L_ok (L:=L) (hl x (by simp)) h (by omega)) (by omega) (by omega)).more (by omega) (by omega)
theorem rndsL_ok{R:List Int}{L:List Int}:∀{n:Nat} {s:Ovl×Nat} {k:Int} {B:Nat},LWB R s.1 k B→LWB R (rndsL L n s).1 k (B+14403 * n)
 | 0,s,k,B,h=>h.more (by omega) (by omega)
 | n+1,s,k,B,h=>by
  rw [rndsL]
  have h1:=(h.round (faultsT L s.1.fl.length s.2).1).2
  have:=faultsT_len (L:=L) (n:=s.1.fl.length) (p:=s.2)
  exact (rndsL_ok (n:=n) (s:=((roundO s.1 (faultsT L s.1.fl.length s.2).1).1,(faultsT L s.1.fl.length s.2).2)) h1).more (by omega) (by omega)
section
variable {L : List Int} {p : Nat} {most : Int}
theorem scnP_ok(h:1≤most∧most≤8):PlnOk (topoT L p most).1 (scnP L p most).1:=plnT_ok (topoT_rs (by omega)).2.1
theorem scnR_ok(h:1≤most∧most≤8):okR (scnR L p most)∧(scnR L p most).length≤8:=by
 obtain ⟨t1,t2,t3⟩:=topoT_rs (L:=L) (p:=p) (most:=most) (by omega)
 have hp:=scnP_ok (L:=L) (p:=p) h
 obtain ⟨r1,r2,r3⟩:=rtsP_ok (scnP L p most).1.es
 have:=hp.es
 have hl:(scnR L p most).length≤8:=by unfold scnR;omega
 refine ⟨⟨by omega,fun r hr=>?_,r1⟩,hl⟩
 obtain ⟨e,he,rfl⟩:=(r2 r).mp hr
 obtain ⟨z,hz,q⟩:=hp.at_ e he
 have:=t3 z hz
 omega
theorem scnN_ok:0≤scnN L p most∧scnN L p most≤1000000:=by
 have:=pickI_in (l:=[0,100]) (a:=0) (b:=100) (by decide) (by decide) (rawV L (scnP L p most).2)
 unfold scnN;omega
theorem scnS_ok(h:1≤most∧most≤8):(∀x∈(scnS L p most).1,SitOk (scnN L p most) x)∧(scnS L p most).1.map Sit.router=scnR L p most:=by
 have:=(scnR_ok (L:=L) (p:=p) h).2
 obtain ⟨a,b⟩:=sitsL_ok (L:=L) (scnN_ok (L:=L) (p:=p) (most:=most)) (rs:=scnR L p most) (out:=[]) (p:=rawP L (scnP L p most).2) (by simp;omega) (by simp)
 exact ⟨a,by rw [scnS,b];rfl⟩
theorem scnS_len(h:1≤most∧most≤8):(scnS L p most).1.length≤8:=by
 have:=congrArg List.length (scnS_ok (L:=L) (p:=p) h).2
 rw [List.length_map] at this
 have:=(scnR_ok (L:=L) (p:=p) h).2
 omega
theorem scn0_ok(h:1≤most∧most≤8):LWB (scnR L p most) (newN (scnR L p most)).1 0 0:=by
 have hr:=(scnR_ok (L:=L) (p:=p) h).1
 rw [newN,if_pos hr]
 exact ⟨⟨_,LW.new hr⟩,by simp [netOf]⟩
end
section
variable {L : List Int} {p : Nat} {most : Int}
theorem mod4(x:Int):(Mod x 4).toNat≤3:=by
 obtain ⟨h1,h2⟩:=Mod_range (x:=x) (n:=4) (by decide)
 generalize Mod x 4=y at *
 omega
theorem scnA_ok(h:1≤most∧most≤8):LWB (scnR L p most) (scnA L p most).1 3 43320:=by
 have z:=scn0_ok (L:=L) (p:=p) h
 have h4:=mod4 (rawV L (scnS L p most).2)
 unfold scnA
 generalize (newN (scnR L p most)).1=o0 at z ⊢
 generalize (Mod (rawV L (scnS L p most).2) 4).toNat=n at h4 ⊢
 exact (actsL_ok (L:=L) (b:=decide (0<(scnR L p most).length)) (n:=n) (s:=(o0,rawP L (scnS L p most).2)) z (by omega) (by omega)).more (by omega) (by omega)
theorem scnC_ok(h:1≤most∧most≤8):LWB (scnR L p most) (scnC L p most).1 11 43320:=by
 have z:=scnA_ok (L:=L) (p:=p) h
 have hl:=scnS_len (L:=L) (p:=p) h
 have hs:=(scnS_ok (L:=L) (p:=p) h).1
 unfold scnC
 generalize scnA L p most=A at z ⊢
 exact (chgsL_ok (L:=L) hs z (by omega) (by omega)).more (by omega) (by omega)
theorem scnZ_ok(h:1≤most∧most≤8):LWB (scnR L p most) (scnZ L p most).1 11 86529:=by
 have z:=scnC_ok (L:=L) (p:=p) h
 have h4:=mod4 (rawV L (scnC L p most).2)
 unfold scnZ
 generalize scnC L p most=C at z h4 ⊢
 generalize (Mod (rawV L C.2) 4).toNat=n at h4 ⊢
 exact (rndsL_ok (L:=L) (n:=n) (s:=(C.1,rawP L C.2)) z).more (by omega) (by omega)
end
structure Alike (P:List Int) (o q:Ovl):Prop where
  s1:∀a∈P,ep o a=ep q a
  s2:∀a∈P,la o a=la q a
  s3:∀a∈P,it o a=it q a
  s4:∀a∈P,le o a=le q a
  s5:∀a∈P,∀b∈P,a≠b→pe o a b=pe q a b
  s6:∀a∈P,∀b∈P,a≠b→he o a b=he q a b
  s7:∀a∈P,∀b∈P,a≠b→tells o a b=tells q a b
  s8:∀a∈P,∀b∈P,a≠b→acks o a b=acks q a b
section
variable {P R S : List Int} {o o' q q' : Ovl} {r : Int} {w : List Wnt}
theorem Alike.fl(hf:o'.fl=o.fl)(a b:Int):tells o' a b=tells o a b∧acks o' a b=acks o a b:=by
 unfold tells acks;rw [hf];exact ⟨rfl,rfl⟩
end
def inR(x lo hi:Int):Bool:=decide (lo≤x∧x≤hi)
def inR_a(x:Int)(lo:Int)(hi:Int):Prop:=okL [.int x,.int lo,.int hi]
def inR_e(r:Bool):AV:=.bool r
def inR_x(x:Int)(lo:Int)(hi:Int):Ax Tryz.prog noS (Bool):=
 (.br 80 (decide (lo≤x)) (.ret (decide (x≤hi)))
(.ret (false)))
def inR_vc(x:Int)(lo:Int)(hi:Int)(r0:Bool):Prop:=(inR_x x lo hi).vp inR_e r0
theorem inR_p(x lo hi:Int)(ok:inR_a x lo hi):inR_vc x lo hi (inR x lo hi):=by
 dsimp only [inR_vc,inR_x,noS,Ax.vp,Ax.vc];simp only [vcU,rfU,List.length_map]
 refine ⟨fun h=>decide_eq_decide.mpr ⟨fun q=>⟨h,q⟩,fun q=>q.2⟩,fun h=>(decide_eq_false fun q=>h q.1).symm⟩
def inR_c(x:Int)(lo:Int)(hi:Int):PC Tryz.prog:=⟨149,[.k,.k,.k],[.int x,.int lo,.int hi],inR_e (inR x lo hi),PSpec.of_ok fun ok=>mxP_of (sh:=.k) (enc:=inR_e) (a:=(inR_x x lo hi).an) (inR_p x lo hi ok) (by kernel_rfl) (AV.pureB_ok rfl),fnB_ok (by kernel_rfl)⟩
theorem asc_take{α:Type}(key:α→Int){l:List α}{k:Nat}{x y:α}(hx:l[k]?=some x)(h0:0<k)(hy:l[k-1]?=some y) :
  (l.take (k+1)).Pairwise (fun a b=>key a<key b)↔(l.take k).Pairwise (fun a b=>key a<key b)∧key y<key x:=by
 rw [take_succ hx,List.pairwise_append]
 have hm:y∈l.take k:=by
  have:(l.take k)[k-1]?=some y:=by rw [List.getElem?_take,if_pos (by omega)];exact hy
  exact List.mem_of_getElem? this
 constructor
 ·rintro ⟨h1,_,h3⟩
  exact ⟨h1,h3 y hm x (by simp)⟩
 ·rintro ⟨h1,h2⟩
  refine ⟨h1,List.pairwise_singleton _ _,fun a ha b hb=>?_⟩
  rw [List.mem_singleton] at hb;subst hb
  obtain ⟨i,hi,rfl⟩:=List.getElem_of_mem ha
  rw [List.length_take] at hi
  rw [List.getElem_take]
  obtain ⟨hk,hyk⟩:=List.getElem?_eq_some_iff.mp hy
  rcases Nat.lt_or_ge i (k-1) with e|e
  ·have:=List.pairwise_iff_getElem.mp h1 i (k-1) (by rw [List.length_take];omega) (by rw [List.length_take];omega) e
   rw [List.getElem_take,List.getElem_take,hyk] at this
   omega
  ·have:i=k-1:=by omega
   subst this
   rw [hyk];exact h2
theorem asc_first{α:Type}(key:α→Int){l:List α}{x:α}(hx:l[0]?=some x):(l.take 1).Pairwise (fun a b=>key a<key b):=by
 rw [take_succ hx];simp
theorem mem_take_succ{α:Type}{l:List α}{k:Nat}{x:α}(hx:l[k]?=some x){P:α→Prop}:(∀y∈l.take (k+1),P y)↔(∀y∈l.take k,P y)∧P x:=by
 rw [take_succ hx]
 constructor
 ·intro h;exact ⟨fun y hy=>h y (List.mem_append_left _ hy),h x (by simp)⟩
 ·rintro ⟨h1,h2⟩ y hy
  rcases List.mem_append.mp hy with hy|hy
  ·exact h1 y hy
  ·rw [List.mem_singleton] at hy;subst hy;exact h2
theorem W_pred'{k:Nat}(h:k≤9223372036854775807):W ((k:Int)-1)=(k:Int)-1:=W_eq (by omega)
theorem itmsOk.take{n:Int}{l:List Itm}(h:itmsOk n l)(k:Nat):itmsOk n (l.take k):=
 ⟨fun x hx=>h.1 x (List.mem_of_mem_take hx),by rw [List.map_take];exact h.2.1.sublist (List.take_sublist _ _),h.2.2.sublist (List.take_sublist _ _)⟩
theorem itmsOk_succ{n:Int}{l:List Itm}{k:Nat}{x:Itm}(hx:l[k]?=some x):itmsOk n (l.take (k+1))↔itmsOk n (l.take k)∧itmOk n x∧(∀y∈l.take k,y.grp≠x.grp)∧(0<k→∀y,l[k-1]?=some y→y.ver<x.ver):=by
 have hn:((l.take (k+1)).map Itm.grp).Nodup↔((l.take k).map Itm.grp).Nodup∧∀y∈l.take k,y.grp≠x.grp:=by
  rw [take_succ hx,List.map_append,List.nodup_append]
  simp only [List.map_cons,List.map_nil,List.mem_singleton,List.mem_map,List.nodup_cons,List.not_mem_nil,not_false_eq_true,List.nodup_nil,and_self,true_and]
  constructor
  ·rintro ⟨h1,h2⟩
   exact ⟨h1,fun y hy=>h2 _ ⟨y,hy,rfl⟩ _ rfl⟩
  ·rintro ⟨h1,h2⟩
   refine ⟨h1,?_⟩
   rintro _ ⟨y,hy,rfl⟩ _ rfl
   exact h2 y hy
 unfold itmsOk
 rw [mem_take_succ hx,hn]
 cases k with
 | zero =>
  have:(l.take 1).Pairwise fun x y=>x.ver<y.ver:=asc_first Itm.ver hx
  simp [this]
 | succ k =>
  obtain ⟨y,hy⟩:∃y,l[k]?=some y:=⟨_,List.getElem?_eq_getElem (by have:=lt_of_get hx;omega)⟩
  rw [asc_take Itm.ver hx (by omega) (by simpa using hy)]
  simp only [Nat.add_sub_cancel,hy,Option.some.injEq,Nat.zero_lt_succ,forall_const,forall_eq']
  constructor
  ·rintro ⟨⟨a,b⟩,⟨c,d⟩,e,f⟩;exact ⟨⟨a,c,e⟩,b,d,f⟩
  ·rintro ⟨⟨a,c,e⟩,b,d,f⟩;exact ⟨⟨a,b⟩,⟨c,d⟩,e,f⟩
def itemsR_a(l:(List Itm))(last:Int):Prop:=okL [.sl 4 (l.map Itm.v) false,.int last]
def itemsR_n0(l:(List Itm))(last:Int)(t0:Int):NF:=⟨[(0,.k,.sl 4 (l.map Itm.v) false),(1,.k,.int last),(8,.k,.sl 4 (l.map Itm.v) false),(9,.k,.int ((l.map Itm.v).length:Int)),(10,.k,.int t0)],[]⟩
def itemsR_n1(l:(List Itm))(last:Int)(t0:Int)(x1:Itm)(t1:Bool):NF:=⟨[(0,.k,.sl 4 (l.map Itm.v) false),(1,.k,.int last),(5,.k,.int t0),(6,.k,.ref 0 0),(8,.k,.sl 4 (l.map Itm.v) false),(9,.k,.int ((l.map Itm.v).length:Int)),(10,.k,.int t0),(46,.k,.bool t1)],[.box (.agg [.int x1.ver,.int x1.grp,.int x1.mode,.sl 1 (x1.srcs.map AV.int) false])]⟩
def itemsR_n2(l:(List Itm))(last:Int)(t0:Int)(x1:Itm)(t2:Int):NF:=⟨[(0,.k,.sl 4 (l.map Itm.v) false),(1,.k,.int last),(5,.k,.int t0),(6,.k,.ref 0 0),(7,.k,.int t2),(8,.k,.sl 4 (l.map Itm.v) false),(9,.k,.int ((l.map Itm.v).length:Int)),(10,.k,.int t0)],[.box (.agg [.int x1.ver,.int x1.grp,.int x1.mode,.sl 1 (x1.srcs.map AV.int) false])]⟩
@[reducible] def itemsR_s:Nat→Type
 | 0=>Int
 | 1=>Bool
 | 2=>Int
 | _=>Unit
def itemsR_e(r:Bool):AV:=.bool r
def itemsR_x(l:(List Itm))(last:Int)(I0:Int→Prop)(m0:Int→Nat)(I1:Int→Itm→Bool→Prop)(I2:Int→Itm→Bool→Int→Prop)(m2:Int→Itm→Bool→Int→Nat):Ax Tryz.prog itemsR_s (Bool):=
 (.loop 0 (itemsR_n0 l last) I0 m0 ((0):Int) [] fun (t0:Int) b0 =>
(.br 16 (decide (t0<((l.map Itm.v).length:Int))) (.el 32 Itm.v l (fun R=>Rf (l.map Itm.v) (ck (decide (0≤t0)) (ck (decide (t0<(l.length:Int)))
(∀x1,l[t0.toNat]?=some x1 →
(R x1))))) fun x1 =>
(.pass (.join 1 (itemsR_n1 l last t0 x1) (fun (t1:Bool)=>I1 t0 x1 t1) (fun b1=>(.callP (inR_c x1.ver 1 last)
(.br 208 (!(inR x1.ver 1 last)) (.bk 1 b1 ((true):Bool) [64])
(.callP (inR_c x1.grp 1 99)
(.br 304 (!(inR x1.grp 1 99)) (.bk 1 b1 ((true):Bool) [64])
(.callP (FVal_c (⟨x1.mode,x1.srcs⟩:Flt))
(.br 400 ((fltErr (⟨x1.mode,x1.srcs⟩:Flt).mode (⟨x1.mode,x1.srcs⟩:Flt).srcs) != 0) (.bk 1 b1 ((true):Bool) [64])
(.br 448 (decide (0<t0)) (.el 496 Itm.v l (fun R=>Rf (l.map Itm.v) (ck (decide (0≤(W (t0-1)))) (ck (decide ((W (t0-1))<(l.length:Int)))
(∀x2,l[(W (t0-1)).toNat]?=some x2 →
(R x2))))) fun x2 =>
(.bk 1 b1 ((decide (x1.ver≤x2.ver)):Bool) [64]))
(.bk 1 b1 ((false):Bool) [64]))))))))) fun (t1:Bool) =>
(.br 1 t1 (.ret (false))
(.loop 2 (itemsR_n2 l last t0 x1) (I2 t0 x1 t1) (m2 t0 x1 t1) ((0):Int) [0] fun (t2:Int) b2 =>
(.br 49 (decide (t2<t0)) (.el 81 Itm.v l (fun R=>Rf (l.map Itm.v) (ck (decide (0≤t2)) (ck (decide (t2<(l.length:Int)))
(∀x3,l[t2.toNat]?=some x3 →
(R x3))))) fun x3 =>
(.br 177 (x3.grp==x1.grp) (.ret (false))
(.bk 2 b2 ((W (t2+1)):Int) [0])))
(.bk 0 b0 ((W (t0+1)):Int) [])))))))
(.ret (true))))
def itemsR_vc(l:(List Itm))(last:Int)(I0:Int→Prop)(m0:Int→Nat)(I1:Int→Itm→Bool→Prop)(I2:Int→Itm→Bool→Int→Prop)(m2:Int→Itm→Bool→Int→Nat)(r0:Bool):Prop:=(itemsR_x l last I0 m0 I1 I2 m2).vp itemsR_e r0
theorem itemsR_p(l:List Itm)(last:Int)(ok:itemsR_a l last):∃I0 m0 I1 I2 m2,itemsR_vc l last I0 m0 I1 I2 m2 (itemsB l last):=by
 simp only [itemsR_a,okU,Blk.ok,plainV,List.length_map] at ok
 refine ⟨fun t=>∃k:Nat,t=k∧k≤l.length∧itmsOk last (l.take k),fun t=>l.length-t.toNat,
  fun t x b=>b=false↔itmOk last x∧(0<t.toNat→∀y,l[t.toNat-1]?=some y→y.ver<x.ver),
  fun t x b t2=>∃j:Nat,t2=j∧j≤t.toNat∧∀y∈l.take j,y.grp≠x.grp,fun t x b t2=>t.toNat-t2.toNat,?_⟩
 dsimp only [itemsR_vc,itemsR_x,itemsR_s,Ax.vp,Ax.vc];simp only [vcU,rfU,List.length_map]
 have hle:l.length≤9223372036854775807:=ok.1.1
 refine ⟨⟨0,rfl,by omega,by simp [itmsOk]⟩,?_⟩
 rintro _ ⟨k,rfl,hk,hI⟩
 simp only [Int.toNat_natCast]
 refine ⟨fun h1=>⟨by omega,by omega,fun x hx=>⟨?_,?_⟩⟩,fun h1=>?_⟩
 ·simp only [inR,Bool.not_eq_true',decide_eq_false_iff_not,Bool.not_eq_false',decide_eq_true_iff]
  have no:∀{q:Prop},¬q→((itmOk last x→q)→(true=false↔itmOk last x∧(0<k→∀y,l[k-1]?=some y→y.ver<x.ver))):=fun hq hi=>⟨fun e=>Bool.noConfusion e,fun e=>absurd (hi e.1) hq⟩
  refine ⟨fun h2=>no h2 fun q=>q.1,fun h2=>⟨fun h3=>no h3 fun q=>q.2.1,fun h3=>⟨fun h4=>no (q:=fltErr x.mode x.srcs=0) (by simpa using h4) fun q=>q.2.2,fun h4=>⟨fun h5=>?_,fun h5=>?_⟩⟩⟩⟩
  ·rw [W_pred' (by omega)]
   have e:((k:Int)-1).toNat=k-1:=by omega
   rw [e]
   refine ⟨by omega,by omega,fun y hy=>?_⟩
   have h4:fltErr x.mode x.srcs=0:=by simpa using h4
   constructor
   ·intro q;exact ⟨⟨h2,h3,h4⟩,fun _ z hz=>by rw [hy] at hz;cases hz;omega⟩
   ·rintro ⟨_,q⟩;have:=q (by omega) y hy;omega
  ·exact ⟨fun _=>⟨⟨h2,h3,by simpa using h4⟩,fun q=>by omega⟩,fun _=>trivial⟩
 ·intro b hb
  refine ⟨fun e=>(decide_eq_false fun q=>?_).symm,fun e=>⟨⟨0,rfl,by omega,by simp⟩,?_⟩⟩
  ·subst e
   have:=(itmsOk_succ hx).mp (q.take (k+1))
   exact Bool.noConfusion (hb.mpr ⟨this.2.1,this.2.2.2⟩)
  ·obtain ⟨q1,q2⟩:=hb.mp e
   rintro _ ⟨j,rfl,hj,hg⟩
   simp only [Int.toNat_natCast]
   refine ⟨fun h3=>⟨by omega,by omega,fun y hy=>⟨fun e2=>?_,fun e2=>?_⟩⟩,fun h3=>?_⟩
   ·refine (decide_eq_false fun q=>?_).symm
    have:=((itmsOk_succ hx).mp (q.take (k+1))).2.2.1 y (by
     have:(l.take k)[j]?=some y:=by rw [List.getElem?_take,if_pos (by omega)];exact hy
     exact List.mem_of_getElem? this)
    exact this (by simpa using e2)
   ·rw [W_succ (n:=k) (by omega) (by omega)]
    exact ⟨⟨j+1,rfl,by omega,(mem_take_succ hy).mpr ⟨hg,by simpa using e2⟩⟩,by omega⟩
   ·have:j=k:=by omega
    subst this
    rw [W_succ (n:=l.length) (by omega) (by omega)]
    exact ⟨⟨j+1,rfl,by omega,(itmsOk_succ hx).mpr ⟨hI,q1,hg,q2⟩⟩,by omega⟩
 ·rw [List.take_of_length_le (by omega)] at hI
  exact (decide_eq_true hI).symm
def itemsR_c(l:(List Itm))(last:Int):PC Tryz.prog:=⟨115,[(.s 4),.k],[.sl 4 (l.map Itm.v) false,.int last],itemsR_e (itemsB l last),PSpec.of_ok fun ok=>(itemsR_p l last ok).elim fun I0 h=>h.elim fun m0 h=>h.elim fun I1 h=>h.elim fun I2 h=>h.elim fun m2 h=>mxP_of (sh:=.k) (enc:=itemsR_e) (a:=(itemsR_x l last I0 m0 I1 I2 m2).an) h (by kernel_rfl) (AV.pureB_ok rfl),fnB_ok (by kernel_rfl)⟩
def putR_a(l:(List Itm))(x:Itm):Prop:=okL [.sl 4 (l.map Itm.v) false,.agg [.int x.ver,.int x.grp,.int x.mode,.sl 1 (x.srcs.map AV.int) false]]
def putR_n0(l:(List Itm))(x:Itm)(t0:Int×(List Itm)):NF:=⟨[(3,.k,.ref 0 0),(5,.k,.vec 1),(8,.k,.sl 4 (l.map Itm.v) false),(9,.k,.int ((l.map Itm.v).length:Int)),(10,.k,.int t0.1)],[.box (.agg [.int x.ver,.int x.grp,.int x.mode,.sl 1 (x.srcs.map AV.int) false]),.vec 4 (t0.2.map Itm.v) (pureBL_map (fun _=>rfl) t0.2)]⟩
@[reducible] def putR_s:Nat→Type
 | 0=>Int×(List Itm)
 | _=>Unit
def putR_e(r:(List Itm)):AV:=.sl 4 (r.map Itm.v) false
def putR_x(l:(List Itm))(x:Itm)(I0:(Int×(List Itm))→Prop)(m0:(Int×(List Itm))→Nat):Ax Tryz.prog putR_s ((List Itm)):=
 (.cmdL (.nilT 5 4) (.loop 0 (putR_n0 l x) I0 m0 (0,[]) [0,96] fun (t0:Int×(List Itm)) b0 =>
(.br 18 (decide (t0.1<((l.map Itm.v).length:Int))) (.el 18 Itm.v l (fun R=>Rf (l.map Itm.v) (ck (decide (0≤t0.1)) (ck (decide (t0.1<(l.length:Int)))
(∀x1,l[t0.1.toNat]?=some x1 →
(R x1))))) fun x1 =>
(.br 162 (x1.grp != x.grp) (.say (fun R=>Rf (α:=List AV) (t0.2.map Itm.v) (Rf (α:=List AV) [.agg [.int x1.ver,.int x1.grp,.int x1.mode,.sl 1 (x1.srcs.map AV.int) false]]
(ck (decide (t0.2.length+1≤1048576))
R))) (.app 210 Itm.v t0.2 [x1]
(.bk 0 b0 (W (t0.1+1),t0.2++[x1]) [0,210])))
(.bk 0 b0 (W (t0.1+1),t0.2) [0,1])))
(.say (fun R=>Rf (α:=List AV) (t0.2.map Itm.v) (Rf (α:=List AV) [.agg [.int x.ver,.int x.grp,.int x.mode,.sl 1 (x.srcs.map AV.int) false]]
(ck (decide (t0.2.length+1≤1048576))
R))) (.app 66 Itm.v t0.2 [x]
(.say (Rf ((t0.2++[x]).map Itm.v)) (.cmdL (.frzE 66 ((t0.2++[x]).map Itm.v) (pureBL_map (fun _=>rfl) (t0.2++[x]))) (.ret (t0.2++[x])))))))))
def putR_vc(l:(List Itm))(x:Itm)(I0:(Int×(List Itm))→Prop)(m0:(Int×(List Itm))→Nat)(r0:(List Itm)):Prop:=(putR_x l x I0 m0).vp putR_e r0
theorem putR_p(l:List Itm)(x:Itm)(hl:l.length≤999999)(ok:putR_a l x):∃I m,putR_vc l x I m (put1 l x):=by
 refine ⟨fun t=>∃k:Nat,t.1=k∧k≤l.length∧t.2=without x.grp (l.take k),fun t=>l.length-t.1.toNat,?_⟩
 dsimp only [putR_vc,putR_x,putR_s,Ax.vp,Ax.vc];simp only [vcU,rfU,List.length_map]
 refine ⟨⟨0,rfl,by omega,rfl⟩,?_⟩
 rintro ⟨_,_⟩ ⟨k,rfl,hk,rfl⟩
 simp only [Int.toNat_natCast]
 have hw:∀k,(without x.grp (l.take k)).length≤l.length:=fun k=>by
  unfold without
  have:=List.length_filter_le (fun y:Itm=>decide (y.grp≠x.grp)) (l.take k)
  rw [List.length_take] at this;omega
 have hwk:=hw k
 refine ⟨fun h1=>⟨by omega,by omega,fun y hy=>?_⟩,fun h1=>⟨by omega,?_⟩⟩
 ·rw [W_succ (n:=l.length) (by omega) (by omega)]
  have e:without x.grp (l.take (k+1))=if y.grp=x.grp then without x.grp (l.take k) else without x.grp (l.take k)++[y]:=by
   rw [take_succ hy]
   unfold without
   rw [List.filter_append]
   by_cases q:y.grp=x.grp<;>simp [q]
  refine ⟨fun q=>⟨by omega,⟨k+1,rfl,by omega,?_⟩,by omega⟩,fun q=>⟨⟨k+1,rfl,by omega,?_⟩,by omega⟩⟩
  ·rw [e,if_neg (by simpa using q)]
  ·rw [e,if_pos (by simpa using q)]
 ·rw [List.take_of_length_le (by omega)];rfl
def putR_c(l:(List Itm))(x:Itm)(hl:l.length≤999999):PC Tryz.prog:=⟨109,[(.s 4),(.a [.k,.k,.k,(.s 1)])],[.sl 4 (l.map Itm.v) false,.agg [.int x.ver,.int x.grp,.int x.mode,.sl 1 (x.srcs.map AV.int) false]],putR_e (put1 l x),PSpec.of_ok fun ok=>(putR_p l x hl ok).elim fun I0 h=>h.elim fun m0 h=>mxP_of (sh:=(.s 4)) (enc:=putR_e) (a:=(putR_x l x I0 m0).an) h (by kernel_rfl) (AV.pureB_ok rfl),fnB_ok (by kernel_rfl)⟩
def findI_a(l:(List Itm))(group:Int):Prop:=okL [.sl 4 (l.map Itm.v) false,.int group]
def findI_n0(l:(List Itm))(group:Int)(t0:Int):NF:=⟨[(1,.k,.int group),(4,.k,.ref 0 0),(7,.k,.sl 4 (l.map Itm.v) false),(8,.k,.int ((l.map Itm.v).length:Int)),(9,.k,.int t0)],[.box (.agg [.int 0,.sl 0 [] true])]⟩
@[reducible] def findI_s:Nat→Type
 | 0=>Int
 | _=>Unit
def findI_e(r:Flt):AV:=Flt.v r
def findI_x(l:(List Itm))(group:Int)(I0:Int→Prop)(m0:Int→Nat):Ax Tryz.prog findI_s (Flt):=
 (.loop 0 (findI_n0 l group) I0 m0 ((0):Int) [0] fun (t0:Int) b0 =>
(.br 17 (decide (t0<((l.map Itm.v).length:Int))) (.el 17 Itm.v l (fun R=>Rf (l.map Itm.v) (ck (decide (0≤t0)) (ck (decide (t0<(l.length:Int)))
(∀x1,l[t0.toNat]?=some x1 →
(R x1))))) fun x1 =>
(.br 145 (x1.grp==group) (.ret ((⟨x1.mode,x1.srcs⟩:Flt)))
(.bk 0 b0 ((W (t0+1)):Int) [0])))
(.callP (Nothing_c )
(.ret ((⟨1,[]⟩:Flt))))))
def findI_vc(l:(List Itm))(group:Int)(I0:Int→Prop)(m0:Int→Nat)(r0:Flt):Prop:=(findI_x l group I0 m0).vp findI_e r0
theorem findI_p(l:List Itm)(g:Int)(ok:findI_a l g):∃I m,findI_vc l g I m (⟨(told l g).1,(told l g).2⟩:Flt):=by
 simp only [findI_a,okU,Blk.ok,plainV,List.length_map] at ok
 refine ⟨fun t=>∃k:Nat,t=k∧k≤l.length∧∀x∈l.take k,x.grp≠g,fun t=>l.length-t.toNat,?_⟩
 dsimp only [findI_vc,findI_x,findI_s,Ax.vp,Ax.vc];simp only [vcU,rfU,List.length_map]
 have hle:l.length≤9223372036854775807:=ok.1.1
 refine ⟨⟨0,rfl,by omega,by simp⟩,?_⟩
 rintro _ ⟨k,rfl,hk,hI⟩
 simp only [Int.toNat_natCast]
 refine ⟨fun h1=>⟨by omega,by omega,fun x hx=>⟨fun e=>?_,fun e=>?_⟩⟩,fun h1=>?_⟩
 ·have:told l g=(x.mode,x.srcs):=by
   unfold told
   have hf:l.find? (fun y=>decide (y.grp=g))=some x:=by
    rw [List.find?_eq_some_iff_getElem]
    obtain ⟨hk',hxk⟩:=List.getElem?_eq_some_iff.mp hx
    refine ⟨by simpa using e,k,hk',hxk,fun j hj=>?_⟩
    have:=hI l[j] (List.mem_of_getElem? (i:=j) (by rw [List.getElem?_take,if_pos hj,List.getElem?_eq_getElem (by omega)]))
    simpa using this
   rw [hf]
  rw [this]
 ·rw [W_succ (n:=l.length) (by omega) (by omega)]
  exact ⟨⟨k+1,rfl,by omega,(mem_take_succ hx).mpr ⟨hI,by simpa using e⟩⟩,by omega⟩
 ·rw [List.take_of_length_le (by omega)] at hI
  rw [told_no hI]
def findI_c(l:(List Itm))(group:Int):PC Tryz.prog:=⟨116,[(.s 4),.k],[.sl 4 (l.map Itm.v) false,.int group],findI_e (⟨(told l group).1,(told l group).2⟩:Flt),PSpec.of_ok fun ok=>(findI_p l group ok).elim fun I0 h=>h.elim fun m0 h=>mxP_of (sh:=(.a [.k,(.s 1)])) (enc:=findI_e) (a:=(findI_x l group I0 m0).an) h (by kernel_rfl) (AV.pureB_ok rfl),fnB_ok (by kernel_rfl)⟩
theorem pw_succ{α:Type}(key:α→Int){l:List α}{k:Nat}{x:α}(hx:l[k]?=some x) :
  (l.take (k+1)).Pairwise (fun a b=>key a<key b)↔(l.take k).Pairwise (fun a b=>key a<key b)∧(0<k→∀y,l[k-1]?=some y→key y<key x):=by
 cases k with
 | zero=>simp only [asc_first key hx,List.take_zero,List.Pairwise.nil,true_and,true_iff];intro h;omega
 | succ k =>
  obtain ⟨y,hy⟩:∃y,l[k]?=some y:=⟨_,List.getElem?_eq_getElem (by have:=lt_of_get hx;omega)⟩
  rw [asc_take key hx (by omega) (by simpa using hy)]
  simp only [Nat.add_sub_cancel,hy,Option.some.injEq,Nat.zero_lt_succ,forall_const,forall_eq']
def spkA(s:Spk):Prop:=(1≤s.router∧s.router≤99)∧(1≤s.epoch∧s.epoch≤1000000)∧(0≤s.last∧s.last≤1000000)∧itmsOk s.last s.items∧s.peers.length≤12
instance (s:Spk):Decidable (spkA s):=by unfold spkA;infer_instance
def spkK(s:Spk)(k:Nat):Prop:=spkA s∧(∀p∈s.peers.take k,perOk s.router s.last p)∧(s.peers.take k).Pairwise fun x y=>x.router<y.router
instance (s:Spk) (k:Nat):Decidable (spkK s k):=by unfold spkK;infer_instance
theorem spkK_succ{s:Spk}{k:Nat}{x:Per}(hx:s.peers[k]?=some x):spkK s (k+1)↔spkK s k∧perOk s.router s.last x∧(0<k→∀y,s.peers[k-1]?=some y→y.router<x.router):=by
 unfold spkK
 rw [mem_take_succ hx,pw_succ Per.router hx]
 constructor
 ·rintro ⟨a,⟨b,c⟩,d,e⟩;exact ⟨⟨a,b,d⟩,c,e⟩
 ·rintro ⟨⟨a,b,d⟩,c,e⟩;exact ⟨a,⟨b,c⟩,d,e⟩
theorem spkK_all{s:Spk}:spkK s s.peers.length↔spkOk s:=by
 unfold spkK spkA spkOk
 rw [List.take_length]
 constructor
 ·rintro ⟨⟨a,b,c,d,e⟩,f,g⟩;exact ⟨a,b,c,d,e,f,g⟩
 ·rintro ⟨a,b,c,d,e,f,g⟩;exact ⟨⟨a,b,c,d,e⟩,f,g⟩
def valR6_a(s:Spk):Prop:=okL [.agg [.int s.router,.int s.epoch,.int s.last,.sl 4 (s.items.map Itm.v) false,.sl 3 (s.peers.map Per.v) false]]
def valR6_n0(s:Spk)(t0:Bool):NF:=⟨[(1,.k,.ref 0 0),(3,.k,.bool t0)],[.box (.agg [.int s.router,.int s.epoch,.int s.last,.sl 4 (s.items.map Itm.v) false,.sl 3 (s.peers.map Per.v) false])]⟩
def valR6_n1(s:Spk)(t1:Bool×Int):NF:=⟨[(1,.k,.ref 0 0),(3,.k,.bool t1.1),(33,.k,.sl 3 (s.peers.map Per.v) false),(34,.k,.int ((s.peers.map Per.v).length:Int)),(35,.k,.int t1.2)],[.box (.agg [.int s.router,.int s.epoch,.int s.last,.sl 4 (s.items.map Itm.v) false,.sl 3 (s.peers.map Per.v) false])]⟩
@[reducible] def valR6_s:Nat→Type
 | 0=>Bool
 | 1=>Bool×Int
 | _=>Unit
def valR6_e(r:Int):AV:=.int r
def valR6_x(s:Spk)(I0:Bool→Prop)(I1:Bool→(Bool×Int)→Prop)(m1:Bool→(Bool×Int)→Nat):Ax Tryz.prog valR6_s (Int):=
 (.pass (.join 0 (valR6_n0 s) (fun (t0:Bool)=>I0 t0) (fun b0=>(.callP (inR_c s.router 1 99)
(.br 96 (inR s.router 1 99) (.callP (inR_c s.epoch 1 1000000)
(.br 176 (inR s.epoch 1 1000000) (.callP (inR_c s.last 0 1000000)
(.br 256 (inR s.last 0 1000000) (.callP (itemsR_c s.items s.last)
(.br 368 (itemsB s.items s.last) (.bk 0 b0 ((decide (((s.peers.map Per.v).length:Int)≤12)):Bool) [0])
(.bk 0 b0 ((false):Bool) [0])))
(.bk 0 b0 ((false):Bool) [0])))
(.bk 0 b0 ((false):Bool) [0])))
(.bk 0 b0 ((false):Bool) [0])))) fun (t0:Bool) =>
(.loop 1 (valR6_n1 s) (I1 t0) (m1 t0) (t0,0) [0] fun (t1:Bool×Int) b1 =>
(.br 17 (decide (t1.2<((s.peers.map Per.v).length:Int))) (.el 33 Per.v s.peers (fun R=>Rf (s.peers.map Per.v) (ck (decide (0≤t1.2)) (ck (decide (t1.2<(s.peers.length:Int)))
(∀x1,s.peers[t1.2.toNat]?=some x1 →
(R x1))))) fun x1 =>
(.br 145 t1.1 (.callP (inR_c x1.router 1 99)
(.br 225 (inR x1.router 1 99) (.br 337 (x1.router != s.router) (.callP (inR_c x1.epoch 0 1000000)
(.br 417 (inR x1.epoch 0 1000000) (.callP (inR_c x1.acked 0 s.last)
(.br 529 (inR x1.acked 0 s.last) (.br 577 (t1.2==0) (.bk 1 b1 (true,W (t1.2+1)) [0])
(.el 641 Per.v s.peers (fun R=>Rf (s.peers.map Per.v) (ck (decide (0≤(W (t1.2-1)))) (ck (decide ((W (t1.2-1))<(s.peers.length:Int)))
(∀x2,s.peers[(W (t1.2-1)).toNat]?=some x2 →
(R x2))))) fun x2 =>
(.bk 1 b1 (decide (x2.router<x1.router),W (t1.2+1)) [0])))
(.bk 1 b1 (false,W (t1.2+1)) [0])))
(.bk 1 b1 (false,W (t1.2+1)) [0])))
(.bk 1 b1 (false,W (t1.2+1)) [0]))
(.bk 1 b1 (false,W (t1.2+1)) [0])))
(.bk 1 b1 (false,W (t1.2+1)) [0])))
(.br 49 (!t1.1) (.ret (1))
(.ret (0)))))))
def valR6_vc(s:Spk)(I0:Bool→Prop)(I1:Bool→(Bool×Int)→Prop)(m1:Bool→(Bool×Int)→Nat)(r0:Int):Prop:=(valR6_x s I0 I1 m1).vp valR6_e r0
theorem valR6_p(s:Spk)(ok:valR6_a s):∃I0 I1 m1,valR6_vc s I0 I1 m1 (valS s):=by
 unfold valR6_a at ok
 refine ⟨fun b=>b=decide (spkA s),fun b t=>∃k:Nat,t.2=k∧k≤s.peers.length∧t.1=decide (spkK s k),fun b t=>s.peers.length-t.2.toNat,?_⟩
 dsimp only [valR6_vc,valR6_x,valR6_s,Ax.vp,Ax.vc];simp only [vcU,rfU,List.length_map]
 have hle:s.peers.length≤9223372036854775807:=by
  have h:=ok
  simp only [Spk.v,pers,AV.ok,okL,List.length_map,maxLen_eq] at h
  omega
 simp only [inR,itemsB,decide_eq_true_iff,decide_eq_false_iff_not]
 refine ⟨⟨fun h1=>⟨fun h2=>⟨fun h3=>⟨fun h4=>?_,fun h4=>?_⟩,fun h3=>?_⟩,fun h2=>?_⟩,fun h1=>?_⟩,?_⟩
 ·exact decide_eq_decide.mpr ⟨fun q=>⟨h1,h2,h3,h4,by omega⟩,fun q=>by have:=q.2.2.2.2;omega⟩
 ·exact (decide_eq_false fun q=>h4 q.2.2.2.1).symm
 ·exact (decide_eq_false fun q=>h3 q.2.2.1).symm
 ·exact (decide_eq_false fun q=>h2 q.2.1).symm
 ·exact (decide_eq_false fun q=>h1 q.1).symm
 ·rintro _ rfl
  refine ⟨⟨0,rfl,by omega,decide_eq_decide.mpr (by simp [spkK])⟩,?_⟩
  rintro ⟨_,_⟩ ⟨k,rfl,hk,rfl⟩
  simp only [Int.toNat_natCast]
  refine ⟨fun h1=>⟨by omega,by omega,fun x hx=>?_⟩,fun h1=>?_⟩
  ·rw [W_succ (n:=s.peers.length) (by omega) (by omega)]
   have no:∀{q:Prop},¬q→(spkK s (k+1)→q)→(∃k_1:Nat,((k+1:Nat):Int)=k_1∧k_1≤s.peers.length∧false=decide (spkK s k_1))∧s.peers.length-((k+1:Nat):Int).toNat<s.peers.length-k:=fun hq hi =>
    ⟨⟨k+1,rfl,by omega,(decide_eq_false fun q=>hq (hi q)).symm⟩,by omega⟩
   simp only [decide_eq_true_iff,decide_eq_false_iff_not]
   refine ⟨fun a0=>⟨fun a1=>⟨fun a2=>⟨fun a3=>⟨fun a4=>⟨fun a5=>?_,fun a5=>?_⟩,fun a4=>?_⟩,fun a3=>?_⟩,fun a2=>?_⟩,fun a1=>?_⟩,fun a0=>?_⟩
   ·have e:k=0:=by simpa using a5
    subst e
    refine ⟨⟨1,rfl,by omega,(decide_eq_true ((spkK_succ hx).mpr ⟨a0,⟨a1,by simpa using a2,a3,a4⟩,fun q=>by omega⟩)).symm⟩,by omega⟩
   ·have e:0<k:=by
     rcases Nat.eq_zero_or_pos k with q|q
     ·subst q;simp at a5
     ·exact q
    rw [W_pred' (by omega)]
    have e2:((k:Int)-1).toNat=k-1:=by omega
    rw [e2]
    refine ⟨by omega,by omega,fun y hy=>⟨⟨k+1,rfl,by omega,decide_eq_decide.mpr ?_⟩,by omega⟩⟩
    rw [spkK_succ hx]
    exact ⟨fun q=>⟨a0,⟨a1,by simpa using a2,a3,a4⟩,fun _ z hz=>by rw [hy] at hz;cases hz;exact q⟩,fun q=>q.2.2 e y hy⟩
   ·exact no a4 fun q=>((spkK_succ hx).mp q).2.1.2.2.2
   ·exact no a3 fun q=>((spkK_succ hx).mp q).2.1.2.2.1
   ·exact no (q:=x.router≠s.router) (by simpa using a2) fun q=>((spkK_succ hx).mp q).2.1.2.1
   ·exact no a1 fun q=>((spkK_succ hx).mp q).2.1.1
   ·exact no a0 fun q=>((spkK_succ hx).mp q).1
  ·have e:k=s.peers.length:=by omega
   subst e
   have hv:valS s=if spkOk s then 0 else 1:=rfl
   rw [hv]
   by_cases q:spkOk s
   ·have:=spkK_all.mpr q
    rw [if_pos q];simp [this]
   ·have:¬spkK s s.peers.length:=fun w=>q (spkK_all.mp w)
    rw [if_neg q];simp [this]
def valR6_c(s:Spk):PC Tryz.prog:=⟨105,[(.a [.k,.k,.k,(.s 4),(.s 3)])],[.agg [.int s.router,.int s.epoch,.int s.last,.sl 4 (s.items.map Itm.v) false,.sl 3 (s.peers.map Per.v) false]],valR6_e (valS s),PSpec.of_ok fun ok=>(valR6_p s ok).elim fun I0 h=>h.elim fun I1 h=>h.elim fun m1 h=>mxP_of (sh:=.k) (enc:=valR6_e) (a:=(valR6_x s I0 I1 m1).an) h (by kernel_rfl) (AV.pureB_ok rfl),fnB_ok (by kernel_rfl)⟩
def lsnA(l:Lsn):Prop:=(1≤l.router∧l.router≤99)∧(1≤l.epoch∧l.epoch≤1000000)∧l.heard.length≤12
instance (l:Lsn):Decidable (lsnA l):=by unfold lsnA;infer_instance
def lsnK(l:Lsn)(k:Nat):Prop:=lsnA l∧(∀p∈l.heard.take k,hrdOk l.router p)∧(l.heard.take k).Pairwise fun x y=>x.router<y.router
instance (l:Lsn) (k:Nat):Decidable (lsnK l k):=by unfold lsnK;infer_instance
theorem lsnK_succ{s:Lsn}{k:Nat}{x:Hrd}(hx:s.heard[k]?=some x):lsnK s (k+1)↔lsnK s k∧hrdOk s.router x∧(0<k→∀y,s.heard[k-1]?=some y→y.router<x.router):=by
 unfold lsnK
 rw [mem_take_succ hx,pw_succ Hrd.router hx]
 constructor
 ·rintro ⟨a,⟨b,c⟩,d,e⟩;exact ⟨⟨a,b,d⟩,c,e⟩
 ·rintro ⟨⟨a,b,d⟩,c,e⟩;exact ⟨a,⟨b,c⟩,d,e⟩
theorem lsnK_all{s:Lsn}:lsnK s s.heard.length↔lsnOk s:=by
 unfold lsnK lsnA lsnOk
 rw [List.take_length]
 constructor
 ·rintro ⟨⟨a,b,e⟩,f,g⟩;exact ⟨a,b,e,f,g⟩
 ·rintro ⟨a,b,e,f,g⟩;exact ⟨⟨a,b,e⟩,f,g⟩
def valLR_a(l:Lsn):Prop:=okL [.agg [.int l.router,.int l.epoch,.sl 4 (l.heard.map Hrd.v) false]]
def valLR_n0(l:Lsn)(t0:Bool):NF:=⟨[(1,.k,.ref 0 0),(3,.k,.bool t0)],[.box (.agg [.int l.router,.int l.epoch,.sl 4 (l.heard.map Hrd.v) false])]⟩
def valLR_n1(l:Lsn)(t1:Bool×Int):NF:=⟨[(1,.k,.ref 0 0),(3,.k,.bool t1.1),(21,.k,.sl 4 (l.heard.map Hrd.v) false),(22,.k,.int ((l.heard.map Hrd.v).length:Int)),(23,.k,.int t1.2)],[.box (.agg [.int l.router,.int l.epoch,.sl 4 (l.heard.map Hrd.v) false])]⟩
@[reducible] def valLR_s:Nat→Type
 | 0=>Bool
 | 1=>Bool×Int
 | _=>Unit
def valLR_e(r:Int):AV:=.int r
def valLR_x(l:Lsn)(I0:Bool→Prop)(I1:Bool→(Bool×Int)→Prop)(m1:Bool→(Bool×Int)→Nat):Ax Tryz.prog valLR_s (Int):=
 (.pass (.join 0 (valLR_n0 l) (fun (t0:Bool)=>I0 t0) (fun b0=>(.callP (inR_c l.router 1 99)
(.br 96 (inR l.router 1 99) (.callP (inR_c l.epoch 1 1000000)
(.br 176 (inR l.epoch 1 1000000) (.bk 0 b0 ((decide (((l.heard.map Hrd.v).length:Int)≤12)):Bool) [0])
(.bk 0 b0 ((false):Bool) [0])))
(.bk 0 b0 ((false):Bool) [0])))) fun (t0:Bool) =>
(.loop 1 (valLR_n1 l) (I1 t0) (m1 t0) (t0,0) [0] fun (t1:Bool×Int) b1 =>
(.br 17 (decide (t1.2<((l.heard.map Hrd.v).length:Int))) (.el 33 Hrd.v l.heard (fun R=>Rf (l.heard.map Hrd.v) (ck (decide (0≤t1.2)) (ck (decide (t1.2<(l.heard.length:Int)))
(∀x1,l.heard[t1.2.toNat]?=some x1 →
(R x1))))) fun x1 =>
(.br 145 t1.1 (.callP (inR_c x1.router 1 99)
(.br 225 (inR x1.router 1 99) (.br 337 (x1.router != l.router) (.callP (inR_c x1.epoch 1 1000000)
(.br 417 (inR x1.epoch 1 1000000) (.callP (inR_c x1.ver 0 1000000)
(.br 497 (inR x1.ver 0 1000000) (.callP (itemsR_c x1.items x1.ver)
(.br 609 (itemsB x1.items x1.ver) (.br 657 (t1.2==0) (.bk 1 b1 (true,W (t1.2+1)) [0])
(.el 721 Hrd.v l.heard (fun R=>Rf (l.heard.map Hrd.v) (ck (decide (0≤(W (t1.2-1)))) (ck (decide ((W (t1.2-1))<(l.heard.length:Int)))
(∀x2,l.heard[(W (t1.2-1)).toNat]?=some x2 →
(R x2))))) fun x2 =>
(.bk 1 b1 (decide (x2.router<x1.router),W (t1.2+1)) [0])))
(.bk 1 b1 (false,W (t1.2+1)) [0])))
(.bk 1 b1 (false,W (t1.2+1)) [0])))
(.bk 1 b1 (false,W (t1.2+1)) [0])))
(.bk 1 b1 (false,W (t1.2+1)) [0]))
(.bk 1 b1 (false,W (t1.2+1)) [0])))
(.bk 1 b1 (false,W (t1.2+1)) [0])))
(.br 49 (!t1.1) (.ret (1))
(.ret (0)))))))
def valLR_vc(l:Lsn)(I0:Bool→Prop)(I1:Bool→(Bool×Int)→Prop)(m1:Bool→(Bool×Int)→Nat)(r0:Int):Prop:=(valLR_x l I0 I1 m1).vp valLR_e r0
theorem valLR_p(s:Lsn)(ok:valLR_a s):∃I0 I1 m1,valLR_vc s I0 I1 m1 (valL s):=by
 unfold valLR_a at ok
 refine ⟨fun b=>b=decide (lsnA s),fun b t=>∃k:Nat,t.2=k∧k≤s.heard.length∧t.1=decide (lsnK s k),fun b t=>s.heard.length-t.2.toNat,?_⟩
 dsimp only [valLR_vc,valLR_x,valLR_s,Ax.vp,Ax.vc];simp only [vcU,rfU,List.length_map]
 have hle:s.heard.length≤9223372036854775807:=by
  have h:=ok
  simp only [Lsn.v,hrds,AV.ok,okL,List.length_map,maxLen_eq] at h
  omega
 simp only [inR,itemsB,decide_eq_true_iff,decide_eq_false_iff_not]
 refine ⟨⟨fun h1=>⟨fun h2=>?_,fun h2=>?_⟩,fun h1=>?_⟩,?_⟩
 ·exact decide_eq_decide.mpr ⟨fun q=>⟨h1,h2,by omega⟩,fun q=>by have:=q.2.2;omega⟩
 ·exact (decide_eq_false fun q=>h2 q.2.1).symm
 ·exact (decide_eq_false fun q=>h1 q.1).symm
 ·rintro _ rfl
  refine ⟨⟨0,rfl,by omega,decide_eq_decide.mpr (by simp [lsnK])⟩,?_⟩
  rintro ⟨_,_⟩ ⟨k,rfl,hk,rfl⟩
  simp only [Int.toNat_natCast]
  refine ⟨fun h1=>⟨by omega,by omega,fun x hx=>?_⟩,fun h1=>?_⟩
  ·rw [W_succ (n:=s.heard.length) (by omega) (by omega)]
   have no:∀{q:Prop},¬q→(lsnK s (k+1)→q)→(∃k_1:Nat,((k+1:Nat):Int)=k_1∧k_1≤s.heard.length∧false=decide (lsnK s k_1))∧s.heard.length-((k+1:Nat):Int).toNat<s.heard.length-k:=fun hq hi =>
    ⟨⟨k+1,rfl,by omega,(decide_eq_false fun q=>hq (hi q)).symm⟩,by omega⟩
   simp only [decide_eq_true_iff,decide_eq_false_iff_not]
   refine ⟨fun a0=>⟨fun a1=>⟨fun a2=>⟨fun a3=>⟨fun a4=>⟨fun b4=>⟨fun a5=>?_,fun a5=>?_⟩,fun b4=>?_⟩,fun a4=>?_⟩,fun a3=>?_⟩,fun a2=>?_⟩,fun a1=>?_⟩,fun a0=>?_⟩
   ·have e:k=0:=by simpa using a5
    subst e
    refine ⟨⟨1,rfl,by omega,(decide_eq_true ((lsnK_succ hx).mpr ⟨a0,⟨a1,by simpa using a2,a3,a4,b4⟩,fun q=>by omega⟩)).symm⟩,by omega⟩
   ·have e:0<k:=by
     rcases Nat.eq_zero_or_pos k with q|q
     ·subst q;simp at a5
     ·exact q
    rw [W_pred' (by omega)]
    have e2:((k:Int)-1).toNat=k-1:=by omega
    rw [e2]
    refine ⟨by omega,by omega,fun y hy=>⟨⟨k+1,rfl,by omega,decide_eq_decide.mpr ?_⟩,by omega⟩⟩
    rw [lsnK_succ hx]
    exact ⟨fun q=>⟨a0,⟨a1,by simpa using a2,a3,a4,b4⟩,fun _ z hz=>by rw [hy] at hz;cases hz;exact q⟩,fun q=>q.2.2 e y hy⟩
   ·exact no b4 fun q=>((lsnK_succ hx).mp q).2.1.2.2.2.2
   ·exact no a4 fun q=>((lsnK_succ hx).mp q).2.1.2.2.2.1
   ·exact no a3 fun q=>((lsnK_succ hx).mp q).2.1.2.2.1
   ·exact no (q:=x.router≠s.router) (by simpa using a2) fun q=>((lsnK_succ hx).mp q).2.1.2.1
   ·exact no a1 fun q=>((lsnK_succ hx).mp q).2.1.1
   ·exact no a0 fun q=>((lsnK_succ hx).mp q).1
  ·have e:k=s.heard.length:=by omega
   subst e
   have hv:valL s=if lsnOk s then 0 else 1:=rfl
   rw [hv]
   by_cases q:lsnOk s
   ·have:=lsnK_all.mpr q
    rw [if_pos q];simp [this]
   ·have:¬lsnK s s.heard.length:=fun w=>q (lsnK_all.mp w)
    rw [if_neg q];simp [this]
def valLR_c(l:Lsn):PC Tryz.prog:=⟨106,[(.a [.k,.k,(.s 4)])],[.agg [.int l.router,.int l.epoch,.sl 4 (l.heard.map Hrd.v) false]],valLR_e (valL l),PSpec.of_ok fun ok=>(valLR_p l ok).elim fun I0 h=>h.elim fun I1 h=>h.elim fun m1 h=>mxP_of (sh:=.k) (enc:=valLR_e) (a:=(valLR_x l I0 I1 m1).an) h (by kernel_rfl) (AV.pureB_ok rfl),fnB_ok (by kernel_rfl)⟩
def newR_a(router:Int)(epoch:Int)(peers:(List Int)):Prop:=okL [.int router,.int epoch,.sl 1 (peers.map AV.int) false]
def newR_n0(router:Int)(epoch:Int)(peers:(List Int))(t0:Int×(List Per)):NF:=⟨[(6,.k,.ref 0 0),(8,.k,.ref 1 0),(19,.k,.sl 1 (peers.map AV.int) false),(20,.k,.int ((peers.map AV.int).length:Int)),(21,.k,.int t0.1)],[.box (.agg [.int 0,.int 0,.int 0,.sl 0 [] true,.sl 0 [] true]),.box (.agg [.int router,.int epoch,.int 0,.sl 0 [] true,.vec 2]),.vec 3 (t0.2.map Per.v) (pureBL_map (fun _=>rfl) t0.2)]⟩
@[reducible] def newR_s:Nat→Type
 | 0=>Int×(List Per)
 | _=>Unit
def newR_e(r:Spk×Int):AV:=.tup [Spk.v r.1,.int r.2]
def newR_x(router:Int)(epoch:Int)(peers:(List Int))(I0:(Int×(List Per))→Prop)(m0:(Int×(List Per))→Nat):Ax Tryz.prog newR_s (Spk×Int):=
 (.br 160 (decide (12<((peers.map AV.int).length:Int))) (.ret ((⟨0,0,0,[],[]⟩:Spk),1))
(.cmdL (.nilB 80 4 3) (.loop 0 (newR_n0 router epoch peers) I0 m0 (0,[]) [0,80,208] fun (t0:Int×(List Per)) b0 =>
(.br 19 (decide (t0.1<((peers.map AV.int).length:Int))) (.el 19 AV.int peers (fun R=>Rf (peers.map AV.int) (ck (decide (0≤t0.1)) (ck (decide (t0.1<(peers.length:Int)))
(∀x1,peers[t0.1.toNat]?=some x1 →
(R x1))))) fun x1 =>
(.say (fun R=>Rf (α:=List AV) (t0.2.map Per.v) (Rf (α:=List AV) [.agg [.int x1,.int 0,.int 0]]
(ck (decide (t0.2.length+1≤1048576))
R))) (.app 147 Per.v t0.2 [(⟨x1,0,0⟩:Per)]
(.bk 0 b0 (W (t0.1+1),t0.2++[(⟨x1,0,0⟩:Per)]) [0,1,147]))))
(.callP (valR6_c (⟨router,epoch,0,[],t0.2⟩:Spk))
(.say (ck (pureBLs [(t0.2.map Per.v)])) (.br 99 ((valS (⟨router,epoch,0,[],t0.2⟩:Spk)) != 0) (.ret ((⟨0,0,0,[],[]⟩:Spk),valS (⟨router,epoch,0,[],t0.2⟩:Spk)))
(.say (Rf (t0.2.map Per.v)) (.cmdL (.frzE 2 (t0.2.map Per.v) (pureBL_map (fun _=>rfl) t0.2)) (.ret ((⟨router,epoch,0,[],t0.2⟩:Spk),0)))))))))))
def newR_vc(router:Int)(epoch:Int)(peers:(List Int))(I0:(Int×(List Per))→Prop)(m0:(Int×(List Per))→Nat)(r0:Spk×Int):Prop:=(newR_x router epoch peers I0 m0).vp newR_e r0
theorem newR_p(r k:Int)(p:List Int)(ok:newR_a r k p):∃I m,newR_vc r k p I m (new r k p):=by
 refine ⟨fun t=>∃j:Nat,t.1=j∧j≤p.length∧t.2=(p.take j).map fun x=>⟨x,0,0⟩,fun t=>p.length-t.1.toNat,?_⟩
 dsimp only [newR_vc,newR_x,newR_s,Ax.vp,Ax.vc];simp only [vcU,rfU,List.length_map]
 have hn:new r k p=if spkOk ⟨r,k,0,[],p.map fun x=>⟨x,0,0⟩⟩ then (⟨r,k,0,[],p.map fun x=>⟨x,0,0⟩⟩,0) else (spk0,1):=rfl
 refine ⟨fun h=>?_,fun h=>⟨⟨0,rfl,by omega,rfl⟩,?_⟩⟩
 ·rw [hn,if_neg]
  ·rfl
  ·intro q
   have:=q.2.2.2.2.1
   simp only [List.length_map] at this;omega
 ·rintro ⟨_,_⟩ ⟨j,rfl,hj,rfl⟩
  simp only [Int.toNat_natCast]
  refine ⟨fun h1=>⟨by omega,by omega,fun x hx=>⟨by simp;omega,⟨j+1,?_,by omega,?_⟩,?_⟩⟩,fun h1=>⟨pureBLs_one (pureBL_map (fun _=>rfl) _),?_⟩⟩
  ·rw [W_succ (n:=p.length) (by omega) (by omega)]
  ·rw [take_succ hx,List.map_append];rfl
  ·rw [W_succ (n:=p.length) (by omega) (by omega)];omega
  ·rw [List.take_of_length_le (by omega),hn]
   have hv:valS ⟨r,k,0,[],p.map fun x=>⟨x,0,0⟩⟩=if spkOk ⟨r,k,0,[],p.map fun x=>⟨x,0,0⟩⟩ then 0 else 1:=rfl
   rw [hv]
   by_cases q:spkOk ⟨r,k,0,[],p.map fun x=>⟨x,0,0⟩⟩
   ·rw [if_pos q,if_pos q];simp
   ·rw [if_neg q,if_neg q];simp [spk0]
def newR_c(router:Int)(epoch:Int)(peers:(List Int)):PC Tryz.prog:=⟨81,[.k,.k,(.s 1)],[.int router,.int epoch,.sl 1 (peers.map AV.int) false],newR_e (new router epoch peers),PSpec.of_ok fun ok=>(newR_p router epoch peers ok).elim fun I0 h=>h.elim fun m0 h=>mxP_of (sh:=(.a [(.a [.k,.k,.k,(.s 4),(.s 3)]),.k])) (enc:=newR_e) (a:=(newR_x router epoch peers I0 m0).an) h (by kernel_rfl) (AV.pureB_ok rfl),fnB_ok (by kernel_rfl)⟩
def restartR_a(s:Spk)(wants:(List Wnt)):Prop:=okL [.agg [.int s.router,.int s.epoch,.int s.last,.sl 4 (s.items.map Itm.v) false,.sl 3 (s.peers.map Per.v) false],.sl 3 (wants.map Wnt.v) false]
def restartR_n0(s:Spk)(wants:(List Wnt))(t0:Int×(List Itm)):NF:=⟨[(2,.k,.ref 0 0),(4,.k,.ref 1 0),(8,.k,.ref 2 0),(37,.k,.sl 3 (wants.map Wnt.v) false),(38,.k,.int ((wants.map Wnt.v).length:Int)),(39,.k,.int t0.1)],[.box (.agg [.int s.router,.int s.epoch,.int s.last,.sl 4 (s.items.map Itm.v) false,.sl 3 (s.peers.map Per.v) false]),.box (.agg [.int 0,.int 0,.int 0,.sl 0 [] true,.sl 0 [] true]),.box (.agg [.int s.router,.int (W (s.epoch+1)),.int ((wants.map Wnt.v).length:Int),.vec 3,.sl 0 [] true]),.vec 4 (t0.2.map Itm.v) (pureBL_map (fun _=>rfl) t0.2)]⟩
def restartR_n1(s:Spk)(wants:(List Wnt))(t0:Int×(List Itm))(t1:Int×(List Per)):NF:=⟨[(4,.k,.ref 0 0),(8,.k,.ref 1 0),(58,.k,.sl 3 (s.peers.map Per.v) false),(59,.k,.int ((s.peers.map Per.v).length:Int)),(60,.k,.int t1.1)],[.box (.agg [.int 0,.int 0,.int 0,.sl 0 [] true,.sl 0 [] true]),.box (.agg [.int s.router,.int (W (s.epoch+1)),.int ((wants.map Wnt.v).length:Int),.vec 2,.vec 3]),.vec 4 (t0.2.map Itm.v) (pureBL_map (fun _=>rfl) t0.2),.vec 3 (t1.2.map Per.v) (pureBL_map (fun _=>rfl) t1.2)]⟩
@[reducible] def restartR_s:Nat→Type
 | 0=>Int×(List Itm)
 | 1=>Int×(List Per)
 | _=>Unit
def restartR_e(r:Spk×Int):AV:=.tup [Spk.v r.1,.int r.2]
def restartR_x(s:Spk)(wants:(List Wnt))(I0:(Int×(List Itm))→Prop)(m0:(Int×(List Itm))→Nat)(I1:Int×(List Itm)→(Int×(List Per))→Prop)(m1:Int×(List Itm)→(Int×(List Per))→Nat):Ax Tryz.prog restartR_s (Spk×Int):=
 (.callP (valR6_c s)
(.br 128 ((valS s) != 0) (.ret ((⟨0,0,0,[],[]⟩:Spk),valS s))
(.callP (valR_c wants)
(.br 208 ((wErr false wants) != 0) (.ret ((⟨0,0,0,[],[]⟩:Spk),wErr false wants))
(.br 256 (decide (1000000≤s.epoch)) (.ret ((⟨0,0,0,[],[]⟩:Spk),3))
(.cmdL (.nilB 384 3 4) (.loop 0 (restartR_n0 s wants) I0 m0 (0,[]) [0,16,384,464] fun (t0:Int×(List Itm)) b0 =>
(.br 20 (decide (t0.1<((wants.map Wnt.v).length:Int))) (.el 36 Wnt.v wants (fun R=>Rf (wants.map Wnt.v) (ck (decide (0≤t0.1)) (ck (decide (t0.1<(wants.length:Int)))
(∀x1,wants[t0.1.toNat]?=some x1 →
(R x1))))) fun x1 =>
(.say (fun R=>Rf (α:=List AV) (t0.2.map Itm.v) (Rf (α:=List AV) [.agg [.int (W (t0.1+1)),.int x1.grp,.int x1.mode,.sl 1 (x1.srcs.map AV.int) false]]
(ck (decide (t0.2.length+1≤1048576))
R))) (.app 276 Itm.v t0.2 [(⟨W (t0.1+1),x1.grp,x1.mode,x1.srcs⟩:Itm)]
(.bk 0 b0 (W (t0.1+1),t0.2++[(⟨W (t0.1+1),x1.grp,x1.mode,x1.srcs⟩:Itm)]) [0,1,2,276]))))
(.cmdL (.nilB 2 4 3) (.loop 1 (restartR_n1 s wants t0) (I1 t0) (m1 t0) (0,[]) [1,2,3,84] fun (t1:Int×(List Per)) b1 =>
(.br 20 (decide (t1.1<((s.peers.map Per.v).length:Int))) (.el 20 Per.v s.peers (fun R=>Rf (s.peers.map Per.v) (ck (decide (0≤t1.1)) (ck (decide (t1.1<(s.peers.length:Int)))
(∀x2,s.peers[t1.1.toNat]?=some x2 →
(R x2))))) fun x2 =>
(.say (fun R=>Rf (α:=List AV) (t1.2.map Per.v) (Rf (α:=List AV) [.agg [.int x2.router,.int 0,.int 0]]
(ck (decide (t1.2.length+1≤1048576))
R))) (.app 180 Per.v t1.2 [(⟨x2.router,0,0⟩:Per)]
(.bk 1 b1 (W (t1.1+1),t1.2++[(⟨x2.router,0,0⟩:Per)]) [0,1,2,180]))))
(.say (Rf (t1.2.map Per.v)) (.cmdL (.frzE 3 (t1.2.map Per.v) (pureBL_map (fun _=>rfl) t1.2)) (.say (Rf (t0.2.map Itm.v)) (.cmdL (.frzE 2 (t0.2.map Itm.v) (pureBL_map (fun _=>rfl) t0.2)) (.ret ((⟨s.router,W (s.epoch+1),((wants.map Wnt.v).length:Int),t0.2,t1.2⟩:Spk),0)))))))))))))))))
def restartR_vc(s:Spk)(wants:(List Wnt))(I0:(Int×(List Itm))→Prop)(m0:(Int×(List Itm))→Nat)(I1:Int×(List Itm)→(Int×(List Per))→Prop)(m1:Int×(List Itm)→(Int×(List Per))→Nat)(r0:Spk×Int):Prop:=(restartR_x s wants I0 m0 I1 m1).vp restartR_e r0
theorem restartR_p(s:Spk)(w:List Wnt)(ok:restartR_a s w):∃I0 m0 I1 m1,restartR_vc s w I0 m0 I1 m1 (restart s w):=by
 refine ⟨fun t=>∃j:Nat,t.1=j∧j≤w.length∧t.2=(w.mapIdx wItm).take j,fun t=>w.length-t.1.toNat,
  fun t0 t=>∃j:Nat,t.1=j∧j≤s.peers.length∧t.2=(s.peers.take j).map fun p=>⟨p.router,0,0⟩,fun t0 t=>s.peers.length-t.1.toNat,?_⟩
 dsimp only [restartR_vc,restartR_x,restartR_s,Ax.vp,Ax.vc];simp only [vcU,rfU,List.length_map]
 have hv:valS s=if spkOk s then 0 else 1:=rfl
 rw [hv]
 unfold restart
 by_cases h1:spkOk s
 case neg=>rw [if_neg h1,if_pos h1];simp [spk0]
 rw [if_pos h1,if_neg (not_not_intro h1)]
 refine ⟨fun q=>by simp at q,fun _=>⟨fun h2=>?_,fun h2=>?_⟩⟩
 ·have h2:wErr false w≠0:=by simpa using h2
  rw [if_pos h2];rfl
 have h2:wErr false w=0:=by simpa using h2
 rw [if_neg (not_not_intro h2)]
 have he:=h1.2.1
 refine ⟨fun h3=>?_,fun h3=>⟨⟨0,rfl,by omega,by simp⟩,?_⟩⟩
 ·rw [if_pos (by omega)];rfl
 rw [if_neg (by omega)]
 obtain ⟨w1,_⟩:=wErr_zero.mp h2
 rintro ⟨_,_⟩ ⟨j,rfl,hj,rfl⟩
 simp only [Int.toNat_natCast]
 refine ⟨fun h4=>⟨by omega,by omega,fun x hx=>?_⟩,fun h4=>⟨⟨0,rfl,by omega,rfl⟩,?_⟩⟩
 ·rw [W_succ (n:=w.length) (by omega) (by omega)]
  refine ⟨by simp;omega,⟨j+1,rfl,by omega,?_⟩,by omega⟩
  have:(w.mapIdx wItm)[j]?=some (wItm j x):=by rw [List.getElem?_mapIdx,hx];rfl
  rw [take_succ this]
  rfl
 ·rintro ⟨_,_⟩ ⟨i,rfl,hi,rfl⟩
  have hp:=h1.2.2.2.2.1
  simp only [Int.toNat_natCast]
  refine ⟨fun h5=>⟨by omega,by omega,fun x hx=>?_⟩,fun h5=>?_⟩
  ·rw [W_succ (n:=s.peers.length) (by omega) (by omega)]
   refine ⟨by simp;omega,⟨i+1,rfl,by omega,?_⟩,by omega⟩
   rw [take_succ hx,List.map_append];rfl
  ·rw [List.take_of_length_le (by simp;omega),List.take_of_length_le (l:=s.peers) (by omega),W_eq (by omega)]
def restartR_c(s:Spk)(wants:(List Wnt)):PC Tryz.prog:=⟨119,[(.a [.k,.k,.k,(.s 4),(.s 3)]),(.s 3)],[.agg [.int s.router,.int s.epoch,.int s.last,.sl 4 (s.items.map Itm.v) false,.sl 3 (s.peers.map Per.v) false],.sl 3 (wants.map Wnt.v) false],restartR_e (restart s wants),PSpec.of_ok fun ok=>(restartR_p s wants ok).elim fun I0 h=>h.elim fun m0 h=>h.elim fun I1 h=>h.elim fun m1 h=>mxP_of (sh:=(.a [(.a [.k,.k,.k,(.s 4),(.s 3)]),.k])) (enc:=restartR_e) (a:=(restartR_x s wants I0 m0 I1 m1).an) h (by kernel_rfl) (AV.pureB_ok rfl),fnB_ok (by kernel_rfl)⟩
def others(l:List Int)(n:Int):List Int:=l.filter fun x=>decide (x≠n)
structure AtK (R:List Int) (i:Nat) (s:Spk) (l:Lsn):Prop where
  fs:spkOk s
  fasc:0<i→∀y,R[i-1]?=some y→y<s.router
  fp:s.peers.map Per.router=others R s.router
  fl:lsnOk l
  fr:l.router=s.router
  fh:∀h∈l.heard,h.router∈R
theorem rtrs_get{sp:List Spk}{i:Nat}{s:Spk}(h:sp[i]?=some s):(rtrs sp)[i]?=some s.router:=by
 unfold rtrs;rw [List.getElem?_map,h];rfl
theorem rtrs_len{sp:List Spk}:(rtrs sp).length=sp.length:=List.length_map ..
theorem ovl_iff{o:Ovl}:ovlOk o↔o.sp.length≤12∧o.ls.length=o.sp.length∧(∀i s l,o.sp[i]?=some s→o.ls[i]?=some l→AtK (rtrs o.sp) i s l)∧∀x∈o.fl,sigIn (rtrs o.sp) x:=by
 constructor
 ·rintro ⟨h,hf⟩
  refine ⟨by rw [←rtrs_len];exact h.len,?_,fun i s l hs hl=>?_,hf⟩
  ·have:=congrArg List.length h.lsr
   rw [List.length_map,rtrs_len] at this;exact this
  ·obtain ⟨s1,s2⟩:=h.spo s (mem_of_get hs)
   obtain ⟨l1,l2⟩:=h.lso l (mem_of_get hl)
   refine ⟨s1,fun hi y hy=>?_,s2,l1,?_,l2⟩
   ·unfold rtrs at hy
    rw [List.getElem?_map] at hy
    cases hz:o.sp[i-1]? with
    | none=>rw [hz] at hy;simp at hy
    | some z =>
     rw [hz] at hy
     have hy:z.router=y:=by simpa using hy
     have:=pw_get h.asc (show i-1<i by omega) hz hs
     omega
   ·have h1:=rtrs_get hs
    rw [←h.lsr,List.getElem?_map,hl] at h1
    simpa using h1
 ·rintro ⟨h1,h2,h3,h4⟩
  have hget:∀{i:Nat} {s:Spk},o.sp[i]?=some s→∃l,o.ls[i]?=some l:=fun {i s} hs=>⟨_,List.getElem?_eq_getElem (by have:=lt_of_get hs;omega)⟩
  have hgetL:∀{i:Nat} {l:Lsn},o.ls[i]?=some l→∃s,o.sp[i]?=some s:=fun {i l} hs=>⟨_,List.getElem?_eq_getElem (by have:=lt_of_get hs;omega)⟩
  have hasc:∀k:Nat,k≤o.sp.length→(o.sp.take k).Pairwise fun x y=>x.router<y.router:=by
   intro k
   induction k with
   | zero=>intro _;simp
   | succ k ih =>
    intro hk
    have hs:o.sp[k]?=some o.sp[k]:=List.getElem?_eq_getElem (by omega)
    obtain ⟨l,hl⟩:=hget hs
    refine (pw_succ Spk.router hs).mpr ⟨ih (by omega),fun hp y hy=>?_⟩
    exact (h3 k _ l hs hl).fasc hp _ (rtrs_get hy)
  have ha:=hasc o.sp.length (Nat.le_refl _)
  rw [List.take_length] at ha
  refine ⟨⟨by rw [rtrs_len];exact h1,rfl,?_,ha,fun s hs=>?_,fun l hl=>?_⟩,h4⟩
  ·refine List.ext_getElem (by rw [List.length_map,rtrs_len,h2]) fun i i1 i2=>?_
   rw [List.length_map] at i1
   have hl:o.ls[i]?=some o.ls[i]:=List.getElem?_eq_getElem i1
   obtain ⟨s,hs⟩:=hgetL hl
   have:=(h3 i s _ hs hl).fr
   rw [List.getElem_map,this]
   have e:=rtrs_get hs
   rw [List.getElem?_eq_getElem i2] at e
   simpa using e.symm
  ·obtain ⟨i,hi,rfl⟩:=List.getElem_of_mem hs
   have hs:o.sp[i]?=some o.sp[i]:=List.getElem?_eq_getElem hi
   obtain ⟨l,hl⟩:=hget hs
   have q:=h3 i _ l hs hl
   exact ⟨q.fs,q.fp⟩
  ·obtain ⟨i,hi,rfl⟩:=List.getElem_of_mem hl
   have hl:o.ls[i]?=some o.ls[i]:=List.getElem?_eq_getElem hi
   obtain ⟨s,hs⟩:=hgetL hl
   have q:=h3 i s _ hs hl
   exact ⟨q.fl,q.fh⟩
theorem sub_eq:∀{l m:List Int},l.Pairwise (·<·)→m.Pairwise (·<·)→(∀x∈l,x∈m)→l.length=m.length→l=m
 | [],m,_,_,_,h=>by cases m with|nil=>rfl|cons y m=>simp at h
 | x::l,[],_,_,_,h=>by simp at h
 | x::l,y::m,h1,h2,h3,h4=>by
  rw [List.pairwise_cons] at h1 h2
  have hl:l.length=m.length:=by simpa using h4
  have hsub:∀z∈l,z∈m:=fun z hz=>by
   rcases List.mem_cons.mp (h3 z (by simp [hz])) with e|e
   ·exfalso
    have hx:=h1.1 z hz
    rcases List.mem_cons.mp (h3 x (by simp)) with q|q
    ·omega
    ·have:=h2.1 x q;omega
   ·exact e
  have e:=sub_eq h1.2 h2.2 hsub hl
  subst e
  congr 1
  rcases List.mem_cons.mp (h3 x (by simp)) with q|q
  ·exact q
  ·have:=h1.1 x q;omega
theorem others_len{R:List Int}(h:R.Nodup){r:Int}(hr:r∈R):(others R r).length+1=R.length:=by
 induction R with
 | nil=>simp at hr
 | cons x R ih =>
  rw [List.nodup_cons] at h
  unfold others
  by_cases e:x=r
  ·subst e
   rw [List.filter_cons_of_neg (by simp),List.filter_eq_self.mpr fun y hy=>by simpa using fun (q:y=x)=>h.1 (q ▸ hy)]
   rfl
  ·rw [List.filter_cons_of_pos (by simpa using e),List.length_cons,List.length_cons]
   have:=ih h.2 (by rcases List.mem_cons.mp hr with q|q;exact absurd q.symm e;exact q)
   unfold others at this
   omega
theorem peers_iff{R:List Int}{s:Spk}(hR:R.Pairwise (·<·))(hs:spkOk s)(hr:s.router∈R) :
  s.peers.map Per.router=others R s.router↔s.peers.length+1=R.length∧∀p∈s.peers,p.router∈R:=by
 have hn:R.Nodup:=hR.imp fun q=>by omega
 have ho:=others_len hn hr
 constructor
 ·intro h
  have e:=congrArg List.length h
  rw [List.length_map] at e
  refine ⟨by omega,fun p hp=>?_⟩
  have:p.router∈s.peers.map Per.router:=List.mem_map.mpr ⟨p,hp,rfl⟩
  rw [h] at this
  exact (List.mem_filter.mp this).1
 ·rintro ⟨h1,h2⟩
  refine sub_eq ?_ (hR.filter _) (fun x hx=>?_) (by rw [List.length_map];omega)
  ·rw [List.pairwise_map];exact hs.2.2.2.2.2.2
  ·obtain ⟨p,hp,rfl⟩:=List.mem_map.mp hx
   exact List.mem_filter.mpr ⟨h2 p hp,by simpa using (hs.2.2.2.2.2.1 p hp).2.1⟩
end Go.Proofs.YthhpaedpnjdnbaaGreatDoor
