/- Texts joined: G16 U5 U8 U20 U9 U10 U11 U21 U14 U18 U19 U23 U13 G18 G19 U15 G20 G21. -/
import Derived.Test.YthhpaedpnjdnbaaGreatDoorSh
import Derived.Test.YthhpaedpnjdnbaaGreatDoorChecked
import Derived.Test.YthhpaedpnjdnbaaGreatDoorQA6
set_option linter.unusedVariables false
set_option linter.unusedSimpArgs false
namespace Go.Proofs.YthhpaedpnjdnbaaGreatDoor
open Go Go.Am
open Go.Shelf Go.RowKit Go.Lib Go.Sort in
theorem C9(a b:Int)(x1 x2 y1 y2:Value)(w:World)(hx:x1.oneCell'=true∧x2.oneCell'=true)(hy:y1.oneCell'=true∧y2.oneCell'=true) :
  Calls Tryz.prog 137 #[.agg #[.int .i64 a,x1,x2],.agg #[.int .i64 b,y1,y2]] w λe w'=>e=.returned (.int .i64 (Lib.compareInt a b))∧∃q os',w'=grow (w.drewN q) os':=by
 have hcon:=λW'=>AnyG.cmp_Compare_int Tryz.cmpI a b W'
 change ∀W',Calls Tryz.prog 132 _ _ _ at hcon
 generalize Lib.compareInt a b=r at hcon ⊢
 go_enter Tryz.func137,Tryz.ntmps137
 go_wp2_with (go_at_call 132;refine(hcon _).mono ?_;rintro e w' ⟨rfl,rfl⟩)
 go_ret
 exact⟨rfl,0,_,by rw[alloc_eq_grow,alloc_eq_grow,grow_grow];rfl⟩
def wY(l:List Wnt):Prop:=l.length≤1000000∧l.Pairwise λa b=>a.grp≠b.grp
def mz(l:List Wnt):List Wnt:=l.mergeSort λa b=>decide (a.grp≤b.grp)
theorem ld(l:List Wnt):(mz l).Perm l:=List.mergeSort_perm _ _
theorem wd{l:List Wnt}(h:wY l):(mz l).Pairwise λa b=>a.grp<b.grp:=by
 have h1:(mz l).Pairwise λa b=>decide (a.grp≤b.grp)=true:=List.pairwise_mergeSort (λa b c h1 h2=>by simp at *;omega) (λa b=>by simp;omega) l
 have h2:(mz l).Pairwise λa b=>a.grp≠b.grp:=(List.Perm.pairwise_iff (λh=>Ne.symm h) (ld l)).mpr h.2
 exact(h1.and h2).imp λ⟨h1,h2⟩=>by simp at h1;omega
open Go.Shelf Go.RowKit Go.Lib Go.Sort in
theorem Aq(l:List Wnt)(h:wY l):bl Tryz.prog 136 [.vec 0,.func 137 []] [.vec 3 (l.map Wnt.v)] (.tup []) [some (.vec 3 ((mz l).map Wnt.v))]:=by
 refine Ap Tryz.sortW Wnt.v Wnt.grp 3 (by omega) (λ_=>by kernel_rfl) (λ_=>by kernel_rfl) (λx=>⟨_,rfl⟩) 137 (enters_of Tryz.func137 (by kernel_rfl) rfl) ?_ l (mz l) (ld l) (wd h) h.1
 intro a b xs ys w hx hy ox oy
 match xs,hx with
 | [x1,x2],_ =>
 match ys,hy with
 | [y1,y2],_=>exact C9 a b x1 x2 y1 y2 w ⟨ox x1 (by simp),ox x2 (by simp)⟩ ⟨oy y1 (by simp),oy y2 (by simp)⟩
def Pz(l:List Wnt)(h:wY l):HC Tryz.prog:=⟨136,[.k,.k],[.vec 0,.func 137 []],[.vec 3 (l.map Wnt.v)],.tup [],[some (.vec 3 ((mz l).map Wnt.v))],Aq l h,ai (by kernel_rfl),
 fk.of (by simp[hcB,cJ,AV.belB,allB,eI,dQ,ab (v:=Wnt.v) (λ_=>rfl)])⟩
def qn(f:Flt):Bool:=f.mode==1 && (f.srcs.length:Int)==0
theorem xg{f:Flt}:qn f=true↔f.mode=1∧f.srcs=[]:=by
 simp[qn]
def Vs(f:Flt):=okL [.agg [.int f.mode,.sl 1 (f.srcs.map AV.int) false]]
def Bn(r:Bool):AV:=.bool r
def Bm(f:Flt):Ax Tryz.prog noS (Bool):=
 (.br 96 (f.mode==1) (.ret (((f.srcs.map AV.int).length:Int)==0))
(.ret (false)))
def EL(f:Flt)(r0:Bool):=(Bm f).vp Bn r0
theorem Vq(f:Flt)(ok:Vs f):EL f (qn f):=by
 dsimp only[EL,Bm,noS,Ax.vp,Ax.vc];simp only[vcU,rfU,List.length_map]
 by_cases h:f.mode=1<;>simp[qn,h]
def Vr(f:Flt):PC Tryz.prog:=⟨134,[(.a [.k,(.s 1)])],[.agg [.int f.mode,.sl 1 (f.srcs.map AV.int) false]],Bn (qn f),ao.of_ok λok=>aj (sh:=.k) (enc:=Bn) (a:=(Bm f).an) (Vq f ok) (by kernel_rfl) (AV.pureB_ok rfl),ai (by kernel_rfl)⟩
def wOf(l:List Itm):List Wnt:=(l.filter λx=>!qn ⟨x.mode,x.srcs⟩).map λx=>⟨x.grp,x.mode,x.srcs⟩
theorem vO(l:List Itm)(x:Itm):wOf (l++[x])=if qn ⟨x.mode,x.srcs⟩=true then wOf l else wOf l++[⟨x.grp,x.mode,x.srcs⟩]:=by
 unfold wOf
 rw[List.filter_append,List.map_append]
 by_cases h:qn ⟨x.mode,x.srcs⟩=true
 ·rw[if_pos h];simp[List.filter_cons,h]
 ·rw[if_neg h];simp[List.filter_cons,h]
theorem Dy(l:List Itm):(wOf l).length≤l.length:=by unfold wOf;rw[List.length_map];exact List.length_filter_le _ _
theorem QH{l:List Itm}{w:Wnt}:w∈wOf l↔∃x∈l,¬(x.mode=1∧x.srcs=[])∧w=⟨x.grp,x.mode,x.srcs⟩:=by
 unfold wOf
 rw[List.mem_map]
 constructor
 ·rintro⟨x,hx,rfl⟩
  obtain⟨h1,h2⟩:=List.mem_filter.mp hx
  refine⟨x,h1,λe=>?_,rfl⟩
  rw[xg.mpr e]at h2;cases h2
 ·rintro⟨x,hx,h,rfl⟩
  refine⟨x,List.mem_filter.mpr ⟨hx,?_⟩,rfl⟩
  cases e:qn ⟨x.mode,x.srcs⟩with
  | true=>exact absurd (xg.mp e) h
  | false=>rfl
theorem Dx{l:List Itm}(h:aT 1000000 l):wY (wOf l):=by
 refine⟨by have:=Dy l;have:=gM h;omega,?_⟩
 unfold wOf
 rw[List.pairwise_map]
 refine List.Pairwise.filter _ ?_
 have:=h.2.1
 rw[List.Nodup,List.pairwise_map]at this
 exact this
theorem Gx{l:List Itm}(h:aT 1000000 l):mz (wOf l)=aM l:=by
 rw[aM,if_pos h]
 refine zk (wd (Dx h)) (lH 99) λw=>?_
 rw[(ld _).mem_iff,QH,js]
 constructor
 ·rintro⟨x,hx,h1,rfl⟩
  have:=Pp h.2.1 hx
  refine⟨by have:=(h.1 x hx).2.1;simp only;omega,this,?_⟩
  simp only
  rw[this]
  intro e
  simp only[Prod.mk.injEq]at e
  exact h1 e
 ·rintro⟨_,h1,h2⟩
  obtain⟨x,hx,e1,e2⟩:=GI h2
  rw[h1]at e2
  simp only[Prod.mk.injEq]at e2
  refine⟨x,hx,λe=>h2 ?_,?_⟩
  ·rw[h1,e2.1,e2.2,e.1,e.2]
  ·cases w;simp only at e1 e2;rw[e1,e2.1,e2.2]
def IS(l:List Itm):=okL [.sl 4 (l.map Itm.v) false]
def G8(l:List Itm)(t0:Int×List Wnt):NF:=⟨[(3,.k,.vec 0),(9,.k,.sl 4 (l.map Itm.v) false),(10,.k,.int ((l.map Itm.v).length:Int)),(11,.k,.int t0.1)],[.vec 3 (t0.2.map Wnt.v) (ab (λ_=>rfl) t0.2)]⟩
@[reducible] def vM:Nat→Type
 | 0=>Int×List Wnt
 | _=>Unit
def n7(r:List Wnt):AV:=.sl 3 (r.map Wnt.v) false
def nz(l:List Itm)(I0:(Int×List Wnt)→Prop)(m0:(Int×List Wnt)→Nat):Ax Tryz.prog vM ((List Wnt)):=
 (.callP (oQ l 1000000)
(.br 64 (!(cD l 1000000)) (.ret ([]))
(.cmdL (.nilT 3 3) (.loop 0 (G8 l) I0 m0 (0,[]) [128] λ(t0:Int×List Wnt) b0 =>
(.br 17 (decide (t0.1<((l.map Itm.v).length:Int))) (.el 17 Itm.v l (λR=>Rf (l.map Itm.v) (ck (decide (0≤t0.1)) (ck (decide (t0.1<(l.length:Int)))
(∀x1,l[t0.1.toNat]?=some x1 →
(R x1))))) λx1 =>
(.callP (Vr (⟨x1.mode,x1.srcs⟩:Flt))
(.br 145 (!(qn (⟨x1.mode,x1.srcs⟩:Flt))) (.req 225 ((⟨x1.mode,x1.srcs⟩:Flt).srcs.length≤1000000) λh2 =>
(.callP (Ce (⟨x1.mode,x1.srcs⟩:Flt) h2)
(.say (λR=>Rf (α:=List AV) (t0.2.map Wnt.v) (Rf (α:=List AV) [.agg [.int x1.grp,.int x1.mode,.sl 1 (x1.srcs.map AV.int) false]]
(ck (decide (t0.2.length+1≤1048576))
R))) (.app 273 Wnt.v t0.2 [(⟨x1.grp,x1.mode,x1.srcs⟩:Wnt)]
(.bk 0 b0 (W (t0.1+1),t0.2++[(⟨x1.grp,x1.mode,x1.srcs⟩:Wnt)]) [273])))))
(.bk 0 b0 (W (t0.1+1),t0.2) [0]))))
(.req 33 (wY t0.2) λh3 =>
(.callH [0] (Pz t0.2 h3) 33
(.say (Rf ((mz t0.2).map Wnt.v)) (.cmdL (.frzE 0 ((mz t0.2).map Wnt.v) (ab (λ_=>rfl) (mz t0.2))) (.ret (mz t0.2)))))))))))
def q9(l:List Itm)(I0:(Int×List Wnt)→Prop)(m0:(Int×List Wnt)→Nat)(r0:List Wnt):=(nz l I0 m0).vp n7 r0
theorem IR(l:List Itm)(ok:IS l):∃I m,q9 l I m (aM l):=by
 refine⟨λt=>∃k:Nat,t.1=k∧k≤l.length∧t.2=wOf (l.take k),λt=>l.length-t.1.toNat,?_⟩
 dsimp only[q9,nz,vM,Ax.vp,Ax.vc];simp only[vcU,rfU,List.length_map]
 simp only[cD,Bool.not_eq_true',decide_eq_false_iff_not,Bool.not_eq_false',decide_eq_true_iff]
 refine⟨λh=>by rw[aM,if_neg h],λh=>⟨⟨0,rfl,by omega,rfl⟩,?_⟩⟩
 rintro⟨_,ws⟩ ⟨k,rfl,hk,rfl⟩
 have hl:=gM h
 simp only[Int.toNat_natCast]
 refine⟨λh1=>⟨by omega,by omega,λx hx=>?_⟩,λh1=>?_⟩
 ·have hs:=we (h.1 x (aB hx)).2.2
  have hw:=Dy (l.take k)
  rw[List.length_take]at hw
  rw[av (n:=l.length) (by omega) (by omega)]
  refine⟨λe=>⟨by omega,by omega,⟨k+1,rfl,by omega,?_⟩,by omega⟩,λe=>⟨⟨k+1,rfl,by omega,?_⟩,by omega⟩⟩
  ·rw[ax hx,vO,if_neg (by simp[e])]
  ·rw[ax hx,vO,if_pos e]
 ·have e:l.take k=l:=List.take_of_length_le (by omega)
  rw[e]
  exact⟨Dx h,by rw[Gx h]⟩
def vN(l:List Itm):PC Tryz.prog:=⟨97,[(.s 4)],[.sl 4 (l.map Itm.v) false],n7 (aM l),ao.of_ok λok=>(IR l ok).elim λI0 h=>h.elim λm0 h=>aj (sh:=(.s 3)) (enc:=n7) (a:=(nz l I0 m0).an) h (by kernel_rfl) (AV.pureB_ok rfl),ai (by kernel_rfl)⟩
def dW(l:Lsn)(r:Int):List Wnt:=if bX l∧fX l.heard r then aM (atH l.heard r).items else []
def LR(l:Lsn)(router:Int):=okL [.agg [.int l.router,.int l.epoch,.sl 4 (l.heard.map Hrd.v) false],.int router]
def oK(r:List Wnt):AV:=.sl 3 (r.map Wnt.v) false
def oJ(l:Lsn)(router:Int):Ax Tryz.prog noS ((List Wnt)):=
 (.callP (Jq l)
(.br 80 ((fU l) != 0) (.ret ([]))
(.req 112 (l.heard.Pairwise λx y=>x.router<y.router) λh1 =>
(.req 112 (l.heard.length≤1000000) λh2 =>
(.callP (Rn l router h1 h2)
(.br 224 (decide (fX l.heard router)) (.el 272 Hrd.v l.heard (λR=>Rf (l.heard.map Hrd.v) (ck (decide (0≤(bp l.heard router:Int))) (ck (decide ((bp l.heard router:Int)<(l.heard.length:Int)))
(∀x3,l.heard[(bp l.heard router:Int).toNat]?=some x3 →
(R x3))))) λx3 =>
(.callP (vN x3.items)
(.ret (aM x3.items))))
(.ret ([]))))))))
def rh(l:Lsn)(router:Int)(r0:List Wnt):=(oJ l router).vp oK r0
theorem LO(l:Lsn)(r:Int)(ok:LR l r):rh l r (dW l r):=by
 dsimp only[rh,oJ,noS,Ax.vp,Ax.vc];simp only[vcU,rfU,List.length_map]
 have hv:fU l=if bX l then 0 else 1:=rfl
 rw[hv]
 by_cases h:bX l
 ·rw[if_pos h]
  refine⟨λe=>by simp at e,λ_=>⟨h.2.2.2.2,by have:=h.2.2.1;omega,λq=>⟨by omega,by have:=q.1;omega,λx hx=>?_⟩,λq=>by rw[dW,if_neg λe=>q e.2]⟩⟩
  rw[Int.toNat_natCast]at hx
  rw[dW,if_pos ⟨h,q⟩,atH,List.getD_eq_getElem?_getD,hx]
  rfl
 ·rw[if_neg h]
  exact⟨λ_=>by rw[dW,if_neg λe=>h e.1],λe=>by simp at e⟩
def LQ(l:Lsn)(router:Int):PC Tryz.prog:=⟨98,[(.a [.k,.k,(.s 4)]),.k],[.agg [.int l.router,.int l.epoch,.sl 4 (l.heard.map Hrd.v) false],.int router],oK (dW l router),ao.of_ok λok=>aj (sh:=(.s 3)) (enc:=oK) (a:=(oJ l router).an) (LO l router ok) (by kernel_rfl) (AV.pureB_ok rfl),ai (by kernel_rfl)⟩
structure Xt (a:Spk) (to:Int) (x:Sig):Prop where
  ok:aL x=0
  kind:x.kind≠3
  src:x.src=a.router
  dst:x.dst=to
  epoch:x.epoch=a.epoch
  tell:Ov a.epoch a.last a.items x
theorem nW{a:Spk}{to:Int}(ha:bc a)(hh:∃z∈a.peers,z.router=to):send a to=(gi a to::bU a to (pOf a.peers to).acked 0 a.items,0)∧∀x∈(send a to).1,Xt a to x:=by
 have hhit:=(pc ha.2.2.2.2.2.2).mpr hh
 obtain⟨p1,p2,p3,p4,p5,p6,p7⟩:=ha
 obtain⟨z,hz,hzr⟩:=hh
 obtain⟨z1,z2,_⟩:=p6 z hz
 have e:send a to=(gi a to::bU a to (pOf a.peers to).acked 0 a.items,0):=by
  unfold send
  rw[if_neg (not_not_intro ⟨p1,p2,p3,p4,p5,p6,p7⟩),if_neg (not_not_intro hhit)]
  rfl
 refine⟨e,?_⟩
 rw[e]
 intro x hx
 rcases List.mem_cons.mp hx with rfl|hx
 ·refine⟨?_,by simp[gi],rfl,rfl,rfl,Int.le_refl _,λq=>by simp[gi]at q⟩
  have hn:bn (gi a to):=by
   unfold bn gi
   rw[if_pos rfl]
   exact⟨p2,p3,rfl,rfl,rfl⟩
  have he:eN (gi a to):=⟨p1,by rw[←hzr];exact z1,by simp only[gi];omega⟩
  unfold aL
  rw[if_neg (by simp[gi]),if_neg (not_not_intro ⟨he,hn⟩),if_neg (by simp[gi]),if_neg (by simp[gi])]
 ·obtain⟨x1,x2,x3,x4,x5,x6,x7,x8⟩:=Ee p4 p3.2 a.items [] 0 rfl (by omega) (by simp) (λy hy=>by have:=(p4.1 y hy).1.1;omega) x hx
  refine⟨?_,by omega,x2,x3,x4,by omega,λ_ _=>x8⟩
  obtain⟨i1,i2,i3⟩:=p4.1 _ x7
  simp only[nV]at i1 i2 i3
  have hn:bn x:=by
   unfold bn
   rw[if_neg (by omega),if_pos x1,x4]
   exact⟨p2,⟨i1.1,by omega⟩,x6,x5,i2⟩
  have he:eN x:=⟨by rw[x2];exact p1,by omega,by omega⟩
  unfold aL
  rw[if_neg (by omega),if_neg (not_not_intro ⟨he,hn⟩),if_pos x1]
  exact i3
theorem SB{s d e v p:Int}(hs:1≤s∧s≤99)(hd:1≤d∧d≤99)(hne:s≠d)(he:0≤e∧e≤1000000)(hv:0≤v∧v≤1000000)(hp:1≤p∧p≤1000000):aL ⟨3,s,d,e,v,0,p,0,0,[]⟩=0:=by
 have hn:bn ⟨3,s,d,e,v,0,p,0,0,[]⟩:=by
  unfold bn
  rw[if_neg (by simp),if_neg (by simp)]
  exact⟨he,hv,rfl,hp,rfl⟩
 unfold aL
 rw[if_neg (by simp),if_neg (not_not_intro ⟨⟨hs,hd,hne⟩,hn⟩),if_neg (by simp),if_neg (by simp)]
theorem qd.ans_ok{l l':Lsn}{x y:Sig}(hl:bX l)(h:qd l l' x y)(hx:aL x=0)(hd:x.dst=l.router):aL y=0:=by
 obtain⟨e1,e2,e3⟩:=nU hx
 have hm:=(h.mem _).mpr (.inl rfl)
 obtain⟨k1,k2,k3,k4,k5⟩:=h.ok.2.2.2.1 _ hm
 rw[h.ans]
 exact SB hl.1 e1 (by omega) (by omega) k4 hl.2.1
structure SI (s:Spk×Lsn):Prop where
  aok:bc s.1
  ar:s.1.router=1
  ap:s.1.peers.map Per.router=[2]
  lok:bX s.2
  lr:s.2.router=2
  lh:∀h∈s.2.heard,h.router=1
  pi:PI s.1.epoch s.1.last s.1.items (pOf s.1.peers 2) s.2.epoch (gOf s.2.heard 1)
theorem SI.hp{s:Spk×Lsn}(h:SI s):∃z∈s.1.peers,z.router=2:=by
 have:(2:Int)∈s.1.peers.map Per.router:=by rw[h.ap];simp
 obtain⟨z,hz,e⟩:=List.mem_map.mp this
 exact⟨z,hz,e⟩
theorem Th.agree{a:Spk}{l:Lsn}{q:Int}(ha:bc a)(hl:bX l)(hP:PI a.epoch a.last a.items (pOf a.peers q) l.epoch (gOf l.heard a.router))(hg:(gOf l.heard a.router).epoch=a.epoch∧(gOf l.heard a.router).ver=a.last) :
  Go.Proofs.YthhpaedpnjdnbaaGreatDoor.agree a l∧(gOf l.heard a.router).items=a.items∧atH l.heard a.router=gOf l.heard a.router∧fX l.heard a.router:=by
 have hh:∃z∈l.heard,z.router=a.router:=by
  refine Classical.byContradiction λhn=>?_
  have:=im hl.2.2.2.2 hn
  rw[this]at hg
  have:=hP.e1
  simp only at hg
  omega
 have hit:=(dr hl.2.2.2.2).mpr hh
 have hat:atH l.heard a.router=gOf l.heard a.router:=by
  unfold atH gOf base
  rw[if_pos hit]
 have hi:=(hP.g4 hg.1).eq hP.io hP.g3 hg.2
 exact⟨⟨ha,hl,hit,by rw[hat];exact hg.1,by rw[hat];exact hg.2,by rw[hat];exact hi⟩,hi,hat,hit⟩
theorem jC{s:Spk}{to acked:Int}:∀{r:List Itm} {prev:Int},(∀y∈r,y.ver≤acked)→bU s to acked prev r=[]
 | [],_,_=>rfl
 | y::r,prev,h=>by
  have:=h y (by simp)
  rw[bU,if_neg (by omega),jC λz hz=>h z (by simp[hz])]
  rfl
theorem P2{s:Spk×Lsn}(h:SI s)(hd:Th s.1.epoch s.1.last (pOf s.1.peers 2) s.2.epoch (gOf s.2.heard 1)) :
  agree s.1 s.2∧(∃p,s.1.peers=[p]∧p.acked=s.1.last)∧(send s.1 2).2=0∧(send s.1 2).1.length=1∧dW s.2 1=aM s.1.items:=by
 have hP:=h.pi
 have hg:(gOf s.2.heard s.1.router).epoch=s.1.epoch∧(gOf s.2.heard s.1.router).ver=s.1.last:=by rw[h.ar];exact⟨hd.ge,hd.gv⟩
 obtain⟨a1,a2,a3,a4⟩:=Th.agree (q:=2) h.aok h.lok (by rw[h.ar];exact hP) hg
 have hpp:s.1.peers=[pOf s.1.peers 2]:=by
  have:=h.ap
  generalize s.1.peers=ps at this
  cases ps with
  | nil=>simp at this
  | cons p r =>
   simp only[List.map_cons,List.cons.injEq,List.map_eq_nil_iff]at this
   obtain⟨hp,rfl⟩:=this
   have:=jr (l:=[p]) (z:=p) (List.pairwise_singleton _ _) (by simp)
   rw[←hp,this]
 obtain⟨v,w⟩:=nW h.aok h.hp
 refine⟨a1,⟨_,hpp,hd.pa⟩,by rw[v],?_,?_⟩
 ·rw[v,jC λy hy=>?_]
  ·rfl
  ·rw[hd.pa];exact(hP.io.1 y hy).1.2
 ·rw[h.ar]at a2 a3 a4
  unfold dW
  rw[if_pos ⟨h.lok,a4⟩,a3,a2]
section
variable {α : Type} {key : α → Int}
theorem kK{l:List α}{r q:Int}{d z':α}(ho:l.Pairwise λx y=>key x<key y)(hr:∃z∈l,key z=r)(hk:key z'=r)(hq:∃z∈l,key z=q) :
  (l.set (ct key l r) z').getD (ct key (l.set (ct key l r) z') q) d=if q=r then z' else l.getD (ct key l q) d:=by
 have ho':=gC (z':=z') ho hr hk
 have hm:=fI (z':=z') ho hr
 by_cases e:q=r
 ·rw[if_pos e,e,←hk]
  have h1:z'∈l.set (ct key l (key z')) z':=by rw[hk];exact(hm z').mpr (.inl rfl)
  rw[←hk]at ho'
  exact jW ho' h1
 ·rw[if_neg e]
  obtain⟨z,hz,rfl⟩:=hq
  have h1:=(hm z).mpr (.inr ⟨hz,e⟩)
  rw[jW ho' h1,jW ho hz]
theorem kA{l:List α}{r:Int}{z':α}(ho:l.Pairwise λx y=>key x<key y)(hr:∃z∈l,key z=r)(hk:key z'=r):(l.set (ct key l r) z').map key=l.map key:=by
 obtain⟨z,hz,hzr⟩:=hr
 obtain⟨i,hi,rfl⟩:=List.getElem_of_mem hz
 rw[jq ho hi hzr,List.map_set,hk]
 refine List.ext_getElem (by simp) λj h1 h2=>?_
 rw[List.getElem_set]
 split
 ·rename_i e;subst e;simp[hzr]
 ·rfl
theorem eH{β:Type}{key':β→Int}{l:List α}{m:List β}(h:l.map key=m.map key')(r:Int):ct key l r=ct key' m r:=by
 have e1:∀{γ:Type} (k:γ→Int) (l:List γ),ct k l r=(l.map k).findIdx λy=>!decide (y<r):=λk l=>by
  unfold ct;rw[List.findIdx_map];rfl
 rw[e1,e1,h]
theorem mem_keys{l:List α}{r:Int}:r∈l.map key↔∃z∈l,key z=r:=by rw[List.mem_map]
theorem yc{l:List α}{r:Int}{d:α}(ho:l.Pairwise λx y=>key x<key y)(h:r∈l.map key):l.getD (ct key l r) d∈l∧key (l.getD (ct key l r) d)=r:=by
 obtain⟨z,hz,rfl⟩:=mem_keys.mp h
 rw[jW ho hz]
 exact⟨hz,rfl⟩
end
theorem l9{l R:List Int}(h:l.Nodup)(hs:∀x∈l,x∈R):l.length≤R.length:=by
 induction l generalizing R with
 | nil=>simp
 | cons x l ih =>
  rw[List.nodup_cons]at h
  have hx:=hs x (by simp)
  have:=ih (R:=R.erase x) h.2 λy hy=>by
   have hne:y≠x:=λe=>h.1 (e ▸ hy)
   exact(List.mem_erase_of_ne hne).mpr (hs y (by simp[hy]))
  rw[List.length_erase_of_mem hx]at this
  have:=List.length_pos_of_mem hx
  simp only[List.length_cons];omega
structure Ovl where
  sp:List Spk
  ls:List Lsn
  fl:List Sig
  deriving DecidableEq
def spks(l:List Spk):AV:=.sl 5 (l.map Spk.v) false
def lsns(l:List Lsn):AV:=.sl 3 (l.map Lsn.v) false
def Ovl.v(x:Ovl):AV:=.agg [spks x.sp,lsns x.ls,sigs x.fl]
def iz:Ovl:=⟨[],[],[]⟩
def aJ(sp:List Spk):List Int:=sp.map Spk.router
def bm(l:List Spk)(r:Int):Nat:=l.findIdx λp=>!decide (p.router<r)
def atS(sp:List Spk)(r:Int):Spk:=sp.getD (bm sp r) fc
def atL(sp:List Spk)(ls:List Lsn)(r:Int):Lsn:=ls.getD (bm sp r) xx
def GM(R:List Int)(s:Spk):Prop:=bc s∧s.peers.map Per.router=R.filter λr=>decide (r≠s.router)
def Hu(R:List Int)(l:Lsn):Prop:=bX l∧∀h∈l.heard,h.router∈R
structure bt (R:List Int) (sp:List Spk) (ls:List Lsn):Prop where
  len:R.length≤12
  spr:sp.map Spk.router=R
  lsr:ls.map Lsn.router=R
  asc:sp.Pairwise λx y=>x.router<y.router
  spo:∀s∈sp,GM R s
  lso:∀l∈ls,Hu R l
def cP(R:List Int)(x:Sig):Prop:=aL x=0∧x.src∈R∧x.dst∈R
def bQ(o:Ovl):Prop:=bt (aJ o.sp) o.sp o.ls∧∀x∈o.fl,cP (aJ o.sp) x
section
variable {R : List Int} {sp : List Spk} {ls : List Lsn}
theorem bt.ascR(h:bt R sp ls):R.Pairwise (·<·):=by rw[←h.spr,List.pairwise_map];exact h.asc
theorem bt.nodup(h:bt R sp ls):R.Nodup:=h.ascR.imp λq=>by omega
theorem bt.ascL(h:bt R sp ls):ls.Pairwise λx y=>x.router<y.router:=by
 have:=h.ascR;rw[←h.lsr,List.pairwise_map]at this;exact this
theorem bt.posL(h:bt R sp ls)(r:Int):bm sp r=ct Lsn.router ls r:=eH (key:=Spk.router) (key':=Lsn.router) (h.spr.trans h.lsr.symm) r
theorem bt.s(h:bt R sp ls){r:Int}(hr:r∈R):atS sp r∈sp∧(atS sp r).router=r:=yc (key:=Spk.router) h.asc (by rw[h.spr];exact hr)
theorem bt.l(h:bt R sp ls){r:Int}(hr:r∈R):atL sp ls r∈ls∧(atL sp ls r).router=r:=by
 unfold atL;rw[h.posL]
 exact yc (key:=Lsn.router) h.ascL (by rw[h.lsr];exact hr)
theorem bt.peer(h:bt R sp ls){a b:Int}(ha:a∈R)(hb:b∈R)(hab:a≠b):∃z∈(atS sp a).peers,z.router=b:=by
 obtain⟨h1,h2⟩:=h.s ha
 refine List.mem_map.mp ?_
 rw[(h.spo _ h1).2,List.mem_filter,h2]
 exact⟨hb,by simpa using Ne.symm hab⟩
theorem bt.room(h:bt R sp ls){b:Int}(hb:b∈R):(atL sp ls b).heard.length<12:=by
 obtain⟨h1,h2⟩:=h.l hb
 obtain⟨k1,k2⟩:=h.lso _ h1
 have hn:((atL sp ls b).heard.map Hrd.router).Nodup:=by
  have:=k1.2.2.2.2
  rw[List.Nodup,List.pairwise_map];exact this.imp λq=>by omega
 have hc:(b::(atL sp ls b).heard.map Hrd.router).Nodup:=by
  rw[List.nodup_cons]
  refine⟨λq=>?_,hn⟩
  obtain⟨z,hz,e⟩:=List.mem_map.mp q
  exact(k1.2.2.2.1 z hz).2.1 (e.trans h2.symm)
 have:=l9 hc (R:=R) λx hx=>by
  rcases List.mem_cons.mp hx with rfl|hx
  ·exact hb
  ·obtain⟨z,hz,rfl⟩:=List.mem_map.mp hx
   exact k2 z hz
 have:=h.len
 simp only[List.length_cons,List.length_map]at *
 omega
end
abbrev Rnd:=(List Spk×List Lsn)×List Sig
def aR(s:Rnd)(x:Sig):Rnd:=
 if x.kind=3 then(if(ack (atS s.1.1 x.dst) x).2=0 then((s.1.1.set (bm s.1.1 x.dst) (ack (atS s.1.1 x.dst) x).1,s.1.2),s.2)else s)
 else if(eV (atL s.1.1 s.1.2 x.dst) x).2=0 then((s.1.1,s.1.2.set (bm s.1.1 x.dst) (eV (atL s.1.1 s.1.2 x.dst) x).1.1),s.2++[(eV (atL s.1.1 s.1.2 x.dst) x).1.2])else s
def zn(a b le:Int)(g:Hrd):Sig:=⟨3,b,a,g.epoch,g.ver,0,le,0,0,[]⟩
structure Dlv (R:List Int) (s s':Rnd) (x:Sig):Prop where
  net:bt R s'.1.1 s'.1.2
  epoch:∀a∈R,(atS s'.1.1 a).epoch=(atS s.1.1 a).epoch
  last:∀a∈R,(atS s'.1.1 a).last=(atS s.1.1 a).last
  items:∀a∈R,(atS s'.1.1 a).items=(atS s.1.1 a).items
  le:∀b∈R,(atL s'.1.1 s'.1.2 b).epoch=(atL s.1.1 s.1.2 b).epoch
  p:∀a∈R,∀b∈R,a≠b→pOf (atS s'.1.1 a).peers b=if x.kind=3∧x.dst=a∧x.src=b then g9 (atS s.1.1 a) x (pOf (atS s.1.1 a).peers b)else pOf (atS s.1.1 a).peers b
  g:∀a∈R,∀b∈R,a≠b→gOf (atL s'.1.1 s'.1.2 b).heard a=if x.kind≠3∧x.src=a∧x.dst=b then co (gOf (atL s.1.1 s.1.2 b).heard a) x else gOf (atL s.1.1 s.1.2 b).heard a
  out:s'.2=s.2++if x.kind=3 then []else [zn x.src x.dst (atL s.1.1 s.1.2 x.dst).epoch (co (gOf (atL s.1.1 s.1.2 x.dst).heard x.src) x)]
  outk:∀y∈s'.2,y∈s.2∨cP R y
theorem C5{R:List Int}{s:Rnd}{x:Sig}(h:bt R s.1.1 s.1.2)(hx:cP R x):Dlv R s (aR s x) x:=by
 obtain⟨⟨sp,ls⟩,out⟩:=s
 obtain⟨x1,x2,x3⟩:=hx
 have hne:x.src≠x.dst:=(nU x1).2.2
 simp only at h
 by_cases hk:x.kind=3
 ·obtain⟨h1,h2⟩:=h.s x3
  obtain⟨k1,k2⟩:=h.spo _ h1
  have hp:=h.peer x3 x2 (Ne.symm hne)
  obtain⟨e1,e2⟩:=SQ k1 x1 hk h2.symm hp
  have hd:aR ((sp,ls),out) x=((sp.set (bm sp x.dst) (ack (atS sp x.dst) x).1,ls),out):=by
   unfold aR;rw[if_pos hk,if_pos e1]
  rw[hd]
  generalize hz:(ack (atS sp x.dst) x).1=z at *
  have hzr:z.router=x.dst:=e2.router.trans h2
  have hr:∃w∈sp,w.router=x.dst:=⟨_,h1,h2⟩
  have hat:∀a∈R,atS (sp.set (bm sp x.dst) z) a=if a=x.dst then z else atS sp a:=λa ha =>
   kK (key:=Spk.router) (d:=fc) h.asc hr hzr (by rw[←h.spr]at ha;exact mem_keys.mp ha)
  have hkeys:(sp.set (bm sp x.dst) z).map Spk.router=sp.map Spk.router:=kA (key:=Spk.router) h.asc hr hzr
  have hat2:∀b,atL (sp.set (bm sp x.dst) z) ls b=atL sp ls b:=λb=>by
   unfold atL
   rw[show bm (sp.set (bm sp x.dst) z) b=bm sp b from eH (key:=Spk.router) (key':=Spk.router) hkeys b]
  refine⟨⟨h.len,hkeys.trans h.spr,h.lsr,gC (key:=Spk.router) h.asc hr hzr,λw hw=>?_,h.lso⟩,λa ha=>?_,λa ha=>?_,λa ha=>?_,λb _=>by simp only[hat2],λa ha b hb hab=>?_,λa ha b hb hab=>?_,by rw[if_pos hk,List.append_nil],λy hy=>.inl hy⟩
  ·rcases(fI (key:=Spk.router) h.asc hr w).mp hw with rfl|⟨hw,_⟩
   ·exact⟨e2.ok,by rw[e2.routers,k2,e2.router]⟩
   ·exact h.spo w hw
  ·simp only[hat a ha];split
   ·rename_i e;rw[e,e2.epoch]
   ·rfl
  ·simp only[hat a ha];split
   ·rename_i e;rw[e,e2.last]
   ·rfl
  ·simp only[hat a ha];split
   ·rename_i e;rw[e,e2.items]
   ·rfl
  ·simp only[hat a ha]
   by_cases ea:a=x.dst
   ·rw[if_pos ea,ea]
    by_cases eb:x.src=b
    ·rw[if_pos ⟨hk,rfl,eb⟩,←eb];exact e2.self k1 hp
    ·rw[if_neg λq=>eb q.2.2]
     exact e2.other k1 (Ne.symm eb) (h.peer x3 hb (by rw[←ea];exact hab))
   ·rw[if_neg ea,if_neg λq=>ea q.2.1.symm]
  ·simp only[hat2]
   rw[if_neg λq=>q.1 hk]
 ·obtain⟨h1,h2⟩:=h.l x3
  obtain⟨k1,k2⟩:=h.lso _ h1
  obtain⟨e1,e2⟩:=Mt k1 x1 hk h2.symm (.inr (h.room x3))
  have hao:=e2.ans_ok k1 x1 h2.symm
  have hd:aR ((sp,ls),out) x=((sp,ls.set (bm sp x.dst) (eV (atL sp ls x.dst) x).1.1),out++[(eV (atL sp ls x.dst) x).1.2]):=by
   unfold aR;rw[if_neg hk,if_pos e1]
  rw[hd]
  have ha:=e2.ans
  generalize hz:(eV (atL sp ls x.dst) x).1.1=z at *
  generalize hy:(eV (atL sp ls x.dst) x).1.2=y at *
  have hzr:z.router=x.dst:=e2.router.trans h2
  have hr:∃w∈ls,w.router=x.dst:=⟨_,h1,h2⟩
  have hpos:=h.posL x.dst
  have hkeys:(ls.set (bm sp x.dst) z).map Lsn.router=ls.map Lsn.router:=by rw[hpos];exact kA (key:=Lsn.router) h.ascL hr hzr
  have hat:∀b∈R,atL sp (ls.set (bm sp x.dst) z) b=if b=x.dst then z else atL sp ls b:=λb hb=>by
   unfold atL
   rw[show bm sp b=ct Lsn.router (ls.set (bm sp x.dst) z) b from eH (key:=Spk.router) (key':=Lsn.router) (h.spr.trans (h.lsr.symm.trans hkeys.symm)) b,hpos]
   rw[kK (key:=Lsn.router) (d:=xx) h.ascL hr hzr (by rw[←h.lsr]at hb;exact mem_keys.mp hb)]
   rw[←hpos,show ct Lsn.router ls b=ct Lsn.router ls b from rfl]
   by_cases e:b=x.dst
   ·rw[if_pos e,if_pos e]
   ·rw[if_neg e,if_neg e,←h.posL b]
    congr 1
    exact(eH (key:=Spk.router) (key':=Lsn.router) (h.spr.trans (h.lsr.symm.trans hkeys.symm)) b)
  refine⟨⟨h.len,h.spr,hkeys.trans h.lsr,h.asc,h.spo,λw hw=>?_⟩,λa _=>rfl,λa _=>rfl,λa _=>rfl,λb hb=>?_,λa _ b _ _=>by rw[if_neg λq=>hk q.1],λa ha' b hb hab=>?_,?_,λw hw=>?_⟩
  ·rw[hpos]at hw
   rcases(fI (key:=Lsn.router) h.ascL hr w).mp hw with rfl|⟨hw,_⟩
   ·refine⟨e2.ok,λq hq=>?_⟩
    rcases(e2.mem q).mp hq with rfl|⟨hq,_⟩
    ·rw[ew (fK k1.2.2.2.2)];exact x2
    ·exact k2 q hq
   ·exact h.lso w hw
  ·simp only[hat b hb];split
   ·rename_i e;rw[e,e2.epoch]
   ·rfl
  ·simp only[hat b hb]
   by_cases eb:b=x.dst
   ·rw[if_pos eb,eb]
    by_cases ea:x.src=a
    ·rw[if_pos ⟨hk,ea,rfl⟩,←ea];exact e2.self k1
    ·rw[if_neg λq=>ea q.2.1]
     exact e2.other k1 (Ne.symm ea)
   ·rw[if_neg eb,if_neg λq=>eb q.2.2.symm]
  ·rw[if_neg hk,ha,h2];rfl
  ·rcases List.mem_append.mp hw with hw|hw
   ·exact .inl hw
   ·rw[List.mem_singleton]at hw
    subst hw
    exact .inr ⟨hao,by rw[ha];simp only;rw[h2];exact x3,by rw[ha];exact x2⟩
def eu(a b:Int)(x:Sig):Bool:=decide (x.kind≠3∧x.src=a∧x.dst=b)
def iR(a b:Int)(x:Sig):Bool:=decide (x.kind=3∧x.dst=a∧x.src=b)
def Ol(a b le:Int):Hrd→List Sig→List Sig
 | _,[]=>[]
 | g,x::l=>zn a b le (co g x)::Ol a b le (co g x) l
def IB(s:Spk)(p:Per)(l:List Sig):Per:=l.foldl (λp x=>g9 s x p) p
theorem IA{a b:Spk}{x:Sig}{p:Per}(h1:a.epoch=b.epoch)(h2:a.last=b.last):g9 a x p=g9 b x p:=by
 unfold g9 vy;rw[h1,h2]
theorem rX{a b:Spk}(h1:a.epoch=b.epoch)(h2:a.last=b.last):∀{l:List Sig} {p:Per},IB a p l=IB b p l
 | [],_=>rfl
 | x::l,p=>by
  show IB a (g9 a x p) l=IB b (g9 b x p) l
  rw[IA h1 h2];exact rX h1 h2
structure Dlvs (R:List Int) (s s':Rnd) (l:List Sig):Prop where
  net:bt R s'.1.1 s'.1.2
  epoch:∀a∈R,(atS s'.1.1 a).epoch=(atS s.1.1 a).epoch
  last:∀a∈R,(atS s'.1.1 a).last=(atS s.1.1 a).last
  items:∀a∈R,(atS s'.1.1 a).items=(atS s.1.1 a).items
  le:∀b∈R,(atL s'.1.1 s'.1.2 b).epoch=(atL s.1.1 s.1.2 b).epoch
  p:∀a∈R,∀b∈R,a≠b→pOf (atS s'.1.1 a).peers b=IB (atS s.1.1 a) (pOf (atS s.1.1 a).peers b) (l.filter (iR a b))
  g:∀a∈R,∀b∈R,a≠b→gOf (atL s'.1.1 s'.1.2 b).heard a=Tp (gOf (atL s.1.1 s.1.2 b).heard a) (l.filter (eu a b))
  acks:∀a∈R,∀b∈R,a≠b→s'.2.filter (iR a b)=s.2.filter (iR a b)++Ol a b (atL s.1.1 s.1.2 b).epoch (gOf (atL s.1.1 s.1.2 b).heard a) (l.filter (eu a b))
  tells:∀a∈R,∀b∈R,a≠b→s'.2.filter (eu a b)=s.2.filter (eu a b)
  outk:∀y∈s'.2,y∈s.2∨cP R y
theorem iZ{R:List Int}:∀{l:List Sig} {s:Rnd},bt R s.1.1 s.1.2→(∀x∈l,cP R x)→Dlvs R s (l.foldl aR s) l
 | [],s,h,_=>⟨h,λ_ _=>rfl,λ_ _=>rfl,λ_ _=>rfl,λ_ _=>rfl,λ_ _ _ _ _=>rfl,λ_ _ _ _ _=>rfl,λ_ _ _ _ _=>by simp[Ol],λ_ _ _ _ _=>rfl,λ_ hy=>.inl hy⟩
 | x::l,s,h,hl=>by
  have d:=C5 h (hl x (by simp))
  have r:=iZ (l:=l) d.net λy hy=>hl y (by simp[hy])
  rw[List.foldl_cons]
  generalize aR s x=s1 at *
  generalize l.foldl aR s1=s2 at *
  refine⟨r.net,λa ha=>(r.epoch a ha).trans (d.epoch a ha),λa ha=>(r.last a ha).trans (d.last a ha),λa ha=>(r.items a ha).trans (d.items a ha),λb hb=>(r.le b hb).trans (d.le b hb),λa ha b hb hab=>?_,λa ha b hb hab=>?_,λa ha b hb hab=>?_,λa ha b hb hab=>?_,λy hy=>?_⟩
  ·rw[r.p a ha b hb hab,d.p a ha b hb hab,rX (d.epoch a ha) (d.last a ha),List.filter_cons]
   by_cases c:x.kind=3∧x.dst=a∧x.src=b
   ·rw[if_pos c,if_pos (show iR a b x=true from decide_eq_true c)];rfl
   ·rw[if_neg c,if_neg (show ¬iR a b x=true from λq=>c (of_decide_eq_true q))]
  ·rw[r.g a ha b hb hab,d.g a ha b hb hab,List.filter_cons]
   by_cases c:x.kind≠3∧x.src=a∧x.dst=b
   ·rw[if_pos c,if_pos (show eu a b x=true from decide_eq_true c)];rfl
   ·rw[if_neg c,if_neg (show ¬eu a b x=true from λq=>c (of_decide_eq_true q))]
  ·rw[r.acks a ha b hb hab,d.g a ha b hb hab,d.le b hb,d.out,List.filter_append,List.filter_cons]
   by_cases c:x.kind≠3∧x.src=a∧x.dst=b
   ·rw[if_pos c,if_pos (show eu a b x=true from decide_eq_true c),if_neg c.1]
    obtain⟨c1,rfl,rfl⟩:=c
    simp[Ol,zn,iR]
   ·rw[if_neg c,if_neg (show ¬eu a b x=true from λq=>c (of_decide_eq_true q))]
    by_cases k:x.kind=3
    ·rw[if_pos k];simp
    ·rw[if_neg k]
     have:List.filter (iR a b) [zn x.src x.dst (atL s.1.1 s.1.2 x.dst).epoch (co (gOf (atL s.1.1 s.1.2 x.dst).heard x.src) x)]=[]:=by
      rw[List.filter_eq_nil_iff]
      intro y hy
      rw[List.mem_singleton]at hy
      subst hy
      intro q
      have q:=of_decide_eq_true q
      exact c ⟨k,q.2.1,q.2.2⟩
     rw[this,List.append_nil]
  ·rw[r.tells a ha b hb hab,d.out,List.filter_append]
   have:List.filter (eu a b) (if x.kind=3 then []else [zn x.src x.dst (atL s.1.1 s.1.2 x.dst).epoch (co (gOf (atL s.1.1 s.1.2 x.dst).heard x.src) x)])=[]:=by
    rw[List.filter_eq_nil_iff]
    intro y hy
    split at hy
    ·simp at hy
    ·rw[List.mem_singleton]at hy
     subst hy
     intro q
     exact(of_decide_eq_true q).1 rfl
   rw[this,List.append_nil]
  ·rcases r.outk y hy with hy|hy
   ·exact d.outk y hy
   ·exact .inr hy
def iD(s:Spk):List Sig:=s.peers.flatMap λp=>(send s p.router).1
def jB(sp:List Spk):List Sig:=sp.flatMap iD
theorem lK{α β:Type}{f:α→List β}{q:β→Bool}{l:List α}(h:∀x∈l,∀y∈f x,q y=false):(l.flatMap f).filter q=[]:=by
 rw[List.filter_eq_nil_iff]
 intro y hy
 obtain⟨x,hx,hy⟩:=List.mem_flatMap.mp hy
 rw[h x hx y hy];simp
theorem fg{α β:Type}{f:α→List β}{q:β→Bool}{key:α→Int}:∀{l:List α},(l.map key).Nodup→∀{z:α},z∈l→(∀x∈l,key x≠key z→∀y∈f x,q y=false)→(l.flatMap f).filter q=(f z).filter q
 | x::l,hn,z,hz,h=>by
  rw[List.flatMap_cons,List.filter_append]
  rw[List.map_cons,List.nodup_cons]at hn
  by_cases e:key x=key z
  ·have:∀w∈l,key w≠key z:=λw hw q=>hn.1 (by rw[e,←q];exact List.mem_map.mpr ⟨w,hw,rfl⟩)
   rcases List.mem_cons.mp hz with rfl|hz
   ·rw[lK λw hw=>h w (by simp[hw]) (this w hw),List.append_nil]
   ·exact absurd rfl (this z hz)
  ·have hz:z∈l:=by
    rcases List.mem_cons.mp hz with rfl|hz
    ·exact absurd rfl e
    ·exact hz
   rw[fg hn.2 hz λw hw=>h w (by simp[hw])]
   have:List.filter q (f x)=[]:=by
    rw[List.filter_eq_nil_iff];intro y hy;rw[h x (by simp) e y hy];simp
   rw[this,List.nil_append]
theorem wu{R:List Int}{sp:List Spk}{ls:List Lsn}(h:bt R sp ls){a b:Int}(ha:a∈R)(hb:b∈R)(hab:a≠b):(jB sp).filter (eu a b)=(send (atS sp a) b).1:=by
 obtain⟨h1,h2⟩:=h.s ha
 have sent:∀s∈sp,∀p∈s.peers,∀y∈(send s p.router).1,Xt s p.router y:=λs hs p hp=>(nW (h.spo s hs).1 ⟨p,hp,rfl⟩).2
 have hn:(sp.map Spk.router).Nodup:=by rw[h.spr];exact h.nodup
 unfold jB
 rw[fg (key:=Spk.router) hn h1 λs hs hne y hy=>by
  obtain⟨p,hp,hy⟩:=List.mem_flatMap.mp hy
  have q:=(sent s hs p hp y hy).src
  exact decide_eq_false λc=>hne (by rw[h2,←q,c.2.1])]
 obtain⟨z,hz,hzb⟩:=h.peer ha hb hab
 have hpn:((atS sp a).peers.map Per.router).Nodup:=by
  have:=(h.spo _ h1).1.2.2.2.2.2.2
  rw[List.Nodup,List.pairwise_map];exact this.imp λq=>by omega
 unfold iD
 rw[fg (key:=Per.router) hpn hz λp hp hne y hy=>by
  have q:=(sent _ h1 p hp y hy).dst
  exact decide_eq_false λc=>hne (by rw[hzb,←q,c.2.2])]
 rw[hzb,List.filter_eq_self]
 intro y hy
 have q:=sent _ h1 z hz y (by rw[hzb];exact hy)
 exact decide_eq_true ⟨q.kind,q.src.trans h2,q.dst.trans hzb⟩
theorem ra{R:List Int}{sp:List Spk}{ls:List Lsn}(h:bt R sp ls){x:Sig}(hx:x∈jB sp):∃a∈R,∃b∈R,a≠b∧Xt (atS sp a) b x:=by
 obtain⟨s,hs,hx⟩:=List.mem_flatMap.mp hx
 obtain⟨p,hp,hx⟩:=List.mem_flatMap.mp hx
 have q:=(nW (h.spo s hs).1 ⟨p,hp,rfl⟩).2 x hx
 have hr:s.router∈R:=by rw[←h.spr];exact List.mem_map.mpr ⟨s,hs,rfl⟩
 have hb:p.router∈R.filter λr=>decide (r≠s.router):=by rw[←(h.spo s hs).2];exact List.mem_map.mpr ⟨p,hp,rfl⟩
 rw[List.mem_filter]at hb
 refine⟨s.router,hr,p.router,hb.1,Ne.symm (of_decide_eq_true hb.2),?_⟩
 have:atS sp s.router=s:=jW (key:=Spk.router) h.asc hs
 rw[this];exact q
theorem Av{R:List Int}{sp:List Spk}{ls:List Lsn}(h:bt R sp ls)(a b:Int):(jB sp).filter (iR a b)=[]:=by
 rw[List.filter_eq_nil_iff]
 intro x hx q
 obtain⟨_,_,_,_,_,s⟩:=ra h hx
 exact s.kind (of_decide_eq_true q).1
theorem VE{α:Type}{R:α→α→Prop}{l:List α}{k:Nat}{x:α}(h:l.Pairwise R)(h1:∀a∈l.take k,R a x)(h2:∀a∈l.drop k,R x a):(dC l k x).Pairwise R:=by
 have h0:=h
 rw[←List.take_append_drop k l,List.pairwise_append]at h0
 unfold dC
 rw[List.pairwise_append,List.pairwise_append]
 refine⟨⟨h0.1,List.pairwise_singleton _ _,λa ha b hb=>?_⟩,h0.2.1,λa ha b hb=>?_⟩
 ·rw[List.mem_singleton]at hb;exact hb ▸ h1 a ha
 ·rcases List.mem_append.mp ha with ha|ha
  ·exact h0.2.2 a ha b hb
  ·rw[List.mem_singleton]at ha;exact ha ▸ h2 b hb
theorem rb{α:Type}{l:List α}{k:Nat}{x y:α}:y∈dC l k x↔y=x∨y∈l:=by
 rw[(oU l k x).mem_iff,List.mem_cons]
theorem QP{l:List Mem}{x a:Mem}(h:a∈l.take (jJ l x)):cY a x:=by
 obtain⟨i,hi,rfl⟩:=List.getElem_of_mem h
 rw[List.getElem_take]
 have:=List.not_of_lt_findIdx (p:=λy=>!iO y x) (xs:=l) (i:=i) (by simp at hi;unfold jJ at hi;omega)
 have e:(!iO (l[i]'(by simp at hi;omega)) x)=false:=this
 rw[Bool.not_eq_false']at e
 exact e
theorem KI{l:List Mem}{x y:Mem}(h:y∈lz l x):y∈l∨y=x:=by
 unfold lz at h
 split at h
 ·rcases List.mem_or_eq_of_mem_set h with h|h
  ·exact .inl h
  ·exact .inr h
 ·exact(rb.mp h).symm
theorem Qu{l:List Mem}{x:Mem}(h:l.Pairwise cY):(lz l x).Pairwise cY:=by
 unfold lz
 split
 ·rename_i e
  unfold xr at e
  split at e
  ·rename_i y hy
   have hlt:=ay hy
   have hyx:y.grp=x.grp∧y.host=x.host:=by simpa using e
   rw[List.pairwise_iff_getElem]at h ⊢
   intro i j hi hj hij
   rw[List.length_set]at hi hj
   have:=h i j hi hj hij
   rw[List.getElem?_eq_getElem hlt]at hy
   have hy:=Option.some.inj hy
   rw[List.getElem_set,List.getElem_set]
   by_cases e1:jJ l x=i
   ·rw[if_pos e1,if_neg (by omega)]
    simp only[←e1,hy]at this
    simpa[cY,kS,hyx]using this
   ·rw[if_neg e1]
    by_cases e2:jJ l x=j
    ·rw[if_pos e2]
     simp only[←e2,hy]at this
     simpa[cY,kS,hyx]using this
    ·rw[if_neg e2];exact this
  ·cases e
 ·rename_i e
  refine VE h (λa ha=>QP ha) λa ha=>?_
  have hlt:jJ l x<l.length:=by
   refine Classical.byContradiction λq=>?_
   rw[List.drop_of_length_le (by omega)]at ha;simp at ha
  have h1:iO l[jJ l x] x=false:=by
   have:=List.findIdx_getElem (p:=λy=>!iO y x) (xs:=l) (w:=hlt)
   rw[Bool.not_eq_true']at this
   exact this
  have h2:¬(l[jJ l x].grp=x.grp∧l[jJ l x].host=x.host):=λq=>e (by rw[xr,List.getElem?_eq_getElem hlt];simp[q.1,q.2])
  have h3:cY x l[jJ l x]:=by
   simp only[iO,Bool.or_eq_false_iff,Bool.and_eq_false_iff,decide_eq_false_iff_not,beq_eq_false_iff_ne]at h1
   simp only[cY,kS,Bool.or_eq_true,Bool.and_eq_true,decide_eq_true_eq,beq_iff_eq]
   omega
  rw[List.drop_eq_getElem_cons hlt]at ha
  rcases List.mem_cons.mp ha with rfl|ha
  ·exact h3
  ·have hp:(l.drop (jJ l x)).Pairwise cY:=h.sublist (List.drop_sublist _ _)
   rw[List.drop_eq_getElem_cons hlt,List.pairwise_cons]at hp
   exact xp _ _ _ h3 (hp.1 a ha)
structure zq (now:Int) (x:Mem):Prop where
  host:1≤x.host∧x.host≤8
  grp:1≤x.grp∧x.grp≤4
  flt:aF x.mode x.srcs=0
  no:¬(x.mode=1∧x.srcs=[])
  til:now≤x.til∧x.til≤now+1000
theorem QI(L:List Int)(now:Int)(p:Nat):zq now (qo L now p).1:=by
 have hf:=Cg L (ag L (ag L p))
 have h4:=fH (l:=[0,1,30,1000]) (a:=0) (b:=1000) (by decide) (by decide) (al L (aw L (ag L (ag L p))).2)
 have h1:=iG (L:=L) (p:=p) (lo:=1) (hi:=8) (by omega)
 have h2:=iG (L:=L) (p:=ag L p) (lo:=1) (hi:=4) (by omega)
 unfold qo
 generalize aw L (ag L (ag L p))=F at *
 refine⟨h1,h2,?_,?_,by simp only;omega⟩
 ·show aF (if F.1.mode=1∧F.1.srcs=[]then 2 else F.1.mode) F.1.srcs=0
  split
  ·rename_i c;rw[c.2];decide
  ·exact hf
 ·show ¬((if F.1.mode=1∧F.1.srcs=[]then 2 else F.1.mode)=1∧F.1.srcs=[])
  split
  ·omega
  ·assumption
theorem xo{L:List Int}{now:Int}:∀{n:Nat} {l:List Mem} {p:Nat},(∀x∈l,zq now x)→l.Pairwise cY→(∀x∈(gK L now n l p).1,zq now x)∧(gK L now n l p).1.Pairwise cY∧(gK L now n l p).1.length≤l.length+n
 | 0,l,p,h1,h2=>⟨h1,h2,by simp[gK]⟩
 | n+1,l,p,h1,h2=>by
  rw[gK]
  obtain⟨a,b,c⟩:=xo (L:=L) (now:=now) (n:=n) (l:=lz l (qo L now p).1) (p:=(qo L now p).2)
   (λx hx=>by
    rcases KI hx with hx|rfl
    ·exact h1 x hx
    ·exact QI L now p) (Qu h2)
  have:=wO l (qo L now p).1
  exact⟨a,b,by omega⟩
theorem xn(L:List Int){n:Int}(p:Nat)(h:0≤n∧n≤1000):(0≤(aZ L n p).1.now∧(aZ L n p).1.now≤998000)∧(∀x∈(aZ L n p).1.list,zq (aZ L n p).1.now x)∧(aZ L n p).1.list.Pairwise cY∧(aZ L n p).1.list.length≤n:=by
 have hnow:=fH (l:=[0,10,500,998000]) (a:=0) (b:=998000) (by decide) (by decide) (al L p)
 have hm:=bg (x:=al L (ag L p)) (show 1≤n+1 by omega)
 obtain⟨a,b,c⟩:=xo (L:=L) (now:=(aZ L n p).1.now) (n:=(Mod (al L (ag L p)) (n+1)).toNat) (l:=[]) (p:=ag L (ag L p)) (by simp) List.Pairwise.nil
 refine⟨hnow,a,b,?_⟩
 have c:(aZ L n p).1.list.length≤0+(Mod (al L (ag L p)) (n+1)).toNat:=c
 omega
theorem ON{f:Flt}{s:Int}(h:eQ f s=true):¬(f.mode=1∧f.srcs=[]):=by
 rintro⟨h1,h2⟩
 rw[eQ,h1,h2]at h
 simp at h
structure Fau where
  kind:Int
  pos:Int
def Fau.v(x:Fau):AV:=.agg [.int x.kind,.int x.pos]
def qt(l late:List Sig)(k:Int)(n:Nat)(x:Sig):List Sig×List Sig:=
 if k=1 then(l.take n++l.drop (n+1),late)
 else if k=2 then(l.take n++[x,x]++l.drop (n+1),late)
 else if k=3 then(l.take n++l.drop (n+1),late++[x])
 else if k=4 then(if n+1<l.length then((l.set n (l.getD (n+1) qf)).set (n+1) x,late)else(l,late))
 else(l,late)
def fR(s:List Sig×List Sig)(f:Fau):List Sig×List Sig:=
 if f.pos<0∨(s.1.length:Int)≤f.pos then s else qt s.1 s.2 f.kind f.pos.toNat (s.1.getD f.pos.toNat qf)
def arr(l:List Sig)(f:List Fau):List Sig×List Sig:=f.foldl fR (l,[])
theorem Od{P:Sig→Prop}{s:List Sig×List Sig}{f:Fau}(h1:∀x∈s.1,P x)(h2:∀x∈s.2,P x):(∀x∈(fR s f).1,P x)∧∀x∈(fR s f).2,P x:=by
 obtain⟨l,late⟩:=s
 unfold fR
 split
 ·exact⟨h1,h2⟩
 rename_i c
 simp only at c h1 h2 ⊢
 have hg:∀n:Nat,n<l.length→P (l.getD n qf):=λn hn=>by
  rw[List.getD_eq_getElem?_getD,List.getElem?_eq_getElem hn]
  exact h1 _ (List.getElem_mem hn)
 have hx:=hg f.pos.toNat (by omega)
 generalize l.getD f.pos.toNat qf=x at *
 generalize f.pos.toNat=n at *
 have hd:∀y∈l.take n++l.drop (n+1),P y:=λy hy=>by
  rcases List.mem_append.mp hy with hy|hy
  ·exact h1 y (List.mem_of_mem_take hy)
  ·exact h1 y (List.mem_of_mem_drop hy)
 unfold qt
 split
 ·exact⟨hd,h2⟩
 split
 ·refine⟨λy hy=>?_,h2⟩
  simp only[List.mem_append,List.mem_cons,List.not_mem_nil,or_false]at hy
  rcases hy with(hy|rfl|rfl)|hy
  ·exact h1 y (List.mem_of_mem_take hy)
  ·exact hx
  ·exact hx
  ·exact h1 y (List.mem_of_mem_drop hy)
 split
 ·refine⟨hd,λy hy=>?_⟩
  rcases List.mem_append.mp hy with hy|hy
  ·exact h2 y hy
  ·rw[List.mem_singleton]at hy;subst hy;exact hx
 split
 ·split
  ·rename_i q
   refine⟨λy hy=>?_,h2⟩
   rcases List.mem_or_eq_of_mem_set hy with hy|rfl
   ·rcases List.mem_or_eq_of_mem_set hy with hy|rfl
    ·exact h1 y hy
    ·exact hg _ q
   ·exact hx
  ·exact⟨h1,h2⟩
 ·exact⟨h1,h2⟩
theorem zl{P:Sig→Prop}:∀{f:List Fau} {s:List Sig×List Sig},(∀x∈s.1,P x)→(∀x∈s.2,P x)→(∀x∈(f.foldl fR s).1,P x)∧∀x∈(f.foldl fR s).2,P x
 | [],_,h1,h2=>⟨h1,h2⟩
 | f::fs,s,h1,h2=>by
  obtain⟨a,b⟩:=Od (f:=f) h1 h2
  exact zl (f:=fs) a b
theorem Gf{P:Sig→Prop}{l:List Sig}{f:List Fau}(h:∀x∈l,P x):(∀x∈(arr l f).1,P x)∧∀x∈(arr l f).2,P x:=zl h (by simp)
def lp(o:Ovl)(now late:List Sig):Ovl:=
 ⟨(now.foldl aR ((o.sp,o.ls),late)).1.1,(now.foldl aR ((o.sp,o.ls),late)).1.2,(now.foldl aR ((o.sp,o.ls),late)).2++jB (now.foldl aR ((o.sp,o.ls),late)).1.1⟩
instance (R:List Int) (s:Spk):Decidable (GM R s):=by unfold GM;exact inferInstance
instance (R:List Int) (l:Lsn):Decidable (Hu R l):=by unfold Hu;exact inferInstance
instance (R:List Int) (x:Sig):Decidable (cP R x):=by unfold cP;exact inferInstance
instance (R:List Int) (sp:List Spk) (ls:List Lsn):Decidable (bt R sp ls):=
 decidable_of_iff (R.length≤12∧sp.map Spk.router=R∧ls.map Lsn.router=R∧(sp.Pairwise λx y=>x.router<y.router)∧(∀s∈sp,GM R s)∧∀l∈ls,Hu R l)
  ⟨λ⟨a,b,c,d,e,f⟩=>⟨a,b,c,d,e,f⟩,λ⟨a,b,c,d,e,f⟩=>⟨a,b,c,d,e,f⟩⟩
instance (o:Ovl):Decidable (bQ o):=by unfold bQ;exact inferInstance
def bH(o:Ovl)(f:List Fau):Ovl×Int:=if ¬bQ o then(iz,1)else(lp o (arr o.fl f).1 (arr o.fl f).2,0)
def ep(o:Ovl)(a:Int):Int:=(atS o.sp a).epoch
def la(o:Ovl)(a:Int):Int:=(atS o.sp a).last
def it(o:Ovl)(a:Int):List Itm:=(atS o.sp a).items
def pe(o:Ovl)(a b:Int):Per:=pOf (atS o.sp a).peers b
def le(o:Ovl)(b:Int):Int:=(atL o.sp o.ls b).epoch
def he(o:Ovl)(a b:Int):Hrd:=gOf (atL o.sp o.ls b).heard a
def tells(o:Ovl)(a b:Int):List Sig:=o.fl.filter (eu a b)
def acks(o:Ovl)(a b:Int):List Sig:=o.fl.filter (iR a b)
structure Round (R:List Int) (o o':Ovl) (now late:List Sig):Prop where
  net:bt R o'.sp o'.ls
  fl:∀x∈o'.fl,cP R x
  ep:∀a∈R,ep o' a=ep o a
  la:∀a∈R,la o' a=la o a
  it:∀a∈R,it o' a=it o a
  le:∀b∈R,le o' b=le o b
  p:∀a∈R,∀b∈R,a≠b→pe o' a b=IB (atS o.sp a) (pe o a b) (now.filter (iR a b))
  g:∀a∈R,∀b∈R,a≠b→he o' a b=Tp (he o a b) (now.filter (eu a b))
  acks:∀a∈R,∀b∈R,a≠b→acks o' a b=late.filter (iR a b)++Ol a b (Go.Proofs.YthhpaedpnjdnbaaGreatDoor.le o b) (he o a b) (now.filter (eu a b))
  tells:∀a∈R,∀b∈R,a≠b→tells o' a b=late.filter (eu a b)++(send (atS o'.sp a) b).1
theorem Hc{R:List Int}{o:Ovl}(h:bt R o.sp o.ls){now late:List Sig}(h1:∀x∈now,cP R x)(h2:∀x∈late,cP R x):Round R o (lp o now late) now late:=by
 have d:=iZ (l:=now) (s:=((o.sp,o.ls),late)) h h1
 unfold lp
 generalize now.foldl aR ((o.sp,o.ls),late)=s at *
 refine⟨d.net,λx hx=>?_,d.epoch,d.last,d.items,d.le,d.p,d.g,λa ha b hb hab=>?_,λa ha b hb hab=>?_⟩
 ·rcases List.mem_append.mp hx with hx|hx
  ·rcases d.outk x hx with hx|hx
   ·exact h2 x hx
   ·exact hx
  ·obtain⟨a,ha,b,hb,_,q⟩:=ra d.net hx
   exact⟨q.ok,by rw[q.src,(d.net.s ha).2];exact ha,by rw[q.dst];exact hb⟩
 ·show List.filter _ (s.2++jB s.1.1)=_
  rw[List.filter_append,Av d.net,List.append_nil,d.acks a ha b hb hab];rfl
 ·show List.filter _ (s.2++jB s.1.1)=_
  rw[List.filter_append,wu d.net ha hb hab,d.tells a ha b hb hab]
section
variable {e n : Int} {its : List Itm} {p : Per} {le : Int} {g : Hrd}
def Tells(e n:Int)(its:List Itm)(l:List Sig):Prop:=∀x∈l,aL x=0∧x.kind≠3∧Ov e n its x
def XC(e le:Int)(g:Hrd)(l:List Sig):Prop:=∀x∈l,aL x=0∧AckOk e le g x
end
structure OI (R:List Int) (o:Ovl):Prop where
  net:bt R o.sp o.ls
  fl:∀x∈o.fl,cP R x
  pi:∀a∈R,∀b∈R,a≠b→PI (ep o a) (la o a) (it o a) (pe o a b) (le o b) (he o a b)
  tell:∀a∈R,∀b∈R,a≠b→Tells (ep o a) (la o a) (it o a) (tells o a b)
  ack:∀a∈R,∀b∈R,a≠b→XC (ep o a) (le o b) (he o a b) (acks o a b)
theorem OI.ok{R:List Int}{o:Ovl}(h:OI R o):bQ o:=by
 have e:aJ o.sp=R:=h.net.spr
 exact⟨by rw[e];exact h.net,by rw[e];exact h.fl⟩
section
variable {R : List Int} {o : Ovl}
variable {a b : Int}
end
section
variable {R : List Int} {sp : List Spk} {ls : List Lsn}
structure SetS (R:List Int) (sp:List Spk) (ls:List Lsn) (r:Int) (z:Spk):Prop where
  net:bt R (sp.set (bm sp r) z) ls
  s:∀a∈R,atS (sp.set (bm sp r) z) a=if a=r then z else atS sp a
  l:∀b,atL (sp.set (bm sp r) z) ls b=atL sp ls b
  pos:∀b,bm (sp.set (bm sp r) z) b=bm sp b
theorem bt.setS(h:bt R sp ls){r:Int}(hr:r∈R){z:Spk}(hz:z.router=r)(hok:GM R z):SetS R sp ls r z:=by
 obtain⟨h1,h2⟩:=h.s hr
 have hr':∃w∈sp,w.router=r:=⟨_,h1,h2⟩
 have hkeys:(sp.set (bm sp r) z).map Spk.router=sp.map Spk.router:=kA (key:=Spk.router) h.asc hr' hz
 have hpos:∀b,bm (sp.set (bm sp r) z) b=bm sp b:=λb=>eH (key:=Spk.router) (key':=Spk.router) hkeys b
 refine⟨⟨h.len,hkeys.trans h.spr,h.lsr,gC (key:=Spk.router) h.asc hr' hz,λw hw=>?_,h.lso⟩,λa ha =>
   kK (key:=Spk.router) (d:=fc) h.asc hr' hz (by rw[←h.spr]at ha;exact mem_keys.mp ha),λb=>by unfold atL;rw[hpos],hpos⟩
 rcases(fI (key:=Spk.router) h.asc hr' w).mp hw with rfl|⟨hw,_⟩
 ·exact hok
 ·exact h.spo w hw
theorem bt.setL(h:bt R sp ls){r:Int}(hr:r∈R){z:Lsn}(hz:z.router=r)(hok:Hu R z) :
  bt R sp (ls.set (bm sp r) z)∧∀b∈R,atL sp (ls.set (bm sp r) z) b=if b=r then z else atL sp ls b:=by
 obtain⟨h1,h2⟩:=h.l hr
 have hr':∃w∈ls,w.router=r:=⟨_,h1,h2⟩
 have hpos:=h.posL r
 have hkeys:(ls.set (bm sp r) z).map Lsn.router=ls.map Lsn.router:=by rw[hpos];exact kA (key:=Lsn.router) h.ascL hr' hz
 refine⟨⟨h.len,h.spr,hkeys.trans h.lsr,h.asc,h.spo,λw hw=>?_⟩,λb hb=>?_⟩
 ·rw[hpos]at hw
  rcases(fI (key:=Lsn.router) h.ascL hr' w).mp hw with rfl|⟨hw,_⟩
  ·exact hok
  ·exact h.lso w hw
 ·have e:=kK (key:=Lsn.router) (d:=xx) h.ascL hr' hz (q:=b) (by rw[←h.lsr]at hb;exact mem_keys.mp hb)
  rw[←hpos]at e
  have e2:bm sp b=ct Lsn.router (ls.set (bm sp r) z) b:=eH (key:=Spk.router) (key':=Lsn.router) (h.spr.trans (h.lsr.symm.trans hkeys.symm)) b
  unfold atL
  rw[e2,e,←e2,h.posL b]
end
def bT(o:Ovl)(r:Int)(w:List Wnt):Ovl×Int:=
 if ¬bQ o then(iz,1)else if r ∉ aJ o.sp then(iz,4)else if bh false w≠0 then(iz,bh false w)
 else if(am (aM (atS o.sp r).items) w).2≠0 then(iz,(am (aM (atS o.sp r).items) w).2)
 else if(change (atS o.sp r) (am (aM (atS o.sp r).items) w).1).2≠0 then(iz,(change (atS o.sp r) (am (aM (atS o.sp r).items) w).1).2)
 else(⟨o.sp.set (bm o.sp r) (change (atS o.sp r) (am (aM (atS o.sp r).items) w).1).1,o.ls,o.fl⟩,0)
def dN(o:Ovl)(r:Int)(w:List Wnt):Ovl×Int:=
 if ¬bQ o then(iz,1)else if r ∉ aJ o.sp then(iz,4)
 else if(bR (atS o.sp r) w).2≠0 then(iz,(bR (atS o.sp r) w).2)
 else if(atL o.sp o.ls r).epoch=1000000 then(iz,3)
 else(⟨o.sp.set (bm o.sp r) (bR (atS o.sp r) w).1,o.ls.set (bm o.sp r) ⟨r,(atL o.sp o.ls r).epoch+1,[]⟩,o.fl⟩,0)
instance (s:Spk) (l:Lsn):Decidable (agree s l):=by unfold agree;exact inferInstance
theorem OI.agree{R:List Int}{o:Ovl}(h:OI R o){a b:Int}(ha:a∈R)(hb:b∈R)(hab:a≠b)(hg:(he o a b).epoch=ep o a∧(he o a b).ver=la o a) :
  Go.Proofs.YthhpaedpnjdnbaaGreatDoor.agree (atS o.sp a) (atL o.sp o.ls b):=by
 obtain⟨q1,q2⟩:=h.net.s ha
 obtain⟨m1,m2⟩:=h.net.l hb
 have hp:=h.pi a ha b hb hab
 unfold he ep la it pe le at *
 exact(Th.agree (q:=b) (h.net.spo _ q1).1 (h.net.lso _ m1).1 (by rw[q2];exact hp) (by rw[q2];exact hg)).1
def bJ(o:Ovl)(at_ of:Int):List Wnt×Int:=
 if ¬bQ o then([],1)else if at_ ∉ aJ o.sp∨of ∉ aJ o.sp then([],4)
 else if at_=of then(aM (atS o.sp of).items,0)else(dW (atL o.sp o.ls at_) of,0)
def okR(l:List Int):Prop:=l.length≤12∧(∀r∈l,1≤r∧r≤99)∧l.Pairwise (·<·)
instance (l:List Int):Decidable (okR l):=by unfold okR;exact inferInstance
def lf(l:List Int)(r:Int):Spk:=⟨r,1,0,[],(l.filter λx=>decide (x≠r)).map λx=>⟨x,0,0⟩⟩
def mH(r:Int):Lsn:=⟨r,1,[]⟩
def iM(l:List Int):Ovl:=⟨l.map (lf l),l.map mH,[]⟩
def mF(l:List Int):Ovl×Int:=if okR l then(iM l,0)else(iz,1)
section
variable {l : List Int}
theorem DV(h:okR l){r:Int}(hr:r∈l):GM l (lf l r):=by
 obtain⟨h1,h2,h3⟩:=h
 have hl:(l.filter λx=>decide (x≠r)).length≤12:=Nat.le_trans (List.length_filter_le _ _) h1
 refine⟨⟨h2 r hr,⟨Int.le_refl 1,show(1:Int)≤1000000 by omega⟩,⟨Int.le_refl 0,show(0:Int)≤1000000 by omega⟩,⟨by simp[lf],by simp[lf],by simp[lf]⟩,by simpa[lf]using hl,λp hp=>?_,?_⟩,?_⟩
 ·obtain⟨x,hx,rfl⟩:=List.mem_map.mp hp
  rw[List.mem_filter]at hx
  exact⟨h2 x hx.1,show ¬x=r by simpa using hx.2,⟨Int.le_refl 0,show(0:Int)≤1000000 by omega⟩,⟨Int.le_refl 0,Int.le_refl 0⟩⟩
 ·show((l.filter λx=>decide (x≠r)).map λx=>(⟨x,0,0⟩:Per)).Pairwise _
  rw[List.pairwise_map];exact h3.filter _
 ·show(((l.filter λx=>decide (x≠r)).map λx=>(⟨x,0,0⟩:Per)).map Per.router)=_
  rw[List.map_map]
  show List.map (λx=>x) _=_
  rw[List.map_id'']
  ·rfl
  ·intro x;rfl
theorem QS(h:okR l){r:Int}(hr:r∈l):Hu l (mH r):=
 ⟨⟨h.2.1 r hr,⟨Int.le_refl 1,show(1:Int)≤1000000 by omega⟩,by simp[mH],by simp[mH],by simp[mH]⟩,by simp[mH]⟩
theorem qZ(h:okR l):bt l (iM l).sp (iM l).ls:=by
 refine⟨h.1,?_,?_,?_,λs hs=>?_,λs hs=>?_⟩
 ·show(l.map (lf l)).map Spk.router=l
  rw[List.map_map]
  exact List.map_id'' (λx=>rfl) l
 ·show(l.map mH).map Lsn.router=l
  rw[List.map_map]
  exact List.map_id'' (λx=>rfl) l
 ·show(l.map (lf l)).Pairwise _
  rw[List.pairwise_map];exact h.2.2
 ·obtain⟨r,hr,rfl⟩:=List.mem_map.mp hs;exact DV h hr
 ·obtain⟨r,hr,rfl⟩:=List.mem_map.mp hs;exact QS h hr
end
theorem Oe{s:List Sig×List Sig}{f:Fau}:(fR s f).1.length+(fR s f).2.length≤s.1.length+s.2.length+1:=by
 obtain⟨l,late⟩:=s
 unfold fR
 split
 ·simp only;omega
 rename_i c
 simp only at c ⊢
 generalize hn:f.pos.toNat=n
 have hn2:n<l.length:=by omega
 have hm:min n l.length=n:=by omega
 unfold qt
 repeat' split
 all_goals simp only[List.length_append,List.length_take,List.length_drop,List.length_cons,List.length_nil,List.length_set,hm]
 all_goals omega
theorem pR:∀{f:List Fau} {s:List Sig×List Sig},(f.foldl fR s).1.length+(f.foldl fR s).2.length≤s.1.length+s.2.length+f.length
 | [],s=>by simp
 | f::fs,s=>by
  have h1:=Oe (s:=s) (f:=f)
  have h2:=pR (f:=fs) (s:=fR s f)
  rw[List.foldl_cons,List.length_cons];omega
theorem Gg{l:List Sig}{f:List Fau}:(arr l f).1.length+(arr l f).2.length≤l.length+f.length:=by
 have:=pR (f:=f) (s:=(l,[]))
 simpa[arr]using this
theorem yQ{s:Rnd}{x:Sig}:(aR s x).2.length≤s.2.length+1:=by
 unfold aR
 repeat' split
 all_goals simp
theorem ip:∀{l:List Sig} {s:Rnd},(l.foldl aR s).2.length≤s.2.length+l.length
 | [],s=>by simp
 | x::l,s=>by
  have h1:=yQ (s:=s) (x:=x)
  have h2:=ip (l:=l) (s:=aR s x)
  rw[List.foldl_cons,List.length_cons];omega
theorem flat_len{α β:Type}{f:α→List β}{k:Nat}:∀{l:List α},(∀x∈l,(f x).length≤k)→(l.flatMap f).length≤l.length * k
 | [],_=>by simp
 | x::l,h=>by
  have h1:=h x (by simp)
  have h2:=flat_len (l:=l) λy hy=>h y (by simp[hy])
  rw[List.flatMap_cons,List.length_append,List.length_cons,Nat.succ_mul];omega
theorem iE{s:Spk}{to acked:Int}:∀{r:List Itm} {prev:Int},(bU s to acked prev r).length≤r.length
 | [],_=>by simp[bU]
 | y::r,prev=>by
  have:=iE (s:=s) (to:=to) (acked:=acked) (r:=r) (prev:=y.ver)
  rw[bU]
  split<;>simp only[List.length_append,List.length_cons,List.length_nil]<;>omega
theorem Pa{l:List Itm}{n:Int}(h:aT n l):l.length≤99:=by
 have hn:(l.map Itm.grp).Nodup:=h.2.1
 have:=l9 hn (R:=(List.range 99).map λi:Nat=>(i:Int)+1) λx hx=>by
  obtain⟨y,hy,rfl⟩:=List.mem_map.mp hx
  have:=(h.1 y hy).2.1
  rw[List.mem_map]
  exact⟨(y.grp-1).toNat,by rw[List.mem_range];omega,by omega⟩
 simpa using this
theorem mR{s:Spk}{to:Int}:(send s to).1.length≤100:=by
 unfold send
 split
 ·simp
 split
 ·simp
 rename_i h _
 have:=Pa (Classical.not_not.mp h).2.2.2.1
 simp only[List.length_cons]
 have h2:=iE (s:=s) (to:=to) (acked:=(pOf s.peers to).acked) (r:=s.items) (prev:=0)
 have h3:∀ak,(bU s to ak 0 s.items).length≤s.items.length:=λ_=>iE
 have:=h3 (s.peers.getD (ib s.peers to) ⟨0,0,0⟩).acked
 omega
theorem GX{R:List Int}{sp:List Spk}{ls:List Lsn}(h:bt R sp ls):(jB sp).length≤14400:=by
 have h1:(jB sp).length≤sp.length * 1200:=flat_len λs hs=>by
  have:(iD s).length≤s.peers.length * 100:=flat_len λp _=>mR
  have:=(h.spo s hs).1.2.2.2.2.1
  omega
 have h2:sp.length=R.length:=by rw[←h.spr,List.length_map]
 have:=h.len
 omega
section
variable {R : List Int} {o : Ovl}
end
def jx(L:List Int)(n:Int):Nat→List Fau→Nat→List Fau×Nat
 | 0,out,p=>(out,p)
 | k+1,out,p=>jx L n k (out++[⟨rng L p 0 5,Mod (al L (ag L p)) (W (n+2))⟩]) (ag L (ag L p))
def bx(L:List Int)(n:Int)(p:Nat):List Fau×Nat:=jx L n (Mod (al L p) 4).toNat [] (ag L p)
def jN(L:List Int):Nat→List Fau→Nat→List Fau×Nat
 | 0,out,p=>(out,p)
 | k+1,out,p=>if 0<Mod (al L p) 3 then jN L k (out++[⟨au [1,1,2,3,4] (al L (ag L p)),k⟩]) (ag L (ag L p))else jN L k out (ag L p)
def dt(L:List Int)(n:Int)(p:Nat):List Fau×Nat:=jN L n.toNat [] p
theorem mg{L:List Int}{n:Int}:∀{k:Nat} {out:List Fau} {p:Nat},(jx L n k out p).1.length=out.length+k
 | 0,out,p=>rfl
 | k+1,out,p=>by rw[jx,mg];simp;omega
theorem eY{L:List Int}{n:Int}{p:Nat}:(bx L n p).1.length≤3:=by
 unfold bx
 rw[mg]
 have:=bg (x:=al L p) (n:=4) (by omega)
 simp only[List.length_nil];omega
theorem jM{L:List Int}:∀{k:Nat} {out:List Fau} {p:Nat},(jN L k out p).1.length≤out.length+k
 | 0,out,p=>Nat.le_refl _
 | k+1,out,p=>by
  rw[jN]
  split
  ·have:=jM (L:=L) (k:=k) (out:=out++[⟨au [1,1,2,3,4] (al L (ag L p)),k⟩]) (p:=ag L (ag L p))
   simp only[List.length_append,List.length_singleton]at this;omega
  ·have:=jM (L:=L) (k:=k) (out:=out) (p:=ag L p)
   omega
theorem pd{L:List Int}{n:Int}{p:Nat}:(dt L n p).1.length≤n.toNat:=by
 have:=jM (L:=L) (k:=n.toNat) (out:=[]) (p:=p)
 simpa[dt]using this
def orO(o:Ovl)(x:Ovl×Int):Ovl:=if x.2≠0 then o else x.1
def gz(L:List Int)(p:Nat)(o:Ovl):Ovl×Nat:=
 if Mod (al L (ag L p)) 6=0∨Mod (al L (ag L p)) 6=1 then
  (orO o (bT o (o.sp.getD (Mod (al L p) o.sp.length).toNat fc).router (cK L (ag L (ag L p))).1),(cK L (ag L (ag L p))).2)
 else if Mod (al L (ag L p)) 6=2 then
  (orO o (dN o (o.sp.getD (Mod (al L p) o.sp.length).toNat fc).router (cK L (ag L (ag L p))).1),(cK L (ag L (ag L p))).2)
 else if Mod (al L (ag L p)) 6=3 then
  (orO o (bH o (dt L (min o.fl.length 40) (ag L (ag L p))).1),(dt L (min o.fl.length 40) (ag L (ag L p))).2)
 else(orO o (bH o (bx L o.fl.length (ag L (ag L p))).1),(bx L o.fl.length (ag L (ag L p))).2)
section
variable {R : List Int} {o : Ovl} {L : List Int}
end
theorem Eo{L:List Int}:∀{n:Nat} {id:Int} {p:Nat} {rs:List Rtr},0≤id→(rs.map Rtr.id).Pairwise (·<·)→(∀r∈rs,1≤r.id∧r.id≤id∧r.cap=true) →
  ((mE L n id p rs).1.map Rtr.id).Pairwise (·<·)∧∀r∈(mE L n id p rs).1,1≤r.id∧r.id≤id+5 * n∧r.cap=true
 | 0,id,p,rs,h0,h1,h2=>⟨h1,λr hr=>by have:=h2 r hr;exact⟨this.1,by omega,this.2.2⟩⟩
 | n+1,id,p,rs,h0,h1,h2=>by
  have h5:=Tk (L:=L) (p:=p)
  rw[mE]
  obtain⟨a,b⟩:=Eo (L:=L) (n:=n) (id:=id+au [1,1,1,2,5] (al L p)) (p:=ag L p) (rs:=rs++[⟨id+au [1,1,1,2,5] (al L p),true⟩]) (by omega)
   (by
    rw[List.map_append,List.pairwise_append]
    refine⟨h1,List.pairwise_singleton _ _,λx hx y hy=>?_⟩
    obtain⟨r,hr,rfl⟩:=List.mem_map.mp hx
    have:=h2 r hr
    have hy:y=id+au [1,1,1,2,5] (al L p):=by simpa using hy
    omega)
   (λr hr=>by
    rcases List.mem_append.mp hr with hr|hr
    ·have:=h2 r hr;exact⟨this.1,by omega,this.2.2⟩
    ·have hr:r=⟨id+au [1,1,1,2,5] (al L p),true⟩:=by simpa using hr
     subst hr;exact⟨by show 1≤id+_;omega,Int.le_refl _,rfl⟩)
  exact⟨a,λr hr=>by have:=b r hr;exact⟨this.1,by omega,this.2.2⟩⟩
theorem nH{L:List Int}{p:Nat}{most:Int}(h:1≤most∧most≤100):(1≤(bu L p most).1.rs.length∧(bu L p most).1.rs.length≤most)∧((bu L p most).1.rs.map Rtr.id).Pairwise (·<·) ∧
  ∀r∈(bu L p most).1.rs,1≤r.id∧r.id≤5 * most∧r.cap=true:=by
 have hn:=iG (L:=L) (p:=p) (lo:=1) (hi:=most) (by omega)
 have hl:(bu L p most).1.rs.length=(rng L p 1 most).toNat:=by
  show(cr L p most).1.length=_
  rw[cr,oe];simp
 obtain⟨a,b⟩:=Eo (L:=L) (n:=(rng L p 1 most).toNat) (id:=0) (p:=ag L p) (rs:=[]) (by omega) List.Pairwise.nil (by simp)
 exact⟨by omega,a,λr hr=>by have:=b r hr;exact⟨this.1,by omega,this.2.2⟩⟩
structure X5 (rs:List Rtr) (ks:List Int) (id:Int) (es:List Edg):Prop where
  nd:(es.map Edg.router).Nodup
  at_:∀e∈es,∃(j:Nat) (r:Rtr),(j:Int) ∉ ks∧rs[j]?=some r∧r.id=e.router
  asc:(es.map Edg.id).Pairwise (·<·)
  ids:∀e∈es,1≤e.id∧e.id≤id
theorem tu{L:List Int}{rs:List Rtr}(hid:(rs.map Rtr.id).Pairwise (·<·)):∀{ks:List Int} {id:Int} {es:List Edg} {p:Nat},ks.Nodup→(∀k∈ks,0≤k∧k<rs.length)→0≤id→X5 rs ks id es →
  X5 rs [] (id+9 * ks.length) (qk L rs ks id es p).1∧(qk L rs ks id es p).1.length≤es.length+ks.length
 | [],id,es,p,h1,h2,h0,h=>⟨⟨h.nd,h.at_,h.asc,λe he=>by have:=h.ids e he;simp;omega⟩,by simp[qk]⟩
 | k::ks,id,es,p,h1,h2,h0,h=>by
  have hk:=h2 k (by simp)
  have hn:=List.nodup_cons.mp h1
  have h9:=fH (l:=[1,1,1,2,7,9]) (a:=1) (b:=9) (by decide) (by decide) (al L (ag L p))
  rw[qk]
  split
  ·obtain⟨a,b⟩:=tu hid (L:=L) (ks:=ks) (id:=id) (es:=es) (p:=ag L p) hn.2 (λx hx=>h2 x (by simp[hx])) h0 ⟨h.nd,λe he=>by
    obtain⟨j,r,q1,q2⟩:=h.at_ e he
    exact⟨j,r,λq=>q1 (by simp[q]),q2⟩,h.asc,h.ids⟩
   exact⟨⟨a.nd,a.at_,a.asc,λe he=>by have:=a.ids e he;simp;omega⟩,by simp;omega⟩
  ·have hlt:k.toNat<rs.length:=by omega
   have hr:rs[k.toNat]?=some rs[k.toNat]:=List.getElem?_eq_getElem hlt
   have hg:rs.getD k.toNat ⟨0,false⟩=rs[k.toNat]:=by rw[List.getD_eq_getElem?_getD,hr];rfl
   rw[hg]
   generalize hq:id+au [1,1,1,2,7,9] (al L (ag L p))=id' at *
   obtain⟨a,b⟩:=tu hid (L:=L) (ks:=ks) (id:=id') (es:=es++[⟨rs[k.toNat].id,id'⟩]) (p:=ag L (ag L p)) hn.2 (λx hx=>h2 x (by simp[hx])) (by omega) (by
    refine⟨?_,λe he=>?_,?_,λe he=>?_⟩
    ·rw[List.map_append,List.nodup_append]
     refine⟨h.nd,by simp,λx hx y hy=>?_⟩
     obtain⟨e,he,rfl⟩:=List.mem_map.mp hx
     obtain⟨j,r,q1,q2,q3⟩:=h.at_ e he
     have hy:y=rs[k.toNat].id:=by simpa using hy
     rintro rfl
     have hj:=ay q2
     rw[List.getElem?_eq_getElem hj]at q2
     have q2:=Option.some.inj q2
     have hne:j≠k.toNat:=λe'=>q1 (by subst e';rw[show((k.toNat:Nat):Int)=k by omega];simp)
     rw[List.pairwise_iff_getElem]at hid
     have e1:(rs.map Rtr.id)[j]'(by simpa using hj)=(rs.map Rtr.id)[k.toNat]'(by simpa using hlt):=by
      rw[List.getElem_map,List.getElem_map,q2,q3];exact hy
     rcases Nat.lt_or_gt_of_ne hne with c|c
     ·have:=hid j k.toNat (by simpa using hj) (by simpa using hlt) c;omega
     ·have:=hid k.toNat j (by simpa using hlt) (by simpa using hj) c;omega
    ·rcases List.mem_append.mp he with he|he
     ·obtain⟨j,r,q1,q2⟩:=h.at_ e he
      exact⟨j,r,λq=>q1 (by simp[q]),q2⟩
     ·have he:e=⟨rs[k.toNat].id,id'⟩:=by simpa using he
      subst he
      exact⟨k.toNat,_,by rw[show((k.toNat:Nat):Int)=k by omega];exact hn.1,hr,rfl⟩
    ·rw[List.map_append,List.pairwise_append]
     refine⟨h.asc,List.pairwise_singleton _ _,λx hx y hy=>?_⟩
     obtain⟨e,he,rfl⟩:=List.mem_map.mp hx
     have:=h.ids e he
     have hy:y=id':=by simpa using hy
     omega
    ·rcases List.mem_append.mp he with he|he
     ·have:=h.ids e he;omega
     ·have he:e=⟨rs[k.toNat].id,id'⟩:=by simpa using he
      subst he;exact⟨by show 1≤id';omega,Int.le_refl _⟩)
   refine⟨⟨a.nd,a.at_,a.asc,λe he=>by have:=a.ids e he;simp;omega⟩,?_⟩
   simp at b ⊢;omega
structure Tx (t:Tpl) (p:Pln):Prop where
  nd:(p.es.map Edg.router).Nodup
  at_:∀e∈p.es,∃r∈t.rs,r.id=e.router
  asc:(p.es.map Edg.id).Pairwise (·<·)
  ids:∀e∈p.es,1≤e.id∧e.id≤9 * t.rs.length
  sub:0≤p.sub∧p.sub≤2
  len:p.len=8∨p.len=16∨p.len=32∨p.len=64∨p.len=0∧p.es=[]
  es:p.es.length≤t.rs.length
theorem Qv{L:List Int}{p:Nat}{t:Tpl}(hid:(t.rs.map Rtr.id).Pairwise (·<·)):Tx t (j3 L p t).1:=by
 obtain⟨o1,o2⟩:=o6 (L:=L) (n:=(t.rs.length:Int)) (p:=ag L p) (by omega)
 have hl:(gr L (t.rs.length:Int) (ag L p)).1.length=t.rs.length:=by rw[wW];simp
 obtain⟨a,b⟩:=tu hid (L:=L) (ks:=(gr L (t.rs.length:Int) (ag L p)).1) (id:=0) (es:=[]) (p:=(gr L (t.rs.length:Int) (ag L p)).2) o1 o2 (by omega) ⟨by simp,by simp,by simp,by simp⟩
 rw[hl]at a b
 have h3:=bg (x:=al L p) (show 1≤(3:Int) by omega)
 have h5:au [8,8,16,32,64] (al L (j4 L p t).2)∈([8,8,16,32,64]:List Int):=gG (by decide) _
 have h5:au [8,8,16,32,64] (al L (j4 L p t).2)=8∨au [8,8,16,32,64] (al L (j4 L p t).2)=16∨au [8,8,16,32,64] (al L (j4 L p t).2)=32∨au [8,8,16,32,64] (al L (j4 L p t).2)=64:=by
  simp only[List.mem_cons,List.not_mem_nil,or_false]at h5;omega
 have hes:(j3 L p t).1.es=(j4 L p t).1:=by unfold j3;split<;>rfl
 have hsub:(j3 L p t).1.sub=Mod (al L p) 3:=by unfold j3;split<;>rfl
 have a:X5 t.rs [] (0+9 * t.rs.length) (j4 L p t).1:=a
 refine⟨hes ▸ a.nd,λe he=>?_,hes ▸ a.asc,λe he=>?_,by omega,?_,by rw[hes];have b:(j4 L p t).1.length≤0+t.rs.length:=b;omega⟩
 ·rw[hes]at he
  obtain⟨j,r,_,q2,q3⟩:=a.at_ e he
  exact⟨r,aB q2,q3⟩
 ·rw[hes]at he
  have:=a.ids e he;omega
 ·unfold j3
  split
  ·show _=_∨_;rcases h5 with h|h|h|h<;>simp[h]
  ·rename_i c
   right;right;right;right
   exact⟨rfl,List.eq_nil_of_length_eq_zero (show(j4 L p t).1.length=0 by omega)⟩
structure Sit where
  router:Int
  now:Int
  list:List Mem
  deriving DecidableEq
structure Scn where
  rs:List Rtr
  ls:List Lnk
  sub:Int
  len:Int
  es:List Edg
  sites:List Sit
  sp:List Spk
  lsn:List Lsn
  fl:List Sig
def Sit.v(x:Sit):AV:=.agg [.int x.router,.int x.now,.sl 5 (x.list.map Mem.v) false]
def Scn.v(x:Scn):AV:=.agg [.sl 2 (x.rs.map Rtr.v) false,.sl 5 (x.ls.map Lnk.v) false,.int x.sub,.int x.len,.sl 2 (x.es.map Edg.v) false,.sl 3 (x.sites.map Sit.v) false,.sl 5 (x.sp.map Spk.v) false,.sl 3 (x.lsn.map Lsn.v) false,.sl 10 (x.fl.map Sig.v) false]
def Ks(es:List Edg):List Int:=es.foldl (λout e=>put out e.router) []
def shM(d h:Int)(x:Mem):Mem:=⟨h+x.host,x.grp,x.mode,x.srcs,x.til+d⟩
def kg(L:List Int)(now:Int):List Int→List Sit→Nat→List Sit×Nat
 | [],out,p=>(out,p)
 | r::rs,out,p=>kg L now rs (out++[⟨r,now,(aZ L 4 p).1.list.map (shM (now-(aZ L 4 p).1.now) (10 * out.length))⟩]) (aZ L 4 p).2
def kU(L:List Int)(b:Bool):Nat→Ovl×Nat→Ovl×Nat
 | 0,s=>s
 | n+1,s=>kU L b n (if b=true then gz L s.2 s.1 else s)
def mr(L:List Int)(x:Sit)(s:Ovl×Nat):Ovl×Nat:=
 if(ofW ⟨x.now,x.list⟩).2=0 then(if 0<Mod (al L s.2) 6 then(orO s.1 (bT s.1 x.router (ofW ⟨x.now,x.list⟩).1),ag L s.2)else(s.1,ag L s.2))else s
def mq(L:List Int):List Sit→Ovl×Nat→Ovl×Nat
 | [],s=>s
 | x::xs,s=>mq L xs (mr L x s)
def og(L:List Int):Nat→Ovl×Nat→Ovl×Nat
 | 0,s=>s
 | n+1,s=>og L n ((bH s.1 (bx L s.1.fl.length s.2).1).1,(bx L s.1.fl.length s.2).2)
def kh(L:List Int)(p:Nat)(most:Int):Pln×Nat:=j3 L (bu L p most).2 (bu L p most).1
def dM(L:List Int)(p:Nat)(most:Int):List Int:=Ks (kh L p most).1.es
def mC(L:List Int)(p:Nat)(most:Int):Int:=au [0,100] (al L (kh L p most).2)
def eA(L:List Int)(p:Nat)(most:Int):List Sit×Nat:=kg L (mC L p most) (dM L p most) [] (ag L (kh L p most).2)
def GY(L:List Int)(p:Nat)(most:Int):Ovl×Nat:=
 kU L (decide (0<(dM L p most).length)) (Mod (al L (eA L p most).2) 4).toNat ((mF (dM L p most)).1,ag L (eA L p most).2)
def nX(L:List Int)(p:Nat)(most:Int):Ovl×Nat:=mq L (eA L p most).1 (GY L p most)
def Aw(L:List Int)(p:Nat)(most:Int):Ovl×Nat:=og L (Mod (al L (nX L p most).2) 4).toNat ((nX L p most).1,ag L (nX L p most).2)
def qg(L:List Int)(p:Nat)(most:Int):Scn×Nat:=
 (⟨(bu L p most).1.rs,(bu L p most).1.ls,(kh L p most).1.sub,(kh L p most).1.len,(kh L p most).1.es,(eA L p most).1,(Aw L p most).1.sp,(Aw L p most).1.ls,(Aw L p most).1.fl⟩,(Aw L p most).2)
theorem PR(es:List Edg):(Ks es).Pairwise (·<·)∧(∀r,r∈Ks es↔∃e∈es,e.router=r)∧(Ks es).length≤es.length:=by
 have key:∀(l:List Edg) (s:List Int),kT s→kT (l.foldl (λout e=>put out e.router) s)∧(∀g,g∈l.foldl (λout e=>put out e.router) s↔g∈s∨∃x∈l,x.router=g)∧(l.foldl (λout e=>put out e.router) s).length≤s.length+l.length:=by
  intro l
  induction l with
  | nil=>intro s hs;exact⟨hs,λg=>by simp,by simp⟩
  | cons x l ih =>
   intro s hs
   obtain⟨a,b,c⟩:=ih (put s x.router) (Ey hs)
   have:=fG s x.router
   refine⟨a,λg=>?_,by simp only[List.foldl_cons,List.length_cons];omega⟩
   rw[List.foldl_cons,b]
   have hp:g∈put s x.router↔g∈s∨g=x.router:=by
    refine⟨Ex,λq=>?_⟩
    unfold put
    split
    ·rename_i e
     rcases q with q|q
     ·exact q
     ·exact q ▸ aB e
    ·exact rb.mpr q.symm
   rw[hp]
   constructor
   ·rintro((q|q)|⟨y,q1,q2⟩)
    ·exact .inl q
    ·exact .inr ⟨x,by simp,q.symm⟩
    ·exact .inr ⟨y,by simp[q1],q2⟩
   ·rintro(q|⟨y,q1,q2⟩)
    ·exact .inl (.inl q)
    ·rcases List.mem_cons.mp q1 with rfl|q1
     ·exact .inl (.inr q2.symm)
     ·exact .inr ⟨y,q1,q2⟩
 obtain⟨a,b,c⟩:=key es [] (CS.mpr List.Pairwise.nil)
 exact⟨CS.mp a,λg=>by rw[Ks,b];simp,Nat.le_trans c (by simp)⟩
structure Ow (now:Int) (x:Sit):Prop where
  now_:x.now=now
  err:cn ⟨x.now,x.list⟩=0
  grp:∀y∈x.list,1≤y.grp∧y.grp≤4
theorem Uw{m:bW}{now d h:Int}(h1:∀x∈m.list,zq m.now x)(h2:m.list.Pairwise cY)(h3:m.list.length≤64)(hd:d=now-m.now)(hn:0≤now∧now≤1000000)(hh:0≤h∧h≤90) :
  cn ⟨now,m.list.map (shM d h)⟩=0∧∀y∈m.list.map (shM d h),1≤y.grp∧y.grp≤4:=by
 refine⟨Ht hn (by simpa using h3) (λx hx=>?_) (λx hx=>?_) (λx hx=>?_) ?_,λx hx=>?_⟩
 ·obtain⟨y,hy,rfl⟩:=List.mem_map.mp hx
  have:=h1 y hy
  have h4:=this.host;have h5:=this.grp;have h6:=this.til
  refine⟨⟨?_,?_⟩,⟨?_,?_⟩,?_,?_⟩<;>simp only[shM]<;>omega
 ·obtain⟨y,hy,rfl⟩:=List.mem_map.mp hx
  exact(h1 y hy).flt
 ·obtain⟨y,hy,rfl⟩:=List.mem_map.mp hx
  exact(h1 y hy).no
 ·rw[List.pairwise_map]
  refine h2.imp λ{a b} q=>?_
  have q:kS a b.grp b.host=true:=q
  show kS (shM d h a) (shM d h b).grp (shM d h b).host=true
  simp only[kS,shM,Bool.or_eq_true,Bool.and_eq_true,decide_eq_true_eq,beq_iff_eq]at q ⊢
  rcases q with q|⟨q1,q2⟩
  ·exact .inl (decide_eq_true q)
  ·exact .inr ⟨q1,decide_eq_true (show h+a.host<h+b.host by omega)⟩
 ·obtain⟨y,hy,rfl⟩:=List.mem_map.mp hx
  exact(h1 y hy).grp
theorem wn{L:List Int}{now:Int}(hn:0≤now∧now≤1000000):∀{rs:List Int} {out:List Sit} {p:Nat},out.length+rs.length≤10→(∀x∈out,Ow now x) →
  (∀x∈(kg L now rs out p).1,Ow now x)∧(kg L now rs out p).1.map Sit.router=out.map Sit.router++rs
 | [],out,p,hl,h=>⟨h,by simp[kg]⟩
 | r::rs,out,p,hl,h=>by
  obtain⟨m1,m2,m3,m4⟩:=xn L (n:=4) p (by omega)
  simp only[List.length_cons]at hl
  obtain⟨s1,s2⟩:=Uw (now:=now) (d:=now-(aZ L 4 p).1.now) (h:=10 * (out.length:Int)) m2 m3 (by omega) rfl hn (by omega)
  rw[kg]
  obtain⟨a,b⟩:=wn hn (L:=L) (rs:=rs) (out:=out++[⟨r,now,(aZ L 4 p).1.list.map (shM (now-(aZ L 4 p).1.now) (10 * out.length))⟩]) (p:=(aZ L 4 p).2) (by simp;omega) (λx hx=>by
   rcases List.mem_append.mp hx with hx|hx
   ·exact h x hx
   ·have hx:x=⟨r,now,(aZ L 4 p).1.list.map (shM (now-(aZ L 4 p).1.now) (10 * out.length))⟩:=by simpa using hx
    subst hx;exact⟨rfl,s1,s2⟩)
  exact⟨a,by rw[b];simp⟩
section
variable {L : List Int} {p : Nat} {most : Int}
theorem Ei(h:1≤most∧most≤8):Tx (bu L p most).1 (kh L p most).1:=Qv (nH (by omega)).2.1
theorem mS(h:1≤most∧most≤8):okR (dM L p most)∧(dM L p most).length≤8:=by
 obtain⟨t1,t2,t3⟩:=nH (L:=L) (p:=p) (most:=most) (by omega)
 have hp:=Ei (L:=L) (p:=p) h
 obtain⟨r1,r2,r3⟩:=PR (kh L p most).1.es
 have:=hp.es
 have hl:(dM L p most).length≤8:=by unfold dM;omega
 refine⟨⟨by omega,λr hr=>?_,r1⟩,hl⟩
 obtain⟨e,he,rfl⟩:=(r2 r).mp hr
 obtain⟨z,hz,q⟩:=hp.at_ e he
 have:=t3 z hz
 omega
theorem Ej:0≤mC L p most∧mC L p most≤1000000:=by
 have:=fH (l:=[0,100]) (a:=0) (b:=100) (by decide) (by decide) (al L (kh L p most).2)
 unfold mC;omega
theorem Eh(h:1≤most∧most≤8):(∀x∈(eA L p most).1,Ow (mC L p most) x)∧(eA L p most).1.map Sit.router=dM L p most:=by
 have:=(mS (L:=L) (p:=p) h).2
 obtain⟨a,b⟩:=wn (L:=L) (Ej (L:=L) (p:=p) (most:=most)) (rs:=dM L p most) (out:=[]) (p:=ag L (kh L p most).2) (by simp;omega) (by simp)
 exact⟨a,by rw[eA,b];rfl⟩
theorem Ko(h:1≤most∧most≤8):(eA L p most).1.length≤8:=by
 have:=congrArg List.length (Eh (L:=L) (p:=p) h).2
 rw[List.length_map]at this
 have:=(mS (L:=L) (p:=p) h).2
 omega
end
def smN:List Itm→Int→Int
 | [],n=>n
 | x::r,n=>if n<900 then smN r (W (n+x.srcs.length))else n
def gZ(l:List Itm):Bool:=decide (smN l l.length≤800)
def gY(s:Spk):Bool:=gZ s.items && decide ((s.peers.length:Int)≤40)
def gp(l:Lsn):Bool:=decide ((l.heard.length:Int)≤30) && l.heard.all λh=>gZ h.items
def lj(o:Ovl):Bool:=decide (o.sp.length≤14) && (decide (o.ls.length≤14) && (decide (o.fl.length≤200) && (o.sp.all gY && (o.ls.all gp && o.fl.all λx=>decide (x.srcs.length≤110)))))
theorem pV{α:Type}{l:List α}{k:Nat}{x:α}{p:α→Bool}(hx:l[k]?=some x)(h:(l.take k).all p=true)(d:p x=true):(l.take (k+1)).all p=true:=by
 obtain⟨hk,rfl⟩:=List.getElem?_eq_some_iff.mp hx
 rw[List.take_succ_eq_append_getElem hk,List.all_append,h]
 simp[d]
theorem vu{α:Type}{l:List α}{x:α}{p:α→Bool}(hx:x∈l)(d:p x=false):l.all p=false:=by
 refine Bool.eq_false_iff.mpr λq=>?_
 rw[List.all_eq_true]at q
 have:=q x hx
 rw[d]at this
 exact Bool.noConfusion this
structure NI (R:List Int) (o:Ovl):Prop where
  net:bt R o.sp o.ls
  fl:∀x∈o.fl,cP R x
section
variable {R : List Int} {o : Ovl} {L : List Int}
theorem NI.ok(h:NI R o):bQ o:=by
 have e:aJ o.sp=R:=h.net.spr
 exact⟨by rw[e];exact h.net,by rw[e];exact h.fl⟩
theorem NI.chg(h:NI R o){r:Int}{w:List Wnt}(hc:(bT o r w).2=0):NI R (bT o r w).1∧(bT o r w).1.fl=o.fl:=by
 have e0:aJ o.sp=R:=h.net.spr
 unfold bT at hc ⊢
 rw[if_neg (not_not_intro h.ok)]at hc ⊢
 by_cases h1:r ∉ aJ o.sp
 ·rw[if_pos h1]at hc;simp at hc
 rw[if_neg h1]at hc ⊢
 by_cases h2:bh false w≠0
 ·rw[if_pos h2]at hc;exact absurd hc h2
 rw[if_neg h2]at hc ⊢
 by_cases h3:(am (aM (atS o.sp r).items) w).2≠0
 ·rw[if_pos h3]at hc;exact absurd hc h3
 rw[if_neg h3]at hc ⊢
 by_cases h4:(change (atS o.sp r) (am (aM (atS o.sp r).items) w).1).2≠0
 ·rw[if_pos h4]at hc;exact absurd hc h4
 rw[if_neg h4]
 have hr:r∈R:=by rw[←e0];exact Classical.not_not.mp h1
 have h4:=Classical.not_not.mp h4
 obtain⟨q1,q2⟩:=h.net.s hr
 obtain⟨k1,k2⟩:=h.net.spo _ q1
 obtain⟨_,f2,f3,f4⟩:=pL h4
 have hok:=vm h4
 generalize hz:(change (atS o.sp r) (am (aM (atS o.sp r).items) w).1).1=z at *
 have hz1:z.router=(atS o.sp r).router∧z.peers=(atS o.sp r).peers:=by rw[←hz,f4];exact⟨rfl,rfl⟩
 have s:=h.net.setS hr (z:=z) (by rw[hz1.1];exact q2) ⟨hok,by rw[hz1.1,hz1.2];exact k2⟩
 exact⟨⟨s.net,h.fl⟩,rfl⟩
theorem NI.rst(h:NI R o){r:Int}{w:List Wnt}(hc:(dN o r w).2=0):NI R (dN o r w).1∧(dN o r w).1.fl=o.fl:=by
 have e0:aJ o.sp=R:=h.net.spr
 unfold dN at hc ⊢
 rw[if_neg (not_not_intro h.ok)]at hc ⊢
 by_cases h1:r ∉ aJ o.sp
 ·rw[if_pos h1]at hc;simp at hc
 rw[if_neg h1]at hc ⊢
 by_cases h3:(bR (atS o.sp r) w).2≠0
 ·rw[if_pos h3]at hc;exact absurd hc h3
 rw[if_neg h3]at hc ⊢
 by_cases h4:(atL o.sp o.ls r).epoch=1000000
 ·rw[if_pos h4]at hc;simp at hc
 rw[if_neg h4]
 have hr:r∈R:=by rw[←e0];exact Classical.not_not.mp h1
 have h3:=Classical.not_not.mp h3
 obtain⟨q1,q2⟩:=h.net.s hr
 obtain⟨k1,k2⟩:=h.net.spo _ q1
 obtain⟨m1,m2⟩:=h.net.l hr
 obtain⟨n1,n2⟩:=h.net.lso _ m1
 obtain⟨_,f2,f3,f4⟩:=lY h3
 have hok:=qi h3
 generalize hz:(bR (atS o.sp r) w).1=z at *
 have hz1:z=⟨r,(atS o.sp r).epoch+1,w.length,w.mapIdx my,(atS o.sp r).peers.map λp=>⟨p.router,0,0⟩⟩:=by
  rw[←hz,f4,q2]
 have s:=h.net.setS hr (z:=z) (by rw[hz1]) ⟨hok,by rw[hz1];rw[q2]at k2;exact(List.map_map ..).trans k2⟩
 have t:=s.net.setL hr (z:=⟨r,(atL o.sp o.ls r).epoch+1,[]⟩) rfl ⟨⟨by have:=n1.1;rw[m2]at this;exact this,⟨by have:=n1.2.1;simp only;omega,by have:=n1.2.1;simp only;omega⟩,by simp,by simp,by simp⟩,by simp⟩
 rw[s.pos r]at t
 exact⟨⟨t.1,h.fl⟩,rfl⟩
theorem NI.round(h:NI R o)(f:List Fau):(bH o f).2=0∧NI R (bH o f).1∧(bH o f).1.fl.length≤o.fl.length+f.length+14400:=by
 unfold bH
 rw[if_neg (not_not_intro h.ok)]
 obtain⟨h1,h2⟩:=Gf (P:=λx=>x∈o.fl) (l:=o.fl) (f:=f) λx hx=>hx
 have r:=Hc h.net (λx hx=>h.fl x (h1 x hx)) (λx hx=>h.fl x (h2 x hx))
 refine⟨rfl,⟨r.net,r.fl⟩,?_⟩
 have hs:=GX r.net
 have hd:=ip (l:=(arr o.fl f).1) (s:=((o.sp,o.ls),(arr o.fl f).2))
 have ha:=Gg (l:=o.fl) (f:=f)
 unfold lp at hs ⊢
 simp only[List.length_append]at *
 omega
theorem NI.or{x:Ovl×Int}{B:Nat}(h:NI R o)(hb:o.fl.length≤B)(hx:x.2=0→NI R x.1∧x.1.fl.length≤B):NI R (orO o x)∧(orO o x).fl.length≤B:=by
 unfold orO
 by_cases e:x.2≠0
 ·rw[if_pos e];exact⟨h,hb⟩
 ·rw[if_neg e];exact hx (Classical.not_not.mp e)
theorem NI.act(h:NI R o){p:Nat}:NI R (gz L p o).1∧(gz L p o).1.fl.length≤o.fl.length+14440:=by
 unfold gz
 split
 ·exact h.or (by omega) λq=>⟨(h.chg q).1,by rw[(h.chg q).2];omega⟩
 split
 ·exact h.or (by omega) λq=>⟨(h.rst q).1,by rw[(h.rst q).2];omega⟩
 split
 ·exact h.or (by omega) λq=>by
   have k:=(h.round (dt L (min o.fl.length 40) (ag L (ag L p))).1).2
   have:=pd (L:=L) (n:=min o.fl.length 40) (p:=ag L (ag L p))
   exact⟨k.1,by have:=k.2;omega⟩
 ·exact h.or (by omega) λq=>by
   have k:=(h.round (bx L o.fl.length (ag L (ag L p))).1).2
   have:=eY (L:=L) (n:=o.fl.length) (p:=ag L (ag L p))
   exact⟨k.1,by have:=k.2;omega⟩
theorem NI.new{l:List Int}(h:okR l):NI l (iM l):=⟨qZ h,by simp[iM]⟩
end
def NIB(R:List Int)(o:Ovl)(B:Nat):Prop:=NI R o∧o.fl.length≤B
theorem NIB.more{R:List Int}{o:Ovl}{B B':Nat}(h:NIB R o B)(hB:B≤B'):NIB R o B':=⟨h.1,Nat.le_trans h.2 hB⟩
theorem NIB.or{R:List Int}{o:Ovl}{B:Nat}{x:Ovl×Int}(h:NIB R o B)(hx:x.2=0→NIB R x.1 B):NIB R (orO o x) B:=by
 unfold orO
 by_cases e:x.2≠0
 ·rw[if_pos e];exact h
 ·rw[if_neg e];exact hx (Classical.not_not.mp e)
theorem NIB.round{R:List Int}{o:Ovl}{B:Nat}(h:NIB R o B)(f:List Fau):(bH o f).2=0∧NIB R (bH o f).1 (B+f.length+14400):=by
 obtain⟨a,b,c⟩:=h.1.round f
 have:=h.2
 exact⟨a,b,by omega⟩
theorem NIB.act{R:List Int}{o:Ovl}{B:Nat}{L:List Int}{p:Nat}(h:NIB R o B):NIB R (gz L p o).1 (B+14440):=by
 obtain⟨a,b⟩:=h.1.act (L:=L) (p:=p)
 have:=h.2
 exact⟨a,by omega⟩
theorem zo{R:List Int}{L:List Int}{b:Bool}:∀{n:Nat} {s:Ovl×Nat} {B:Nat},NIB R s.1 B→NIB R (kU L b n s).1 (B+14440 * n)
 | 0,s,B,h=>h.more (by omega)
 | n+1,s,B,h=>by
  rw[kU]
  have:NIB R (if b=true then gz L s.2 s.1 else s).1 (B+14440):=by
   split
   ·exact h.act
   ·exact h.more (by omega)
  exact(zo (n:=n) this).more (by omega)
theorem za{R:List Int}{L:List Int}{x:Sit}{s:Ovl×Nat}{B:Nat}(h:NIB R s.1 B):NIB R (mr L x s).1 B:=by
 unfold mr
 split
 ·split
  ·exact h.or λq=>by
    obtain⟨a,b⟩:=h.1.chg q
    exact⟨a,by rw[b];exact h.2⟩
  ·exact h
 ·exact h
theorem yY{R:List Int}{L:List Int}:∀{l:List Sit} {s:Ovl×Nat} {B:Nat},NIB R s.1 B→NIB R (mq L l s).1 B
 | [],s,B,h=>h
 | x::l,s,B,h=>by
  rw[mq]
  exact yY (za h)
theorem wD{R:List Int}{L:List Int}:∀{n:Nat} {s:Ovl×Nat} {B:Nat},NIB R s.1 B→NIB R (og L n s).1 (B+14403 * n)
 | 0,s,B,h=>h.more (by omega)
 | n+1,s,B,h=>by
  rw[og]
  have h1:=(h.round (bx L s.1.fl.length s.2).1).2
  have:=eY (L:=L) (n:=s.1.fl.length) (p:=s.2)
  exact(wD (n:=n) (s:=((bH s.1 (bx L s.1.fl.length s.2).1).1,(bx L s.1.fl.length s.2).2)) h1).more (by omega)
section
variable {L : List Int} {p : Nat} {most : Int}
theorem mod4(x:Int):(Mod x 4).toNat≤3:=by
 obtain⟨h1,h2⟩:=bg (x:=x) (n:=4) (by decide)
 generalize Mod x 4=y at *
 omega
theorem El(h:1≤most∧most≤8):NIB (dM L p most) (mF (dM L p most)).1 0:=by
 have hr:=(mS (L:=L) (p:=p) h).1
 rw[mF,if_pos hr]
 exact⟨NI.new hr,by simp[iM]⟩
theorem PQ(h:1≤most∧most≤8):NIB (dM L p most) (GY L p most).1 43320:=by
 have z:=El (L:=L) (p:=p) h
 have h4:=mod4 (al L (eA L p most).2)
 unfold GY
 generalize (mF (dM L p most)).1=o0 at z ⊢
 generalize (Mod (al L (eA L p most).2) 4).toNat=n at h4 ⊢
 exact(zo (L:=L) (b:=decide (0<(dM L p most).length)) (n:=n) (s:=(o0,ag L (eA L p most).2)) z).more (by omega)
theorem Ek(h:1≤most∧most≤8):NIB (dM L p most) (nX L p most).1 43320:=by
 have z:=PQ (L:=L) (p:=p) h
 unfold nX
 generalize GY L p most=A at z ⊢
 exact yY (L:=L) z
theorem PH(h:1≤most∧most≤8):NIB (dM L p most) (Aw L p most).1 86529:=by
 have z:=Ek (L:=L) (p:=p) h
 have h4:=mod4 (al L (nX L p most).2)
 unfold Aw
 generalize nX L p most=C at z h4 ⊢
 generalize (Mod (al L C.2) 4).toNat=n at h4 ⊢
 exact(wD (L:=L) (n:=n) (s:=(C.1,ag L C.2)) z).more (by omega)
end
structure Gw (P:List Int) (o q:Ovl):Prop where
  s1:∀a∈P,ep o a=ep q a
  s2:∀a∈P,la o a=la q a
  s3:∀a∈P,it o a=it q a
  s4:∀a∈P,le o a=le q a
  s5:∀a∈P,∀b∈P,a≠b→pe o a b=pe q a b
  s6:∀a∈P,∀b∈P,a≠b→he o a b=he q a b
  s7:∀a∈P,∀b∈P,a≠b→tells o a b=tells q a b
  s8:∀a∈P,∀b∈P,a≠b→acks o a b=acks q a b
theorem Gw.symm{P:List Int}{o q:Ovl}(h:Gw P o q):Gw P q o:=
 ⟨λa ha=>(h.s1 a ha).symm,λa ha=>(h.s2 a ha).symm,λa ha=>(h.s3 a ha).symm,λa ha=>(h.s4 a ha).symm,λa ha b hb q=>(h.s5 a ha b hb q).symm,λa ha b hb q=>(h.s6 a ha b hb q).symm,λa ha b hb q=>(h.s7 a ha b hb q).symm,λa ha b hb q=>(h.s8 a ha b hb q).symm⟩
section
variable {P R S : List Int} {o o' q q' : Ovl} {r : Int} {w : List Wnt}
theorem Gw.fl(hf:o'.fl=o.fl)(a b:Int):tells o' a b=tells o a b∧acks o' a b=acks o a b:=by
 unfold tells acks;rw[hf];exact⟨rfl,rfl⟩
end
def inR(x lo hi:Int):Bool:=decide (lo≤x∧x≤hi)
def inR_a(x:Int)(lo:Int)(hi:Int):=okL [.int x,.int lo,.int hi]
def Me(r:Bool):AV:=.bool r
def Mc(x:Int)(lo:Int)(hi:Int):Ax Tryz.prog noS (Bool):=
 (.br 80 (decide (lo≤x)) (.ret (decide (x≤hi)))
(.ret (false)))
def Md(x:Int)(lo:Int)(hi:Int)(r0:Bool):=(Mc x lo hi).vp Me r0
theorem inR_p(x lo hi:Int)(ok:inR_a x lo hi):Md x lo hi (inR x lo hi):=by
 dsimp only[Md,Mc,noS,Ax.vp,Ax.vc];simp only[vcU,rfU,List.length_map]
 refine⟨λh=>decide_eq_decide.mpr ⟨λq=>⟨h,q⟩,λq=>q.2⟩,λh=>(decide_eq_false λq=>h q.1).symm⟩
def gN(x:Int)(lo:Int)(hi:Int):PC Tryz.prog:=⟨149,[.k,.k,.k],[.int x,.int lo,.int hi],Me (inR x lo hi),ao.of_ok λok=>aj (sh:=.k) (enc:=Me) (a:=(Mc x lo hi).an) (inR_p x lo hi ok) (by kernel_rfl) (AV.pureB_ok rfl),ai (by kernel_rfl)⟩
theorem zj{α:Type}(key:α→Int){l:List α}{k:Nat}{x y:α}(hx:l[k]?=some x)(h0:0<k)(hy:l[k-1]?=some y) :
  (l.take (k+1)).Pairwise (λa b=>key a<key b)↔(l.take k).Pairwise (λa b=>key a<key b)∧key y<key x:=by
 rw[ax hx,List.pairwise_append]
 have hm:y∈l.take k:=by
  have:(l.take k)[k-1]?=some y:=by rw[List.getElem?_take,if_pos (by omega)];exact hy
  exact List.mem_of_getElem? this
 constructor
 ·rintro⟨h1,_,h3⟩
  exact⟨h1,h3 y hm x (by simp)⟩
 ·rintro⟨h1,h2⟩
  refine⟨h1,List.pairwise_singleton _ _,λa ha b hb=>?_⟩
  rw[List.mem_singleton]at hb;subst hb
  obtain⟨i,hi,rfl⟩:=List.getElem_of_mem ha
  rw[List.length_take]at hi
  rw[List.getElem_take]
  obtain⟨hk,hyk⟩:=List.getElem?_eq_some_iff.mp hy
  rcases Nat.lt_or_ge i (k-1)with e|e
  ·have:=List.pairwise_iff_getElem.mp h1 i (k-1) (by rw[List.length_take];omega) (by rw[List.length_take];omega) e
   rw[List.getElem_take,List.getElem_take,hyk]at this
   omega
  ·have:i=k-1:=by omega
   subst this
   rw[hyk];exact h2
theorem rV{α:Type}(key:α→Int){l:List α}{x:α}(hx:l[0]?=some x):(l.take 1).Pairwise (λa b=>key a<key b):=by
 rw[ax hx];simp
theorem bq{α:Type}{l:List α}{k:Nat}{x:α}(hx:l[k]?=some x){P:α→Prop}:(∀y∈l.take (k+1),P y)↔(∀y∈l.take k,P y)∧P x:=by
 rw[ax hx]
 constructor
 ·intro h;exact⟨λy hy=>h y (List.mem_append_left _ hy),h x (by simp)⟩
 ·rintro⟨h1,h2⟩ y hy
  rcases List.mem_append.mp hy with hy|hy
  ·exact h1 y hy
  ·rw[List.mem_singleton]at hy;subst hy;exact h2
theorem vz{k:Nat}(h:k≤9223372036854775807):W ((k:Int)-1)=(k:Int)-1:=bB (by omega)
theorem aT.take{n:Int}{l:List Itm}(h:aT n l)(k:Nat):aT n (l.take k):=
 ⟨λx hx=>h.1 x (List.mem_of_mem_take hx),by rw[List.map_take];exact h.2.1.sublist (List.take_sublist _ _),h.2.2.sublist (List.take_sublist _ _)⟩
theorem iQ{n:Int}{l:List Itm}{k:Nat}{x:Itm}(hx:l[k]?=some x):aT n (l.take (k+1))↔aT n (l.take k)∧kB n x∧(∀y∈l.take k,y.grp≠x.grp)∧(0<k→∀y,l[k-1]?=some y→y.ver<x.ver):=by
 have hn:((l.take (k+1)).map Itm.grp).Nodup↔((l.take k).map Itm.grp).Nodup∧∀y∈l.take k,y.grp≠x.grp:=by
  rw[ax hx,List.map_append,List.nodup_append]
  simp only[List.map_cons,List.map_nil,List.mem_singleton,List.mem_map,List.nodup_cons,List.not_mem_nil,not_false_eq_true,List.nodup_nil,and_self,true_and]
  constructor
  ·rintro⟨h1,h2⟩
   exact⟨h1,λy hy=>h2 _ ⟨y,hy,rfl⟩ _ rfl⟩
  ·rintro⟨h1,h2⟩
   refine⟨h1,?_⟩
   rintro _ ⟨y,hy,rfl⟩ _ rfl
   exact h2 y hy
 unfold aT
 rw[bq hx,hn]
 cases k with
 | zero =>
  have:(l.take 1).Pairwise λx y=>x.ver<y.ver:=rV Itm.ver hx
  simp[this]
 | succ k =>
  obtain⟨y,hy⟩:∃y,l[k]?=some y:=⟨_,List.getElem?_eq_getElem (by have:=ay hx;omega)⟩
  rw[zj Itm.ver hx (by omega) (by simpa using hy)]
  simp only[Nat.add_sub_cancel,hy,Option.some.injEq,Nat.zero_lt_succ,forall_const,forall_eq']
  constructor
  ·rintro⟨⟨a,b⟩,⟨c,d⟩,e,f⟩;exact⟨⟨a,c,e⟩,b,d,f⟩
  ·rintro⟨⟨a,c,e⟩,b,d,f⟩;exact⟨⟨a,b⟩,⟨c,d⟩,e,f⟩
def xF(l:List Itm)(last:Int):=okL [.sl 4 (l.map Itm.v) false,.int last]
def Hx(l:List Itm)(last:Int)(t0:Int):NF:=⟨[(0,.k,.sl 4 (l.map Itm.v) false),(1,.k,.int last),(8,.k,.sl 4 (l.map Itm.v) false),(9,.k,.int ((l.map Itm.v).length:Int)),(10,.k,.int t0)],[]⟩
def Hw(l:List Itm)(last:Int)(t0:Int)(x1:Itm)(t1:Bool):NF:=⟨[(0,.k,.sl 4 (l.map Itm.v) false),(1,.k,.int last),(5,.k,.int t0),(6,.k,.ref 0 0),(8,.k,.sl 4 (l.map Itm.v) false),(9,.k,.int ((l.map Itm.v).length:Int)),(10,.k,.int t0),(46,.k,.bool t1)],[.box (.agg [.int x1.ver,.int x1.grp,.int x1.mode,.sl 1 (x1.srcs.map AV.int) false])]⟩
def Hv(l:List Itm)(last:Int)(t0:Int)(x1:Itm)(t2:Int):NF:=⟨[(0,.k,.sl 4 (l.map Itm.v) false),(1,.k,.int last),(5,.k,.int t0),(6,.k,.ref 0 0),(7,.k,.int t2),(8,.k,.sl 4 (l.map Itm.v) false),(9,.k,.int ((l.map Itm.v).length:Int)),(10,.k,.int t0)],[.box (.agg [.int x1.ver,.int x1.grp,.int x1.mode,.sl 1 (x1.srcs.map AV.int) false])]⟩
@[reducible] def xE:Nat→Type
 | 0=>Int
 | 1=>Bool
 | 2=>Int
 | _=>Unit
def oM(r:Bool):AV:=.bool r
def oL(l:List Itm)(last:Int)(I0:Int→Prop)(m0:Int→Nat)(I1:Int→Itm→Bool→Prop)(I2:Int→Itm→Bool→Int→Prop)(m2:Int→Itm→Bool→Int→Nat):Ax Tryz.prog xE (Bool):=
 (.loop 0 (Hx l last) I0 m0 ((0):Int) [] λ(t0:Int) b0 =>
(.br 16 (decide (t0<((l.map Itm.v).length:Int))) (.el 32 Itm.v l (λR=>Rf (l.map Itm.v) (ck (decide (0≤t0)) (ck (decide (t0<(l.length:Int)))
(∀x1,l[t0.toNat]?=some x1 →
(R x1))))) λx1 =>
(.pass (.join 1 (Hw l last t0 x1) (λ(t1:Bool)=>I1 t0 x1 t1) (λb1=>(.callP (gN x1.ver 1 last)
(.br 208 (!(inR x1.ver 1 last)) (.bk 1 b1 ((true):Bool) [64])
(.callP (gN x1.grp 1 99)
(.br 304 (!(inR x1.grp 1 99)) (.bk 1 b1 ((true):Bool) [64])
(.callP (jY (⟨x1.mode,x1.srcs⟩:Flt))
(.br 400 ((aF (⟨x1.mode,x1.srcs⟩:Flt).mode (⟨x1.mode,x1.srcs⟩:Flt).srcs) != 0) (.bk 1 b1 ((true):Bool) [64])
(.br 448 (decide (0<t0)) (.el 496 Itm.v l (λR=>Rf (l.map Itm.v) (ck (decide (0≤(W (t0-1)))) (ck (decide ((W (t0-1))<(l.length:Int)))
(∀x2,l[(W (t0-1)).toNat]?=some x2 →
(R x2))))) λx2 =>
(.bk 1 b1 ((decide (x1.ver≤x2.ver)):Bool) [64]))
(.bk 1 b1 ((false):Bool) [64]))))))))) λ(t1:Bool) =>
(.br 1 t1 (.ret (false))
(.loop 2 (Hv l last t0 x1) (I2 t0 x1 t1) (m2 t0 x1 t1) ((0):Int) [0] λ(t2:Int) b2 =>
(.br 49 (decide (t2<t0)) (.el 81 Itm.v l (λR=>Rf (l.map Itm.v) (ck (decide (0≤t2)) (ck (decide (t2<(l.length:Int)))
(∀x3,l[t2.toNat]?=some x3 →
(R x3))))) λx3 =>
(.br 177 (x3.grp==x1.grp) (.ret (false))
(.bk 2 b2 ((W (t2+1)):Int) [0])))
(.bk 0 b0 ((W (t0+1)):Int) [])))))))
(.ret (true))))
def ri(l:List Itm)(last:Int)(I0:Int→Prop)(m0:Int→Nat)(I1:Int→Itm→Bool→Prop)(I2:Int→Itm→Bool→Int→Prop)(m2:Int→Itm→Bool→Int→Nat)(r0:Bool):=(oL l last I0 m0 I1 I2 m2).vp oM r0
theorem LV(l:List Itm)(last:Int)(ok:xF l last):∃I0 m0 I1 I2 m2,ri l last I0 m0 I1 I2 m2 (cD l last):=by
 simp only[xF,okU,Blk.ok,aK,List.length_map]at ok
 refine⟨λt=>∃k:Nat,t=k∧k≤l.length∧aT last (l.take k),λt=>l.length-t.toNat,
  λt x b=>b=false↔kB last x∧(0<t.toNat→∀y,l[t.toNat-1]?=some y→y.ver<x.ver),
  λt x b t2=>∃j:Nat,t2=j∧j≤t.toNat∧∀y∈l.take j,y.grp≠x.grp,λt x b t2=>t.toNat-t2.toNat,?_⟩
 dsimp only[ri,oL,xE,Ax.vp,Ax.vc];simp only[vcU,rfU,List.length_map]
 have hle:l.length≤9223372036854775807:=ok.1.1
 refine⟨⟨0,rfl,by omega,by simp[aT]⟩,?_⟩
 rintro _ ⟨k,rfl,hk,hI⟩
 simp only[Int.toNat_natCast]
 refine⟨λh1=>⟨by omega,by omega,λx hx=>⟨?_,?_⟩⟩,λh1=>?_⟩
 ·simp only[inR,Bool.not_eq_true',decide_eq_false_iff_not,Bool.not_eq_false',decide_eq_true_iff]
  have no:∀{q:Prop},¬q→((kB last x→q)→(true=false↔kB last x∧(0<k→∀y,l[k-1]?=some y→y.ver<x.ver))):=λhq hi=>⟨λe=>Bool.noConfusion e,λe=>absurd (hi e.1) hq⟩
  refine⟨λh2=>no h2 λq=>q.1,λh2=>⟨λh3=>no h3 λq=>q.2.1,λh3=>⟨λh4=>no (q:=aF x.mode x.srcs=0) (by simpa using h4) λq=>q.2.2,λh4=>⟨λh5=>?_,λh5=>?_⟩⟩⟩⟩
  ·rw[vz (by omega)]
   have e:((k:Int)-1).toNat=k-1:=by omega
   rw[e]
   refine⟨by omega,by omega,λy hy=>?_⟩
   have h4:aF x.mode x.srcs=0:=by simpa using h4
   constructor
   ·intro q;exact⟨⟨h2,h3,h4⟩,λ_ z hz=>by rw[hy]at hz;cases hz;omega⟩
   ·rintro⟨_,q⟩;have:=q (by omega) y hy;omega
  ·exact⟨λ_=>⟨⟨h2,h3,by simpa using h4⟩,λq=>by omega⟩,λ_=>trivial⟩
 ·intro b hb
  refine⟨λe=>(decide_eq_false λq=>?_).symm,λe=>⟨⟨0,rfl,by omega,by simp⟩,?_⟩⟩
  ·subst e
   have:=(iQ hx).mp (q.take (k+1))
   exact Bool.noConfusion (hb.mpr ⟨this.2.1,this.2.2.2⟩)
  ·obtain⟨q1,q2⟩:=hb.mp e
   rintro _ ⟨j,rfl,hj,hg⟩
   simp only[Int.toNat_natCast]
   refine⟨λh3=>⟨by omega,by omega,λy hy=>⟨λe2=>?_,λe2=>?_⟩⟩,λh3=>?_⟩
   ·refine(decide_eq_false λq=>?_).symm
    have:=((iQ hx).mp (q.take (k+1))).2.2.1 y (by
     have:(l.take k)[j]?=some y:=by rw[List.getElem?_take,if_pos (by omega)];exact hy
     exact List.mem_of_getElem? this)
    exact this (by simpa using e2)
   ·rw[av (n:=k) (by omega) (by omega)]
    exact⟨⟨j+1,rfl,by omega,(bq hy).mpr ⟨hg,by simpa using e2⟩⟩,by omega⟩
   ·have:j=k:=by omega
    subst this
    rw[av (n:=l.length) (by omega) (by omega)]
    exact⟨⟨j+1,rfl,by omega,(iQ hx).mpr ⟨hI,q1,hg,q2⟩⟩,by omega⟩
 ·rw[List.take_of_length_le (by omega)]at hI
  exact(decide_eq_true hI).symm
def oN(l:List Itm)(last:Int):PC Tryz.prog:=⟨115,[(.s 4),.k],[.sl 4 (l.map Itm.v) false,.int last],oM (cD l last),ao.of_ok λok=>(LV l last ok).elim λI0 h=>h.elim λm0 h=>h.elim λI1 h=>h.elim λI2 h=>h.elim λm2 h=>aj (sh:=.k) (enc:=oM) (a:=(oL l last I0 m0 I1 I2 m2).an) h (by kernel_rfl) (AV.pureB_ok rfl),ai (by kernel_rfl)⟩
def UM(l:List Itm)(x:Itm):=okL [.sl 4 (l.map Itm.v) false,.agg [.int x.ver,.int x.grp,.int x.mode,.sl 1 (x.srcs.map AV.int) false]]
def Qq(l:List Itm)(x:Itm)(t0:Int×List Itm):NF:=⟨[(3,.k,.ref 0 0),(5,.k,.vec 1),(8,.k,.sl 4 (l.map Itm.v) false),(9,.k,.int ((l.map Itm.v).length:Int)),(10,.k,.int t0.1)],[.box (.agg [.int x.ver,.int x.grp,.int x.mode,.sl 1 (x.srcs.map AV.int) false]),.vec 4 (t0.2.map Itm.v) (ab (λ_=>rfl) t0.2)]⟩
@[reducible] def KG:Nat→Type
 | 0=>Int×List Itm
 | _=>Unit
def AJ(r:List Itm):AV:=.sl 4 (r.map Itm.v) false
def AI(l:List Itm)(x:Itm)(I0:(Int×List Itm)→Prop)(m0:(Int×List Itm)→Nat):Ax Tryz.prog KG ((List Itm)):=
 (.cmdL (.nilT 5 4) (.loop 0 (Qq l x) I0 m0 (0,[]) [0,96] λ(t0:Int×List Itm) b0 =>
(.br 18 (decide (t0.1<((l.map Itm.v).length:Int))) (.el 18 Itm.v l (λR=>Rf (l.map Itm.v) (ck (decide (0≤t0.1)) (ck (decide (t0.1<(l.length:Int)))
(∀x1,l[t0.1.toNat]?=some x1 →
(R x1))))) λx1 =>
(.br 162 (x1.grp != x.grp) (.say (λR=>Rf (α:=List AV) (t0.2.map Itm.v) (Rf (α:=List AV) [.agg [.int x1.ver,.int x1.grp,.int x1.mode,.sl 1 (x1.srcs.map AV.int) false]]
(ck (decide (t0.2.length+1≤1048576))
R))) (.app 210 Itm.v t0.2 [x1]
(.bk 0 b0 (W (t0.1+1),t0.2++[x1]) [0,210])))
(.bk 0 b0 (W (t0.1+1),t0.2) [0,1])))
(.say (λR=>Rf (α:=List AV) (t0.2.map Itm.v) (Rf (α:=List AV) [.agg [.int x.ver,.int x.grp,.int x.mode,.sl 1 (x.srcs.map AV.int) false]]
(ck (decide (t0.2.length+1≤1048576))
R))) (.app 66 Itm.v t0.2 [x]
(.say (Rf ((t0.2++[x]).map Itm.v)) (.cmdL (.frzE 66 ((t0.2++[x]).map Itm.v) (ab (λ_=>rfl) (t0.2++[x]))) (.ret (t0.2++[x])))))))))
def Ez(l:List Itm)(x:Itm)(I0:(Int×List Itm)→Prop)(m0:(Int×List Itm)→Nat)(r0:List Itm):=(AI l x I0 m0).vp AJ r0
theorem UL(l:List Itm)(x:Itm)(hl:l.length≤999999)(ok:UM l x):∃I m,Ez l x I m (om l x):=by
 refine⟨λt=>∃k:Nat,t.1=k∧k≤l.length∧t.2=without x.grp (l.take k),λt=>l.length-t.1.toNat,?_⟩
 dsimp only[Ez,AI,KG,Ax.vp,Ax.vc];simp only[vcU,rfU,List.length_map]
 refine⟨⟨0,rfl,by omega,rfl⟩,?_⟩
 rintro⟨_,_⟩ ⟨k,rfl,hk,rfl⟩
 simp only[Int.toNat_natCast]
 have hw:∀k,(without x.grp (l.take k)).length≤l.length:=λk=>by
  unfold without
  have:=List.length_filter_le (λy:Itm=>decide (y.grp≠x.grp)) (l.take k)
  rw[List.length_take]at this;omega
 have hwk:=hw k
 refine⟨λh1=>⟨by omega,by omega,λy hy=>?_⟩,λh1=>⟨by omega,?_⟩⟩
 ·rw[av (n:=l.length) (by omega) (by omega)]
  have e:without x.grp (l.take (k+1))=if y.grp=x.grp then without x.grp (l.take k)else without x.grp (l.take k)++[y]:=by
   rw[ax hy]
   unfold without
   rw[List.filter_append]
   by_cases q:y.grp=x.grp<;>simp[q]
  refine⟨λq=>⟨by omega,⟨k+1,rfl,by omega,?_⟩,by omega⟩,λq=>⟨⟨k+1,rfl,by omega,?_⟩,by omega⟩⟩
  ·rw[e,if_neg (by simpa using q)]
  ·rw[e,if_pos (by simpa using q)]
 ·rw[List.take_of_length_le (by omega)];rfl
def KH(l:List Itm)(x:Itm)(hl:l.length≤999999):PC Tryz.prog:=⟨109,[(.s 4),(.a [.k,.k,.k,(.s 1)])],[.sl 4 (l.map Itm.v) false,.agg [.int x.ver,.int x.grp,.int x.mode,.sl 1 (x.srcs.map AV.int) false]],AJ (om l x),ao.of_ok λok=>(UL l x hl ok).elim λI0 h=>h.elim λm0 h=>aj (sh:=(.s 4)) (enc:=AJ) (a:=(AI l x I0 m0).an) h (by kernel_rfl) (AV.pureB_ok rfl),ai (by kernel_rfl)⟩
def FE(l:List Itm)(group:Int):=okL [.sl 4 (l.map Itm.v) false,.int group]
def MV(l:List Itm)(group:Int)(t0:Int):NF:=⟨[(1,.k,.int group),(4,.k,.ref 0 0),(7,.k,.sl 4 (l.map Itm.v) false),(8,.k,.int ((l.map Itm.v).length:Int)),(9,.k,.int t0)],[.box (.agg [.int 0,.sl 0 [] true])]⟩
@[reducible] def FC:Nat→Type
 | 0=>Int
 | _=>Unit
def uI(r:Flt):AV:=Flt.v r
def uH(l:List Itm)(group:Int)(I0:Int→Prop)(m0:Int→Nat):Ax Tryz.prog FC (Flt):=
 (.loop 0 (MV l group) I0 m0 ((0):Int) [0] λ(t0:Int) b0 =>
(.br 17 (decide (t0<((l.map Itm.v).length:Int))) (.el 17 Itm.v l (λR=>Rf (l.map Itm.v) (ck (decide (0≤t0)) (ck (decide (t0<(l.length:Int)))
(∀x1,l[t0.toNat]?=some x1 →
(R x1))))) λx1 =>
(.br 145 (x1.grp==group) (.ret ((⟨x1.mode,x1.srcs⟩:Flt)))
(.bk 0 b0 ((W (t0+1)):Int) [0])))
(.callP (eM )
(.ret ((⟨1,[]⟩:Flt))))))
def yq(l:List Itm)(group:Int)(I0:Int→Prop)(m0:Int→Nat)(r0:Flt):=(uH l group I0 m0).vp uI r0
theorem RH(l:List Itm)(g:Int)(ok:FE l g):∃I m,yq l g I m (⟨(dh l g).1,(dh l g).2⟩:Flt):=by
 simp only[FE,okU,Blk.ok,aK,List.length_map]at ok
 refine⟨λt=>∃k:Nat,t=k∧k≤l.length∧∀x∈l.take k,x.grp≠g,λt=>l.length-t.toNat,?_⟩
 dsimp only[yq,uH,FC,Ax.vp,Ax.vc];simp only[vcU,rfU,List.length_map]
 have hle:l.length≤9223372036854775807:=ok.1.1
 refine⟨⟨0,rfl,by omega,by simp⟩,?_⟩
 rintro _ ⟨k,rfl,hk,hI⟩
 simp only[Int.toNat_natCast]
 refine⟨λh1=>⟨by omega,by omega,λx hx=>⟨λe=>?_,λe=>?_⟩⟩,λh1=>?_⟩
 ·have:dh l g=(x.mode,x.srcs):=by
   unfold dh
   have hf:l.find? (λy=>decide (y.grp=g))=some x:=by
    rw[List.find?_eq_some_iff_getElem]
    obtain⟨hk',hxk⟩:=List.getElem?_eq_some_iff.mp hx
    refine⟨by simpa using e,k,hk',hxk,λj hj=>?_⟩
    have:=hI l[j] (List.mem_of_getElem? (i:=j) (by rw[List.getElem?_take,if_pos hj,List.getElem?_eq_getElem (by omega)]))
    simpa using this
   rw[hf]
  rw[this]
 ·rw[av (n:=l.length) (by omega) (by omega)]
  exact⟨⟨k+1,rfl,by omega,(bq hx).mpr ⟨hI,by simpa using e⟩⟩,by omega⟩
 ·rw[List.take_of_length_le (by omega)]at hI
  rw[Po hI]
def FD(l:List Itm)(group:Int):PC Tryz.prog:=⟨116,[(.s 4),.k],[.sl 4 (l.map Itm.v) false,.int group],uI (⟨(dh l group).1,(dh l group).2⟩:Flt),ao.of_ok λok=>(RH l group ok).elim λI0 h=>h.elim λm0 h=>aj (sh:=(.a [.k,(.s 1)])) (enc:=uI) (a:=(uH l group I0 m0).an) h (by kernel_rfl) (AV.pureB_ok rfl),ai (by kernel_rfl)⟩
theorem mW{α:Type}(key:α→Int){l:List α}{k:Nat}{x:α}(hx:l[k]?=some x) :
  (l.take (k+1)).Pairwise (λa b=>key a<key b)↔(l.take k).Pairwise (λa b=>key a<key b)∧(0<k→∀y,l[k-1]?=some y→key y<key x):=by
 cases k with
 | zero=>simp only[rV key hx,List.take_zero,List.Pairwise.nil,true_and,true_iff];intro h;omega
 | succ k =>
  obtain⟨y,hy⟩:∃y,l[k]?=some y:=⟨_,List.getElem?_eq_getElem (by have:=ay hx;omega)⟩
  rw[zj key hx (by omega) (by simpa using hy)]
  simp only[Nat.add_sub_cancel,hy,Option.some.injEq,Nat.zero_lt_succ,forall_const,forall_eq']
def JC(s:Spk):Prop:=(1≤s.router∧s.router≤99)∧(1≤s.epoch∧s.epoch≤1000000)∧(0≤s.last∧s.last≤1000000)∧aT s.last s.items∧s.peers.length≤12
instance (s:Spk):Decidable (JC s):=by unfold JC;infer_instance
def mA(s:Spk)(k:Nat):Prop:=JC s∧(∀p∈s.peers.take k,kw s.router s.last p)∧(s.peers.take k).Pairwise λx y=>x.router<y.router
instance (s:Spk) (k:Nat):Decidable (mA s k):=by unfold mA;infer_instance
theorem eE{s:Spk}{k:Nat}{x:Per}(hx:s.peers[k]?=some x):mA s (k+1)↔mA s k∧kw s.router s.last x∧(0<k→∀y,s.peers[k-1]?=some y→y.router<x.router):=by
 unfold mA
 rw[bq hx,mW Per.router hx]
 constructor
 ·rintro⟨a,⟨b,c⟩,d,e⟩;exact⟨⟨a,b,d⟩,c,e⟩
 ·rintro⟨⟨a,b,d⟩,c,e⟩;exact⟨a,⟨b,c⟩,d,e⟩
theorem wg{s:Spk}:mA s s.peers.length↔bc s:=by
 unfold mA JC bc
 rw[List.take_length]
 constructor
 ·rintro⟨⟨a,b,c,d,e⟩,f,g⟩;exact⟨a,b,c,d,e,f,g⟩
 ·rintro⟨a,b,c,d,e,f,g⟩;exact⟨⟨a,b,c,d,e⟩,f,g⟩
def DD(s:Spk):=okL [.agg [.int s.router,.int s.epoch,.int s.last,.sl 4 (s.items.map Itm.v) false,.sl 3 (s.peers.map Per.v) false]]
def Jf(s:Spk)(t0:Bool):NF:=⟨[(1,.k,.ref 0 0),(3,.k,.bool t0)],[.box (.agg [.int s.router,.int s.epoch,.int s.last,.sl 4 (s.items.map Itm.v) false,.sl 3 (s.peers.map Per.v) false])]⟩
def Je(s:Spk)(t1:Bool×Int):NF:=⟨[(1,.k,.ref 0 0),(3,.k,.bool t1.1),(33,.k,.sl 3 (s.peers.map Per.v) false),(34,.k,.int ((s.peers.map Per.v).length:Int)),(35,.k,.int t1.2)],[.box (.agg [.int s.router,.int s.epoch,.int s.last,.sl 4 (s.items.map Itm.v) false,.sl 3 (s.peers.map Per.v) false])]⟩
@[reducible] def DC:Nat→Type
 | 0=>Bool
 | 1=>Bool×Int
 | _=>Unit
def su(r:Int):AV:=.int r
def ss(s:Spk)(I0:Bool→Prop)(I1:Bool→(Bool×Int)→Prop)(m1:Bool→(Bool×Int)→Nat):Ax Tryz.prog DC (Int):=
 (.pass (.join 0 (Jf s) (λ(t0:Bool)=>I0 t0) (λb0=>(.callP (gN s.router 1 99)
(.br 96 (inR s.router 1 99) (.callP (gN s.epoch 1 1000000)
(.br 176 (inR s.epoch 1 1000000) (.callP (gN s.last 0 1000000)
(.br 256 (inR s.last 0 1000000) (.callP (oN s.items s.last)
(.br 368 (cD s.items s.last) (.bk 0 b0 ((decide (((s.peers.map Per.v).length:Int)≤12)):Bool) [0])
(.bk 0 b0 ((false):Bool) [0])))
(.bk 0 b0 ((false):Bool) [0])))
(.bk 0 b0 ((false):Bool) [0])))
(.bk 0 b0 ((false):Bool) [0])))) λ(t0:Bool) =>
(.loop 1 (Je s) (I1 t0) (m1 t0) (t0,0) [0] λ(t1:Bool×Int) b1 =>
(.br 17 (decide (t1.2<((s.peers.map Per.v).length:Int))) (.el 33 Per.v s.peers (λR=>Rf (s.peers.map Per.v) (ck (decide (0≤t1.2)) (ck (decide (t1.2<(s.peers.length:Int)))
(∀x1,s.peers[t1.2.toNat]?=some x1 →
(R x1))))) λx1 =>
(.br 145 t1.1 (.callP (gN x1.router 1 99)
(.br 225 (inR x1.router 1 99) (.br 337 (x1.router != s.router) (.callP (gN x1.epoch 0 1000000)
(.br 417 (inR x1.epoch 0 1000000) (.callP (gN x1.acked 0 s.last)
(.br 529 (inR x1.acked 0 s.last) (.br 577 (t1.2==0) (.bk 1 b1 (true,W (t1.2+1)) [0])
(.el 641 Per.v s.peers (λR=>Rf (s.peers.map Per.v) (ck (decide (0≤(W (t1.2-1)))) (ck (decide ((W (t1.2-1))<(s.peers.length:Int)))
(∀x2,s.peers[(W (t1.2-1)).toNat]?=some x2 →
(R x2))))) λx2 =>
(.bk 1 b1 (decide (x2.router<x1.router),W (t1.2+1)) [0])))
(.bk 1 b1 (false,W (t1.2+1)) [0])))
(.bk 1 b1 (false,W (t1.2+1)) [0])))
(.bk 1 b1 (false,W (t1.2+1)) [0]))
(.bk 1 b1 (false,W (t1.2+1)) [0])))
(.bk 1 b1 (false,W (t1.2+1)) [0])))
(.br 49 (!t1.1) (.ret (1))
(.ret (0)))))))
def vX(s:Spk)(I0:Bool→Prop)(I1:Bool→(Bool×Int)→Prop)(m1:Bool→(Bool×Int)→Nat)(r0:Int):=(ss s I0 I1 m1).vp su r0
theorem Pc(s:Spk)(ok:DD s):∃I0 I1 m1,vX s I0 I1 m1 (dK s):=by
 unfold DD at ok
 refine⟨λb=>b=decide (JC s),λb t=>∃k:Nat,t.2=k∧k≤s.peers.length∧t.1=decide (mA s k),λb t=>s.peers.length-t.2.toNat,?_⟩
 dsimp only[vX,ss,DC,Ax.vp,Ax.vc];simp only[vcU,rfU,List.length_map]
 have hle:s.peers.length≤9223372036854775807:=by
  have h:=ok
  simp only[Spk.v,Ve,AV.ok,okL,List.length_map,cT]at h
  omega
 simp only[inR,cD,decide_eq_true_iff,decide_eq_false_iff_not]
 refine⟨⟨λh1=>⟨λh2=>⟨λh3=>⟨λh4=>?_,λh4=>?_⟩,λh3=>?_⟩,λh2=>?_⟩,λh1=>?_⟩,?_⟩
 ·exact decide_eq_decide.mpr ⟨λq=>⟨h1,h2,h3,h4,by omega⟩,λq=>by have:=q.2.2.2.2;omega⟩
 ·exact(decide_eq_false λq=>h4 q.2.2.2.1).symm
 ·exact(decide_eq_false λq=>h3 q.2.2.1).symm
 ·exact(decide_eq_false λq=>h2 q.2.1).symm
 ·exact(decide_eq_false λq=>h1 q.1).symm
 ·rintro _ rfl
  refine⟨⟨0,rfl,by omega,decide_eq_decide.mpr (by simp[mA])⟩,?_⟩
  rintro⟨_,_⟩ ⟨k,rfl,hk,rfl⟩
  simp only[Int.toNat_natCast]
  refine⟨λh1=>⟨by omega,by omega,λx hx=>?_⟩,λh1=>?_⟩
  ·rw[av (n:=s.peers.length) (by omega) (by omega)]
   have no:∀{q:Prop},¬q→(mA s (k+1)→q)→(∃k_1:Nat,((k+1:Nat):Int)=k_1∧k_1≤s.peers.length∧false=decide (mA s k_1))∧s.peers.length-((k+1:Nat):Int).toNat<s.peers.length-k:=λhq hi =>
    ⟨⟨k+1,rfl,by omega,(decide_eq_false λq=>hq (hi q)).symm⟩,by omega⟩
   simp only[decide_eq_true_iff,decide_eq_false_iff_not]
   refine⟨λa0=>⟨λa1=>⟨λa2=>⟨λa3=>⟨λa4=>⟨λa5=>?_,λa5=>?_⟩,λa4=>?_⟩,λa3=>?_⟩,λa2=>?_⟩,λa1=>?_⟩,λa0=>?_⟩
   ·have e:k=0:=by simpa using a5
    subst e
    refine⟨⟨1,rfl,by omega,(decide_eq_true ((eE hx).mpr ⟨a0,⟨a1,by simpa using a2,a3,a4⟩,λq=>by omega⟩)).symm⟩,by omega⟩
   ·have e:0<k:=by
     rcases Nat.eq_zero_or_pos k with q|q
     ·subst q;simp at a5
     ·exact q
    rw[vz (by omega)]
    have e2:((k:Int)-1).toNat=k-1:=by omega
    rw[e2]
    refine⟨by omega,by omega,λy hy=>⟨⟨k+1,rfl,by omega,decide_eq_decide.mpr ?_⟩,by omega⟩⟩
    rw[eE hx]
    exact⟨λq=>⟨a0,⟨a1,by simpa using a2,a3,a4⟩,λ_ z hz=>by rw[hy]at hz;cases hz;exact q⟩,λq=>q.2.2 e y hy⟩
   ·exact no a4 λq=>((eE hx).mp q).2.1.2.2.2
   ·exact no a3 λq=>((eE hx).mp q).2.1.2.2.1
   ·exact no (q:=x.router≠s.router) (by simpa using a2) λq=>((eE hx).mp q).2.1.2.1
   ·exact no a1 λq=>((eE hx).mp q).2.1.1
   ·exact no a0 λq=>((eE hx).mp q).1
  ·have e:k=s.peers.length:=by omega
   subst e
   have hv:dK s=if bc s then 0 else 1:=rfl
   rw[hv]
   by_cases q:bc s
   ·have:=wg.mpr q
    rw[if_pos q];simp[this]
   ·have:¬mA s s.peers.length:=λw=>q (wg.mp w)
    rw[if_neg q];simp[this]
def jk(s:Spk):PC Tryz.prog:=⟨105,[(.a [.k,.k,.k,(.s 4),(.s 3)])],[.agg [.int s.router,.int s.epoch,.int s.last,.sl 4 (s.items.map Itm.v) false,.sl 3 (s.peers.map Per.v) false]],su (dK s),ao.of_ok λok=>(Pc s ok).elim λI0 h=>h.elim λI1 h=>h.elim λm1 h=>aj (sh:=.k) (enc:=su) (a:=(ss s I0 I1 m1).an) h (by kernel_rfl) (AV.pureB_ok rfl),ai (by kernel_rfl)⟩
def LF(l:Lsn):Prop:=(1≤l.router∧l.router≤99)∧(1≤l.epoch∧l.epoch≤1000000)∧l.heard.length≤12
instance (l:Lsn):Decidable (LF l):=by unfold LF;infer_instance
def mI(l:Lsn)(k:Nat):Prop:=LF l∧(∀p∈l.heard.take k,pb l.router p)∧(l.heard.take k).Pairwise λx y=>x.router<y.router
instance (l:Lsn) (k:Nat):Decidable (mI l k):=by unfold mI;infer_instance
theorem dY{s:Lsn}{k:Nat}{x:Hrd}(hx:s.heard[k]?=some x):mI s (k+1)↔mI s k∧pb s.router x∧(0<k→∀y,s.heard[k-1]?=some y→y.router<x.router):=by
 unfold mI
 rw[bq hx,mW Hrd.router hx]
 constructor
 ·rintro⟨a,⟨b,c⟩,d,e⟩;exact⟨⟨a,b,d⟩,c,e⟩
 ·rintro⟨⟨a,b,d⟩,c,e⟩;exact⟨a,⟨b,c⟩,d,e⟩
theorem xw{s:Lsn}:mI s s.heard.length↔bX s:=by
 unfold mI LF bX
 rw[List.take_length]
 constructor
 ·rintro⟨⟨a,b,e⟩,f,g⟩;exact⟨a,b,e,f,g⟩
 ·rintro⟨a,b,e,f,g⟩;exact⟨⟨a,b,e⟩,f,g⟩
def DJ(l:Lsn):=okL [.agg [.int l.router,.int l.epoch,.sl 4 (l.heard.map Hrd.v) false]]
def Jt(l:Lsn)(t0:Bool):NF:=⟨[(1,.k,.ref 0 0),(3,.k,.bool t0)],[.box (.agg [.int l.router,.int l.epoch,.sl 4 (l.heard.map Hrd.v) false])]⟩
def Js(l:Lsn)(t1:Bool×Int):NF:=⟨[(1,.k,.ref 0 0),(3,.k,.bool t1.1),(21,.k,.sl 4 (l.heard.map Hrd.v) false),(22,.k,.int ((l.heard.map Hrd.v).length:Int)),(23,.k,.int t1.2)],[.box (.agg [.int l.router,.int l.epoch,.sl 4 (l.heard.map Hrd.v) false])]⟩
@[reducible] def DI:Nat→Type
 | 0=>Bool
 | 1=>Bool×Int
 | _=>Unit
def sC(r:Int):AV:=.int r
def sB(l:Lsn)(I0:Bool→Prop)(I1:Bool→(Bool×Int)→Prop)(m1:Bool→(Bool×Int)→Nat):Ax Tryz.prog DI (Int):=
 (.pass (.join 0 (Jt l) (λ(t0:Bool)=>I0 t0) (λb0=>(.callP (gN l.router 1 99)
(.br 96 (inR l.router 1 99) (.callP (gN l.epoch 1 1000000)
(.br 176 (inR l.epoch 1 1000000) (.bk 0 b0 ((decide (((l.heard.map Hrd.v).length:Int)≤12)):Bool) [0])
(.bk 0 b0 ((false):Bool) [0])))
(.bk 0 b0 ((false):Bool) [0])))) λ(t0:Bool) =>
(.loop 1 (Js l) (I1 t0) (m1 t0) (t0,0) [0] λ(t1:Bool×Int) b1 =>
(.br 17 (decide (t1.2<((l.heard.map Hrd.v).length:Int))) (.el 33 Hrd.v l.heard (λR=>Rf (l.heard.map Hrd.v) (ck (decide (0≤t1.2)) (ck (decide (t1.2<(l.heard.length:Int)))
(∀x1,l.heard[t1.2.toNat]?=some x1 →
(R x1))))) λx1 =>
(.br 145 t1.1 (.callP (gN x1.router 1 99)
(.br 225 (inR x1.router 1 99) (.br 337 (x1.router != l.router) (.callP (gN x1.epoch 1 1000000)
(.br 417 (inR x1.epoch 1 1000000) (.callP (gN x1.ver 0 1000000)
(.br 497 (inR x1.ver 0 1000000) (.callP (oN x1.items x1.ver)
(.br 609 (cD x1.items x1.ver) (.br 657 (t1.2==0) (.bk 1 b1 (true,W (t1.2+1)) [0])
(.el 721 Hrd.v l.heard (λR=>Rf (l.heard.map Hrd.v) (ck (decide (0≤(W (t1.2-1)))) (ck (decide ((W (t1.2-1))<(l.heard.length:Int)))
(∀x2,l.heard[(W (t1.2-1)).toNat]?=some x2 →
(R x2))))) λx2 =>
(.bk 1 b1 (decide (x2.router<x1.router),W (t1.2+1)) [0])))
(.bk 1 b1 (false,W (t1.2+1)) [0])))
(.bk 1 b1 (false,W (t1.2+1)) [0])))
(.bk 1 b1 (false,W (t1.2+1)) [0])))
(.bk 1 b1 (false,W (t1.2+1)) [0]))
(.bk 1 b1 (false,W (t1.2+1)) [0])))
(.bk 1 b1 (false,W (t1.2+1)) [0])))
(.br 49 (!t1.1) (.ret (1))
(.ret (0)))))))
def vZ(l:Lsn)(I0:Bool→Prop)(I1:Bool→(Bool×Int)→Prop)(m1:Bool→(Bool×Int)→Nat)(r0:Int):=(sB l I0 I1 m1).vp sC r0
theorem Pf(s:Lsn)(ok:DJ s):∃I0 I1 m1,vZ s I0 I1 m1 (fU s):=by
 unfold DJ at ok
 refine⟨λb=>b=decide (LF s),λb t=>∃k:Nat,t.2=k∧k≤s.heard.length∧t.1=decide (mI s k),λb t=>s.heard.length-t.2.toNat,?_⟩
 dsimp only[vZ,sB,DI,Ax.vp,Ax.vc];simp only[vcU,rfU,List.length_map]
 have hle:s.heard.length≤9223372036854775807:=by
  have h:=ok
  simp only[Lsn.v,hrds,AV.ok,okL,List.length_map,cT]at h
  omega
 simp only[inR,cD,decide_eq_true_iff,decide_eq_false_iff_not]
 refine⟨⟨λh1=>⟨λh2=>?_,λh2=>?_⟩,λh1=>?_⟩,?_⟩
 ·exact decide_eq_decide.mpr ⟨λq=>⟨h1,h2,by omega⟩,λq=>by have:=q.2.2;omega⟩
 ·exact(decide_eq_false λq=>h2 q.2.1).symm
 ·exact(decide_eq_false λq=>h1 q.1).symm
 ·rintro _ rfl
  refine⟨⟨0,rfl,by omega,decide_eq_decide.mpr (by simp[mI])⟩,?_⟩
  rintro⟨_,_⟩ ⟨k,rfl,hk,rfl⟩
  simp only[Int.toNat_natCast]
  refine⟨λh1=>⟨by omega,by omega,λx hx=>?_⟩,λh1=>?_⟩
  ·rw[av (n:=s.heard.length) (by omega) (by omega)]
   have no:∀{q:Prop},¬q→(mI s (k+1)→q)→(∃k_1:Nat,((k+1:Nat):Int)=k_1∧k_1≤s.heard.length∧false=decide (mI s k_1))∧s.heard.length-((k+1:Nat):Int).toNat<s.heard.length-k:=λhq hi =>
    ⟨⟨k+1,rfl,by omega,(decide_eq_false λq=>hq (hi q)).symm⟩,by omega⟩
   simp only[decide_eq_true_iff,decide_eq_false_iff_not]
   refine⟨λa0=>⟨λa1=>⟨λa2=>⟨λa3=>⟨λa4=>⟨λb4=>⟨λa5=>?_,λa5=>?_⟩,λb4=>?_⟩,λa4=>?_⟩,λa3=>?_⟩,λa2=>?_⟩,λa1=>?_⟩,λa0=>?_⟩
   ·have e:k=0:=by simpa using a5
    subst e
    refine⟨⟨1,rfl,by omega,(decide_eq_true ((dY hx).mpr ⟨a0,⟨a1,by simpa using a2,a3,a4,b4⟩,λq=>by omega⟩)).symm⟩,by omega⟩
   ·have e:0<k:=by
     rcases Nat.eq_zero_or_pos k with q|q
     ·subst q;simp at a5
     ·exact q
    rw[vz (by omega)]
    have e2:((k:Int)-1).toNat=k-1:=by omega
    rw[e2]
    refine⟨by omega,by omega,λy hy=>⟨⟨k+1,rfl,by omega,decide_eq_decide.mpr ?_⟩,by omega⟩⟩
    rw[dY hx]
    exact⟨λq=>⟨a0,⟨a1,by simpa using a2,a3,a4,b4⟩,λ_ z hz=>by rw[hy]at hz;cases hz;exact q⟩,λq=>q.2.2 e y hy⟩
   ·exact no b4 λq=>((dY hx).mp q).2.1.2.2.2.2
   ·exact no a4 λq=>((dY hx).mp q).2.1.2.2.2.1
   ·exact no a3 λq=>((dY hx).mp q).2.1.2.2.1
   ·exact no (q:=x.router≠s.router) (by simpa using a2) λq=>((dY hx).mp q).2.1.2.1
   ·exact no a1 λq=>((dY hx).mp q).2.1.1
   ·exact no a0 λq=>((dY hx).mp q).1
  ·have e:k=s.heard.length:=by omega
   subst e
   have hv:fU s=if bX s then 0 else 1:=rfl
   rw[hv]
   by_cases q:bX s
   ·have:=xw.mpr q
    rw[if_pos q];simp[this]
   ·have:¬mI s s.heard.length:=λw=>q (xw.mp w)
    rw[if_neg q];simp[this]
def sD(l:Lsn):PC Tryz.prog:=⟨106,[(.a [.k,.k,(.s 4)])],[.agg [.int l.router,.int l.epoch,.sl 4 (l.heard.map Hrd.v) false]],sC (fU l),ao.of_ok λok=>(Pf l ok).elim λI0 h=>h.elim λI1 h=>h.elim λm1 h=>aj (sh:=.k) (enc:=sC) (a:=(sB l I0 I1 m1).an) h (by kernel_rfl) (AV.pureB_ok rfl),ai (by kernel_rfl)⟩
def Vv(router:Int)(epoch:Int)(peers:List Int):=okL [.int router,.int epoch,.sl 1 (peers.map AV.int) false]
def QA(router:Int)(epoch:Int)(peers:List Int)(t0:Int×List Per):NF:=⟨[(6,.k,.ref 0 0),(8,.k,.ref 1 0),(19,.k,.sl 1 (peers.map AV.int) false),(20,.k,.int ((peers.map AV.int).length:Int)),(21,.k,.int t0.1)],[.box (.agg [.int 0,.int 0,.int 0,.sl 0 [] true,.sl 0 [] true]),.box (.agg [.int router,.int epoch,.int 0,.sl 0 [] true,.vec 2]),.vec 3 (t0.2.map Per.v) (ab (λ_=>rfl) t0.2)]⟩
@[reducible] def Lw:Nat→Type
 | 0=>Int×List Per
 | _=>Unit
def Bp(r:Spk×Int):AV:=.tup [Spk.v r.1,.int r.2]
def Bo(router:Int)(epoch:Int)(peers:List Int)(I0:(Int×List Per)→Prop)(m0:(Int×List Per)→Nat):Ax Tryz.prog Lw (Spk×Int):=
 (.br 160 (decide (12<((peers.map AV.int).length:Int))) (.ret ((⟨0,0,0,[],[]⟩:Spk),1))
(.cmdL (.nilB 80 4 3) (.loop 0 (QA router epoch peers) I0 m0 (0,[]) [0,80,208] λ(t0:Int×List Per) b0 =>
(.br 19 (decide (t0.1<((peers.map AV.int).length:Int))) (.el 19 AV.int peers (λR=>Rf (peers.map AV.int) (ck (decide (0≤t0.1)) (ck (decide (t0.1<(peers.length:Int)))
(∀x1,peers[t0.1.toNat]?=some x1 →
(R x1))))) λx1 =>
(.say (λR=>Rf (α:=List AV) (t0.2.map Per.v) (Rf (α:=List AV) [.agg [.int x1,.int 0,.int 0]]
(ck (decide (t0.2.length+1≤1048576))
R))) (.app 147 Per.v t0.2 [(⟨x1,0,0⟩:Per)]
(.bk 0 b0 (W (t0.1+1),t0.2++[(⟨x1,0,0⟩:Per)]) [0,1,147]))))
(.callP (jk (⟨router,epoch,0,[],t0.2⟩:Spk))
(.say (ck (bK [(t0.2.map Per.v)])) (.br 99 ((dK (⟨router,epoch,0,[],t0.2⟩:Spk)) != 0) (.ret ((⟨0,0,0,[],[]⟩:Spk),dK (⟨router,epoch,0,[],t0.2⟩:Spk)))
(.say (Rf (t0.2.map Per.v)) (.cmdL (.frzE 2 (t0.2.map Per.v) (ab (λ_=>rfl) t0.2)) (.ret ((⟨router,epoch,0,[],t0.2⟩:Spk),0)))))))))))
def EN(router:Int)(epoch:Int)(peers:List Int)(I0:(Int×List Per)→Prop)(m0:(Int×List Per)→Nat)(r0:Spk×Int):=(Bo router epoch peers I0 m0).vp Bp r0
theorem Vt(r k:Int)(p:List Int)(ok:Vv r k p):∃I m,EN r k p I m (new r k p):=by
 refine⟨λt=>∃j:Nat,t.1=j∧j≤p.length∧t.2=(p.take j).map λx=>⟨x,0,0⟩,λt=>p.length-t.1.toNat,?_⟩
 dsimp only[EN,Bo,Lw,Ax.vp,Ax.vc];simp only[vcU,rfU,List.length_map]
 have hn:new r k p=if bc ⟨r,k,0,[],p.map λx=>⟨x,0,0⟩⟩then(⟨r,k,0,[],p.map λx=>⟨x,0,0⟩⟩,0)else(fc,1):=rfl
 refine⟨λh=>?_,λh=>⟨⟨0,rfl,by omega,rfl⟩,?_⟩⟩
 ·rw[hn,if_neg]
  ·rfl
  ·intro q
   have:=q.2.2.2.2.1
   simp only[List.length_map]at this;omega
 ·rintro⟨_,_⟩ ⟨j,rfl,hj,rfl⟩
  simp only[Int.toNat_natCast]
  refine⟨λh1=>⟨by omega,by omega,λx hx=>⟨by simp;omega,⟨j+1,?_,by omega,?_⟩,?_⟩⟩,λh1=>⟨iJ (ab (λ_=>rfl) _),?_⟩⟩
  ·rw[av (n:=p.length) (by omega) (by omega)]
  ·rw[ax hx,List.map_append];rfl
  ·rw[av (n:=p.length) (by omega) (by omega)];omega
  ·rw[List.take_of_length_le (by omega),hn]
   have hv:dK ⟨r,k,0,[],p.map λx=>⟨x,0,0⟩⟩=if bc ⟨r,k,0,[],p.map λx=>⟨x,0,0⟩⟩then 0 else 1:=rfl
   rw[hv]
   by_cases q:bc ⟨r,k,0,[],p.map λx=>⟨x,0,0⟩⟩
   ·rw[if_pos q,if_pos q];simp
   ·rw[if_neg q,if_neg q];simp[fc]
def Vu(router:Int)(epoch:Int)(peers:List Int):PC Tryz.prog:=⟨81,[.k,.k,(.s 1)],[.int router,.int epoch,.sl 1 (peers.map AV.int) false],Bp (new router epoch peers),ao.of_ok λok=>(Vt router epoch peers ok).elim λI0 h=>h.elim λm0 h=>aj (sh:=(.a [(.a [.k,.k,.k,(.s 4),(.s 3)]),.k])) (enc:=Bp) (a:=(Bo router epoch peers I0 m0).an) h (by kernel_rfl) (AV.pureB_ok rfl),ai (by kernel_rfl)⟩
def A9(s:Spk)(wants:List Wnt):=okL [.agg [.int s.router,.int s.epoch,.int s.last,.sl 4 (s.items.map Itm.v) false,.sl 3 (s.peers.map Per.v) false],.sl 3 (wants.map Wnt.v) false]
def wH(s:Spk)(wants:List Wnt)(t0:Int×List Itm):NF:=⟨[(2,.k,.ref 0 0),(4,.k,.ref 1 0),(8,.k,.ref 2 0),(37,.k,.sl 3 (wants.map Wnt.v) false),(38,.k,.int ((wants.map Wnt.v).length:Int)),(39,.k,.int t0.1)],[.box (.agg [.int s.router,.int s.epoch,.int s.last,.sl 4 (s.items.map Itm.v) false,.sl 3 (s.peers.map Per.v) false]),.box (.agg [.int 0,.int 0,.int 0,.sl 0 [] true,.sl 0 [] true]),.box (.agg [.int s.router,.int (W (s.epoch+1)),.int ((wants.map Wnt.v).length:Int),.vec 3,.sl 0 [] true]),.vec 4 (t0.2.map Itm.v) (ab (λ_=>rfl) t0.2)]⟩
def wG(s:Spk)(wants:List Wnt)(t0:Int×List Itm)(t1:Int×List Per):NF:=⟨[(4,.k,.ref 0 0),(8,.k,.ref 1 0),(58,.k,.sl 3 (s.peers.map Per.v) false),(59,.k,.int ((s.peers.map Per.v).length:Int)),(60,.k,.int t1.1)],[.box (.agg [.int 0,.int 0,.int 0,.sl 0 [] true,.sl 0 [] true]),.box (.agg [.int s.router,.int (W (s.epoch+1)),.int ((wants.map Wnt.v).length:Int),.vec 2,.vec 3]),.vec 4 (t0.2.map Itm.v) (ab (λ_=>rfl) t0.2),.vec 3 (t1.2.map Per.v) (ab (λ_=>rfl) t1.2)]⟩
@[reducible] def oi:Nat→Type
 | 0=>Int×List Itm
 | 1=>Int×List Per
 | _=>Unit
def jG(r:Spk×Int):AV:=.tup [Spk.v r.1,.int r.2]
def jF(s:Spk)(wants:List Wnt)(I0:(Int×List Itm)→Prop)(m0:(Int×List Itm)→Nat)(I1:Int×List Itm→(Int×List Per)→Prop)(m1:Int×List Itm→(Int×List Per)→Nat):Ax Tryz.prog oi (Spk×Int):=
 (.callP (jk s)
(.br 128 ((dK s) != 0) (.ret ((⟨0,0,0,[],[]⟩:Spk),dK s))
(.callP (kZ wants)
(.br 208 ((bh false wants) != 0) (.ret ((⟨0,0,0,[],[]⟩:Spk),bh false wants))
(.br 256 (decide (1000000≤s.epoch)) (.ret ((⟨0,0,0,[],[]⟩:Spk),3))
(.cmdL (.nilB 384 3 4) (.loop 0 (wH s wants) I0 m0 (0,[]) [0,16,384,464] λ(t0:Int×List Itm) b0 =>
(.br 20 (decide (t0.1<((wants.map Wnt.v).length:Int))) (.el 36 Wnt.v wants (λR=>Rf (wants.map Wnt.v) (ck (decide (0≤t0.1)) (ck (decide (t0.1<(wants.length:Int)))
(∀x1,wants[t0.1.toNat]?=some x1 →
(R x1))))) λx1 =>
(.say (λR=>Rf (α:=List AV) (t0.2.map Itm.v) (Rf (α:=List AV) [.agg [.int (W (t0.1+1)),.int x1.grp,.int x1.mode,.sl 1 (x1.srcs.map AV.int) false]]
(ck (decide (t0.2.length+1≤1048576))
R))) (.app 276 Itm.v t0.2 [(⟨W (t0.1+1),x1.grp,x1.mode,x1.srcs⟩:Itm)]
(.bk 0 b0 (W (t0.1+1),t0.2++[(⟨W (t0.1+1),x1.grp,x1.mode,x1.srcs⟩:Itm)]) [0,1,2,276]))))
(.cmdL (.nilB 2 4 3) (.loop 1 (wG s wants t0) (I1 t0) (m1 t0) (0,[]) [1,2,3,84] λ(t1:Int×List Per) b1 =>
(.br 20 (decide (t1.1<((s.peers.map Per.v).length:Int))) (.el 20 Per.v s.peers (λR=>Rf (s.peers.map Per.v) (ck (decide (0≤t1.1)) (ck (decide (t1.1<(s.peers.length:Int)))
(∀x2,s.peers[t1.1.toNat]?=some x2 →
(R x2))))) λx2 =>
(.say (λR=>Rf (α:=List AV) (t1.2.map Per.v) (Rf (α:=List AV) [.agg [.int x2.router,.int 0,.int 0]]
(ck (decide (t1.2.length+1≤1048576))
R))) (.app 180 Per.v t1.2 [(⟨x2.router,0,0⟩:Per)]
(.bk 1 b1 (W (t1.1+1),t1.2++[(⟨x2.router,0,0⟩:Per)]) [0,1,2,180]))))
(.say (Rf (t1.2.map Per.v)) (.cmdL (.frzE 3 (t1.2.map Per.v) (ab (λ_=>rfl) t1.2)) (.say (Rf (t0.2.map Itm.v)) (.cmdL (.frzE 2 (t0.2.map Itm.v) (ab (λ_=>rfl) t0.2)) (.ret ((⟨s.router,W (s.epoch+1),((wants.map Wnt.v).length:Int),t0.2,t1.2⟩:Spk),0)))))))))))))))))
def lZ(s:Spk)(wants:List Wnt)(I0:(Int×List Itm)→Prop)(m0:(Int×List Itm)→Nat)(I1:Int×List Itm→(Int×List Per)→Prop)(m1:Int×List Itm→(Int×List Per)→Nat)(r0:Spk×Int):=(jF s wants I0 m0 I1 m1).vp jG r0
theorem A7(s:Spk)(w:List Wnt)(ok:A9 s w):∃I0 m0 I1 m1,lZ s w I0 m0 I1 m1 (bR s w):=by
 refine⟨λt=>∃j:Nat,t.1=j∧j≤w.length∧t.2=(w.mapIdx my).take j,λt=>w.length-t.1.toNat,
  λt0 t=>∃j:Nat,t.1=j∧j≤s.peers.length∧t.2=(s.peers.take j).map λp=>⟨p.router,0,0⟩,λt0 t=>s.peers.length-t.1.toNat,?_⟩
 dsimp only[lZ,jF,oi,Ax.vp,Ax.vc];simp only[vcU,rfU,List.length_map]
 have hv:dK s=if bc s then 0 else 1:=rfl
 rw[hv]
 unfold bR
 by_cases h1:bc s
 case neg=>rw[if_neg h1,if_pos h1];simp[fc]
 rw[if_pos h1,if_neg (not_not_intro h1)]
 refine⟨λq=>by simp at q,λ_=>⟨λh2=>?_,λh2=>?_⟩⟩
 ·have h2:bh false w≠0:=by simpa using h2
  rw[if_pos h2];rfl
 have h2:bh false w=0:=by simpa using h2
 rw[if_neg (not_not_intro h2)]
 have he:=h1.2.1
 refine⟨λh3=>?_,λh3=>⟨⟨0,rfl,by omega,by simp⟩,?_⟩⟩
 ·rw[if_pos (by omega)];rfl
 rw[if_neg (by omega)]
 obtain⟨w1,_⟩:=eD.mp h2
 rintro⟨_,_⟩ ⟨j,rfl,hj,rfl⟩
 simp only[Int.toNat_natCast]
 refine⟨λh4=>⟨by omega,by omega,λx hx=>?_⟩,λh4=>⟨⟨0,rfl,by omega,rfl⟩,?_⟩⟩
 ·rw[av (n:=w.length) (by omega) (by omega)]
  refine⟨by simp;omega,⟨j+1,rfl,by omega,?_⟩,by omega⟩
  have:(w.mapIdx my)[j]?=some (my j x):=by rw[List.getElem?_mapIdx,hx];rfl
  rw[ax this]
  rfl
 ·rintro⟨_,_⟩ ⟨i,rfl,hi,rfl⟩
  have hp:=h1.2.2.2.2.1
  simp only[Int.toNat_natCast]
  refine⟨λh5=>⟨by omega,by omega,λx hx=>?_⟩,λh5=>?_⟩
  ·rw[av (n:=s.peers.length) (by omega) (by omega)]
   refine⟨by simp;omega,⟨i+1,rfl,by omega,?_⟩,by omega⟩
   rw[ax hx,List.map_append];rfl
  ·rw[List.take_of_length_le (by simp;omega),List.take_of_length_le (l:=s.peers) (by omega),bB (by omega)]
def A8(s:Spk)(wants:List Wnt):PC Tryz.prog:=⟨119,[(.a [.k,.k,.k,(.s 4),(.s 3)]),(.s 3)],[.agg [.int s.router,.int s.epoch,.int s.last,.sl 4 (s.items.map Itm.v) false,.sl 3 (s.peers.map Per.v) false],.sl 3 (wants.map Wnt.v) false],jG (bR s wants),ao.of_ok λok=>(A7 s wants ok).elim λI0 h=>h.elim λm0 h=>h.elim λI1 h=>h.elim λm1 h=>aj (sh:=(.a [(.a [.k,.k,.k,(.s 4),(.s 3)]),.k])) (enc:=jG) (a:=(jF s wants I0 m0 I1 m1).an) h (by kernel_rfl) (AV.pureB_ok rfl),ai (by kernel_rfl)⟩
def cW(l:List Int)(n:Int):List Int:=l.filter λx=>decide (x≠n)
structure AtK (R:List Int) (i:Nat) (s:Spk) (l:Lsn):Prop where
  fs:bc s
  fasc:0<i→∀y,R[i-1]?=some y→y<s.router
  fp:s.peers.map Per.router=cW R s.router
  fl:bX l
  fr:l.router=s.router
  fh:∀h∈l.heard,h.router∈R
theorem km{sp:List Spk}{i:Nat}{s:Spk}(h:sp[i]?=some s):(aJ sp)[i]?=some s.router:=by
 unfold aJ;rw[List.getElem?_map,h];rfl
theorem eT{sp:List Spk}:(aJ sp).length=sp.length:=List.length_map ..
theorem eo{o:Ovl}:bQ o↔o.sp.length≤12∧o.ls.length=o.sp.length∧(∀i s l,o.sp[i]?=some s→o.ls[i]?=some l→AtK (aJ o.sp) i s l)∧∀x∈o.fl,cP (aJ o.sp) x:=by
 constructor
 ·rintro⟨h,hf⟩
  refine⟨by rw[←eT];exact h.len,?_,λi s l hs hl=>?_,hf⟩
  ·have:=congrArg List.length h.lsr
   rw[List.length_map,eT]at this;exact this
  ·obtain⟨s1,s2⟩:=h.spo s (aB hs)
   obtain⟨l1,l2⟩:=h.lso l (aB hl)
   refine⟨s1,λhi y hy=>?_,s2,l1,?_,l2⟩
   ·unfold aJ at hy
    rw[List.getElem?_map]at hy
    cases hz:o.sp[i-1]? with
    | none=>rw[hz]at hy;simp at hy
    | some z =>
     rw[hz]at hy
     have hy:z.router=y:=by simpa using hy
     have:=fF h.asc (show i-1<i by omega) hz hs
     omega
   ·have h1:=km hs
    rw[←h.lsr,List.getElem?_map,hl]at h1
    simpa using h1
 ·rintro⟨h1,h2,h3,h4⟩
  have hget:∀{i:Nat} {s:Spk},o.sp[i]?=some s→∃l,o.ls[i]?=some l:=λ{i s} hs=>⟨_,List.getElem?_eq_getElem (by have:=ay hs;omega)⟩
  have hgetL:∀{i:Nat} {l:Lsn},o.ls[i]?=some l→∃s,o.sp[i]?=some s:=λ{i l} hs=>⟨_,List.getElem?_eq_getElem (by have:=ay hs;omega)⟩
  have hasc:∀k:Nat,k≤o.sp.length→(o.sp.take k).Pairwise λx y=>x.router<y.router:=by
   intro k
   induction k with
   | zero=>intro _;simp
   | succ k ih =>
    intro hk
    have hs:o.sp[k]?=some o.sp[k]:=List.getElem?_eq_getElem (by omega)
    obtain⟨l,hl⟩:=hget hs
    refine(mW Spk.router hs).mpr ⟨ih (by omega),λhp y hy=>?_⟩
    exact(h3 k _ l hs hl).fasc hp _ (km hy)
  have ha:=hasc o.sp.length (Nat.le_refl _)
  rw[List.take_length]at ha
  refine⟨⟨by rw[eT];exact h1,rfl,?_,ha,λs hs=>?_,λl hl=>?_⟩,h4⟩
  ·refine List.ext_getElem (by rw[List.length_map,eT,h2]) λi i1 i2=>?_
   rw[List.length_map]at i1
   have hl:o.ls[i]?=some o.ls[i]:=List.getElem?_eq_getElem i1
   obtain⟨s,hs⟩:=hgetL hl
   have:=(h3 i s _ hs hl).fr
   rw[List.getElem_map,this]
   have e:=km hs
   rw[List.getElem?_eq_getElem i2]at e
   simpa using e.symm
  ·obtain⟨i,hi,rfl⟩:=List.getElem_of_mem hs
   have hs:o.sp[i]?=some o.sp[i]:=List.getElem?_eq_getElem hi
   obtain⟨l,hl⟩:=hget hs
   have q:=h3 i _ l hs hl
   exact⟨q.fs,q.fp⟩
  ·obtain⟨i,hi,rfl⟩:=List.getElem_of_mem hl
   have hl:o.ls[i]?=some o.ls[i]:=List.getElem?_eq_getElem hi
   obtain⟨s,hs⟩:=hgetL hl
   have q:=h3 i s _ hs hl
   exact⟨q.fl,q.fh⟩
theorem J9:∀{l m:List Int},l.Pairwise (·<·)→m.Pairwise (·<·)→(∀x∈l,x∈m)→l.length=m.length→l=m
 | [],m,_,_,_,h=>by cases m with|nil=>rfl|cons y m=>simp at h
 | x::l,[],_,_,_,h=>by simp at h
 | x::l,y::m,h1,h2,h3,h4=>by
  rw[List.pairwise_cons]at h1 h2
  have hl:l.length=m.length:=by simpa using h4
  have hsub:∀z∈l,z∈m:=λz hz=>by
   rcases List.mem_cons.mp (h3 z (by simp[hz]))with e|e
   ·exfalso
    have hx:=h1.1 z hz
    rcases List.mem_cons.mp (h3 x (by simp))with q|q
    ·omega
    ·have:=h2.1 x q;omega
   ·exact e
  have e:=J9 h1.2 h2.2 hsub hl
  subst e
  congr 1
  rcases List.mem_cons.mp (h3 x (by simp))with q|q
  ·exact q
  ·have:=h1.1 x q;omega
theorem Bd{R:List Int}(h:R.Nodup){r:Int}(hr:r∈R):(cW R r).length+1=R.length:=by
 induction R with
 | nil=>simp at hr
 | cons x R ih =>
  rw[List.nodup_cons]at h
  unfold cW
  by_cases e:x=r
  ·subst e
   rw[List.filter_cons_of_neg (by simp),List.filter_eq_self.mpr λy hy=>by simpa using λ(q:y=x)=>h.1 (q ▸ hy)]
   rfl
  ·rw[List.filter_cons_of_pos (by simpa using e),List.length_cons,List.length_cons]
   have:=ih h.2 (by rcases List.mem_cons.mp hr with q|q;exact absurd q.symm e;exact q)
   unfold cW at this
   omega
theorem qR{R:List Int}{s:Spk}(hR:R.Pairwise (·<·))(hs:bc s)(hr:s.router∈R) :
  s.peers.map Per.router=cW R s.router↔s.peers.length+1=R.length∧∀p∈s.peers,p.router∈R:=by
 have hn:R.Nodup:=hR.imp λq=>by omega
 have ho:=Bd hn hr
 constructor
 ·intro h
  have e:=congrArg List.length h
  rw[List.length_map]at e
  refine⟨by omega,λp hp=>?_⟩
  have:p.router∈s.peers.map Per.router:=List.mem_map.mpr ⟨p,hp,rfl⟩
  rw[h]at this
  exact(List.mem_filter.mp this).1
 ·rintro⟨h1,h2⟩
  refine J9 ?_ (hR.filter _) (λx hx=>?_) (by rw[List.length_map];omega)
  ·rw[List.pairwise_map];exact hs.2.2.2.2.2.2
  ·obtain⟨p,hp,rfl⟩:=List.mem_map.mp hx
   exact List.mem_filter.mpr ⟨h2 p hp,by simpa using(hs.2.2.2.2.2.1 p hp).2.1⟩
def kC(x lo hi:Int):Bool:=decide (lo≤x∧x≤hi)
def VQ(x:Int)(lo:Int)(hi:Int):=okL [.int x,.int lo,.int hi]
def BE(r:Bool):AV:=.bool r
def BD(x:Int)(lo:Int)(hi:Int):Ax Tryz.prog noS (Bool):=
 (.br 80 (decide (lo≤x)) (.ret (decide (x≤hi)))
(.ret (false)))
def Fl(x:Int)(lo:Int)(hi:Int)(r0:Bool):=(BD x lo hi).vp BE r0
theorem VP(x lo hi:Int)(ok:VQ x lo hi):Fl x lo hi (kC x lo hi):=by
 dsimp only[Fl,BD,noS,Ax.vp,Ax.vc];simp only[vcU,rfU,List.length_map]
 refine⟨λh=>decide_eq_decide.mpr ⟨λq=>⟨h,q⟩,λq=>q.2⟩,λh=>(decide_eq_false λq=>h q.1).symm⟩
def fJ(x:Int)(lo:Int)(hi:Int):PC Tryz.prog:=⟨150,[.k,.k,.k],[.int x,.int lo,.int hi],BE (kC x lo hi),ao.of_ok λok=>aj (sh:=.k) (enc:=BE) (a:=(BD x lo hi).an) (VP x lo hi ok) (by kernel_rfl) (AV.pureB_ok rfl),ai (by kernel_rfl)⟩
theorem iL{p:Prop}[Decidable p](h:¬p):false=decide p:=(decide_eq_false h).symm
def DZ(s:Sig):=okL [.agg [.int s.kind,.int s.src,.int s.dst,.int s.epoch,.int s.ver,.int s.prev,.int s.pep,.int s.grp,.int s.mode,.sl 1 (s.srcs.map AV.int) false]]
def JT(s:Sig)(t0:Bool):NF:=⟨[(1,.k,.ref 0 0),(3,.k,.bool t0)],[.box (.agg [.int s.kind,.int s.src,.int s.dst,.int s.epoch,.int s.ver,.int s.prev,.int s.pep,.int s.grp,.int s.mode,.sl 1 (s.srcs.map AV.int) false])]⟩
def JS(t1:Bool):NF:=⟨[(126,.k,.bool t1)],[]⟩
@[reducible] def DY:Nat→Type
 | 0=>Bool
 | 1=>Bool
 | _=>Unit
def sN(r:Int):AV:=.int r
def sM(s:Sig)(I0:Bool→Prop)(I1:Bool→Bool→Prop):Ax Tryz.prog DY (Int):=
 (.pass (.join2 0 (JT s) (λ(t0:Bool)=>I0 t0) (λb0=>(.callP (fJ s.src 1 99)
(.br 96 (kC s.src 1 99) (.callP (fJ s.dst 1 99)
(.br 176 (kC s.dst 1 99) (.br 352 (s.kind==1) (.br 384 (s.src != s.dst) (.callP (fJ s.epoch 1 1000000)
(.br 464 (kC s.epoch 1 1000000) (.callP (fJ s.ver 0 1000000)
(.br 544 (kC s.ver 0 1000000) (.br 624 (s.prev==0) (.br 704 (s.pep==0) (.bk 0 b0 ((s.grp==0):Bool) [0])
(.bk 0 b0 ((false):Bool) [0]))
(.bk 0 b0 ((false):Bool) [0]))
(.bk 0 b0 ((false):Bool) [0])))
(.bk 0 b0 ((false):Bool) [0])))
(.bk 0 b0 ((false):Bool) [0]))
(.br 384 (s.kind==2) (.br 416 (s.src != s.dst) (.callP (fJ s.epoch 1 1000000)
(.br 496 (kC s.epoch 1 1000000) (.callP (fJ s.ver 1 1000000)
(.br 576 (kC s.ver 1 1000000) (.callP (fJ s.prev 0 (W (s.ver-1)))
(.br 704 (kC s.prev 0 (W (s.ver-1))) (.br 784 (s.pep==0) (.callP (fJ s.grp 1 99)
(.bk 0 b0 ((kC s.grp 1 99):Bool) [0]))
(.bk 0 b0 ((false):Bool) [0]))
(.bk 0 b0 ((false):Bool) [0])))
(.bk 0 b0 ((false):Bool) [0])))
(.bk 0 b0 ((false):Bool) [0])))
(.bk 0 b0 ((false):Bool) [0]))
(.br 416 (s.kind==3) (.br 448 (s.src != s.dst) (.callP (fJ s.epoch 0 1000000)
(.br 528 (kC s.epoch 0 1000000) (.callP (fJ s.ver 0 1000000)
(.br 608 (kC s.ver 0 1000000) (.br 688 (s.prev==0) (.callP (fJ s.pep 1 1000000)
(.br 768 (kC s.pep 1 1000000) (.bk 0 b0 ((s.grp==0):Bool) [0])
(.bk 0 b0 ((false):Bool) [0])))
(.bk 0 b0 ((false):Bool) [0]))
(.bk 0 b0 ((false):Bool) [0])))
(.bk 0 b0 ((false):Bool) [0])))
(.bk 0 b0 ((false):Bool) [0]))
(.ret (1)))))
(.br 352 (s.kind==1) (.bk 0 b0 ((false):Bool) [0])
(.br 384 (s.kind==2) (.bk 0 b0 ((false):Bool) [0])
(.br 416 (s.kind==3) (.bk 0 b0 ((false):Bool) [0])
(.ret (1)))))))
(.br 352 (s.kind==1) (.bk 0 b0 ((false):Bool) [0])
(.br 384 (s.kind==2) (.bk 0 b0 ((false):Bool) [0])
(.br 416 (s.kind==3) (.bk 0 b0 ((false):Bool) [0])
(.ret (1)))))))) λ(t0:Bool) =>
(.br 33 (!t0) (.ret (2))
(.br 81 (s.kind==2) (.callP (jY (⟨s.mode,s.srcs⟩:Flt))
(.ret (aF (⟨s.mode,s.srcs⟩:Flt).mode (⟨s.mode,s.srcs⟩:Flt).srcs)))
(.pass (.join 1 (JS) (λ(t1:Bool)=>I1 t0 t1) (λb1=>(.br 161 (s.mode != 0) (.bk 1 b1 ((true):Bool) [])
(.bk 1 b1 ((decide (0<((s.srcs.map AV.int).length:Int))):Bool) []))) λ(t1:Bool) =>
(.br 0 t1 (.ret (1))
(.ret (0)))))))))
def wo(s:Sig)(I0:Bool→Prop)(I1:Bool→Bool→Prop)(r0:Int):=(sM s I0 I1).vp sN r0
theorem P1(s:Sig)(ok:DZ s):∃I0 I1,wo s I0 I1 (aL s):=by
 simp only[DZ,okU,Blk.ok,aK,List.length_map]at ok
 refine⟨λb=>(s.kind=1∨s.kind=2∨s.kind=3)∧(b=true↔eN s∧bn s),λb c=>c=true↔s.mode≠0∨s.srcs≠[],?_⟩
 dsimp only[wo,sM,DY,Ax.vp,Ax.vc];simp only[vcU,rfU,List.length_map]
 have hv:s.kind=2→1≤s.ver→s.ver≤1000000→W (s.ver-1)=s.ver-1:=λ_ h1 h2=>bB (by omega)
 simp only[kC,decide_eq_true_iff,decide_eq_false_iff_not,beq_iff_eq,beq_eq_false_iff_ne,bne_iff_ne,bne_eq_false_iff_eq,ne_eq,Bool.false_eq_true,false_iff,Int.natCast_pos,List.length_pos_iff]
 have hk:∀{A B C:Prop},(s.kind=1→A)→(s.kind≠1→s.kind=2→B)→(s.kind≠1→s.kind≠2→s.kind=3→C)→(s.kind=1→A)∧(¬s.kind=1→(s.kind=2→B)∧(¬s.kind=2→(s.kind=3→C)∧(¬s.kind=3→True))):=λa b c=>⟨a,λn=>⟨b n,λm=>⟨c n m,λ_=>trivial⟩⟩⟩
 have n1:s.kind=1→(bn s↔(1≤s.epoch∧s.epoch≤1000000)∧(0≤s.ver∧s.ver≤1000000)∧s.prev=0∧s.pep=0∧s.grp=0):=λe=>by unfold bn;rw[if_pos e]
 have n2:s.kind=2→(bn s↔(1≤s.epoch∧s.epoch≤1000000)∧(1≤s.ver∧s.ver≤1000000)∧(0≤s.prev∧s.prev≤s.ver-1)∧s.pep=0∧(1≤s.grp∧s.grp≤99)):=λe=>by unfold bn;rw[if_neg (by omega),if_pos e]
 have n3:s.kind=3→(bn s↔(0≤s.epoch∧s.epoch≤1000000)∧(0≤s.ver∧s.ver≤1000000)∧s.prev=0∧(1≤s.pep∧s.pep≤1000000)∧s.grp=0):=λe=>by unfold bn;rw[if_neg (by omega),if_neg (by omega)]
 have en:eN s↔(1≤s.src∧s.src≤99)∧(1≤s.dst∧s.dst≤99)∧s.src≠s.dst:=Iff.rfl
 have hw:W (s.ver-1)=s.ver-1∨¬1≤s.ver:=by
  by_cases h:1≤s.ver
  ·exact .inl (bB (by omega))
  ·exact .inr h
 generalize W (s.ver-1)=w at *
 clear hv
 generalize hN:bn s=N at *
 rw[en]
 refine⟨?_,λb hb=>⟨λe=>?_,λe=>⟨λk=>?_,λk=>⟨⟨λm=>?_,λm=>?_⟩,λc hc=>⟨λe2=>?_,λe2=>?_⟩⟩⟩⟩⟩
 ·refine⟨λa1=>⟨λa2=>⟨λk=>?_,λk=>⟨λk2=>?_,λk2=>⟨λk3=>?_,λk3=>?_⟩⟩⟩,λa2=>⟨λk=>?_,λk=>⟨λk2=>?_,λk2=>⟨λk3=>?_,λk3=>?_⟩⟩⟩⟩,λa1=>⟨λk=>?_,λk=>⟨λk2=>?_,λk2=>⟨λk3=>?_,λk3=>?_⟩⟩⟩⟩
  all_goals first
   | (simp only[n1 k];omega)
   | (simp only[n2 k2];omega)
   | (simp only[n3 k3];omega)
   | (unfold aL;rw[if_pos (by omega)])
 ·have e:b=false:=by simpa using e
  subst e
  unfold aL
  rw[if_neg (by omega),if_pos]
  rintro⟨q1,q2⟩
  exact Bool.noConfusion (hb.2.mpr ⟨q1,hN ▸ q2⟩)
 ·have q:=hb.2.mp (by simpa using e)
  unfold aL
  rw[if_neg (by omega),if_neg (not_not_intro ⟨q.1,hN ▸ q.2⟩),if_pos k]
 ·exact⟨λ_=>.inl m,λ_=>trivial⟩
 ·exact⟨λq=>.inr q,λq=>q.resolve_left λz=>z m⟩
 ·have q:=hb.2.mp (by simpa using e)
  unfold aL
  rw[if_neg (by omega),if_neg (not_not_intro ⟨q.1,hN ▸ q.2⟩),if_neg k,if_pos (hc.mp e2)]
 ·have q:=hb.2.mp (by simpa using e)
  unfold aL
  rw[if_neg (by omega),if_neg (not_not_intro ⟨q.1,hN ▸ q.2⟩),if_neg k,if_neg]
  intro z
  have:=hc.mpr z
  rw[e2]at this;cases this
def sO(s:Sig):PC Tryz.prog:=⟨107,[(.a [.k,.k,.k,.k,.k,.k,.k,.k,.k,(.s 1)])],[.agg [.int s.kind,.int s.src,.int s.dst,.int s.epoch,.int s.ver,.int s.prev,.int s.pep,.int s.grp,.int s.mode,.sl 1 (s.srcs.map AV.int) false]],sN (aL s),ao.of_ok λok=>(P1 s ok).elim λI0 h=>h.elim λI1 h=>aj (sh:=.k) (enc:=sN) (a:=(sM s I0 I1).an) h (by kernel_rfl) (AV.pureB_ok rfl),ai (by kernel_rfl)⟩
def HI(l:List Wnt)(g:Int):Bool:=decide (∃w∈l,w.grp=g)
def M8(l:List Wnt)(group:Int):=okL [.sl 3 (l.map Wnt.v) false,.int group]
def Rt(l:List Wnt)(group:Int)(t0:Int):NF:=⟨[(1,.k,.int group),(7,.k,.sl 3 (l.map Wnt.v) false),(8,.k,.int ((l.map Wnt.v).length:Int)),(9,.k,.int t0)],[]⟩
@[reducible] def M7:Nat→Type
 | 0=>Int
 | _=>Unit
def BJ(r:Bool):AV:=.bool r
def BI(l:List Wnt)(group:Int)(I0:Int→Prop)(m0:Int→Nat):Ax Tryz.prog M7 (Bool):=
 (.loop 0 (Rt l group) I0 m0 ((0):Int) [] λ(t0:Int) b0 =>
(.br 16 (decide (t0<((l.map Wnt.v).length:Int))) (.el 16 Wnt.v l (λR=>Rf (l.map Wnt.v) (ck (decide (0≤t0)) (ck (decide (t0<(l.length:Int)))
(∀x1,l[t0.toNat]?=some x1 →
(R x1))))) λx1 =>
(.br 144 (x1.grp==group) (.ret (true))
(.bk 0 b0 ((W (t0+1)):Int) [])))
(.ret (false))))
def Fr(l:List Wnt)(group:Int)(I0:Int→Prop)(m0:Int→Nat)(r0:Bool):=(BI l group I0 m0).vp BJ r0
theorem VV(l:List Wnt)(g:Int)(ok:M8 l g):∃I m,Fr l g I m (HI l g):=by
 simp only[M8,okU,Blk.ok,aK,List.length_map]at ok
 refine⟨λt=>∃k:Nat,t=k∧k≤l.length∧∀x∈l.take k,x.grp≠g,λt=>l.length-t.toNat,?_⟩
 dsimp only[Fr,BI,M7,Ax.vp,Ax.vc];simp only[vcU,rfU,List.length_map]
 have hle:l.length≤9223372036854775807:=ok.1.1
 refine⟨⟨0,rfl,by omega,by simp⟩,?_⟩
 rintro _ ⟨k,rfl,hk,hI⟩
 simp only[Int.toNat_natCast]
 refine⟨λh1=>⟨by omega,by omega,λx hx=>⟨λe=>?_,λe=>?_⟩⟩,λh1=>?_⟩
 ·exact(decide_eq_true ⟨x,aB hx,by simpa using e⟩).symm
 ·rw[av (n:=l.length) (by omega) (by omega)]
  exact⟨⟨k+1,rfl,by omega,(bq hx).mpr ⟨hI,by simpa using e⟩⟩,by omega⟩
 ·rw[List.take_of_length_le (by omega)]at hI
  exact iL λ⟨w,hw,e⟩=>hI w hw e
def VW(l:List Wnt)(group:Int):PC Tryz.prog:=⟨157,[(.s 3),.k],[.sl 3 (l.map Wnt.v) false,.int group],BJ (HI l group),ao.of_ok λok=>(VV l group ok).elim λI0 h=>h.elim λm0 h=>aj (sh:=.k) (enc:=BJ) (a:=(BI l group I0 m0).an) h (by kernel_rfl) (AV.pureB_ok rfl),ai (by kernel_rfl)⟩
def appF(old c:List Wnt)(g:Int):Int×List Int:=if HI c g=true then me c g else me old g
def jX(old c:List Wnt):List Wnt×Int:=
 if bh false old≠0 then([],bh false old)else if bh true c≠0 then([],bh true c)else tS (eW (appF old c) 99)
theorem lG{f:Int→Int×List Int}:∀n:Nat,(eW f n).length≤n
 | 0=>Nat.le_refl _
 | n+1=>by
  rw[eW,List.length_append]
  have:=lG (f:=f) n
  unfold kL
  split<;>simp<;>omega
def Oh(old:List Wnt)(am:List Wnt):=okL [.sl 3 (old.map Wnt.v) false,.sl 3 (am.map Wnt.v) false]
def Iy(old:List Wnt)(am:List Wnt)(t0:Int×List Wnt):NF:=⟨[(0,.k,.sl 3 (old.map Wnt.v) false),(1,.k,.sl 3 (am.map Wnt.v) false),(8,.k,.vec 0),(9,.k,.int t0.1)],[.vec 3 (t0.2.map Wnt.v) (ab (λ_=>rfl) t0.2)]⟩
def Ix(old:List Wnt)(am:List Wnt)(t0:Int×List Wnt)(t1:Flt):NF:=⟨[(0,.k,.sl 3 (old.map Wnt.v) false),(1,.k,.sl 3 (am.map Wnt.v) false),(8,.k,.vec 0),(9,.k,.int t0.1),(10,.k,.ref 1 0)],[.vec 3 (t0.2.map Wnt.v) (ab (λ_=>rfl) t0.2),.box (.agg [.int t1.mode,.sl 1 (t1.srcs.map AV.int) false])]⟩
@[reducible] def zm:Nat→Type
 | 0=>Int×List Wnt
 | 1=>Flt
 | _=>Unit
def pT(r:List Wnt×Int):AV:=.tup [.sl 3 (r.1.map Wnt.v) false,.int r.2]
def pS(old:List Wnt)(am:List Wnt)(I0:(Int×List Wnt)→Prop)(m0:(Int×List Wnt)→Nat)(I1:Int×List Wnt→Flt→Prop):Ax Tryz.prog zm (List Wnt×Int):=
 (.callP (kZ old)
(.br 112 ((bh false old) != 0) (.ret ([],bh false old))
(.callP (zd am true)
(.br 192 ((bh true am) != 0) (.ret ([],bh true am))
(.cmdL (.nilT 8 3) (.loop 0 (Iy old am) I0 m0 (1,[]) [224] λ(t0:Int×List Wnt) b0 =>
(.br 33 (decide (t0.1≤99)) (.callP (kM old t0.1)
(.join 1 (Ix old am t0) (λ(t1:Flt)=>I1 t0 t1) (λb1=>(.callP (VW am t0.1)
(.br 161 (HI am t0.1) (.callP (kM am t0.1)
(.bk 1 b1 ((bM am t0.1):Flt) [0,81]))
(.bk 1 b1 ((bM old t0.1):Flt) [0,81])))) λ(t1:Flt) =>
(.callP (eM )
(.callP (j1 t1 (⟨1,[]⟩:Flt))
(.br 66 (!(dU t1 (⟨1,[]⟩:Flt))) (.say (λR=>Rf (α:=List AV) (t0.2.map Wnt.v) (Rf (α:=List AV) [.agg [.int t0.1,.int t1.mode,.sl 1 (t1.srcs.map AV.int) false]]
(ck (decide (t0.2.length+1≤1048576))
R))) (.app 146 Wnt.v t0.2 [(⟨t0.1,t1.mode,t1.srcs⟩:Wnt)]
(.bk 0 b0 (W (t0.1+1),t0.2++[(⟨t0.1,t1.mode,t1.srcs⟩:Wnt)]) [146])))
(.bk 0 b0 (W (t0.1+1),t0.2) [0]))))))
(.br 81 (decide (32<((t0.2.map Wnt.v).length:Int))) (.ret ([],3))
(.say (Rf (t0.2.map Wnt.v)) (.cmdL (.frzE 0 (t0.2.map Wnt.v) (ab (λ_=>rfl) t0.2)) (.ret (t0.2,0))))))))))))
def rW(old:List Wnt)(am:List Wnt)(I0:(Int×List Wnt)→Prop)(m0:(Int×List Wnt)→Nat)(I1:Int×List Wnt→Flt→Prop)(r0:List Wnt×Int):=(pS old am I0 m0 I1).vp pT r0
theorem Of(old c:List Wnt)(ok:Oh old c):∃I0 m0 I1,rW old c I0 m0 I1 (jX old c):=by
 refine⟨λt=>∃k:Nat,t.1=(k:Int)+1∧k≤99∧t.2=eW (appF old c) k,λt=>100-t.1.toNat,λt f=>(f.mode,f.srcs)=appF old c t.1,?_⟩
 dsimp only[rW,pS,zm,Ax.vp,Ax.vc];simp only[vcU,rfU,List.length_map]
 unfold jX
 refine⟨λh=>by rw[if_pos (by simpa using h)],λh=>⟨λh2=>?_,λh2=>⟨⟨0,rfl,by omega,rfl⟩,?_⟩⟩⟩
 ·rw[if_neg (by simpa using h),if_pos (by simpa using h2)]
 ·rw[if_neg (by simpa using h),if_neg (by simpa using h2)]
  rintro⟨_,_⟩ ⟨k,rfl,hk,rfl⟩
  have hlen:=lG (f:=appF old c) k
  simp only
  have hw:(k:Int)+1≤99→W ((k:Int)+1+1)=((k+1:Nat):Int)+1:=λ_=>by rw[bB (by omega)];omega
  refine⟨λh1=>⟨⟨λq=>?_,λq=>?_⟩,λf hf=>⟨λq=>⟨by omega,?_⟩,λq=>?_⟩⟩,λh1=>⟨λq=>?_,λq=>?_⟩⟩
  ·unfold appF;rw[if_pos q];rfl
  ·unfold appF;rw[if_neg (by simp[q])];rfl
  ·rw[hw h1]
   refine⟨⟨k+1,rfl,by omega,?_⟩,by omega⟩
   rw[eW,kL,if_neg]
   ·rw[←hf]
   ·rw[←hf]
    intro e
    simp only[Prod.mk.injEq]at e
    simp[dU,lI,e.1,e.2]at q
  ·rw[hw h1]
   refine⟨⟨k+1,rfl,by omega,?_⟩,by omega⟩
   have e:f=⟨1,[]⟩:=by simpa[dU]using q
   rw[eW,kL,if_pos,List.append_nil]
   rw[←hf,e]
  ·have:k=99:=by omega
   subst this
   unfold tS
   rw[if_pos (by omega)]
  ·have:k=99:=by omega
   subst this
   unfold tS
   rw[if_neg (by omega)]
def Og(old:List Wnt)(am:List Wnt):PC Tryz.prog:=⟨117,[(.s 3),(.s 3)],[.sl 3 (old.map Wnt.v) false,.sl 3 (am.map Wnt.v) false],pT (jX old am),ao.of_ok λok=>(Of old am ok).elim λI0 h=>h.elim λm0 h=>h.elim λI1 h=>aj (sh:=(.a [(.s 3),.k])) (enc:=pT) (a:=(pS old am I0 m0 I1).an) h (by kernel_rfl) (AV.pureB_ok rfl),ai (by kernel_rfl)⟩
theorem HO(g:Int):me [] g=(1,[]):=rfl
theorem Da(c:List Wnt):(jX [] c).2=bh true c:=by
 unfold jX
 rw[if_neg (by decide)]
 split
 ·rfl
 ·rename_i h
  have h:bh true c=0:=by omega
  obtain⟨h1,h2,h3,h4,h5⟩:=eD.mp h
  have e:eW (appF [] c) 99=c.filter λw=>decide (¬dB w):=by
   refine zk (lH 99) (h5.filter _) λw=>?_
   rw[js,List.mem_filter]
   simp only[decide_eq_true_iff]
   constructor
   ·rintro⟨q1,q2,q3⟩
    unfold appF at q2 q3
    by_cases hh:HI c w.grp=true
    ·rw[if_pos hh]at q2 q3
     obtain⟨y,hy,e1,e2⟩:=Ca (MW.mp q3)
     have e3:me c w.grp=(y.mode,y.srcs):=by unfold me;rw[e2]
     rw[q2]at e3 q3
     simp only[Prod.mk.injEq]at e3
     have:y=w:=by rw[Wnt.eq_iff];exact⟨e1,e3.1.symm,e3.2.symm⟩
     subst this
     exact⟨hy,λhn=>q3 (by rw[hn.1,hn.2])⟩
    ·rw[if_neg hh,HO]at q3;exact absurd rfl q3
   ·rintro⟨q1,q2⟩
    have hh:HI c w.grp=true:=decide_eq_true ⟨w,q1,rfl⟩
    have e1:appF [] c w.grp=(w.mode,w.srcs):=by
     unfold appF
     rw[if_pos hh]
     unfold me
     rw[MT h5 q1]
    refine⟨h2 w q1,e1,?_⟩
    rw[e1]
    intro e
    simp only[Prod.mk.injEq]at e
    exact q2 e
  have hl:(eW (appF [] c) 99).length≤32:=by
   rw[e]
   exact Nat.le_trans (List.length_filter_le _ _) h1
  unfold tS
  rw[if_neg (by omega),h]
theorem vh{s:Spk}(hs:bc s){c:List Wnt}(hc:bh true c=0)(j:Nat):((c.take j).foldl dA (s.last,s.items)).2.length≤99∧0≤((c.take j).foldl dA (s.last,s.items)).1∧((c.take j).foldl dA (s.last,s.items)).1≤s.last+32:=by
 have ho:=pG hc
 obtain⟨q1,q2,q3,q4⟩:=CK (c:=c.take j) hs.2.2.2.1 hs.2.2.1.1 λw hw=>ho w (List.mem_of_mem_take hw)
 refine⟨gM q1,q4,?_⟩
 have:=(eD.mp hc).1
 rw[List.length_take]at q3
 omega
def Is(s:Spk)(am:List Wnt):=okL [.agg [.int s.router,.int s.epoch,.int s.last,.sl 4 (s.items.map Itm.v) false,.sl 3 (s.peers.map Per.v) false],.sl 3 (am.map Wnt.v) false]
def CL(am:List Wnt)(t0:Int×Spk):NF:=⟨[(4,.k,.ref 0 0),(9,.k,.ref 1 0),(38,.k,.sl 3 (am.map Wnt.v) false),(39,.k,.int ((am.map Wnt.v).length:Int)),(40,.k,.int t0.1)],[.box (.agg [.int 0,.int 0,.int 0,.sl 0 [] true,.sl 0 [] true]),.box (.agg [.int t0.2.router,.int t0.2.epoch,.int t0.2.last,.sl 4 (t0.2.items.map Itm.v) false,.sl 3 (t0.2.peers.map Per.v) false])]⟩
@[reducible] def rT:Nat→Type
 | 0=>Int×Spk
 | _=>Unit
def lQ(r:Spk×Int):AV:=.tup [Spk.v r.1,.int r.2]
def lP(s:Spk)(am:List Wnt)(I0:(Int×Spk)→Prop)(m0:(Int×Spk)→Nat):Ax Tryz.prog rT (Spk×Int):=
 (.callP (jk s)
(.br 128 ((dK s) != 0) (.ret ((⟨0,0,0,[],[]⟩:Spk),dK s))
(.callP (Og [] am)
(.br 272 (((jX [] am).2) != 0) (.ret ((⟨0,0,0,[],[]⟩:Spk),(jX [] am).2))
(.say (λR=>Rf (α:=List AV) [] (Rf (α:=List AV) (s.peers.map Per.v)
(ck (decide (0+s.peers.length≤1048576))
R))) (.app 368 Per.v [] s.peers
(.say (λR=>Rf (α:=List AV) [] (Rf (α:=List AV) (s.items.map Itm.v)
(ck (decide (0+s.items.length≤1048576))
R))) (.app 464 Itm.v [] s.items
(.say (Rf (s.items.map Itm.v)) (.cmd (.frzE 464 (s.items.map Itm.v) (ab (λ_=>rfl) s.items)) (.say (Rf (s.peers.map Per.v)) (.cmd (.frzE 368 (s.peers.map Per.v) (ab (λ_=>rfl) s.peers)) (.loop 0 (CL am) I0 m0 (0,s) [16,288] λ(t0:Int×Spk) b0 =>
(.br 18 (decide (t0.1<((am.map Wnt.v).length:Int))) (.el 18 Wnt.v am (λR=>Rf (am.map Wnt.v) (ck (decide (0≤t0.1)) (ck (decide (t0.1<(am.length:Int)))
(∀x1,am[t0.1.toNat]?=some x1 →
(R x1))))) λx1 =>
(.callP (FD t0.2.items x1.grp)
(.callP (j1 (⟨(dh t0.2.items x1.grp).1,(dh t0.2.items x1.grp).2⟩:Flt) (⟨x1.mode,x1.srcs⟩:Flt))
(.br 210 (dU (⟨(dh t0.2.items x1.grp).1,(dh t0.2.items x1.grp).2⟩:Flt) (⟨x1.mode,x1.srcs⟩:Flt)) (.bk 0 b0 (W (t0.1+1),t0.2) [0,1])
(.req 434 (t0.2.items.length≤999999) λh2 =>
(.callP (KH t0.2.items (⟨W (t0.2.last+1),x1.grp,x1.mode,x1.srcs⟩:Itm) h2)
(.bk 0 b0 (W (t0.1+1),(⟨t0.2.router,t0.2.epoch,W (t0.2.last+1),om t0.2.items (⟨W (t0.2.last+1),x1.grp,x1.mode,x1.srcs⟩:Itm),t0.2.peers⟩:Spk)) [0,1])))))))
(.br 66 (decide (1000000<t0.2.last)) (.ret ((⟨0,0,0,[],[]⟩:Spk),3))
(.ret (t0.2,0)))))))))))))))))
def pM(s:Spk)(am:List Wnt)(I0:(Int×Spk)→Prop)(m0:(Int×Spk)→Nat)(r0:Spk×Int):=(lP s am I0 m0).vp lQ r0
theorem Iq(s:Spk)(c:List Wnt)(ok:Is s c):∃I m,pM s c I m (change s c):=by
 refine⟨λt=>∃j:Nat,t.1=j∧j≤c.length∧t.2=⟨s.router,s.epoch,((c.take j).foldl dA (s.last,s.items)).1,((c.take j).foldl dA (s.last,s.items)).2,s.peers⟩,λt=>c.length-t.1.toNat,?_⟩
 dsimp only[pM,lP,rT,Ax.vp,Ax.vc];simp only[vcU,rfU,List.length_map]
 have hv:dK s=if bc s then 0 else 1:=rfl
 rw[hv,Da]
 unfold change
 by_cases h1:bc s
 case neg=>rw[if_neg h1,if_pos h1];simp[fc]
 rw[if_pos h1,if_neg (not_not_intro h1)]
 refine⟨λq=>by simp at q,λ_=>⟨λh2=>?_,λh2=>?_⟩⟩
 ·have h2:bh true c≠0:=by simpa using h2
  rw[if_pos h2];rfl
 have h2:bh true c=0:=by simpa using h2
 rw[if_neg (not_not_intro h2)]
 have hp:=h1.2.2.2.2.1
 have hi:=gM h1.2.2.2.1
 have hl:=h1.2.2.1
 have hcl:=(eD.mp h2).1
 refine⟨by omega,by omega,⟨0,rfl,by omega,rfl⟩,?_⟩
 rintro⟨_,_⟩ ⟨j,rfl,hj,rfl⟩
 obtain⟨b1,b2,b3⟩:=vh h1 h2 j
 simp only[Int.toNat_natCast]
 refine⟨λh3=>⟨by omega,by omega,λx hx=>?_⟩,λh3=>?_⟩
 ·rw[av (n:=c.length) (by omega) (by omega)]
  have e:(c.take (j+1)).foldl dA (s.last,s.items)=dA ((c.take j).foldl dA (s.last,s.items)) x:=by rw[ax hx,List.foldl_append];rfl
  generalize (c.take j).foldl dA (s.last,s.items)=u at *
  refine⟨λq=>⟨⟨j+1,rfl,by omega,?_⟩,by omega⟩,λq=>⟨by omega,⟨j+1,rfl,by omega,?_⟩,by omega⟩⟩
  ·rw[e,dA,if_pos]
   have q:(dh u.2 x.grp).1=x.mode∧(dh u.2 x.grp).2=x.srcs:=by simpa[dU,lI]using q
   rw[←q.1,←q.2]
  ·rw[e,dA,if_neg,bB (by omega)]
   intro z
   have z1:=congrArg Prod.fst z
   have z2:=congrArg Prod.snd z
   simp[dU,lI]at q z1 z2
   exact q z1 z2
 ·rw[List.take_of_length_le (by omega)]
  refine⟨λq=>?_,λq=>?_⟩
  ·rw[if_pos q];rfl
  ·rw[if_neg q]
def Ir(s:Spk)(am:List Wnt):PC Tryz.prog:=⟨78,[(.a [.k,.k,.k,(.s 4),(.s 3)]),(.s 3)],[.agg [.int s.router,.int s.epoch,.int s.last,.sl 4 (s.items.map Itm.v) false,.sl 3 (s.peers.map Per.v) false],.sl 3 (am.map Wnt.v) false],lQ (change s am),ao.of_ok λok=>(Iq s am ok).elim λI0 h=>h.elim λm0 h=>aj (sh:=(.a [(.a [.k,.k,.k,(.s 4),(.s 3)]),.k])) (enc:=lQ) (a:=(lP s am I0 m0).an) h (by kernel_rfl) (AV.pureB_ok rfl),ai (by kernel_rfl)⟩
def IQ(l:List Itm):=okL [.sl 4 (l.map Itm.v) false]
def Gz(l:List Itm)(t0:Int×List Wnt):NF:=⟨[(0,.k,.sl 4 (l.map Itm.v) false),(3,.k,.vec 0),(4,.k,.int t0.1)],[.vec 3 (t0.2.map Wnt.v) (ab (λ_=>rfl) t0.2)]⟩
@[reducible] def vK:Nat→Type
 | 0=>Int×List Wnt
 | _=>Unit
def nw(r:List Wnt):AV:=.sl 3 (r.map Wnt.v) false
def nv(l:List Itm)(I0:(Int×List Wnt)→Prop)(m0:(Int×List Wnt)→Nat):Ax Tryz.prog vK ((List Wnt)):=
 (.callP (oN l 1000000)
(.br 64 (!(cD l 1000000)) (.ret ([]))
(.cmdL (.nilT 3 3) (.loop 0 (Gz l) I0 m0 (1,[]) [96] λ(t0:Int×List Wnt) b0 =>
(.br 33 (decide (t0.1≤99)) (.callP (FD l t0.1)
(.callP (eM )
(.callP (j1 (⟨(dh l t0.1).1,(dh l t0.1).2⟩:Flt) (⟨1,[]⟩:Flt))
(.br 177 (!(dU (⟨(dh l t0.1).1,(dh l t0.1).2⟩:Flt) (⟨1,[]⟩:Flt))) (.say (λR=>Rf (α:=List AV) (t0.2.map Wnt.v) (Rf (α:=List AV) [.agg [.int t0.1,.int ((dh l t0.1).1),.sl 1 (((dh l t0.1).2).map AV.int) false]]
(ck (decide (t0.2.length+1≤1048576))
R))) (.app 257 Wnt.v t0.2 [(⟨t0.1,(dh l t0.1).1,(dh l t0.1).2⟩:Wnt)]
(.bk 0 b0 (W (t0.1+1),t0.2++[(⟨t0.1,(dh l t0.1).1,(dh l t0.1).2⟩:Wnt)]) [257])))
(.bk 0 b0 (W (t0.1+1),t0.2) [0])))))
(.say (Rf (t0.2.map Wnt.v)) (.cmdL (.frzE 0 (t0.2.map Wnt.v) (ab (λ_=>rfl) t0.2)) (.ret (t0.2)))))))))
def qz(l:List Itm)(I0:(Int×List Wnt)→Prop)(m0:(Int×List Wnt)→Nat)(r0:List Wnt):=(nv l I0 m0).vp nw r0
theorem IP(l:List Itm)(ok:IQ l):∃I m,qz l I m (aM l):=by
 refine⟨λt=>∃k:Nat,t.1=(k:Int)+1∧k≤99∧t.2=eW (dh l) k,λt=>100-t.1.toNat,?_⟩
 dsimp only[qz,nv,vK,Ax.vp,Ax.vc];simp only[vcU,rfU,List.length_map]
 simp only[cD,Bool.not_eq_true',decide_eq_false_iff_not,Bool.not_eq_false',decide_eq_true_iff]
 refine⟨λh=>by rw[aM,if_neg h],λh=>⟨⟨0,rfl,by omega,rfl⟩,?_⟩⟩
 rintro⟨_,_⟩ ⟨k,rfl,hk,rfl⟩
 have hlen:=lG (f:=dh l) k
 simp only
 have hw:(k:Int)+1≤99→W ((k:Int)+1+1)=((k+1:Nat):Int)+1:=λ_=>by rw[bB (by omega)];omega
 refine⟨λh1=>⟨λq=>⟨by omega,?_⟩,λq=>?_⟩,λh1=>?_⟩
 ·rw[hw h1]
  refine⟨⟨k+1,rfl,by omega,?_⟩,by omega⟩
  rw[eW,kL,if_neg]
  intro e
  have e1:=congrArg Prod.fst e
  have e2:=congrArg Prod.snd e
  simp only at e1 e2
  simp[dU,lI,e1,e2]at q
 ·rw[hw h1]
  refine⟨⟨k+1,rfl,by omega,?_⟩,by omega⟩
  have e:(dh l ((k:Int)+1)).1=1∧(dh l ((k:Int)+1)).2=[]:=by simpa[dU,lI]using q
  rw[eW,kL,if_pos,List.append_nil]
  exact Prod.ext e.1 e.2
 ·have:k=99:=by omega
  subst this
  rw[aM,if_pos h]
def ny(l:List Itm):PC Tryz.prog:=⟨77,[(.s 4)],[.sl 4 (l.map Itm.v) false],nw (aM l),ao.of_ok λok=>(IP l ok).elim λI0 h=>h.elim λm0 h=>aj (sh:=(.s 3)) (enc:=nw) (a:=(nv l I0 m0).an) h (by kernel_rfl) (AV.pureB_ok rfl),ai (by kernel_rfl)⟩
def cu(l:List Per)(r:Int):Int:=match l.findIdx? λp=>decide (p.router=r)with
 | some i=>i
 | none=>-1
theorem rv{l:List Per}{r:Int}{i:Nat}{x:Per}(hx:l[i]?=some x)(h:x.router=r)(hb:∀y∈l.take i,y.router≠r):cu l r=i:=by
 obtain⟨hi,hxi⟩:=List.getElem?_eq_some_iff.mp hx
 have:l.findIdx? (λp=>decide (p.router=r))=some i:=by
  rw[List.findIdx?_eq_some_iff_getElem]
  refine⟨hi,by rw[hxi];simpa using h,λj hj=>?_⟩
  have:=hb l[j] (List.mem_of_getElem? (i:=j) (by rw[List.getElem?_take,if_pos hj,List.getElem?_eq_getElem (by omega)]))
  simpa using this
 unfold cu;rw[this]
theorem rz{l:List Per}{r:Int}(hb:∀y∈l,y.router≠r):cu l r=-1:=by
 have:l.findIdx? (λp=>decide (p.router=r))=none:=by
  rw[List.findIdx?_eq_none_iff]
  intro x hx;simpa using hb x hx
 unfold cu;rw[this]
def ED(s:Spk)(router:Int):=okL [.agg [.int s.router,.int s.epoch,.int s.last,.sl 4 (s.items.map Itm.v) false,.sl 3 (s.peers.map Per.v) false],.int router]
def KT(s:Spk)(router:Int)(t0:Int):NF:=⟨[(1,.k,.int router),(8,.k,.sl 3 (s.peers.map Per.v) false),(9,.k,.int ((s.peers.map Per.v).length:Int)),(10,.k,.int t0)],[]⟩
@[reducible] def EB:Nat→Type
 | 0=>Int
 | _=>Unit
def tB(r:Int):AV:=.int r
def tA(s:Spk)(router:Int)(I0:Int→Prop)(m0:Int→Nat):Ax Tryz.prog EB (Int):=
 (.loop 0 (KT s router) I0 m0 ((0):Int) [] λ(t0:Int) b0 =>
(.br 16 (decide (t0<((s.peers.map Per.v).length:Int))) (.el 32 Per.v s.peers (λR=>Rf (s.peers.map Per.v) (ck (decide (0≤t0)) (ck (decide (t0<(s.peers.length:Int)))
(∀x1,s.peers[t0.toNat]?=some x1 →
(R x1))))) λx1 =>
(.br 176 (x1.router==router) (.ret (t0))
(.bk 0 b0 ((W (t0+1)):Int) [])))
(.ret (-1))))
def wR(s:Spk)(router:Int)(I0:Int→Prop)(m0:Int→Nat)(r0:Int):=(tA s router I0 m0).vp tB r0
theorem Q2(s:Spk)(r:Int)(ok:ED s r):∃I m,wR s r I m (cu s.peers r):=by
 unfold ED at ok
 refine⟨λt=>∃k:Nat,t=k∧k≤s.peers.length∧∀x∈s.peers.take k,x.router≠r,λt=>s.peers.length-t.toNat,?_⟩
 dsimp only[wR,tA,EB,Ax.vp,Ax.vc];simp only[vcU,rfU,List.length_map]
 have hle:s.peers.length≤9223372036854775807:=by
  have h:=ok
  simp only[Spk.v,Ve,AV.ok,okL,List.length_map,cT]at h
  omega
 refine⟨⟨0,rfl,by omega,by simp⟩,?_⟩
 rintro _ ⟨k,rfl,hk,hI⟩
 simp only[Int.toNat_natCast]
 refine⟨λh1=>⟨by omega,by omega,λx hx=>⟨λe=>?_,λe=>?_⟩⟩,λh1=>?_⟩
 ·rw[rv hx (by simpa using e) hI]
 ·rw[av (n:=s.peers.length) (by omega) (by omega)]
  exact⟨⟨k+1,rfl,by omega,(bq hx).mpr ⟨hI,by simpa using e⟩⟩,by omega⟩
 ·rw[List.take_of_length_le (by omega)]at hI
  rw[rz hI]
def EC(s:Spk)(router:Int):PC Tryz.prog:=⟨108,[(.a [.k,.k,.k,(.s 4),(.s 3)]),.k],[.agg [.int s.router,.int s.epoch,.int s.last,.sl 4 (s.items.map Itm.v) false,.sl 3 (s.peers.map Per.v) false],.int router],tB (cu s.peers router),ao.of_ok λok=>(Q2 s router ok).elim λI0 h=>h.elim λm0 h=>aj (sh:=.k) (enc:=tB) (a:=(tA s router I0 m0).an) h (by kernel_rfl) (AV.pureB_ok rfl),ai (by kernel_rfl)⟩
theorem xT{l:List Per}{r:Int}(ho:l.Pairwise λx y=>x.router<y.router):cu l r=if uh l r then(ib l r:Int)else -1:=by
 by_cases h:uh l r
 ·rw[if_pos h]
  have h1:l[ib l r]?=some (l[ib l r]'h.1):=List.getElem?_eq_getElem h.1
  have h2:(l[ib l r]'h.1).router=r:=by
   have:=h.2
   rw[List.getD_eq_getElem?_getD,h1]at this
   exact this
  refine rv h1 h2 λy hy=>?_
  obtain⟨i,hi,rfl⟩:=List.getElem_of_mem hy
  rw[List.length_take]at hi
  rw[List.getElem_take]
  have:=kr (key:=Per.router) (l:=l) (r:=r) (i:=i) (show i<ib l r by omega) (by omega)
  omega
 ·rw[if_neg h]
  exact rz λy hy e=>h ((pc ho).mpr ⟨y,hy,e⟩)
def iS(l:Lsn)(r:Int):Hrd×Bool:=if bX l∧fX l.heard r then(atH l.heard r,true)else(⟨0,0,0,[]⟩,false)
def Ms(l:Lsn)(router:Int):=okL [.agg [.int l.router,.int l.epoch,.sl 4 (l.heard.map Hrd.v) false],.int router]
def HG(l:Lsn)(router:Int)(t0:Int):NF:=⟨[(1,.k,.int router),(4,.k,.ref 0 0),(12,.k,.sl 4 (l.heard.map Hrd.v) false),(13,.k,.int ((l.heard.map Hrd.v).length:Int)),(14,.k,.int t0)],[.box (.agg [.int 0,.int 0,.int 0,.sl 0 [] true])]⟩
@[reducible] def xX:Nat→Type
 | 0=>Int
 | _=>Unit
def pg(r:Hrd×Bool):AV:=.tup [Hrd.v r.1,.bool r.2]
def pf(l:Lsn)(router:Int)(I0:Int→Prop)(m0:Int→Nat):Ax Tryz.prog xX (Hrd×Bool):=
 (.callP (sD l)
(.br 96 ((fU l)==0) (.loop 0 (HG l router) I0 m0 ((0):Int) [16] λ(t0:Int) b0 =>
(.br 17 (decide (t0<((l.heard.map Hrd.v).length:Int))) (.el 17 Hrd.v l.heard (λR=>Rf (l.heard.map Hrd.v) (ck (decide (0≤t0)) (ck (decide (t0<(l.heard.length:Int)))
(∀x1,l.heard[t0.toNat]?=some x1 →
(R x1))))) λx1 =>
(.br 145 (x1.router==router) (.ret (x1,true))
(.bk 0 b0 ((W (t0+1)):Int) [0])))
(.ret ((⟨0,0,0,[]⟩:Hrd),false))))
(.ret ((⟨0,0,0,[]⟩:Hrd),false))))
def rA(l:Lsn)(router:Int)(I0:Int→Prop)(m0:Int→Nat)(r0:Hrd×Bool):=(pf l router I0 m0).vp pg r0
theorem Mq(l:Lsn)(r:Int)(ok:Ms l r):∃I m,rA l r I m (iS l r):=by
 refine⟨λt=>∃k:Nat,t=k∧k≤l.heard.length∧∀x∈l.heard.take k,x.router≠r,λt=>l.heard.length-t.toNat,?_⟩
 dsimp only[rA,pf,xX,Ax.vp,Ax.vc];simp only[vcU,rfU,List.length_map]
 have hv:fU l=if bX l then 0 else 1:=rfl
 rw[hv]
 by_cases h:bX l
 case neg=>rw[if_neg h];simp[iS,h]
 rw[if_pos h]
 refine⟨λ_=>⟨⟨0,rfl,by omega,by simp⟩,?_⟩,λq=>by simp at q⟩
 have hl:=h.2.2.1
 rintro _ ⟨k,rfl,hk,hI⟩
 simp only[Int.toNat_natCast]
 refine⟨λh1=>⟨by omega,by omega,λx hx=>⟨λe=>?_,λe=>?_⟩⟩,λh1=>?_⟩
 ·have e:x.router=r:=by simpa using e
  have hit:fX l.heard r:=(dr h.2.2.2.2).mpr ⟨x,aB hx,e⟩
  rw[iS,if_pos ⟨h,hit⟩]
  have:=eP h.2.2.2.2 (aB hx)
  unfold gOf base at this
  rw[e,if_pos hit]at this
  unfold atH
  rw[this]
 ·rw[av (n:=l.heard.length) (by omega) (by omega)]
  exact⟨⟨k+1,rfl,by omega,(bq hx).mpr ⟨hI,by simpa using e⟩⟩,by omega⟩
 ·rw[List.take_of_length_le (by omega)]at hI
  rw[iS,if_neg]
  rintro⟨_,q⟩
  obtain⟨z,hz,e⟩:=(dr h.2.2.2.2).mp q
  exact hI z hz e
def Mr(l:Lsn)(router:Int):PC Tryz.prog:=⟨151,[(.a [.k,.k,(.s 4)]),.k],[.agg [.int l.router,.int l.epoch,.sl 4 (l.heard.map Hrd.v) false],.int router],pg (iS l router),ao.of_ok λok=>(Mq l router ok).elim λI0 h=>h.elim λm0 h=>aj (sh:=(.a [(.a [.k,.k,.k,(.s 4)]),.k])) (enc:=pg) (a:=(pf l router I0 m0).an) h (by kernel_rfl) (AV.pureB_ok rfl),ai (by kernel_rfl)⟩
def LN(l:Lsn)(router:Int):=okL [.agg [.int l.router,.int l.epoch,.sl 4 (l.heard.map Hrd.v) false],.int router]
def oI(r:List Wnt):AV:=.sl 3 (r.map Wnt.v) false
def oH(l:Lsn)(router:Int):Ax Tryz.prog noS ((List Wnt)):=
 (.callP (Mr l router)
(.callP (ny (((iS l router).1).items))
(.ret (aM (((iS l router).1).items)))))
def rg(l:Lsn)(router:Int)(r0:List Wnt):=(oH l router).vp oI r0
theorem vL:aM []=[]:=by decide +kernel
theorem LL(l:Lsn)(r:Int)(ok:LN l r):rg l r (dW l r):=by
 dsimp only[rg,oH,noS,Ax.vp,Ax.vc];simp only[vcU,rfU,List.length_map]
 unfold iS dW
 split
 ·rfl
 ·exact vL
def LM(l:Lsn)(router:Int):PC Tryz.prog:=⟨112,[(.a [.k,.k,(.s 4)]),.k],[.agg [.int l.router,.int l.epoch,.sl 4 (l.heard.map Hrd.v) false],.int router],oI (dW l router),ao.of_ok λok=>aj (sh:=(.s 3)) (enc:=oI) (a:=(oH l router).an) (LL l router ok) (by kernel_rfl) (AV.pureB_ok rfl),ai (by kernel_rfl)⟩
end Go.Proofs.YthhpaedpnjdnbaaGreatDoor
