/- Texts joined: G16 U5 U8 U9 U10 U11 U12 G18 G19 U15 G20 G21. -/
import Derived.Test.YtiobpjoadkfhdaaGreatDoorSh
import Derived.Test.YtiobpjoadkfhdaaGreatDoorChecked
import Derived.Test.YtiobpjoadkfhdaaGreatDoorQF6
set_option linter.unusedVariables false
set_option linter.unusedSimpArgs false
set_option linter.unusedSectionVars false
namespace Go.Proofs.YtiobpjoadkfhdaaGreatDoor
open Go Go.Am
open Go.Shelf Go.RowKit Go.Lib Go.Sort in
theorem AA(a b:Int)(x1 x2 y1 y2:Value)(w:World)(hx:x1.oneCell'=true∧x2.oneCell'=true)(hy:y1.oneCell'=true∧y2.oneCell'=true) :
  Calls Tryz.prog 256 #[.agg #[.int .i64 a,x1,x2],.agg #[.int .i64 b,y1,y2]] w λe w'=>e=.returned (.int .i64 (Lib.compareInt a b))∧∃q os',w'=grow (w.drewN q) os':=by
 have hcon:=λW'=>AnyG.cmp_Compare_int Tryz.cmpI a b W'
 change ∀W',Calls Tryz.prog 257 _ _ _ at hcon
 generalize Lib.compareInt a b=r at hcon ⊢
 go_enter Tryz.func256,Tryz.ntmps256
 go_wp2_with (go_at_call 257;refine(hcon _).mono ?_;rintro e w' ⟨rfl,rfl⟩)
 go_ret
 exact⟨rfl,0,_,by rw[alloc_eq_grow,alloc_eq_grow,grow_grow];rfl⟩
def wb(l:List Wnt):Prop:=l.length≤1000000∧l.Pairwise λa b=>a.grp≠b.grp
def qX(l:List Wnt):List Wnt:=l.mergeSort λa b=>decide (a.grp≤b.grp)
theorem mQ(l:List Wnt):(qX l).Perm l:=cv' _ _
theorem v7{l:List Wnt}(h:wb l):(qX l).Pairwise λa b=>a.grp<b.grp:=by
 have h1:(qX l).Pairwise λa b=>decide (a.grp≤b.grp)=true:=List.pairwise_mergeSort (λa b c h1 h2=>by simp at *;omega) (λa b=>by simp;omega) l;have h2:(qX l).Pairwise λa b=>a.grp≠b.grp:=(List.Perm.pairwise_iff (λh=>Ne.symm h) (mQ l)).mpr h.2;exact(h1.and h2).imp λ⟨h1,h2⟩=>by simp at h1;omega
open Go.Shelf Go.RowKit Go.Lib Go.Sort in
theorem zd(l:List Wnt)(h:wb l):bc Tryz.prog 255 [.vec 0,.func 256 []] [.vec 3 (l.map Wnt.v)] (.tup []) [some (.vec 3 ((qX l).map Wnt.v))]:=by
 refine zc Tryz.sortW Wnt.v Wnt.grp 3 (by omega) (λ_=>by kernel_rfl) (λ_=>by kernel_rfl) (λx=>⟨_,rfl⟩) 256 (enters_of Tryz.func256 (by kernel_rfl) rfl) ?_ l (qX l) (mQ l) (v7 h) h.1;intro a b xs ys w hx hy ox oy
 match xs,hx with
 | [x1,x2],_ =>
 match ys,hy with
 | [y1,y2],_=>exact AA a b x1 x2 y1 y2 w ⟨ox x1 (by simp),ox x2 (by simp)⟩ ⟨oy y1 (by simp),oy y2 (by simp)⟩
def MP(l:List Wnt)(h:wb l):HC Tryz.prog:=⟨255,[.k,.k],[.vec 0,.func 256 []],[.vec 3 (l.map Wnt.v)],.tup [],[some (.vec 3 ((qX l).map Wnt.v))],zd l h,iO (by kernel_rfl),
 qT.of (by simp[hcB,bJ,AV.belB,allB,cF,bW,ae (v:=Wnt.v) (λ_=>rfl)])⟩
def rc(f:Flt):Bool:=f.mode==1 && (f.srcs.length:Int)==0
theorem wh{f:Flt}:rc f=true↔f.mode=1∧f.srcs=[]:=by
 simp[rc]
def Ir(r:Bool):AV:=.bool r
def zM(f:Flt):Ax Tryz.prog noS (Bool):=
 (.br 96 (f.mode==1) (.ret (((f.srcs.map AV.int).length:Int)==0))
(.ret (false)))
theorem RY(f:Flt):(zM f).vp Ir (rc f):=by
 dsimp only[zM,noS,Ax.vp,Ax.vc];simp only[vcU,rfU,f'];by_cases h:f.mode=1<;>simp[rc,h]
def RZ(f:Flt):PC Tryz.prog:=pcO 253 [(.a [.k,(.s 1)])] [Flt.v f] .k Ir (rc f) (λ_=>⟨(zM f),RY f,by kernel_rfl⟩) rfl (by kernel_rfl)
def wOf(l:List Itm):List Wnt:=(l.filter λx=>!rc ⟨x.mode,x.srcs⟩).map λx=>⟨x.grp,x.mode,x.srcs⟩
theorem vq(l:List Itm)(x:Itm):wOf (l++[x])=if rc ⟨x.mode,x.srcs⟩=true then wOf l else wOf l++[⟨x.grp,x.mode,x.srcs⟩]:=by
 unfold wOf;rw[aP',List.map_append]
 by_cases h:rc ⟨x.mode,x.srcs⟩=true
 ·rw[if_pos h];simp[bI',h]
 ·rw[u' h];simp[bI',h]
theorem Bz(l:List Itm):(wOf l).length≤l.length:=by unfold wOf;rw[f'];exact bh' _ _
theorem On{l:List Itm}{w:Wnt}:w∈wOf l↔∃x∈l,¬(x.mode=1∧x.srcs=[])∧w=⟨x.grp,x.mode,x.srcs⟩:=by
 unfold wOf;rw[R']
 constructor
 ·rintro⟨x,hx,rfl⟩;obtain⟨h1,h2⟩:=aA'.mp hx;refine⟨x,h1,λe=>?_,rfl⟩;rw[wh.mpr e]at h2;cases h2
 ·rintro⟨x,hx,h,rfl⟩;refine⟨x,aA'.mpr ⟨hx,?_⟩,rfl⟩;cases e:rc ⟨x.mode,x.srcs⟩with
  | true=>exact absurd (wh.mp e) h
  | false=>rfl
theorem By{l:List Itm}(h:aK 1000000 l):wb (wOf l):=by
 refine⟨by have:=Bz l;have:=gk h;omega,?_⟩;unfold wOf;rw[at'];refine List.Pairwise.filter _ ?_;have:=h.2.1;rw[List.Nodup,at']at this;exact this
theorem Ef{l:List Itm}(h:aK 1000000 l):qX (wOf l)=av l:=by
 rw[av,if_pos h];refine mG (v7 (By h)) (iu 99) λw=>?_;rw[(mQ _).mem_iff,On,fa]
 constructor
 ·rintro⟨x,hx,h1,rfl⟩;have:=BI h.2.1 hx;refine⟨by have:=(h.1 x hx).2.1;simp only;omega,this,?_⟩;simp only;rw[this];intro e;simp only[Prod.mk.injEq]at e;exact h1 e
 ·rintro⟨_,h1,h2⟩;obtain⟨x,hx,e1,e2⟩:=ru h2;rw[h1]at e2;simp only[Prod.mk.injEq]at e2
  refine⟨x,hx,λe=>h2 ?_,?_⟩
  ·rw[h1,e2.1,e2.2,e.1,e.2]
  ·cases w;simp only at e1 e2;rw[e1,e2.1,e2.2]
def Ej(l:List Itm)(t0:Int×List Wnt):NF:=⟨[rV 3 0,(9,.k,.sl 4 (l.map Itm.v) false),rI 10 ((l.map Itm.v).length:Int),rI 11 t0.1],[vB 3 Wnt.v t0.2 (λ_=>rfl)]⟩
@[reducible] def vn:Nat→Type
 | 0=>Int×List Wnt
 | _=>Unit
def vo(r:List Wnt):AV:=.sl 3 (r.map Wnt.v) false
def vm(l:List Itm)(I0:(Int×List Wnt)→Prop)(m0:(Int×List Wnt)→Nat):Ax Tryz.prog vn ((List Wnt)):=
 (.callP (pN l 1000000)
(.br 64 (!(cN l 1000000)) (.ret ([]))
(.cmdL (.nilT 3 3) (.loop 0 (Ej l) I0 m0 (0,[]) [128] λ(t0:Int×List Wnt) b0 =>
(.br 17 (decide (t0.1<((l.map Itm.v).length:Int))) (.elI 17 Itm.v l t0.1 λx1 =>
(.callP (RZ (⟨x1.mode,x1.srcs⟩:Flt))
(.br 145 (!(rc (⟨x1.mode,x1.srcs⟩:Flt))) (.req 225 ((⟨x1.mode,x1.srcs⟩:Flt).srcs.length≤1000000) λh2 =>
(.callP (iQ (⟨x1.mode,x1.srcs⟩:Flt) h2)
(.apX 273 Wnt.v t0.2 [(⟨x1.grp,x1.mode,x1.srcs⟩:Wnt)] (t0.2.length+1)
(.bk 0 b0 (W (t0.1+1),t0.2++[(⟨x1.grp,x1.mode,x1.srcs⟩:Wnt)]) [273]))))
(.bk 0 b0 (W (t0.1+1),t0.2) [0]))))
(.req 33 (wb t0.2) λh3 =>
(.callH [0] (MP t0.2 h3) 33
(.fz 0 Wnt.v (qX t0.2) (λ_=>rfl) (.ret (qX t0.2))))))))))
theorem Gk(l:List Itm):∃I m,(vm l I m).vp vo (av l):=by
 refine⟨λt=>∃k:Nat,t.1=k∧k≤l.length∧t.2=wOf (l.take k),λt=>l.length-t.1.toNat,?_⟩;dsimp only[vm,vn,Ax.vp,Ax.vc];simp only[vcU,rfU,f'];simp only[cN,be',decide_eq_false_iff_not,bT',aM'];refine⟨λh=>by rw[av,u' h],λh=>⟨⟨0,rfl,by omega,rfl⟩,?_⟩⟩;rintro⟨_,ws⟩ ⟨k,rfl,hk,rfl⟩;have hl:=gk h;simp only[Int.toNat_natCast]
 refine⟨λh1=>⟨by omega,by omega,λx hx=>?_⟩,λh1=>?_⟩
 ·have hs:=fY (h.1 x (aq hx)).2.2;have hw:=Bz (l.take k);rw[aa']at hw;rw[ao (n:=l.length) (by omega) (by omega)]
  refine⟨λe=>⟨by omega,by omega,⟨k+1,rfl,by omega,?_⟩,by omega⟩,λe=>⟨⟨k+1,rfl,by omega,?_⟩,by omega⟩⟩
  ·rw[al hx,vq,u' (by simp[e])]
  ·rw[al hx,vq,if_pos e]
 ·have e:l.take k=l:=G' (by omega);rw[e];exact⟨By h,by rw[Ef h]⟩
def oR(l:List Itm):PC Tryz.prog:=pcO 143 [(.s 4)] [.sl 4 (l.map Itm.v) false] (.s 3) vo (av l) (λ_=>let ⟨I0,m0,h⟩:=Gk l;⟨_,h,by kernel_rfl⟩) rfl (by kernel_rfl)
def dq(l:Lsn)(r:Int):List Wnt:=if bY l∧gD l.heard r then av (atH l.heard r).items else []
def wB(r:List Wnt):AV:=.sl 3 (r.map Wnt.v) false
def pL(l:Lsn)(router:Int):Ax Tryz.prog noS ((List Wnt)):=
 (.callP (GH l)
(.br 80 ((gB l) != 0) (.ret ([]))
(.req 112 (l.heard.Pairwise λx y=>x.router<y.router) λh1 =>
(.req 112 (l.heard.length≤1000000) λh2 =>
(.callP (OM l router h1 h2)
(.br 224 (decide (gD l.heard router)) (.elI 272 Hrd.v l.heard (bK l.heard router:Int) λx3 =>
(.callP (oR x3.items)
(.ret (av x3.items))))
(.ret ([]))))))))
theorem Jk(l:Lsn)(r:Int):(pL l r).vp wB (dq l r):=by
 dsimp only[pL,noS,Ax.vp,Ax.vc];simp only[vcU,rfU,f'];have hv:gB l=if bY l then 0 else 1:=rfl
 rw[hv]
 by_cases h:bY l
 ·rw[if_pos h];refine⟨λe=>by simp at e,λ_=>⟨h.2.2.2.2,by have:=h.2.2.1;omega,λq=>⟨by omega,by have:=q.1;omega,λx hx=>?_⟩,λq=>by rw[dq,u' λe=>q e.2]⟩⟩;rw[Int.toNat_natCast]at hx;rw[dq,if_pos ⟨h,q⟩,atH,J',hx];rfl
 ·rw[u' h];exact⟨λ_=>by rw[dq,u' λe=>h e.1],λe=>by simp at e⟩
def Jl(l:Lsn)(router:Int):PC Tryz.prog:=pcO 148 [(.a [.k,.k,(.s 4)]),.k] [Lsn.v l,.int router] (.s 3) wB (dq l router) (λ_=>⟨(pL l router),Jk l router,by kernel_rfl⟩) rfl (by kernel_rfl)
structure TC (a:Spk) (to:Int) (x:Sig):Prop where
  ok:aG x=0
  kind:x.kind≠3
  src:x.src=a.router
  dst:x.dst=to
  epoch:x.epoch=a.epoch
  tell:gA a.epoch a.last a.items x
theorem jn{a:Spk}{to:Int}(ha:aW a)(hh:∃z∈a.peers,z.router=to):send a to=(cw a to::aM a to (pOf a.peers to).acked 0 a.items,0)∧∀x∈(send a to).1,TC a to x:=by
 have hhit:=(pU ha.2.2.2.2.2.2).mpr hh;obtain⟨p1,p2,p3,p4,p5,p6,p7⟩:=ha;obtain⟨z,hz,hzr⟩:=hh;obtain⟨z1,z2,_⟩:=p6 z hz;have e:send a to=(cw a to::aM a to (pOf a.peers to).acked 0 a.items,0):=by
  unfold send;rw[u' (not_not_intro ⟨p1,p2,p3,p4,p5,p6,p7⟩),u' (not_not_intro hhit)];rfl
 refine⟨e,?_⟩;rw[e];intro x hx
 rcases P'.mp hx with rfl|hx
 ·refine⟨?_,by simp[cw],rfl,rfl,rfl,ai' _,λq=>by simp[cw]at q⟩;have hn:bA (cw a to):=by
   unfold bA cw;rw[if_pos rfl];exact⟨p2,p3,rfl,rfl,rfl⟩
  have he:fg (cw a to):=⟨p1,by rw[←hzr];exact z1,by simp only[cw];omega⟩
  unfold aG;rw[u' (by simp[cw]),u' (not_not_intro ⟨he,hn⟩),u' (by simp[cw]),u' (by simp[cw])]
 ·obtain⟨x1,x2,x3,x4,x5,x6,x7,x8⟩:=Cd p4 p3.2 a.items [] 0 rfl (by omega) (by simp) (λy hy=>by have:=(p4.1 y hy).1.1;omega) x hx;refine⟨?_,by omega,x2,x3,x4,by omega,λ_ _=>x8⟩;obtain⟨i1,i2,i3⟩:=p4.1 _ x7;simp only[kL]at i1 i2 i3;have hn:bA x:=by
   unfold bA;rw[u' (by omega),if_pos x1,x4];exact⟨p2,⟨i1.1,by omega⟩,x6,x5,i2⟩
  have he:fg x:=⟨by rw[x2];exact p1,by omega,by omega⟩
  unfold aG;rw[u' (by omega),u' (not_not_intro ⟨he,hn⟩),if_pos x1];exact i3
theorem DV{s d e v p:Int}(hs:1≤s∧s≤99)(hd:1≤d∧d≤99)(hne:s≠d)(he:0≤e∧e≤1000000)(hv:0≤v∧v≤1000000)(hp:1≤p∧p≤1000000):aG ⟨3,s,d,e,v,0,p,0,0,[]⟩=0:=by
 have hn:bA ⟨3,s,d,e,v,0,p,0,0,[]⟩:=by
  unfold bA;rw[u' (by simp),u' (by simp)];exact⟨he,hv,rfl,hp,rfl⟩
 unfold aG;rw[u' (by simp),u' (not_not_intro ⟨⟨hs,hd,hne⟩,hn⟩),u' (by simp),u' (by simp)]
theorem qS.ans_ok{l l':Lsn}{x y:Sig}(hl:bY l)(h:qS l l' x y)(hx:aG x=0)(hd:x.dst=l.router):aG y=0:=by
 obtain⟨e1,e2,e3⟩:=pc hx;have hm:=(h.mem _).mpr (.inl rfl);obtain⟨k1,k2,k3,k4,k5⟩:=h.ok.2.2.2.1 _ hm;rw[h.ans];exact DV hl.1 e1 (by omega) (by omega) k4 hl.2.1
structure SI (s:Spk×Lsn):Prop where
  aok:aW s.1
  ar:s.1.router=1
  ap:s.1.peers.map Per.router=[2]
  lok:bY s.2
  lr:s.2.router=2
  lh:∀h∈s.2.heard,h.router=1
  pi:PI s.1.epoch s.1.last s.1.items (pOf s.1.peers 2) s.2.epoch (gOf s.2.heard 1)
theorem SI.hp{s:Spk×Lsn}(h:SI s):∃z∈s.1.peers,z.router=2:=by
 have:(2:Int)∈s.1.peers.map Per.router:=by rw[h.ap];simp
 obtain⟨z,hz,e⟩:=R'.mp this;exact⟨z,hz,e⟩
def rt1(s:Spk×Lsn)(x:Sig):Spk×Lsn:=((ack s.1 (hear s.2 x).1.2).1,(hear s.2 x).1.1)
def rt(s:Spk×Lsn):Spk×Lsn:=(send s.1 2).1.foldl rt1 s
theorem xi{e:Int}{g:Hrd}{x:Sig}{l:List Sig}(h:g.epoch≤e)(hx:x.epoch=e)(hl:∀y∈l,y.epoch≤e):(ek g (x::l)).epoch=e:=
 ((ft (g:=aX g x) hl).now (nX h hx)).1
theorem qU.agree{a:Spk}{l:Lsn}{q:Int}(ha:aW a)(hl:bY l)(hP:PI a.epoch a.last a.items (pOf a.peers q) l.epoch (gOf l.heard a.router))(hg:(gOf l.heard a.router).epoch=a.epoch∧(gOf l.heard a.router).ver=a.last) :
  Go.Proofs.YtiobpjoadkfhdaaGreatDoor.agree a l∧(gOf l.heard a.router).items=a.items∧atH l.heard a.router=gOf l.heard a.router∧gD l.heard a.router:=by
 have hh:∃z∈l.heard,z.router=a.router:=by
  refine af' λhn=>?_;have:=gp hl.2.2.2.2 hn;rw[this]at hg;have:=hP.e1;simp only at hg;omega
 have hit:=(dE hl.2.2.2.2).mpr hh;have hat:atH l.heard a.router=gOf l.heard a.router:=by
  unfold atH gOf base;rw[if_pos hit]
 have hi:=(hP.g4 hg.1).eq hP.io hP.g3 hg.2;exact⟨⟨ha,hl,hit,by rw[hat];exact hg.1,by rw[hat];exact hg.2,by rw[hat];exact hi⟩,hi,hat,hit⟩
theorem kB{s:Spk}{to acked:Int}:∀{r:List Itm} {prev:Int},(∀y∈r,y.ver≤acked)→aM s to acked prev r=[]
 | [],_,_=>rfl
 | y::r,prev,h=>by
  have:=h y (by simp);rw[aM,u' (by omega),kB λz hz=>h z (by simp[hz])];rfl
theorem settled{s:Spk×Lsn}(h:SI s)(hd:qU s.1.epoch s.1.last (pOf s.1.peers 2) s.2.epoch (gOf s.2.heard 1)) :
  agree s.1 s.2∧(∃p,s.1.peers=[p]∧p.acked=s.1.last)∧(send s.1 2).2=0∧(send s.1 2).1.length=1∧dq s.2 1=av s.1.items:=by
 have hP:=h.pi;have hg:(gOf s.2.heard s.1.router).epoch=s.1.epoch∧(gOf s.2.heard s.1.router).ver=s.1.last:=by rw[h.ar];exact⟨hd.ge,hd.gv⟩
 obtain⟨a1,a2,a3,a4⟩:=qU.agree (q:=2) h.aok h.lok (by rw[h.ar];exact hP) hg;have hpp:s.1.peers=[pOf s.1.peers 2]:=by
  have:=h.ap;generalize s.1.peers=ps at this;cases ps with
  | nil=>simp at this
  | cons p r =>
   simp only[au',List.cons.injEq,List.map_eq_nil_iff]at this;obtain⟨hp,rfl⟩:=this;have:=gL (l:=[p]) (z:=p) (aH' _ _) (by simp);rw[←hp,this]
 obtain⟨v,w⟩:=jn h.aok h.hp
 refine⟨a1,⟨_,hpp,hd.pa⟩,by rw[v],?_,?_⟩
 ·rw[v,kB λy hy=>?_]
  ·rfl
  ·rw[hd.pa];exact(hP.io.1 y hy).1.2
 ·rw[h.ar]at a2 a3 a4;unfold dq;rw[if_pos ⟨h.lok,a4⟩,a3,a2]
section
variable {α : Type} {key : α → Int}
theorem mA{l:List α}{r q:Int}{d z':α}(ho:l.Pairwise λx y=>key x<key y)(hr:∃z∈l,key z=r)(hk:key z'=r)(hq:∃z∈l,key z=q) :
  (l.set (c7 key l r) z').getD (c7 key (l.set (c7 key l r) z') q) d=if q=r then z' else l.getD (c7 key l q) d:=by
 have ho':=hZ (z':=z') ho hr hk;have hm:=gj (z':=z') ho hr
 by_cases e:q=r
 ·rw[if_pos e,e,←hk];have h1:z'∈l.set (c7 key l (key z')) z':=by rw[hk];exact(hm z').mpr (.inl rfl)
  rw[←hk]at ho';exact lz ho' h1
 ·rw[u' e];obtain⟨z,hz,rfl⟩:=hq;have h1:=(hm z).mpr (.inr ⟨hz,e⟩);rw[lz ho' h1,lz ho hz]
theorem mj{l:List α}{r:Int}{z':α}(ho:l.Pairwise λx y=>key x<key y)(hr:∃z∈l,key z=r)(hk:key z'=r):(l.set (c7 key l r) z').map key=l.map key:=by
 obtain⟨z,hz,hzr⟩:=hr;obtain⟨i,hi,rfl⟩:=ad' hz;rw[jW ho hi hzr,bm',hk];refine bd' (by simp) λj h1 h2=>?_;rw[bc']
 split
 ·rename_i e;subst e;simp[hzr]
 ·rfl
theorem eZ{β:Type}{key':β→Int}{l:List α}{m:List β}(h:l.map key=m.map key')(r:Int):c7 key l r=c7 key' m r:=by
 have e1:∀{γ:Type} (k:γ→Int) (l:List γ),c7 k l r=(l.map k).findIdx λy=>!decide (y<r):=λk l=>by
  unfold c7;rw[List.findIdx_map];rfl
 rw[e1,e1,h]
theorem mem_keys{l:List α}{r:Int}:r∈l.map key↔∃z∈l,key z=r:=by rw[R']
theorem xl{l:List α}{r:Int}{d:α}(ho:l.Pairwise λx y=>key x<key y)(h:r∈l.map key):l.getD (c7 key l r) d∈l∧key (l.getD (c7 key l r) d)=r:=by
 obtain⟨z,hz,rfl⟩:=mem_keys.mp h;rw[lz ho hz];exact⟨hz,rfl⟩
end
theorem nc{l R:List Int}(h:l.Nodup)(hs:∀x∈l,x∈R):l.length≤R.length:=by
 induction l generalizing R with
 | nil=>simp
 | cons x l ih =>
  rw[bq']at h;have hx:=hs x (by simp);have:=ih (R:=R.erase x) h.2 λy hy=>by
   have hne:y≠x:=λe=>h.1 (e ▸ hy);exact(List.mem_erase_of_ne hne).mpr (hs y (by simp[hy]))
  rw[List.length_erase_of_mem hx]at this;have:=List.length_pos_of_mem hx;simp only[Z'];omega
structure Ovl where
  sp:List Spk
  ls:List Lsn
  fl:List Sig
  deriving DecidableEq
def Ex(l:List Spk):AV:=.sl 5 (l.map Spk.v) false
def EL(l:List Lsn):AV:=.sl 3 (l.map Lsn.v) false
def Ovl.v(x:Ovl):AV:=.agg [Ex x.sp,EL x.ls,E1 x.fl]
def jd:Ovl:=⟨[],[],[]⟩
def aD(sp:List Spk):List Int:=sp.map Spk.router
def bn(l:List Spk)(r:Int):Nat:=l.findIdx λp=>!decide (p.router<r)
def atS(sp:List Spk)(r:Int):Spk:=sp.getD (bn sp r) eG
def atL(sp:List Spk)(ls:List Lsn)(r:Int):Lsn:=ls.getD (bn sp r) w6
def Ey(R:List Int)(s:Spk):Prop:=aW s∧s.peers.map Per.router=R.filter λr=>decide (r≠s.router)
def EM(R:List Int)(l:Lsn):Prop:=bY l∧∀h∈l.heard,h.router∈R
structure bI (R:List Int) (sp:List Spk) (ls:List Lsn):Prop where
  len:R.length≤12
  spr:sp.map Spk.router=R
  lsr:ls.map Lsn.router=R
  asc:sp.Pairwise λx y=>x.router<y.router
  spo:∀s∈sp,Ey R s
  lso:∀l∈ls,EM R l
def cV(R:List Int)(x:Sig):Prop:=aG x=0∧x.src∈R∧x.dst∈R
def bE(o:Ovl):Prop:=bI (aD o.sp) o.sp o.ls∧∀x∈o.fl,cV (aD o.sp) x
section
variable {R : List Int} {sp : List Spk} {ls : List Lsn}
theorem bI.ascR(h:bI R sp ls):R.Pairwise (·<·):=by rw[←h.spr,at'];exact h.asc
theorem bI.nodup(h:bI R sp ls):R.Nodup:=h.ascR.imp λq=>by omega
theorem bI.ascL(h:bI R sp ls):ls.Pairwise λx y=>x.router<y.router:=by
 have:=h.ascR;rw[←h.lsr,at']at this;exact this
theorem bI.posL(h:bI R sp ls)(r:Int):bn sp r=c7 Lsn.router ls r:=eZ (key:=Spk.router) (key':=Lsn.router) (h.spr.trans h.lsr.symm) r
theorem bI.s(h:bI R sp ls){r:Int}(hr:r∈R):atS sp r∈sp∧(atS sp r).router=r:=xl (key:=Spk.router) h.asc (by rw[h.spr];exact hr)
theorem bI.l(h:bI R sp ls){r:Int}(hr:r∈R):atL sp ls r∈ls∧(atL sp ls r).router=r:=by
 unfold atL;rw[h.posL];exact xl (key:=Lsn.router) h.ascL (by rw[h.lsr];exact hr)
theorem bI.peer(h:bI R sp ls){a b:Int}(ha:a∈R)(hb:b∈R)(hab:a≠b):∃z∈(atS sp a).peers,z.router=b:=by
 obtain⟨h1,h2⟩:=h.s ha;refine R'.mp ?_;rw[(h.spo _ h1).2,aA',h2];exact⟨hb,by simpa using Ne.symm hab⟩
theorem bI.room(h:bI R sp ls){b:Int}(hb:b∈R):(atL sp ls b).heard.length<12:=by
 obtain⟨h1,h2⟩:=h.l hb;obtain⟨k1,k2⟩:=h.lso _ h1;have hn:((atL sp ls b).heard.map Hrd.router).Nodup:=by
  have:=k1.2.2.2.2;rw[List.Nodup,at'];exact this.imp λq=>by omega
 have hc:(b::(atL sp ls b).heard.map Hrd.router).Nodup:=by
  rw[bq'];refine⟨λq=>?_,hn⟩;obtain⟨z,hz,e⟩:=R'.mp q;exact(k1.2.2.2.1 z hz).2.1 (e.trans h2.symm)
 have:=nc hc (R:=R) λx hx=>by
  rcases P'.mp hx with rfl|hx
  ·exact hb
  ·obtain⟨z,hz,rfl⟩:=R'.mp hx;exact k2 z hz
 have:=h.len;simp only[Z',f']at *
 omega
end
abbrev Rnd:=(List Spk×List Lsn)×List Sig
def aR(s:Rnd)(x:Sig):Rnd:=
 if x.kind=3 then(if(ack (atS s.1.1 x.dst) x).2=0 then((s.1.1.set (bn s.1.1 x.dst) (ack (atS s.1.1 x.dst) x).1,s.1.2),s.2)else s)
 else if(hear (atL s.1.1 s.1.2 x.dst) x).2=0 then((s.1.1,s.1.2.set (bn s.1.1 x.dst) (hear (atL s.1.1 s.1.2 x.dst) x).1.1),s.2++[(hear (atL s.1.1 s.1.2 x.dst) x).1.2])else s
def jI(a b le:Int)(g:Hrd):Sig:=⟨3,b,a,g.epoch,g.ver,0,le,0,0,[]⟩
structure Dlv (R:List Int) (s s':Rnd) (x:Sig):Prop where
  net:bI R s'.1.1 s'.1.2
  epoch:∀a∈R,(atS s'.1.1 a).epoch=(atS s.1.1 a).epoch
  last:∀a∈R,(atS s'.1.1 a).last=(atS s.1.1 a).last
  items:∀a∈R,(atS s'.1.1 a).items=(atS s.1.1 a).items
  le:∀b∈R,(atL s'.1.1 s'.1.2 b).epoch=(atL s.1.1 s.1.2 b).epoch
  p:∀a∈R,∀b∈R,a≠b→pOf (atS s'.1.1 a).peers b=if x.kind=3∧x.dst=a∧x.src=b then dQ (atS s.1.1 a) x (pOf (atS s.1.1 a).peers b)else pOf (atS s.1.1 a).peers b
  g:∀a∈R,∀b∈R,a≠b→gOf (atL s'.1.1 s'.1.2 b).heard a=if x.kind≠3∧x.src=a∧x.dst=b then aX (gOf (atL s.1.1 s.1.2 b).heard a) x else gOf (atL s.1.1 s.1.2 b).heard a
  out:s'.2=s.2++if x.kind=3 then []else [jI x.src x.dst (atL s.1.1 s.1.2 x.dst).epoch (aX (gOf (atL s.1.1 s.1.2 x.dst).heard x.src) x)]
  outk:∀y∈s'.2,y∈s.2∨cV R y
theorem Az{R:List Int}{s:Rnd}{x:Sig}(h:bI R s.1.1 s.1.2)(hx:cV R x):Dlv R s (aR s x) x:=by
 obtain⟨⟨sp,ls⟩,out⟩:=s;obtain⟨x1,x2,x3⟩:=hx;have hne:x.src≠x.dst:=(pc x1).2.2;simp only at h
 by_cases hk:x.kind=3
 ·obtain⟨h1,h2⟩:=h.s x3;obtain⟨k1,k2⟩:=h.spo _ h1;have hp:=h.peer x3 x2 (Ne.symm hne);obtain⟨e1,e2⟩:=PO k1 x1 hk h2.symm hp;have hd:aR ((sp,ls),out) x=((sp.set (bn sp x.dst) (ack (atS sp x.dst) x).1,ls),out):=by
   unfold aR;rw[if_pos hk,if_pos e1]
  rw[hd];generalize hz:(ack (atS sp x.dst) x).1=z at *
  have hzr:z.router=x.dst:=e2.router.trans h2;have hr:∃w∈sp,w.router=x.dst:=⟨_,h1,h2⟩
  have hat:∀a∈R,atS (sp.set (bn sp x.dst) z) a=if a=x.dst then z else atS sp a:=λa ha =>
   mA (key:=Spk.router) (d:=eG) h.asc hr hzr (by rw[←h.spr]at ha;exact mem_keys.mp ha)
  have hkeys:(sp.set (bn sp x.dst) z).map Spk.router=sp.map Spk.router:=mj (key:=Spk.router) h.asc hr hzr;have hat2:∀b,atL (sp.set (bn sp x.dst) z) ls b=atL sp ls b:=λb=>by
   unfold atL;rw[show bn (sp.set (bn sp x.dst) z) b=bn sp b from eZ (key:=Spk.router) (key':=Spk.router) hkeys b]
  refine⟨⟨h.len,hkeys.trans h.spr,h.lsr,hZ (key:=Spk.router) h.asc hr hzr,λw hw=>?_,h.lso⟩,λa ha=>?_,λa ha=>?_,λa ha=>?_,λb _=>by simp only[hat2],λa ha b hb hab=>?_,λa ha b hb hab=>?_,by rw[if_pos hk,az'],λy hy=>.inl hy⟩
  ·rcases(gj (key:=Spk.router) h.asc hr w).mp hw with rfl|⟨hw,_⟩
   ·exact⟨e2.ok,by rw[e2.routers,k2,e2.router]⟩
   ·exact h.spo w hw
  ·simp only[hat a ha];split
   ·rename_i e;rw[e,e2.epoch]
   ·rfl
  ·simp only[hat a ha];split
   ·rename_i e;rw[e,e2.last]
   ·rfl
  ·simp only[hat a ha];split
   ·rename_i e;rw[e,e2.items]
   ·rfl
  ·simp only[hat a ha]
   by_cases ea:a=x.dst
   ·rw[if_pos ea,ea]
    by_cases eb:x.src=b
    ·rw[if_pos ⟨hk,rfl,eb⟩,←eb];exact e2.self k1 hp
    ·rw[u' λq=>eb q.2.2];exact e2.other k1 (Ne.symm eb) (h.peer x3 hb (by rw[←ea];exact hab))
   ·rw[u' ea,u' λq=>ea q.2.1.symm]
  ·simp only[hat2];rw[u' λq=>q.1 hk]
 ·obtain⟨h1,h2⟩:=h.l x3;obtain⟨k1,k2⟩:=h.lso _ h1;obtain⟨e1,e2⟩:=J9 k1 x1 hk h2.symm (.inr (h.room x3));have hao:=e2.ans_ok k1 x1 h2.symm;have hd:aR ((sp,ls),out) x=((sp,ls.set (bn sp x.dst) (hear (atL sp ls x.dst) x).1.1),out++[(hear (atL sp ls x.dst) x).1.2]):=by
   unfold aR;rw[u' hk,if_pos e1]
  rw[hd];have ha:=e2.ans;generalize hz:(hear (atL sp ls x.dst) x).1.1=z at *
  generalize hy:(hear (atL sp ls x.dst) x).1.2=y at *
  have hzr:z.router=x.dst:=e2.router.trans h2;have hr:∃w∈ls,w.router=x.dst:=⟨_,h1,h2⟩
  have hpos:=h.posL x.dst;have hkeys:(ls.set (bn sp x.dst) z).map Lsn.router=ls.map Lsn.router:=by rw[hpos];exact mj (key:=Lsn.router) h.ascL hr hzr
  have hat:∀b∈R,atL sp (ls.set (bn sp x.dst) z) b=if b=x.dst then z else atL sp ls b:=λb hb=>by
   unfold atL;rw[show bn sp b=c7 Lsn.router (ls.set (bn sp x.dst) z) b from eZ (key:=Spk.router) (key':=Lsn.router) (h.spr.trans (h.lsr.symm.trans hkeys.symm)) b,hpos];rw[mA (key:=Lsn.router) (d:=w6) h.ascL hr hzr (by rw[←h.lsr]at hb;exact mem_keys.mp hb)];rw[←hpos,show c7 Lsn.router ls b=c7 Lsn.router ls b from rfl]
   by_cases e:b=x.dst
   ·rw[if_pos e,if_pos e]
   ·rw[u' e,u' e,←h.posL b]
    congr 1
    exact(eZ (key:=Spk.router) (key':=Lsn.router) (h.spr.trans (h.lsr.symm.trans hkeys.symm)) b)
  refine⟨⟨h.len,h.spr,hkeys.trans h.lsr,h.asc,h.spo,λw hw=>?_⟩,λa _=>rfl,λa _=>rfl,λa _=>rfl,λb hb=>?_,λa _ b _ _=>by rw[u' λq=>hk q.1],λa ha' b hb hab=>?_,?_,λw hw=>?_⟩
  ·rw[hpos]at hw
   rcases(gj (key:=Lsn.router) h.ascL hr w).mp hw with rfl|⟨hw,_⟩
   ·refine⟨e2.ok,λq hq=>?_⟩
    rcases(e2.mem q).mp hq with rfl|⟨hq,_⟩
    ·rw[eN (gn k1.2.2.2.2)];exact x2
    ·exact k2 q hq
   ·exact h.lso w hw
  ·simp only[hat b hb];split
   ·rename_i e;rw[e,e2.epoch]
   ·rfl
  ·simp only[hat b hb]
   by_cases eb:b=x.dst
   ·rw[if_pos eb,eb]
    by_cases ea:x.src=a
    ·rw[if_pos ⟨hk,ea,rfl⟩,←ea];exact e2.self k1
    ·rw[u' λq=>ea q.2.1];exact e2.other k1 (Ne.symm ea)
   ·rw[u' eb,u' λq=>eb q.2.2.symm]
  ·rw[u' hk,ha,h2];rfl
  ·rcases L'.mp hw with hw|hw
   ·exact .inl hw
   ·rw[O']at hw;subst hw;exact .inr ⟨hao,by rw[ha];simp only;rw[h2];exact x3,by rw[ha];exact x2⟩
def dr(a b:Int)(x:Sig):Bool:=decide (x.kind≠3∧x.src=a∧x.dst=b)
def gN(a b:Int)(x:Sig):Bool:=decide (x.kind=3∧x.dst=a∧x.src=b)
def nM(a b le:Int):Hrd→List Sig→List Sig
 | _,[]=>[]
 | g,x::l=>jI a b le (aX g x)::nM a b le (aX g x) l
def jK(s:Spk)(p:Per)(l:List Sig):Per:=l.foldl (λp x=>dQ s x p) p
theorem FW{a b:Spk}{x:Sig}{p:Per}(h1:a.epoch=b.epoch)(h2:a.last=b.last):dQ a x p=dQ b x p:=by
 unfold dQ lA;rw[h1,h2]
theorem ta{a b:Spk}(h1:a.epoch=b.epoch)(h2:a.last=b.last):∀{l:List Sig} {p:Per},jK a p l=jK b p l
 | [],_=>rfl
 | x::l,p=>by
  show jK a (dQ a x p) l=jK b (dQ b x p) l;rw[FW h1 h2];exact ta h1 h2
structure Dlvs (R:List Int) (s s':Rnd) (l:List Sig):Prop where
  net:bI R s'.1.1 s'.1.2
  epoch:∀a∈R,(atS s'.1.1 a).epoch=(atS s.1.1 a).epoch
  last:∀a∈R,(atS s'.1.1 a).last=(atS s.1.1 a).last
  items:∀a∈R,(atS s'.1.1 a).items=(atS s.1.1 a).items
  le:∀b∈R,(atL s'.1.1 s'.1.2 b).epoch=(atL s.1.1 s.1.2 b).epoch
  p:∀a∈R,∀b∈R,a≠b→pOf (atS s'.1.1 a).peers b=jK (atS s.1.1 a) (pOf (atS s.1.1 a).peers b) (l.filter (gN a b))
  g:∀a∈R,∀b∈R,a≠b→gOf (atL s'.1.1 s'.1.2 b).heard a=ek (gOf (atL s.1.1 s.1.2 b).heard a) (l.filter (dr a b))
  acks:∀a∈R,∀b∈R,a≠b→s'.2.filter (gN a b)=s.2.filter (gN a b)++nM a b (atL s.1.1 s.1.2 b).epoch (gOf (atL s.1.1 s.1.2 b).heard a) (l.filter (dr a b))
  tells:∀a∈R,∀b∈R,a≠b→s'.2.filter (dr a b)=s.2.filter (dr a b)
  outk:∀y∈s'.2,y∈s.2∨cV R y
theorem j8{R:List Int}:∀{l:List Sig} {s:Rnd},bI R s.1.1 s.1.2→(∀x∈l,cV R x)→Dlvs R s (l.foldl aR s) l
 | [],s,h,_=>⟨h,λ_ _=>rfl,λ_ _=>rfl,λ_ _=>rfl,λ_ _=>rfl,λ_ _ _ _ _=>rfl,λ_ _ _ _ _=>rfl,λ_ _ _ _ _=>by simp[nM],λ_ _ _ _ _=>rfl,λ_ hy=>.inl hy⟩
 | x::l,s,h,hl=>by
  have d:=Az h (hl x (by simp));have r:=j8 (l:=l) d.net λy hy=>hl y (by simp[hy]);rw[ax'];generalize aR s x=s1 at *
  generalize l.foldl aR s1=s2 at *
  refine⟨r.net,λa ha=>(r.epoch a ha).trans (d.epoch a ha),λa ha=>(r.last a ha).trans (d.last a ha),λa ha=>(r.items a ha).trans (d.items a ha),λb hb=>(r.le b hb).trans (d.le b hb),λa ha b hb hab=>?_,λa ha b hb hab=>?_,λa ha b hb hab=>?_,λa ha b hb hab=>?_,λy hy=>?_⟩
  ·rw[r.p a ha b hb hab,d.p a ha b hb hab,ta (d.epoch a ha) (d.last a ha),bI']
   by_cases c:x.kind=3∧x.dst=a∧x.src=b
   ·rw[if_pos c,if_pos (show gN a b x=true from decide_eq_true c)];rfl
   ·rw[u' c,u' (show ¬gN a b x=true from λq=>c (H' q))]
  ·rw[r.g a ha b hb hab,d.g a ha b hb hab,bI']
   by_cases c:x.kind≠3∧x.src=a∧x.dst=b
   ·rw[if_pos c,if_pos (show dr a b x=true from decide_eq_true c)];rfl
   ·rw[u' c,u' (show ¬dr a b x=true from λq=>c (H' q))]
  ·rw[r.acks a ha b hb hab,d.g a ha b hb hab,d.le b hb,d.out,aP',bI']
   by_cases c:x.kind≠3∧x.src=a∧x.dst=b
   ·rw[if_pos c,if_pos (show dr a b x=true from decide_eq_true c),u' c.1];obtain⟨c1,rfl,rfl⟩:=c;simp[nM,jI,gN]
   ·rw[u' c,u' (show ¬dr a b x=true from λq=>c (H' q))]
    by_cases k:x.kind=3
    ·rw[if_pos k];simp
    ·rw[u' k];have:List.filter (gN a b) [jI x.src x.dst (atL s.1.1 s.1.2 x.dst).epoch (aX (gOf (atL s.1.1 s.1.2 x.dst).heard x.src) x)]=[]:=by
      rw[bS'];intro y hy;rw[O']at hy;subst hy;intro q;have q:=H' q;exact c ⟨k,q.2.1,q.2.2⟩
     rw[this,az']
  ·rw[r.tells a ha b hb hab,d.out,aP'];have:List.filter (dr a b) (if x.kind=3 then []else [jI x.src x.dst (atL s.1.1 s.1.2 x.dst).epoch (aX (gOf (atL s.1.1 s.1.2 x.dst).heard x.src) x)])=[]:=by
    rw[bS'];intro y hy
    split at hy
    ·simp at hy
    ·rw[O']at hy;subst hy;intro q;exact(H' q).1 rfl
   rw[this,az']
  ·rcases r.outk y hy with hy|hy
   ·exact d.outk y hy
   ·exact .inr hy
def jm(s:Spk):List Sig:=s.peers.flatMap λp=>(send s p.router).1
def kA(sp:List Spk):List Sig:=sp.flatMap jm
theorem ny{α β:Type}{f:α→List β}{q:β→Bool}{l:List α}(h:∀x∈l,∀y∈f x,q y=false):(l.flatMap f).filter q=[]:=by
 rw[bS'];intro y hy;obtain⟨x,hx,hy⟩:=bQ'.mp hy;rw[h x hx y hy];simp
theorem fG{α β:Type}{f:α→List β}{q:β→Bool}{key:α→Int}:∀{l:List α},(l.map key).Nodup→∀{z:α},z∈l→(∀x∈l,key x≠key z→∀y∈f x,q y=false)→(l.flatMap f).filter q=(f z).filter q
 | x::l,hn,z,hz,h=>by
  rw[ap',aP'];rw[au',bq']at hn
  by_cases e:key x=key z
  ·have:∀w∈l,key w≠key z:=λw hw q=>hn.1 (by rw[e,←q];exact R'.mpr ⟨w,hw,rfl⟩)
   rcases P'.mp hz with rfl|hz
   ·rw[ny λw hw=>h w (by simp[hw]) (this w hw),az']
   ·exact absurd rfl (this z hz)
  ·have hz:z∈l:=by
    rcases P'.mp hz with rfl|hz
    ·exact absurd rfl e
    ·exact hz
   rw[fG hn.2 hz λw hw=>h w (by simp[hw])];have:List.filter q (f x)=[]:=by
    rw[bS'];intro y hy;rw[h x (by simp) e y hy];simp
   rw[this,bA']
theorem vE{R:List Int}{sp:List Spk}{ls:List Lsn}(h:bI R sp ls){a b:Int}(ha:a∈R)(hb:b∈R)(hab:a≠b):(kA sp).filter (dr a b)=(send (atS sp a) b).1:=by
 obtain⟨h1,h2⟩:=h.s ha;have sent:∀s∈sp,∀p∈s.peers,∀y∈(send s p.router).1,TC s p.router y:=λs hs p hp=>(jn (h.spo s hs).1 ⟨p,hp,rfl⟩).2;have hn:(sp.map Spk.router).Nodup:=by rw[h.spr];exact h.nodup
 unfold kA;rw[fG (key:=Spk.router) hn h1 λs hs hne y hy=>by
  obtain⟨p,hp,hy⟩:=bQ'.mp hy;have q:=(sent s hs p hp y hy).src;exact decide_eq_false λc=>hne (by rw[h2,←q,c.2.1])]
 obtain⟨z,hz,hzb⟩:=h.peer ha hb hab;have hpn:((atS sp a).peers.map Per.router).Nodup:=by
  have:=(h.spo _ h1).1.2.2.2.2.2.2;rw[List.Nodup,at'];exact this.imp λq=>by omega
 unfold jm;rw[fG (key:=Per.router) hpn hz λp hp hne y hy=>by
  have q:=(sent _ h1 p hp y hy).dst;exact decide_eq_false λc=>hne (by rw[hzb,←q,c.2.2])]
 rw[hzb,bD'];intro y hy;have q:=sent _ h1 z hz y (by rw[hzb];exact hy);exact decide_eq_true ⟨q.kind,q.src.trans h2,q.dst.trans hzb⟩
theorem sf{R:List Int}{sp:List Spk}{ls:List Lsn}(h:bI R sp ls){x:Sig}(hx:x∈kA sp):∃a∈R,∃b∈R,a≠b∧TC (atS sp a) b x:=by
 obtain⟨s,hs,hx⟩:=bQ'.mp hx;obtain⟨p,hp,hx⟩:=bQ'.mp hx;have q:=(jn (h.spo s hs).1 ⟨p,hp,rfl⟩).2 x hx;have hr:s.router∈R:=by rw[←h.spr];exact R'.mpr ⟨s,hs,rfl⟩
 have hb:p.router∈R.filter λr=>decide (r≠s.router):=by rw[←(h.spo s hs).2];exact R'.mpr ⟨p,hp,rfl⟩
 rw[aA']at hb;refine⟨s.router,hr,p.router,hb.1,Ne.symm (H' hb.2),?_⟩;have:atS sp s.router=s:=lz (key:=Spk.router) h.asc hs;rw[this];exact q
theorem zi{R:List Int}{sp:List Spk}{ls:List Lsn}(h:bI R sp ls)(a b:Int):(kA sp).filter (gN a b)=[]:=by
 rw[bS'];intro x hx q;obtain⟨_,_,_,_,_,s⟩:=sf h hx;exact s.kind (H' q).1
structure Fau where
  kind:Int
  pos:Int
def Fau.v(x:Fau):AV:=.agg [.int x.kind,.int x.pos]
def rj(l late:List Sig)(k:Int)(n:Nat)(x:Sig):List Sig×List Sig:=
 if k=1 then(l.take n++l.drop (n+1),late)
 else if k=2 then(l.take n++[x,x]++l.drop (n+1),late)
 else if k=3 then(l.take n++l.drop (n+1),late++[x])
 else if k=4 then(if n+1<l.length then((l.set n (l.getD (n+1) qY)).set (n+1) x,late)else(l,late))
 else(l,late)
def g9(s:List Sig×List Sig)(f:Fau):List Sig×List Sig:=
 if f.pos<0∨(s.1.length:Int)≤f.pos then s else rj s.1 s.2 f.kind f.pos.toNat (s.1.getD f.pos.toNat qY)
def arr(l:List Sig)(f:List Fau):List Sig×List Sig:=f.foldl g9 (l,[])
theorem LC{P:Sig→Prop}{s:List Sig×List Sig}{f:Fau}(h1:∀x∈s.1,P x)(h2:∀x∈s.2,P x):(∀x∈(g9 s f).1,P x)∧∀x∈(g9 s f).2,P x:=by
 obtain⟨l,late⟩:=s;unfold g9
 split
 ·exact⟨h1,h2⟩
 rename_i c;simp only at c h1 h2 ⊢;have hg:∀n:Nat,n<l.length→P (l.getD n qY):=λn hn=>by
  rw[J',E' hn];exact h1 _ (ay' hn)
 have hx:=hg f.pos.toNat (by omega)
 generalize l.getD f.pos.toNat qY=x at *
 generalize f.pos.toNat=n at *
 have hd:∀y∈l.take n++l.drop (n+1),P y:=λy hy=>by
  rcases L'.mp hy with hy|hy
  ·exact h1 y (T' hy)
  ·exact h1 y (ak' hy)
 unfold rj
 split
 ·exact⟨hd,h2⟩
 split
 ·refine⟨λy hy=>?_,h2⟩;simp only[L',P',aq',or_false]at hy
  rcases hy with(hy|rfl|rfl)|hy
  ·exact h1 y (T' hy)
  ·exact hx
  ·exact hx
  ·exact h1 y (ak' hy)
 split
 ·refine⟨hd,λy hy=>?_⟩
  rcases L'.mp hy with hy|hy
  ·exact h2 y hy
  ·rw[O']at hy;subst hy;exact hx
 split
 ·split
  ·rename_i q;refine⟨λy hy=>?_,h2⟩
   rcases bp' hy with hy|rfl
   ·rcases bp' hy with hy|rfl
    ·exact h1 y hy
    ·exact hg _ q
   ·exact hx
  ·exact⟨h1,h2⟩
 ·exact⟨h1,h2⟩
theorem yr{P:Sig→Prop}:∀{f:List Fau} {s:List Sig×List Sig},(∀x∈s.1,P x)→(∀x∈s.2,P x)→(∀x∈(f.foldl g9 s).1,P x)∧∀x∈(f.foldl g9 s).2,P x
 | [],_,h1,h2=>⟨h1,h2⟩
 | f::fs,s,h1,h2=>by
  obtain⟨a,b⟩:=LC (f:=f) h1 h2;exact yr (f:=fs) a b
theorem uP{P:Sig→Prop}{l:List Sig}{f:List Fau}(h:∀x∈l,P x):(∀x∈(arr l f).1,P x)∧∀x∈(arr l f).2,P x:=yr h (by simp)
def eY(o:Ovl)(now late:List Sig):Ovl:=
 ⟨(now.foldl aR ((o.sp,o.ls),late)).1.1,(now.foldl aR ((o.sp,o.ls),late)).1.2,(now.foldl aR ((o.sp,o.ls),late)).2++kA (now.foldl aR ((o.sp,o.ls),late)).1.1⟩
instance (R:List Int) (s:Spk):Decidable (Ey R s):=by unfold Ey;exact inferInstance
instance (R:List Int) (l:Lsn):Decidable (EM R l):=by unfold EM;exact inferInstance
instance (R:List Int) (x:Sig):Decidable (cV R x):=by unfold cV;exact inferInstance
instance (R:List Int) (sp:List Spk) (ls:List Lsn):Decidable (bI R sp ls):=
 decidable_of_iff (R.length≤12∧sp.map Spk.router=R∧ls.map Lsn.router=R∧(sp.Pairwise λx y=>x.router<y.router)∧(∀s∈sp,Ey R s)∧∀l∈ls,EM R l)
  ⟨λ⟨a,b,c,d,e,f⟩=>⟨a,b,c,d,e,f⟩,λ⟨a,b,c,d,e,f⟩=>⟨a,b,c,d,e,f⟩⟩
instance (o:Ovl):Decidable (bE o):=by unfold bE;exact inferInstance
def roundO(o:Ovl)(f:List Fau):Ovl×Int:=if ¬bE o then(jd,1)else(eY o (arr o.fl f).1 (arr o.fl f).2,0)
def ep(o:Ovl)(a:Int):Int:=(atS o.sp a).epoch
def la(o:Ovl)(a:Int):Int:=(atS o.sp a).last
def it(o:Ovl)(a:Int):List Itm:=(atS o.sp a).items
def pe(o:Ovl)(a b:Int):Per:=pOf (atS o.sp a).peers b
def le(o:Ovl)(b:Int):Int:=(atL o.sp o.ls b).epoch
def he(o:Ovl)(a b:Int):Hrd:=gOf (atL o.sp o.ls b).heard a
def tells(o:Ovl)(a b:Int):List Sig:=o.fl.filter (dr a b)
def acks(o:Ovl)(a b:Int):List Sig:=o.fl.filter (gN a b)
structure LU (R:List Int) (o o':Ovl) (now late:List Sig):Prop where
  net:bI R o'.sp o'.ls
  fl:∀x∈o'.fl,cV R x
  ep:∀a∈R,ep o' a=ep o a
  la:∀a∈R,la o' a=la o a
  it:∀a∈R,it o' a=it o a
  le:∀b∈R,le o' b=le o b
  p:∀a∈R,∀b∈R,a≠b→pe o' a b=jK (atS o.sp a) (pe o a b) (now.filter (gN a b))
  g:∀a∈R,∀b∈R,a≠b→he o' a b=ek (he o a b) (now.filter (dr a b))
  acks:∀a∈R,∀b∈R,a≠b→acks o' a b=late.filter (gN a b)++nM a b (Go.Proofs.YtiobpjoadkfhdaaGreatDoor.le o b) (he o a b) (now.filter (dr a b))
  tells:∀a∈R,∀b∈R,a≠b→tells o' a b=late.filter (dr a b)++(send (atS o'.sp a) b).1
theorem rL{R:List Int}{o:Ovl}(h:bI R o.sp o.ls){now late:List Sig}(h1:∀x∈now,cV R x)(h2:∀x∈late,cV R x):LU R o (eY o now late) now late:=by
 have d:=j8 (l:=now) (s:=((o.sp,o.ls),late)) h h1;unfold eY;generalize now.foldl aR ((o.sp,o.ls),late)=s at *
 refine⟨d.net,λx hx=>?_,d.epoch,d.last,d.items,d.le,d.p,d.g,λa ha b hb hab=>?_,λa ha b hb hab=>?_⟩
 ·rcases L'.mp hx with hx|hx
  ·rcases d.outk x hx with hx|hx
   ·exact h2 x hx
   ·exact hx
  ·obtain⟨a,ha,b,hb,_,q⟩:=sf d.net hx;exact⟨q.ok,by rw[q.src,(d.net.s ha).2];exact ha,by rw[q.dst];exact hb⟩
 ·show List.filter _ (s.2++kA s.1.1)=_;rw[aP',zi d.net,az',d.acks a ha b hb hab];rfl
 ·show List.filter _ (s.2++kA s.1.1)=_;rw[aP',vE d.net ha hb hab,d.tells a ha b hb hab]
section
variable {e n : Int} {its : List Itm} {p : Per} {le : Int} {g : Hrd}
theorem MU{x:Sig}(hx:aG x=0):0≤x.ver:=by
 by_cases hk:x.kind=3
 ·unfold aG at hx
  split at hx
  ·omega
  split at hx
  ·omega
  rename_i h;have h:=(X'.mp h).2;unfold bA at h;rw[u' (by omega),u' (by omega)]at h;exact h.2.1.1
 ·exact(lN hx hk).2.1.1
def oq(e n:Int)(its:List Itm)(l:List Sig):Prop:=∀x∈l,aG x=0∧x.kind≠3∧gA e n its x
def lF(e le:Int)(g:Hrd)(l:List Sig):Prop:=∀x∈l,aG x=0∧iD e le g x
theorem lF.grow{l:List Sig}(h:lF e le g l){g':Hrd}(hg:yL e g g'):lF e le g' l:=λx hx=>⟨(h x hx).1,(h x hx).2.grow hg⟩
theorem oq.ep{l:List Sig}(h:oq e n its l):∀x∈l,x.epoch≤e:=λx hx=>(h x hx).2.2.ep
theorem PI.hears:∀{l:List Sig} {g:Hrd},PI e n its p le g→oq e n its l→PI e n its p le (ek g l)
 | [],_,h,_=>h
 | x::l,g,h,hl=>PI.hears (l:=l) (h.hear (hl x (by simp)).1 (hl x (by simp)).2.1 (hl x (by simp)).2.2) λy hy=>hl y (by simp[hy])
theorem PI.acks{a:Spk}(h1:a.epoch=e)(h2:a.last=n):∀{l:List Sig} {p:Per},PI e n its p le g→lF e le g l→PI e n its (jK a p l) le g
 | [],_,h,_=>h
 | x::l,p,h,hl=>PI.acks h1 h2 (l:=l) (h.ack h1 h2 (hl x (by simp)).2 (MU (hl x (by simp)).1)) λy hy=>hl y (by simp[hy])
theorem DW{a b:Int}(ha:1≤a∧a≤99)(hb:1≤b∧b≤99)(hab:a≠b)(hle:1≤le∧le≤1000000)(hE:e≤1000000) :
  ∀{l:List Sig} {g:Hrd},PI e n its p le g→(∀q:Hrd,PI e n its p le q→q.ver≤1000000→∀x∈l,(aX q x).ver≤1000000)→g.ver≤1000000→oq e n its l→lF e le (ek g l) (nM a b le g l)
 | [],_,_,_,_,_=>λx hx=>by simp[nM]at hx
 | x::l,g,h,hv,hg,hl=>by
  obtain⟨l1,l2,l3⟩:=hl x (by simp);have h':=h.hear l1 l2 l3;have hv':=hv g h hg x (by simp);have r:=DW ha hb hab hle hE (l:=l) h' (λq hq hqv y hy=>hv q hq hqv y (by simp[hy])) hv' λy hy=>hl y (by simp[hy]);intro y hy
  rcases P'.mp hy with rfl|hy
  ·refine⟨DV hb ha (Ne.symm hab) ⟨h'.g1.1,by have:=h'.g1.2;omega⟩ ⟨h'.g2,hv'⟩ hle,?_⟩;exact(h'.answer (r:=b) (q:=a)).grow (ft λz hz=>(hl z (by simp[hz])).2.2.ep)
  ·exact r y hy
theorem Fa{x:Sig}(hx:aG x=0)(hk:x.kind≠3)(h:g.ver≤1000000):(aX g x).ver≤1000000:=by
 have:=(lN hx hk).2.1.2;unfold aX dF eD;split<;>split<;>(try simp only)<;>omega
theorem sZ{a b:Int}:∀{l:List Sig} {g:Hrd},l≠[]→∃i,nM a b le g l=i++[jI a b le (ek g l)]
 | [x],g,_=>⟨[],rfl⟩
 | x::y::l,g,_=>by
  obtain⟨i,hi⟩:=sZ (l:=y::l) (g:=aX g x) (by simp);exact⟨jI a b le (aX g x)::i,by rw[nM,hi];rfl⟩
theorem yA{a b:Int}:∀{l:List Sig} {g:Hrd},∀x∈nM a b le g l,x.pep=le
 | [],_,x,hx=>by simp[nM]at hx
 | y::l,g,x,hx=>by
  rcases P'.mp hx with rfl|hx
  ·rfl
  ·exact yA (l:=l) x hx
theorem uR{a:Spk}:∀{l:List Sig} {p:Per},p.epoch≤le→(∀x∈l,x.pep≤le)→(jK a p l).epoch≤le∧p.epoch≤(jK a p l).epoch
 | [],p,h,_=>⟨h,ai' _⟩
 | x::l,p,h,hl=>by
  have hx:=hl x (by simp);have h':(dQ a x p).epoch≤le∧p.epoch≤(dQ a x p).epoch:=by
   unfold dQ
   split
   ·exact⟨hx,by simp only;omega⟩
   split
   ·exact⟨h,ai' _⟩
   ·exact⟨h,ai' _⟩
  have:=uR (a:=a) (l:=l) h'.1 λy hy=>hl y (by simp[hy]);exact⟨this.1,Int.le_trans h'.2 this.2⟩
theorem LS{a:Spk}{l:List Sig}{p:Per}(hn:l≠[])(h:p.epoch≤le)(hl:∀x∈l,x.pep=le):(jK a p l).epoch=le:=by
 cases l with
 | nil=>exact absurd rfl hn
 | cons x l =>
  have hx:=hl x (by simp);have h':(dQ a x p).epoch=le:=by
   unfold dQ
   split
   ·exact hx
   split
   ·simp only;omega
   ·omega
  have:=uR (a:=a) (l:=l) (p:=dQ a x p) (le:=le) (by omega) λy hy=>Int.le_of_eq (hl y (by simp[hy]));show(jK a (dQ a x p) l).epoch=le;omega
theorem yE{a:Spk}{l m:List Sig}{p:Per}:jK a p (l++m)=jK a (jK a p l) m:=by unfold jK;rw[aW']
theorem qU.hears(hd:qU e n p le g)(h:PI e n its p le g):∀{l:List Sig},oq e n its l→ek g l=g
 | [],_=>rfl
 | x::l,hl=>by
  have:=hd.hear h (hl x (by simp)).2.1 (hl x (by simp)).2.2;show ek (aX g x) l=g;rw[this];exact qU.hears hd h (l:=l) λy hy=>hl y (by simp[hy])
end
structure OI (R:List Int) (o:Ovl):Prop where
  net:bI R o.sp o.ls
  fl:∀x∈o.fl,cV R x
  pi:∀a∈R,∀b∈R,a≠b→PI (ep o a) (la o a) (it o a) (pe o a b) (le o b) (he o a b)
  tell:∀a∈R,∀b∈R,a≠b→oq (ep o a) (la o a) (it o a) (tells o a b)
  ack:∀a∈R,∀b∈R,a≠b→lF (ep o a) (le o b) (he o a b) (acks o a b)
theorem OI.ok{R:List Int}{o:Ovl}(h:OI R o):bE o:=by
 have e:aD o.sp=R:=h.net.spr;exact⟨by rw[e];exact h.net,by rw[e];exact h.fl⟩
theorem OI.mem{R:List Int}{o:Ovl}(h:OI R o){x:Sig}(hx:x∈o.fl){a b:Int}(ha:a∈R)(hb:b∈R)(hab:a≠b) :
  (dr a b x=true→aG x=0∧x.kind≠3∧gA (ep o a) (la o a) (it o a) x)∧(gN a b x=true→aG x=0∧iD (ep o a) (le o b) (he o a b) x):=
 ⟨λq=>h.tell a ha b hb hab x (aA'.mpr ⟨hx,q⟩),λq=>h.ack a ha b hb hab x (aA'.mpr ⟨hx,q⟩)⟩
theorem OI.round{R:List Int}{o:Ovl}(h:OI R o){now late:List Sig}(h1:∀x∈now,x∈o.fl)(h2:∀x∈late,x∈o.fl):OI R (eY o now late)∧LU R o (eY o now late) now late:=by
 have r:=rL h.net (now:=now) (late:=late) (λx hx=>h.fl x (h1 x hx)) λx hx=>h.fl x (h2 x hx);generalize eY o now late=o' at *
 have T:∀a∈R,∀b∈R,a≠b→∀l:List Sig,(∀x∈l,x∈o.fl)→oq (ep o a) (la o a) (it o a) (l.filter (dr a b)):=λa ha b hb hab l hl x hx=>by
  rw[aA']at hx;exact(h.mem (hl x hx.1) ha hb hab).1 hx.2
 have A:∀a∈R,∀b∈R,a≠b→∀l:List Sig,(∀x∈l,x∈o.fl)→lF (ep o a) (le o b) (he o a b) (l.filter (gN a b)):=λa ha b hb hab l hl x hx=>by
  rw[aA']at hx;exact(h.mem (hl x hx.1) ha hb hab).2 hx.2
 have G:∀a∈R,∀b∈R,a≠b→yL (ep o a) (he o a b) (he o' a b):=λa ha b hb hab=>by
  rw[r.g a ha b hb hab];exact ft (T a ha b hb hab now h1).ep
 have P:∀a∈R,∀b∈R,a≠b→PI (ep o a) (la o a) (it o a) (pe o a b) (le o b) (he o' a b):=λa ha b hb hab=>by
  rw[r.g a ha b hb hab];exact(h.pi a ha b hb hab).hears (T a ha b hb hab now h1)
 refine⟨⟨r.net,r.fl,λa ha b hb hab=>?_,λa ha b hb hab=>?_,λa ha b hb hab=>?_⟩,r⟩
 ·rw[r.ep a ha,r.la a ha,r.it a ha,r.le b hb,r.p a ha b hb hab];exact(P a ha b hb hab).acks rfl rfl ((A a ha b hb hab now h1).grow (G a ha b hb hab))
 ·rw[r.tells a ha b hb hab];intro x hx
  rcases L'.mp hx with hx|hx
  ·rw[r.ep a ha,r.la a ha,r.it a ha];exact T a ha b hb hab late h2 x hx
  ·obtain⟨q1,q2⟩:=r.net.s ha;have q:=(jn (r.net.spo _ q1).1 (r.net.peer ha hb hab)).2 x hx;exact⟨q.ok,q.kind,q.tell⟩
 ·rw[r.ep a ha,r.le b hb,r.acks a ha b hb hab];intro x hx
  rcases L'.mp hx with hx|hx
  ·exact((A a ha b hb hab late h2).grow (G a ha b hb hab)) x hx
  ·obtain⟨q1,q2⟩:=h.net.s ha;obtain⟨q3,q4⟩:=h.net.l hb;have k1:=(h.net.spo _ q1).1;have k2:=(h.net.lso _ q3).1;have t:=T a ha b hb hab now h1
   have z:=DW (p:=pe o a b) (a:=a) (b:=b) (by have:=k1.1;omega) (by have:=k2.1;omega) hab k2.2.1 k1.2.1.2 (h.pi a ha b hb hab)
    (l:=now.filter (dr a b)) (λq _ hq y hy=>Fa (t y hy).1 (t y hy).2.1 hq) (Ah k2 a).2.1.2 t
   rw[r.g a ha b hb hab];exact z x hx
structure St1 (o:Ovl) (a b:Int):Prop where
  t:tells o a b=(send (atS o.sp a) b).1
structure St2 (o:Ovl) (a b:Int):Prop extends St1 o a b where
  g:(he o a b).epoch=ep o a
  k:∀x∈acks o a b,x.pep=le o b
  n:acks o a b≠[]
structure St3 (o:Ovl) (a b:Int):Prop extends St1 o a b where
  g:(he o a b).epoch=ep o a
  p:(pe o a b).epoch=le o b
structure St4 (o:Ovl) (a b:Int):Prop extends St1 o a b where
  g:(he o a b).epoch=ep o a
  v:(he o a b).ver=la o a
  p:(pe o a b).epoch=le o b
  a:∃i,acks o a b=i++[jI a b (le o b) (he o a b)]
def St5(o:Ovl)(a b:Int):Prop:=qU (ep o a) (la o a) (pe o a b) (le o b) (he o a b)
def round0(o:Ovl):Ovl:=eY o o.fl []
theorem OI.send{R:List Int}{o:Ovl}(h:OI R o){a b:Int}(ha:a∈R)(hb:b∈R)(hab:a≠b):(send (atS o.sp a) b).1=cw (atS o.sp a) b::aM (atS o.sp a) b (pe o a b).acked 0 (atS o.sp a).items:=by
 obtain⟨q1,q2⟩:=h.net.s ha;rw[(jn (h.net.spo _ q1).1 (h.net.peer ha hb hab)).1];rfl
section
variable {R : List Int} {o : Ovl}
theorem OI.round0(h:OI R o):OI R (round0 o):=(h.round (λ_ hx=>hx) (by simp)).1
theorem OI.r0(h:OI R o):LU R o (Go.Proofs.YtiobpjoadkfhdaaGreatDoor.round0 o) o.fl []:=(h.round (λ_ hx=>hx) (by simp)).2
variable {a b : Int}
theorem OI.st1(h:OI R o)(ha:a∈R)(hb:b∈R)(hab:a≠b):St1 (Go.Proofs.YtiobpjoadkfhdaaGreatDoor.round0 o) a b:=⟨by simpa using h.r0.tells a ha b hb hab⟩
theorem OI.acks0(h:OI R o)(ha:a∈R)(hb:b∈R)(hab:a≠b):acks (Go.Proofs.YtiobpjoadkfhdaaGreatDoor.round0 o) a b=nM a b (le o b) (he o a b) (tells o a b):=by simpa[tells]using h.r0.acks a ha b hb hab
theorem OI.st2(h:OI R o)(ha:a∈R)(hb:b∈R)(hab:a≠b)(s:St1 o a b):St2 (Go.Proofs.YtiobpjoadkfhdaaGreatDoor.round0 o) a b:=by
 have r:=h.r0;have hs:=h.send ha hb hab;have ht:oq (ep o a) (la o a) (it o a) (cw (atS o.sp a) b::aM (atS o.sp a) b (pe o a b).acked 0 (atS o.sp a).items):=by rw[←hs,←s.t];exact h.tell a ha b hb hab
 refine⟨h.st1 ha hb hab,?_,?_,?_⟩
 ·rw[r.g a ha b hb hab,r.ep a ha];show(ek (he o a b) (tells o a b)).epoch=_;rw[s.t,hs];exact xi (h.pi a ha b hb hab).g1.2 rfl λy hy=>ht.ep y (by simp[hy])
 ·rw[h.acks0 ha hb hab,r.le b hb];exact yA
 ·rw[h.acks0 ha hb hab,s.t,hs];simp[nM]
theorem OI.st3(h:OI R o)(ha:a∈R)(hb:b∈R)(hab:a≠b)(s:St2 o a b):St3 (Go.Proofs.YtiobpjoadkfhdaaGreatDoor.round0 o) a b:=by
 have r:=h.r0
 refine⟨h.st1 ha hb hab,?_,?_⟩
 ·rw[r.g a ha b hb hab,r.ep a ha];exact((ft (h.tell a ha b hb hab).ep).now s.g).1
 ·rw[r.p a ha b hb hab,r.le b hb];exact LS s.n (h.pi a ha b hb hab).p1 s.k
theorem OI.st4(h:OI R o)(ha:a∈R)(hb:b∈R)(hab:a≠b)(s:St3 o a b):St4 (Go.Proofs.YtiobpjoadkfhdaaGreatDoor.round0 o) a b:=by
 have r:=h.r0;have hs:=h.send ha hb hab;have hpi:=h.pi a ha b hb hab;have h':=h.round0.pi a ha b hb hab;rw[r.ep a ha,r.la a ha,r.it a ha,r.le b hb]at h';have hg:he (Go.Proofs.YtiobpjoadkfhdaaGreatDoor.round0 o) a b=ek (he o a b) (cw (atS o.sp a) b::aM (atS o.sp a) b (pe o a b).acked 0 (atS o.sp a).items):=by
  rw[r.g a ha b hb hab,←hs,←s.t];rfl
 obtain⟨f1,f2⟩:=hpi.full (s:=atS o.sp a) (to:=b) (acked:=(pe o a b).acked) rfl rfl rfl hpi.g1.2 (hpi.p3 s.p) hg h'.g2 h'.g4
 refine⟨h.st1 ha hb hab,by rw[r.ep a ha];exact f1,by rw[r.la a ha];exact f2,?_,?_⟩
 ·rw[r.p a ha b hb hab,r.le b hb];have q:=uR (a:=atS o.sp a) (l:=o.fl.filter (gN a b)) hpi.p1 λx hx=>(h.ack a ha b hb hab x hx).2.pe;have:=s.p;omega
 ·rw[h.acks0 ha hb hab,r.le b hb,r.g a ha b hb hab];exact sZ (l:=tells o a b) (by rw[s.t,hs];simp)
theorem OI.st5(h:OI R o)(ha:a∈R)(hb:b∈R)(hab:a≠b)(s:St4 o a b):St5 (Go.Proofs.YtiobpjoadkfhdaaGreatDoor.round0 o) a b:=by
 have r:=h.r0;have hpi:=h.pi a ha b hb hab;have hA:=h.ack a ha b hb hab;obtain⟨i,hi⟩:=s.a;have hp:pe (Go.Proofs.YtiobpjoadkfhdaaGreatDoor.round0 o) a b=dQ (atS o.sp a) (jI a b (le o b) (he o a b)) (jK (atS o.sp a) (pe o a b) i):=by
  rw[r.p a ha b hb hab];show jK _ _ (acks o a b)=_;rw[hi,yE];rfl
 rw[hi]at hA;have h1:=hpi.acks (a:=atS o.sp a) rfl rfl (l:=i) λx hx=>hA x (by simp[hx]);have hd:=h1.done_ack (a:=atS o.sp a) (x:=jI a b (le o b) (he o a b)) rfl rfl ⟨s.g,s.v⟩ s.g s.v rfl;rw[←hp]at hd;have h2:=h1.ack (a:=atS o.sp a) rfl rfl (hA (jI a b (le o b) (he o a b)) (by simp)).2 hpi.g2;rw[←hp]at h2;have hh:=hd.hears h2 (h.tell a ha b hb hab);unfold St5;rw[r.ep a ha,r.la a ha,r.le b hb,r.g a ha b hb hab];rw[show ek (he o a b) (o.fl.filter (dr a b))=he o a b from hh];exact hd
end
section
variable {R : List Int} {sp : List Spk} {ls : List Lsn}
structure SetS (R:List Int) (sp:List Spk) (ls:List Lsn) (r:Int) (z:Spk):Prop where
  net:bI R (sp.set (bn sp r) z) ls
  s:∀a∈R,atS (sp.set (bn sp r) z) a=if a=r then z else atS sp a
  l:∀b,atL (sp.set (bn sp r) z) ls b=atL sp ls b
  pos:∀b,bn (sp.set (bn sp r) z) b=bn sp b
theorem bI.setS(h:bI R sp ls){r:Int}(hr:r∈R){z:Spk}(hz:z.router=r)(hok:Ey R z):SetS R sp ls r z:=by
 obtain⟨h1,h2⟩:=h.s hr;have hr':∃w∈sp,w.router=r:=⟨_,h1,h2⟩
 have hkeys:(sp.set (bn sp r) z).map Spk.router=sp.map Spk.router:=mj (key:=Spk.router) h.asc hr' hz;have hpos:∀b,bn (sp.set (bn sp r) z) b=bn sp b:=λb=>eZ (key:=Spk.router) (key':=Spk.router) hkeys b
 refine⟨⟨h.len,hkeys.trans h.spr,h.lsr,hZ (key:=Spk.router) h.asc hr' hz,λw hw=>?_,h.lso⟩,λa ha =>
   mA (key:=Spk.router) (d:=eG) h.asc hr' hz (by rw[←h.spr]at ha;exact mem_keys.mp ha),λb=>by unfold atL;rw[hpos],hpos⟩
 rcases(gj (key:=Spk.router) h.asc hr' w).mp hw with rfl|⟨hw,_⟩
 ·exact hok
 ·exact h.spo w hw
theorem bI.setL(h:bI R sp ls){r:Int}(hr:r∈R){z:Lsn}(hz:z.router=r)(hok:EM R z) :
  bI R sp (ls.set (bn sp r) z)∧∀b∈R,atL sp (ls.set (bn sp r) z) b=if b=r then z else atL sp ls b:=by
 obtain⟨h1,h2⟩:=h.l hr;have hr':∃w∈ls,w.router=r:=⟨_,h1,h2⟩
 have hpos:=h.posL r;have hkeys:(ls.set (bn sp r) z).map Lsn.router=ls.map Lsn.router:=by rw[hpos];exact mj (key:=Lsn.router) h.ascL hr' hz
 refine⟨⟨h.len,h.spr,hkeys.trans h.lsr,h.asc,h.spo,λw hw=>?_⟩,λb hb=>?_⟩
 ·rw[hpos]at hw
  rcases(gj (key:=Lsn.router) h.ascL hr' w).mp hw with rfl|⟨hw,_⟩
  ·exact hok
  ·exact h.lso w hw
 ·have e:=mA (key:=Lsn.router) (d:=w6) h.ascL hr' hz (q:=b) (by rw[←h.lsr]at hb;exact mem_keys.mp hb);rw[←hpos]at e;have e2:bn sp b=c7 Lsn.router (ls.set (bn sp r) z) b:=eZ (key:=Spk.router) (key':=Lsn.router) (h.spr.trans (h.lsr.symm.trans hkeys.symm)) b;unfold atL;rw[e2,e,←e2,h.posL b]
end
def aS(o:Ovl)(r:Int)(w:List Wnt):Ovl×Int:=
 if ¬bE o then(jd,1)else if r ∉ aD o.sp then(jd,4)else if aI false w≠0 then(jd,aI false w)
 else if(ah (av (atS o.sp r).items) w).2≠0 then(jd,(ah (av (atS o.sp r).items) w).2)
 else if(change (atS o.sp r) (ah (av (atS o.sp r).items) w).1).2≠0 then(jd,(change (atS o.sp r) (ah (av (atS o.sp r).items) w).1).2)
 else(⟨o.sp.set (bn o.sp r) (change (atS o.sp r) (ah (av (atS o.sp r).items) w).1).1,o.ls,o.fl⟩,0)
def aB(o:Ovl)(r:Int)(w:List Wnt):Ovl×Int:=
 if ¬bE o then(jd,1)else if r ∉ aD o.sp then(jd,4)
 else if(restart (atS o.sp r) w).2≠0 then(jd,(restart (atS o.sp r) w).2)
 else if(atL o.sp o.ls r).epoch=1000000 then(jd,3)
 else(⟨o.sp.set (bn o.sp r) (restart (atS o.sp r) w).1,o.ls.set (bn o.sp r) ⟨r,(atL o.sp o.ls r).epoch+1,[]⟩,o.fl⟩,0)
structure Chgd (R:List Int) (o o':Ovl) (r:Int) (w:List Wnt):Prop where
  oi:OI R o'
  other:∀a∈R,a≠r→atS o'.sp a=atS o.sp a
  l:∀b,atL o'.sp o'.ls b=atL o.sp o.ls b
  ep:ep o' r=ep o r
  peers:(atS o'.sp r).peers=(atS o.sp r).peers
  fl:o'.fl=o.fl
  chg:Mp (atS o.sp r) (atS o'.sp r) w (ah (av (atS o.sp r).items) w).1
  val:atS o'.sp r=(change (atS o.sp r) (ah (av (atS o.sp r).items) w).1).1
  cz:(change (atS o.sp r) (ah (av (atS o.sp r).items) w).1).2=0
theorem qI{R:List Int}{o:Ovl}(h:OI R o){r:Int}{w:List Wnt}(hc:(aS o r w).2=0):r∈R∧Chgd R o (aS o r w).1 r w:=by
 have e0:aD o.sp=R:=h.net.spr;unfold aS at hc ⊢;rw[u' (not_not_intro h.ok)]at hc ⊢
 by_cases h1:r ∉ aD o.sp
 ·rw[if_pos h1]at hc;simp at hc
 rw[u' h1]at hc ⊢
 by_cases h2:aI false w≠0
 ·rw[if_pos h2]at hc;exact absurd hc h2
 rw[u' h2]at hc ⊢
 by_cases h3:(ah (av (atS o.sp r).items) w).2≠0
 ·rw[if_pos h3]at hc;exact absurd hc h3
 rw[u' h3]at hc ⊢
 by_cases h4:(change (atS o.sp r) (ah (av (atS o.sp r).items) w).1).2≠0
 ·rw[if_pos h4]at hc;exact absurd hc h4
 rw[u' h4];have hr:r∈R:=by rw[←e0];exact X'.mp h1
 have h3:=X'.mp h3;have h4:=X'.mp h4;obtain⟨q1,q2⟩:=h.net.s hr;obtain⟨k1,k2⟩:=h.net.spo _ q1;have hchg:=FI k1 h3 h4;obtain⟨_,f2,f3,f4⟩:=iR h4;have hok:=iS h4;obtain⟨c1,c2,c3,c4⟩:=lm k1.2.2.2.1 k1.2.2.1.1 (fw f2);generalize hz:(change (atS o.sp r) (ah (av (atS o.sp r).items) w).1).1=z at *
 have hz1:z=⟨(atS o.sp r).router,(atS o.sp r).epoch,((ah (av (atS o.sp r).items) w).1.foldl bv ((atS o.sp r).last,(atS o.sp r).items)).1,((ah (av (atS o.sp r).items) w).1.foldl bv ((atS o.sp r).last,(atS o.sp r).items)).2,(atS o.sp r).peers⟩:=by
  rw[←hz,f4]
 have s:=h.net.setS hr (z:=z) (by rw[hz1];exact q2) ⟨hok,by rw[hz1];exact k2⟩;have hself:=s.s r hr;rw[if_pos rfl]at hself;have hoth:∀a∈R,a≠r→atS (o.sp.set (bn o.sp r) z) a=atS o.sp a:=λa ha hne=>by rw[s.s a ha,u' hne]
 refine⟨hr,⟨⟨s.net,h.fl,λa ha b hb hab=>?_,λa ha b hb hab=>?_,λa ha b hb hab=>?_⟩,hoth,s.l,?_,?_,rfl,?_,hself.trans hz.symm,h4⟩⟩
 ·have hp:=h.pi a ha b hb hab;unfold ep la it pe le he at *
  simp only[s.l]
  by_cases e:a=r
  ·subst e;rw[hself,hz1];have hl:cH _ _:=cH.chg (c:=(ah (av (atS o.sp a).items) w).1) hp.last;exact hp.change c2 c4 c1 hl
  ·rw[hoth a ha e];exact hp
 ·have ht:=h.tell a ha b hb hab;unfold ep la it at *
  by_cases e:a=r
  ·subst e;simp only;rw[hself,hz1];exact λx hx=>⟨(ht x hx).1,(ht x hx).2.1,(ht x hx).2.2.change c2⟩
  ·simp only;rw[hoth a ha e];exact ht
 ·have hA:=h.ack a ha b hb hab;unfold ep le he at *
  simp only[s.l]
  by_cases e:a=r
  ·subst e;rw[hself,hz1];exact hA
  ·rw[hoth a ha e];exact hA
 ·show(atS (o.sp.set (bn o.sp r) z) r).epoch=_;rw[hself,hz1];rfl
 ·show(atS (o.sp.set (bn o.sp r) z) r).peers=_;rw[hself,hz1]
 ·show Mp _ (atS (o.sp.set (bn o.sp r) z) r) _ _;rw[hself];exact hchg
structure Rstd (R:List Int) (o o':Ovl) (r:Int) (w:List Wnt):Prop where
  oi:OI R o'
  other:∀a∈R,a≠r→atS o'.sp a=atS o.sp a
  l:∀b∈R,b≠r→atL o'.sp o'.ls b=atL o.sp o.ls b
  lr:atL o'.sp o'.ls r=⟨r,le o r+1,[]⟩
  val:atS o'.sp r=⟨r,ep o r+1,w.length,w.mapIdx eH,(atS o.sp r).peers.map λp=>⟨p.router,0,0⟩⟩
  fl:o'.fl=o.fl
  w:aI false w=0
theorem js{R:List Int}{o:Ovl}(h:OI R o){r:Int}{w:List Wnt}(hc:(aB o r w).2=0):r∈R∧Rstd R o (aB o r w).1 r w:=by
 have e0:aD o.sp=R:=h.net.spr;unfold aB at hc ⊢;rw[u' (not_not_intro h.ok)]at hc ⊢
 by_cases h1:r ∉ aD o.sp
 ·rw[if_pos h1]at hc;simp at hc
 rw[u' h1]at hc ⊢
 by_cases h3:(restart (atS o.sp r) w).2≠0
 ·rw[if_pos h3]at hc;exact absurd hc h3
 rw[u' h3]at hc ⊢
 by_cases h4:(atL o.sp o.ls r).epoch=1000000
 ·rw[if_pos h4]at hc;simp at hc
 rw[u' h4];have hr:r∈R:=by rw[←e0];exact X'.mp h1
 have h3:=X'.mp h3;obtain⟨q1,q2⟩:=h.net.s hr;obtain⟨k1,k2⟩:=h.net.spo _ q1;obtain⟨m1,m2⟩:=h.net.l hr;obtain⟨n1,n2⟩:=h.net.lso _ m1;obtain⟨_,f2,f3,f4⟩:=jr h3;have hok:=kC h3;generalize hz:(restart (atS o.sp r) w).1=z at *
 have hz1:z=⟨r,(atS o.sp r).epoch+1,w.length,w.mapIdx eH,(atS o.sp r).peers.map λp=>⟨p.router,0,0⟩⟩:=by
  rw[←hz,f4,q2]
 have s:=h.net.setS hr (z:=z) (by rw[hz1]) ⟨hok,by rw[hz1];rw[q2]at k2;exact(aV' ..).trans k2⟩;have t:=s.net.setL hr (z:=⟨r,(atL o.sp o.ls r).epoch+1,[]⟩) rfl ⟨⟨by have:=n1.1;rw[m2]at this;exact this,⟨by have:=n1.2.1;simp only;omega,by have:=n1.2.1;simp only;omega⟩,by simp,by simp,by simp⟩,by simp⟩;rw[s.pos r]at t;obtain⟨t1,t2⟩:=t;have hself:=s.s r hr;rw[if_pos rfl]at hself;have hoth:∀a∈R,a≠r→atS (o.sp.set (bn o.sp r) z) a=atS o.sp a:=λa ha hne=>by rw[s.s a ha,u' hne]
 have hlr:=t2 r hr;rw[if_pos rfl]at hlr;have hlo:∀b∈R,b≠r→atL (o.sp.set (bn o.sp r) z) (o.ls.set (bn o.sp r) ⟨r,(atL o.sp o.ls r).epoch+1,[]⟩) b=atL o.sp o.ls b:=λb hb hne=>by rw[t2 b hb,u' hne,s.l]
 refine⟨hr,⟨⟨t1,h.fl,λa ha b hb hab=>?_,λa ha b hb hab=>?_,λa ha b hb hab=>?_⟩,hoth,hlo,hlr,hself.trans hz1,rfl,f2⟩⟩
 ·have hp:=h.pi a ha b hb hab;unfold ep la it pe le he at *
  simp only
  by_cases e:a=r
  ·subst e;rw[hlo b hb (Ne.symm hab),hself,hz1];simp only;have hpb:pOf ((atS o.sp a).peers.map λp=>(⟨p.router,0,0⟩:Per)) b=⟨b,0,0⟩:=by
    obtain⟨z,hz,e⟩:=h.net.peer ha hb hab;have ho:((atS o.sp a).peers.map λp=>(⟨p.router,0,0⟩:Per)).Pairwise λx y=>x.router<y.router:=by
     rw[at'];exact k1.2.2.2.2.2.2
    have:=gL ho (z:=⟨b,0,0⟩) (R'.mpr ⟨z,hz,by rw[e]⟩);exact this
   rw[hpb];have hw:=(bx.mp f2)
   exact hp.restart (by omega) (gU (fw f2) hw.2.2.2.2) (cH.restart w) b (by have:=(h.net.lso _ (h.net.l hb).1).1.2.1;omega)
  ·rw[hoth a ha e]
   by_cases e2:b=r
   ·subst e2;rw[hlr];have hg:gOf ([]:List Hrd) a=⟨a,0,0,[]⟩:=gp List.Pairwise.nil (by simp);simp only;rw[hg];exact hp.lapse a
   ·rw[hlo b hb e2];exact hp
 ·have ht:=h.tell a ha b hb hab;unfold ep la it at *
  simp only
  by_cases e:a=r
  ·subst e;rw[hself,hz1];exact λx hx=>⟨(ht x hx).1,(ht x hx).2.1,(ht x hx).2.2.restart⟩
  ·rw[hoth a ha e];exact ht
 ·have hA:=h.ack a ha b hb hab;unfold ep le he at *
  simp only
  by_cases e:a=r
  ·subst e;rw[hlo b hb (Ne.symm hab),hself,hz1];exact λx hx=>⟨(hA x hx).1,(hA x hx).2.restart⟩
  ·rw[hoth a ha e]
   by_cases e2:b=r
   ·subst e2;rw[hlr];exact λx hx=>⟨(hA x hx).1,(hA x hx).2.lapse⟩
   ·rw[hlo b hb e2];exact hA
def iW(o:Ovl):Prop:=bE o∧∀a∈aD o.sp,∀b∈aD o.sp,a≠b→agree (atS o.sp a) (atL o.sp o.ls b)
def ib(o:Ovl):Prop:=iW o∧∀a∈aD o.sp,∀b∈aD o.sp,a≠b→(pe o a b).epoch=le o b∧(pe o a b).acked=la o a
instance (s:Spk) (l:Lsn):Decidable (agree s l):=by unfold agree;exact inferInstance
instance (o:Ovl):Decidable (iW o):=by unfold iW;exact inferInstance
instance (o:Ovl):Decidable (ib o):=by unfold ib;exact inferInstance
theorem OI.rt{R:List Int}{o:Ovl}(h:OI R o):aD o.sp=R:=h.net.spr
theorem OI.agree{R:List Int}{o:Ovl}(h:OI R o){a b:Int}(ha:a∈R)(hb:b∈R)(hab:a≠b)(hg:(he o a b).epoch=ep o a∧(he o a b).ver=la o a) :
  Go.Proofs.YtiobpjoadkfhdaaGreatDoor.agree (atS o.sp a) (atL o.sp o.ls b):=by
 obtain⟨q1,q2⟩:=h.net.s ha;obtain⟨m1,m2⟩:=h.net.l hb;have hp:=h.pi a ha b hb hab;unfold he ep la it pe le at *
 exact(qU.agree (q:=b) (h.net.spo _ q1).1 (h.net.lso _ m1).1 (by rw[q2];exact hp) (by rw[q2];exact hg)).1
theorem PL{a:Spk}{l:Lsn}(h:agree a l):(gOf l.heard a.router).epoch=a.epoch∧(gOf l.heard a.router).ver=a.last∧(gOf l.heard a.router).items=a.items:=by
 obtain⟨h1,h2,h3,h4,h5,h6⟩:=h;have hat:gOf l.heard a.router=atH l.heard a.router:=by
  unfold atH gOf base;rw[if_pos h3]
 rw[hat];exact⟨h4,h5,h6⟩
theorem OI.settled{R:List Int}{o:Ovl}(h:OI R o):ib o↔∀a∈R,∀b∈R,a≠b→St5 o a b:=by
 unfold ib iW;rw[h.rt]
 constructor
 ·rintro⟨⟨_,h1⟩,h2⟩ a ha b hb hab;obtain⟨g1,g2,_⟩:=PL (h1 a ha b hb hab);rw[(h.net.s ha).2]at g1 g2;exact⟨g1,g2,(h2 a ha b hb hab).1,(h2 a ha b hb hab).2⟩
 ·intro hs;exact⟨⟨h.ok,λa ha b hb hab=>h.agree ha hb hab ⟨(hs a ha b hb hab).ge,(hs a ha b hb hab).gv⟩⟩,λa ha b hb hab=>⟨(hs a ha b hb hab).pe,(hs a ha b hb hab).pa⟩⟩
theorem OI.quiet{R:List Int}{o:Ovl}(h:OI R o):iW (Go.Proofs.YtiobpjoadkfhdaaGreatDoor.round0 (Go.Proofs.YtiobpjoadkfhdaaGreatDoor.round0 (Go.Proofs.YtiobpjoadkfhdaaGreatDoor.round0 (Go.Proofs.YtiobpjoadkfhdaaGreatDoor.round0 o))))∧ib (Go.Proofs.YtiobpjoadkfhdaaGreatDoor.round0 (Go.Proofs.YtiobpjoadkfhdaaGreatDoor.round0 (Go.Proofs.YtiobpjoadkfhdaaGreatDoor.round0 (Go.Proofs.YtiobpjoadkfhdaaGreatDoor.round0 (Go.Proofs.YtiobpjoadkfhdaaGreatDoor.round0 o))))):=by
 have h1:=h.round0;have h2:=h1.round0;have h3:=h2.round0;have h4:=h3.round0;have h5:=h4.round0
 have s4:∀a∈R,∀b∈R,a≠b→St4 (Go.Proofs.YtiobpjoadkfhdaaGreatDoor.round0 (Go.Proofs.YtiobpjoadkfhdaaGreatDoor.round0 (Go.Proofs.YtiobpjoadkfhdaaGreatDoor.round0 (Go.Proofs.YtiobpjoadkfhdaaGreatDoor.round0 o)))) a b:=λa ha b hb hab =>
  h3.st4 ha hb hab (h2.st3 ha hb hab (h1.st2 ha hb hab (h.st1 ha hb hab)))
 refine⟨⟨h4.ok,λa ha b hb hab=>?_⟩,h5.settled.mpr λa ha b hb hab=>h4.st5 ha hb hab (s4 a ha b hb hab)⟩;rw[h4.rt]at ha hb;exact h4.agree ha hb hab ⟨(s4 a ha b hb hab).g,(s4 a ha b hb hab).v⟩
def bX(o:Ovl)(at_ of:Int):List Wnt×Int:=
 if ¬bE o then([],1)else if at_ ∉ aD o.sp∨of ∉ aD o.sp then([],4)
 else if at_=of then(av (atS o.sp of).items,0)else(dq (atL o.sp o.ls at_) of,0)
theorem kD{R:List Int}{o:Ovl}(h:OI R o)(hs:iW o){a b:Int}(ha:a∈R)(hb:b∈R):bX o b a=(av (atS o.sp a).items,0):=by
 unfold bX;rw[u' (not_not_intro h.ok),h.rt,u' (by simp[ha,hb])]
 by_cases e:b=a
 ·rw[if_pos e]
 ·rw[u' e];have q:=hs.2 a (by rw[h.rt];exact ha) b (by rw[h.rt];exact hb) (Ne.symm e);obtain⟨h1,h2,h3,h4,h5,h6⟩:=q;rw[(h.net.s ha).2]at h3 h4 h5 h6;unfold dq;rw[if_pos ⟨h2,h3⟩,h6]
def okR(l:List Int):Prop:=l.length≤12∧(∀r∈l,1≤r∧r≤99)∧l.Pairwise (·<·)
instance (l:List Int):Decidable (okR l):=by unfold okR;exact inferInstance
def kj(l:List Int)(r:Int):Spk:=⟨r,1,0,[],(l.filter λx=>decide (x≠r)).map λx=>⟨x,0,0⟩⟩
def kT(r:Int):Lsn:=⟨r,1,[]⟩
def eB(l:List Int):Ovl:=⟨l.map (kj l),l.map kT,[]⟩
def ez(l:List Int):Ovl×Int:=if okR l then(eB l,0)else(jd,1)
section
variable {l : List Int}
theorem tz(h:okR l){r:Int}(hr:r∈l):Ey l (kj l r):=by
 obtain⟨h1,h2,h3⟩:=h;have hl:(l.filter λx=>decide (x≠r)).length≤12:=aF' (bh' _ _) h1
 refine⟨⟨h2 r hr,⟨ai' 1,show(1:Int)≤1000000 by omega⟩,⟨ai' 0,show(0:Int)≤1000000 by omega⟩,⟨by simp[kj],by simp[kj],by simp[kj]⟩,by simpa[kj]using hl,λp hp=>?_,?_⟩,?_⟩
 ·obtain⟨x,hx,rfl⟩:=R'.mp hp;rw[aA']at hx;exact⟨h2 x hx.1,show ¬x=r by simpa using hx.2,⟨ai' 0,show(0:Int)≤1000000 by omega⟩,⟨ai' 0,ai' 0⟩⟩
 ·show((l.filter λx=>decide (x≠r)).map λx=>(⟨x,0,0⟩:Per)).Pairwise _;rw[at'];exact h3.filter _
 ·show(((l.filter λx=>decide (x≠r)).map λx=>(⟨x,0,0⟩:Per)).map Per.router)=_;rw[aV'];show List.map (λx=>x) _=_
  rw[cr']
  ·rfl
  ·intro x;rfl
theorem O8(h:okR l){r:Int}(hr:r∈l):EM l (kT r):=
 ⟨⟨h.2.1 r hr,⟨ai' 1,show(1:Int)≤1000000 by omega⟩,by simp[kT],by simp[kT],by simp[kT]⟩,by simp[kT]⟩
theorem ij(h:okR l):bI l (eB l).sp (eB l).ls:=by
 refine⟨h.1,?_,?_,?_,λs hs=>?_,λs hs=>?_⟩
 ·show(l.map (kj l)).map Spk.router=l;rw[aV'];exact cr' (λx=>rfl) l
 ·show(l.map kT).map Lsn.router=l;rw[aV'];exact cr' (λx=>rfl) l
 ·show(l.map (kj l)).Pairwise _;rw[at'];exact h.2.2
 ·obtain⟨r,hr,rfl⟩:=R'.mp hs;exact tz h hr
 ·obtain⟨r,hr,rfl⟩:=R'.mp hs;exact O8 h hr
theorem oE(h:okR l){a:Int}(ha:a∈l):atS (eB l).sp a=kj l a:=by
 obtain⟨h1,h2⟩:=(ij h).s ha;obtain⟨r,hr,e⟩:=R'.mp h1;rw[←e]at h2 ⊢;have:r=a:=h2;rw[this]
theorem CK(h:okR l){a:Int}(ha:a∈l):atL (eB l).sp (eB l).ls a=kT a:=by
 obtain⟨h1,h2⟩:=(ij h).l ha;obtain⟨r,hr,e⟩:=R'.mp h1;rw[←e]at h2 ⊢;have:r=a:=h2;rw[this]
theorem OI.new(h:okR l):OI l (eB l):=by
  refine⟨ij h,by simp[eB],λa ha b hb hab=>?_,λa ha b hb hab=>?_,λa ha b hb hab=>?_⟩
  · unfold ep la it pe le he
    rw[oE h ha,CK h hb];have e1:gOf (kT b).heard a=⟨a,0,0,[]⟩:=gp List.Pairwise.nil (by simp[kT]);have e2:pOf (kj l a).peers b=⟨b,0,0⟩:=by
      have ho:(kj l a).peers.Pairwise λx y=>x.router<y.router:=(tz h ha).1.2.2.2.2.2.2;exact gL ho (z:=⟨b,0,0⟩) (R'.mpr ⟨b,aA'.mpr ⟨hb,by simpa using Ne.symm hab⟩,rfl⟩)
    rw[e1,e2];have ok0:aK 0 []:=⟨by simp,by simp,by simp⟩
    exact { e1:=ai' _,n0:=ai' _,io:=ok0,last:=cH.nil,p1:=show(0:Int)≤1 by omega,p2:=ai' _,p3:=λ_=>.inl rfl,g1:=⟨ai' _,show(0:Int)≤1 by omega⟩,g2:=ai' _,g3:=ok0,g4:=λq=>absurd (show(0:Int)=1 from q) (by decide) }
  · intro x hx
    simp[tells,eB]at hx
  · intro x hx
    simp[acks,eB]at hx
end
theorem LD{s:List Sig×List Sig}{f:Fau}:(g9 s f).1.length+(g9 s f).2.length≤s.1.length+s.2.length+1:=by
 obtain⟨l,late⟩:=s;unfold g9
 split
 ·simp only;omega
 rename_i c;simp only at c ⊢;generalize hn:f.pos.toNat=n;have hn2:n<l.length:=by omega
 have hm:min n l.length=n:=by omega
 unfold rj
 repeat' split
 all_goals simp only[Y',aa',bv',Z',aC',List.length_set,hm]
 all_goals omega
theorem qN:∀{f:List Fau} {s:List Sig×List Sig},(f.foldl g9 s).1.length+(f.foldl g9 s).2.length≤s.1.length+s.2.length+f.length
 | [],s=>by simp
 | f::fs,s=>by
  have h1:=LD (s:=s) (f:=f);have h2:=qN (f:=fs) (s:=g9 s f);rw[ax',Z'];omega
theorem uQ{l:List Sig}{f:List Fau}:(arr l f).1.length+(arr l f).2.length≤l.length+f.length:=by
 have:=qN (f:=f) (s:=(l,[]));simpa[arr]using this
theorem xK{s:Rnd}{x:Sig}:(aR s x).2.length≤s.2.length+1:=by
 unfold aR
 repeat' split
 all_goals simp
theorem fO:∀{l:List Sig} {s:Rnd},(l.foldl aR s).2.length≤s.2.length+l.length
 | [],s=>by simp
 | x::l,s=>by
  have h1:=xK (s:=s) (x:=x);have h2:=fO (l:=l) (s:=aR s x);rw[ax',Z'];omega
theorem flat_len{α β:Type}{f:α→List β}{k:Nat}:∀{l:List α},(∀x∈l,(f x).length≤k)→(l.flatMap f).length≤l.length * k
 | [],_=>by simp
 | x::l,h=>by
  have h1:=h x (by simp);have h2:=flat_len (l:=l) λy hy=>h y (by simp[hy]);rw[ap',Y',Z',Nat.succ_mul];omega
theorem jo{s:Spk}{to acked:Int}:∀{r:List Itm} {prev:Int},(aM s to acked prev r).length≤r.length
 | [],_=>by simp[aM]
 | y::r,prev=>by
  have:=jo (s:=s) (to:=to) (acked:=acked) (r:=r) (prev:=y.ver);rw[aM];split<;>simp only[Y',Z',aC']<;>omega
theorem B0{l:List Itm}{n:Int}(h:aK n l):l.length≤99:=by
 have hn:(l.map Itm.grp).Nodup:=h.2.1;have:=nc hn (R:=(List.range 99).map λi:Nat=>(i:Int)+1) λx hx=>by
  obtain⟨y,hy,rfl⟩:=R'.mp hx;have:=(h.1 y hy).2.1;rw[R'];exact⟨(y.grp-1).toNat,by rw[aZ'];omega,by omega⟩
 simpa using this
theorem o9{s:Spk}{to:Int}:(send s to).1.length≤100:=by
 unfold send
 split
 ·simp
 split
 ·simp
 rename_i h _;have:=B0 (X'.mp h).2.2.2.1;simp only[Z'];have h2:=jo (s:=s) (to:=to) (acked:=(pOf s.peers to).acked) (r:=s.items) (prev:=0);have h3:∀ak,(aM s to ak 0 s.items).length≤s.items.length:=λ_=>jo;have:=h3 (s.peers.getD (iJ s.peers to) ⟨0,0,0⟩).acked;omega
theorem rE{R:List Int}{sp:List Spk}{ls:List Lsn}(h:bI R sp ls):(kA sp).length≤14400:=by
 have h1:(kA sp).length≤sp.length * 1200:=flat_len λs hs=>by
  have:(jm s).length≤s.peers.length * 100:=flat_len λp _=>o9;have:=(h.spo s hs).1.2.2.2.2.1;omega
 have h2:sp.length=R.length:=by rw[←h.spr,f']
 have:=h.len;omega
section
variable {R : List Int} {o : Ovl}
theorem OI.roundN_len(h:OI R o){now late:List Sig}(h1:∀x∈now,x∈o.fl)(h2:∀x∈late,x∈o.fl):(eY o now late).fl.length≤now.length+late.length+14400:=by
 have hn:=(h.round h1 h2).1.net;have hs:=rE hn;have hd:=fO (l:=now) (s:=((o.sp,o.ls),late));unfold eY at hs ⊢;simp only[Y']at *
 omega
structure TE (R:List Int) (o o':Ovl) (f:List Fau):Prop where
  oi:OI R o'
  len:o'.fl.length≤o.fl.length+f.length+14400
  val:o'=eY o (arr o.fl f).1 (arr o.fl f).2
  now:∀x∈(arr o.fl f).1,x∈o.fl
  late:∀x∈(arr o.fl f).2,x∈o.fl
theorem OI.roundO(h:OI R o)(f:List Fau):(roundO o f).2=0∧TE R o (roundO o f).1 f:=by
 unfold Go.Proofs.YtiobpjoadkfhdaaGreatDoor.roundO;rw[u' (not_not_intro h.ok)];obtain⟨h1,h2⟩:=uP (P:=λx=>x∈o.fl) (l:=o.fl) (f:=f) λx hx=>hx;refine⟨rfl,(h.round h1 h2).1,?_,rfl,h1,h2⟩;have:=h.roundN_len h1 h2;have:=uQ (l:=o.fl) (f:=f);simp only;omega
theorem OI.roundO_nil(h:OI R o):Go.Proofs.YtiobpjoadkfhdaaGreatDoor.roundO o []=(Go.Proofs.YtiobpjoadkfhdaaGreatDoor.round0 o,0):=by
 unfold Go.Proofs.YtiobpjoadkfhdaaGreatDoor.roundO;rw[u' (not_not_intro h.ok)];rfl
end
def kc(L:List Int)(n:Int):Nat→List Fau→Nat→List Fau×Nat
 | 0,out,p=>(out,p)
 | k+1,out,p=>kc L n k (out++[⟨rng L p 0 5,Mod (aj L (ab L p)) (W (n+2))⟩]) (ab L (ab L p))
def bR(L:List Int)(n:Int)(p:Nat):List Fau×Nat:=kc L n (Mod (aj L p) 4).toNat [] (ab L p)
def kZ(L:List Int):Nat→List Fau→Nat→List Fau×Nat
 | 0,out,p=>(out,p)
 | k+1,out,p=>if 0<Mod (aj L p) 3 then kZ L k (out++[⟨ay [1,1,2,3,4] (aj L (ab L p)),k⟩]) (ab L (ab L p))else kZ L k out (ab L p)
def dU(L:List Int)(n:Int)(p:Nat):List Fau×Nat:=kZ L n.toNat [] p
theorem ob{L:List Int}{n:Int}:∀{k:Nat} {out:List Fau} {p:Nat},(kc L n k out p).1.length=out.length+k
 | 0,out,p=>rfl
 | k+1,out,p=>by rw[kc,ob];simp;omega
theorem eE{L:List Int}{n:Int}{p:Nat}:(bR L n p).1.length≤3:=by
 unfold bR;rw[ob];have:=bt (x:=aj L p) (n:=4) (by omega);simp only[aC'];omega
theorem kY{L:List Int}:∀{k:Nat} {out:List Fau} {p:Nat},(kZ L k out p).1.length≤out.length+k
 | 0,out,p=>V' _
 | k+1,out,p=>by
  rw[kZ]
  split
  ·have:=kY (L:=L) (k:=k) (out:=out++[⟨ay [1,1,2,3,4] (aj L (ab L p)),k⟩]) (p:=ab L (ab L p));simp only[Y',List.length_singleton]at this;omega
  ·have:=kY (L:=L) (k:=k) (out:=out) (p:=ab L p);omega
theorem kX{L:List Int}{n:Int}{p:Nat}:(dU L n p).1.length≤n.toNat:=by
 have:=kY (L:=L) (k:=n.toNat) (out:=[]) (p:=p);simpa[dU]using this
def orO(o:Ovl)(x:Ovl×Int):Ovl:=if x.2≠0 then o else x.1
def gE(L:List Int)(p:Nat)(o:Ovl):Ovl×Nat:=
 if Mod (aj L (ab L p)) 6=0∨Mod (aj L (ab L p)) 6=1 then
  (orO o (aS o (o.sp.getD (Mod (aj L p) o.sp.length).toNat eG).router (dj L (ab L (ab L p))).1),(dj L (ab L (ab L p))).2)
 else if Mod (aj L (ab L p)) 6=2 then
  (orO o (aB o (o.sp.getD (Mod (aj L p) o.sp.length).toNat eG).router (dj L (ab L (ab L p))).1),(dj L (ab L (ab L p))).2)
 else if Mod (aj L (ab L p)) 6=3 then
  (orO o (roundO o (dU L (min o.fl.length 40) (ab L (ab L p))).1),(dU L (min o.fl.length 40) (ab L (ab L p))).2)
 else(orO o (roundO o (bR L o.fl.length (ab L (ab L p))).1),(bR L o.fl.length (ab L (ab L p))).2)
section
variable {R : List Int} {o : Ovl} {L : List Int}
end
theorem Eg:av []=[]:=by decide +kernel
theorem tq{w:List Wnt}(h:w.Pairwise λx y=>x.grp<y.grp)(g:Int):bO (w.mapIdx eH) g=da w g:=by
 have hn:((w.mapIdx eH).map Itm.grp).Nodup:=by
  have e:(w.mapIdx eH).map Itm.grp=w.map Wnt.grp:=by
   refine bd' (by simp) λi h1 h2=>?_;simp[eH]
  rw[e,List.Nodup,at'];exact h.imp λq=>by omega
 by_cases hg:∃x∈w,x.grp=g
 ·obtain⟨x,hx,rfl⟩:=hg;obtain⟨i,hi,e⟩:=ad' hx;have hm:eH i x∈w.mapIdx eH:=List.mem_mapIdx.mpr ⟨i,hi,by rw[e]⟩;have:=BI hn hm;unfold da;rw[iz h hx];exact this
 ·have h1:bO (w.mapIdx eH) g=(1,[]):=BH λx hx=>by
   obtain⟨i,hi,rfl⟩:=List.mem_mapIdx.mp hx;exact λe=>hg ⟨w[i],ay' hi,e⟩
  have h2:aQ w g=⟨1,[]⟩:=gq λx hx e=>hg ⟨x,hx,e⟩;unfold da;rw[h1,h2]
theorem qW{w:List Wnt}(h:aI false w=0):av (w.mapIdx eH)=w:=by
 have hw:=bx.mp h;have ho:=gU (fw h) hw.2.2.2.2;have h1:aK 1000000 (w.mapIdx eH):=⟨λx hx=>by
  obtain⟨⟨a,b⟩,c,d⟩:=ho.1 x hx;have:=hw.1;exact⟨⟨a,by omega⟩,c,d⟩,ho.2⟩
 unfold av;rw[if_pos h1]
 conv=>rhs;rw[oP h]
 exact j4 λi _ _=>tq hw.2.2.2.2 i
def upW(lw:Int→List Wnt)(r:Int)(w:List Wnt)(a:Int):List Wnt:=if a=r then w else lw a
structure LW (R:List Int) (o:Ovl) (k:Int) (lw:Int→List Wnt):Prop where
  oi:OI R o
  wa:∀a∈R,av (it o a)=lw a
  wk:∀a∈R,WOk 7 (lw a)
  bl:∀a∈R,la o a≤6 * k
  be:∀a∈R,ep o a≤k+1
  bq:∀a∈R,le o a≤k+1
section
variable {R : List Int} {o : Ovl} {k : Int} {lw : Int → List Wnt} {r : Int} {w : List Wnt}
theorem LW.change(h:LW R o k lw)(hr:r∈R)(hw:WOk 7 w)(hk:0≤k∧k≤1000):(aS o r w).2=0∧LW R (aS o r w).1 (k+1) (upW lw r w):=by
 obtain⟨q1,q2⟩:=h.oi.net.s hr;obtain⟨k1,k2⟩:=h.oi.net.spo _ q1;have ew:av (atS o.sp r).items=lw r:=h.wa r hr;obtain⟨c1,c2,c3⟩:=AS (h.wk r hr) hw;rw[←ew]at c1 c2 c3;have hl:(atS o.sp r).last≤6 * k:=h.bl r hr;have b:=(lm k1.2.2.2.1 k1.2.2.1.1 (fw c2)).2.2.1;have c4:(Go.Proofs.YtiobpjoadkfhdaaGreatDoor.change (atS o.sp r) (ah (av (atS o.sp r).items) w).1).2=0:=by
  unfold Go.Proofs.YtiobpjoadkfhdaaGreatDoor.change;rw[u' (not_not_intro k1),u' (not_not_intro c2),u' (by omega)]
 have hz:(aS o r w).2=0:=by
  unfold aS;rw[u' (not_not_intro h.oi.ok),u' (by rw[h.oi.rt];exact not_not_intro hr),u' (not_not_intro (hw.err (by omega))),u' (not_not_intro c1),u' (not_not_intro c4)]
 obtain⟨_,d⟩:=qI h.oi hz
 refine⟨hz,d.oi,λa ha=>?_,λa ha=>?_,λa ha=>?_,λa ha=>?_,λa ha=>?_⟩
 ·unfold upW it
  split
  ·rename_i e;subst e;exact d.chg.wants
  ·rename_i e;rw[d.other a ha e];exact h.wa a ha
 ·unfold upW
  split
  ·exact hw
  ·exact h.wk a ha
 ·by_cases e:a=r
  ·subst e;have:=d.chg.last;unfold la;omega
  ·unfold la;rw[d.other a ha e];have:(atS o.sp a).last≤6 * k:=h.bl a ha;omega
 ·by_cases e:a=r
  ·subst e;rw[d.ep];have:=h.be a ha;omega
  ·unfold ep;rw[d.other a ha e];have:(atS o.sp a).epoch≤k+1:=h.be a ha;omega
 ·unfold le;rw[d.l a];have:(atL o.sp o.ls a).epoch≤k+1:=h.bq a ha;omega
theorem LW.restart(h:LW R o k lw)(hr:r∈R)(hw:WOk 7 w)(hk:0≤k∧k≤1000):(aB o r w).2=0∧LW R (aB o r w).1 (k+1) (upW lw r w):=by
 obtain⟨q1,q2⟩:=h.oi.net.s hr;obtain⟨k1,k2⟩:=h.oi.net.spo _ q1;have hwe:aI false w=0:=hw.err (by omega);have he:(atS o.sp r).epoch≤k+1:=h.be r hr;have hq:(atL o.sp o.ls r).epoch≤k+1:=h.bq r hr;have c4:(Go.Proofs.YtiobpjoadkfhdaaGreatDoor.restart (atS o.sp r) w).2=0:=by
  unfold Go.Proofs.YtiobpjoadkfhdaaGreatDoor.restart;rw[u' (not_not_intro k1),u' (not_not_intro hwe),u' (by omega)]
 have hz:(aB o r w).2=0:=by
  unfold aB;rw[u' (not_not_intro h.oi.ok),u' (by rw[h.oi.rt];exact not_not_intro hr),u' (not_not_intro c4),u' (by omega)]
 obtain⟨_,d⟩:=js h.oi hz
 refine⟨hz,d.oi,λa ha=>?_,λa ha=>?_,λa ha=>?_,λa ha=>?_,λa ha=>?_⟩
 ·unfold upW it
  split
  ·rename_i e;subst e;rw[d.val];exact qW hwe
  ·rename_i e;rw[d.other a ha e];exact h.wa a ha
 ·unfold upW
  split
  ·exact hw
  ·exact h.wk a ha
 ·by_cases e:a=r
  ·subst e;unfold la;rw[d.val];have:=hw.len;simp only;omega
  ·unfold la;rw[d.other a ha e];have:(atS o.sp a).last≤6 * k:=h.bl a ha;omega
 ·by_cases e:a=r
  ·subst e;unfold ep;rw[d.val];have:(atS o.sp a).epoch≤k+1:=h.be a ha;unfold ep;simp only;omega
  ·unfold ep;rw[d.other a ha e];have:(atS o.sp a).epoch≤k+1:=h.be a ha;omega
 ·by_cases e:a=r
  ·subst e;unfold le;rw[d.lr];unfold le;simp only;omega
  ·unfold le;rw[d.l a ha e];have:(atL o.sp o.ls a).epoch≤k+1:=h.bq a ha;omega
theorem LW.more(h:LW R o k lw){m:Int}(hm:k≤m):LW R o m lw:=
 ⟨h.oi,h.wa,h.wk,λa ha=>by have:=h.bl a ha;omega,λa ha=>by have:=h.be a ha;omega,λa ha=>by have:=h.bq a ha;omega⟩
theorem LW.roundO(h:LW R o k lw)(f:List Fau):(roundO o f).2=0∧LW R (roundO o f).1 k lw:=by
 obtain⟨h1,d⟩:=h.oi.roundO f;have r:=(h.oi.round d.now d.late).2;rw[←d.val]at r;exact⟨h1,d.oi,λa ha=>by rw[r.it a ha];exact h.wa a ha,h.wk,λa ha=>by rw[r.la a ha];exact h.bl a ha,λa ha=>by rw[r.ep a ha];exact h.be a ha,λa ha=>by rw[r.le a ha];exact h.bq a ha⟩
end
theorem LW.new{l:List Int}(h:okR l):LW l (eB l) 0 λ_=>[]:=by
 have hw:WOk 7 []:=⟨λw hw=>by simp at hw,λw hw=>by simp at hw,λw hw=>by simp at hw,List.Pairwise.nil,by simp⟩
 refine⟨OI.new h,λa ha=>?_,λ_ _=>hw,λa ha=>?_,λa ha=>?_,λa ha=>?_⟩
 ·unfold it;rw[oE h ha];exact Eg
 ·unfold la;rw[oE h ha];exact ai' _
 ·unfold ep;rw[oE h ha];exact ai' _
 ·unfold le;rw[CK h ha];exact ai' _
def inR(x lo hi:Int):Bool:=decide (lo≤x∧x≤hi)
def QC(r:Bool):AV:=.bool r
def J0(x:Int)(lo:Int)(hi:Int):Ax Tryz.prog noS (Bool):=
 (.br 80 (decide (lo≤x)) (.ret (decide (x≤hi)))
(.ret (false)))
theorem inR_p(x lo hi:Int):(J0 x lo hi).vp QC (inR x lo hi):=by
 dsimp only[J0,noS,Ax.vp,Ax.vc];simp only[vcU,rfU,f'];refine⟨λh=>decide_eq_decide.mpr ⟨λq=>⟨h,q⟩,λq=>q.2⟩,λh=>(decide_eq_false λq=>h q.1).symm⟩
def iq(x:Int)(lo:Int)(hi:Int):PC Tryz.prog:=pcO 275 [.k,.k,.k] [.int x,.int lo,.int hi] .k QC (inR x lo hi) (λ_=>⟨(J0 x lo hi),inR_p x lo hi,by kernel_rfl⟩) rfl (by kernel_rfl)
theorem yq{α:Type}(key:α→Int){l:List α}{k:Nat}{x y:α}(hx:l[k]?=some x)(h0:0<k)(hy:l[k-1]?=some y) :
  (l.take (k+1)).Pairwise (λa b=>key a<key b)↔(l.take k).Pairwise (λa b=>key a<key b)∧key y<key x:=by
 rw[al hx,ag'];have hm:y∈l.take k:=by
  have:(l.take k)[k-1]?=some y:=by rw[am',if_pos (by omega)];exact hy
  exact al' this
 constructor
 ·rintro⟨h1,_,h3⟩;exact⟨h1,h3 y hm x (by simp)⟩
 ·rintro⟨h1,h2⟩;refine⟨h1,aH' _ _,λa ha b hb=>?_⟩;rw[O']at hb;subst hb;obtain⟨i,hi,rfl⟩:=ad' ha;rw[aa']at hi;rw[bz'];obtain⟨hk,hyk⟩:=I'.mp hy
  rcases cn' i (k-1)with e|e
  ·have:=ac'.mp h1 i (k-1) (by rw[aa'];omega) (by rw[aa'];omega) e;rw[bz',bz',hyk]at this;omega
  ·have:i=k-1:=by omega
   subst this;rw[hyk];exact h2
theorem sY{α:Type}(key:α→Int){l:List α}{x:α}(hx:l[0]?=some x):(l.take 1).Pairwise (λa b=>key a<key b):=by
 rw[al hx];simp
theorem bH{α:Type}{l:List α}{k:Nat}{x:α}(hx:l[k]?=some x){P:α→Prop}:(∀y∈l.take (k+1),P y)↔(∀y∈l.take k,P y)∧P x:=by
 rw[al hx]
 constructor
 ·intro h;exact⟨λy hy=>h y (List.mem_append_left _ hy),h x (by simp)⟩
 ·rintro⟨h1,h2⟩ y hy
  rcases L'.mp hy with hy|hy
  ·exact h1 y hy
  ·rw[O']at hy;subst hy;exact h2
theorem uS{k:Nat}(h:k≤9223372036854775807):W ((k:Int)-1)=(k:Int)-1:=cf (by omega)
theorem aK.take{n:Int}{l:List Itm}(h:aK n l)(k:Nat):aK n (l.take k):=
 ⟨λx hx=>h.1 x (T' hx),by rw[cf'];exact h.2.1.sublist (cl' _ _),h.2.2.sublist (cl' _ _)⟩
theorem jz{n:Int}{l:List Itm}{k:Nat}{x:Itm}(hx:l[k]?=some x):aK n (l.take (k+1))↔aK n (l.take k)∧mo n x∧(∀y∈l.take k,y.grp≠x.grp)∧(0<k→∀y,l[k-1]?=some y→y.ver<x.ver):=by
 have hn:((l.take (k+1)).map Itm.grp).Nodup↔((l.take k).map Itm.grp).Nodup∧∀y∈l.take k,y.grp≠x.grp:=by
  rw[al hx,List.map_append,List.nodup_append];simp only[au',cc',O',R',bq',aq',not_false_eq_true,List.nodup_nil,and_self,true_and]
  constructor
  ·rintro⟨h1,h2⟩;exact⟨h1,λy hy=>h2 _ ⟨y,hy,rfl⟩ _ rfl⟩
  ·rintro⟨h1,h2⟩;refine⟨h1,?_⟩;rintro _ ⟨y,hy,rfl⟩ _ rfl;exact h2 y hy
 unfold aK;rw[bH hx,hn];cases k with
 | zero =>
  have:(l.take 1).Pairwise λx y=>x.ver<y.ver:=sY Itm.ver hx;simp[this]
 | succ k =>
  obtain⟨y,hy⟩:∃y,l[k]?=some y:=⟨_,E' (by have:=aw hx;omega)⟩
  rw[yq Itm.ver hx (by omega) (by simpa using hy)];simp only[bu',hy,aK',Nat.zero_lt_succ,forall_const,forall_eq']
  constructor
  ·rintro⟨⟨a,b⟩,⟨c,d⟩,e,f⟩;exact⟨⟨a,c,e⟩,b,d,f⟩
  ·rintro⟨⟨a,c,e⟩,b,d,f⟩;exact⟨⟨a,b⟩,⟨c,d⟩,e,f⟩
def wH(l:List Itm)(last:Int):=okL [.sl 4 (l.map Itm.v) false,.int last]
def EQ(l:List Itm)(last:Int)(t0:Int):NF:=⟨[(0,.k,.sl 4 (l.map Itm.v) false),rI 1 last,(8,.k,.sl 4 (l.map Itm.v) false),rI 9 ((l.map Itm.v).length:Int),rI 10 t0],[]⟩
def EP(l:List Itm)(last:Int)(t0:Int)(x1:Itm)(t1:Bool):NF:=⟨[(0,.k,.sl 4 (l.map Itm.v) false),rI 1 last,rI 5 t0,rR 6 0,(8,.k,.sl 4 (l.map Itm.v) false),rI 9 ((l.map Itm.v).length:Int),rI 10 t0,rB 46 t1],[.box (Itm.v x1)]⟩
def EO(l:List Itm)(last:Int)(t0:Int)(x1:Itm)(t2:Int):NF:=⟨[(0,.k,.sl 4 (l.map Itm.v) false),rI 1 last,rI 5 t0,rR 6 0,rI 7 t2,(8,.k,.sl 4 (l.map Itm.v) false),rI 9 ((l.map Itm.v).length:Int),rI 10 t0],[.box (Itm.v x1)]⟩
@[reducible] def wF:Nat→Type
 | 0=>Int
 | 1=>Bool
 | 2=>Int
 | _=>Unit
def wG(r:Bool):AV:=.bool r
def wE(l:List Itm)(last:Int)(I0:Int→Prop)(m0:Int→Nat)(I1:Int→Itm→Bool→Prop)(I2:Int→Itm→Bool→Int→Prop)(m2:Int→Itm→Bool→Int→Nat):Ax Tryz.prog wF (Bool):=
 (.loop 0 (EQ l last) I0 m0 ((0):Int) [] λ(t0:Int) b0 =>
(.br 16 (decide (t0<((l.map Itm.v).length:Int))) (.elI 32 Itm.v l t0 λx1 =>
(.pass (.join 1 (EP l last t0 x1) (λ(t1:Bool)=>I1 t0 x1 t1) (λb1=>(.callP (iq x1.ver 1 last)
(.br 208 (!(inR x1.ver 1 last)) (.bk 1 b1 ((true):Bool) [64])
(.callP (iq x1.grp 1 99)
(.br 304 (!(inR x1.grp 1 99)) (.bk 1 b1 ((true):Bool) [64])
(.callP (lC (⟨x1.mode,x1.srcs⟩:Flt))
(.br 400 ((am (⟨x1.mode,x1.srcs⟩:Flt).mode (⟨x1.mode,x1.srcs⟩:Flt).srcs) != 0) (.bk 1 b1 ((true):Bool) [64])
(.br 448 (decide (0<t0)) (.elI 496 Itm.v l (W (t0-1)) λx2 =>
(.bk 1 b1 ((decide (x1.ver≤x2.ver)):Bool) [64]))
(.bk 1 b1 ((false):Bool) [64]))))))))) λ(t1:Bool) =>
(.br 1 t1 (.ret (false))
(.loop 2 (EO l last t0 x1) (I2 t0 x1 t1) (m2 t0 x1 t1) ((0):Int) [0] λ(t2:Int) b2 =>
(.br 49 (decide (t2<t0)) (.elI 81 Itm.v l t2 λx3 =>
(.br 177 (x3.grp==x1.grp) (.ret (false))
(.bk 2 b2 ((W (t2+1)):Int) [0])))
(.bk 0 b0 ((W (t0+1)):Int) [])))))))
(.ret (true))))
theorem Ju(l:List Itm)(last:Int)(ok:wH l last):∃I0 m0 I1 I2 m2,(wE l last I0 m0 I1 I2 m2).vp wG (cN l last):=by
 simp only[wH,Itm.v,okU,Blk.ok,aU,f']at ok
 refine⟨λt=>∃k:Nat,t=k∧k≤l.length∧aK last (l.take k),λt=>l.length-t.toNat,
  λt x b=>b=false↔mo last x∧(0<t.toNat→∀y,l[t.toNat-1]?=some y→y.ver<x.ver),
  λt x b t2=>∃j:Nat,t2=j∧j≤t.toNat∧∀y∈l.take j,y.grp≠x.grp,λt x b t2=>t.toNat-t2.toNat,?_⟩
 dsimp only[wE,wF,Ax.vp,Ax.vc];simp only[vcU,rfU,f'];have hle:l.length≤9223372036854775807:=ok.1.1;refine⟨⟨0,rfl,by omega,by simp[aK]⟩,?_⟩;rintro _ ⟨k,rfl,hk,hI⟩;simp only[Int.toNat_natCast]
 refine⟨λh1=>⟨by omega,by omega,λx hx=>⟨?_,?_⟩⟩,λh1=>?_⟩
 ·simp only[inR,be',decide_eq_false_iff_not,bT',aM'];have no:∀{q:Prop},¬q→((mo last x→q)→(true=false↔mo last x∧(0<k→∀y,l[k-1]?=some y→y.ver<x.ver))):=λhq hi=>⟨λe=>Bool.noConfusion e,λe=>absurd (hi e.1) hq⟩
  refine⟨λh2=>no h2 λq=>q.1,λh2=>⟨λh3=>no h3 λq=>q.2.1,λh3=>⟨λh4=>no (q:=am x.mode x.srcs=0) (by simpa using h4) λq=>q.2.2,λh4=>⟨λh5=>?_,λh5=>?_⟩⟩⟩⟩
  ·rw[uS (by omega)];have e:((k:Int)-1).toNat=k-1:=by omega
   rw[e];refine⟨by omega,by omega,λy hy=>?_⟩;have h4:am x.mode x.srcs=0:=by simpa using h4
   constructor
   ·intro q;exact⟨⟨h2,h3,h4⟩,λ_ z hz=>by rw[hy]at hz;cases hz;omega⟩
   ·rintro⟨_,q⟩;have:=q (by omega) y hy;omega
  ·exact⟨λ_=>⟨⟨h2,h3,by simpa using h4⟩,λq=>by omega⟩,λ_=>trivial⟩
 ·intro b hb
  refine⟨λe=>(decide_eq_false λq=>?_).symm,λe=>⟨⟨0,rfl,by omega,by simp⟩,?_⟩⟩
  ·subst e;have:=(jz hx).mp (q.take (k+1));exact Bool.noConfusion (hb.mpr ⟨this.2.1,this.2.2.2⟩)
  ·obtain⟨q1,q2⟩:=hb.mp e;rintro _ ⟨j,rfl,hj,hg⟩;simp only[Int.toNat_natCast]
   refine⟨λh3=>⟨by omega,by omega,λy hy=>⟨λe2=>?_,λe2=>?_⟩⟩,λh3=>?_⟩
   ·refine(decide_eq_false λq=>?_).symm;have:=((jz hx).mp (q.take (k+1))).2.2.1 y (by
     have:(l.take k)[j]?=some y:=by rw[am',if_pos (by omega)];exact hy
     exact al' this)
    exact this (by simpa using e2)
   ·rw[ao (n:=k) (by omega) (by omega)];exact⟨⟨j+1,rfl,by omega,(bH hy).mpr ⟨hg,by simpa using e2⟩⟩,by omega⟩
   ·have:j=k:=by omega
    subst this;rw[ao (n:=l.length) (by omega) (by omega)];exact⟨⟨j+1,rfl,by omega,(jz hx).mpr ⟨hI,q1,hg,q2⟩⟩,by omega⟩
 ·rw[G' (by omega)]at hI;exact(decide_eq_true hI).symm
def pM(l:List Itm)(last:Int):PC Tryz.prog:=pcO 163 [(.s 4),.k] [.sl 4 (l.map Itm.v) false,.int last] .k wG (cN l last) (λok=>let ⟨I0,m0,I1,I2,m2,h⟩:=Ju l last ok;⟨_,h,by kernel_rfl⟩) rfl (by kernel_rfl)
def NP(l:List Itm)(x:Itm)(t0:Int×List Itm):NF:=⟨[rR 3 0,rV 5 1,(8,.k,.sl 4 (l.map Itm.v) false),rI 9 ((l.map Itm.v).length:Int),rI 10 t0.1],[.box (Itm.v x),vB 4 Itm.v t0.2 (λ_=>rfl)]⟩
@[reducible] def HT:Nat→Type
 | 0=>Int×List Itm
 | _=>Unit
def HU(r:List Itm):AV:=.sl 4 (r.map Itm.v) false
def HQ(l:List Itm)(x:Itm)(I0:(Int×List Itm)→Prop)(m0:(Int×List Itm)→Nat):Ax Tryz.prog HT ((List Itm)):=
 (.cmdL (.nilT 5 4) (.loop 0 (NP l x) I0 m0 (0,[]) [0,96] λ(t0:Int×List Itm) b0 =>
(.br 18 (decide (t0.1<((l.map Itm.v).length:Int))) (.elI 18 Itm.v l t0.1 λx1 =>
(.br 162 (x1.grp != x.grp) (.apX 210 Itm.v t0.2 [x1] (t0.2.length+1)
(.bk 0 b0 (W (t0.1+1),t0.2++[x1]) [0,210]))
(.bk 0 b0 (W (t0.1+1),t0.2) [0,1])))
(.apX 66 Itm.v t0.2 [x] (t0.2.length+1)
(.fz 66 Itm.v (t0.2++[x]) (λ_=>rfl) (.ret (t0.2++[x])))))))
theorem RD(l:List Itm)(x:Itm)(hl:l.length≤999999):∃I m,(HQ l x I m).vp HU (gC l x):=by
 refine⟨λt=>∃k:Nat,t.1=k∧k≤l.length∧t.2=without x.grp (l.take k),λt=>l.length-t.1.toNat,?_⟩;dsimp only[HQ,HT,Ax.vp,Ax.vc];simp only[vcU,rfU,f'];refine⟨⟨0,rfl,by omega,rfl⟩,?_⟩;rintro⟨_,_⟩ ⟨k,rfl,hk,rfl⟩;simp only[Int.toNat_natCast];have hw:∀k,(without x.grp (l.take k)).length≤l.length:=λk=>by
  unfold without;have:=bh' (λy:Itm=>decide (y.grp≠x.grp)) (l.take k);rw[aa']at this;omega
 have hwk:=hw k
 refine⟨λh1=>⟨by omega,by omega,λy hy=>?_⟩,λh1=>⟨by omega,?_⟩⟩
 ·rw[ao (n:=l.length) (by omega) (by omega)];have e:without x.grp (l.take (k+1))=if y.grp=x.grp then without x.grp (l.take k)else without x.grp (l.take k)++[y]:=by
   rw[al hy];unfold without;rw[aP'];by_cases q:y.grp=x.grp<;>simp[q]
  refine⟨λq=>⟨by omega,⟨k+1,rfl,by omega,?_⟩,by omega⟩,λq=>⟨⟨k+1,rfl,by omega,?_⟩,by omega⟩⟩
  ·rw[e,u' (by simpa using q)]
  ·rw[e,if_pos (by simpa using q)]
 ·rw[G' (by omega)];rfl
def HV(l:List Itm)(x:Itm)(hl:l.length≤999999):PC Tryz.prog:=pcO 159 [(.s 4),(.a [.k,.k,.k,(.s 1)])] [.sl 4 (l.map Itm.v) false,Itm.v x] (.s 4) HU (gC l x) (λ_=>let ⟨I0,m0,h⟩:=RD l x hl;⟨_,h,by kernel_rfl⟩) rfl (by kernel_rfl)
def DD(l:List Itm)(group:Int):=okL [.sl 4 (l.map Itm.v) false,.int group]
def Kl(l:List Itm)(group:Int)(t0:Int):NF:=⟨[rI 1 group,rR 4 0,(7,.k,.sl 4 (l.map Itm.v) false),rI 8 ((l.map Itm.v).length:Int),rI 9 t0],[.box (.agg [.int 0,.sl 0 [] true])]⟩
@[reducible] def DA:Nat→Type
 | 0=>Int
 | _=>Unit
def DB(r:Flt):AV:=Flt.v r
def D9(l:List Itm)(group:Int)(I0:Int→Prop)(m0:Int→Nat):Ax Tryz.prog DA (Flt):=
 (.loop 0 (Kl l group) I0 m0 ((0):Int) [0] λ(t0:Int) b0 =>
(.br 17 (decide (t0<((l.map Itm.v).length:Int))) (.elI 17 Itm.v l t0 λx1 =>
(.br 145 (x1.grp==group) (.ret ((⟨x1.mode,x1.srcs⟩:Flt)))
(.bk 0 b0 ((W (t0+1)):Int) [0])))
(.callP (fe )
(.ret ((⟨1,[]⟩:Flt))))))
theorem Pa(l:List Itm)(g:Int)(ok:DD l g):∃I m,(D9 l g I m).vp DB (⟨(bO l g).1,(bO l g).2⟩:Flt):=by
 simp only[DD,Itm.v,okU,Blk.ok,aU,f']at ok;refine⟨λt=>∃k:Nat,t=k∧k≤l.length∧∀x∈l.take k,x.grp≠g,λt=>l.length-t.toNat,?_⟩;dsimp only[D9,DA,Ax.vp,Ax.vc];simp only[vcU,rfU,f'];have hle:l.length≤9223372036854775807:=ok.1.1;refine⟨⟨0,rfl,by omega,by simp⟩,?_⟩;rintro _ ⟨k,rfl,hk,hI⟩;simp only[Int.toNat_natCast]
 refine⟨λh1=>⟨by omega,by omega,λx hx=>⟨λe=>?_,λe=>?_⟩⟩,λh1=>?_⟩
 ·have:bO l g=(x.mode,x.srcs):=by
   unfold bO;have hf:l.find? (λy=>decide (y.grp=g))=some x:=by
    rw[ch'];obtain⟨hk',hxk⟩:=I'.mp hx;refine⟨by simpa using e,k,hk',hxk,λj hj=>?_⟩;have:=hI l[j] (al' (i:=j) (by rw[am',if_pos hj,E' (by omega)]));simpa using this
   rw[hf]
  rw[this]
 ·rw[ao (n:=l.length) (by omega) (by omega)];exact⟨⟨k+1,rfl,by omega,(bH hx).mpr ⟨hI,by simpa using e⟩⟩,by omega⟩
 ·rw[G' (by omega)]at hI;rw[BH hI]
def DC(l:List Itm)(group:Int):PC Tryz.prog:=pcO 164 [(.s 4),.k] [.sl 4 (l.map Itm.v) false,.int group] (.a [.k,(.s 1)]) DB (⟨(bO l group).1,(bO l group).2⟩:Flt) (λok=>let ⟨I0,m0,h⟩:=Pa l group ok;⟨_,h,by kernel_rfl⟩) rfl (by kernel_rfl)
theorem oC{α:Type}(key:α→Int){l:List α}{k:Nat}{x:α}(hx:l[k]?=some x) :
  (l.take (k+1)).Pairwise (λa b=>key a<key b)↔(l.take k).Pairwise (λa b=>key a<key b)∧(0<k→∀y,l[k-1]?=some y→key y<key x):=by
 cases k with
 | zero=>simp only[sY key hx,List.take_zero,List.Pairwise.nil,true_and,true_iff];intro h;omega
 | succ k =>
  obtain⟨y,hy⟩:∃y,l[k]?=some y:=⟨_,E' (by have:=aw hx;omega)⟩
  rw[yq key hx (by omega) (by simpa using hy)];simp only[bu',hy,aK',Nat.zero_lt_succ,forall_const,forall_eq']
def He(s:Spk):Prop:=(1≤s.router∧s.router≤99)∧(1≤s.epoch∧s.epoch≤1000000)∧(0≤s.last∧s.last≤1000000)∧aK s.last s.items∧s.peers.length≤12
instance (s:Spk):Decidable (He s):=by unfold He;infer_instance
def ow(s:Spk)(k:Nat):Prop:=He s∧(∀p∈s.peers.take k,lY s.router s.last p)∧(s.peers.take k).Pairwise λx y=>x.router<y.router
instance (s:Spk) (k:Nat):Decidable (ow s k):=by unfold ow;infer_instance
theorem eX{s:Spk}{k:Nat}{x:Per}(hx:s.peers[k]?=some x):ow s (k+1)↔ow s k∧lY s.router s.last x∧(0<k→∀y,s.peers[k-1]?=some y→y.router<x.router):=by
 unfold ow;rw[bH hx,oC Per.router hx]
 constructor
 ·rintro⟨a,⟨b,c⟩,d,e⟩;exact⟨⟨a,b,d⟩,c,e⟩
 ·rintro⟨⟨a,b,d⟩,c,e⟩;exact⟨a,⟨b,c⟩,d,e⟩
theorem v8{s:Spk}:ow s s.peers.length↔aW s:=by
 unfold ow He aW;rw[aj']
 constructor
 ·rintro⟨⟨a,b,c,d,e⟩,f,g⟩;exact⟨a,b,c,d,e,f,g⟩
 ·rintro⟨a,b,c,d,e,f,g⟩;exact⟨⟨a,b,c,d,e⟩,f,g⟩
def B4(s:Spk):=okL [Spk.v s]
def Gv(s:Spk)(t0:Bool):NF:=⟨[rR 1 0,rB 3 t0],[.box (Spk.v s)]⟩
def Gu(s:Spk)(t1:Bool×Int):NF:=⟨[rR 1 0,rB 3 t1.1,(33,.k,.sl 3 (s.peers.map Per.v) false),rI 34 ((s.peers.map Per.v).length:Int),rI 35 t1.2],[.box (Spk.v s)]⟩
@[reducible] def B2:Nat→Type
 | 0=>Bool
 | 1=>Bool×Int
 | _=>Unit
def B3(r:Int):AV:=.int r
def B1(s:Spk)(I0:Bool→Prop)(I1:Bool→(Bool×Int)→Prop)(m1:Bool→(Bool×Int)→Nat):Ax Tryz.prog B2 (Int):=
 (.pass (.join 0 (Gv s) (λ(t0:Bool)=>I0 t0) (λb0=>(.callP (iq s.router 1 99)
(.br 96 (inR s.router 1 99) (.callP (iq s.epoch 1 1000000)
(.br 176 (inR s.epoch 1 1000000) (.callP (iq s.last 0 1000000)
(.br 256 (inR s.last 0 1000000) (.callP (pM s.items s.last)
(.br 368 (cN s.items s.last) (.bk 0 b0 ((decide (((s.peers.map Per.v).length:Int)≤12)):Bool) [0])
(.bk 0 b0 ((false):Bool) [0])))
(.bk 0 b0 ((false):Bool) [0])))
(.bk 0 b0 ((false):Bool) [0])))
(.bk 0 b0 ((false):Bool) [0])))) λ(t0:Bool) =>
(.loop 1 (Gu s) (I1 t0) (m1 t0) (t0,0) [0] λ(t1:Bool×Int) b1 =>
(.br 17 (decide (t1.2<((s.peers.map Per.v).length:Int))) (.elI 33 Per.v s.peers t1.2 λx1 =>
(.br 145 t1.1 (.callP (iq x1.router 1 99)
(.br 225 (inR x1.router 1 99) (.br 337 (x1.router != s.router) (.callP (iq x1.epoch 0 1000000)
(.br 417 (inR x1.epoch 0 1000000) (.callP (iq x1.acked 0 s.last)
(.br 529 (inR x1.acked 0 s.last) (.br 577 (t1.2==0) (.bk 1 b1 (true,W (t1.2+1)) [0])
(.elI 641 Per.v s.peers (W (t1.2-1)) λx2 =>
(.bk 1 b1 (decide (x2.router<x1.router),W (t1.2+1)) [0])))
(.bk 1 b1 (false,W (t1.2+1)) [0])))
(.bk 1 b1 (false,W (t1.2+1)) [0])))
(.bk 1 b1 (false,W (t1.2+1)) [0]))
(.bk 1 b1 (false,W (t1.2+1)) [0])))
(.bk 1 b1 (false,W (t1.2+1)) [0])))
(.br 49 (!t1.1) (.ret (1))
(.ret (0)))))))
theorem Mx(s:Spk)(ok:B4 s):∃I0 I1 m1,(B1 s I0 I1 m1).vp B3 (cI s):=by
 unfold B4 at ok;refine⟨λb=>b=decide (He s),λb t=>∃k:Nat,t.2=k∧k≤s.peers.length∧t.1=decide (ow s k),λb t=>s.peers.length-t.2.toNat,?_⟩;dsimp only[B1,B2,Ax.vp,Ax.vc];simp only[vcU,rfU,f'];have hle:s.peers.length≤9223372036854775807:=by
  have h:=ok;simp only[Spk.v,RH,AV.ok,okL,f',dc]at h;omega
 simp only[inR,cN,aM',decide_eq_false_iff_not]
 refine⟨⟨λh1=>⟨λh2=>⟨λh3=>⟨λh4=>?_,λh4=>?_⟩,λh3=>?_⟩,λh2=>?_⟩,λh1=>?_⟩,?_⟩
 ·exact decide_eq_decide.mpr ⟨λq=>⟨h1,h2,h3,h4,by omega⟩,λq=>by have:=q.2.2.2.2;omega⟩
 ·exact(decide_eq_false λq=>h4 q.2.2.2.1).symm
 ·exact(decide_eq_false λq=>h3 q.2.2.1).symm
 ·exact(decide_eq_false λq=>h2 q.2.1).symm
 ·exact(decide_eq_false λq=>h1 q.1).symm
 ·rintro _ rfl;refine⟨⟨0,rfl,by omega,decide_eq_decide.mpr (by simp[ow])⟩,?_⟩;rintro⟨_,_⟩ ⟨k,rfl,hk,rfl⟩;simp only[Int.toNat_natCast]
  refine⟨λh1=>⟨by omega,by omega,λx hx=>?_⟩,λh1=>?_⟩
  ·rw[ao (n:=s.peers.length) (by omega) (by omega)]
   have no:∀{q:Prop},¬q→(ow s (k+1)→q)→(∃k_1:Nat,((k+1:Nat):Int)=k_1∧k_1≤s.peers.length∧false=decide (ow s k_1))∧s.peers.length-((k+1:Nat):Int).toNat<s.peers.length-k:=λhq hi =>
    ⟨⟨k+1,rfl,by omega,(decide_eq_false λq=>hq (hi q)).symm⟩,by omega⟩
   simp only[aM',decide_eq_false_iff_not]
   refine⟨λa0=>⟨λa1=>⟨λa2=>⟨λa3=>⟨λa4=>⟨λa5=>?_,λa5=>?_⟩,λa4=>?_⟩,λa3=>?_⟩,λa2=>?_⟩,λa1=>?_⟩,λa0=>?_⟩
   ·have e:k=0:=by simpa using a5
    subst e;refine⟨⟨1,rfl,by omega,(decide_eq_true ((eX hx).mpr ⟨a0,⟨a1,by simpa using a2,a3,a4⟩,λq=>by omega⟩)).symm⟩,by omega⟩
   ·have e:0<k:=by
     rcases Nat.eq_zero_or_pos k with q|q
     ·subst q;simp at a5
     ·exact q
    rw[uS (by omega)];have e2:((k:Int)-1).toNat=k-1:=by omega
    rw[e2];refine⟨by omega,by omega,λy hy=>⟨⟨k+1,rfl,by omega,decide_eq_decide.mpr ?_⟩,by omega⟩⟩;rw[eX hx];exact⟨λq=>⟨a0,⟨a1,by simpa using a2,a3,a4⟩,λ_ z hz=>by rw[hy]at hz;cases hz;exact q⟩,λq=>q.2.2 e y hy⟩
   ·exact no a4 λq=>((eX hx).mp q).2.1.2.2.2
   ·exact no a3 λq=>((eX hx).mp q).2.1.2.2.1
   ·exact no (q:=x.router≠s.router) (by simpa using a2) λq=>((eX hx).mp q).2.1.2.1
   ·exact no a1 λq=>((eX hx).mp q).2.1.1
   ·exact no a0 λq=>((eX hx).mp q).1
  ·have e:k=s.peers.length:=by omega
   subst e;have hv:cI s=if aW s then 0 else 1:=rfl
   rw[hv]
   by_cases q:aW s
   ·have:=v8.mpr q;rw[if_pos q];simp[this]
   ·have:¬ow s s.peers.length:=λw=>q (v8.mp w);rw[u' q];simp[this]
def jR(s:Spk):PC Tryz.prog:=pcO 154 [(.a [.k,.k,.k,(.s 4),(.s 3)])] [Spk.v s] .k B3 (cI s) (λok=>let ⟨I0,I1,m1,h⟩:=Mx s ok;⟨_,h,by kernel_rfl⟩) rfl (by kernel_rfl)
def Jc(l:Lsn):Prop:=(1≤l.router∧l.router≤99)∧(1≤l.epoch∧l.epoch≤1000000)∧l.heard.length≤12
instance (l:Lsn):Decidable (Jc l):=by unfold Jc;infer_instance
def o7(l:Lsn)(k:Nat):Prop:=Jc l∧(∀p∈l.heard.take k,pT l.router p)∧(l.heard.take k).Pairwise λx y=>x.router<y.router
instance (l:Lsn) (k:Nat):Decidable (o7 l k):=by unfold o7;infer_instance
theorem eC{s:Lsn}{k:Nat}{x:Hrd}(hx:s.heard[k]?=some x):o7 s (k+1)↔o7 s k∧pT s.router x∧(0<k→∀y,s.heard[k-1]?=some y→y.router<x.router):=by
 unfold o7;rw[bH hx,oC Hrd.router hx]
 constructor
 ·rintro⟨a,⟨b,c⟩,d,e⟩;exact⟨⟨a,b,d⟩,c,e⟩
 ·rintro⟨⟨a,b,d⟩,c,e⟩;exact⟨a,⟨b,c⟩,d,e⟩
theorem wz{s:Lsn}:o7 s s.heard.length↔bY s:=by
 unfold o7 Jc bY;rw[aj']
 constructor
 ·rintro⟨⟨a,b,e⟩,f,g⟩;exact⟨a,b,e,f,g⟩
 ·rintro⟨a,b,e,f,g⟩;exact⟨⟨a,b,e⟩,f,g⟩
def BD(l:Lsn):=okL [Lsn.v l]
def GK(l:Lsn)(t0:Bool):NF:=⟨[rR 1 0,rB 3 t0],[.box (Lsn.v l)]⟩
def GJ(l:Lsn)(t1:Bool×Int):NF:=⟨[rR 1 0,rB 3 t1.1,(21,.k,.sl 4 (l.heard.map Hrd.v) false),rI 22 ((l.heard.map Hrd.v).length:Int),rI 23 t1.2],[.box (Lsn.v l)]⟩
@[reducible] def BB:Nat→Type
 | 0=>Bool
 | 1=>Bool×Int
 | _=>Unit
def BC(r:Int):AV:=.int r
def BA(l:Lsn)(I0:Bool→Prop)(I1:Bool→(Bool×Int)→Prop)(m1:Bool→(Bool×Int)→Nat):Ax Tryz.prog BB (Int):=
 (.pass (.join 0 (GK l) (λ(t0:Bool)=>I0 t0) (λb0=>(.callP (iq l.router 1 99)
(.br 96 (inR l.router 1 99) (.callP (iq l.epoch 1 1000000)
(.br 176 (inR l.epoch 1 1000000) (.bk 0 b0 ((decide (((l.heard.map Hrd.v).length:Int)≤12)):Bool) [0])
(.bk 0 b0 ((false):Bool) [0])))
(.bk 0 b0 ((false):Bool) [0])))) λ(t0:Bool) =>
(.loop 1 (GJ l) (I1 t0) (m1 t0) (t0,0) [0] λ(t1:Bool×Int) b1 =>
(.br 17 (decide (t1.2<((l.heard.map Hrd.v).length:Int))) (.elI 33 Hrd.v l.heard t1.2 λx1 =>
(.br 145 t1.1 (.callP (iq x1.router 1 99)
(.br 225 (inR x1.router 1 99) (.br 337 (x1.router != l.router) (.callP (iq x1.epoch 1 1000000)
(.br 417 (inR x1.epoch 1 1000000) (.callP (iq x1.ver 0 1000000)
(.br 497 (inR x1.ver 0 1000000) (.callP (pM x1.items x1.ver)
(.br 609 (cN x1.items x1.ver) (.br 657 (t1.2==0) (.bk 1 b1 (true,W (t1.2+1)) [0])
(.elI 721 Hrd.v l.heard (W (t1.2-1)) λx2 =>
(.bk 1 b1 (decide (x2.router<x1.router),W (t1.2+1)) [0])))
(.bk 1 b1 (false,W (t1.2+1)) [0])))
(.bk 1 b1 (false,W (t1.2+1)) [0])))
(.bk 1 b1 (false,W (t1.2+1)) [0])))
(.bk 1 b1 (false,W (t1.2+1)) [0]))
(.bk 1 b1 (false,W (t1.2+1)) [0])))
(.bk 1 b1 (false,W (t1.2+1)) [0])))
(.br 49 (!t1.1) (.ret (1))
(.ret (0)))))))
theorem M0(s:Lsn)(ok:BD s):∃I0 I1 m1,(BA s I0 I1 m1).vp BC (gB s):=by
 unfold BD at ok;refine⟨λb=>b=decide (Jc s),λb t=>∃k:Nat,t.2=k∧k≤s.heard.length∧t.1=decide (o7 s k),λb t=>s.heard.length-t.2.toNat,?_⟩;dsimp only[BA,BB,Ax.vp,Ax.vc];simp only[vcU,rfU,f'];have hle:s.heard.length≤9223372036854775807:=by
  have h:=ok;simp only[Lsn.v,hrds,AV.ok,okL,f',dc]at h;omega
 simp only[inR,cN,aM',decide_eq_false_iff_not]
 refine⟨⟨λh1=>⟨λh2=>?_,λh2=>?_⟩,λh1=>?_⟩,?_⟩
 ·exact decide_eq_decide.mpr ⟨λq=>⟨h1,h2,by omega⟩,λq=>by have:=q.2.2;omega⟩
 ·exact(decide_eq_false λq=>h2 q.2.1).symm
 ·exact(decide_eq_false λq=>h1 q.1).symm
 ·rintro _ rfl;refine⟨⟨0,rfl,by omega,decide_eq_decide.mpr (by simp[o7])⟩,?_⟩;rintro⟨_,_⟩ ⟨k,rfl,hk,rfl⟩;simp only[Int.toNat_natCast]
  refine⟨λh1=>⟨by omega,by omega,λx hx=>?_⟩,λh1=>?_⟩
  ·rw[ao (n:=s.heard.length) (by omega) (by omega)]
   have no:∀{q:Prop},¬q→(o7 s (k+1)→q)→(∃k_1:Nat,((k+1:Nat):Int)=k_1∧k_1≤s.heard.length∧false=decide (o7 s k_1))∧s.heard.length-((k+1:Nat):Int).toNat<s.heard.length-k:=λhq hi =>
    ⟨⟨k+1,rfl,by omega,(decide_eq_false λq=>hq (hi q)).symm⟩,by omega⟩
   simp only[aM',decide_eq_false_iff_not]
   refine⟨λa0=>⟨λa1=>⟨λa2=>⟨λa3=>⟨λa4=>⟨λb4=>⟨λa5=>?_,λa5=>?_⟩,λb4=>?_⟩,λa4=>?_⟩,λa3=>?_⟩,λa2=>?_⟩,λa1=>?_⟩,λa0=>?_⟩
   ·have e:k=0:=by simpa using a5
    subst e;refine⟨⟨1,rfl,by omega,(decide_eq_true ((eC hx).mpr ⟨a0,⟨a1,by simpa using a2,a3,a4,b4⟩,λq=>by omega⟩)).symm⟩,by omega⟩
   ·have e:0<k:=by
     rcases Nat.eq_zero_or_pos k with q|q
     ·subst q;simp at a5
     ·exact q
    rw[uS (by omega)];have e2:((k:Int)-1).toNat=k-1:=by omega
    rw[e2];refine⟨by omega,by omega,λy hy=>⟨⟨k+1,rfl,by omega,decide_eq_decide.mpr ?_⟩,by omega⟩⟩;rw[eC hx];exact⟨λq=>⟨a0,⟨a1,by simpa using a2,a3,a4,b4⟩,λ_ z hz=>by rw[hy]at hz;cases hz;exact q⟩,λq=>q.2.2 e y hy⟩
   ·exact no b4 λq=>((eC hx).mp q).2.1.2.2.2.2
   ·exact no a4 λq=>((eC hx).mp q).2.1.2.2.2.1
   ·exact no a3 λq=>((eC hx).mp q).2.1.2.2.1
   ·exact no (q:=x.router≠s.router) (by simpa using a2) λq=>((eC hx).mp q).2.1.2.1
   ·exact no a1 λq=>((eC hx).mp q).2.1.1
   ·exact no a0 λq=>((eC hx).mp q).1
  ·have e:k=s.heard.length:=by omega
   subst e;have hv:gB s=if bY s then 0 else 1:=rfl
   rw[hv]
   by_cases q:bY s
   ·have:=wz.mpr q;rw[if_pos q];simp[this]
   ·have:¬o7 s s.heard.length:=λw=>q (wz.mp w);rw[u' q];simp[this]
def th(l:Lsn):PC Tryz.prog:=pcO 156 [(.a [.k,.k,(.s 4)])] [Lsn.v l] .k BC (gB l) (λok=>let ⟨I0,I1,m1,h⟩:=M0 l ok;⟨_,h,by kernel_rfl⟩) rfl (by kernel_rfl)
def Ob(router:Int)(epoch:Int)(peers:List Int)(t0:Int×List Per):NF:=⟨[rR 6 0,rR 8 1,(19,.k,.sl 1 (peers.map AV.int) false),rI 20 ((peers.map AV.int).length:Int),rI 21 t0.1],[.box (.agg [.int 0,.int 0,.int 0,.sl 0 [] true,.sl 0 [] true]),.box (.agg [.int router,.int epoch,.int 0,.sl 0 [] true,.vec 2]),vB 3 Per.v t0.2 (λ_=>rfl)]⟩
@[reducible] def It:Nat→Type
 | 0=>Int×List Per
 | _=>Unit
def Iu(r:Spk×Int):AV:=.tup [Spk.v r.1,.int r.2]
def Is(router:Int)(epoch:Int)(peers:List Int)(I0:(Int×List Per)→Prop)(m0:(Int×List Per)→Nat):Ax Tryz.prog It (Spk×Int):=
 (.br 160 (decide (12<((peers.map AV.int).length:Int))) (.ret ((⟨0,0,0,[],[]⟩:Spk),1))
(.cmdL (.nilB 80 4 3) (.loop 0 (Ob router epoch peers) I0 m0 (0,[]) [0,80,208] λ(t0:Int×List Per) b0 =>
(.br 19 (decide (t0.1<((peers.map AV.int).length:Int))) (.elI 19 AV.int peers t0.1 λx1 =>
(.apX 147 Per.v t0.2 [(⟨x1,0,0⟩:Per)] (t0.2.length+1)
(.bk 0 b0 (W (t0.1+1),t0.2++[(⟨x1,0,0⟩:Per)]) [0,1,147])))
(.callP (jR (⟨router,epoch,0,[],t0.2⟩:Spk))
(.say (ck (c9 [(t0.2.map Per.v)])) (.br 99 ((cI (⟨router,epoch,0,[],t0.2⟩:Spk)) != 0) (.ret ((⟨0,0,0,[],[]⟩:Spk),cI (⟨router,epoch,0,[],t0.2⟩:Spk)))
(.fz 2 Per.v t0.2 (λ_=>rfl) (.ret ((⟨router,epoch,0,[],t0.2⟩:Spk),0))))))))))
theorem Sa(r k:Int)(p:List Int):∃I m,(Is r k p I m).vp Iu (new r k p):=by
 refine⟨λt=>∃j:Nat,t.1=j∧j≤p.length∧t.2=(p.take j).map λx=>⟨x,0,0⟩,λt=>p.length-t.1.toNat,?_⟩;dsimp only[Is,It,Ax.vp,Ax.vc];simp only[vcU,rfU,f'];have hn:new r k p=if aW ⟨r,k,0,[],p.map λx=>⟨x,0,0⟩⟩then(⟨r,k,0,[],p.map λx=>⟨x,0,0⟩⟩,0)else(eG,1):=rfl
 refine⟨λh=>?_,λh=>⟨⟨0,rfl,by omega,rfl⟩,?_⟩⟩
 ·rw[hn,u']
  ·rfl
  ·intro q;have:=q.2.2.2.2.1;simp only[f']at this;omega
 ·rintro⟨_,_⟩ ⟨j,rfl,hj,rfl⟩;simp only[Int.toNat_natCast]
  refine⟨λh1=>⟨by omega,by omega,λx hx=>⟨by simp;omega,⟨j+1,?_,by omega,?_⟩,?_⟩⟩,λh1=>⟨nT (ae (λ_=>rfl) _),?_⟩⟩
  ·rw[ao (n:=p.length) (by omega) (by omega)]
  ·rw[al hx,List.map_append];rfl
  ·rw[ao (n:=p.length) (by omega) (by omega)];omega
  ·rw[G' (by omega),hn];have hv:cI ⟨r,k,0,[],p.map λx=>⟨x,0,0⟩⟩=if aW ⟨r,k,0,[],p.map λx=>⟨x,0,0⟩⟩then 0 else 1:=rfl
   rw[hv]
   by_cases q:aW ⟨r,k,0,[],p.map λx=>⟨x,0,0⟩⟩
   ·rw[if_pos q,if_pos q];simp
   ·rw[u' q,u' q];simp[eG]
def Sb(router:Int)(epoch:Int)(peers:List Int):PC Tryz.prog:=pcO 131 [.k,.k,(.s 1)] [.int router,.int epoch,.sl 1 (peers.map AV.int) false] (.a [(.a [.k,.k,.k,(.s 4),(.s 3)]),.k]) Iu (new router epoch peers) (λ_=>let ⟨I0,m0,h⟩:=Sa router epoch peers;⟨_,h,by kernel_rfl⟩) rfl (by kernel_rfl)
def vJ(s:Spk)(wants:List Wnt)(t0:Int×List Itm):NF:=⟨[rR 2 0,rR 4 1,rR 8 2,(37,.k,.sl 3 (wants.map Wnt.v) false),rI 38 ((wants.map Wnt.v).length:Int),rI 39 t0.1],[.box (Spk.v s),.box (.agg [.int 0,.int 0,.int 0,.sl 0 [] true,.sl 0 [] true]),.box (.agg [.int s.router,.int (W (s.epoch+1)),.int ((wants.map Wnt.v).length:Int),.vec 3,.sl 0 [] true]),vB 4 Itm.v t0.2 (λ_=>rfl)]⟩
def vI(s:Spk)(wants:List Wnt)(t0:Int×List Itm)(t1:Int×List Per):NF:=⟨[rR 4 0,rR 8 1,(58,.k,.sl 3 (s.peers.map Per.v) false),rI 59 ((s.peers.map Per.v).length:Int),rI 60 t1.1],[.box (.agg [.int 0,.int 0,.int 0,.sl 0 [] true,.sl 0 [] true]),.box (.agg [.int s.router,.int (W (s.epoch+1)),.int ((wants.map Wnt.v).length:Int),.vec 2,.vec 3]),vB 4 Itm.v t0.2 (λ_=>rfl),vB 3 Per.v t1.2 (λ_=>rfl)]⟩
@[reducible] def po:Nat→Type
 | 0=>Int×List Itm
 | 1=>Int×List Per
 | _=>Unit
def pq(r:Spk×Int):AV:=.tup [Spk.v r.1,.int r.2]
def pn(s:Spk)(wants:List Wnt)(I0:(Int×List Itm)→Prop)(m0:(Int×List Itm)→Nat)(I1:Int×List Itm→(Int×List Per)→Prop)(m1:Int×List Itm→(Int×List Per)→Nat):Ax Tryz.prog po (Spk×Int):=
 (.callP (jR s)
(.br 128 ((cI s) != 0) (.ret ((⟨0,0,0,[],[]⟩:Spk),cI s))
(.callP (oU wants)
(.br 208 ((aI false wants) != 0) (.ret ((⟨0,0,0,[],[]⟩:Spk),aI false wants))
(.br 256 (decide (1000000≤s.epoch)) (.ret ((⟨0,0,0,[],[]⟩:Spk),3))
(.cmdL (.nilB 384 3 4) (.loop 0 (vJ s wants) I0 m0 (0,[]) [0,16,384,464] λ(t0:Int×List Itm) b0 =>
(.br 20 (decide (t0.1<((wants.map Wnt.v).length:Int))) (.elI 36 Wnt.v wants t0.1 λx1 =>
(.apX 276 Itm.v t0.2 [(⟨W (t0.1+1),x1.grp,x1.mode,x1.srcs⟩:Itm)] (t0.2.length+1)
(.bk 0 b0 (W (t0.1+1),t0.2++[(⟨W (t0.1+1),x1.grp,x1.mode,x1.srcs⟩:Itm)]) [0,1,2,276])))
(.cmdL (.nilB 2 4 3) (.loop 1 (vI s wants t0) (I1 t0) (m1 t0) (0,[]) [1,2,3,84] λ(t1:Int×List Per) b1 =>
(.br 20 (decide (t1.1<((s.peers.map Per.v).length:Int))) (.elI 20 Per.v s.peers t1.1 λx2 =>
(.apX 180 Per.v t1.2 [(⟨x2.router,0,0⟩:Per)] (t1.2.length+1)
(.bk 1 b1 (W (t1.1+1),t1.2++[(⟨x2.router,0,0⟩:Per)]) [0,1,2,180])))
(.fz 3 Per.v t1.2 (λ_=>rfl) (.fz 2 Itm.v t0.2 (λ_=>rfl) (.ret ((⟨s.router,W (s.epoch+1),((wants.map Wnt.v).length:Int),t0.2,t1.2⟩:Spk),0)))))))))))))))
theorem zx(s:Spk)(w:List Wnt):∃I0 m0 I1 m1,(pn s w I0 m0 I1 m1).vp pq (restart s w):=by
 refine⟨λt=>∃j:Nat,t.1=j∧j≤w.length∧t.2=(w.mapIdx eH).take j,λt=>w.length-t.1.toNat,
  λt0 t=>∃j:Nat,t.1=j∧j≤s.peers.length∧t.2=(s.peers.take j).map λp=>⟨p.router,0,0⟩,λt0 t=>s.peers.length-t.1.toNat,?_⟩
 dsimp only[pn,po,Ax.vp,Ax.vc];simp only[vcU,rfU,f'];have hv:cI s=if aW s then 0 else 1:=rfl
 rw[hv];unfold restart;by_cases h1:aW s
 case neg=>rw[u' h1,if_pos h1];simp[eG]
 rw[if_pos h1,u' (not_not_intro h1)]
 refine⟨λq=>by simp at q,λ_=>⟨λh2=>?_,λh2=>?_⟩⟩
 ·have h2:aI false w≠0:=by simpa using h2
  rw[if_pos h2];rfl
 have h2:aI false w=0:=by simpa using h2
 rw[u' (not_not_intro h2)];have he:=h1.2.1
 refine⟨λh3=>?_,λh3=>⟨⟨0,rfl,by omega,by simp⟩,?_⟩⟩
 ·rw[if_pos (by omega)];rfl
 rw[u' (by omega)];obtain⟨w1,_⟩:=bx.mp h2;rintro⟨_,_⟩ ⟨j,rfl,hj,rfl⟩;simp only[Int.toNat_natCast]
 refine⟨λh4=>⟨by omega,by omega,λx hx=>?_⟩,λh4=>⟨⟨0,rfl,by omega,rfl⟩,?_⟩⟩
 ·rw[ao (n:=w.length) (by omega) (by omega)];refine⟨by simp;omega,⟨j+1,rfl,by omega,?_⟩,by omega⟩;have:(w.mapIdx eH)[j]?=some (eH j x):=by rw[List.getElem?_mapIdx,hx];rfl
  rw[al this];rfl
 ·rintro⟨_,_⟩ ⟨i,rfl,hi,rfl⟩;have hp:=h1.2.2.2.2.1;simp only[Int.toNat_natCast]
  refine⟨λh5=>⟨by omega,by omega,λx hx=>?_⟩,λh5=>?_⟩
  ·rw[ao (n:=s.peers.length) (by omega) (by omega)];refine⟨by simp;omega,⟨i+1,rfl,by omega,?_⟩,by omega⟩;rw[al hx,List.map_append];rfl
  ·rw[G' (by simp;omega),G' (l:=s.peers) (by omega),cf (by omega)]
def zy(s:Spk)(wants:List Wnt):PC Tryz.prog:=pcO 236 [(.a [.k,.k,.k,(.s 4),(.s 3)]),(.s 3)] [Spk.v s,.sl 3 (wants.map Wnt.v) false] (.a [(.a [.k,.k,.k,(.s 4),(.s 3)]),.k]) pq (restart s wants) (λ_=>let ⟨I0,m0,I1,m1,h⟩:=zx s wants;⟨_,h,by kernel_rfl⟩) rfl (by kernel_rfl)
def cT(l:List Int)(n:Int):List Int:=l.filter λx=>decide (x≠n)
structure AtK (R:List Int) (i:Nat) (s:Spk) (l:Lsn):Prop where
  fs:aW s
  fasc:0<i→∀y,R[i-1]?=some y→y<s.router
  fp:s.peers.map Per.router=cT R s.router
  fl:bY l
  fr:l.router=s.router
  fh:∀h∈l.heard,h.router∈R
theorem lS{sp:List Spk}{i:Nat}{s:Spk}(h:sp[i]?=some s):(aD sp)[i]?=some s.router:=by
 unfold aD;rw[S',h];rfl
theorem fm{sp:List Spk}:(aD sp).length=sp.length:=f' ..
theorem dM{o:Ovl}:bE o↔o.sp.length≤12∧o.ls.length=o.sp.length∧(∀i s l,o.sp[i]?=some s→o.ls[i]?=some l→AtK (aD o.sp) i s l)∧∀x∈o.fl,cV (aD o.sp) x:=by
 constructor
 ·rintro⟨h,hf⟩
  refine⟨by rw[←fm];exact h.len,?_,λi s l hs hl=>?_,hf⟩
  ·have:=congrArg List.length h.lsr;rw[f',fm]at this;exact this
  ·obtain⟨s1,s2⟩:=h.spo s (aq hs);obtain⟨l1,l2⟩:=h.lso l (aq hl)
   refine⟨s1,λhi y hy=>?_,s2,l1,?_,l2⟩
   ·unfold aD at hy;rw[S']at hy;cases hz:o.sp[i-1]? with
    | none=>rw[hz]at hy;simp at hy
    | some z =>
     rw[hz]at hy;have hy:z.router=y:=by simpa using hy
     have:=ga h.asc (show i-1<i by omega) hz hs;omega
   ·have h1:=lS hs;rw[←h.lsr,S',hl]at h1;simpa using h1
 ·rintro⟨h1,h2,h3,h4⟩;have hget:∀{i:Nat} {s:Spk},o.sp[i]?=some s→∃l,o.ls[i]?=some l:=λ{i s} hs=>⟨_,E' (by have:=aw hs;omega)⟩
  have hgetL:∀{i:Nat} {l:Lsn},o.ls[i]?=some l→∃s,o.sp[i]?=some s:=λ{i l} hs=>⟨_,E' (by have:=aw hs;omega)⟩
  have hasc:∀k:Nat,k≤o.sp.length→(o.sp.take k).Pairwise λx y=>x.router<y.router:=by
   intro k
   induction k with
   | zero=>intro _;simp
   | succ k ih =>
    intro hk;have hs:o.sp[k]?=some o.sp[k]:=E' (by omega);obtain⟨l,hl⟩:=hget hs;refine(oC Spk.router hs).mpr ⟨ih (by omega),λhp y hy=>?_⟩;exact(h3 k _ l hs hl).fasc hp _ (lS hy)
  have ha:=hasc o.sp.length (V' _);rw[aj']at ha
  refine⟨⟨by rw[fm];exact h1,rfl,?_,ha,λs hs=>?_,λl hl=>?_⟩,h4⟩
  ·refine bd' (by rw[f',fm,h2]) λi i1 i2=>?_;rw[f']at i1;have hl:o.ls[i]?=some o.ls[i]:=E' i1;obtain⟨s,hs⟩:=hgetL hl;have:=(h3 i s _ hs hl).fr;rw[cp',this];have e:=lS hs;rw[E' i2]at e;simpa using e.symm
  ·obtain⟨i,hi,rfl⟩:=ad' hs;have hs:o.sp[i]?=some o.sp[i]:=E' hi;obtain⟨l,hl⟩:=hget hs;have q:=h3 i _ l hs hl;exact⟨q.fs,q.fp⟩
  ·obtain⟨i,hi,rfl⟩:=ad' hl;have hl:o.ls[i]?=some o.ls[i]:=E' hi;obtain⟨s,hs⟩:=hgetL hl;have q:=h3 i s _ hs hl;exact⟨q.fl,q.fh⟩
theorem GZ:∀{l m:List Int},l.Pairwise (·<·)→m.Pairwise (·<·)→(∀x∈l,x∈m)→l.length=m.length→l=m
 | [],m,_,_,_,h=>by cases m with|nil=>rfl|cons y m=>simp at h
 | x::l,[],_,_,_,h=>by simp at h
 | x::l,y::m,h1,h2,h3,h4=>by
  rw[an']at h1 h2;have hl:l.length=m.length:=by simpa using h4
  have hsub:∀z∈l,z∈m:=λz hz=>by
   rcases P'.mp (h3 z (by simp[hz]))with e|e
   ·exfalso;have hx:=h1.1 z hz
    rcases P'.mp (h3 x (by simp))with q|q
    ·omega
    ·have:=h2.1 x q;omega
   ·exact e
  have e:=GZ h1.2 h2.2 hsub hl;subst e
  congr 1
  rcases P'.mp (h3 x (by simp))with q|q
  ·exact q
  ·have:=h1.1 x q;omega
theorem zD{R:List Int}(h:R.Nodup){r:Int}(hr:r∈R):(cT R r).length+1=R.length:=by
 induction R with
 | nil=>simp at hr
 | cons x R ih =>
  rw[bq']at h;unfold cT
  by_cases e:x=r
  ·subst e;rw[List.filter_cons_of_neg (by simp),bD'.mpr λy hy=>by simpa using λ(q:y=x)=>h.1 (q ▸ hy)];rfl
  ·rw[List.filter_cons_of_pos (by simpa using e),Z',Z'];have:=ih h.2 (by rcases P'.mp hr with q|q;exact absurd q.symm e;exact q);unfold cT at this;omega
theorem rU{R:List Int}{s:Spk}(hR:R.Pairwise (·<·))(hs:aW s)(hr:s.router∈R) :
  s.peers.map Per.router=cT R s.router↔s.peers.length+1=R.length∧∀p∈s.peers,p.router∈R:=by
 have hn:R.Nodup:=hR.imp λq=>by omega
 have ho:=zD hn hr
 constructor
 ·intro h;have e:=congrArg List.length h;rw[f']at e;refine⟨by omega,λp hp=>?_⟩;have:p.router∈s.peers.map Per.router:=R'.mpr ⟨p,hp,rfl⟩;rw[h]at this;exact(aA'.mp this).1
 ·rintro⟨h1,h2⟩
  refine GZ ?_ (hR.filter _) (λx hx=>?_) (by rw[f'];omega)
  ·rw[at'];exact hs.2.2.2.2.2.2
  ·obtain⟨p,hp,rfl⟩:=R'.mp hx;exact aA'.mpr ⟨h2 p hp,by simpa using(hs.2.2.2.2.2.1 p hp).2.1⟩
def mq(x lo hi:Int):Bool:=decide (lo≤x∧x≤hi)
def J1(r:Bool):AV:=.bool r
def zZ(x:Int)(lo:Int)(hi:Int):Ax Tryz.prog noS (Bool):=
 (.br 80 (decide (lo≤x)) (.ret (decide (x≤hi)))
(.ret (false)))
theorem Ss(x lo hi:Int):(zZ x lo hi).vp J1 (mq x lo hi):=by
 dsimp only[zZ,noS,Ax.vp,Ax.vc];simp only[vcU,rfU,f'];refine⟨λh=>decide_eq_decide.mpr ⟨λq=>⟨h,q⟩,λq=>q.2⟩,λh=>(decide_eq_false λq=>h q.1).symm⟩
def gm(x:Int)(lo:Int)(hi:Int):PC Tryz.prog:=pcO 276 [.k,.k,.k] [.int x,.int lo,.int hi] .k J1 (mq x lo hi) (λ_=>⟨(zZ x lo hi),Ss x lo hi,by kernel_rfl⟩) rfl (by kernel_rfl)
theorem jx{p:Prop}[Decidable p](h:¬p):false=decide p:=(decide_eq_false h).symm
def BZ(s:Sig):=okL [Sig.v s]
def Hs(s:Sig)(t0:Bool):NF:=⟨[rR 1 0,rB 3 t0],[.box (Sig.v s)]⟩
def Hr(t1:Bool):NF:=⟨[rB 126 t1],[]⟩
@[reducible] def BX:Nat→Type
 | 0=>Bool
 | 1=>Bool
 | _=>Unit
def BY(r:Int):AV:=.int r
def BW(s:Sig)(I0:Bool→Prop)(I1:Bool→Bool→Prop):Ax Tryz.prog BX (Int):=
 (.pass (.join2 0 (Hs s) (λ(t0:Bool)=>I0 t0) (λb0=>(.callP (gm s.src 1 99)
(.br 96 (mq s.src 1 99) (.callP (gm s.dst 1 99)
(.br 176 (mq s.dst 1 99) (.br 352 (s.kind==1) (.br 384 (s.src != s.dst) (.callP (gm s.epoch 1 1000000)
(.br 464 (mq s.epoch 1 1000000) (.callP (gm s.ver 0 1000000)
(.br 544 (mq s.ver 0 1000000) (.br 624 (s.prev==0) (.br 704 (s.pep==0) (.bk 0 b0 ((s.grp==0):Bool) [0])
(.bk 0 b0 ((false):Bool) [0]))
(.bk 0 b0 ((false):Bool) [0]))
(.bk 0 b0 ((false):Bool) [0])))
(.bk 0 b0 ((false):Bool) [0])))
(.bk 0 b0 ((false):Bool) [0]))
(.br 384 (s.kind==2) (.br 416 (s.src != s.dst) (.callP (gm s.epoch 1 1000000)
(.br 496 (mq s.epoch 1 1000000) (.callP (gm s.ver 1 1000000)
(.br 576 (mq s.ver 1 1000000) (.callP (gm s.prev 0 (W (s.ver-1)))
(.br 704 (mq s.prev 0 (W (s.ver-1))) (.br 784 (s.pep==0) (.callP (gm s.grp 1 99)
(.bk 0 b0 ((mq s.grp 1 99):Bool) [0]))
(.bk 0 b0 ((false):Bool) [0]))
(.bk 0 b0 ((false):Bool) [0])))
(.bk 0 b0 ((false):Bool) [0])))
(.bk 0 b0 ((false):Bool) [0])))
(.bk 0 b0 ((false):Bool) [0]))
(.br 416 (s.kind==3) (.br 448 (s.src != s.dst) (.callP (gm s.epoch 0 1000000)
(.br 528 (mq s.epoch 0 1000000) (.callP (gm s.ver 0 1000000)
(.br 608 (mq s.ver 0 1000000) (.br 688 (s.prev==0) (.callP (gm s.pep 1 1000000)
(.br 768 (mq s.pep 1 1000000) (.bk 0 b0 ((s.grp==0):Bool) [0])
(.bk 0 b0 ((false):Bool) [0])))
(.bk 0 b0 ((false):Bool) [0]))
(.bk 0 b0 ((false):Bool) [0])))
(.bk 0 b0 ((false):Bool) [0])))
(.bk 0 b0 ((false):Bool) [0]))
(.ret (1)))))
(.br 352 (s.kind==1) (.bk 0 b0 ((false):Bool) [0])
(.br 384 (s.kind==2) (.bk 0 b0 ((false):Bool) [0])
(.br 416 (s.kind==3) (.bk 0 b0 ((false):Bool) [0])
(.ret (1)))))))
(.br 352 (s.kind==1) (.bk 0 b0 ((false):Bool) [0])
(.br 384 (s.kind==2) (.bk 0 b0 ((false):Bool) [0])
(.br 416 (s.kind==3) (.bk 0 b0 ((false):Bool) [0])
(.ret (1)))))))) λ(t0:Bool) =>
(.br 33 (!t0) (.ret (2))
(.br 81 (s.kind==2) (.callP (lC (⟨s.mode,s.srcs⟩:Flt))
(.ret (am (⟨s.mode,s.srcs⟩:Flt).mode (⟨s.mode,s.srcs⟩:Flt).srcs)))
(.pass (.join 1 (Hr) (λ(t1:Bool)=>I1 t0 t1) (λb1=>(.br 161 (s.mode != 0) (.bk 1 b1 ((true):Bool) [])
(.bk 1 b1 ((decide (0<((s.srcs.map AV.int).length:Int))):Bool) []))) λ(t1:Bool) =>
(.br 0 t1 (.ret (1))
(.ret (0)))))))))
theorem MW(s:Sig)(ok:BZ s):∃I0 I1,(BW s I0 I1).vp BY (aG s):=by
 simp only[BZ,Sig.v,okU,Blk.ok,aU,f']at ok;refine⟨λb=>(s.kind=1∨s.kind=2∨s.kind=3)∧(b=true↔fg s∧bA s),λb c=>c=true↔s.mode≠0∨s.srcs≠[],?_⟩;dsimp only[BW,BX,Ax.vp,Ax.vc];simp only[vcU,rfU,f'];have hv:s.kind=2→1≤s.ver→s.ver≤1000000→W (s.ver-1)=s.ver-1:=λ_ h1 h2=>cf (by omega);simp only[mq,aM',decide_eq_false_iff_not,bY',beq_eq_false_iff_ne,bne_iff_ne,bne_eq_false_iff_eq,ne_eq,bk',false_iff,Int.natCast_pos,cu'];have hk:∀{A B C:Prop},(s.kind=1→A)→(s.kind≠1→s.kind=2→B)→(s.kind≠1→s.kind≠2→s.kind=3→C)→(s.kind=1→A)∧(¬s.kind=1→(s.kind=2→B)∧(¬s.kind=2→(s.kind=3→C)∧(¬s.kind=3→True))):=λa b c=>⟨a,λn=>⟨b n,λm=>⟨c n m,λ_=>trivial⟩⟩⟩
 have n1:s.kind=1→(bA s↔(1≤s.epoch∧s.epoch≤1000000)∧(0≤s.ver∧s.ver≤1000000)∧s.prev=0∧s.pep=0∧s.grp=0):=λe=>by unfold bA;rw[if_pos e]
 have n2:s.kind=2→(bA s↔(1≤s.epoch∧s.epoch≤1000000)∧(1≤s.ver∧s.ver≤1000000)∧(0≤s.prev∧s.prev≤s.ver-1)∧s.pep=0∧(1≤s.grp∧s.grp≤99)):=λe=>by unfold bA;rw[u' (by omega),if_pos e]
 have n3:s.kind=3→(bA s↔(0≤s.epoch∧s.epoch≤1000000)∧(0≤s.ver∧s.ver≤1000000)∧s.prev=0∧(1≤s.pep∧s.pep≤1000000)∧s.grp=0):=λe=>by unfold bA;rw[u' (by omega),u' (by omega)]
 have en:fg s↔(1≤s.src∧s.src≤99)∧(1≤s.dst∧s.dst≤99)∧s.src≠s.dst:=Iff.rfl;have hw:W (s.ver-1)=s.ver-1∨¬1≤s.ver:=by
  by_cases h:1≤s.ver
  ·exact .inl (cf (by omega))
  ·exact .inr h
 generalize W (s.ver-1)=w at *
 clear hv;generalize hN:bA s=N at *
 rw[en]
 refine⟨?_,λb hb=>⟨λe=>?_,λe=>⟨λk=>?_,λk=>⟨⟨λm=>?_,λm=>?_⟩,λc hc=>⟨λe2=>?_,λe2=>?_⟩⟩⟩⟩⟩
 ·refine⟨λa1=>⟨λa2=>⟨λk=>?_,λk=>⟨λk2=>?_,λk2=>⟨λk3=>?_,λk3=>?_⟩⟩⟩,λa2=>⟨λk=>?_,λk=>⟨λk2=>?_,λk2=>⟨λk3=>?_,λk3=>?_⟩⟩⟩⟩,λa1=>⟨λk=>?_,λk=>⟨λk2=>?_,λk2=>⟨λk3=>?_,λk3=>?_⟩⟩⟩⟩
  all_goals first
   | (simp only[n1 k];omega)
   | (simp only[n2 k2];omega)
   | (simp only[n3 k3];omega)
   | (unfold aG;rw[if_pos (by omega)])
 ·have e:b=false:=by simpa using e
  subst e;unfold aG;rw[u' (by omega),if_pos];rintro⟨q1,q2⟩;exact Bool.noConfusion (hb.2.mpr ⟨q1,hN ▸ q2⟩)
 ·have q:=hb.2.mp (by simpa using e);unfold aG;rw[u' (by omega),u' (not_not_intro ⟨q.1,hN ▸ q.2⟩),if_pos k]
 ·exact⟨λ_=>.inl m,λ_=>trivial⟩
 ·exact⟨λq=>.inr q,λq=>q.resolve_left λz=>z m⟩
 ·have q:=hb.2.mp (by simpa using e);unfold aG;rw[u' (by omega),u' (not_not_intro ⟨q.1,hN ▸ q.2⟩),u' k,if_pos (hc.mp e2)]
 ·have q:=hb.2.mp (by simpa using e);unfold aG;rw[u' (by omega),u' (not_not_intro ⟨q.1,hN ▸ q.2⟩),u' k,u'];intro z;have:=hc.mpr z;rw[e2]at this;cases this
def tC(s:Sig):PC Tryz.prog:=pcO 157 [(.a [.k,.k,.k,.k,.k,.k,.k,.k,.k,(.s 1)])] [Sig.v s] .k BY (aG s) (λok=>let ⟨I0,I1,h⟩:=MW s ok;⟨_,h,by kernel_rfl⟩) rfl (by kernel_rfl)
def Fc(l:List Wnt)(g:Int):Bool:=decide (∃w∈l,w.grp=g)
def JO(l:List Wnt)(group:Int):=okL [.sl 3 (l.map Wnt.v) false,.int group]
def OP(l:List Wnt)(group:Int)(t0:Int):NF:=⟨[rI 1 group,(7,.k,.sl 3 (l.map Wnt.v) false),rI 8 ((l.map Wnt.v).length:Int),rI 9 t0],[]⟩
@[reducible] def JM:Nat→Type
 | 0=>Int
 | _=>Unit
def JN(r:Bool):AV:=.bool r
def JL(l:List Wnt)(group:Int)(I0:Int→Prop)(m0:Int→Nat):Ax Tryz.prog JM (Bool):=
 (.loop 0 (OP l group) I0 m0 ((0):Int) [] λ(t0:Int) b0 =>
(.br 16 (decide (t0<((l.map Wnt.v).length:Int))) (.elI 16 Wnt.v l t0 λx1 =>
(.br 144 (x1.grp==group) (.ret (true))
(.bk 0 b0 ((W (t0+1)):Int) [])))
(.ret (false))))
theorem Sx(l:List Wnt)(g:Int)(ok:JO l g):∃I m,(JL l g I m).vp JN (Fc l g):=by
 simp only[JO,Wnt.v,okU,Blk.ok,aU,f']at ok;refine⟨λt=>∃k:Nat,t=k∧k≤l.length∧∀x∈l.take k,x.grp≠g,λt=>l.length-t.toNat,?_⟩;dsimp only[JL,JM,Ax.vp,Ax.vc];simp only[vcU,rfU,f'];have hle:l.length≤9223372036854775807:=ok.1.1;refine⟨⟨0,rfl,by omega,by simp⟩,?_⟩;rintro _ ⟨k,rfl,hk,hI⟩;simp only[Int.toNat_natCast]
 refine⟨λh1=>⟨by omega,by omega,λx hx=>⟨λe=>?_,λe=>?_⟩⟩,λh1=>?_⟩
 ·exact(decide_eq_true ⟨x,aq hx,by simpa using e⟩).symm
 ·rw[ao (n:=l.length) (by omega) (by omega)];exact⟨⟨k+1,rfl,by omega,(bH hx).mpr ⟨hI,by simpa using e⟩⟩,by omega⟩
 ·rw[G' (by omega)]at hI;exact jx λ⟨w,hw,e⟩=>hI w hw e
def Sy(l:List Wnt)(group:Int):PC Tryz.prog:=pcO 320 [(.s 3),.k] [.sl 3 (l.map Wnt.v) false,.int group] .k JN (Fc l group) (λok=>let ⟨I0,m0,h⟩:=Sx l group ok;⟨_,h,by kernel_rfl⟩) rfl (by kernel_rfl)
def appF(old c:List Wnt)(g:Int):Int×List Int:=if Fc c g=true then da c g else da old g
def l9(old c:List Wnt):List Wnt×Int:=
 if aI false old≠0 then([],aI false old)else if aI true c≠0 then([],aI true c)else eM (du (appF old c) 99)
theorem nu{f:Int→Int×List Int}:∀n:Nat,(du f n).length≤n
 | 0=>V' _
 | n+1=>by
  rw[du,Y'];have:=nu (f:=f) n;unfold j5;split<;>simp<;>omega
def FT(old:List Wnt)(ah:List Wnt)(t0:Int×List Wnt):NF:=⟨[(0,.k,.sl 3 (old.map Wnt.v) false),(1,.k,.sl 3 (ah.map Wnt.v) false),rV 8 0,rI 9 t0.1],[vB 3 Wnt.v t0.2 (λ_=>rfl)]⟩
def FS(old:List Wnt)(ah:List Wnt)(t0:Int×List Wnt)(t1:Flt):NF:=⟨[(0,.k,.sl 3 (old.map Wnt.v) false),(1,.k,.sl 3 (ah.map Wnt.v) false),rV 8 0,rI 9 t0.1,rR 10 1],[vB 3 Wnt.v t0.2 (λ_=>rfl),.box (Flt.v t1)]⟩
@[reducible] def yx:Nat→Type
 | 0=>Int×List Wnt
 | 1=>Flt
 | _=>Unit
def yz(r:List Wnt×Int):AV:=.tup [.sl 3 (r.1.map Wnt.v) false,.int r.2]
def yw(old:List Wnt)(ah:List Wnt)(I0:(Int×List Wnt)→Prop)(m0:(Int×List Wnt)→Nat)(I1:Int×List Wnt→Flt→Prop):Ax Tryz.prog yx (List Wnt×Int):=
 (.callP (oU old)
(.br 112 ((aI false old) != 0) (.ret ([],aI false old))
(.callP (yh ah true)
(.br 192 ((aI true ah) != 0) (.ret ([],aI true ah))
(.cmdL (.nilT 8 3) (.loop 0 (FT old ah) I0 m0 (1,[]) [224] λ(t0:Int×List Wnt) b0 =>
(.br 33 (decide (t0.1≤99)) (.callP (oI old t0.1)
(.join 1 (FS old ah t0) (λ(t1:Flt)=>I1 t0 t1) (λb1=>(.callP (Sy ah t0.1)
(.br 161 (Fc ah t0.1) (.callP (oI ah t0.1)
(.bk 1 b1 ((aQ ah t0.1):Flt) [0,81]))
(.bk 1 b1 ((aQ old t0.1):Flt) [0,81])))) λ(t1:Flt) =>
(.callP (fe )
(.callP (iY t1 (⟨1,[]⟩:Flt))
(.br 66 (!(cE t1 (⟨1,[]⟩:Flt))) (.apX 146 Wnt.v t0.2 [(⟨t0.1,t1.mode,t1.srcs⟩:Wnt)] (t0.2.length+1)
(.bk 0 b0 (W (t0.1+1),t0.2++[(⟨t0.1,t1.mode,t1.srcs⟩:Wnt)]) [146]))
(.bk 0 b0 (W (t0.1+1),t0.2) [0]))))))
(.br 81 (decide (32<((t0.2.map Wnt.v).length:Int))) (.ret ([],3))
(.fz 0 Wnt.v t0.2 (λ_=>rfl) (.ret (t0.2,0)))))))))))
theorem LH(old c:List Wnt):∃I0 m0 I1,(yw old c I0 m0 I1).vp yz (l9 old c):=by
 refine⟨λt=>∃k:Nat,t.1=(k:Int)+1∧k≤99∧t.2=du (appF old c) k,λt=>100-t.1.toNat,λt f=>(f.mode,f.srcs)=appF old c t.1,?_⟩;dsimp only[yw,yx,Ax.vp,Ax.vc];simp only[vcU,rfU,f'];unfold l9
 refine⟨λh=>by rw[if_pos (by simpa using h)],λh=>⟨λh2=>?_,λh2=>⟨⟨0,rfl,by omega,rfl⟩,?_⟩⟩⟩
 ·rw[u' (by simpa using h),if_pos (by simpa using h2)]
 ·rw[u' (by simpa using h),u' (by simpa using h2)];rintro⟨_,_⟩ ⟨k,rfl,hk,rfl⟩;have hlen:=nu (f:=appF old c) k;simp only;have hw:(k:Int)+1≤99→W ((k:Int)+1+1)=((k+1:Nat):Int)+1:=λ_=>by rw[cf (by omega)];omega
  refine⟨λh1=>⟨⟨λq=>?_,λq=>?_⟩,λf hf=>⟨λq=>⟨by omega,?_⟩,λq=>?_⟩⟩,λh1=>⟨λq=>?_,λq=>?_⟩⟩
  ·unfold appF;rw[if_pos q];rfl
  ·unfold appF;rw[u' (by simp[q])];rfl
  ·rw[hw h1];refine⟨⟨k+1,rfl,by omega,?_⟩,by omega⟩
   rw[du,j5,u']
   ·rw[←hf]
   ·rw[←hf];intro e;simp only[Prod.mk.injEq]at e;simp[cE,eO,e.1,e.2]at q
  ·rw[hw h1];refine⟨⟨k+1,rfl,by omega,?_⟩,by omega⟩;have e:f=⟨1,[]⟩:=by simpa[cE]using q
   rw[du,j5,if_pos,az'];rw[←hf,e]
  ·have:k=99:=by omega
   subst this;unfold eM;rw[if_pos (by omega)]
  ·have:k=99:=by omega
   subst this;unfold eM;rw[u' (by omega)]
def LI(old:List Wnt)(ah:List Wnt):PC Tryz.prog:=pcO 239 [(.s 3),(.s 3)] [.sl 3 (old.map Wnt.v) false,.sl 3 (ah.map Wnt.v) false] (.a [(.s 3),.k]) yz (l9 old ah) (λ_=>let ⟨I0,m0,I1,h⟩:=LH old ah;⟨_,h,by kernel_rfl⟩) rfl (by kernel_rfl)
theorem Fj(g:Int):da [] g=(1,[]):=rfl
theorem Bc(c:List Wnt):(l9 [] c).2=aI true c:=by
 unfold l9;rw[u' (by decide)]
 split
 ·rfl
 ·rename_i h;have h:aI true c=0:=by omega
  obtain⟨h1,h2,h3,h4,h5⟩:=bx.mp h;have e:du (appF [] c) 99=c.filter λw=>decide (¬cS w):=by
   refine mG (iu 99) (h5.filter _) λw=>?_;rw[fa,aA'];simp only[aM']
   constructor
   ·rintro⟨q1,q2,q3⟩;unfold appF at q2 q3
    by_cases hh:Fc c w.grp=true
    ·rw[if_pos hh]at q2 q3;obtain⟨y,hy,e1,e2⟩:=iP (qh.mp q3);have e3:da c w.grp=(y.mode,y.srcs):=by unfold da;rw[e2]
     rw[q2]at e3 q3;simp only[Prod.mk.injEq]at e3;have:y=w:=by rw[Wnt.eq_iff];exact⟨e1,e3.1.symm,e3.2.symm⟩
     subst this;exact⟨hy,λhn=>q3 (by rw[hn.1,hn.2])⟩
    ·rw[u' hh,Fj]at q3;exact absurd rfl q3
   ·rintro⟨q1,q2⟩;have hh:Fc c w.grp=true:=decide_eq_true ⟨w,q1,rfl⟩;have e1:appF [] c w.grp=(w.mode,w.srcs):=by
     unfold appF;rw[if_pos hh];unfold da;rw[iz h5 q1]
    refine⟨h2 w q1,e1,?_⟩;rw[e1];intro e;simp only[Prod.mk.injEq]at e;exact q2 e
  have hl:(du (appF [] c) 99).length≤32:=by
   rw[e];exact aF' (bh' _ _) h1
  unfold eM;rw[u' (by omega),h]
theorem uH{s:Spk}(hs:aW s){c:List Wnt}(hc:aI true c=0)(j:Nat):((c.take j).foldl bv (s.last,s.items)).2.length≤99∧0≤((c.take j).foldl bv (s.last,s.items)).1∧((c.take j).foldl bv (s.last,s.items)).1≤s.last+32:=by
 have ho:=fw hc;obtain⟨q1,q2,q3,q4⟩:=lm (c:=c.take j) hs.2.2.2.1 hs.2.2.1.1 λw hw=>ho w (T' hw);refine⟨gk q1,q4,?_⟩;have:=(bx.mp hc).1;rw[aa']at q3;omega
def AT(ah:List Wnt)(t0:Int×Spk):NF:=⟨[rR 4 0,rR 9 1,(38,.k,.sl 3 (ah.map Wnt.v) false),rI 39 ((ah.map Wnt.v).length:Int),rI 40 t0.1],[.box (.agg [.int 0,.int 0,.int 0,.sl 0 [] true,.sl 0 [] true]),.box (Spk.v t0.2)]⟩
@[reducible] def sQ:Nat→Type
 | 0=>Int×Spk
 | _=>Unit
def sR(r:Spk×Int):AV:=.tup [Spk.v r.1,.int r.2]
def sP(s:Spk)(ah:List Wnt)(I0:(Int×Spk)→Prop)(m0:(Int×Spk)→Nat):Ax Tryz.prog sQ (Spk×Int):=
 (.callP (jR s)
(.br 128 ((cI s) != 0) (.ret ((⟨0,0,0,[],[]⟩:Spk),cI s))
(.callP (LI [] ah)
(.br 272 (((l9 [] ah).2) != 0) (.ret ((⟨0,0,0,[],[]⟩:Spk),(l9 [] ah).2))
(.apX 368 Per.v [] s.peers (0+s.peers.length)
(.apX 464 Itm.v [] s.items (0+s.items.length)
(.say (Rf (s.items.map Itm.v)) (.cmd (.frzE 464 (s.items.map Itm.v) (ae (λ_=>rfl) s.items)) (.say (Rf (s.peers.map Per.v)) (.cmd (.frzE 368 (s.peers.map Per.v) (ae (λ_=>rfl) s.peers)) (.loop 0 (AT ah) I0 m0 (0,s) [16,288] λ(t0:Int×Spk) b0 =>
(.br 18 (decide (t0.1<((ah.map Wnt.v).length:Int))) (.elI 18 Wnt.v ah t0.1 λx1 =>
(.callP (DC t0.2.items x1.grp)
(.callP (iY (⟨(bO t0.2.items x1.grp).1,(bO t0.2.items x1.grp).2⟩:Flt) (⟨x1.mode,x1.srcs⟩:Flt))
(.br 210 (cE (⟨(bO t0.2.items x1.grp).1,(bO t0.2.items x1.grp).2⟩:Flt) (⟨x1.mode,x1.srcs⟩:Flt)) (.bk 0 b0 (W (t0.1+1),t0.2) [0,1])
(.req 434 (t0.2.items.length≤999999) λh2 =>
(.callP (HV t0.2.items (⟨W (t0.2.last+1),x1.grp,x1.mode,x1.srcs⟩:Itm) h2)
(.bk 0 b0 (W (t0.1+1),(⟨t0.2.router,t0.2.epoch,W (t0.2.last+1),gC t0.2.items (⟨W (t0.2.last+1),x1.grp,x1.mode,x1.srcs⟩:Itm),t0.2.peers⟩:Spk)) [0,1])))))))
(.br 66 (decide (1000000<t0.2.last)) (.ret ((⟨0,0,0,[],[]⟩:Spk),3))
(.ret (t0.2,0)))))))))))))))
theorem FJ(s:Spk)(c:List Wnt):∃I m,(sP s c I m).vp sR (change s c):=by
 refine⟨λt=>∃j:Nat,t.1=j∧j≤c.length∧t.2=⟨s.router,s.epoch,((c.take j).foldl bv (s.last,s.items)).1,((c.take j).foldl bv (s.last,s.items)).2,s.peers⟩,λt=>c.length-t.1.toNat,?_⟩;dsimp only[sP,sQ,Ax.vp,Ax.vc];simp only[vcU,rfU,f'];have hv:cI s=if aW s then 0 else 1:=rfl
 rw[hv,Bc];unfold change;by_cases h1:aW s
 case neg=>rw[u' h1,if_pos h1];simp[eG]
 rw[if_pos h1,u' (not_not_intro h1)]
 refine⟨λq=>by simp at q,λ_=>⟨λh2=>?_,λh2=>?_⟩⟩
 ·have h2:aI true c≠0:=by simpa using h2
  rw[if_pos h2];rfl
 have h2:aI true c=0:=by simpa using h2
 rw[u' (not_not_intro h2)];have hp:=h1.2.2.2.2.1;have hi:=gk h1.2.2.2.1;have hl:=h1.2.2.1;have hcl:=(bx.mp h2).1;refine⟨by omega,by omega,⟨0,rfl,by omega,rfl⟩,?_⟩;rintro⟨_,_⟩ ⟨j,rfl,hj,rfl⟩;obtain⟨b1,b2,b3⟩:=uH h1 h2 j;simp only[Int.toNat_natCast]
 refine⟨λh3=>⟨by omega,by omega,λx hx=>?_⟩,λh3=>?_⟩
 ·rw[ao (n:=c.length) (by omega) (by omega)];have e:(c.take (j+1)).foldl bv (s.last,s.items)=bv ((c.take j).foldl bv (s.last,s.items)) x:=by rw[al hx,aW'];rfl
  generalize (c.take j).foldl bv (s.last,s.items)=u at *
  refine⟨λq=>⟨⟨j+1,rfl,by omega,?_⟩,by omega⟩,λq=>⟨by omega,⟨j+1,rfl,by omega,?_⟩,by omega⟩⟩
  ·rw[e,bv,if_pos];have q:(bO u.2 x.grp).1=x.mode∧(bO u.2 x.grp).2=x.srcs:=by simpa[cE,eO]using q
   rw[←q.1,←q.2]
  ·rw[e,bv,u',cf (by omega)];intro z;have z1:=congrArg Prod.fst z;have z2:=congrArg Prod.snd z;simp[cE,eO]at q z1 z2;exact q z1 z2
 ·rw[G' (by omega)]
  refine⟨λq=>?_,λq=>?_⟩
  ·rw[if_pos q];rfl
  ·rw[u' q]
def FK(s:Spk)(ah:List Wnt):PC Tryz.prog:=pcO 137 [(.a [.k,.k,.k,(.s 4),(.s 3)]),(.s 3)] [Spk.v s,.sl 3 (ah.map Wnt.v) false] (.a [(.a [.k,.k,.k,(.s 4),(.s 3)]),.k]) sR (change s ah) (λ_=>let ⟨I0,m0,h⟩:=FJ s ah;⟨_,h,by kernel_rfl⟩) rfl (by kernel_rfl)
def Ei(l:List Itm)(t0:Int×List Wnt):NF:=⟨[(0,.k,.sl 4 (l.map Itm.v) false),rV 3 0,rI 4 t0.1],[vB 3 Wnt.v t0.2 (λ_=>rfl)]⟩
@[reducible] def vj:Nat→Type
 | 0=>Int×List Wnt
 | _=>Unit
def vk(r:List Wnt):AV:=.sl 3 (r.map Wnt.v) false
def vh(l:List Itm)(I0:(Int×List Wnt)→Prop)(m0:(Int×List Wnt)→Nat):Ax Tryz.prog vj ((List Wnt)):=
 (.callP (pM l 1000000)
(.br 64 (!(cN l 1000000)) (.ret ([]))
(.cmdL (.nilT 3 3) (.loop 0 (Ei l) I0 m0 (1,[]) [96] λ(t0:Int×List Wnt) b0 =>
(.br 33 (decide (t0.1≤99)) (.callP (DC l t0.1)
(.callP (fe )
(.callP (iY (⟨(bO l t0.1).1,(bO l t0.1).2⟩:Flt) (⟨1,[]⟩:Flt))
(.br 177 (!(cE (⟨(bO l t0.1).1,(bO l t0.1).2⟩:Flt) (⟨1,[]⟩:Flt))) (.apX 257 Wnt.v t0.2 [(⟨t0.1,(bO l t0.1).1,(bO l t0.1).2⟩:Wnt)] (t0.2.length+1)
(.bk 0 b0 (W (t0.1+1),t0.2++[(⟨t0.1,(bO l t0.1).1,(bO l t0.1).2⟩:Wnt)]) [257]))
(.bk 0 b0 (W (t0.1+1),t0.2) [0])))))
(.fz 0 Wnt.v t0.2 (λ_=>rfl) (.ret (t0.2))))))))
theorem Gj(l:List Itm):∃I m,(vh l I m).vp vk (av l):=by
 refine⟨λt=>∃k:Nat,t.1=(k:Int)+1∧k≤99∧t.2=du (bO l) k,λt=>100-t.1.toNat,?_⟩;dsimp only[vh,vj,Ax.vp,Ax.vc];simp only[vcU,rfU,f'];simp only[cN,be',decide_eq_false_iff_not,bT',aM'];refine⟨λh=>by rw[av,u' h],λh=>⟨⟨0,rfl,by omega,rfl⟩,?_⟩⟩;rintro⟨_,_⟩ ⟨k,rfl,hk,rfl⟩;have hlen:=nu (f:=bO l) k;simp only;have hw:(k:Int)+1≤99→W ((k:Int)+1+1)=((k+1:Nat):Int)+1:=λ_=>by rw[cf (by omega)];omega
 refine⟨λh1=>⟨λq=>⟨by omega,?_⟩,λq=>?_⟩,λh1=>?_⟩
 ·rw[hw h1];refine⟨⟨k+1,rfl,by omega,?_⟩,by omega⟩;rw[du,j5,u'];intro e;have e1:=congrArg Prod.fst e;have e2:=congrArg Prod.snd e;simp only at e1 e2;simp[cE,eO,e1,e2]at q
 ·rw[hw h1];refine⟨⟨k+1,rfl,by omega,?_⟩,by omega⟩;have e:(bO l ((k:Int)+1)).1=1∧(bO l ((k:Int)+1)).2=[]:=by simpa[cE,eO]using q
  rw[du,j5,if_pos,az'];exact Prod.ext e.1 e.2
 ·have:k=99:=by omega
  subst this;rw[av,if_pos h]
def oQ(l:List Itm):PC Tryz.prog:=pcO 68 [(.s 4)] [.sl 4 (l.map Itm.v) false] (.s 3) vk (av l) (λ_=>let ⟨I0,m0,h⟩:=Gj l;⟨_,h,by kernel_rfl⟩) rfl (by kernel_rfl)
def fq(l:List Per)(r:Int):Int:=match l.findIdx? λp=>decide (p.router=r)with
 | some i=>i
 | none=>-1
theorem s7{l:List Per}{r:Int}{i:Nat}{x:Per}(hx:l[i]?=some x)(h:x.router=r)(hb:∀y∈l.take i,y.router≠r):fq l r=i:=by
 obtain⟨hi,hxi⟩:=I'.mp hx;have:l.findIdx? (λp=>decide (p.router=r))=some i:=by
  rw[bG'];refine⟨hi,by rw[hxi];simpa using h,λj hj=>?_⟩;have:=hb l[j] (al' (i:=j) (by rw[am',if_pos hj,E' (by omega)]));simpa using this
 unfold fq;rw[this]
theorem s8{l:List Per}{r:Int}(hb:∀y∈l,y.router≠r):fq l r=-1:=by
 have:l.findIdx? (λp=>decide (p.router=r))=none:=by
  rw[ca'];intro x hx;simpa using hb x hx
 unfold fq;rw[this]
def C7(s:Spk)(router:Int):=okL [Spk.v s,.int router]
def Ia(s:Spk)(router:Int)(t0:Int):NF:=⟨[rI 1 router,(8,.k,.sl 3 (s.peers.map Per.v) false),rI 9 ((s.peers.map Per.v).length:Int),rI 10 t0],[]⟩
@[reducible] def C4:Nat→Type
 | 0=>Int
 | _=>Unit
def C5(r:Int):AV:=.int r
def C3(s:Spk)(router:Int)(I0:Int→Prop)(m0:Int→Nat):Ax Tryz.prog C4 (Int):=
 (.loop 0 (Ia s router) I0 m0 ((0):Int) [] λ(t0:Int) b0 =>
(.br 16 (decide (t0<((s.peers.map Per.v).length:Int))) (.elI 32 Per.v s.peers t0 λx1 =>
(.br 176 (x1.router==router) (.ret (t0))
(.bk 0 b0 ((W (t0+1)):Int) [])))
(.ret (-1))))
theorem NV(s:Spk)(r:Int)(ok:C7 s r):∃I m,(C3 s r I m).vp C5 (fq s.peers r):=by
 unfold C7 at ok;refine⟨λt=>∃k:Nat,t=k∧k≤s.peers.length∧∀x∈s.peers.take k,x.router≠r,λt=>s.peers.length-t.toNat,?_⟩;dsimp only[C3,C4,Ax.vp,Ax.vc];simp only[vcU,rfU,f'];have hle:s.peers.length≤9223372036854775807:=by
  have h:=ok;simp only[Spk.v,RH,AV.ok,okL,f',dc]at h;omega
 refine⟨⟨0,rfl,by omega,by simp⟩,?_⟩;rintro _ ⟨k,rfl,hk,hI⟩;simp only[Int.toNat_natCast]
 refine⟨λh1=>⟨by omega,by omega,λx hx=>⟨λe=>?_,λe=>?_⟩⟩,λh1=>?_⟩
 ·rw[s7 hx (by simpa using e) hI]
 ·rw[ao (n:=s.peers.length) (by omega) (by omega)];exact⟨⟨k+1,rfl,by omega,(bH hx).mpr ⟨hI,by simpa using e⟩⟩,by omega⟩
 ·rw[G' (by omega)]at hI;rw[s8 hI]
def C6(s:Spk)(router:Int):PC Tryz.prog:=pcO 158 [(.a [.k,.k,.k,(.s 4),(.s 3)]),.k] [Spk.v s,.int router] .k C5 (fq s.peers router) (λok=>let ⟨I0,m0,h⟩:=NV s router ok;⟨_,h,by kernel_rfl⟩) rfl (by kernel_rfl)
theorem xc{l:List Per}{r:Int}(ho:l.Pairwise λx y=>x.router<y.router):fq l r=if uk l r then(iJ l r:Int)else -1:=by
 by_cases h:uk l r
 ·rw[if_pos h];have h1:l[iJ l r]?=some (l[iJ l r]'h.1):=E' h.1;have h2:(l[iJ l r]'h.1).router=r:=by
   have:=h.2;rw[J',h1]at this;exact this
  refine s7 h1 h2 λy hy=>?_;obtain⟨i,hi,rfl⟩:=ad' hy;rw[aa']at hi;rw[bz'];have:=lW (key:=Per.router) (l:=l) (r:=r) (i:=i) (show i<iJ l r by omega) (by omega);omega
 ·rw[u' h];exact s8 λy hy e=>h ((pU ho).mpr ⟨y,hy,e⟩)
def j1(l:Lsn)(r:Int):Hrd×Bool:=if bY l∧gD l.heard r then(atH l.heard r,true)else(⟨0,0,0,[]⟩,false)
def EZ(l:Lsn)(router:Int)(t0:Int):NF:=⟨[rI 1 router,rR 4 0,(12,.k,.sl 4 (l.heard.map Hrd.v) false),rI 13 ((l.heard.map Hrd.v).length:Int),rI 14 t0],[.box (.agg [.int 0,.int 0,.int 0,.sl 0 [] true])]⟩
@[reducible] def xg:Nat→Type
 | 0=>Int
 | _=>Unit
def xh(r:Hrd×Bool):AV:=.tup [Hrd.v r.1,.bool r.2]
def xf(l:Lsn)(router:Int)(I0:Int→Prop)(m0:Int→Nat):Ax Tryz.prog xg (Hrd×Bool):=
 (.callP (th l)
(.br 96 ((gB l)==0) (.loop 0 (EZ l router) I0 m0 ((0):Int) [16] λ(t0:Int) b0 =>
(.br 17 (decide (t0<((l.heard.map Hrd.v).length:Int))) (.elI 17 Hrd.v l.heard t0 λx1 =>
(.br 145 (x1.router==router) (.ret (x1,true))
(.bk 0 b0 ((W (t0+1)):Int) [0])))
(.ret ((⟨0,0,0,[]⟩:Hrd),false))))
(.ret ((⟨0,0,0,[]⟩:Hrd),false))))
theorem J7(l:Lsn)(r:Int):∃I m,(xf l r I m).vp xh (j1 l r):=by
 refine⟨λt=>∃k:Nat,t=k∧k≤l.heard.length∧∀x∈l.heard.take k,x.router≠r,λt=>l.heard.length-t.toNat,?_⟩;dsimp only[xf,xg,Ax.vp,Ax.vc];simp only[vcU,rfU,f'];have hv:gB l=if bY l then 0 else 1:=rfl
 rw[hv];by_cases h:bY l
 case neg=>rw[u' h];simp[j1,h]
 rw[if_pos h];refine⟨λ_=>⟨⟨0,rfl,by omega,by simp⟩,?_⟩,λq=>by simp at q⟩;have hl:=h.2.2.1;rintro _ ⟨k,rfl,hk,hI⟩;simp only[Int.toNat_natCast]
 refine⟨λh1=>⟨by omega,by omega,λx hx=>⟨λe=>?_,λe=>?_⟩⟩,λh1=>?_⟩
 ·have e:x.router=r:=by simpa using e
  have hit:gD l.heard r:=(dE h.2.2.2.2).mpr ⟨x,aq hx,e⟩;rw[j1,if_pos ⟨h,hit⟩];have:=fi h.2.2.2.2 (aq hx);unfold gOf base at this;rw[e,if_pos hit]at this;unfold atH;rw[this]
 ·rw[ao (n:=l.heard.length) (by omega) (by omega)];exact⟨⟨k+1,rfl,by omega,(bH hx).mpr ⟨hI,by simpa using e⟩⟩,by omega⟩
 ·rw[G' (by omega)]at hI;rw[j1,u'];rintro⟨_,q⟩;obtain⟨z,hz,e⟩:=(dE h.2.2.2.2).mp q;exact hI z hz e
def J8(l:Lsn)(router:Int):PC Tryz.prog:=pcO 165 [(.a [.k,.k,(.s 4)]),.k] [Lsn.v l,.int router] (.a [(.a [.k,.k,.k,(.s 4)]),.k]) xh (j1 l router) (λ_=>let ⟨I0,m0,h⟩:=J7 l router;⟨_,h,by kernel_rfl⟩) rfl (by kernel_rfl)
def wA(r:List Wnt):AV:=.sl 3 (r.map Wnt.v) false
def pK(l:Lsn)(router:Int):Ax Tryz.prog noS ((List Wnt)):=
 (.callP (J8 l router)
(.callP (oQ (((j1 l router).1).items))
(.ret (av (((j1 l router).1).items)))))
theorem vl:av []=[]:=by decide +kernel
theorem Ji(l:Lsn)(r:Int):(pK l r).vp wA (dq l r):=by
 dsimp only[pK,noS,Ax.vp,Ax.vc];simp only[vcU,rfU,f'];unfold j1 dq
 split
 ·rfl
 ·exact vl
def Jj(l:Lsn)(router:Int):PC Tryz.prog:=pcO 69 [(.a [.k,.k,(.s 4)]),.k] [Lsn.v l,.int router] (.s 3) wA (dq l router) (λ_=>⟨(pK l router),Ji l router,by kernel_rfl⟩) rfl (by kernel_rfl)
end Go.Proofs.YtiobpjoadkfhdaaGreatDoor
