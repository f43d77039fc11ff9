/- Texts joined: U3 U4 G11 U2 Mx7. -/
import Derived.Shelf.SlSortCmp.NoneTotal
import Derived.Shelf.SlSortCmp.WholeK
import Derived.Test.YthhpaedpnjdnbaaGreatDoorQA5
set_option linter.unusedVariables false
set_option linter.unusedSimpArgs false
namespace Go.Proofs.YthhpaedpnjdnbaaGreatDoor
open Go Go.Am
section
variable {α : Type} (key : α → Int)
def ct(l:List α)(r:Int):Nat:=l.findIdx λp=>!decide (key p<r)
variable {key}
theorem kr{l:List α}{r:Int}{i:Nat}(h:i<ct key l r)(hi:i<l.length):key l[i]<r:=by
 have:=List.not_of_lt_findIdx h
 simpa using this
theorem tn{l:List α}{r:Int}(ho:l.Pairwise λx y=>key x<key y){i:Nat}(hi:i<l.length)(h:ct key l r≤i):r≤key l[i]:=by
 have hp:ct key l r<l.length:=by omega
 have h1:r≤key l[ct key l r]:=by
  have:(!decide (key l[ct key l r]<r))=true:=List.findIdx_getElem (w:=hp)
  simpa using this
 rcases Nat.eq_or_lt_of_le h with e|e
 ·simp only[e]at h1;exact h1
 ·have:=List.pairwise_iff_getElem.mp ho _ _ hp hi e
  omega
theorem jq{l:List α}{r:Int}(ho:l.Pairwise λx y=>key x<key y){i:Nat}(hi:i<l.length)(h:key l[i]=r):ct key l r=i:=by
 rcases Nat.lt_trichotomy (ct key l r) i with e|e|e
 ·have h1:=tn ho (r:=r) (i:=ct key l r) (by omega) (Nat.le_refl _)
  have:=List.pairwise_iff_getElem.mp ho _ _ (by omega) hi e
  omega
 ·exact e
 ·have:=kr e hi;omega
theorem kI{l:List α}{r:Int}{d:α}(ho:l.Pairwise λx y=>key x<key y):(ct key l r<l.length∧key (l.getD (ct key l r) d)=r)↔∃z∈l,key z=r:=by
 constructor
 ·rintro⟨h1,h2⟩
  rw[List.getD_eq_getElem?_getD,List.getElem?_eq_getElem h1]at h2
  exact⟨_,List.getElem_mem h1,h2⟩
 ·rintro⟨z,hz,rfl⟩
  obtain⟨i,hi,rfl⟩:=List.getElem_of_mem hz
  rw[jq ho hi rfl]
  exact⟨hi,by rw[List.getD_eq_getElem?_getD,List.getElem?_eq_getElem hi];rfl⟩
theorem jW{l:List α}{d z:α}(ho:l.Pairwise λx y=>key x<key y)(hz:z∈l):l.getD (ct key l (key z)) d=z:=by
 obtain⟨i,hi,rfl⟩:=List.getElem_of_mem hz
 rw[jq ho hi rfl,List.getD_eq_getElem?_getD,List.getElem?_eq_getElem hi];rfl
theorem fI{l:List α}{r:Int}{z':α}(ho:l.Pairwise λx y=>key x<key y)(hh:∃z∈l,key z=r)(z:α):z∈l.set (ct key l r) z'↔z=z'∨z∈l∧key z≠r:=by
 obtain⟨y,hy,rfl⟩:=hh
 obtain⟨i,hi,rfl⟩:=List.getElem_of_mem hy
 rw[jq ho hi rfl,List.mem_iff_getElem]
 constructor
 ·rintro⟨j,hj,rfl⟩
  rw[List.getElem_set]
  split
  ·exact .inl rfl
  ·rename_i hne
   have hj':j<l.length:=by simpa using hj
   refine .inr ⟨List.getElem_mem _,λe=>?_⟩
   rcases Nat.lt_or_gt_of_ne hne with e'|e'
   ·have:=List.pairwise_iff_getElem.mp ho _ _ hi hj' e';omega
   ·have:=List.pairwise_iff_getElem.mp ho _ _ hj' hi e';omega
 ·rintro(rfl|⟨hz,hne⟩)
  ·exact⟨i,by simpa using hi,by simp⟩
  ·obtain⟨j,hj,rfl⟩:=List.getElem_of_mem hz
   refine⟨j,by simpa using hj,?_⟩
   rw[List.getElem_set,if_neg]
   rintro rfl;exact hne rfl
theorem gC{l:List α}{r:Int}{z':α}(ho:l.Pairwise λx y=>key x<key y)(hh:∃z∈l,key z=r)(hk:key z'=r):(l.set (ct key l r) z').Pairwise λx y=>key x<key y:=by
 obtain⟨y,hy,rfl⟩:=hh
 obtain⟨i,hi,rfl⟩:=List.getElem_of_mem hy
 rw[jq ho hi rfl]
 have:(l.set i z').map key=l.map key:=by
  rw[List.map_set,hk]
  refine List.ext_getElem (by simp) λj h1 h2=>?_
  rw[List.getElem_set]
  split
  ·rename_i e;subst e;simp
  ·rfl
 have h:=ho
 rw[←List.pairwise_map (f:=key) (R:=λx y:Int=>x<y)]at h ⊢
 rw[this];exact h
theorem xJ{l:List α}{r:Int}{z0 z':α}(ho:l.Pairwise λx y=>key x<key y)(hh:¬∃z∈l,key z=r)(hk:key z'=r) :
  ((l.take (ct key l r)++z0::l.drop (ct key l r)).set (ct key l r) z'=l.take (ct key l r)++z'::l.drop (ct key l r)) ∧
  (∀z,z∈l.take (ct key l r)++z'::l.drop (ct key l r)↔z=z'∨z∈l∧key z≠r)∧(l.take (ct key l r)++z'::l.drop (ct key l r)).Pairwise λx y=>key x<key y:=by
 have hp:ct key l r≤l.length:=List.findIdx_le_length
 refine⟨?_,λz=>?_,?_⟩
 ·rw[List.set_append_right _ _ (by rw[List.length_take];omega)]
  simp[List.length_take,Nat.min_eq_left hp]
 ·rw[List.mem_append,List.mem_cons]
  constructor
  ·rintro(h|rfl|h)
   ·have:=List.mem_of_mem_take h;exact .inr ⟨this,λe=>hh ⟨z,this,e⟩⟩
   ·exact .inl rfl
   ·have:=List.mem_of_mem_drop h;exact .inr ⟨this,λe=>hh ⟨z,this,e⟩⟩
  ·rintro(rfl|⟨h,_⟩)
   ·exact .inr (.inl rfl)
   ·rw[←List.take_append_drop (ct key l r) l]at h
    rcases List.mem_append.mp h with h|h
    ·exact .inl h
    ·exact .inr (.inr h)
 ·have h1:∀x∈l.take (ct key l r),key x<r:=λx hx=>by
   obtain⟨i,hi,rfl⟩:=List.getElem_of_mem hx
   rw[List.getElem_take]
   simp only[List.length_take]at hi
   exact kr (by omega) _
  have h2:∀x∈l.drop (ct key l r),r<key x:=λx hx=>by
   have hm:=List.mem_of_mem_drop hx
   obtain⟨i,hi,rfl⟩:=List.getElem_of_mem hx
   rw[List.getElem_drop]
   simp only[List.length_drop]at hi
   have h3:=tn ho (r:=r) (i:=ct key l r+i) (by omega) (by omega)
   have h4:key l[ct key l r+i]≠r:=λe=>hh ⟨_,List.getElem_mem _,e⟩
   omega
  refine List.pairwise_append.mpr ⟨ho.sublist (List.take_sublist _ _),List.pairwise_cons.mpr ⟨λy hy=>by rw[hk];exact h2 y hy,ho.sublist (List.drop_sublist _ _)⟩,λx hx y hy=>?_⟩
  have:=h1 x hx
  rcases List.mem_cons.mp hy with rfl|hy
  ·omega
  ·have:=h2 y hy;omega
end
def gOf(l:List Hrd)(r:Int):Hrd:=(base l r).getD (bp l r) Rk
def pOf(l:List Per)(r:Int):Per:=l.getD (ib l r) ⟨0,0,0⟩
theorem dr{l:List Hrd}{r:Int}(ho:l.Pairwise λx y=>x.router<y.router):fX l r↔∃z∈l,z.router=r:=kI (key:=Hrd.router) ho
theorem pc{l:List Per}{r:Int}(ho:l.Pairwise λx y=>x.router<y.router):uh l r↔∃z∈l,z.router=r:=kI (key:=Per.router) ho
theorem eP{l:List Hrd}{z:Hrd}(ho:l.Pairwise λx y=>x.router<y.router)(hz:z∈l):gOf l z.router=z:=by
 unfold gOf base
 rw[if_pos ((dr ho).mpr ⟨z,hz,rfl⟩)]
 exact jW (key:=Hrd.router) ho hz
theorem jK{α:Type}(l:List α)(i:Nat)(x:α):dC l i x=l.take i++x::l.drop i:=by
 simp[dC]
theorem im{l:List Hrd}{r:Int}(ho:l.Pairwise λx y=>x.router<y.router)(h:¬∃z∈l,z.router=r):gOf l r=⟨r,0,0,[]⟩:=by
 unfold gOf base
 rw[if_neg (λq=>h ((dr ho).mp q)),jK]
 have hp:bp l r≤l.length:=List.findIdx_le_length
 rw[List.getD_eq_getElem?_getD,List.getElem?_append_right (by rw[List.length_take];omega)]
 simp[List.length_take,Nat.min_eq_left hp]
theorem jr{l:List Per}{z:Per}(ho:l.Pairwise λx y=>x.router<y.router)(hz:z∈l):pOf l z.router=z:=jW (key:=Per.router) ho hz
theorem fK{l:List Hrd}{r:Int}(ho:l.Pairwise λx y=>x.router<y.router):(gOf l r).router=r:=by
 by_cases h:∃z∈l,z.router=r
 ·obtain⟨z,hz,rfl⟩:=h;rw[eP ho hz]
 ·rw[im ho h]
def co(g:Hrd)(x:Sig):Hrd:=fo (iT g x) x
theorem ew{g:Hrd}{x:Sig}(h:g.router=x.src):(co g x).router=x.src:=by
 unfold co fo iT
 split<;>split<;>simp[h]
structure qd (l l':Lsn) (x y:Sig):Prop where
  router:l'.router=l.router
  epoch:l'.epoch=l.epoch
  mem:∀z,z∈l'.heard↔z=co (gOf l.heard x.src) x∨z∈l.heard∧z.router≠x.src
  ans:y=⟨3,l.router,x.src,(co (gOf l.heard x.src) x).epoch,(co (gOf l.heard x.src) x).ver,0,l.epoch,0,0,[]⟩
  ok:bX l'
theorem M5{g:Hrd}{x:Sig}(hg:aT g.ver g.items)(hv:0≤g.ver∧g.ver≤1000000)(he:0≤g.epoch∧g.epoch≤1000000)(hx:aL x=0)(hk:x.kind≠3) :
  (1≤(co g x).epoch∧(co g x).epoch≤1000000)∧(0≤(co g x).ver∧(co g x).ver≤1000000)∧aT (co g x).ver (co g x).items:=by
 obtain⟨s1,s2,s3⟩:=JO hx hk
 have key:∀h:Hrd,(1≤h.epoch∧h.epoch≤1000000)→(0≤h.ver∧h.ver≤1000000)→aT h.ver h.items→(1≤(fo h x).epoch∧(fo h x).epoch≤1000000)∧(0≤(fo h x).ver∧(fo h x).ver≤1000000)∧aT (fo h x).ver (fo h x).items:=by
  intro h h1 h2 h3
  unfold fo
  split
  ·rename_i c
   obtain⟨t1,t2,t3⟩:=s3 c.1
   exact⟨h1,s2,h3.put (x:=nV x) c.2.2.2 t1 t2 t3⟩
  ·exact⟨h1,h2,h3⟩
 unfold co iT
 split
 ·exact key _ s1 ⟨by simp,by simp⟩ ⟨λy hy=>by simp at hy,by simp,List.Pairwise.nil⟩
 ·exact key _ ⟨by omega,he.2⟩ hv hg
theorem MG{l:Lsn}(hl:bX l)(r:Int):aT (gOf l.heard r).ver (gOf l.heard r).items∧(0≤(gOf l.heard r).ver∧(gOf l.heard r).ver≤1000000)∧(0≤(gOf l.heard r).epoch∧(gOf l.heard r).epoch≤1000000):=by
 by_cases h:∃z∈l.heard,z.router=r
 ·obtain⟨z,hz,rfl⟩:=h
  rw[eP hl.2.2.2.2 hz]
  obtain⟨k1,k2,k3,k4,k5⟩:=hl.2.2.2.1 z hz
  exact⟨k5,k4,by omega,k3.2⟩
 ·rw[im hl.2.2.2.2 h]
  exact⟨⟨λy hy=>by simp at hy,by simp,List.Pairwise.nil⟩,⟨by simp,by simp⟩,by simp,by simp⟩
theorem nU{x:Sig}(hx:aL x=0):eN x:=by
 unfold aL at hx
 split at hx
 ·omega
 split at hx
 ·omega
 rename_i h;exact(Classical.not_not.mp h).1
theorem Mt{l:Lsn}{x:Sig}(hl:bX l)(hx:aL x=0)(hk:x.kind≠3)(hd:x.dst=l.router)(hn:(∃z∈l.heard,z.router=x.src)∨l.heard.length<12) :
  (eV l x).2=0∧qd l (eV l x).1.1 x (eV l x).1.2:=by
 obtain⟨g1,g2,g3⟩:=MG hl x.src
 obtain⟨l1,l2,l3,l4,l5⟩:=hl
 obtain⟨k1,k2,k3⟩:=M5 g1 g2 g3 hx hk
 have hr:=ew (x:=x) (fK l5)
 obtain⟨e1,e2,e3⟩:=nU hx
 have hH:xZ l.heard x=co (gOf l.heard x.src) x:=rfl
 have hc:¬(¬fX l.heard x.src∧l.heard.length=12):=by
  rintro⟨q1,q2⟩
  rcases hn with q|q
  ·exact q1 ((dr l5).mpr q)
  ·omega
 have e:eV l x=((⟨l.router,l.epoch,(base l.heard x.src).set (bp l.heard x.src) (co (gOf l.heard x.src) x)⟩,
  ⟨3,l.router,x.src,(co (gOf l.heard x.src) x).epoch,(co (gOf l.heard x.src) x).ver,0,l.epoch,0,0,[]⟩),0):=by
  unfold eV
  rw[if_neg (not_not_intro ⟨l1,l2,l3,l4,l5⟩),if_neg (not_not_intro hx),if_neg (by rintro(q|q);exact hk q;exact q hd),if_neg hc,hH]
 rw[e]
 have key:(∀z,z∈(base l.heard x.src).set (bp l.heard x.src) (co (gOf l.heard x.src) x)↔z=co (gOf l.heard x.src) x∨z∈l.heard∧z.router≠x.src) ∧
   ((base l.heard x.src).set (bp l.heard x.src) (co (gOf l.heard x.src) x)).Pairwise (λx y=>x.router<y.router)∧((base l.heard x.src).set (bp l.heard x.src) (co (gOf l.heard x.src) x)).length≤12:=by
  by_cases h:∃z∈l.heard,z.router=x.src
  ·have hb:base l.heard x.src=l.heard:=if_pos ((dr l5).mpr h)
   rw[hb]
   exact⟨fI (key:=Hrd.router) l5 h,gC (key:=Hrd.router) l5 h hr,by simpa using l3⟩
  ·have hb:base l.heard x.src=l.heard.take (bp l.heard x.src)++⟨x.src,0,0,[]⟩::l.heard.drop (bp l.heard x.src):=by
    unfold base
    rw[if_neg λq=>h ((dr l5).mp q),jK]
   rw[hb]
   obtain⟨q1,q2,q3⟩:=xJ (key:=Hrd.router) (z0:=⟨x.src,0,0,[]⟩) l5 h hr
   have q1:(l.heard.take (bp l.heard x.src)++⟨x.src,0,0,[]⟩::l.heard.drop (bp l.heard x.src)).set (bp l.heard x.src) (co (gOf l.heard x.src) x)=l.heard.take (bp l.heard x.src)++co (gOf l.heard x.src) x::l.heard.drop (bp l.heard x.src):=q1
   rw[q1]
   refine⟨q2,q3,?_⟩
   have:=hn.resolve_left h
   simp only[List.length_append,List.length_cons,List.length_take,List.length_drop];omega
 obtain⟨m1,m2,m3⟩:=key
 refine⟨rfl,rfl,rfl,m1,rfl,l1,l2,m3,λz hz=>?_,m2⟩
 rcases(m1 z).mp hz with rfl|⟨hz,_⟩
 ·exact⟨by rw[hr];exact e1,by rw[hr,←hd];exact e3,k1,k2,k3⟩
 ·exact l4 z hz
theorem qd.self{l l':Lsn}{x y:Sig}(hl:bX l)(h:qd l l' x y):gOf l'.heard x.src=co (gOf l.heard x.src) x:=by
 have:=eP h.ok.2.2.2.2 ((h.mem _).mpr (.inl rfl))
 rw[ew (fK hl.2.2.2.2)]at this
 exact this
theorem qd.other{l l':Lsn}{x y:Sig}(hl:bX l)(h:qd l l' x y){r:Int}(hr:r≠x.src):gOf l'.heard r=gOf l.heard r:=by
 by_cases e:∃z∈l.heard,z.router=r
 ·obtain⟨z,hz,rfl⟩:=e
  rw[eP hl.2.2.2.2 hz,eP h.ok.2.2.2.2 ((h.mem z).mpr (.inr ⟨hz,hr⟩))]
 ·rw[im hl.2.2.2.2 e,im h.ok.2.2.2.2]
  rintro⟨z,hz,rfl⟩
  rcases(h.mem z).mp hz with rfl|⟨hz,_⟩
  ·exact hr (ew (fK hl.2.2.2.2))
  ·exact e ⟨z,hz,rfl⟩
structure OL (a a':Spk) (x:Sig):Prop where
  router:a'.router=a.router
  epoch:a'.epoch=a.epoch
  last:a'.last=a.last
  items:a'.items=a.items
  mem:∀z,z∈a'.peers↔z=g9 a x (pOf a.peers x.src)∨z∈a.peers∧z.router≠x.src
  ok:bc a'
  routers:a'.peers.map Per.router=a.peers.map Per.router
theorem SQ{a:Spk}{x:Sig}(ha:bc a)(hx:aL x=0)(hk:x.kind=3)(hd:x.dst=a.router)(hh:∃z∈a.peers,z.router=x.src):(ack a x).2=0∧OL a (ack a x).1 x:=by
 obtain⟨p1,p2,p3,p4,p5,p6,p7⟩:=ha
 have hhit:=(pc p7).mpr hh
 have e:ack a x=(⟨a.router,a.epoch,a.last,a.items,a.peers.set (ib a.peers x.src) (g9 a x (pOf a.peers x.src))⟩,0):=by
  unfold ack
  rw[if_neg (not_not_intro ⟨p1,p2,p3,p4,p5,p6,p7⟩),if_neg (not_not_intro hx),if_neg (by rintro(q|q);exact q hk;exact q hd),if_neg (not_not_intro hhit)]
  rfl
 rw[e]
 obtain⟨z,hz,hzr⟩:=hh
 have hp:pOf a.peers x.src=z:=by rw[←hzr];exact jr p7 hz
 obtain⟨k1,k2⟩:=SV (p6 z hz) p3.1 hx hk
 rw[hp]
 have hr:(g9 a x z).router=x.src:=k2.trans hzr
 have m1:=fI (key:=Per.router) (z':=g9 a x z) p7 ⟨z,hz,hzr⟩
 have m2:=gC (key:=Per.router) (z':=g9 a x z) p7 ⟨z,hz,hzr⟩ hr
 refine⟨rfl,rfl,rfl,rfl,rfl,by rw[hp];exact m1,⟨p1,p2,p3,p4,by simpa using p5,λy hy=>?_,m2⟩,?_⟩
 ·rcases(m1 y).mp hy with rfl|⟨hy,_⟩
  ·exact k1
  ·exact p6 y hy
 ·obtain⟨i,hi,rfl⟩:=List.getElem_of_mem hz
  have hpos:ib a.peers x.src=i:=jq (key:=Per.router) p7 hi hzr
  simp only[hpos]
  rw[List.map_set,k2]
  refine List.ext_getElem (by simp) λj h1 h2=>?_
  rw[List.getElem_set]
  split
  ·rename_i e;subst e;simp
  ·rfl
theorem OL.self{a a':Spk}{x:Sig}(ha:bc a)(hh:∃z∈a.peers,z.router=x.src)(h:OL a a' x):pOf a'.peers x.src=g9 a x (pOf a.peers x.src):=by
 obtain⟨z,hz,hzr⟩:=hh
 have hp:pOf a.peers x.src=z:=by rw[←hzr];exact jr ha.2.2.2.2.2.2 hz
 have:=jr h.ok.2.2.2.2.2.2 ((h.mem _).mpr (.inl rfl))
 rw[←this,hp]
 congr 1
 unfold g9
 split
 ·exact hzr.symm
 split<;>exact hzr.symm
theorem OL.other{a a':Spk}{x:Sig}(ha:bc a)(h:OL a a' x){r:Int}(hr:r≠x.src)(hh:∃z∈a.peers,z.router=r):pOf a'.peers r=pOf a.peers r:=by
 obtain⟨z,hz,rfl⟩:=hh
 rw[jr ha.2.2.2.2.2.2 hz,jr h.ok.2.2.2.2.2.2 ((h.mem z).mpr (.inr ⟨hz,hr⟩))]
def Xz(n:Int)(l:List Itm):Prop:=(l=[]→n=0)∧∀x,l.getLast?=some x→x.ver=n
structure Ov (e n:Int) (it:List Itm) (x:Sig):Prop where
  ep:x.epoch≤e
  upd:x.kind=2→x.epoch=e→Tu n it x
structure AckOk (e le:Int) (g:Hrd) (x:Sig):Prop where
  ep:x.epoch≤e
  pe:x.pep≤le
  now:x.pep=le→x.epoch=e→g.epoch=e∧x.ver≤g.ver
structure PI (e n:Int) (it:List Itm) (p:Per) (le:Int) (g:Hrd):Prop where
  e1:1≤e
  n0:0≤n
  io:aT n it
  last:Xz n it
  p1:p.epoch≤le
  p2:0≤p.acked
  p3:p.epoch=le→p.acked=0∨(g.epoch=e∧p.acked≤g.ver)
  g1:0≤g.epoch∧g.epoch≤e
  g2:0≤g.ver
  g3:aT g.ver g.items
  g4:g.epoch=e→OC n it g
section
variable {e n : Int} {it : List Itm} {p : Per} {le : Int} {g : Hrd} {x : Sig}
def Tp(g:Hrd)(l:List Sig):Hrd:=l.foldl co g
structure Th (e n:Int) (p:Per) (le:Int) (g:Hrd):Prop where
  ge:g.epoch=e
  gv:g.ver=n
  pe:p.epoch=le
  pa:p.acked=n
end
def tS(l:List Wnt):List Wnt×Int:=if 32<l.length then([],3)else(l,0)
structure ES where
  e:Int
  a:Spk
  l:Lsn
  air:List Sig
  p:Nat
def es0(p:Nat):ES:=⟨0,⟨1,1,0,[],[⟨2,0,0⟩]⟩,⟨2,1,[]⟩,[],p⟩
end Go.Proofs.YthhpaedpnjdnbaaGreatDoor
namespace Go.Am
open Go.Proofs Go.Shelf Go.RowKit Go.Lib Go.Sort
theorem yl{α:Type}[Inhabited α](enc:α→List Value)(k:Nat)(k0:0<k)(hk:∀x,(enc x).length=k):∀l:List α,
  (List.range (l.length * k)).map (λt=>(enc l[t / k]!)[t % k]!)=l.flatMap enc
 | []=>by simp
 | x::l=>by
  have ih:=yl enc k k0 hk l
  rw[List.flatMap_cons,←ih,List.length_cons,Nat.succ_mul,Nat.add_comm,List.range_add,List.map_append,List.map_map]
  congr 1
  ·refine List.ext_getElem (by simp[hk]) λi h1 h2=>?_
   have hi:i<k:=by simpa using h1
   simp[Nat.div_eq_of_lt hi,Nat.mod_eq_of_lt hi,h2]
  ·refine List.map_congr_left λt _=>?_
   simp[Function.comp,Nat.add_div_left t k0]
theorem pr{α:Type}[Inhabited α](enc:α→List Value)(k:Nat)(k0:0<k)(hk:∀x,(enc x).length=k)(d:Array α):(flatK enc k d).toList=d.toList.flatMap enc:=by
 rw[←yl enc k k0 hk d.toList]
 unfold flatK
 simp[List.getElem!_eq_getElem?_getD,Array.getElem!_eq_getD,Array.getD_eq_getD_getElem?]
section
variable {T : Type} (key : T → Int) (k : Nat)
structure SE where
  x:T
  cs:List Value
  ok:cs.length=k∧(∀u∈cs,u.oneCell'=true)∧∃r,cs=.int .i64 (key x)::r
variable {key k}
theorem SE.list{w:World}{A:Nat→Prop}{μ:Mu}{v:T→AV}(hv:∀x,∃cs,v x=.agg (.int (key x)::cs)) :
  ∀{l:List T} {vs:List Value},RVL w A (l.map v) μ vs→(∀u∈vs,u.cells.size=k)→∃ds:List (SE key k),ds.map SE.x=l∧vs=ds.map (λp=>.agg p.cs.toArray)∧∀p∈ds,RV w A (v p.x) μ (.agg p.cs.toArray)
 | [],vs,h,_=>⟨[],rfl,h,by simp⟩
 | x::l,_,⟨u,vs,rfl,h1,h2⟩,hs=>by
  obtain⟨ds,e1,e2,e3⟩:=SE.list hv h2 λu hu=>hs u (List.mem_cons_of_mem _ hu)
  obtain⟨cs,hc⟩:=hv x
  have h1':=h1
  rw[hc]at h1
  obtain⟨us,rfl,g1,g2⟩:=h1
  obtain⟨u0,us',rfl,g3,g4⟩:=g1
  obtain⟨rfl,g5⟩:=g3
  have hl:(Value.int .i64 (key x)::us').length=k:=by
   have:=hs _ (List.mem_cons_self ..)
   simpa[Value.cells]using this
  exact⟨⟨x,.int .i64 (key x)::us',hl,g2,us',rfl⟩::ds,by rw[List.map_cons,e1],by rw[List.map_cons,e2],λp hp=>by
   rcases List.mem_cons.mp hp with rfl|hp
   ·exact h1'
   ·exact e3 p hp⟩
theorem SE.rvl{w:World}{A:Nat→Prop}{μ:Mu}{v:T→AV}:∀{ds:List (SE key k)},(∀p∈ds,RV w A (v p.x) μ (.agg p.cs.toArray))→RVL w A ((ds.map SE.x).map v) μ (ds.map λp=>.agg p.cs.toArray)
 | [],_=>rfl
 | p::ds,h=>⟨_,_,rfl,h p (List.mem_cons_self ..),SE.rvl λq hq=>h q (List.mem_cons_of_mem _ hq)⟩
end
theorem Pr{T:Type}(key:T→Int):SWO (ltOf λx y:T=>Lib.compareInt (key x) (key y)):=by
 have e:∀x y:T,ltOf (λx y:T=>Lib.compareInt (key x) (key y)) x y=decide (key x<key y):=λx y=>by
  unfold ltOf Lib.compareInt
  by_cases h1:key x<key y
  ·simp[h1]
  ·by_cases h2:key y<key x<;>simp[h1,h2]
 refine⟨λx=>?_,λx y z h1 h2=>?_,λx y z h1 h2=>?_⟩
 ·rw[e];simp
 ·rw[e]at *;simp at *;omega
 ·rw[e]at *;simp at *;omega
theorem V7{T:Type}(key:T→Int)(x y:T):ltOf (λx y:T=>Lib.compareInt (key x) (key y)) x y=decide (key x<key y):=by
 unfold ltOf Lib.compareInt
 by_cases h1:key x<key y
 ·simp[h1]
 ·by_cases h2:key y<key x<;>simp[h1,h2]
theorem jA{T:Type}{key:T→Int}:∀{a b:List T},a.Perm b→a.Pairwise (λx y=>key x≤key y)→b.Pairwise (λx y=>key x<key y)→a=b
 | [],b,h,_,_=>(List.nil_perm.mp h).symm
 | x::a,[],h,_,_=>absurd h.length_eq (by simp)
 | x::a,y::b,h,h1,h2=>by
  have hxy:x=y:=by
   have m1:=h.mem_iff.mp (List.mem_cons_self (a:=x) (l:=a))
   have m2:=h.mem_iff.mpr (List.mem_cons_self (a:=y) (l:=b))
   rcases List.mem_cons.mp m1 with e|m1
   ·exact e
   rcases List.mem_cons.mp m2 with e|m2
   ·exact e.symm
   have g1:=(List.pairwise_cons.mp h1).1 y m2
   have g2:=(List.pairwise_cons.mp h2).1 x m1
   omega
  subst hxy
  rw[jA ((List.perm_cons _).mp h) (List.pairwise_cons.mp h1).2 (List.pairwise_cons.mp h2).2]
theorem HH{α:Type}[Inhabited α]{enc:α→List Value}{k:Nat}{w:World}{blk n:Nat}{d:Array α}{os:Array Obj}{C:Array Value}{ty:TypeId}(h:w.heap[blk]?=some (.cells C ty (0,0))) :
  (sortWorldK enc k w blk 0 n d os).heap[blk]?=some (.cells (putCells id 0 (flatK enc k d) C) ty (0,0))∧(∀b,b<w.heap.size→b≠blk→(sortWorldK enc k w blk 0 n d os).heap[b]?=w.heap[b]?) ∧
  w.heap.size≤(sortWorldK enc k w blk 0 n d os).heap.size:=by
 have hb:blk<w.heap.size:=(Array.getElem?_eq_some_iff.mp h).1
 have e:(sortWorldK enc k w blk 0 n d os).heap=w.heap.modify blk (onCells (putCells id 0 (flatK enc k d)))++os:=rfl
 rw[e]
 refine⟨?_,λb h1 h2=>?_,by simp⟩
 ·rw[Array.getElem?_append_left (by simpa using hb),Array.getElem?_modify,if_pos rfl,h];rfl
 ·rw[Array.getElem?_append_left (by simpa using h1),Array.getElem?_modify,if_neg (Ne.symm h2)]
theorem KD{F C:Array Value}(h:F.size≤C.size):(putCells id 0 F C).toList.take F.size=F.toList∧(putCells id 0 F C).size=C.size:=by
 have hs:(putCells id 0 F C).size=C.size:=by simp[putCells]
 refine⟨List.ext_getElem (by simp[hs];omega) λi h1 h2=>?_,hs⟩
 have hi:i<F.size:=by simpa using h2
 simp[putCells,hi]
theorem Ap{P:Program}{ρ:Ren}(L:SlLaysF0.n6 P ρ){T:Type}(v:T→AV)(key:T→Int)(k:Nat)(k0:0<k)
  (aE:∀w,(isAgg (ρ.t 24)).run P w=.ok true w) (zE:∀w,(Go.sizeOf (ρ.t 24)).run P w=.ok k w) (hv:∀x,∃cs,v x=.agg (.int (key x)::cs))
  (g:Nat) (eg:∀args w,(callFunc g args).run P w=.ok (.enter g args) w)
  (hcmp:∀(a b:Int) (xs ys:List Value) (w:World),xs.length+1=k→ys.length+1=k→(∀u∈xs,u.oneCell'=true)→(∀u∈ys,u.oneCell'=true) →
   Calls P g #[.agg (Value.int .i64 a::xs).toArray,.agg (Value.int .i64 b::ys).toArray] w λe w'=>e=.returned (.int .i64 (Lib.compareInt a b))∧∃q os',w'=grow (w.drewN q) os')
  (l l':List T) (hp:l'.Perm l) (hs:l'.Pairwise λx y=>key x<key y) (hl:l.length≤1000000) :
  bl P (ρ.f 6) [.vec 0,.func g []] [.vec k (l.map v)] (.tup []) [some (.vec k (l'.map v))]:=by
 intro w A μ cargs hH hmu hargs
 obtain⟨c0,_,rfl,h0,c1,_,rfl,h1,rfl⟩:=hargs
 obtain⟨hd,hm,rfl⟩:=h0
 obtain⟨_,rfl,rfl⟩:=h1
 obtain⟨hd',hm',hb,hA⟩:=hH.blk 0 _ rfl
 rw[hm]at hm';cases hm'
 obtain⟨hk,hb⟩:=hb
 have none_:∀p cap,hd.val=.slice p 0 cap→l=[]→Calls P (ρ.f 6) [hd.val,Value.func (.func g) #[] ([]:List Value).toArray].toArray w λe w'=>∃v_1 A' μ',e=.returned v_1∧RV w' A' (.tup []) μ' v_1∧qe P w' A' μ' (bS [some (.vec k (l'.map v))])∧bv μ μ'∧Ext (dP μ (bS ([Blk.vec k (l.map v)].map some))) w w' ∧
   (∀b,A b→A' b)∧(∀b,A' b→A b∨dP μ (bS ([Blk.vec k (l.map v)].map some)) b∨w.heap.size≤b) ∧
   (∀b,dP μ' (bS [some (.vec k (l'.map v))]) b→dP μ (bS ([Blk.vec k (l.map v)].map some)) b∨w.heap.size≤b):=by
  intro p cap e0 e1
  subst e1
  obtain rfl:=List.perm_nil.mp hp
  rw[e0]
  refine(AnyF.slices_SortFunc_none L p cap (.func (.func g) #[] #[]) w).mono ?_
  rintro e w' ⟨rfl,rfl⟩
  exact⟨_,A,μ,rfl,⟨[],rfl,rfl⟩,hH,bv.refl _,⟨rfl,rfl,rfl,Nat.le_refl _,λ_ _ _=>rfl⟩,λb h=>h,λb h=>.inl h,λb h=>.inl h⟩
 rcases hb with⟨he,ha⟩|⟨he,hlen,hle,hcap,C,ty,vs,hheap,hrvl,hsol,hsz,hC,htake⟩
 ·obtain⟨a,ha⟩:=Option.isSome_iff_exists.mp ha
  exact none_ a 0 (by unfold Hd.val;rw[ha]) (by simpa using he)
 obtain⟨ds,e1,rfl,e3⟩:=SE.list hv hrvl hsz
 have hval:hd.val=.slice (some ⟨hd.blk,0,none⟩) hd.len hd.cap:=by unfold Hd.val;rw[he]
 have hlen':hd.len=ds.length:=by rw[hlen,←e1];simp
 match hds:ds with
 | []=>exact none_ _ _ (by rw[hval,hlen'];rfl) (by rw[←e1];rfl)
 | p0::ds' =>
  rw[←hds]at e1 e3 htake hlen' hrvl hsz
  haveI:Inhabited (SE key k):=⟨p0⟩
  obtain⟨nA,hblk⟩:=hA he
  have hk1:∀x:SE key k,x.cs.length=k:=λx=>x.ok.1
  have hC':C.toList.take (ds.length * k)=(flatK SE.cs k ds.toArray).toList:=by
   rw[pr _ _ k0 hk1,←hlen',htake,List.flatMap_map]
   rfl
  have hsz':ds.length * k≤C.size:=by rw[←hlen'];exact Nat.le_trans (Nat.mul_le_mul_right _ hle) hC
  have hHK:HoldsK SE.cs k w hd.blk 0 ds.toArray:=by
   intro j hj
   have hj':j<ds.length * k:=by simpa using hj
   refine⟨?_,by simp[World.frozen?,hheap]⟩
   have:(C.toList.take (ds.length * k))[j]?=(flatK SE.cs k ds.toArray).toList[j]?:=by rw[hC']
   rw[List.getElem?_take,if_pos hj']at this
   simp only[World.cell?,hheap,Nat.zero_add,Option.isSome_none,Bool.false_eq_true,if_false,id]
   rw[getElem!_pos _ j hj,←Array.getElem?_eq_getElem hj]
   simpa using this
  have key_:=AnyQ.slices_SortFunc L k aE zE SE.cs hk1 (λx=>x.ok.2.1) (λx y=>Lib.compareInt (key x.x) (key y.x)) (Pr λp:SE key k=>key p.x) g #[] hd.blk 0 hd.cap ds.toArray w eg
   (λm os dk _ x y=>by
    obtain⟨rx,hx⟩:=x.ok.2.2
    obtain⟨ry,hy⟩:=y.ok.2.2
    have lx:=x.ok.1;have ly:=y.ok.1
    have ox:=x.ok.2.1;have oy:=y.ok.2.1
    have ex:x.cs=.int .i64 (key x.x)::rx:=hx
    have ey:y.cs=.int .i64 (key y.x)::ry:=hy
    rw[hx]at lx ox;rw[hy]at ly oy
    rw[ex,ey,Array.append_empty]
    exact hcmp _ _ rx ry _ lx ly (λu hu=>ox u (List.mem_cons_of_mem _ hu)) (λu hu=>oy u (List.mem_cons_of_mem _ hu))) hHK hblk (by
    have:ds.length=l.length:=by rw[←e1];simp
    show ds.length<_
    omega)
  rw[hval,hlen']
  refine key_.mono ?_
  rintro e w' ⟨rfl,d',n,os,⟨ps,-,pp⟩,hsrt,rfl⟩
  have pp:d'.toList.Perm ds:=by
   have q1:d'.extract 0 ds.toArray.size=d':=by rw[←ps];simp
   have q2:ds.toArray.extract 0 ds.toArray.size=ds.toArray:=by simp
   rw[q1,q2]at pp
   simpa using pp
  have el:d'.toList.map SE.x=l':=by
   refine jA ((pp.map _).trans ?_) ?_ hs
   ·rw[e1];exact hp.symm
   ·rw[List.pairwise_map,List.pairwise_iff_getElem]
    intro i j hi hj hij
    have hi':i<d'.size:=by simpa using hi
    have hj':j<d'.size:=by simpa using hj
    have:=hsrt i j (Nat.zero_le _) hij (by rw[←ps];exact hj')
    rw[V7 (λp:SE key k=>key p.x),getElem!_pos _ j hj',getElem!_pos _ i hi']at this
    simpa using this
  have len':d'.size=ds.length:=by rw[ps];rfl
  obtain⟨hp1,hp2,hp3⟩:=HH (enc:=SE.cs) (k:=k) (n:=n) (d:=d') (os:=os) hheap
  have hF:(flatK SE.cs k d').size≤C.size:=by rw[size_flatK,len'];exact hsz'
  obtain⟨q1,q2⟩:=KD hF
  have same:dc A w (sortWorldK SE.cs k w hd.blk 0 n d' os):=λb hb=>hp2 b (hH.lt b hb) (λe=>nA (e ▸ hb))
  have own:dP μ (bS ([Blk.vec k (l.map v)].map some)) hd.blk:=⟨0,_,hd,rfl,hm,he,rfl⟩
  refine⟨_,A,μ,rfl,⟨[],rfl,rfl⟩,⟨λb x hx=>?_,λb b' x x' hd1 hd2 hx hx' _ _ _ _ _=>?_,hH.lt.mono same (λ_ h=>h) λb hb=>Nat.lt_of_lt_of_le (hH.lt b hb) hp3⟩,bv.refl _,
   ⟨rfl,rfl,rfl,hp3,λb h1 h2=>hp2 b h1 λe=>h2 (e ▸ own)⟩,λ_ h=>h,λ_ h=>.inl h,?_⟩
  ·have hx0:b=0:=by
    cases b with
    | zero=>rfl
    | succ b=>simp[bS]at hx
   subst hx0
   have hx:some (Blk.vec k (l'.map v))=some x:=hx
   cases hx
   refine⟨hd,hm,⟨hk,.inr ⟨he,?_,hle,hcap,_,ty,d'.toList.map (λp=>.agg p.cs.toArray),hp1,?_,?_,?_,?_,?_⟩⟩,λ_=>⟨nA,Nat.lt_of_lt_of_le hblk hp3⟩⟩
   ·rw[hlen',←el];simp[len']
   ·rw[←el]
    exact RVL.mono same (λ_ h=>h) _ (bv.refl _) (SE.rvl λp hp=>e3 p (pp.mem_iff.mp hp))
   ·intro x hx
    obtain⟨y,_,rfl⟩:=List.mem_map.mp hx
    obtain⟨cs,hc⟩:=hv y
    rw[hc];rfl
   ·intro u hu
    obtain⟨p,_,rfl⟩:=List.mem_map.mp hu
    simpa[Value.cells]using hk1 p
   ·rw[q2];exact hC
   ·have:=pr SE.cs k k0 hk1 d'
    rw[size_flatK,len',←hlen']at q1
    rw[q1,this,List.flatMap_map]
    rfl
  ·have z:∀{b x},bS [some (Blk.vec k (l'.map v))] b=some x→b=0:=λ{b x} h=>by
    cases b with
    | zero=>rfl
    | succ b=>simp[bS]at h
   rw[z hx,z hx']
  ·rintro b ⟨b',x,hd1,hx,hm1,he1,rfl⟩
   have hx0:b'=0:=by
    cases b' with
    | zero=>rfl
    | succ b=>simp[bS]at hx
   subst hx0
   rw[hm]at hm1;cases hm1
   exact .inl own
end Go.Am
