/- Texts joined: SO FM2 RD4 RD5 RD6 RD7 TC5 TC6 SR1 DT1 P1 DT2 DT3 DT4. -/
import Derived.Test.YtdbdndmdbbihbaaGreatDoorSh
import Derived.Test.YtdbdndmdbbihbaaGreatDoorChecked
import Derived.Test.YtdbdndmdbbihbaaGreatDoorQP5
set_option linter.unusedVariables false
set_option linter.unusedSimpArgs false
set_option linter.unusedSectionVars false
namespace Go.Proofs.YtdbdndmdbbihbaaGreatDoor
open Go Go.Am
open Go.Shelf Go.RowKit Go.Lib Go.Sort in
theorem zh(a b:Int)(x1 y1:Value)(w:World)(hx:x1.oneCell'=true)(hy:y1.oneCell'=true) :
  Calls Tryz.prog 193 #[.agg #[.int .i64 a,x1],.agg #[.int .i64 b,y1]] w λe w'=>e=.returned (.int .i64 (Lib.compareInt a b))∧∃q os',w'=grow (w.drewN q) os':=by
 have hcon:=λW'=>AnyG.cmp_Compare_int Tryz.cmpI a b W'
 change ∀W',Calls Tryz.prog 154 _ _ _ at hcon
 generalize Lib.compareInt a b=r at hcon ⊢
 go_enter Tryz.func193,Tryz.ntmps193
 go_wp2_with (go_at_call 154;refine(hcon _).mono ?_;rintro e w' ⟨rfl,rfl⟩)
 go_ret
 exact⟨rfl,0,_,by rw[alloc_eq_grow,alloc_eq_grow,grow_grow];rfl⟩
def Gv(l:List Stp):Prop:=l.length≤1000000∧l.Pairwise λa b=>a.to≠b.to
def gK(l:List Stp):List Stp:=l.mergeSort λa b=>decide (a.to≤b.to)
theorem eV(l:List Stp):(gK l).Perm l:=List.mergeSort_perm _ _
theorem rY{l:List Stp}(h:Gv l):(gK l).Pairwise λa b=>a.to<b.to:=by
 have h1:(gK l).Pairwise λa b=>decide (a.to≤b.to)=true:=List.pairwise_mergeSort (λa b c h1 h2=>by simp at *;omega) (λa b=>by simp;omega) l
 have h2:(gK l).Pairwise λa b=>a.to≠b.to:=(List.Perm.pairwise_iff (λh=>Ne.symm h) (eV l)).mpr h.2
 exact(h1.and h2).imp λ⟨h1,h2⟩=>by simp at h1;omega
open Go.Shelf Go.RowKit Go.Lib Go.Sort in
theorem vw(l:List Stp)(h:Gv l):bc Tryz.prog 192 [.vec 0,.func 193 []] [.vec 2 (l.map Stp.v)] (.tup []) [some (.vec 2 ((gK l).map Stp.v))]:=by
 refine vu Tryz.sortW Stp.v Stp.to 2 (by omega) (λ_=>by kernel_rfl) (λ_=>by kernel_rfl) (λx=>⟨_,rfl⟩) 193 (enters_of Tryz.func193 (by kernel_rfl) rfl) ?_ l (gK l) (eV l) (rY h) h.1
 intro a b xs ys w hx hy ox oy
 match xs,hx with
 | [x1],_ =>
 match ys,hy with
 | [y1],_=>exact zh a b x1 y1 w (ox x1 (by simp)) (oy y1 (by simp))
theorem av.give3{k n:Nat}{s s':S3}(b:Nat)(hnx:s'.nx=s.nx)(h1:s'.tm=s.tm)
  (h2:∀b' x,s'.hp b'=some x→b'≠b∧(s.hp b'=some x∨∃kk ks es es',s.hp b'=some (.map kk ks es)∧x=.map kk ks es'∧cL b s.hp es es'∧((∀z∈es,z.solid=true)→∀z∈es',z.solid=true))) (hb:s.hp b≠none):av k n s s':=by
 rintro P c a w ⟨h0,A,μ,H⟩
 have hle:∀k,A k→A k∨∃hd,μ b=some hd∧hd.emp=none∧hd.blk=k:=λ_ h=>.inl h
 have hlive:∃x hd,s.hp b=some x∧μ b=some hd∧(hd.emp=none→¬A hd.blk∧hd.blk<w.heap.size∧(c.own hd.blk∨c.w.heap.size≤hd.blk)):=by
  cases hx:s.hp b with
  | none=>exact absurd hx hb
  | some x=>obtain⟨hd,e1,_,e3⟩:=H.blk b x hx;exact⟨x,hd,rfl,e1,e3⟩
 obtain⟨xb,hdb,hxb,hmb,hpb⟩:=hlive
 have hsub:∀b' x,s'.hp b'=some x→b'≠b∧∃y,s.hp b'=some y:=by
  intro b' x hx
  obtain⟨e1,e2|⟨kk,ks,es,es',e2,_⟩⟩:=h2 b' x hx
  ·exact⟨e1,_,e2⟩
  ·exact⟨e1,_,e2⟩
 refine⟨h0,λk=>A k∨∃hd,μ b=some hd∧hd.emp=none∧hd.blk=k,μ,λt=>?_,H.n,H.df,λb' x hx=>?_,λb1 b2 x x' hd hd' hx hx'=>?_,?_,λb' hb'=>?_,H.keep,λb' hb'=>.inl (H.A0 b' hb'),?_,H.mu⟩
 ·rw[h1];exact(H.tm t).mono (ct.refl A w) hle _ (bh.refl _)
 ·obtain⟨hne,y,hy⟩:=hsub b' x hx
  obtain⟨hd,g1,g2,g3⟩:=H.blk b' y hy
  refine⟨hd,g1,?_,λhe=>⟨?_,(g3 he).2⟩⟩
  ·rcases(h2 b' x hx).2 with e|⟨kk,ks,es,es',e1,e2,e4,e5⟩
   ·rw[hy]at e;cases e
    exact g2.mono (ct.refl A w) hle (bh.refl _) (λ_=>rfl)
   ·rw[hy]at e1;cases e1
    subst e2
    obtain⟨q1,ents,ck,r1,r2,r3,r4⟩:=g2
    exact⟨q1,ents,ck,r1,r2,e4.rvl H r3,e5 r4⟩
  ·rintro(h|⟨hd2,k1,k2,k3⟩)
   ·exact(g3 he).1 h
   ·exact hne (H.inj _ _ _ _ _ _ hy hxb g1 k1 he k2 k3.symm)
 ·obtain⟨_,y,hy⟩:=hsub b1 x hx
  obtain⟨_,y',hy'⟩:=hsub b2 x' hx'
  exact H.inj _ _ _ _ _ _ hy hy'
 ·refine H.lt.mono (ct.refl A w) hle ?_
  rintro k (h|⟨hd,k1,k2,rfl⟩)
  ·exact H.lt k h
  ·rw[hmb]at k1;cases k1;exact(hpb k2).2.1
 ·rw[hnx]at hb'
  obtain⟨q1,q2⟩:=H.fr b' hb'
  refine⟨q1,?_⟩
  cases hx:s'.hp b' with
  | none=>rfl
  | some x=>obtain⟨_,y,hy⟩:=hsub b' x hx;rw[q2]at hy;cases hy
 ·rintro k (h|⟨hd,k1,k2,rfl⟩)
  ·exact H.A1 k h
  ·rw[hmb]at k1;cases k1;exact .inr (hpb k2).2.2
theorem av.giveM{k n:Nat}{tm:Nat→AV}{hp:Hp}{nx kk:Nat}{kq:Option Nat}{ks:List MK}{vs es:List AV}(b0 i b:Nat)(h0:hp b0=some (.map kq ks vs))(hi:vs[i]?=some (.vec b))(hb:hp b=some (.vec kk es))(hx:bO es) :
  av k n ⟨tm,hp,nx⟩ ⟨tm,upd (upd hp b none) b0 (some (.map kq ks (vs.set i (.sl kk es false)))),nx⟩:=by
 have hne:b0≠b:=λe=>by subst e;rw[h0]at hb;cases hb
 refine av.give3 b rfl rfl (λb' x hx'=>?_) (by show hp b≠none;rw[hb];simp)
 have hx':upd (upd hp b none) b0 (some (.map kq ks (vs.set i (.sl kk es false)))) b'=some x:=hx'
 by_cases e:b'=b0
 ·subst e;rw[ai]at hx';cases hx'
  exact⟨hne,.inr ⟨kq,ks,vs,_,h0,rfl,cL.set hi (ba.vec hb hx),λh z hz=>by
   rcases List.mem_or_eq_of_mem_set hz with hz|rfl
   ·exact h z hz
   ·rfl⟩⟩
 ·rw[al _ _ e]at hx'
  by_cases e2:b'=b
  ·subst e2;rw[ai]at hx';cases hx'
  ·rw[al _ _ e2]at hx';exact⟨e2,.inl hx'⟩
theorem av.giveRows{k n:Nat}{tm:Nat→AV}{nx kk:Nat}{kq:Option Nat}{ks:List MK}{vs:List AV}{hp:Hp}(b0:Nat)(f:Nat→Nat)(es:Nat→List AV)(he:∀i,bO (es i))(hf:∀i j,f i=f j→i=j)(hf0:∀i,f i≠b0)(h0:hp b0=some (.map kq ks vs)):∀m:Nat,
  (∀i,i<m→vs[i]?=some (.vec (f i))∧hp (f i)=some (.vec kk (es i))) →
  ∃hp' vs',av k n ⟨tm,hp,nx⟩ ⟨tm,hp',nx⟩∧hp' b0=some (.map kq ks vs')∧vs'.length=vs.length∧(∀i,i<m→vs'[i]?=some (.sl kk (es i) false))∧(∀i,m≤i→vs'[i]?=vs[i]?)∧∀b,b≠b0→(∀i,i<m→b≠f i)→hp' b=hp b
 | 0,_=>⟨hp,vs,av.refl,h0,rfl,λi h=>absurd h (by omega),λ_ _=>rfl,λ_ _ _=>rfl⟩
 | m+1,h=>by
  obtain⟨hp1,vs1,w,a1,a2,a3,a4,a5⟩:=av.giveRows b0 f es he hf hf0 h0 m λi hi=>h i (by omega)
  obtain⟨g1,g2⟩:=h m (by omega)
  have hl:m<vs1.length:=by rw[a2];exact(List.getElem?_eq_some_iff.mp g1).1
  refine⟨_,_,w.trans (av.giveM b0 m (f m) a1 (by rw[a4 m (Nat.le_refl _)];exact g1) (by rw[a5 (f m) (hf0 m) λi hi e=>by have:=hf _ _ e;omega];exact g2) (he m)),ai _ _ _,by rw[List.length_set,a2],λi hi=>?_,λi hi=>?_,λb hb hb'=>?_⟩
  ·rw[List.getElem?_set]
   by_cases e:m=i
   ·subst e;rw[if_pos rfl,if_pos hl]
   ·rw[if_neg e];exact a3 i (by omega)
  ·rw[List.getElem?_set,if_neg (by omega)];exact a4 i (by omega)
  ·rw[al _ _ hb,al _ _ (hb' m (by omega))]
   exact a5 b hb λi hi=>hb' i (by omega)
theorem av.giveBM{k n:Nat}{tm:Nat→AV}{hp:Hp}{nx:Nat}{kq:Option Nat}{ks:List MK}{vs cs:List AV}(b0 i b:Nat)(h0:hp b0=some (.box (.agg cs)))(hi:cs[i]?=some (.mref b))(hb:hp b=some (.map kq ks vs))(hx:bO vs)(hs':(AV.agg (cs.set i (.mp kq ks vs))).solid=true) :
  av k n ⟨tm,hp,nx⟩ ⟨tm,upd (upd hp b none) b0 (some (.box (.agg (cs.set i (.mp kq ks vs))))),nx⟩:=by
 have hne:b0≠b:=λe=>by subst e;rw[h0]at hb;cases hb
 refine av.give b rfl (λu=>.inr ba.refl) (λb' x hx'=>?_) (by show hp b≠none;rw[hb];simp)
 have hx':upd (upd hp b none) b0 (some (.box (.agg (cs.set i (.mp kq ks vs))))) b'=some x:=hx'
 by_cases e:b'=b0
 ·subst e;rw[ai]at hx';cases hx'
  exact⟨hne,.inr ⟨_,_,h0,rfl,hs',ba.agg (cL.set hi (ba.map hb hx))⟩⟩
 ·rw[al _ _ e]at hx'
  by_cases e2:b'=b
  ·subst e2;rw[ai]at hx';cases hx'
  ·rw[al _ _ e2]at hx';exact⟨e2,.inl hx'⟩
theorem bj.ownV{P:Program}{fid:FuncId}{n:Nat}{hp:Hp}{es es' args:List AV}{kk b f:Nat}{r:AV}(hs:bc P fid (.vec 0::args) [.vec kk es] r [some (.vec kk es')])(hf:nj P fid)
  (h0:bO args) (h1:bO es) (h2:bO es') (h3:r.pure) (hb:hp b=some (.vec kk es)):bj P n fid (.vec b::args) f hp [b] r (ft [(b,some (.vec kk es'))]):=by
 have key:=bj.hand (n:=n) (f:=f) (hp:=hp) hf hs [b] rfl (by simp) ⟨show(0:Nat)<1 by omega,bg h0⟩ (λi b' x e1 e2=>by
  match i with
  | 0=>simp at e1 e2;subst e1;subst e2;exact⟨bg h1,by rw[hb];simp only[Blk.ren,be _ h1]⟩
  | i+1=>simp at e1) (by simp) (by simp) (AV.bel_pure h3) (λy hy=>by simp at hy;subst hy;exact bg h2)
 have e0:aR [b] f 0=b:=by simp[aR]
 have e3:ek [b] f [some (Blk.vec kk es')]=ft [(b,some (.vec kk es'))]:=by simp[ek,List.zipIdx,e0,Blk.ren,be _ h2]
 rw[e3]at key
 simpa only[dQ,be _ h0,AV.ren,AV.ren_pure _ h3,e0]using key
theorem Ip{P:Program}{n:Nat}{tm:Nat→AV}{hp:Hp}{fid:FuncId}{d:Option Nat}{g:AO}{xs:List AO}{os:List aF}{f:Nat}{K:S2→Nat→Prop}{es es' args:List AV}{r:AV}{kk b:Nat}
  (hs:bc P fid (.vec 0::args) [.vec kk es] r [some (.vec kk es')]) (hf:nj P fid) (h0:bO args) (h1:bO es) (h2:bO es') (h3:r.pure) (hg:evO tm g=.func fid [])
  (hx:xs.map (evO tm)=.vec b::args) (hb:hp b=some (.vec kk es)) (hK:evT P n os (f+16) ⟨aH d r tm,upd hp b (some (.vec kk es'))⟩ K):evT P n (⟨d,.call g xs,none⟩::os) f ⟨tm,hp⟩ K:=
 tO hg (by simpa using hx) (bj.ownV hs hf h0 h1 h2 h3 hb) (by rw[DF];exact hK)
def fq(ls:List Lnk)(x:Int):List Stp:=ls.flatMap λl=>if l.a=x then [⟨l.b,l.ca⟩]else if l.b=x then [⟨l.a,l.cb⟩]else []
def inS(ls:List Lnk)(x:Int):List Stp:=ls.flatMap λl=>if l.b=x then [⟨l.a,l.ca⟩]else if l.a=x then [⟨l.b,l.cb⟩]else []
theorem fB{M:List (List Stp)}{x j:Nat}{s:Stp}{r:List Stp}(h:M[j]?=some r):(apR M x s)[j]?=some (if x=j then r++[s]else r):=by
 unfold apR
 rw[List.getElem?_set]
 by_cases e:x=j
 ·subst e
  rw[if_pos rfl,if_pos (ap h),if_pos rfl,List.getD_eq_getElem?_getD,h];rfl
 ·rw[if_neg e,if_neg e,h]
theorem BG{t:Tpl}(hnd:(t.rs.map (·.id)).Nodup){i:Nat}{r:Rtr}(h:t.rs[i]?=some r){a:Int}(ha:aK t a=true):ix5 t a=i↔a=r.id:=by
 have h1:(t.rs.map (·.id))[i]?=some r.id:=by rw[List.getElem?_map,h];rfl
 have h2:=qf ha
 constructor
 ·intro e;rw[e,h1]at h2;exact(Option.some.inj h2).symm
 ·intro e;subst e;exact(dI hnd h1 h2).symm
theorem lS{t:Tpl}(hnd:(t.rs.map (·.id)).Nodup):∀(m:Nat) (ls:List Lnk),ls.length=m→(∀l∈ls,(aK t l.a=true∧aK t l.b=true)∧l.a<l.b)→∀i r,t.rs[i]?=some r →
  (dL t ls)[2 * i]?=some (fq ls r.id)∧(dL t ls)[2 * i+1]?=some (inS ls r.id)
 | 0,ls,hm,hl,i,r,h=>by
  obtain rfl:=List.length_eq_zero_iff.mp hm
  have:=ap h
  unfold dL
  rw[List.foldl_nil,List.getElem?_replicate,List.getElem?_replicate,if_pos (by omega),if_pos (by omega)]
  exact⟨rfl,rfl⟩
 | m+1,ls,hm,hl,i,r,h=>by
  obtain⟨ls',l,rfl⟩:∃ls' l,ls=ls'++[l]:=⟨ls.dropLast,ls.getLast (by intro e;subst e;cases hm),(List.dropLast_concat_getLast _).symm⟩
  have hm':ls'.length=m:=by simpa using hm
  obtain⟨g1,g2⟩:=lS hnd m ls' hm' (λx hx=>hl x (by simp[hx])) i r h
  obtain⟨⟨ha,hb⟩,hab⟩:=hl l (by simp)
  have e:dL t (ls'++[l])=pY t (dL t ls') l:=by unfold dL;rw[List.foldl_append];rfl
  have ea:=BG hnd h ha
  have eb:=BG hnd h hb
  rw[e]
  unfold pY
  rw[fB (fB (fB (fB g1))),fB (fB (fB (fB g2)))]
  have o1:fq (ls'++[l]) r.id=fq ls' r.id++(if l.a=r.id then [⟨l.b,l.ca⟩]else if l.b=r.id then [⟨l.a,l.cb⟩]else []):=by unfold fq;rw[List.flatMap_append];simp
  have o2:inS (ls'++[l]) r.id=inS ls' r.id++(if l.b=r.id then [⟨l.a,l.ca⟩]else if l.a=r.id then [⟨l.b,l.cb⟩]else []):=by unfold inS;rw[List.flatMap_append];simp
  rw[o1,o2]
  have f1:∀q:Nat,¬(2 * q+1=2 * i):=λq=>by omega
  have f2:∀q:Nat,¬(2 * q=2 * i+1):=λq=>by omega
  have f3:∀q:Nat,(2 * q=2 * i)=(q=i):=λq=>propext ⟨λ_=>by omega,λ_=>by omega⟩
  have f4:∀q:Nat,(2 * q+1=2 * i+1)=(q=i):=λq=>propext ⟨λ_=>by omega,λ_=>by omega⟩
  simp only[f1,f2,f3,f4,ea,eb,if_false]
  by_cases h1:l.a=r.id
  ·have h2:¬l.b=r.id:=by omega
   simp[h1,h2]
  ·by_cases h2:l.b=r.id
   ·simp[h1,h2]
   ·simp[h1,h2]
theorem kS{t:Tpl}(hc:aB t=0)(x:Int):Gv (fq t.ls x):=by
 have hO:=aw hc
 constructor
 ·have:∀ls:List Lnk,(fq ls x).length≤ls.length:=λls=>by
   induction ls with
   | nil=>exact Nat.le_refl _
   | cons l ls ih =>
    have e:fq (l::ls) x=(if l.a=x then [⟨l.b,l.ca⟩]else if l.b=x then [⟨l.a,l.cb⟩]else [])++fq ls x:=rfl
    rw[e,List.length_append]
    have:(if l.a=x then [(⟨l.b,l.ca⟩:Stp)]else if l.b=x then [⟨l.a,l.cb⟩]else []).length≤1:=by split<;>(try split)<;>simp
    simp only[List.length_cons];omega
  have:=this t.ls;have:=hO.nl;omega
 ·unfold fq
  rw[List.pairwise_flatMap]
  refine⟨λl hl=>by split<;>(try split)<;>simp,?_⟩
  have hlt:=hO.lt
  refine List.Pairwise.imp_of_mem (λ{l1 l2} m1 m2 h s1 h1 s2 h2=>?_) hO.ord
  have a1:=hlt l1 m1
  have a2:=hlt l2 m2
  unfold cP at h
  (repeat' split at h1)<;>(repeat' split at h2)<;>simp at h1 h2<;>subst h1<;>subst h2<;>simp only[ne_eq]<;>omega
def gL(st seen:List Nat)(M:List (List Stp)):List (List Stp):=M.mapIdx λj r=>if j % 2=0∧st.getD (j / 2) 0∈seen then gK r else r
theorem ep(st seen:List Nat)(M:List (List Stp)):(gL st seen M).length=M.length:=by simp[gL]
theorem Fa(st:List Nat)(M:List (List Stp)):gL st [] M=M:=by
 refine List.ext_getElem? λi=>?_
 simp only[gL,List.getElem?_mapIdx]
 simp
theorem Fb{st seen:List Nat}{M:List (List Stp)}{i s0:Nat}{r:List Stp}(h:M[2 * i]?=some r)(hs:st[i]?=some s0)(h0:s0 ∉ seen):(gL st seen M)[2 * i]?=some r:=by
 have e:st.getD i 0=s0:=by rw[List.getD_eq_getElem?_getD,hs];rfl
 simp only[gL,List.getElem?_mapIdx,h,Option.map_some,show 2 * i / 2=i by omega,e]
 rw[if_neg (λh=>h0 h.2)]
theorem Dt{st seen:List Nat}{M:List (List Stp)}{i s0:Nat}{r:List Stp}(h:M[2 * i]?=some r)(hs:st[i]?=some s0)(hn:st.Nodup)(hM:M.length=2 * st.length):gL st (seen++[s0]) M=(gL st seen M).set (2 * i) (gK r):=by
 have hil:=ap hs
 refine List.ext_getElem? λj=>?_
 rw[List.getElem?_set]
 by_cases e:2 * i=j
 ·subst e
  have e:st.getD i 0=s0:=by rw[List.getD_eq_getElem?_getD,hs];rfl
  rw[if_pos rfl,if_pos (by rw[ep];omega)]
  simp only[gL,List.getElem?_mapIdx,h,Option.map_some,show 2 * i / 2=i by omega,e]
  rw[if_pos ⟨by omega,by simp⟩]
 ·rw[if_neg e]
  simp only[gL,List.getElem?_mapIdx]
  cases hj:M[j]? with
  | none=>rfl
  | some q =>
   have hjl:=ap hj
   simp only[Option.map_some]
   congr 1
   by_cases h2:j % 2=0
   ·have hk:j / 2<st.length:=by omega
    have hne:st.getD (j / 2) 0≠s0:=λe'=>by
     rw[List.getD_eq_getElem?_getD,List.getElem?_eq_getElem hk]at e'
     have e':st[j / 2]?=some s0:=by rw[List.getElem?_eq_getElem hk];exact congrArg some e'
     have:=dI hn e' hs
     omega
    have e3:(st.getD (j / 2) 0∈seen++[s0])=(st.getD (j / 2) 0∈seen):=propext ⟨λh=>(List.mem_append.mp h).elim id λh=>absurd (List.mem_singleton.mp h) hne,λh=>List.mem_append_left _ h⟩
    simp only[e3]
   ·simp[h2]
def c9(t:Tpl):Lks:=t.rs.map λr=>(r.id,gK (fq t.ls r.id))
def inG(t:Tpl):Lks:=t.rs.map λr=>(r.id,inS t.ls r.id)
theorem Fc{t:Tpl}(hc:aB t=0){st seen:List Nat}(h:∀s∈st,s∈seen)(hs:st.length=t.rs.length){i:Nat}{r:Rtr}(hr:t.rs[i]?=some r) :
  (gL st seen (dL t t.ls))[2 * i]?=some (gK (fq t.ls r.id))∧(gL st seen (dL t t.ls))[2 * i+1]?=some (inS t.ls r.id):=by
 have hO:=aw hc
 have hnd:(t.rs.map (·.id)).Nodup:=List.Pairwise.map _ (λa b h=>by omega) hO.asc
 obtain⟨g1,g2⟩:=lS hnd _ t.ls rfl (λl hl=>⟨hO.has l hl,hO.lt l hl⟩) i r hr
 have hi:i<st.length:=by rw[hs];exact ap hr
 have e:st.getD i 0∈seen:=by rw[List.getD_eq_getElem?_getD,List.getElem?_eq_getElem hi];exact h _ (List.getElem_mem _)
 simp only[gL,List.getElem?_mapIdx,g1,g2,Option.map_some,show 2 * i / 2=i by omega]
 rw[if_pos ⟨by omega,e⟩,if_neg (by omega)]
 exact⟨rfl,rfl⟩
def rdE(t:Tpl):NF:=
 ⟨[(2,.k,.ref 1 0),(3,.k,.ref 2 0)],[.box (Tpl.v t),.box (.agg [.val (.map none),.val (.map none)]),.box (.agg [ig (c9 t),ig (inG t)])]⟩
theorem i8(r:List Stp):bO (r.map Stp.v):=aC (ab cj r)
theorem sY(L:Lks):bO (L.map λp=>AV.sl 2 (p.2.map Stp.v) false):=aC (ab (v:=λp:Int×List Stp=>AV.sl 2 (p.2.map Stp.v) false) (λ_=>rfl) L)
theorem QO(t:Tpl){k nx:Nat}{tm:Nat→AV}{hp:Hp}(t2:tm 2=.ref 1 0)(t3:tm 3=.ref 2 0)(h0:hp 0=some (.box (Tpl.v t)))(h1:hp 1=some (.box (.agg [.val (.map none),.val (.map none)])))(h2:hp 2=some (.box (.agg [.mref 3,.mref 4])))
  (h3:hp 3=some (.map none (kyN (t.rs.map (·.id))) (evN t.rs.length))) (h4:hp 4=some (.map none (kyN (t.rs.map (·.id))) (odN t.rs.length)))
  (hF:∀i r,t.rs[i]?=some r→hp (Fr (2 * i))=some (.vec 2 ((gK (fq t.ls r.id)).map Stp.v))∧hp (Fr (2 * i+1))=some (.vec 2 ((inS t.ls r.id).map Stp.v))):av 0 k ⟨tm,hp,nx⟩ (rdE t).st:=by
 have key:∀(f:Rtr→List Stp) (vs':List AV),vs'.length=t.rs.length→(∀i,i<t.rs.length→vs'[i]?=some (.sl 2 (((t.rs[i]?).elim [] f).map Stp.v) false))→vs'=(t.rs.map λr=>(r.id,f r)).map λp=>AV.sl 2 (p.2.map Stp.v) false:=λf vs' e1 e2=>by
  refine List.ext_getElem? λi=>?_
  by_cases hi:i<t.rs.length
  ·rw[e2 i hi,List.getElem?_map,List.getElem?_map,List.getElem?_eq_getElem hi];rfl
  ·rw[List.getElem?_eq_none (by omega),List.getElem?_eq_none (by simp;omega)]
 have ks:∀f:Rtr→List Stp,kyN (t.rs.map (·.id))=(t.rs.map λr=>(r.id,f r)).map λp=>MK.n p.1:=λf=>by unfold kyN;rw[List.map_map,List.map_map];rfl
 obtain⟨hp1,v1,w1,a1,a2,a3,_,a5⟩:=av.giveRows (k:=0) (n:=k) (tm:=tm) (nx:=nx) (kk:=2) 3 (λi=>Fr (2 * i)) (λi=>((t.rs[i]?).elim [] λr=>gK (fq t.ls r.id)).map Stp.v) (λi=>i8 _) (λi j h=>by unfold Fr at h;omega) (λi=>by unfold Fr;omega) h3 t.rs.length
  (λi hi=>⟨by rw[evN,List.getElem?_map,List.getElem?_range hi];rfl,by rw[List.getElem?_eq_getElem hi];exact(hF i _ (List.getElem?_eq_getElem hi)).1⟩)
 have b4:hp1 4=some (.map none (kyN (t.rs.map (·.id))) (odN t.rs.length)):=by rw[a5 4 (by decide) (λi _=>by unfold Fr;omega)];exact h4
 obtain⟨hp2,v2,w2,c1,c2,c3,_,c5⟩:=av.giveRows (k:=0) (n:=k) (tm:=tm) (nx:=nx) (kk:=2) 4 (λi=>Fr (2 * i+1)) (λi=>((t.rs[i]?).elim [] λr=>inS t.ls r.id).map Stp.v) (λi=>i8 _) (λi j h=>by unfold Fr at h;omega) (λi=>by unfold Fr;omega) b4 t.rs.length
  (λi hi=>⟨by rw[odN,List.getElem?_map,List.getElem?_range hi];rfl,by
   rw[List.getElem?_eq_getElem hi,a5 _ (by unfold Fr;omega) (λj _=>by unfold Fr;omega)]
   exact(hF i _ (List.getElem?_eq_getElem hi)).2⟩)
 have e1:=key (λr=>gK (fq t.ls r.id)) v1 (by rw[a2,j5]) a3
 have e2:=key (λr=>inS t.ls r.id) v2 (by rw[c2,js]) c3
 have lo:∀b,b<3→hp2 b=hp b:=λb hb=>by
  rw[c5 b (by omega) (λi _=>by unfold Fr;omega),a5 b (by omega) (λi _=>by unfold Fr;omega)]
 have m3:hp2 3=some (.map none (kyN (t.rs.map (·.id))) v1):=by rw[c5 3 (by decide) (λi _=>by unfold Fr;omega)];exact a1
 have z3:hp2 3=some (.map none ((c9 t).map λp=>MK.n p.1) ((c9 t).map λp=>AV.sl 2 (p.2.map Stp.v) false)):=by rw[m3,e1,ks];rfl
 have z4:hp2 4=some (.map none ((inG t).map λp=>MK.n p.1) ((inG t).map λp=>AV.sl 2 (p.2.map Stp.v) false)):=by rw[c1,e2,ks];rfl
 have hp1:(AV.agg [ig (c9 t),ig (inG t)]).pure:=⟨trivial,trivial,trivial⟩
 have hr:=λπ=>AV.ren_pure π hp1
 have hb:=λk=>AV.bel_pure (k:=k) hp1
 have z5:upd (upd hp2 3 none) 2 (some (.box (.agg [ig (c9 t),.mref 4]))) 4=some (.map none ((inG t).map λp=>MK.n p.1) ((inG t).map λp=>AV.sl 2 (p.2.map Stp.v) false)):=by
  rw[al _ _ (by decide),al _ _ (by decide)];exact z4
 refine w1.trans (w2.trans ((av.giveBM 2 0 3 (by rw[lo 2 (by decide)];exact h2) rfl z3 (sY _) rfl).trans ((av.giveBM 2 1 4 (cs:=[ig (c9 t),.mref 4]) (ai _ _ _) rfl z5 (sY _) rfl).trans ?_)))
 show av 0 k _ ⟨cV [(2,.ref 1 0),(3,.ref 2 0)],hpL 0 [some (.box (Tpl.v t)),some (.box (.agg [.val (.map none),.val (.map none)])),some (.box (.agg [ig (c9 t),ig (inG t)]))],3⟩
 have u:∀{b},b<2→∀x,upd (upd (upd (upd hp2 3 none) 2 (some (Blk.box (AV.agg [ig (c9 t),AV.mref 4])))) 4 none) 2 x b=hp b:=λ{b} hb x=>by
  rw[al _ _ (by omega),al _ _ (by omega),al _ _ (by omega),al _ _ (by omega),lo b (by omega)]
 refine av.nf [0,1,2] [(2,.ref 1 0),(3,.ref 2 0)] [some (.box (Tpl.v t)),some (.box (.agg [.val (.map none),.val (.map none)])),some (.box (.agg [ig (c9 t),ig (inG t)]))] ?_ ?_ ⟨rfl,rfl⟩ (by decide) (by decide) (by decide)
 ·exact⟨⟨t2,show 1<3 by decide⟩,⟨t3,show 2<3 by decide⟩,trivial⟩
 ·refine⟨⟨(u (by decide) _).trans (h0.trans ?_),trivial,trivial,trivial⟩,⟨(u (by decide) _).trans (h1.trans ?_),trivial,trivial,trivial⟩,⟨(ai _ _ _).trans ?_,?_⟩,trivial⟩
  ·rfl
  ·rfl
  ·show _=some (Blk.box (AV.ren _ _));rw[hr];rfl
  ·exact hb _
def F9:AC:=.seq (.reg [⟨(some 100),.faddr 0 (.t 3),none⟩,⟨(some 101),.load false 1 (.t 100),none⟩,⟨(some 102),.rng (.t 101),none⟩])
 (.block 4 (.loop (.seq (.reg [⟨(some 103),.nxt (.t 102),none⟩,⟨(some 104),.ext 0 (.t 103),none⟩])
 (.seq (.cond (.t 104) (.skip) (.exit 4))
 (.block 5 (.seq (.reg [⟨(some 105),.ent (.t 102),none⟩,⟨(some 106),.ext 0 (.t 105),none⟩,⟨(some 8),.move (.t 106),none⟩])
 (.reg [⟨(some 107),.faddr 0 (.t 3),none⟩,⟨(some 108),.load false 1 (.t 107),none⟩,⟨(some 109),.move (.t 8),none⟩,⟨(some 110),.mget none ((.sl 0 [] true)) false (.t 108) (.t 109),none⟩,⟨(some 111),.call (.c (.func 192 [])) [(.t 110),(.c (.func 193 []))],none⟩])))))))
def rdQ(t:Tpl)(ids:List Int)(a b:List AV)(st:List Nat)(ck:Nat)(seen:List Nat):List (Option Blk):=
 [some (.box (Tpl.v t)),some (.box (.agg [.val (.map none),.val (.map none)])),some (.box (.agg [.mref 3,.mref 4])),some (.mst none (kyN ids) a st ck),some (.map none (kyN ids) b),some (.itr 3 st ck seen)]
def rdR(t:Tpl)(M:List (List Stp))(st:List Nat)(ck:Nat)(seen:List Nat):S3:=
 ⟨cV [(2,.ref 1 0),(3,.ref 2 0),(102,.ref 5 0)],GS M (hpL 0 (rdQ t (t.rs.map (·.id)) (evN t.rs.length) (odN t.rs.length) st ck seen)),2000⟩
theorem Pw{t:Tpl}{ids:List Int}{n:Nat}{hp:Hp}{bs fs:Nat→Nat}{a b:List AV}{st seen:List Nat}{ck:Nat}(hbs:bs 0=0∧bs 1=1∧bs 2=2∧bs 3=3∧bs 4=4)(hn:n≤400)(h0:hp 0=some (.box (Tpl.v t)))(h1:hp 1=some (.box (.agg [.val (.map none),.val (.map none)])))(h2:hp 2=some (.box (.agg [.mref 3,.mref 4])))
  (h3:hp 3=some (.mst none (kyN ids) a st ck)) (h4:hp 4=some (.map none (kyN ids) b)) (h5:hp (bs 5)=some (.itr 3 st ck seen)) (ha:a=(List.range n).map λi=>.vec (fs (2 * i))) (hb:b=(List.range n).map λi=>.vec (fs (2 * i+1))) :
  ∀i x,(rdQ t ids (evN n) (odN n) st ck seen)[i]?=some (some x)→hp (bs i)=some (x.ren (eL bs fs))∧x.bel 2000:=by
 obtain⟨b0,b1,b2,b3,b4⟩:=hbs
 have e3:eL bs fs 3=3:=by rw[eo (by omega),b3]
 have e4:eL bs fs 4=4:=by rw[eo (by omega),b4]
 intro i x h
 rcases i with _|_|_|_|_|_|i
 ·cases h;exact⟨by rw[b0];exact h0,⟨trivial,trivial,trivial⟩⟩
 ·cases h;exact⟨by rw[b1];exact h1,⟨trivial,trivial,trivial⟩⟩
 ·cases h;exact⟨by rw[b2,h2];show _=some (Blk.box (.agg [.mref (eL bs fs 3),.mref (eL bs fs 4)]));rw[e3,e4],⟨show 3<2000 by omega,show 4<2000 by omega,trivial⟩⟩
 ·cases h;exact⟨by show hp (bs 3)=_;rw[b3,h3,Blk.ren,q9 hn,ha],qB hn⟩
 ·cases h;exact⟨by show hp (bs 4)=_;rw[b4,h4,Blk.ren,pA hn,hb],pB hn⟩
 ·cases h;exact⟨by show hp (bs 5)=some (.itr (eL bs fs 3) st ck seen);rw[e3];exact h5,show 3<2000 by omega⟩
 ·simp[rdQ]at h
theorem rd_h3(t:Tpl)(hc:aB t=0)(k:Nat):dy Tryz.prog 0 k F9 (rdS t (dL t t.ls)) (rdE t).st:=by
 unfold dy F9 rdS
 have hO:=aw hc
 have hR:=hO.nr
 have hml:=dp
 have hM:=da t t.ls
 have hnd:(t.rs.map (·.id)).Nodup:=List.Pairwise.map _ (λa b h=>by omega) hO.asc
 have hkO:∀q∈kyN (t.rs.map (·.id)),kOk q:=λq hq=>by
  obtain⟨x,hx,rfl⟩:=List.mem_map.mp hq
  obtain⟨r,hr,rfl⟩:=List.mem_map.mp hx
  have:=hO.rg r hr
  show inK .i64 r.id
  rw[H8];omega
 have hG0:∀b,b<1000→GS (dL t t.ls) (hpL 0 (rdH t (t.rs.map (·.id)) (evN t.rs.length) (odN t.rs.length))) b=hpL 0 (rdH t (t.rs.map (·.id)) (evN t.rs.length) (odN t.rs.length)) b:=λb hb=>kG hb
 refine AWP.open 3 (hG0 3 (by decide)) λst ck hs1 hs2 hn hv=>?_
 rw[kyN,List.length_map,List.length_map]at hs2
 have g2:GS (dL t t.ls) (hpL 0 (rdH t (t.rs.map (·.id)) (evN t.rs.length) (odN t.rs.length))) 2=some (.box (.agg [.mref 3,.mref 4])):=hG0 2 (by decide)
 refine AWP.seq' ?_
 refine AWP.reg' λK hK=>?_
 try simp only[aW,aY,aX,eq_self,implies_true,forall_eq_or_imp,forall_eq,Nat.reduceEqDiff,↓reduceIte,Nat.reduceAdd,Nat.reduceLeDiff,Nat.reduceSub,Nat.reduceMul,Nat.reduceLT,Int.reduceBEq,Int.reduceBNe,Int.reduceToNat,Int.reduceLT,Int.reduceLE,Int.reduceAdd,Int.reduceSub,Int.reduceMul,reduceCtorEq,g2]
 refine Cs rfl (ai _ _ _) ?_
 try simp only[aW,aY,aX,eq_self,implies_true,forall_eq_or_imp,forall_eq,Nat.reduceEqDiff,↓reduceIte,Nat.reduceAdd,Nat.reduceLeDiff,Nat.reduceSub,Nat.reduceMul,Nat.reduceLT,Int.reduceBEq,Int.reduceBNe,Int.reduceToNat,Int.reduceLT,Int.reduceLE,Int.reduceAdd,Int.reduceSub,Int.reduceMul,reduceCtorEq]
 refine hK _ _ _ ?_
 clear hK K
 refine AWP.block ?_
 refine AWP.loopS (λseen:List Nat=>rdR t (gL st seen (dL t t.ls)) st ck seen) (λseen=>seen.Nodup∧∀s∈seen,s∈st) (λseen=>st.length-seen.length) (i0:=[]) ⟨by simp,by simp⟩ ?_ ?_
 ·rw[Fa]
  refine av.nfR cj _ _ _ (λb=>if b=5 then 2032 else b) Fr ?_ (Pw ⟨rfl,rfl,rfl,rfl,rfl⟩ (by omega) ?_ ?_ ?_ ?_ ?_ ?_ rfl rfl) (by simp[rdQ]) (by omega) ?_ ?_ (λi j _ _ h=>by unfold Fr at h;omega) ?_ (λb hb=>by omega) (by decide)
  ·simp only[List.forall_mem_cons,List.not_mem_nil,false_implies,implies_true,and_true]
   exact⟨⟨rfl,show 1<2000 by omega⟩,⟨rfl,show 2<2000 by omega⟩,rfl,show 5<2000 by omega⟩
  ·rw[al _ _ (by decide),al _ _ (by decide)];exact hG0 0 (by decide)
  ·rw[al _ _ (by decide),al _ _ (by decide)];exact hG0 1 (by decide)
  ·rw[al _ _ (by decide),al _ _ (by decide)];exact hG0 2 (by decide)
  ·rw[al _ _ (by decide),ai];rfl
  ·rw[al _ _ (by decide),al _ _ (by decide)];exact hG0 4 (by decide)
  ·rfl
  ·intro j r hr
   have hj:=ap hr
   rw[al _ _ (by unfold Fr;omega),al _ _ (by unfold Fr;omega)]
   exact gz hr (by omega)
  ·intro a b ha hb he
   simp only[rdQ,List.length_cons,List.length_nil]at ha hb
   (repeat' split at he)<;>omega
  ·intro a b ha hb he
   simp only[rdQ,List.length_cons,List.length_nil]at ha
   unfold Fr at he
   (repeat' split at he)<;>omega
 ·rintro seen ⟨hnd',hsub⟩
  unfold rdR
  have hS0:∀b,b<1000→GS (gL st seen (dL t t.ls)) (hpL 0 (rdQ t (t.rs.map (·.id)) (evN t.rs.length) (odN t.rs.length) st ck seen)) b=hpL 0 (rdQ t (t.rs.map (·.id)) (evN t.rs.length) (odN t.rs.length) st ck seen) b:=λb hb=>kG hb
  refine AWP.seq' ?_
  refine AWP.reg' λK hK=>?_
  try simp only[aW,aY,aX,eq_self,implies_true,forall_eq_or_imp,forall_eq,Nat.reduceEqDiff,↓reduceIte,Nat.reduceAdd,Nat.reduceLeDiff,Nat.reduceSub,Nat.reduceMul,Nat.reduceLT,Int.reduceBEq,Int.reduceBNe,Int.reduceToNat,Int.reduceLT,Int.reduceLE,Int.reduceAdd,Int.reduceSub,Int.reduceMul,reduceCtorEq]
  refine Ct rfl (hS0 5 (by decide)) (hS0 3 (by decide)) hkO (λhs=>?_) (λi q v s0 e1 e2 e3 e4=>?_)
  ·try simp only[aW,aY,aX,eq_self,implies_true,forall_eq_or_imp,forall_eq,Nat.reduceEqDiff,↓reduceIte,Nat.reduceAdd,Nat.reduceLeDiff,Nat.reduceSub,Nat.reduceMul,Nat.reduceLT,Int.reduceBEq,Int.reduceBNe,Int.reduceToNat,Int.reduceLT,Int.reduceLE,Int.reduceAdd,Int.reduceSub,Int.reduceMul,reduceCtorEq]
   refine hK _ _ _ ?_
   clear hK K
   refine AWP.seq' (AWP.cond (b:=false) rfl (λh=>by cases h) (λ_=>AWP.exit ?_))
   refine(show av 0 k _ _ from ?_)
   refine av.trans (av.close 3 (hS0 3 (by decide))) (QO t rfl rfl ?_ ?_ ?_ ?_ ?_ ?_)
   ·rw[al _ _ (by decide)];exact hS0 0 (by decide)
   ·rw[al _ _ (by decide)];exact hS0 1 (by decide)
   ·rw[al _ _ (by decide)];exact hS0 2 (by decide)
   ·rw[ai]
   ·rw[al _ _ (by decide)];exact hS0 4 (by decide)
   ·intro i r hr
    obtain⟨q1,q2⟩:=Fc hc hs hs2 hr
    rw[al _ _ (by unfold Fr;omega),al _ _ (by unfold Fr;omega)]
    exact⟨gz q1 (by rw[ep];omega),gz q2 (by rw[ep];omega)⟩
  ·have hi:i<t.rs.length:=by have:=ap e3;omega
   have hr:t.rs[i]?=some t.rs[i]:=List.getElem?_eq_getElem hi
   generalize t.rs[i]=r at hr
   have e1':(kyN (t.rs.map (·.id)))[i]?=some (MK.n r.id):=by rw[kyN,List.getElem?_map,List.getElem?_map,hr];rfl
   rw[e1']at e1;cases e1
   have e2':(evN t.rs.length)[i]?=some (.vec (Fr (2 * i))):=by rw[evN,List.getElem?_map,List.getElem?_range hi];rfl
   rw[e2']at e2;cases e2
   try simp only[aW,aY,aX,eq_self,implies_true,forall_eq_or_imp,forall_eq,Nat.reduceEqDiff,↓reduceIte,Nat.reduceAdd,Nat.reduceLeDiff,Nat.reduceSub,Nat.reduceMul,Nat.reduceLT,Int.reduceBEq,Int.reduceBNe,Int.reduceToNat,Int.reduceLT,Int.reduceLE,Int.reduceAdd,Int.reduceSub,Int.reduceMul,reduceCtorEq]
   refine hK _ _ _ ?_
   clear hK K
   refine AWP.seq' (AWP.cond (b:=true) rfl (λ_=>?_) (λh=>by cases h))
   refine AWP.skip ?_
   refine AWP.block (AWP.seq' ?_)
   refine AWP.reg' λK hK=>?_
   try simp only[aW,aY,aX,eq_self,implies_true,forall_eq_or_imp,forall_eq,Nat.reduceEqDiff,↓reduceIte,Nat.reduceAdd,Nat.reduceLeDiff,Nat.reduceSub,Nat.reduceMul,Nat.reduceLT,Int.reduceBEq,Int.reduceBNe,Int.reduceToNat,Int.reduceLT,Int.reduceLE,Int.reduceAdd,Int.reduceSub,Int.reduceMul,reduceCtorEq]
   refine Cu (m:=3) rfl (ai _ _ _) ((al _ _ (by decide)).trans ((al _ _ (by decide)).trans (hS0 3 (by decide)))) e3 e1' e2' (hkO _ (List.mem_of_getElem? e1')) ?_
   try simp only[aW,aY,aX,eq_self,implies_true,forall_eq_or_imp,forall_eq,Nat.reduceEqDiff,↓reduceIte,Nat.reduceAdd,Nat.reduceLeDiff,Nat.reduceSub,Nat.reduceMul,Nat.reduceLT,Int.reduceBEq,Int.reduceBNe,Int.reduceToNat,Int.reduceLT,Int.reduceLE,Int.reduceAdd,Int.reduceSub,Int.reduceMul,reduceCtorEq,kAV]
   refine hK _ _ _ ?_
   clear hK K
   refine(show AWP _ _ _ _ _ _ from ?_)
   obtain⟨hk1,hk2⟩:=jy hnd (show(t.rs.map (·.id))[i]?=some r.id by rw[List.getElem?_map,hr];rfl)
   have hmg:dB (kyN (t.rs.map (·.id))) (evN t.rs.length) (MK.n r.id) (.sl 0 [] true) false=.vec (Fr (2 * i)):=by
    unfold dB;rw[if_pos hk1,hk2,qA hi];rfl
   obtain⟨q1,q2⟩:=lS hnd _ t.ls rfl (λl hl=>⟨hO.has l hl,hO.lt l hl⟩) i r hr
   have q3:=Fb (seen:=seen) q1 e3 e4
   have gF:GS (gL st seen (dL t t.ls)) (hpL 0 (rdQ t (t.rs.map (·.id)) (evN t.rs.length) (odN t.rs.length) st ck seen)) (Fr (2 * i))=some (.vec 2 ((fq t.ls r.id).map Stp.v)):=gz q3 (by rw[ep];omega)
   have g2':GS (gL st seen (dL t t.ls)) (hpL 0 (rdQ t (t.rs.map (·.id)) (evN t.rs.length) (odN t.rs.length) st ck seen)) 2=some (.box (.agg [.mref 3,.mref 4])):=hS0 2 (by decide)
   have g3':GS (gL st seen (dL t t.ls)) (hpL 0 (rdQ t (t.rs.map (·.id)) (evN t.rs.length) (odN t.rs.length) st ck seen)) 3=some (.mst none (kyN (t.rs.map (·.id))) (evN t.rs.length) st ck):=hS0 3 (by decide)
   refine AWP.reg' λK hK=>?_
   try simp only[aW,aY,aX,eq_self,implies_true,forall_eq_or_imp,forall_eq,Nat.reduceEqDiff,↓reduceIte,Nat.reduceAdd,Nat.reduceLeDiff,Nat.reduceSub,Nat.reduceMul,Nat.reduceLT,Int.reduceBEq,Int.reduceBNe,Int.reduceToNat,Int.reduceLT,Int.reduceLE,Int.reduceAdd,Int.reduceSub,Int.reduceMul,reduceCtorEq,g2',g3',dS,fN,AV.key,hmg]
   refine⟨trivial,Ip (vw _ (kS hc r.id)) ⟨_,Tryz.func192,by kernel_rfl,by kernel_rfl⟩ ⟨trivial,trivial⟩ (i8 _) (i8 _) trivial rfl rfl ((al _ _ (by unfold Fr;omega)).trans ((al _ _ (by unfold Fr;omega)).trans gF)) ?_⟩
   try simp only[aW,aY,aX,eq_self,implies_true,forall_eq_or_imp,forall_eq,Nat.reduceEqDiff,↓reduceIte,Nat.reduceAdd,Nat.reduceLeDiff,Nat.reduceSub,Nat.reduceMul,Nat.reduceLT,Int.reduceBEq,Int.reduceBNe,Int.reduceToNat,Int.reduceLT,Int.reduceLE,Int.reduceAdd,Int.reduceSub,Int.reduceMul,reduceCtorEq]
   refine hK _ _ _ ?_
   clear hK K
   have hN:(seen++[s0]).Nodup:=List.nodup_append.mpr ⟨hnd',by simp,λa ha b hb=>by rw[List.mem_singleton.mp hb];rintro rfl;exact e4 ha⟩
   have hS:∀s∈seen++[s0],s∈st:=λs hs=>by
    rcases List.mem_append.mp hs with hs|hs
    ·exact hsub s hs
    ·rw[List.mem_singleton.mp hs];exact List.mem_of_getElem? e3
   have hL:st.length-(seen++[s0]).length<st.length-seen.length:=by
    have:=List.Nodup.length_le_of_subset hN hS
    rw[List.length_append,List.length_singleton]at this ⊢;omega
   refine⟨seen++[s0],⟨hN,hS⟩,hL,?_⟩
   rw[Dt q1 e3 hs1 (by rw[hM,hs2])]
   have h5:∀i:Nat,¬5=Fr i:=λi=>by unfold Fr;omega
   refine av.nfR cj _ _ _ (λb=>b) Fr ?_ (Pw ⟨rfl,rfl,rfl,rfl,rfl⟩ (by omega) ?_ ?_ ?_ ?_ ?_ ?_ rfl rfl) (by simp[rdQ]) (by rw[List.length_set,ep];omega) ?_ (λi j _ _ h=>h) (λi j _ _ h=>by unfold Fr at h;omega) (λi j h1 h2 h=>by simp[rdQ]at h1;unfold Fr at h;omega) (λb _=>rfl) (by decide)
   ·simp only[List.forall_mem_cons,List.not_mem_nil,false_implies,implies_true,and_true]
    exact⟨⟨rfl,show 1<2000 by omega⟩,⟨rfl,show 2<2000 by omega⟩,rfl,show 5<2000 by omega⟩
   ·rw[al _ _ (by unfold Fr;omega),al _ _ (by decide),al _ _ (by decide)];exact hS0 0 (by decide)
   ·rw[al _ _ (by unfold Fr;omega),al _ _ (by decide),al _ _ (by decide)];exact hS0 1 (by decide)
   ·rw[al _ _ (by unfold Fr;omega),al _ _ (by decide),al _ _ (by decide)];exact hS0 2 (by decide)
   ·rw[al _ _ (by unfold Fr;omega),al _ _ (by decide),al _ _ (by decide)];exact hS0 3 (by decide)
   ·rw[al _ _ (by unfold Fr;omega),al _ _ (by decide),al _ _ (by decide)];exact hS0 4 (by decide)
   ·rw[al _ _ (h5 _),ai]
   ·intro j q hj
    have hjl:=ap hj
    rw[List.length_set,ep]at hjl
    rw[List.getElem?_set]at hj
    by_cases e:2 * i=j
    ·subst e
     rw[if_pos rfl,if_pos (by rw[ep];omega)]at hj
     cases hj
     rw[ai]
    ·rw[if_neg e]at hj
     rw[al _ _ (by unfold Fr;omega),al _ _ (by unfold Fr;omega),al _ _ (by unfold Fr;omega)]
     exact gz hj (by rw[ep];omega)
structure Grh where
  out:Lks
  inn:Lks
def Grh.v(x:Grh):AV:=.agg [ig x.out,ig x.inn]
def bU(t:Tpl):Grh:=⟨c9 t,inG t⟩
def SZ(t:Tpl)(hc:aB t=0):=okL [.agg [.sl 2 (t.rs.map Rtr.v) false,.sl 5 (t.ls.map Lnk.v) false]]
def xR(r:Grh):AV:=Grh.v r
def xQ(t:Tpl)(hc:aB t=0):Ax Tryz.prog noS (Grh):=
 (.pass (.pass (.hand 0 [] (rd_m t) [0,16,80,32,48] (rdS t (List.replicate (2 * (t).rs.length) [])) FB (rd_h1 t hc)
(.hand2 0 (rdS t (List.replicate (2 * (t).rs.length) [])) (rdS t (dL t (t).ls)) FA (rd_h2 t hc)
(.hand2 0 (rdS t (dL t (t).ls)) ((rdE t).st) F9 (rd_h3 t hc)
(.ret (bU t)))))))
def Cb(t:Tpl)(hc:aB t=0)(r0:Grh):=(xQ t hc).vp xR r0
theorem SY(t:Tpl)(hc:aB t=0)(ok:SZ t hc):Cb t hc (bU t):=by
 dsimp only[Cb,xQ,noS,Ax.vp,Ax.vc];simp only[vcU,rfU,List.length_map]
def HQ(t:Tpl)(hc:aB t=0):PC Tryz.prog:=⟨178,[(.a [(.s 2),(.s 5)])],[.agg [.sl 2 (t.rs.map Rtr.v) false,.sl 5 (t.ls.map Lnk.v) false]],xR (bU t),ao.of_ok λok=>aj (sh:=.k) (enc:=xR) (a:=(xQ t hc).an) (SY t hc ok) (by kernel_rfl) (AV.pureB_ok rfl),ah (by kernel_rfl)⟩
theorem kW{l:List Lnk}(h:l.Pairwise cP){i j:Nat}(hij:i<j){x y:Lnk}(hx:l[i]?=some x)(hy:l[j]?=some y):cP x y:=by
 have hi:=ap hx
 have hj:=ap hy
 rw[List.getElem?_eq_getElem hi]at hx
 rw[List.getElem?_eq_getElem hj]at hy
 have:=List.pairwise_iff_getElem.mp h i j hi hj hij
 rw[Option.some.inj hx,Option.some.inj hy]at this
 exact this
theorem HJ{l:List Lnk}(h:l.Pairwise cP)(k:Lnk):(jV l k=l.any (ng k))∧∀x∈l,ng k x=true→l[iN l k]?=some x:=by
 refine Dc (λa b x y hab hx hy e=>?_) (λx e=>?_) λa b x y hab hx hy e=>?_
 ·have:=kW h hab hx hy
  simp[pT]at e ⊢;unfold cP at *;omega
 ·simp[ng]at e;simp[pT];unfold cP;omega
 ·have:=kW h hab hx hy
  simp[ng]at e;simp[pT];unfold cP at *;omega
def xg(f g:Int):Lnk:=⟨dm f g,eK f g,0,0,0⟩
theorem Lr{t:Tpl}(hc:aB t=0)(f g:Int):jV t.ls (xg f g)=(cM t f g).2∧∀x,jV t.ls (xg f g)=true→t.ls[iN t.ls (xg f g)]?=some x→(cM t f g)=(if f<g then x.ca else x.cb,true):=by
 have hO:=aw hc
 obtain⟨k1,k2⟩:=HJ hO.ord (xg f g)
 have key:∀x∈t.ls,fD f g x=ng (xg f g) x:=λx hx=>by
  have:=hO.lt x hx
  unfold fD ng xg
  rw[Bool.eq_iff_iff,decide_eq_true_iff]
  simp only[Bool.or_eq_true,Bool.and_eq_true,beq_iff_eq]
  unfold dm eK
  constructor
  ·intro h;(repeat' split)<;>omega
  ·intro h;(repeat' split at h)<;>omega
 have hany:t.ls.any (ng (xg f g))=(t.ls.find? (fD f g)).isSome:=by
  rw[Bool.eq_iff_iff,List.any_eq_true,List.find?_isSome]
  exact⟨λ⟨x,hx,e⟩=>⟨x,hx,by rw[key x hx];exact e⟩,λ⟨x,hx,e⟩=>⟨x,hx,by rw[←key x hx];exact e⟩⟩
 refine⟨?_,λx hh hx=>?_⟩
 ·rw[k1,hany];unfold cM
  cases q:t.ls.find? (fD f g)with
  | none=>rfl
  | some y=>rfl
 ·rw[k1,hany]at hh
  unfold cM
  cases q:t.ls.find? (fD f g)with
  | none=>rw[q]at hh;cases hh
  | some y =>
   have hy:=List.mem_of_find?_eq_some q
   have e:=List.find?_some q
   have e':=e
   rw[key y hy]at e'
   have:=k2 y hy e'
   rw[hx]at this;cases this
   have hlt:=hO.lt x hy
   simp only
   unfold fD at e
   simp only[Bool.or_eq_true,Bool.and_eq_true,beq_iff_eq]at e
   congr 1
   by_cases c:x.a=f∧x.b=g
   ·rw[if_pos (by simp[c]),if_pos (by omega)]
   ·rw[if_neg (by simpa using c),if_neg (by omega)]
def Uk(t:Tpl)(from_:Int)(to_:Int):=okL [.agg [.sl 2 (t.rs.map Rtr.v) false,.sl 5 (t.ls.map Lnk.v) false],.int from_,.int to_]
def yW(r:Int×Bool):AV:=.tup [.int r.1,.bool r.2]
def yV(t:Tpl)(from_:Int)(to_:Int):Ax Tryz.prog noS (Int×Bool):=
 (.callP (EF t)
(.br 96 (!(ge t)) (.ret (0,false))
(.req 240 (t.ls.length≤1000000) λh1 =>
(.callP (bsL_c t.ls (⟨dm from_ to_,eK from_ to_,0,0,0⟩:Lnk) h1)
(.br 384 (!(jV t.ls (⟨dm from_ to_,eK from_ to_,0,0,0⟩:Lnk))) (.ret (0,false))
(.br 448 (decide (from_<to_)) (.el 496 Lnk.v t.ls (λR=>Rf (t.ls.map Lnk.v) (ck (decide (0≤(iN t.ls (⟨dm from_ to_,eK from_ to_,0,0,0⟩:Lnk):Int))) (ck (decide ((iN t.ls (⟨dm from_ to_,eK from_ to_,0,0,0⟩:Lnk):Int)<(t.ls.length:Int)))
(∀x2,t.ls[(iN t.ls (⟨dm from_ to_,eK from_ to_,0,0,0⟩:Lnk):Int).toNat]?=some x2 →
(R x2))))) λx2 =>
(.ret (x2.ca,true)))
(.el 496 Lnk.v t.ls (λR=>Rf (t.ls.map Lnk.v) (ck (decide (0≤(iN t.ls (⟨dm from_ to_,eK from_ to_,0,0,0⟩:Lnk):Int))) (ck (decide ((iN t.ls (⟨dm from_ to_,eK from_ to_,0,0,0⟩:Lnk):Int)<(t.ls.length:Int)))
(∀x3,t.ls[(iN t.ls (⟨dm from_ to_,eK from_ to_,0,0,0⟩:Lnk):Int).toNat]?=some x3 →
(R x3))))) λx3 =>
(.ret (x3.cb,true)))))))))
def CH(t:Tpl)(from_:Int)(to_:Int)(r0:Int×Bool):=(yV t from_ to_).vp yW r0
theorem Ui(t:Tpl)(f g:Int)(ok:Uk t f g):CH t f g (qS t f g):=by
 dsimp only[CH,yV,noS,Ax.vp,Ax.vc];simp only[vcU,rfU,List.length_map]
 unfold qS ge
 by_cases hc:aB t=0
 ·have hl:=(aw hc).nl
  obtain⟨p1,p2⟩:=Lr hc f g
  change jV t.ls ⟨dm f g,eK f g,0,0,0⟩=_ at p1
  change ∀x,jV t.ls ⟨dm f g,eK f g,0,0,0⟩=true→t.ls[iN t.ls ⟨dm f g,eK f g,0,0,0⟩]?=some x→_ at p2
  generalize (⟨dm f g,eK f g,0,0,0⟩:Lnk)=kk at p1 p2 ⊢
  rw[hc]
  refine⟨λh=>by simp at h,λ_=>⟨by omega,λh=>?_,λh=>?_⟩⟩
  ·have h:jV t.ls kk=false:=by simpa using h
   rw[if_neg (by simp)]
   rw[h]at p1
   unfold cM at p1 ⊢
   cases q:t.ls.find? (fD f g)with
   | none=>rfl
   | some y=>rw[q]at p1;cases p1
  ·have h:jV t.ls kk=true:=by simpa using h
   have hp:iN t.ls kk<t.ls.length:=by
    refine Classical.byContradiction λq=>?_
    unfold jV bsH at h
    rw[List.getElem?_eq_none (by unfold iN at q;omega)]at h;cases h
   rw[if_neg (by simp)]
   refine⟨λc=>⟨by omega,by omega,λx hx=>?_⟩,λc=>⟨by omega,by omega,λx hx=>?_⟩⟩
   ·rw[p2 x h (by rw[Int.toNat_natCast]at hx;exact hx),if_pos c]
   ·rw[p2 x h (by rw[Int.toNat_natCast]at hx;exact hx),if_neg c]
 ·rw[if_pos hc]
  refine⟨λ_=>rfl,λh=>?_⟩
  simp[hc]at h
def Uj(t:Tpl)(from_:Int)(to_:Int):PC Tryz.prog:=⟨61,[(.a [(.s 2),(.s 5)]),.k,.k],[.agg [.sl 2 (t.rs.map Rtr.v) false,.sl 5 (t.ls.map Lnk.v) false],.int from_,.int to_],yW (qS t from_ to_),ao.of_ok λok=>aj (sh:=.k) (enc:=yW) (a:=(yV t from_ to_).an) (Ui t from_ to_ ok) (by kernel_rfl) (AV.pureB_ok rfl),ah (by kernel_rfl)⟩
theorem na{α:Type}{l:List α}{k:Nat}{x:α}(hx:l[k]?=some x){P:α→Prop}:(∀y∈l.take (k+1),P y)↔(∀y∈l.take k,P y)∧P x:=by
 rw[aO hx]
 constructor
 ·intro h;exact⟨λy hy=>h y (List.mem_append_left _ hy),h x (by simp)⟩
 ·rintro⟨h1,h2⟩ y hy
  rcases List.mem_append.mp hy with hy|hy
  ·exact h1 y hy
  ·rw[List.mem_singleton.mp hy];exact h2
def eU{α:Type}(l:List α)(p:α→Bool)(t:Int)(a:List α):Prop:=∃k:Nat,t=k∧k≤l.length∧a=(l.take k).filter p
section
variable {α : Type} {l a : List α} {p : α → Bool} {t : Int} {x : α}
theorem eU.zero:eU l p 0 []:=⟨0,rfl,by omega,by simp⟩
theorem eU.idx(h:eU l p t a):0≤t:=by obtain⟨k,rfl,_,_⟩:=h;omega
theorem eU.len(h:eU l p t a):a.length≤l.length:=by
 obtain⟨k,rfl,_,rfl⟩:=h
 exact Nat.le_trans (List.length_filter_le _ _) (by rw[List.length_take];omega)
theorem eU.keep(h:eU l p t a)(hl:l.length≤9223372036854775807)(hx:l[t.toNat]?=some x)(e:p x=true):eU l p (W (t+1)) (a++[x])∧l.length-(W (t+1)).toNat<l.length-t.toNat:=by
 obtain⟨k,rfl,hk,rfl⟩:=h
 rw[Int.toNat_natCast]at hx
 have hlt:=ap hx
 rw[aU (n:=l.length) hlt hl]
 exact⟨⟨k+1,rfl,by omega,by rw[aO hx,List.filter_append];simp[e]⟩,by omega⟩
theorem eU.drop(h:eU l p t a)(hl:l.length≤9223372036854775807)(hx:l[t.toNat]?=some x)(e:p x=false):eU l p (W (t+1)) a∧l.length-(W (t+1)).toNat<l.length-t.toNat:=by
 obtain⟨k,rfl,hk,rfl⟩:=h
 rw[Int.toNat_natCast]at hx
 have hlt:=ap hx
 rw[aU (n:=l.length) hlt hl]
 exact⟨⟨k+1,rfl,by omega,by rw[aO hx,List.filter_append];simp[e]⟩,by omega⟩
theorem eU.done(h:eU l p t a)(c:¬t<l.length):a=l.filter p:=by
 obtain⟨k,rfl,hk,rfl⟩:=h
 rw[List.take_of_length_le (by omega)]
end
def gn(l:List Int)(v:Int):Int:=match l.findIdx? λx=>decide (v=x)with
 | some i=>i
 | none=>-1
theorem tf{l:List Int}{r:Int}{i:Nat}(hx:l[i]?=some r)(hb:∀y∈l.take i,r≠y):gn l r=i:=by
 obtain⟨hi,hxi⟩:=List.getElem?_eq_some_iff.mp hx
 have:l.findIdx? (λp=>decide (r=p))=some i:=by
  rw[List.findIdx?_eq_some_iff_getElem]
  refine⟨hi,by rw[hxi];simp,λj hj=>?_⟩
  have:=hb l[j] (List.mem_of_getElem? (i:=j) (by rw[List.getElem?_take,if_pos hj,List.getElem?_eq_getElem (by omega)]))
  simpa using this
 unfold gn;rw[this]
theorem th{l:List Int}{r:Int}(hb:∀y∈l,r≠y):gn l r=-1:=by
 have:l.findIdx? (λp=>decide (r=p))=none:=by
  rw[List.findIdx?_eq_none_iff]
  intro x hx;simpa using hb x hx
 unfold gn;rw[this]
def ti(s:List Int)(v:Int):=okL [.sl 1 (s.map AV.int) false,.int v]
def DD(s:List Int)(v:Int)(t0:Int):NF:=⟨[(0,.k,.sl 1 (s.map AV.int) false),(1,.k,.int v),(7,.k,.int ((s.map AV.int).length:Int)),(8,.k,.int t0)],[]⟩
@[reducible] def tg:Nat→Type
 | 0=>Int
 | _=>Unit
def md(r:Int):AV:=.int r
def mc(s:List Int)(v:Int)(I0:Int→Prop)(m0:Int→Nat):Ax Tryz.prog tg (Int):=
 (.loop 0 (DD s v) I0 m0 ((0):Int) [] λ(t0:Int) b0 =>
(.br 16 (decide (t0<((s.map AV.int).length:Int))) (.el 96 AV.int s (λR=>Rf (s.map AV.int) (ck (decide (0≤t0)) (ck (decide (t0<(s.length:Int)))
(∀x1,s[t0.toNat]?=some x1 →
(R x1))))) λx1 =>
(.br 144 (v==x1) (.ret (t0))
(.bk 0 b0 ((W (t0+1)):Int) [])))
(.ret (-1))))
def nC(s:List Int)(v:Int)(I0:Int→Prop)(m0:Int→Nat)(r0:Int):=(mc s v I0 m0).vp md r0
theorem Hq(l:List Int)(v:Int)(ok:ti l v):∃I m,nC l v I m (gn l v):=by
 simp only[ti,okU,Blk.ok,az,List.length_map]at ok
 refine⟨λt=>∃k:Nat,t=k∧k≤l.length∧∀x∈l.take k,v≠x,λt=>l.length-t.toNat,?_⟩
 dsimp only[nC,mc,tg,Ax.vp,Ax.vc];simp only[vcU,rfU,List.length_map]
 have hle:l.length≤9223372036854775807:=ok.1.1
 refine⟨⟨0,rfl,by omega,by simp⟩,?_⟩
 rintro _ ⟨k,rfl,hk,hI⟩
 simp only[Int.toNat_natCast]
 refine⟨λh1=>⟨by omega,by omega,λx hx=>⟨λe=>?_,λe=>?_⟩⟩,λh1=>?_⟩
 ·have e:v=x:=by simpa using e
  subst e
  rw[tf hx hI]
 ·rw[aU (n:=l.length) (by omega) (by omega)]
  exact⟨⟨k+1,rfl,by omega,(na hx).mpr ⟨hI,by simpa using e⟩⟩,by omega⟩
 ·rw[List.take_of_length_le (by omega)]at hI
  rw[th hI]
def Hr(s:List Int)(v:Int):PC Tryz.prog:=⟨110,[(.s 1),.k],[.sl 1 (s.map AV.int) false,.int v],md (gn s v),ao.of_ok λok=>(Hq s v ok).elim λI0 h=>h.elim λm0 h=>aj (sh:=.k) (enc:=md) (a:=(mc s v I0 m0).an) h (by kernel_rfl) (AV.pureB_ok rfl),ah (by kernel_rfl)⟩
theorem DC{l:List Int}{v:Int}:0≤gn l v↔v∈l:=by
 unfold gn
 cases e:l.findIdx? (λp=>decide (v=p))with
 | none =>
  rw[List.findIdx?_eq_none_iff]at e
  simp only
  refine⟨λh=>by omega,λh=>by have:=e v h;simp at this⟩
 | some i =>
  rw[List.findIdx?_eq_some_iff_getElem]at e
  obtain⟨h1,h2,_⟩:=e
  simp only
  refine⟨λ_=>?_,λ_=>by omega⟩
  have:v=l[i]:=by simpa using h2
  rw[this];exact List.getElem_mem h1
def NU(s:List Int)(v:Int):=okL [.sl 1 (s.map AV.int) false,.int v]
def qU(r:Bool):AV:=.bool r
def qT(s:List Int)(v:Int):Ax Tryz.prog noS (Bool):=
 (.callP (Hr s v)
(.ret (decide (0≤(gn s v)))))
def ul(s:List Int)(v:Int)(r0:Bool):=(qT s v).vp qU r0
theorem NT(l:List Int)(v:Int)(ok:NU l v):ul l v (decide (v∈l)):=by
 dsimp only[ul,qT,noS,Ax.vp,Ax.vc];simp only[vcU,rfU,List.length_map]
 exact decide_eq_decide.mpr DC
def jA(s:List Int)(v:Int):PC Tryz.prog:=⟨43,[(.s 1),.k],[.sl 1 (s.map AV.int) false,.int v],qU (decide (v∈s)),ao.of_ok λok=>aj (sh:=.k) (enc:=qU) (a:=(qT s v).an) (NT s v ok) (by kernel_rfl) (AV.pureB_ok rfl),ah (by kernel_rfl)⟩
structure Hop where
  a:Int
  b:Int
  deriving DecidableEq
def Hop.v(h:Hop):AV:=.agg [.int h.a,.int h.b]
structure Flr where
  ls:List Hop
  rs:List Int
def qj(l:List Hop)(v:Hop):Int:=ci (λx=>decide (v=x)) l
def tk(s:List Hop)(v:Hop):=okL [.sl 2 (s.map Hop.v) false,.agg [.int v.a,.int v.b]]
def DE(s:List Hop)(v:Hop)(t0:Int):NF:=⟨[(0,.k,.sl 2 (s.map Hop.v) false),(3,.k,.ref 0 0),(7,.k,.int ((s.map Hop.v).length:Int)),(8,.k,.int t0)],[.box (.agg [.int v.a,.int v.b])]⟩
@[reducible] def tj:Nat→Type
 | 0=>Int
 | _=>Unit
def mf(r:Int):AV:=.int r
def me(s:List Hop)(v:Hop)(I0:Int→Prop)(m0:Int→Nat):Ax Tryz.prog tj (Int):=
 (.loop 0 (DE s v) I0 m0 ((0):Int) [0] λ(t0:Int) b0 =>
(.br 17 (decide (t0<((s.map Hop.v).length:Int))) (.el 97 Hop.v s (λR=>Rf (s.map Hop.v) (ck (decide (0≤t0)) (ck (decide (t0<(s.length:Int)))
(∀x1,s[t0.toNat]?=some x1 →
(R x1))))) λx1 =>
(.br 145 ((v.a==x1.a) && ((v.b==x1.b) && true)) (.ret (t0))
(.bk 0 b0 ((W (t0+1)):Int) [0])))
(.ret (-1))))
def nD(s:List Hop)(v:Hop)(I0:Int→Prop)(m0:Int→Nat)(r0:Int):=(me s v I0 m0).vp mf r0
theorem Hs(s:List Hop)(v:Hop)(ok:tk s v):∃I m,nD s v I m (qj s v):=by
 refine⟨λt=>aG s (λy=>decide (v=y)=false) t,λt=>s.length-t.toNat,?_⟩
 simp only[tk,okU,Blk.ok,az,List.length_map]at ok
 dsimp only[nD,me,tj,Ax.vp,Ax.vc];simp only[vcU,rfU,List.length_map]
 have hi:∀{t:Int},aG s (λy=>¬v=y) t→aG s (λy=>decide (v=y)=false) t:=λh=>h.weak λx hx=>decide_eq_false hx
 refine⟨aG.zero,λt h=>⟨λc=>⟨h.idx,c,λx hx=>⟨λq=>?_,λq=>?_⟩⟩,λc=>(hi h).lost c⟩⟩
 ·have e:v=x:=by
   have a1:=eq_of_beq q.1;have a2:=eq_of_beq q.2.1
   cases v;cases x;simp_all
  exact(hi h).found hx (decide_eq_true e)
 ·refine h.step (by omega) hx λe=>?_
  subst e;simp at q
def Ht(s:List Hop)(v:Hop):PC Tryz.prog:=⟨171,[(.s 2),.k],[.sl 2 (s.map Hop.v) false,.agg [.int v.a,.int v.b]],mf (qj s v),ao.of_ok λok=>(Hs s v ok).elim λI0 h=>h.elim λm0 h=>aj (sh:=.k) (enc:=mf) (a:=(me s v I0 m0).an) h (by kernel_rfl) (AV.pureB_ok rfl),ah (by kernel_rfl)⟩
def NW(s:List Hop)(v:Hop):=okL [.sl 2 (s.map Hop.v) false,.agg [.int v.a,.int v.b]]
def qW(r:Bool):AV:=.bool r
def qV(s:List Hop)(v:Hop):Ax Tryz.prog noS (Bool):=
 (.callP (Ht s v)
(.ret (decide (0≤(qj s v)))))
def um(s:List Hop)(v:Hop)(r0:Bool):=(qV s v).vp qW r0
theorem NV(l:List Hop)(v:Hop)(ok:NW l v):um l v (decide (v∈l)):=by
 dsimp only[um,qV,noS,Ax.vp,Ax.vc];simp only[vcU,rfU,List.length_map]
 unfold qj
 rw[dc,Bool.eq_iff_iff,List.any_eq_true]
 simp
def CJ(s:List Hop)(v:Hop):PC Tryz.prog:=⟨123,[(.s 2),.k],[.sl 2 (s.map Hop.v) false,.agg [.int v.a,.int v.b]],qW (decide (v∈s)),ao.of_ok λok=>aj (sh:=.k) (enc:=qW) (a:=(qV s v).an) (NV s v ok) (by kernel_rfl) (AV.pureB_ok rfl),ah (by kernel_rfl)⟩
def nmd(l:List Hop)(a b:Int):Bool:=decide (⟨a,b⟩∈l) || decide (⟨b,a⟩∈l)
def gone(f:Flr)(l:Lnk):Bool:=decide (l.a∈f.rs) || (decide (l.b∈f.rs) || nmd f.ls l.a l.b)
def bI(t:Tpl)(f:Flr):Tpl:=if aB t=0 then⟨t.rs.filter λr=>!decide (r.id∈f.rs),t.ls.filter λl=>!gone f l⟩else⟨[],[]⟩
def E4(t:Tpl)(f:Flr):=okL [.agg [.sl 2 (t.rs.map Rtr.v) false,.sl 5 (t.ls.map Lnk.v) false],.agg [.sl 2 (f.ls.map Hop.v) false,.sl 1 (f.rs.map AV.int) false]]
def Kp(t:Tpl)(f:Flr)(t0:Int×List Rtr):NF:=⟨[(2,.k,.ref 0 0),(3,.k,.ref 1 0),(4,.k,.ref 2 0),(5,.k,.ref 3 0),(16,.k,.sl 2 (t.rs.map Rtr.v) false),(17,.k,.int ((t.rs.map Rtr.v).length:Int)),(18,.k,.int t0.1)],[.box (.agg [.sl 2 (t.rs.map Rtr.v) false,.sl 5 (t.ls.map Lnk.v) false]),.box (.agg [.sl 2 (f.ls.map Hop.v) false,.sl 1 (f.rs.map AV.int) false]),.box (.agg [.sl 0 [] true,.sl 0 [] true]),.box (.agg [.vec 4,.sl 0 [] true]),.vec 2 (t0.2.map Rtr.v) (ab (λ_=>rfl) t0.2)]⟩
def Ko(t:Tpl)(f:Flr)(t0:Int×List Rtr)(t1:Int×List Lnk):NF:=⟨[(3,.k,.ref 0 0),(4,.k,.ref 1 0),(5,.k,.ref 2 0),(36,.k,.sl 5 (t.ls.map Lnk.v) false),(37,.k,.int ((t.ls.map Lnk.v).length:Int)),(38,.k,.int t1.1)],[.box (.agg [.sl 2 (f.ls.map Hop.v) false,.sl 1 (f.rs.map AV.int) false]),.box (.agg [.sl 0 [] true,.sl 0 [] true]),.box (.agg [.vec 3,.vec 4]),.vec 2 (t0.2.map Rtr.v) (ab (λ_=>rfl) t0.2),.vec 5 (t1.2.map Lnk.v) (ab (λ_=>rfl) t1.2)]⟩
def Kn(t:Tpl)(f:Flr)(t0:Int×List Rtr)(t1:Int×List Lnk)(x2:Lnk)(t2:Bool):NF:=⟨[(3,.k,.ref 0 0),(4,.k,.ref 1 0),(5,.k,.ref 2 0),(9,.k,.ref 5 0),(10,.k,.bool t2),(36,.k,.sl 5 (t.ls.map Lnk.v) false),(37,.k,.int ((t.ls.map Lnk.v).length:Int)),(38,.k,.int t1.1)],[.box (.agg [.sl 2 (f.ls.map Hop.v) false,.sl 1 (f.rs.map AV.int) false]),.box (.agg [.sl 0 [] true,.sl 0 [] true]),.box (.agg [.vec 3,.vec 4]),.vec 2 (t0.2.map Rtr.v) (ab (λ_=>rfl) t0.2),.vec 5 (t1.2.map Lnk.v) (ab (λ_=>rfl) t1.2),.box (.agg [.int x2.a,.int x2.b,.int x2.ca,.int x2.cb,.int x2.w])]⟩
@[reducible] def E3:Nat→Type
 | 0=>Int×List Rtr
 | 1=>Int×List Lnk
 | 2=>Bool
 | _=>Unit
def uO(r:Tpl):AV:=Tpl.v r
def uN(t:Tpl)(f:Flr)(I0:(Int×List Rtr)→Prop)(m0:(Int×List Rtr)→Nat)(I1:Int×List Rtr→(Int×List Lnk)→Prop)(m1:Int×List Rtr→(Int×List Lnk)→Nat)(I2:Int×List Rtr→Int×List Lnk→Lnk→Bool→Prop):Ax Tryz.prog E3 (Tpl):=
 (.callP (EF t)
(.br 112 (!(ge t)) (.ret ((⟨[],[]⟩:Tpl)))
(.cmdL (.nilB 48 0 2) (.loop 0 (Kp t f) I0 m0 (0,[]) [0,16,32,48,176] λ(t0:Int×List Rtr) b0 =>
(.br 21 (decide (t0.1<((t.rs.map Rtr.v).length:Int))) (.el 21 Rtr.v t.rs (λR=>Rf (t.rs.map Rtr.v) (ck (decide (0≤t0.1)) (ck (decide (t0.1<(t.rs.length:Int)))
(∀x1,t.rs[t0.1.toNat]?=some x1 →
(R x1))))) λx1 =>
(.callP (jA f.rs x1.id)
(.br 181 (!(decide (x1.id∈f.rs))) (.say (λR=>Rf (α:=List AV) (t0.2.map Rtr.v) (Rf (α:=List AV) [.agg [.int x1.id,.bool x1.cap]]
(ck (decide (t0.2.length+1≤1048576))
R))) (.app 245 Rtr.v t0.2 [x1]
(.bk 0 b0 (W (t0.1+1),t0.2++[x1]) [0,1,2,3,245])))
(.bk 0 b0 (W (t0.1+1),t0.2) [0,1,2,3,4]))))
(.cmdL (.nilB 3 1 5) (.loop 1 (Ko t f t0) (I1 t0) (m1 t0) (0,[]) [1,2,3,4,85] λ(t1:Int×List Lnk) b1 =>
(.br 21 (decide (t1.1<((t.ls.map Lnk.v).length:Int))) (.el 21 Lnk.v t.ls (λR=>Rf (t.ls.map Lnk.v) (ck (decide (0≤t1.1)) (ck (decide (t1.1<(t.ls.length:Int)))
(∀x2,t.ls[t1.1.toNat]?=some x2 →
(R x2))))) λx2 =>
(.join 2 (Kn t f t0 t1 x2) (λ(t2:Bool)=>I2 t0 t1 x2 t2) (λb2=>(.callP (jA f.rs x2.a)
(.br 181 (decide (x2.a∈f.rs)) (.bk 2 b2 ((true):Bool) [0,1,2,3,4,53])
(.callP (jA f.rs x2.b)
(.br 293 (decide (x2.b∈f.rs)) (.bk 2 b2 ((true):Bool) [0,1,2,3,4,53])
(.callP (CJ f.ls (⟨x2.a,x2.b⟩:Hop))
(.br 453 (decide ((⟨x2.a,x2.b⟩:Hop)∈f.ls)) (.bk 2 b2 ((true):Bool) [0,1,2,3,4,53])
(.callP (CJ f.ls (⟨x2.b,x2.a⟩:Hop))
(.bk 2 b2 ((decide ((⟨x2.b,x2.a⟩:Hop)∈f.ls)):Bool) [0,1,2,3,4,53]))))))))) λ(t2:Bool) =>
(.br 38 (!t2) (.say (λR=>Rf (α:=List AV) (t1.2.map Lnk.v) (Rf (α:=List AV) [.agg [.int x2.a,.int x2.b,.int x2.ca,.int x2.cb,.int x2.w]]
(ck (decide (t1.2.length+1≤1048576))
R))) (.app 102 Lnk.v t1.2 [x2]
(.bk 1 b1 (W (t1.1+1),t1.2++[x2]) [0,1,2,3,102])))
(.bk 1 b1 (W (t1.1+1),t1.2) [0,1,2,3,4]))))
(.say (Rf (t1.2.map Lnk.v)) (.cmdL (.frzE 4 (t1.2.map Lnk.v) (ab (λ_=>rfl) t1.2)) (.say (Rf (t0.2.map Rtr.v)) (.cmdL (.frzE 3 (t0.2.map Rtr.v) (ab (λ_=>rfl) t0.2)) (.ret ((⟨t0.2,t1.2⟩:Tpl)))))))))))))))
def zZ(t:Tpl)(f:Flr)(I0:(Int×List Rtr)→Prop)(m0:(Int×List Rtr)→Nat)(I1:Int×List Rtr→(Int×List Lnk)→Prop)(m1:Int×List Rtr→(Int×List Lnk)→Nat)(I2:Int×List Rtr→Int×List Lnk→Lnk→Bool→Prop)(r0:Tpl):=(uN t f I0 m0 I1 m1 I2).vp uO r0
theorem PU(t:Tpl)(f:Flr)(ok:E4 t f):∃I0 m0 I1 m1 I2,zZ t f I0 m0 I1 m1 I2 (bI t f):=by
 refine⟨λq=>eU t.rs (λr=>!decide (r.id∈f.rs)) q.1 q.2,λq=>t.rs.length-q.1.toNat,λ_ q=>eU t.ls (λl=>!gone f l) q.1 q.2,λ_ q=>t.ls.length-q.1.toNat,λ_ q l b=>b=gone f l,?_⟩
 simp only[E4,okU,Blk.ok,az,List.length_map]at ok
 dsimp only[zZ,uN,E3,Ax.vp,Ax.vc];simp only[vcU,rfU,List.length_map]
 unfold bI ge
 by_cases hc:aB t=0
 case neg=>exact⟨λ_=>by rw[if_neg hc],λh=>by simp[hc]at h⟩
 have h1:=(aw hc).nr
 have h2:=(aw hc).nl
 rw[if_pos hc]
 refine⟨λh=>by simp[hc]at h,λ_=>⟨eU.zero,?_⟩⟩
 rintro⟨i,rs⟩ hF
 simp only at hF ⊢
 refine⟨λc=>⟨hF.idx,c,λx hx=>⟨λe=>⟨by have:=hF.len;omega,hF.keep (by omega) hx e⟩,λe=>hF.drop (by omega) hx e⟩⟩,λc=>⟨eU.zero,?_⟩⟩
 rintro⟨j,ls⟩ hG
 simp only at hG ⊢
 refine⟨λd=>⟨hG.idx,d,λx hx=>⟨⟨λe=>by simp[gone,e],λe=>⟨λe2=>by simp[gone,e2],λe2=>⟨λe3=>by simp[gone,nmd,e3],λe3=>by simp[gone,nmd,e,e2,e3]⟩⟩⟩,?_⟩⟩,λd=>?_⟩
 ·rintro _ rfl
  exact⟨λe=>⟨by have:=hG.len;omega,hG.keep (by omega) hx e⟩,λe=>hG.drop (by omega) hx e⟩
 ·rw[hF.done c,hG.done d]
def uP(t:Tpl)(f:Flr):PC Tryz.prog:=⟨57,[(.a [(.s 2),(.s 5)]),(.a [(.s 2),(.s 1)])],[.agg [.sl 2 (t.rs.map Rtr.v) false,.sl 5 (t.ls.map Lnk.v) false],.agg [.sl 2 (f.ls.map Hop.v) false,.sl 1 (f.rs.map AV.int) false]],uO (bI t f),ao.of_ok λok=>(PU t f ok).elim λI0 h=>h.elim λm0 h=>h.elim λI1 h=>h.elim λm1 h=>h.elim λI2 h=>aj (sh:=(.a [(.s 2),(.s 5)])) (enc:=uO) (a:=(uN t f I0 m0 I1 m1 I2).an) h (by kernel_rfl) (AV.pureB_ok rfl),ah (by kernel_rfl)⟩
def HL(l:List Int)(n:Int):=okL [.sl 1 (l.map AV.int) false,.int n]
def MI(l:List Int)(n:Int)(t0:Int):NF:=⟨[(0,.k,.sl 1 (l.map AV.int) false),(1,.k,.int n),(5,.k,.int t0)],[]⟩
@[reducible] def HK:Nat→Type
 | 0=>Int
 | _=>Unit
def xJ(r:Bool):AV:=.bool r
def xI(l:List Int)(n:Int)(I0:Int→Prop)(m0:Int→Nat):Ax Tryz.prog HK (Bool):=
 (.loop 0 (MI l n) I0 m0 ((0):Int) [] λ(t0:Int) b0 =>
(.br 64 (decide (t0<((l.map AV.int).length:Int))) (.el 96 AV.int l (λR=>Rf (l.map AV.int) (ck (decide (0≤t0)) (ck (decide (t0<(l.length:Int)))
(∀x1,l[t0.toNat]?=some x1 →
(R x1))))) λx1 =>
(.br 160 (x1==n) (.ret (true))
(.bk 0 b0 ((W (t0+1)):Int) [])))
(.ret (false))))
def BV(l:List Int)(n:Int)(I0:Int→Prop)(m0:Int→Nat)(r0:Bool):=(xI l n I0 m0).vp xJ r0
theorem ST(l:List Int)(n:Int)(ok:HL l n):∃I m,BV l n I m (decide (n∈l)):=by
 refine⟨λt=>aG l (λy=>y≠n) t,λt=>l.length-t.toNat,?_⟩
 simp only[HL,okU,Blk.ok,az,List.length_map]at ok
 dsimp only[BV,xI,HK,Ax.vp,Ax.vc];simp only[vcU,rfU,List.length_map]
 refine⟨aG.zero,λt h=>⟨λc=>⟨h.idx,c,λx hx=>⟨λq=>?_,λq=>h.step (by omega) hx (by simpa using q)⟩⟩,λc=>?_⟩⟩
 ·have q:=eq_of_beq q
  subst q;exact(decide_eq_true (bq hx)).symm
 ·exact(decide_eq_false λq=>h.done c n q rfl).symm
def jW(l:List Int)(n:Int):PC Tryz.prog:=⟨113,[(.s 1),.k],[.sl 1 (l.map AV.int) false,.int n],xJ (decide (n∈l)),ao.of_ok λok=>(ST l n ok).elim λI0 h=>h.elim λm0 h=>aj (sh:=.k) (enc:=xJ) (a:=(xI l n I0 m0).an) h (by kernel_rfl) (AV.pureB_ok rfl),ah (by kernel_rfl)⟩
def nm1(a b:Int)(x:Hop):Bool:=(x.a==a && x.b==b) || (x.a==b && x.b==a)
def G7(l:List Hop)(a:Int)(b:Int):=okL [.sl 2 (l.map Hop.v) false,.int a,.int b]
def Mf(l:List Hop)(a:Int)(b:Int)(t0:Int):NF:=⟨[(0,.k,.sl 2 (l.map Hop.v) false),(1,.k,.int a),(2,.k,.int b),(7,.k,.int t0)],[]⟩
def Me(l:List Hop)(a:Int)(b:Int)(t0:Int)(t1:Bool):NF:=⟨[(0,.k,.sl 2 (l.map Hop.v) false),(1,.k,.int a),(2,.k,.int b),(7,.k,.int t0),(47,.k,.bool t1)],[]⟩
@[reducible] def G6:Nat→Type
 | 0=>Int
 | 1=>Bool
 | _=>Unit
def wN(r:Bool):AV:=.bool r
def wM(l:List Hop)(a:Int)(b:Int)(I0:Int→Prop)(m0:Int→Nat)(I1:Int→Bool→Prop):Ax Tryz.prog G6 (Bool):=
 (.loop 0 (Mf l a b) I0 m0 ((0):Int) [] λ(t0:Int) b0 =>
(.br 64 (decide (t0<((l.map Hop.v).length:Int))) (.pass (.join 1 (Me l a b t0) (λ(t1:Bool)=>I1 t0 t1) (λb1=>(.el 96 Hop.v l (λR=>Rf (l.map Hop.v) (ck (decide (0≤t0)) (ck (decide (t0<(l.length:Int)))
(∀x1,l[t0.toNat]?=some x1 →
(R x1))))) λx1 =>
(.br 192 (x1.a==a) (.el 224 Hop.v l (λR=>Rf (l.map Hop.v) (ck (decide (0≤t0)) (ck (decide (t0<(l.length:Int)))
(∀x2,l[t0.toNat]?=some x2 →
(R x2))))) λx2 =>
(.br 336 (x2.b==b) (.bk 1 b1 ((true):Bool) [])
(.el 368 Hop.v l (λR=>Rf (l.map Hop.v) (ck (decide (0≤t0)) (ck (decide (t0<(l.length:Int)))
(∀x3,l[t0.toNat]?=some x3 →
(R x3))))) λx3 =>
(.br 464 (x3.a==b) (.el 496 Hop.v l (λR=>Rf (l.map Hop.v) (ck (decide (0≤t0)) (ck (decide (t0<(l.length:Int)))
(∀x4,l[t0.toNat]?=some x4 →
(R x4))))) λx4 =>
(.bk 1 b1 ((x4.b==a):Bool) []))
(.bk 1 b1 ((false):Bool) [])))))
(.el 368 Hop.v l (λR=>Rf (l.map Hop.v) (ck (decide (0≤t0)) (ck (decide (t0<(l.length:Int)))
(∀x5,l[t0.toNat]?=some x5 →
(R x5))))) λx5 =>
(.br 464 (x5.a==b) (.el 496 Hop.v l (λR=>Rf (l.map Hop.v) (ck (decide (0≤t0)) (ck (decide (t0<(l.length:Int)))
(∀x6,l[t0.toNat]?=some x6 →
(R x6))))) λx6 =>
(.bk 1 b1 ((x6.b==a):Bool) []))
(.bk 1 b1 ((false):Bool) [])))))) λ(t1:Bool) =>
(.br 0 t1 (.ret (true))
(.bk 0 b0 ((W (t0+1)):Int) []))))
(.ret (false))))
def Bv(l:List Hop)(a:Int)(b:Int)(I0:Int→Prop)(m0:Int→Nat)(I1:Int→Bool→Prop)(r0:Bool):=(wM l a b I0 m0 I1).vp wN r0
theorem Sa(l:List Hop)(a b:Int)(ok:G7 l a b):∃I0 m0 I1,Bv l a b I0 m0 I1 (nmd l a b):=by
 refine⟨λt=>aG l (λy=>nm1 a b y=false) t,λt=>l.length-t.toNat,λt r=>∀x,l[t.toNat]?=some x→r=nm1 a b x,?_⟩
 simp only[G7,okU,Blk.ok,az,List.length_map]at ok
 dsimp only[Bv,wM,G6,Ax.vp,Ax.vc];simp only[vcU,rfU,List.length_map]
 have e0:nmd l a b=l.any (nm1 a b):=by
  unfold nmd nm1
  rw[Bool.eq_iff_iff,List.any_eq_true,Bool.or_eq_true,decide_eq_true_iff,decide_eq_true_iff]
  simp only[Bool.or_eq_true,Bool.and_eq_true,beq_iff_eq]
  constructor
  ·rintro(h|h)
   ·exact⟨_,h,.inl ⟨rfl,rfl⟩⟩
   ·exact⟨_,h,.inr ⟨rfl,rfl⟩⟩
  ·rintro⟨⟨u,v⟩,h,⟨rfl,rfl⟩|⟨rfl,rfl⟩⟩
   ·exact .inl h
   ·exact .inr h
 rw[e0]
 refine⟨aG.zero,λi h=>⟨λc=>⟨⟨h.idx,c,λx hx=>⟨λq=>⟨h.idx,c,λx2 hx2=>⟨λq2 x3 hx3=>?_,λq2=>⟨h.idx,c,λx3 hx3=>⟨λq3=>⟨h.idx,c,λx4 hx4 x5 hx5=>?_⟩,λq3 x4 hx4=>?_⟩⟩⟩⟩,λq=>⟨h.idx,c,λx3 hx3=>⟨λq3=>⟨h.idx,c,λx4 hx4 x5 hx5=>?_⟩,λq3 x4 hx4=>?_⟩⟩⟩⟩,?_⟩,λc=>?_⟩⟩
 ·rw[hx]at hx2 hx3;cases hx2;cases hx3;simp[nm1,q,q2]
 ·rw[hx]at hx2 hx3 hx4 hx5;cases hx2;cases hx3;cases hx4;cases hx5;simp[nm1,q2,q3]
 ·rw[hx]at hx2 hx3 hx4;cases hx2;cases hx3;cases hx4;simp[nm1,q2,q3]
 ·rw[hx]at hx3 hx4 hx5;cases hx3;cases hx4;cases hx5;simp[nm1,q,q3]
 ·rw[hx]at hx3 hx4;cases hx3;cases hx4;simp[nm1,q,q3]
 ·intro r hr
  have hx:=List.getElem?_eq_getElem (show i.toNat<l.length by have:=h.idx;omega)
  have hr:=hr _ hx
  subst hr
  exact⟨λq=>(List.any_eq_true.mpr ⟨_,bq hx,q⟩).symm,λq=>h.step (by omega) hx q⟩
 ·symm
  rw[Bool.eq_false_iff]
  intro q
  obtain⟨x,hx,e⟩:=List.any_eq_true.mp q
  rw[h.done c x hx]at e;cases e
def Sb(l:List Hop)(a:Int)(b:Int):PC Tryz.prog:=⟨188,[(.s 2),.k,.k],[.sl 2 (l.map Hop.v) false,.int a,.int b],wN (nmd l a b),ao.of_ok λok=>(Sa l a b ok).elim λI0 h=>h.elim λm0 h=>h.elim λI1 h=>aj (sh:=.k) (enc:=wN) (a:=(wM l a b I0 m0 I1).an) h (by kernel_rfl) (AV.pureB_ok rfl),ah (by kernel_rfl)⟩
def kM(t:Tpl):Bool:=!t.rs.any kh
def Jt(t:Tpl):=okL [.agg [.sl 2 (t.rs.map Rtr.v) false,.sl 5 (t.ls.map Lnk.v) false]]
def OE(t:Tpl)(t0:Int):NF:=⟨[(1,.k,.ref 0 0),(3,.k,.int t0)],[.box (.agg [.sl 2 (t.rs.map Rtr.v) false,.sl 5 (t.ls.map Lnk.v) false])]⟩
@[reducible] def Jr:Nat→Type
 | 0=>Int
 | _=>Unit
def z6(r:Bool):AV:=.bool r
def zy(t:Tpl)(I0:Int→Prop)(m0:Int→Nat):Ax Tryz.prog Jr (Bool):=
 (.loop 0 (OE t) I0 m0 ((0):Int) [0] λ(t0:Int) b0 =>
(.br 81 (decide (t0<((t.rs.map Rtr.v).length:Int))) (.el 129 Rtr.v t.rs (λR=>Rf (t.rs.map Rtr.v) (ck (decide (0≤t0)) (ck (decide (t0<(t.rs.length:Int)))
(∀x1,t.rs[t0.toNat]?=some x1 →
(R x1))))) λx1 =>
(.br 193 (!x1.cap) (.ret (false))
(.bk 0 b0 ((W (t0+1)):Int) [0])))
(.ret (true))))
def CV(t:Tpl)(I0:Int→Prop)(m0:Int→Nat)(r0:Bool):=(zy t I0 m0).vp z6 r0
theorem U5(t:Tpl)(ok:Jt t):∃I m,CV t I m (kM t):=by
 refine⟨λi=>aG t.rs (λy=>kh y=false) i,λi=>t.rs.length-i.toNat,?_⟩
 simp only[Jt,okU,Blk.ok,az,List.length_map]at ok
 dsimp only[CV,zy,Jr,Ax.vp,Ax.vc];simp only[vcU,rfU,List.length_map]
 unfold kM
 refine⟨aG.zero,λi h=>⟨λc=>⟨h.idx,c,λx hx=>⟨λq=>?_,λq=>h.step (by omega) hx q⟩⟩,λc=>?_⟩⟩
 ·rw[List.any_eq_true.mpr ⟨x,bq hx,q⟩];rfl
 ·have:t.rs.any kh=false:=by
   rw[Bool.eq_false_iff]
   intro q
   obtain⟨x,hx,e⟩:=List.any_eq_true.mp q
   rw[h.done c x hx]at e;cases e
  rw[this];rfl
def Js(t:Tpl):PC Tryz.prog:=⟨50,[(.a [(.s 2),(.s 5)])],[.agg [.sl 2 (t.rs.map Rtr.v) false,.sl 5 (t.ls.map Lnk.v) false]],z6 (kM t),ao.of_ok λok=>(U5 t ok).elim λI0 h=>h.elim λm0 h=>aj (sh:=.k) (enc:=z6) (a:=(zy t I0 m0).an) h (by kernel_rfl) (AV.pureB_ok rfl),ah (by kernel_rfl)⟩
def U7(t:Tpl):=okL [.agg [.sl 2 (t.rs.map Rtr.v) false,.sl 5 (t.ls.map Lnk.v) false]]
def z8(r:Bool):AV:=.bool r
def z7(t:Tpl):Ax Tryz.prog noS (Bool):=
 (.callP (OJ t.rs)
(.ret (!((t.rs).any kh))))
def CW(t:Tpl)(r0:Bool):=(z7 t).vp z8 r0
theorem U6(t:Tpl)(ok:U7 t):CW t (kM t):=by
 dsimp only[CW,z7,noS,Ax.vp,Ax.vc];simp only[vcU,rfU,List.length_map]
 rfl
def Ju(t:Tpl):PC Tryz.prog:=⟨42,[(.a [(.s 2),(.s 5)])],[.agg [.sl 2 (t.rs.map Rtr.v) false,.sl 5 (t.ls.map Lnk.v) false]],z8 (kM t),ao.of_ok λok=>aj (sh:=.k) (enc:=z8) (a:=(z7 t).an) (U6 t ok) (by kernel_rfl) (AV.pureB_ok rfl),ah (by kernel_rfl)⟩
def Hk(a:List Int)(b:List Int):=okL [.sl 1 (a.map AV.int) false,.sl 1 (b.map AV.int) false]
def M7(a:List Int)(b:List Int)(t0:Int):NF:=⟨[(0,.k,.sl 1 (a.map AV.int) false),(1,.k,.sl 1 (b.map AV.int) false),(5,.k,.int t0)],[]⟩
@[reducible] def Hj:Nat→Type
 | 0=>Int
 | _=>Unit
def xm(r:Bool):AV:=.bool r
def xl(a:List Int)(b:List Int)(I0:Int→Prop)(m0:Int→Nat):Ax Tryz.prog Hj (Bool):=
 (.br 96 (((a.map AV.int).length:Int) != ((b.map AV.int).length:Int)) (.ret (false))
(.loop 0 (M7 a b) I0 m0 ((0):Int) [] λ(t0:Int) b0 =>
(.br 64 (decide (t0<((a.map AV.int).length:Int))) (.el 96 AV.int a (λR=>Rf (a.map AV.int) (ck (decide (0≤t0)) (ck (decide (t0<(a.length:Int)))
(∀x1,a[t0.toNat]?=some x1 →
(R x1))))) λx1 =>
(.el 160 AV.int b (λR=>Rf (b.map AV.int) (ck (decide (0≤t0)) (ck (decide (t0<(b.length:Int)))
(∀x2,b[t0.toNat]?=some x2 →
(R x2))))) λx2 =>
(.br 208 (x1 != x2) (.ret (false))
(.bk 0 b0 ((W (t0+1)):Int) []))))
(.ret (true)))))
def BI(a:List Int)(b:List Int)(I0:Int→Prop)(m0:Int→Nat)(r0:Bool):=(xl a b I0 m0).vp xm r0
theorem S7(a b:List Int)(ok:Hk a b):∃I m,BI a b I m (decide (a=b)):=by
  refine⟨λi=>∃k:Nat,i=k∧k≤a.length∧a.take k=b.take k,λi=>a.length-i.toNat,?_⟩
  simp only[Hk,okU,Blk.ok,az,List.length_map]at ok
  dsimp only[BI,xl,Hj,Ax.vp,Ax.vc];simp only[vcU,rfU,List.length_map]
  refine⟨λc=>(decide_eq_false λe=>by subst e;simp at c).symm,λc=>?_⟩
  have c : a.length = b.length := by have c : (a.length : Int) = b.length := by simpa using c
                                     omega
  refine⟨⟨0,rfl,by omega,rfl⟩,?_⟩
  rintro _ ⟨k,rfl,hk,h⟩
  refine⟨λd=>⟨by omega,d,λx hx=>⟨by omega,by omega,λy hy=>⟨λe=>?_,λe=>?_⟩⟩⟩,λd=>?_⟩
  · refine(decide_eq_false λq=>?_).symm
    subst q;rw[hx]at hy;cases hy;simp at e
  · rw[Int.toNat_natCast]at hx hy
    have e:x=y:=by simpa using e
    subst e
    rw[aU (n:=a.length) (by omega) (by omega)]
    exact⟨⟨k+1,rfl,by omega,by rw[aO hx,aO hy,h]⟩,by omega⟩
  · rw[List.take_of_length_le (by omega),List.take_of_length_le (by omega)]at h
    exact(decide_eq_true h).symm
def qi(a:List Int)(b:List Int):PC Tryz.prog:=⟨30,[(.s 1),(.s 1)],[.sl 1 (a.map AV.int) false,.sl 1 (b.map AV.int) false],xm (decide (a=b)),ao.of_ok λok=>(S7 a b ok).elim λI0 h=>h.elim λm0 h=>aj (sh:=.k) (enc:=xm) (a:=(xl a b I0 m0).an) h (by kernel_rfl) (AV.pureB_ok rfl),ah (by kernel_rfl)⟩
def E2(t:Tpl)(f:Flr):=okL [.agg [.sl 2 (t.rs.map Rtr.v) false,.sl 5 (t.ls.map Lnk.v) false],.agg [.sl 2 (f.ls.map Hop.v) false,.sl 1 (f.rs.map AV.int) false]]
def Km(t:Tpl)(f:Flr)(t0:Int×List Rtr):NF:=⟨[(2,.k,.ref 0 0),(3,.k,.ref 1 0),(4,.k,.ref 2 0),(5,.k,.ref 3 0),(6,.k,.int t0.1)],[.box (.agg [.sl 2 (t.rs.map Rtr.v) false,.sl 5 (t.ls.map Lnk.v) false]),.box (.agg [.sl 2 (f.ls.map Hop.v) false,.sl 1 (f.rs.map AV.int) false]),.box (.agg [.sl 0 [] true,.sl 0 [] true]),.box (.agg [.vec 4,.sl 0 [] true]),.vec 2 (t0.2.map Rtr.v) (ab (λ_=>rfl) t0.2)]⟩
def Kl(t:Tpl)(f:Flr)(t0:Int×List Rtr)(t1:Int×List Lnk):NF:=⟨[(2,.k,.ref 0 0),(3,.k,.ref 1 0),(4,.k,.ref 2 0),(5,.k,.ref 3 0),(7,.k,.int t1.1)],[.box (.agg [.sl 2 (t.rs.map Rtr.v) false,.sl 5 (t.ls.map Lnk.v) false]),.box (.agg [.sl 2 (f.ls.map Hop.v) false,.sl 1 (f.rs.map AV.int) false]),.box (.agg [.sl 0 [] true,.sl 0 [] true]),.box (.agg [.vec 4,.vec 5]),.vec 2 (t0.2.map Rtr.v) (ab (λ_=>rfl) t0.2),.vec 5 (t1.2.map Lnk.v) (ab (λ_=>rfl) t1.2)]⟩
def Kk(t:Tpl)(f:Flr)(t0:Int×List Rtr)(t1:Int×List Lnk)(x3:Lnk)(t2:Bool):NF:=⟨[(2,.k,.ref 0 0),(3,.k,.ref 1 0),(4,.k,.ref 2 0),(5,.k,.ref 3 0),(7,.k,.int t1.1),(8,.k,.ref 6 0),(75,.k,.bool t2)],[.box (.agg [.sl 2 (t.rs.map Rtr.v) false,.sl 5 (t.ls.map Lnk.v) false]),.box (.agg [.sl 2 (f.ls.map Hop.v) false,.sl 1 (f.rs.map AV.int) false]),.box (.agg [.sl 0 [] true,.sl 0 [] true]),.box (.agg [.vec 4,.vec 5]),.vec 2 (t0.2.map Rtr.v) (ab (λ_=>rfl) t0.2),.vec 5 (t1.2.map Lnk.v) (ab (λ_=>rfl) t1.2),.box (.agg [.int x3.a,.int x3.b,.int x3.ca,.int x3.cb,.int x3.w])]⟩
@[reducible] def E1:Nat→Type
 | 0=>Int×List Rtr
 | 1=>Int×List Lnk
 | 2=>Bool
 | _=>Unit
def uL(r:Tpl):AV:=Tpl.v r
def uK(t:Tpl)(f:Flr)(I0:(Int×List Rtr)→Prop)(m0:(Int×List Rtr)→Nat)(I1:Int×List Rtr→(Int×List Lnk)→Prop)(m1:Int×List Rtr→(Int×List Lnk)→Nat)(I2:Int×List Rtr→Int×List Lnk→Lnk→Bool→Prop):Ax Tryz.prog E1 (Tpl):=
 (.callP (kg t)
(.br 96 ((aB t) != 0) (.ret ((⟨[],[]⟩:Tpl)))
(.cmdL (.nilB 96 0 2) (.loop 0 (Km t f) I0 m0 (0,[]) [0,16,32,96,128] λ(t0:Int×List Rtr) b0 =>
(.br 85 (decide (t0.1<((t.rs.map Rtr.v).length:Int))) (.el 165 Rtr.v t.rs (λR=>Rf (t.rs.map Rtr.v) (ck (decide (0≤t0.1)) (ck (decide (t0.1<(t.rs.length:Int)))
(∀x1,t.rs[t0.1.toNat]?=some x1 →
(R x1))))) λx1 =>
(.callP (jW f.rs x1.id)
(.br 245 (!(decide (x1.id∈f.rs))) (.el 325 Rtr.v t.rs (λR=>Rf (t.rs.map Rtr.v) (ck (decide (0≤t0.1)) (ck (decide (t0.1<(t.rs.length:Int)))
(∀x2,t.rs[t0.1.toNat]?=some x2 →
(R x2))))) λx2 =>
(.say (λR=>Rf (α:=List AV) (t0.2.map Rtr.v) (Rf (α:=List AV) [.agg [.int x2.id,.bool x2.cap]]
(ck (decide (t0.2.length+1≤1048576))
R))) (.app 373 Rtr.v t0.2 [x2]
(.bk 0 b0 (W (t0.1+1),t0.2++[x2]) [0,1,2,3,373]))))
(.bk 0 b0 (W (t0.1+1),t0.2) [0,1,2,3,4]))))
(.cmdL (.nilB 3 1 5) (.loop 1 (Kl t f t0) (I1 t0) (m1 t0) (0,[]) [0,1,2,3,4,101] λ(t1:Int×List Lnk) b1 =>
(.br 86 (decide (t1.1<((t.ls.map Lnk.v).length:Int))) (.el 134 Lnk.v t.ls (λR=>Rf (t.ls.map Lnk.v) (ck (decide (0≤t1.1)) (ck (decide (t1.1<(t.ls.length:Int)))
(∀x3,t.ls[t1.1.toNat]?=some x3 →
(R x3))))) λx3 =>
(.join 2 (Kk t f t0 t1 x3) (λ(t2:Bool)=>I2 t0 t1 x3 t2) (λb2=>(.callP (jW f.rs x3.a)
(.br 310 (!(decide (x3.a∈f.rs))) (.callP (jW f.rs x3.b)
(.br 438 (!(decide (x3.b∈f.rs))) (.callP (Sb f.ls x3.a x3.b)
(.bk 2 b2 ((!(nmd f.ls x3.a x3.b)):Bool) [0,1,2,3,4,5,166]))
(.bk 2 b2 ((false):Bool) [0,1,2,3,4,5,166])))
(.bk 2 b2 ((false):Bool) [0,1,2,3,4,5,166])))) λ(t2:Bool) =>
(.br 7 t2 (.say (λR=>Rf (α:=List AV) (t1.2.map Lnk.v) (Rf (α:=List AV) [.agg [.int x3.a,.int x3.b,.int x3.ca,.int x3.cb,.int x3.w]]
(ck (decide (t1.2.length+1≤1048576))
R))) (.app 71 Lnk.v t1.2 [x3]
(.bk 1 b1 (W (t1.1+1),t1.2++[x3]) [0,1,2,3,4,71])))
(.bk 1 b1 (W (t1.1+1),t1.2) [0,1,2,3,4,5]))))
(.say (Rf (t1.2.map Lnk.v)) (.cmdL (.frzE 5 (t1.2.map Lnk.v) (ab (λ_=>rfl) t1.2)) (.say (Rf (t0.2.map Rtr.v)) (.cmdL (.frzE 4 (t0.2.map Rtr.v) (ab (λ_=>rfl) t0.2)) (.ret ((⟨t0.2,t1.2⟩:Tpl)))))))))))))))
def zY(t:Tpl)(f:Flr)(I0:(Int×List Rtr)→Prop)(m0:(Int×List Rtr)→Nat)(I1:Int×List Rtr→(Int×List Lnk)→Prop)(m1:Int×List Rtr→(Int×List Lnk)→Nat)(I2:Int×List Rtr→Int×List Lnk→Lnk→Bool→Prop)(r0:Tpl):=(uK t f I0 m0 I1 m1 I2).vp uL r0
theorem PT(t:Tpl)(f:Flr)(ok:E2 t f):∃I0 m0 I1 m1 I2,zY t f I0 m0 I1 m1 I2 (bI t f):=by
 refine⟨λq=>eU t.rs (λr=>!decide (r.id∈f.rs)) q.1 q.2,λq=>t.rs.length-q.1.toNat,λ_ q=>eU t.ls (λl=>!gone f l) q.1 q.2,λ_ q=>t.ls.length-q.1.toNat,λ_ q l b=>b=!gone f l,?_⟩
 simp only[E2,okU,Blk.ok,az,List.length_map]at ok
 dsimp only[zY,uK,E1,Ax.vp,Ax.vc];simp only[vcU,rfU,List.length_map]
 unfold bI
 by_cases hc:aB t=0
 case neg=>exact⟨λ_=>by rw[if_neg hc],λh=>by simp[hc]at h⟩
 have h1:=(aw hc).nr
 have h2:=(aw hc).nl
 rw[if_pos hc]
 refine⟨λh=>by simp[hc]at h,λ_=>⟨eU.zero,?_⟩⟩
 rintro⟨i,rs⟩ hF
 simp only at hF ⊢
 refine⟨λc=>⟨hF.idx,c,λx hx=>⟨λe=>⟨hF.idx,c,λy hy=>?_⟩,λe=>hF.drop (by omega) hx e⟩⟩,λc=>⟨eU.zero,?_⟩⟩
 ·rw[hx]at hy;cases hy
  exact⟨by have:=hF.len;omega,hF.keep (by omega) hx e⟩
 rintro⟨j,ls⟩ hG
 simp only at hG ⊢
 refine⟨λd=>⟨hG.idx,d,λx hx=>⟨⟨λe=>⟨λe2=>?_,λe2=>?_⟩,λe=>?_⟩,?_⟩⟩,λd=>?_⟩
 ·have e:¬x.a∈f.rs:=by simpa using e
  have e2:¬x.b∈f.rs:=by simpa using e2
  simp[gone,e,e2]
 ·have e2:x.b∈f.rs:=by simpa using e2
  simp[gone,e2]
 ·have e:x.a∈f.rs:=by simpa using e
  simp[gone,e]
 ·rintro _ rfl
  exact⟨λe=>⟨by have:=hG.len;omega,hG.keep (by omega) hx e⟩,λe=>hG.drop (by omega) hx e⟩
 ·rw[hF.done c,hG.done d]
def uM(t:Tpl)(f:Flr):PC Tryz.prog:=⟨167,[(.a [(.s 2),(.s 5)]),(.a [(.s 2),(.s 1)])],[.agg [.sl 2 (t.rs.map Rtr.v) false,.sl 5 (t.ls.map Lnk.v) false],.agg [.sl 2 (f.ls.map Hop.v) false,.sl 1 (f.rs.map AV.int) false]],uL (bI t f),ao.of_ok λok=>(PT t f ok).elim λI0 h=>h.elim λm0 h=>h.elim λI1 h=>h.elim λm1 h=>h.elim λI2 h=>aj (sh:=(.a [(.s 2),(.s 5)])) (enc:=uL) (a:=(uK t f I0 m0 I1 m1 I2).an) h (by kernel_rfl) (AV.pureB_ok rfl),ah (by kernel_rfl)⟩
def Kz(t:Tpl):=okL [.agg [.sl 2 (t.rs.map Rtr.v) false,.sl 5 (t.ls.map Lnk.v) false]]
def o0(r:Bool):AV:=.bool r
def oz(t:Tpl):Ax Tryz.prog noS (Bool):=
 (.callP (rh t)
(.ret ((aB t)==0)))
def rQ(t:Tpl)(r0:Bool):=(oz t).vp o0 r0
theorem Ky(t:Tpl)(ok:Kz t):rQ t (ge t):=by
 dsimp only[rQ,oz,noS,Ax.vp,Ax.vc];simp only[vcU,rfU,List.length_map]
 rfl
def Aj(t:Tpl):PC Tryz.prog:=⟨177,[(.a [(.s 2),(.s 5)])],[.agg [.sl 2 (t.rs.map Rtr.v) false,.sl 5 (t.ls.map Lnk.v) false]],o0 (ge t),ao.of_ok λok=>aj (sh:=.k) (enc:=o0) (a:=(oz t).an) (Ky t ok) (by kernel_rfl) (AV.pureB_ok rfl),ah (by kernel_rfl)⟩
def mZ(c:Dis)(f:Int)(s:Stp):Bool:=bn c s.to && (W (s.cost+ay c s.to 0)==ay c f 0)
def RU(l:List Stp)(c:Dis)(f:Int):List Int:=(l.filter (mZ c f)).map Stp.to
def lM(g:Grh)(c:Dis)(f:Int):List Int:=if bn c f=true then RU (ay g.out f []) c f else []
def RS(g:Grh)(costs:(List (Int×Int)))(from_:Int):=okL [.agg [.mp none (g.out.map λp:Int×List Stp=>MK.n p.1) (g.out.map λp:Int×List Stp=>(λl:List Stp=>AV.sl 2 (l.map Stp.v) false) p.2),.mp none (g.inn.map λp:Int×List Stp=>MK.n p.1) (g.inn.map λp:Int×List Stp=>(λl:List Stp=>AV.sl 2 (l.map Stp.v) false) p.2)],.mp none (costs.map λp:Int×Int=>MK.n p.1) (costs.map λp:Int×Int=>AV.int p.2),.int from_]
def Mc(g:Grh)(costs:(List (Int×Int)))(from_:Int)(t0:Int×List Int):NF:=⟨[(1,.k,.mp none (costs.map λp:Int×Int=>MK.n p.1) (costs.map λp:Int×Int=>AV.int p.2)),(7,.k,.vec 0),(8,.k,.int (ay costs from_ 0)),(25,.k,.sl 2 ((ay g.out from_ []).map Stp.v) false),(26,.k,.int (((ay g.out from_ []).map Stp.v).length:Int)),(27,.k,.int t0.1)],[.vec 1 (t0.2.map AV.int) (ab (λ_=>rfl) t0.2)]⟩
def Mb(g:Grh)(costs:(List (Int×Int)))(from_:Int)(t0:Int×List Int)(x1:Stp)(t1:Bool):NF:=⟨[(1,.k,.mp none (costs.map λp:Int×Int=>MK.n p.1) (costs.map λp:Int×Int=>AV.int p.2)),(7,.k,.vec 0),(8,.k,.int (ay costs from_ 0)),(11,.k,.ref 1 0),(25,.k,.sl 2 ((ay g.out from_ []).map Stp.v) false),(26,.k,.int (((ay g.out from_ []).map Stp.v).length:Int)),(27,.k,.int t0.1),(46,.k,.bool t1)],[.vec 1 (t0.2.map AV.int) (ab (λ_=>rfl) t0.2),.box (.agg [.int x1.to,.int x1.cost])]⟩
def Ma(costs:(List (Int×Int)))(from_:Int)(t2:Unit):NF:=⟨[(1,.k,.mp none (costs.map λp:Int×Int=>MK.n p.1) (costs.map λp:Int×Int=>AV.int p.2)),(7,.k,.sl 0 [] true),(8,.k,.int (ay costs from_ 0)),(25,.k,.sl 0 [] true),(26,.k,.int 0),(27,.k,.int 0)],[]⟩
@[reducible] def Gy:Nat→Type
 | 0=>Int×List Int
 | 1=>Bool
 | 2=>Unit
 | _=>Unit
def wG(r:List Int):AV:=.sl 1 (r.map AV.int) false
def wF(g:Grh)(costs:(List (Int×Int)))(from_:Int)(I0:(Int×List Int)→Prop)(m0:(Int×List Int)→Nat)(I1:Int×List Int→Stp→Bool→Prop)(I2:Unit→Prop)(m2:Unit→Nat):Ax Tryz.prog Gy ((List Int)):=
 (.mn 80 (fF AV.int costs from_ 0) (.br 208 (!(bn costs from_)) (.ret ([]))
(.mn 256 (wW false (λl:List Stp=>AV.sl 2 (l.map Stp.v) false) g.out from_ []) (.br 256 (bn g.out from_) (.cmdL (.nilT 7 1) (.loop 0 (Mc g costs from_) I0 m0 (0,[]) [304] λ(t0:Int×List Int) b0 =>
(.br 17 (decide (t0.1<(((ay g.out from_ []).map Stp.v).length:Int))) (.el 17 Stp.v (ay g.out from_ []) (λR=>Rf ((ay g.out from_ []).map Stp.v) (ck (decide (0≤t0.1)) (ck (decide (t0.1<((ay g.out from_ []).length:Int)))
(∀x1,(ay g.out from_ [])[t0.1.toNat]?=some x1 →
(R x1))))) λx1 =>
(.mn 129 (fF AV.int costs x1.to 0) (.join 1 (Mb g costs from_ t0 x1) (λ(t1:Bool)=>I1 t0 x1 t1) (λb1=>(.br 257 (bn costs x1.to) (.bk 1 b1 (((W (x1.cost+(ay costs x1.to 0)))==(ay costs from_ 0)):Bool) [0,49])
(.bk 1 b1 ((false):Bool) [0,49]))) λ(t1:Bool) =>
(.br 2 t1 (.say (λR=>Rf (α:=List AV) (t0.2.map AV.int) (Rf (α:=List AV) [.int x1.to]
(ck (decide (t0.2.length+1≤1048576))
R))) (.app 66 AV.int t0.2 [x1.to]
(.bk 0 b0 (W (t0.1+1),t0.2++[x1.to]) [66])))
(.bk 0 b0 (W (t0.1+1),t0.2) [0])))))
(.say (Rf (t0.2.map AV.int)) (.cmdL (.frzE 0 (t0.2.map AV.int) (ab (λ_=>rfl) t0.2)) (.ret (t0.2)))))))
(.loop 2 (Ma costs from_) I2 m2 ((()):Unit) [] λ(t2:Unit) b2 =>
(.ret ([])))))))
def Bs(g:Grh)(costs:(List (Int×Int)))(from_:Int)(I0:(Int×List Int)→Prop)(m0:(Int×List Int)→Nat)(I1:Int×List Int→Stp→Bool→Prop)(I2:Unit→Prop)(m2:Unit→Nat)(r0:List Int):=(wF g costs from_ I0 m0 I1 I2 m2).vp wG r0
theorem RQ(g:Grh)(c:Dis)(f:Int)(h:(ay g.out f []).length≤1000000)(ok:RS g c f):∃I0 m0 I1 I2 m2,Bs g c f I0 m0 I1 I2 m2 (lM g c f):=by
 refine⟨λq=>∃a,eU (ay g.out f []) (mZ c f) q.1 a∧q.2=a.map Stp.to,λq=>(ay g.out f []).length-q.1.toNat,λ_ s b=>b=mZ c f s,λ_=>True,λ_=>0,?_⟩
 dsimp only[Bs,wF,Gy,Ax.vp,Ax.vc];simp only[vcU,rfU,List.length_map]
 unfold lM
 refine⟨λhh=>by rw[if_neg (by simpa using hh)],λhh=>?_⟩
 have hh:bn c f=true:=by simpa using hh
 rw[if_pos hh]
 refine⟨λhg=>⟨⟨[],eU.zero,rfl⟩,?_⟩,λhg=>⟨trivial,λ_ _=>?_⟩⟩
 ·rintro⟨i,out⟩ ⟨a,hF,ho⟩
  have ho:out=a.map Stp.to:=ho
  subst ho
  simp only at hF ⊢
  refine⟨λd=>⟨hF.idx,d,λx hx=>⟨⟨λe=>by rw[mZ,e,Bool.true_and],λe=>by rw[mZ,e,Bool.false_and]⟩,?_⟩⟩,λd=>?_⟩
  ·rintro _ rfl
   refine⟨λe=>⟨by have:=hF.len;rw[List.length_map];omega,⟨_,(hF.keep (by omega) hx e).1,by simp⟩,(hF.keep (by omega) hx e).2⟩,λe=>⟨⟨_,(hF.drop (by omega) hx e).1,rfl⟩,(hF.drop (by omega) hx e).2⟩⟩
  ·rw[RU,hF.done d]
 ·have:ay g.out f []=[]:=kT hg
  rw[this];rfl
def RR(g:Grh)(costs:(List (Int×Int)))(from_:Int)(h:(ay g.out from_ []).length≤1000000):PC Tryz.prog:=⟨180,[.k,.k,.k],[.agg [.mp none (g.out.map λp:Int×List Stp=>MK.n p.1) (g.out.map λp:Int×List Stp=>(λl:List Stp=>AV.sl 2 (l.map Stp.v) false) p.2),.mp none (g.inn.map λp:Int×List Stp=>MK.n p.1) (g.inn.map λp:Int×List Stp=>(λl:List Stp=>AV.sl 2 (l.map Stp.v) false) p.2)],.mp none (costs.map λp:Int×Int=>MK.n p.1) (costs.map λp:Int×Int=>AV.int p.2),.int from_],wG (lM g costs from_),ao.of_ok λok=>(RQ g costs from_ h ok).elim λI0 h=>h.elim λm0 h=>h.elim λI1 h=>h.elim λI2 h=>h.elim λm2 h=>aj (sh:=(.s 1)) (enc:=wG) (a:=(wF g costs from_ I0 m0 I1 I2 m2).an) h (by kernel_rfl) (AV.pureB_ok rfl),ah (by kernel_rfl)⟩
structure kz (L:Lks):Prop where
  len:L.length≤1000000
  nd:(au L).Nodup
  to:∀x,∀s∈ay L x [],s.to∈au L
  cost:∀x,∀s∈ay L x [],1≤s.cost∧s.cost≤1000
structure DJ (L:Lks) (f:Int) (out op:Dis):Prop where
  di:iZ L out op
  src:(f,0)∈out∨(f,0)∈op
  tgt:∀p,p∈out∨p∈op→p.1≠f→∃q∈out,∃s∈ay L q.1 [],s.to=p.1∧p.2=q.2+s.cost
  mon:∀p∈out,∀q∈op,p.2≤q.2
  bnd:∀p,p∈out∨p∈op→0≤p.2∧p.2≤1000 * out.length
theorem DJ.relx{L:Lks}{f:Int}{out op:Dis}{b c:Int}(hL:kz L)(h:DJ L f out op)(hb:(b,c)∈out)(ht:∀p∈out,p.2≤c)(hc:c+1000≤1000 * out.length){s:Stp}(hs:s∈ay L b []) :
  DJ L f out (relx c out op s)∧(∀x n,(x,n)∈op→∃m,m≤n∧(x,m)∈Go.Proofs.YtdbdndmdbbihbaaGreatDoor.relx c out op s)∧∃n,n≤c+s.cost∧((s.to,n)∈out∨(s.to,n)∈Go.Proofs.YtdbdndmdbbihbaaGreatDoor.relx c out op s):=by
 obtain⟨c1,c2⟩:=hL.cost b s hs
 have c0:=(h.bnd _ (.inl hb)).1
 have hDi:=h.di.relx (c:=c) (hL.to b s hs)
 have hlen:=h.di.len1
 have hll:=hL.len
 have hW:W (c+s.cost)=c+s.cost:=cn ⟨by omega,by omega⟩
 revert hDi
 unfold Go.Proofs.YtdbdndmdbbihbaaGreatDoor.relx
 rw[hW]
 by_cases e1:bn out s.to=true
 ·rw[if_pos e1]
  intro hDi
  refine⟨h,λx n hx=>⟨n,Int.le_refl _,hx⟩,?_⟩
  obtain⟨n,hn⟩:=cg.mp e1
  exact⟨n,by have:=ht _ hn;simp at this;omega,.inl hn⟩
 rw[if_neg e1]
 by_cases e2:bn op s.to=false∨c+s.cost<ay op s.to 0
 ·rw[if_pos e2]
  intro hDi
  have hm:=λp=>cZ (l:=op) (p:=p) (x:=s.to) (v:=c+s.cost) h.di.np
  refine⟨⟨hDi,?_,?_,?_,?_⟩,λx n hx=>?_,⟨c+s.cost,Int.le_refl _,.inr ((hm _).mpr (.inl rfl))⟩⟩
  ·rcases h.src with q|q
   ·exact .inl q
   ·refine .inr ((hm _).mpr (.inr ⟨q,?_⟩))
    rintro rfl
    rcases e2 with e2|e2
    ·exact B4.mp e2 _ q
    ·rw[eQ h.di.np q]at e2;omega
  ·rintro p (hp|hp) hpf
   ·exact h.tgt p (.inl hp) hpf
   ·rcases(hm _).mp hp with rfl|⟨hp,_⟩
    ·exact⟨_,hb,s,hs,rfl,rfl⟩
    ·exact h.tgt p (.inr hp) hpf
  ·intro p hp q hq
   rcases(hm _).mp hq with rfl|⟨hq,_⟩
   ·have:=ht p hp;simp only;omega
   ·exact h.mon p hp q hq
  ·rintro p (hp|hp)
   ·exact h.bnd p (.inl hp)
   ·rcases(hm _).mp hp with rfl|⟨hp,_⟩
    ·simp only;omega
    ·exact h.bnd p (.inr hp)
  ·by_cases ex:x=s.to
   ·subst ex
    refine⟨c+s.cost,?_,(hm _).mpr (.inl rfl)⟩
    rcases e2 with e2|e2
    ·exact absurd hx (B4.mp e2 _)
    ·rw[eQ h.di.np hx]at e2;omega
   ·exact⟨n,Int.le_refl _,(hm _).mpr (.inr ⟨hx,ex⟩)⟩
 ·rw[if_neg e2]
  intro hDi
  refine⟨h,λx n hx=>⟨n,Int.le_refl _,hx⟩,?_⟩
  have e3:bn op s.to=true:=by
   cases q:bn op s.to
   ·exact absurd (.inl q) e2
   ·rfl
  have e4:¬c+s.cost<ay op s.to 0:=λq=>e2 (.inr q)
  exact⟨ay op s.to 0,by omega,.inr (cY e3)⟩
theorem DJ.fold{L:Lks}{f:Int}{out:Dis}{b c:Int}(hL:kz L)(hb:(b,c)∈out)(ht:∀p∈out,p.2≤c)(hc:c+1000≤1000 * out.length):∀{l:List Stp} {op:Dis},DJ L f out op→(∀s∈l,s∈ay L b []) →
  DJ L f out (l.foldl (Go.Proofs.YtdbdndmdbbihbaaGreatDoor.relx c out) op)∧(∀x n,(x,n)∈op→∃m,m≤n∧(x,m)∈l.foldl (Go.Proofs.YtdbdndmdbbihbaaGreatDoor.relx c out) op)∧∀s∈l,∃n,n≤c+s.cost∧((s.to,n)∈out∨(s.to,n)∈l.foldl (Go.Proofs.YtdbdndmdbbihbaaGreatDoor.relx c out) op)
 | [],op,h,_=>⟨h,λx n hx=>⟨n,Int.le_refl _,hx⟩,λs hs=>by cases hs⟩
 | s::l,op,h,hs=>by
  obtain⟨h1,h2,h3⟩:=h.relx hL hb ht hc (hs s (by simp))
  obtain⟨g1,g2,g3⟩:=DJ.fold hL hb ht hc h1 λx hx=>hs x (List.mem_cons_of_mem _ hx)
  rw[List.foldl_cons]
  refine⟨g1,λx n hx=>?_,λq hq=>?_⟩
  ·obtain⟨m,hm,hx⟩:=h2 x n hx
   obtain⟨m',hm',hx⟩:=g2 x m hx
   exact⟨m',by omega,hx⟩
  ·rcases List.mem_cons.mp hq with rfl|hq
   ·obtain⟨n,hn,hx|hx⟩:=h3
    ·exact⟨n,hn,.inl hx⟩
    ·obtain⟨m',hm',hx⟩:=g2 _ n hx
     exact⟨m',by omega,.inr hx⟩
   ·exact g3 q hq
structure uG (L:Lks) (f:Int) (D:Dis):Prop where
  nd:(au D).Nodup
  ke:∀x∈au D,x∈au L
  src:(f,0)∈D
  rlx:∀p∈D,∀s∈ay L p.1 [],∃n,n≤p.2+s.cost∧(s.to,n)∈D
  tgt:∀p∈D,p.1≠f→∃q∈D,∃s∈ay L q.1 [],s.to=p.1∧p.2=q.2+s.cost
  pos:∀p∈D,0≤p.2∧p.2≤1000 * D.length
theorem Mv{l m:List Int}(hl:l.Nodup)(hm:m.Nodup)(hs:∀x∈l,x∈m)(e:l.length=m.length):∀x∈m,x∈l:=λx hx=>by
 refine Classical.byContradiction λq=>?_
 have h2:(x::l).Nodup:=List.nodup_cons.mpr ⟨q,hl⟩
 have:=List.Nodup.length_le_of_subset h2 (l₂:=m) λy hy=>by
  rcases List.mem_cons.mp hy with rfl|hy
  ·exact hx
  ·exact hs y hy
 simp at this;omega
theorem C7{L:Lks}{f:Int}(hL:kz L):∀(n:Nat) (out op:Dis),DJ L f out op→(∀p∈out,∀s∈ay L p.1 [],∃n,n≤p.2+s.cost∧((s.to,n)∈out∨(s.to,n)∈op))→n=L.length-out.length→out.length<L.length→uG L f (Ek L n out op)
 | 0,out,op,h,hr,hn,hl=>by omega
 | n+1,out,op,h,hr,hn,hl=>by
  rw[Ek]
  by_cases e:op=[]
  ·rw[if_pos e]
   subst e
   refine⟨h.di.no,h.di.ko,?_,λp hp s hs=>?_,λp hp hf=>h.tgt p (.inl hp) hf,λp hp=>h.bnd p (.inl hp)⟩
   ·rcases h.src with q|q
    ·exact q
    ·cases q
   ·obtain⟨n,hn,hx|hx⟩:=hr p hp s hs
    ·exact⟨n,hn,hx⟩
    ·cases hx
  rw[if_neg e]
  obtain⟨c,hc,hmin⟩:=J5 e
  rw[eQ h.di.np hc]
  generalize bst op=b at hc hmin ⊢
  have hbk:b∈au op:=aM.mpr ⟨c,hc⟩
  have hbo:=h.di.di b hbk
  obtain⟨hD,hlen⟩:=h.di.pop (c:=c) hbk
  have hmo:=λp=>cZ (l:=out) (p:=p) (x:=b) (v:=c) h.di.no
  have hmd:=λp=>pR (l:=op) (p:=p) (x:=b) h.di.np
  have hout:∀p∈out,p∈bJ out b c:=λp hp=>(hmo p).mpr (.inr ⟨hp,λe=>hbo (aM.mpr ⟨p.2,by rw[←e];exact hp⟩)⟩)
  have htop:∀p∈bJ out b c,p.2≤c:=λp hp=>by
   rcases(hmo p).mp hp with rfl|⟨hp,_⟩
   ·exact Int.le_refl _
   ·exact h.mon p hp _ hc
  have hmv:∀p,p∈op→p∈bJ out b c∨p∈mdl op b:=λp hp=>by
   by_cases e:p.1=b
   ·refine .inl ((hmo p).mpr (.inl ?_))
    have:p.2=c:=fM h.di.np (x:=b) (by rw[←e];exact hp) hc
    exact Prod.ext e this
   ·exact .inr ((hmd p).mpr ⟨hp,e⟩)
  have hback:∀p,p∈bJ out b c∨p∈mdl op b→p∈out∨p∈op:=λp hp=>by
   rcases hp with hp|hp
   ·rcases(hmo p).mp hp with rfl|⟨hp,_⟩
    ·exact .inr hc
    ·exact .inl hp
   ·exact .inr ((hmd p).mp hp).1
  have hJ:DJ L f (bJ out b c) (mdl op b):=by
   refine⟨hD,?_,λp hp hf=>?_,λp hp q hq=>?_,λp hp=>?_⟩
   ·rcases h.src with q|q
    ·exact .inl (hout _ q)
    ·exact hmv _ q
   ·obtain⟨q,hq,s,hs,h1,h2⟩:=h.tgt p (hback p hp) hf
    exact⟨q,hout q hq,s,hs,h1,h2⟩
   ·have h1:=htop p hp
    have h2:=hmin q ((hmd q).mp hq).1
    unfold bfr at h2;simp only at h2;omega
   ·have:=h.bnd p (hback p hp)
    rw[hlen];omega
  have hcb:=h.bnd _ (.inr hc)
  simp only at hcb
  have hbm:(b,c)∈bJ out b c:=(hmo _).mpr (.inl rfl)
  have hold:∀p∈out,∀s∈ay L p.1 [],∃n,n≤p.2+s.cost∧((s.to,n)∈bJ out b c∨(s.to,n)∈mdl op b):=λp hp s hs=>by
   obtain⟨n,hn,hx|hx⟩:=hr p hp s hs
   ·exact⟨n,hn,.inl (hout _ hx)⟩
   ·exact⟨n,hn,hmv _ hx⟩
  by_cases e2:(bJ out b c).length=L.length
  ·rw[if_pos e2]
   have hall:=Mv hD.no hL.nd hD.ko (by rw[cE,cE,e2])
   have hemp:∀p,p ∉ mdl op b:=λp hp=>by
    have hk:p.1∈au (mdl op b):=aM.mpr ⟨p.2,hp⟩
    exact hD.di _ hk (hall _ (hD.kp _ hk))
   refine⟨hD.no,hD.ko,?_,λp hp s hs=>?_,λp hp hf=>hJ.tgt p (.inl hp) hf,λp hp=>hJ.bnd p (.inl hp)⟩
   ·rcases hJ.src with q|q
    ·exact q
    ·exact absurd q (hemp _)
   ·rcases(hmo p).mp hp with rfl|⟨hp',_⟩
    ·obtain⟨n,hn⟩:=aM.mp (hall _ (hL.to _ s hs))
     have h1:=htop _ hn
     have h2:=hL.cost _ s hs
     exact⟨n,by simp only at h1 ⊢;omega,hn⟩
    ·obtain⟨n,hn,hx|hx⟩:=hold p hp' s hs
     ·exact⟨n,hn,hx⟩
     ·exact absurd hx (hemp _)
  ·rw[if_neg e2]
   obtain⟨g1,g2,g3⟩:=hJ.fold hL hbm htop (by rw[hlen];omega) (l:=ay L b []) λs hs=>hs
   refine C7 hL n _ _ g1 (λp hp s hs=>?_) (by rw[hlen];omega) (by have:=hD.len1;omega)
   rcases(hmo p).mp hp with rfl|⟨hp',_⟩
   ·exact g3 s hs
   ·obtain⟨n,hn,hx|hx⟩:=hold p hp' s hs
    ·exact⟨n,hn,.inl hx⟩
    ·obtain⟨m,hm,hx⟩:=g2 _ _ hx
     exact⟨m,by omega,.inr hx⟩
theorem eE{L:Lks}{f:Int}(hL:kz L)(hf:f∈au L):uG L f (bt L f):=by
 have h0:0<L.length:=by rw[←cE];exact List.length_pos_of_mem hf
 have e:bJ ([]:Dis) f 0=[(f,0)]:=rfl
 rw[bt,if_pos (show bn L f=true from decide_eq_true hf),e]
 refine C7 hL _ _ _ ⟨⟨by simp[au],by simp[au],by simp[au],by simp[au];simpa[au]using hf,by simp[au]⟩,.inr (by simp),λp hp hpf=>?_,by simp,λp hp=>?_⟩ (by simp) (by simp) (by simpa using h0)
 ·rcases hp with hp|hp
  ·cases hp
  ·rw[List.mem_singleton.mp hp]at hpf;exact absurd rfl hpf
 ·rcases hp with hp|hp
  ·cases hp
  ·rw[List.mem_singleton.mp hp];simp
inductive gG (L:Lks) (f:Int):Int→Int→Prop
  | nil:gG L f f 0
  | snoc {u n:Int} {s:Stp}:gG L f u n→s∈ay L u []→gG L f s.to (n+s.cost)
theorem uG.low{L:Lks}{f:Int}{D:Dis}(h:uG L f D){v n:Int}(p:gG L f v n):∃m,m≤n∧(v,m)∈D:=by
 induction p with
 | nil=>exact⟨0,Int.le_refl _,h.src⟩
 | snoc q hs ih =>
  obtain⟨m,hm,hx⟩:=ih
  obtain⟨k,hk,hx⟩:=h.rlx _ hx _ hs
  exact⟨k,by simp only at hk;omega,hx⟩
theorem uG.path{L:Lks}{f:Int}{D:Dis}(hL:kz L)(h:uG L f D):∀(k:Nat) {v n:Int},n.toNat≤k→(v,n)∈D→gG L f v n
 | k,v,n,hk,hx=>by
  by_cases e:v=f
  ·subst e
   have:=fM h.nd hx h.src
   subst this;exact .nil
  ·obtain⟨⟨u,m⟩,hq,s,hs,h1,h2⟩:=h.tgt _ hx e
   simp only at h1 h2 hs
   have hc:=hL.cost _ s hs
   have hp:=(h.pos _ hq).1
   have hp2:=(h.pos _ hx).1
   simp only at hp hp2
   subst h1;subst h2
   match k with
   | 0=>omega
   | k+1=>exact .snoc (uG.path hL h k (by omega) hq) hs
theorem nS{L:Lks}{f:Int}(hL:kz L)(hf:f∈au L){v m:Int}:(v,m)∈bt L f↔gG L f v m∧∀n,gG L f v n→m≤n:=by
 have h:=eE hL hf
 constructor
 ·intro hx
  refine⟨h.path hL _ (Nat.le_refl _) hx,λn p=>?_⟩
  obtain⟨k,hk,hx'⟩:=h.low p
  rw[fM h.nd hx hx'];exact hk
 ·rintro⟨p,q⟩
  obtain⟨k,hk,hx⟩:=h.low p
  have:=q k (h.path hL _ (Nat.le_refl _) hx)
  have:k=m:=by omega
  rw[←this];exact hx
def isR(r:Int)(x:Rtr):Bool:=x.id==r
theorem H9{α:Type}{p:α→Bool}{l:List α}(h:l.any p=true):0≤ci p l∧ci p l<l.length:=by
 rw[ci,if_pos h]
 have:l.findIdx p<l.length:=List.findIdx_lt_length.mpr (List.any_eq_true.mp h)
 omega
def aT(t:Tpl)(r:Int):Int:=if aK t r=true then ci (isR r) t.rs else 0
theorem sy{t:Tpl}{r:Int}(h:0<t.rs.length):0≤aT t r∧aT t r<t.rs.length:=by
 unfold aT
 split
 ·rename_i c;exact H9 c
 ·omega
def FX(t:Tpl)(r:Int):=okL [.agg [.sl 2 (t.rs.map Rtr.v) false,.sl 5 (t.ls.map Lnk.v) false],.int r]
def Lz(t:Tpl)(r:Int)(t0:Int):NF:=⟨[(1,.k,.int r),(2,.k,.ref 0 0),(5,.k,.int t0)],[.box (.agg [.sl 2 (t.rs.map Rtr.v) false,.sl 5 (t.ls.map Lnk.v) false])]⟩
@[reducible] def FV:Nat→Type
 | 0=>Int
 | _=>Unit
def wd(r:Int):AV:=.int r
def wc(t:Tpl)(r:Int)(I0:Int→Prop)(m0:Int→Nat):Ax Tryz.prog FV (Int):=
 (.loop 0 (Lz t r) I0 m0 ((0):Int) [0] λ(t0:Int) b0 =>
(.br 81 (decide (t0<((t.rs.map Rtr.v).length:Int))) (.el 129 Rtr.v t.rs (λR=>Rf (t.rs.map Rtr.v) (ck (decide (0≤t0)) (ck (decide (t0<(t.rs.length:Int)))
(∀x1,t.rs[t0.toNat]?=some x1 →
(R x1))))) λx1 =>
(.br 209 (x1.id==r) (.ret (t0))
(.bk 0 b0 ((W (t0+1)):Int) [0])))
(.ret (0))))
def AU(t:Tpl)(r:Int)(I0:Int→Prop)(m0:Int→Nat)(r0:Int):=(wc t r I0 m0).vp wd r0
theorem Rr(t:Tpl)(r:Int)(ok:FX t r):∃I m,AU t r I m (aT t r):=by
 refine⟨λi=>aG t.rs (λx=>isR r x=false) i,λi=>t.rs.length-i.toNat,?_⟩
 simp only[FX,okU,Blk.ok,az,List.length_map]at ok
 dsimp only[AU,wc,FV,Ax.vp,Ax.vc];simp only[vcU,rfU,List.length_map]
 refine⟨aG.zero,λi h=>⟨λc=>⟨h.idx,c,λx hx=>⟨λq=>?_,λq=>h.step (by omega) hx q⟩⟩,λc=>?_⟩⟩
 ·have:aK t r=true:=List.any_eq_true.mpr ⟨x,bq hx,q⟩
  rw[aT,if_pos this];exact h.found hx q
 ·have:¬aK t r=true:=λq=>by
   obtain⟨x,hx,q⟩:=List.any_eq_true.mp q
   have:=h.done c x hx
   rw[isR,q]at this;cases this
  rw[aT,if_neg this]
def FW(t:Tpl)(r:Int):PC Tryz.prog:=⟨175,[(.a [(.s 2),(.s 5)]),.k],[.agg [.sl 2 (t.rs.map Rtr.v) false,.sl 5 (t.ls.map Lnk.v) false],.int r],wd (aT t r),ao.of_ok λok=>(Rr t r ok).elim λI0 h=>h.elim λm0 h=>aj (sh:=.k) (enc:=wd) (a:=(wc t r I0 m0).an) h (by kernel_rfl) (AV.pureB_ok rfl),ah (by kernel_rfl)⟩
def okD(t:Tpl)(d:List Int):Prop:=d.length=t.rs.length∧t.rs.length≤1000
def at6(t:Tpl)(d:List Int)(r:Int):Int:=if aK t r=true then d.getD (ci (isR r) t.rs).toNat 0 else 1073741824
def at6_a(t:Tpl)(d:List Int)(r:Int):=okL [.agg [.sl 2 (t.rs.map Rtr.v) false,.sl 5 (t.ls.map Lnk.v) false],.sl 1 (d.map AV.int) false,.int r]
def UV(t:Tpl)(d:List Int)(r:Int)(t0:Int):NF:=⟨[(1,.k,.sl 1 (d.map AV.int) false),(2,.k,.int r),(3,.k,.ref 0 0),(7,.k,.int t0)],[.box (.agg [.sl 2 (t.rs.map Rtr.v) false,.sl 5 (t.ls.map Lnk.v) false])]⟩
@[reducible] def PM:Nat→Type
 | 0=>Int
 | _=>Unit
def JU(r:Int):AV:=.int r
def JR(t:Tpl)(d:List Int)(r:Int)(I0:Int→Prop)(m0:Int→Nat):Ax Tryz.prog PM (Int):=
 (.loop 0 (UV t d r) I0 m0 ((0):Int) [0] λ(t0:Int) b0 =>
(.br 81 (decide (t0<((t.rs.map Rtr.v).length:Int))) (.el 129 Rtr.v t.rs (λR=>Rf (t.rs.map Rtr.v) (ck (decide (0≤t0)) (ck (decide (t0<(t.rs.length:Int)))
(∀x1,t.rs[t0.toNat]?=some x1 →
(R x1))))) λx1 =>
(.br 209 (x1.id==r) (.el 241 AV.int d (λR=>Rf (d.map AV.int) (ck (decide (0≤t0)) (ck (decide (t0<(d.length:Int)))
(∀x2,d[t0.toNat]?=some x2 →
(R x2))))) λx2 =>
(.ret (x2)))
(.bk 0 b0 ((W (t0+1)):Int) [0])))
(.ret (1073741824))))
def JS(t:Tpl)(d:List Int)(r:Int)(I0:Int→Prop)(m0:Int→Nat)(r0:Int):=(JR t d r I0 m0).vp JU r0
theorem at6_p(t:Tpl)(d:List Int)(r:Int)(h:okD t d)(ok:at6_a t d r):∃I m,JS t d r I m (at6 t d r):=by
 refine⟨λi=>aG t.rs (λx=>isR r x=false) i,λi=>t.rs.length-i.toNat,?_⟩
 dsimp only[JS,JR,PM,Ax.vp,Ax.vc];simp only[vcU,rfU,List.length_map]
 obtain⟨hd,hn⟩:=h
 refine⟨aG.zero,λi h=>⟨λc=>⟨h.idx,c,λx hx=>⟨λq=>⟨h.idx,by omega,λy hy=>?_⟩,λq=>h.step (by omega) hx q⟩⟩,λc=>?_⟩⟩
 ·have e:aK t r=true:=List.any_eq_true.mpr ⟨x,bq hx,q⟩
  rw[at6,if_pos e,←h.found hx q,List.getD_eq_getElem?_getD,hy];rfl
 ·have:¬aK t r=true:=λq=>by
   obtain⟨x,hx,q⟩:=List.any_eq_true.mp q
   have:=h.done c x hx
   rw[isR,q]at this;cases this
  rw[at6,if_neg this]
def Di(t:Tpl)(d:List Int)(r:Int)(h:okD t d):PC Tryz.prog:=⟨176,[(.a [(.s 2),(.s 5)]),(.s 1),.k],[.agg [.sl 2 (t.rs.map Rtr.v) false,.sl 5 (t.ls.map Lnk.v) false],.sl 1 (d.map AV.int) false,.int r],JU (at6 t d r),ao.of_ok λok=>(at6_p t d r h ok).elim λI0 h=>h.elim λm0 h=>aj (sh:=.k) (enc:=JU) (a:=(JR t d r I0 m0).an) h (by kernel_rfl) (AV.pureB_ok rfl),ah (by kernel_rfl)⟩
def rlx1(d:List Int)(a b:Nat)(c:Int):List Int:=if d.getD b 0<1073741824 then d.set a (dm (d.getD a 0) (W (c+d.getD b 0)))else d
def rlx(t:Tpl)(d:List Int)(l:Lnk):List Int:=rlx1 (rlx1 d (aT t l.a).toNat (aT t l.b).toNat l.ca) (aT t l.b).toNat (aT t l.a).toNat l.cb
def iM(t:Tpl):Nat→List Int→List Int
 | 0,d=>d
 | n+1,d=>t.ls.foldl (rlx t) (iM t n d)
def to0(t:Tpl)(r:Int):List Int:=t.rs.map λx=>if isR r x=true then 0 else 1073741824
def to6(t:Tpl)(r:Int):List Int:=iM t t.rs.length (to0 t r)
theorem hZ{d:List Int}{a b:Nat}{c:Int}:(rlx1 d a b c).length=d.length:=by unfold rlx1;split<;>simp
theorem AK{t:Tpl}{d:List Int}{l:Lnk}:(rlx t d l).length=d.length:=by rw[rlx,hZ,hZ]
theorem gp{t:Tpl}:∀{ls:List Lnk} {d:List Int},(ls.foldl (rlx t) d).length=d.length
 | [],d=>rfl
 | l::ls,d=>by rw[List.foldl_cons,gp,AK]
theorem l7{t:Tpl}{d:List Int}:∀{n:Nat},(iM t n d).length=d.length
 | 0=>rfl
 | n+1=>by rw[iM,gp,l7]
theorem oC{t:Tpl}{r:Int}:(to6 t r).length=t.rs.length:=by rw[to6,l7,to0,List.length_map]
theorem Mt{l:List Int}{k:Nat}{v:Int}{P:Int→Prop}(h:∀x∈l,P x)(hv:P v):∀x∈l.set k v,P x:=λx hx=>by
 rcases List.mem_or_eq_of_mem_set hx with q|q
 ·exact h x q
 ·exact q ▸ hv
theorem qm{d:List Int}(h:∀x∈d,0≤x)(k:Nat):0≤d.getD k 0:=by
 rw[List.getD_eq_getElem?_getD]
 cases e:d[k]? with
 | none=>simp
 | some x=>exact h x (aP e)
theorem kO{d:List Int}{a b:Nat}{c:Int}(h:∀x∈d,0≤x)(hc:1≤c∧c≤1000):∀x∈rlx1 d a b c,0≤x:=by
 unfold rlx1
 split
 ·have h1:=qm h a
  have h2:=qm h b
  refine Mt h ?_
  rw[cn (by omega)]
  unfold dm;split<;>omega
 ·exact h
theorem dT{n:Int}:kL n=true↔1≤n∧n≤1000:=by unfold kL;simp
theorem Fw{t:Tpl}{d:List Int}{l:Lnk}(h:∀x∈d,0≤x)(hl:gO l):∀x∈rlx t d l,0≤x:=kO (kO h (dT.mp hl.1)) (dT.mp hl.2.1)
theorem kA{t:Tpl}:∀{ls:List Lnk} {d:List Int},(∀x∈d,0≤x)→(∀l∈ls,gO l)→∀x∈ls.foldl (rlx t) d,0≤x
 | [],d,h,_=>h
 | l::ls,d,h,hl=>kA (t:=t) (ls:=ls) (d:=rlx t d l) (Fw h (hl l (by simp))) λm hm=>hl m (by simp[hm])
theorem AJ{t:Tpl}(hl:∀l∈t.ls,gO l){d:List Int}(h:∀x∈d,0≤x):∀{n:Nat},∀x∈iM t n d,0≤x
 | 0=>h
 | n+1=>kA (AJ hl h) hl
theorem ri{t:Tpl}(h:aB t=0):∀l∈t.ls,gO l:=by
 refine Classical.byContradiction λq=>?_
 unfold aB at h
 by_cases c1:24<t.rs.length∨60<t.ls.length
 ·rw[if_pos c1]at h;cases h
 rw[if_neg c1]at h
 by_cases c2:¬∀x∈t.rs,1≤x.id∧x.id≤99
 ·rw[if_pos c2]at h;cases h
 rw[if_neg c2]at h
 by_cases c3:¬t.rs.Pairwise (λx y=>x.id<y.id)
 ·rw[if_pos c3]at h;cases h
 rw[if_neg c3,if_pos q]at h;cases h
theorem vn{t:Tpl}(h:aB t=0){r:Int}:∀x∈to6 t r,0≤x:=by
 refine AJ (ri h) λx hx=>?_
 obtain⟨y,_,rfl⟩:=List.mem_map.mp hx
 split<;>omega
theorem A5{α:Type}{A B:List α}{k:Nat}{x v:α}(h:A.length=k):(A++x::B).set k v=A++v::B:=by
 subst h;rw[List.set_append_right _ _ (Nat.le_refl _),Nat.sub_self,List.set_cons_zero]
theorem getD_of{d:List Int}{k:Nat}{x:Int}(h:d[k]?=some x):d.getD k 0=x:=by rw[List.getD_eq_getElem?_getD,h];rfl
def to6_a(t:Tpl)(to_:Int):=okL [.agg [.sl 2 (t.rs.map Rtr.v) false,.sl 5 (t.ls.map Lnk.v) false],.int to_]
def Qy(t:Tpl)(to_:Int)(t0:Int×List Int):NF:=⟨[(1,.k,.int to_),(2,.k,.ref 0 0),(5,.k,.vec 1),(6,.k,.int t0.1)],[.box (.agg [.sl 2 (t.rs.map Rtr.v) false,.sl 5 (t.ls.map Lnk.v) false]),.vec 1 (t0.2.map AV.int) (ab (λ_=>rfl) t0.2)]⟩
def Qx(t:Tpl)(t1:Int×List Int):NF:=⟨[(2,.k,.ref 0 0),(5,.k,.vec 1),(7,.k,.int t1.1)],[.box (.agg [.sl 2 (t.rs.map Rtr.v) false,.sl 5 (t.ls.map Lnk.v) false]),.vec 1 (t1.2.map AV.int) (ab (λ_=>rfl) t1.2)]⟩
def Qw(t:Tpl)(t1:Int×List Int)(t2:Int×List Int):NF:=⟨[(2,.k,.ref 0 0),(5,.k,.vec 1),(7,.k,.int t1.1),(8,.k,.int t2.1)],[.box (.agg [.sl 2 (t.rs.map Rtr.v) false,.sl 5 (t.ls.map Lnk.v) false]),.vec 1 (t2.2.map AV.int) (ab (λ_=>rfl) t2.2)]⟩
def Qv(t:Tpl)(t1:Int×List Int)(t2:Int×List Int)(x4:Lnk)(t3:List Int):NF:=⟨[(2,.k,.ref 0 0),(5,.k,.vec 1),(7,.k,.int t1.1),(8,.k,.int t2.1),(9,.k,.ref 2 0),(10,.k,.int (aT t x4.a)),(11,.k,.int (aT t x4.b))],[.box (.agg [.sl 2 (t.rs.map Rtr.v) false,.sl 5 (t.ls.map Lnk.v) false]),.vec 1 (t3.map AV.int) (ab (λ_=>rfl) t3),.box (.agg [.int x4.a,.int x4.b,.int x4.ca,.int x4.cb,.int x4.w])]⟩
@[reducible] def Ps:Nat→Type
 | 0=>Int×List Int
 | 1=>Int×List Int
 | 2=>Int×List Int
 | 3=>(List Int)
 | _=>Unit
def ES(r:List Int):AV:=.sl 1 (r.map AV.int) false
def EQ(t:Tpl)(to_:Int)(I0:(Int×List Int)→Prop)(m0:(Int×List Int)→Nat)(I1:Int×List Int→(Int×List Int)→Prop)(m1:Int×List Int→(Int×List Int)→Nat)(I2:Int×List Int→Int×List Int→(Int×List Int)→Prop)(m2:Int×List Int→Int×List Int→(Int×List Int)→Nat)(I3:Int×List Int→Int×List Int→Int×List Int→Lnk→(List Int)→Prop):Ax Tryz.prog Ps ((List Int)):=
 (.say (λR=>Rf (AV.int 0) (ck (cond (decide (0≤((t.rs.map Rtr.v).length:Int))) (cond (decide (((t.rs.map Rtr.v).length:Int)≤((t.rs.map Rtr.v).length:Int))) (decide (((t.rs.map Rtr.v).length:Int)≤1048576)) false) false)
R)) (.rep 80 AV.int 0
(.loop 0 (Qy t to_) I0 m0 (0,List.replicate (((t.rs.map Rtr.v).length:Int).toNat) 0) [0,80] λ(t0:Int×List Int) b0 =>
(.br 66 (decide (t0.1<((t0.2.map AV.int).length:Int))) (.say (ck (cond (decide (0≤t0.1)) (decide (t0.1<((t0.2.map AV.int).length:Int))) false)) (.st 114 AV.int t0.2 (λy1=>1073741824) (λR=>Rf (t0.2.map AV.int) (ck (decide (t0.1.toNat<t0.2.length))
(∀y1,t0.2[t0.1.toNat]?=some y1→Rf (AV.int 1073741824)
((R y1))))) λy1 =>
(.el 178 Rtr.v t.rs (λR=>Rf (t.rs.map Rtr.v) (ck (decide (0≤t0.1)) (ck (decide (t0.1<(t.rs.length:Int)))
(∀x2,t.rs[t0.1.toNat]?=some x2 →
(R x2))))) λx2 =>
(.br 258 (x2.id==to_) (.say (ck (cond (decide (0≤t0.1)) (decide (t0.1<(((t0.2.set t0.1.toNat 1073741824).map AV.int).length:Int))) false)) (.st 306 AV.int (t0.2.set t0.1.toNat 1073741824) (λy3=>0) (λR=>Rf ((t0.2.set t0.1.toNat 1073741824).map AV.int) (ck (decide (t0.1.toNat<(t0.2.set t0.1.toNat 1073741824).length))
(∀y3,(t0.2.set t0.1.toNat 1073741824)[t0.1.toNat]?=some y3→Rf (AV.int 0)
((R y3))))) λy3 =>
(.bk 0 b0 (W (t0.1+1),(t0.2.set t0.1.toNat 1073741824).set t0.1.toNat 0) [0,1])))
(.bk 0 b0 (W (t0.1+1),t0.2.set t0.1.toNat 1073741824) [0,1])))))
(.loop 1 (Qx t) (I1 t0) (m1 t0) (0,t0.2) [0,1] λ(t1:Int×List Int) b1 =>
(.br 66 (decide (t1.1<((t1.2.map AV.int).length:Int))) (.loop 2 (Qw t t1) (I2 t0 t1) (m2 t0 t1) (0,t1.2) [0,1] λ(t2:Int×List Int) b2 =>
(.br 82 (decide (t2.1<((t.ls.map Lnk.v).length:Int))) (.el 130 Lnk.v t.ls (λR=>Rf (t.ls.map Lnk.v) (ck (decide (0≤t2.1)) (ck (decide (t2.1<(t.ls.length:Int)))
(∀x4,t.ls[t2.1.toNat]?=some x4 →
(R x4))))) λx4 =>
(.callP (FW t x4.a)
(.callP (FW t x4.b)
(.join 3 (Qv t t1 t2 x4) (λ(t3:List Int)=>I3 t0 t1 t2 x4 t3) (λb3=>(.say (ck (cond (decide (0≤(aT t x4.b))) (decide ((aT t x4.b)<((t2.2.map AV.int).length:Int))) false)) (.el 402 AV.int t2.2 (λR=>Rf (t2.2.map AV.int) (ck (decide ((aT t x4.b).toNat<t2.2.length))
(∀x5,t2.2[(aT t x4.b).toNat]?=some x5 →
(R x5)))) λx5 =>
(.br 434 (decide (x5<1073741824)) (.say (ck (cond (decide (0≤(aT t x4.a))) (decide ((aT t x4.a)<((t2.2.map AV.int).length:Int))) false)) (.el 514 AV.int t2.2 (λR=>Rf (t2.2.map AV.int) (ck (decide ((aT t x4.a).toNat<t2.2.length))
(∀x6,t2.2[(aT t x4.a).toNat]?=some x6 →
(R x6)))) λx6 =>
(.say (ck (cond (decide (0≤(aT t x4.b))) (decide ((aT t x4.b)<((t2.2.map AV.int).length:Int))) false)) (.el 610 AV.int t2.2 (λR=>Rf (t2.2.map AV.int) (ck (decide ((aT t x4.b).toNat<t2.2.length))
(∀x7,t2.2[(aT t x4.b).toNat]?=some x7 →
(R x7)))) λx7 =>
(.say (ck (cond (decide (0≤(aT t x4.a))) (decide ((aT t x4.a)<((t2.2.map AV.int).length:Int))) false)) (.st 674 AV.int t2.2 (λy8=>(dm x6 (W (x4.ca+x7)))) (λR=>Rf (t2.2.map AV.int) (ck (decide ((aT t x4.a).toNat<t2.2.length))
(∀y8,t2.2[(aT t x4.a).toNat]?=some y8→Rf (AV.int (dm x6 (W (x4.ca+x7))))
((R y8))))) λy8 =>
(.bk 3 b3 ((t2.2.set ((aT t x4.a).toNat) (dm x6 (W (x4.ca+x7)))):(List Int)) [0,1,162])))))))
(.bk 3 b3 ((t2.2):(List Int)) [0,1,162]))))) λ(t3:List Int) =>
(.say (ck (cond (decide (0≤(aT t x4.a))) (decide ((aT t x4.a)<((t3.map AV.int).length:Int))) false)) (.el 51 AV.int t3 (λR=>Rf (t3.map AV.int) (ck (decide ((aT t x4.a).toNat<t3.length))
(∀x9,t3[(aT t x4.a).toNat]?=some x9 →
(R x9)))) λx9 =>
(.br 83 (decide (x9<1073741824)) (.say (ck (cond (decide (0≤(aT t x4.b))) (decide ((aT t x4.b)<((t3.map AV.int).length:Int))) false)) (.el 163 AV.int t3 (λR=>Rf (t3.map AV.int) (ck (decide ((aT t x4.b).toNat<t3.length))
(∀x10,t3[(aT t x4.b).toNat]?=some x10 →
(R x10)))) λx10 =>
(.say (ck (cond (decide (0≤(aT t x4.a))) (decide ((aT t x4.a)<((t3.map AV.int).length:Int))) false)) (.el 259 AV.int t3 (λR=>Rf (t3.map AV.int) (ck (decide ((aT t x4.a).toNat<t3.length))
(∀x11,t3[(aT t x4.a).toNat]?=some x11 →
(R x11)))) λx11 =>
(.say (ck (cond (decide (0≤(aT t x4.b))) (decide ((aT t x4.b)<((t3.map AV.int).length:Int))) false)) (.st 323 AV.int t3 (λy12=>(dm x10 (W (x4.cb+x11)))) (λR=>Rf (t3.map AV.int) (ck (decide ((aT t x4.b).toNat<t3.length))
(∀y12,t3[(aT t x4.b).toNat]?=some y12→Rf (AV.int (dm x10 (W (x4.cb+x11))))
((R y12))))) λy12 =>
(.bk 2 b2 (W (t2.1+1),t3.set ((aT t x4.b).toNat) (dm x10 (W (x4.cb+x11)))) [0,1])))))))
(.bk 2 b2 (W (t2.1+1),t3) [0,1]))))))))
(.bk 1 b1 (W (t1.1+1),t2.2) [0,1])))
(.say (Rf (t1.2.map AV.int)) (.cmdL (.frzE 1 (t1.2.map AV.int) (ab (λ_=>rfl) t1.2)) (.ret (t1.2))))))))))
def ER(t:Tpl)(to_:Int)(I0:(Int×List Int)→Prop)(m0:(Int×List Int)→Nat)(I1:Int×List Int→(Int×List Int)→Prop)(m1:Int×List Int→(Int×List Int)→Nat)(I2:Int×List Int→Int×List Int→(Int×List Int)→Prop)(m2:Int×List Int→Int×List Int→(Int×List Int)→Nat)(I3:Int×List Int→Int×List Int→Int×List Int→Lnk→(List Int)→Prop)(r0:List Int):=(EQ t to_ I0 m0 I1 m1 I2 m2 I3).vp ES r0
theorem to6_p(t:Tpl)(r:Int)(h:aB t=0)(ok:to6_a t r):∃I0 m0 I1 m1 I2 m2 I3,ER t r I0 m0 I1 m1 I2 m2 I3 (to6 t r):=by
 refine⟨λs=>∃k:Nat,s.1=k∧k≤t.rs.length∧s.2=(to0 t r).take k++List.replicate (t.rs.length-k) 0,λs=>t.rs.length-s.1.toNat,
  λ_ s=>∃k:Nat,s.1=k∧k≤t.rs.length∧s.2=iM t k (to0 t r),λ_ s=>t.rs.length-s.1.toNat,
  λ_ u s=>dW t.ls (rlx t) u.2 s.1 s.2,λ_ _ s=>t.ls.length-s.1.toNat,λ_ u s l d=>d=rlx1 s.2 (aT t l.a).toNat (aT t l.b).toNat l.ca,?_⟩
 dsimp only[ER,EQ,Ps,Ax.vp,Ax.vc];simp only[vcU,rfU,List.length_map]
 have hn:=(iq h).1
 have h0:(to0 t r).length=t.rs.length:=by rw[to0,List.length_map]
 refine⟨by simp;omega,⟨0,rfl,by omega,by simp⟩,?_⟩
 rintro⟨_,_⟩ ⟨k,rfl,hk,rfl⟩
 simp only
 have hlen:((to0 t r).take k++List.replicate (t.rs.length-k) (0:Int)).length=t.rs.length:=by simp[h0];omega
 rw[hlen]
 refine⟨λc=>⟨bA (by omega) c,by omega,λy hy=>⟨by omega,c,λx hx=>?_⟩⟩,λc=>?_⟩
 ·rw[Int.toNat_natCast]at hx ⊢
  have hkl:k<t.rs.length:=ap hx
  have e0:t.rs.length-k=(t.rs.length-(k+1))+1:=by omega
  have hA:((to0 t r).take k).length=k:=by rw[List.length_take,h0];omega
  have hg:(to0 t r)[k]?=some (if isR r x=true then 0 else 1073741824):=by rw[to0,List.getElem?_map,hx];rfl
  rw[e0,List.replicate_succ,A5 hA,A5 hA,aU (n:=t.rs.length) hkl (by omega)]
  refine⟨λe=>⟨bA (by omega) (by simp[h0];omega),by simp[h0];omega,λy hy=>⟨⟨k+1,rfl,by omega,?_⟩,by omega⟩⟩,λe=>⟨⟨k+1,rfl,by omega,?_⟩,by omega⟩⟩
  ·rw[aO hg,if_pos (show isR r x=true from e)];simp
  ·have e:¬isR r x=true:=λq=>by rw[isR,e]at q;cases q
   rw[aO hg,if_neg e];simp
 have:k=t.rs.length:=by omega
 subst this
 have e1:(to0 t r).take t.rs.length++List.replicate (t.rs.length-t.rs.length) (0:Int)=to0 t r:=by
  rw[Nat.sub_self,List.replicate_zero,List.append_nil,←h0,List.take_length]
 rw[e1]
 refine⟨⟨0,rfl,by omega,rfl⟩,?_⟩
 rintro⟨_,_⟩ ⟨k,rfl,hk,rfl⟩
 simp only
 have hlen2:(iM t k (to0 t r)).length=t.rs.length:=by rw[l7,h0]
 rw[hlen2]
 refine⟨λc2=>⟨dW.zero,?_⟩,λc2=>?_⟩
 ·rintro⟨j,d⟩ g
  simp only at g ⊢
  have hpos:0<t.rs.length:=by omega
  have hdl:d.length=t.rs.length:=by
   obtain⟨m,_,_,e⟩:=g
   rw[e,gp,hlen2]
  have hll:=(iq h).2
  refine⟨λc3=>⟨g.idx,c3,λl hl=>?_⟩,λc3=>?_⟩
  ·obtain⟨a1,a2⟩:=sy (r:=l.a) hpos
   obtain⟨b1,b2⟩:=sy (r:=l.b) hpos
   generalize hea:aT t l.a=pa at a1 a2 ⊢
   generalize heb:aT t l.b=pb at b1 b2 ⊢
   refine⟨⟨bA b1 (by omega),by omega,λx5 h5=>⟨λe=>⟨bA a1 (by omega),by omega,λx6 h6=>⟨bA b1 (by omega),by omega,λx7 h7=>⟨bA a1 (by omega),by omega,λy8 h8=>?_⟩⟩⟩,λe=>?_⟩⟩,?_⟩
   ·rw[rlx1,getD_of h5,getD_of h6,if_pos e]
    rw[h5]at h7;cases h7;rfl
   ·rw[rlx1,getD_of h5,if_neg e]
   rintro d4 hd4
   have hl4:d4.length=t.rs.length:=by rw[hd4,hZ];exact hdl
   refine⟨bA a1 (by omega),by omega,λx9 h9=>⟨λe=>⟨bA b1 (by omega),by omega,λx10 h10=>⟨bA a1 (by omega),by omega,λx11 h11=>⟨bA b1 (by omega),by omega,λy12 h12=>g.step (by omega) hl ?_⟩⟩⟩,λe=>g.step (by omega) hl ?_⟩⟩
   ·rw[rlx,hea,heb,←hd4,rlx1,getD_of h9,getD_of h10,if_pos e]
    rw[h9]at h11;cases h11;rfl
   ·rw[rlx,hea,heb,←hd4,rlx1,getD_of h9,if_neg e]
  ·rw[aU (n:=t.rs.length) (by omega) (by omega)]
   exact⟨⟨k+1,rfl,by omega,by rw[iM];exact g.done c3⟩,by omega⟩
 ·have:k=t.rs.length:=by omega
  subst this
  rfl
def ET(t:Tpl)(to_:Int)(h:aB t=0):PC Tryz.prog:=⟨137,[(.a [(.s 2),(.s 5)]),.k],[.agg [.sl 2 (t.rs.map Rtr.v) false,.sl 5 (t.ls.map Lnk.v) false],.int to_],ES (to6 t to_),ao.of_ok λok=>(to6_p t to_ h ok).elim λI0 h=>h.elim λm0 h=>h.elim λI1 h=>h.elim λm1 h=>h.elim λI2 h=>h.elim λm2 h=>h.elim λI3 h=>aj (sh:=(.s 1)) (enc:=ES) (a:=(EQ t to_ I0 m0 I1 m1 I2 m2 I3).an) h (by kernel_rfl) (AV.pureB_ok rfl),ah (by kernel_rfl)⟩
def okN(t:Tpl)(d:List Int)(r q:Int):Bool:=decide (at6 t d q<1073741824) && (W ((cM t r q).1+at6 t d q)==at6 t d r)
def bD(t:Tpl)(d:List Int)(r:Int):List Int:=if at6 t d r=1073741824∨at6 t d r=0 then []else(dl t r).filter (okN t d r)
theorem mA{α β:Type}{p:α→Bool}{g:α→β}:∀{l:List α},(l.flatMap λx=>if p x=true then [g x]else []).length≤l.length
 | []=>by simp
 | x::l=>by
  have:=mA (p:=p) (g:=g) (l:=l)
  have h1:(if p x=true then [g x]else []).length≤1:=by split<;>simp
  rw[List.flatMap_cons,List.length_append,List.length_cons]
  omega
theorem sM{t:Tpl}{r:Int}:(dl t r).length≤t.rs.length:=mA (p:=λx:Rtr=>(cM t r x.id).2) (g:=Rtr.id)
def Q1(t:Tpl)(d:List Int)(from_:Int):=okL [.agg [.sl 2 (t.rs.map Rtr.v) false,.sl 5 (t.ls.map Lnk.v) false],.sl 1 (d.map AV.int) false,.int from_]
def KL(t:Tpl)(d:List Int)(from_:Int)(t0:Bool):NF:=⟨[(1,.k,.sl 1 (d.map AV.int) false),(2,.k,.int from_),(3,.k,.ref 0 0),(7,.k,.sl 0 [] true),(8,.k,.int (at6 t d from_)),(22,.k,.bool t0)],[.box (.agg [.sl 2 (t.rs.map Rtr.v) false,.sl 5 (t.ls.map Lnk.v) false])]⟩
def KK(t:Tpl)(d:List Int)(from_:Int)(t1:Int×List Int):NF:=⟨[(1,.k,.sl 1 (d.map AV.int) false),(2,.k,.int from_),(3,.k,.ref 0 0),(7,.k,.vec 1),(8,.k,.int (at6 t d from_)),(9,.k,.sl 1 ((dl t from_).map AV.int) false),(10,.k,.int t1.1)],[.box (.agg [.sl 2 (t.rs.map Rtr.v) false,.sl 5 (t.ls.map Lnk.v) false]),.vec 1 (t1.2.map AV.int) (ab (λ_=>rfl) t1.2)]⟩
def KJ(t:Tpl)(d:List Int)(from_:Int)(t1:Int×List Int)(t2:Bool):NF:=⟨[(1,.k,.sl 1 (d.map AV.int) false),(2,.k,.int from_),(3,.k,.ref 0 0),(7,.k,.vec 1),(8,.k,.int (at6 t d from_)),(9,.k,.sl 1 ((dl t from_).map AV.int) false),(10,.k,.int t1.1),(62,.k,.bool t2)],[.box (.agg [.sl 2 (t.rs.map Rtr.v) false,.sl 5 (t.ls.map Lnk.v) false]),.vec 1 (t1.2.map AV.int) (ab (λ_=>rfl) t1.2)]⟩
@[reducible] def EV:Nat→Type
 | 0=>Bool
 | 1=>Int×List Int
 | 2=>Bool
 | _=>Unit
def vq(r:List Int):AV:=.sl 1 (r.map AV.int) false
def vo(t:Tpl)(d:List Int)(from_:Int)(I0:Bool→Prop)(I1:Bool→(Int×List Int)→Prop)(m1:Bool→(Int×List Int)→Nat)(I2:Bool→Int×List Int→Int→Bool→Prop):Ax Tryz.prog EV ((List Int)):=
 (.req 96 (okD t d) λh1 =>
(.callP (Di t d from_ h1)
(.pass (.join 0 (KL t d from_) (λ(t0:Bool)=>I0 t0) (λb0=>(.br 176 ((at6 t d from_)==1073741824) (.bk 0 b0 ((true):Bool) [0])
(.bk 0 b0 (((at6 t d from_)==0):Bool) [0]))) λ(t0:Bool) =>
(.br 1 t0 (.ret ([]))
(.req 33 (t.rs.length≤1000) λh2 =>
(.callP (GA t from_ h2)
(.cmdL (.nilT 7 1) (.loop 1 (KK t d from_) (I1 t0) (m1 t0) (0,[]) [0,81] λ(t1:Int×List Int) b1 =>
(.br 66 (decide (t1.1<(((dl t from_).map AV.int).length:Int))) (.el 130 AV.int (dl t from_) (λR=>Rf ((dl t from_).map AV.int) (ck (decide (0≤t1.1)) (ck (decide (t1.1<((dl t from_).length:Int)))
(∀x3,(dl t from_)[t1.1.toNat]?=some x3 →
(R x3))))) λx3 =>
(.callP (vS t from_ x3)
(.join 2 (KJ t d from_ t1) (λ(t2:Bool)=>I2 t0 t1 x3 t2) (λb2=>(.el 322 AV.int (dl t from_) (λR=>Rf ((dl t from_).map AV.int) (ck (decide (0≤t1.1)) (ck (decide (t1.1<((dl t from_).length:Int)))
(∀x4,(dl t from_)[t1.1.toNat]?=some x4 →
(R x4))))) λx4 =>
(.req 354 (okD t d) λh5 =>
(.callP (Di t d x4 h5)
(.br 402 (decide ((at6 t d x4)<1073741824)) (.el 482 AV.int (dl t from_) (λR=>Rf ((dl t from_).map AV.int) (ck (decide (0≤t1.1)) (ck (decide (t1.1<((dl t from_).length:Int)))
(∀x6,(dl t from_)[t1.1.toNat]?=some x6 →
(R x6))))) λx6 =>
(.req 514 (okD t d) λh7 =>
(.callP (Di t d x6 h7)
(.bk 2 b2 (((W (((cM t from_ x3).1)+(at6 t d x6)))==(at6 t d from_)):Bool) [0,1]))))
(.bk 2 b2 ((false):Bool) [0,1])))))) λ(t2:Bool) =>
(.br 2 t2 (.el 50 AV.int (dl t from_) (λR=>Rf ((dl t from_).map AV.int) (ck (decide (0≤t1.1)) (ck (decide (t1.1<((dl t from_).length:Int)))
(∀x8,(dl t from_)[t1.1.toNat]?=some x8 →
(R x8))))) λx8 =>
(.say (λR=>Rf (α:=List AV) (t1.2.map AV.int) (Rf (α:=List AV) [.int x8]
(ck (decide (t1.2.length+1≤1048576))
R))) (.app 98 AV.int t1.2 [x8]
(.bk 1 b1 (W (t1.1+1),t1.2++[x8]) [0,98]))))
(.bk 1 b1 (W (t1.1+1),t1.2) [0,1])))))
(.say (Rf (t1.2.map AV.int)) (.cmdL (.frzE 1 (t1.2.map AV.int) (ab (λ_=>rfl) t1.2)) (.ret (t1.2))))))))))))))
def Aw(t:Tpl)(d:List Int)(from_:Int)(I0:Bool→Prop)(I1:Bool→(Int×List Int)→Prop)(m1:Bool→(Int×List Int)→Nat)(I2:Bool→Int×List Int→Int→Bool→Prop)(r0:List Int):=(vo t d from_ I0 I1 m1 I2).vp vq r0
theorem Q0(t:Tpl)(d:List Int)(r:Int)(h:okD t d)(ok:Q1 t d r):∃I0 I1 m1 I2,Aw t d r I0 I1 m1 I2 (bD t d r):=by
 refine⟨λb=>b=decide (at6 t d r=1073741824∨at6 t d r=0),λ_ s=>fI (dl t r) (λq=>if okN t d r q=true then [q]else []) s.1 s.2,λ_ s=>(dl t r).length-s.1.toNat,
  λ_ _ q b=>b=okN t d r q,?_⟩
 dsimp only[Aw,vo,EV,Ax.vp,Ax.vc];simp only[vcU,rfU,List.length_map]
 have hn:=h.2
 have hl:=sM (t:=t) (r:=r)
 refine⟨h,⟨λc=>by simp[eq_of_beq c],λc=>?_⟩,?_⟩
 ·have c:¬at6 t d r=1073741824:=by simpa using c
  rw[Bool.eq_iff_iff];simp[c]
 rintro _ rfl
 refine⟨λc=>by rw[bD,if_pos (of_decide_eq_true c)],λc=>⟨hn,fI.zero,?_⟩⟩
 have c:=of_decide_eq_false c
 rintro⟨i,out⟩ g
 simp only at g ⊢
 have hlen:=g.len (b:=1) λx _=>by split<;>simp
 refine⟨λe=>⟨g.idx,e,λx hx=>⟨⟨g.idx,e,λy hy=>⟨h,λe1=>⟨g.idx,e,λz hz=>⟨h,?_⟩⟩,λe1=>?_⟩⟩,?_⟩⟩,λe=>?_⟩
 ·rw[hx]at hy hz;cases hy;cases hz
  rw[okN,decide_eq_true e1];rfl
 ·rw[hx]at hy;cases hy
  rw[okN,decide_eq_false e1];rfl
 ·rintro _ rfl
  refine⟨λe1=>⟨g.idx,e,λz hz=>⟨by omega,?_⟩⟩,λe1=>g.step (by omega) hx (by rw[if_neg (by rw[e1];simp)];simp)⟩
  rw[hx]at hz;cases hz
  exact g.step (by omega) hx (by rw[if_pos e1])
 ·rw[bD,if_neg c,g.done e,yi]
def EX(t:Tpl)(d:List Int)(from_:Int)(h:okD t d):PC Tryz.prog:=⟨138,[(.a [(.s 2),(.s 5)]),(.s 1),.k],[.agg [.sl 2 (t.rs.map Rtr.v) false,.sl 5 (t.ls.map Lnk.v) false],.sl 1 (d.map AV.int) false,.int from_],vq (bD t d from_),ao.of_ok λok=>(Q0 t d from_ h ok).elim λI0 h=>h.elim λI1 h=>h.elim λm1 h=>h.elim λI2 h=>aj (sh:=(.s 1)) (enc:=vq) (a:=(vo t d from_ I0 I1 m1 I2).an) h (by kernel_rfl) (AV.pureB_ok rfl),ah (by kernel_rfl)⟩
theorem sw{t:Tpl}(h:aB t=0){f g:Int}(hp:(cM t f g).2=true):1≤(cM t f g).1∧(cM t f g).1≤1000:=by
 unfold cM at hp ⊢
 cases e:t.ls.find? (fD f g)with
 | none=>rw[e]at hp;cases hp
 | some l =>
  have hl:=ri h l (List.mem_of_find?_eq_some e)
  have h1:=dT.mp hl.1
  have h2:=dT.mp hl.2.1
  simp only
  split<;>omega
theorem JT{t:Tpl}{d:List Int}(h:∀x∈d,0≤x)(r:Int):0≤at6 t d r:=by
 unfold at6
 split
 ·exact qm h _
 ·omega
theorem Ay{t:Tpl}(h:aB t=0){d:List Int}(hd:∀x∈d,0≤x){f q:Int}(hq:q∈bD t d f):at6 t d q<at6 t d f∧∃x∈t.rs,x.id=q:=by
 unfold bD at hq
 split at hq
 ·cases hq
 obtain⟨h1,h2⟩:=List.mem_filter.mp hq
 obtain⟨x,hx,hx2⟩:=List.mem_flatMap.mp h1
 have hp:(cM t f x.id).2=true∧q=x.id:=by
  by_cases c:(cM t f x.id).2=true
  ·rw[if_pos c,List.mem_singleton]at hx2;exact⟨c,hx2⟩
  ·rw[if_neg c]at hx2;cases hx2
 obtain⟨hp,rfl⟩:=hp
 obtain⟨p1,p2⟩:=sw h hp
 rw[okN,Bool.and_eq_true,decide_eq_true_eq,beq_iff_eq]at h2
 have h0:=JT (t:=t) hd x.id
 have:=h2.2
 rw[cn (by omega)]at this
 exact⟨by omega,x,hx,rfl⟩
def nrr(t:Tpl)(d:List Int)(f:Int):Nat:=(t.rs.filter λx=>decide (at6 t d x.id<at6 t d f)).length
theorem jZ{α:Type}{p q:α→Bool}:∀{l:List α} {x:α},(∀y,p y=true→q y=true)→x∈l→p x=false→q x=true→(l.filter p).length<(l.filter q).length
 | y::l,x,h,hx,h1,h2=>by
  have hle:∀l:List α,(l.filter p).length≤(l.filter q).length:=by
   intro l
   induction l with
   | nil=>simp
   | cons z l ih =>
    rw[List.filter_cons,List.filter_cons]
    by_cases c:p z=true
    ·rw[if_pos c,if_pos (h z c)];simp only[List.length_cons];omega
    ·rw[if_neg c];split
     ·simp only[List.length_cons];omega
     ·exact ih
  rw[List.filter_cons,List.filter_cons]
  rcases List.mem_cons.mp hx with rfl|hx
  ·rw[if_neg (by rw[h1];simp),if_pos h2]
   have:=hle l
   simp only[List.length_cons];omega
  ·have:=jZ h hx h1 h2
   by_cases c:p y=true
   ·rw[if_pos c,if_pos (h y c)];simp only[List.length_cons];omega
   ·rw[if_neg c];split
    ·simp only[List.length_cons];omega
    ·exact this
theorem G4{t:Tpl}(h:aB t=0){d:List Int}(hd:∀x∈d,0≤x){f q:Int}(hq:q∈bD t d f):nrr t d q<nrr t d f:=by
 obtain⟨h1,x,hx,rfl⟩:=Ay h hd hq
 exact jZ (x:=x) (λy hy=>by rw[decide_eq_true_eq]at hy ⊢;omega) hx (decide_eq_false (by omega)) (decide_eq_true h1)
def l6(t:Tpl)(d:List Int)(g:Int):Nat→Int→List Int→List Int
 | 0,_,_=>[]
 | n+1,f,out=>if f=g then out else match bD t d f with
  | []=>[]
  | q::_=>l6 t d g n q (out++[q])
def bz(t:Tpl)(f g:Int):List Int:=if hs5 t f=false∨hs5 t g=false then []else l6 t (to6 t g) g 25 f []
theorem se{t:Tpl}{d:List Int}{g:Int}:∀{n:Nat} {f:Int} {out:List Int},(l6 t d g n f out).length≤out.length+n
 | 0,f,out=>by simp[l6]
 | n+1,f,out=>by
  rw[l6]
  split
  ·omega
  split
  ·simp
  ·rename_i q _ _
   have:=se (t:=t) (d:=d) (g:=g) (n:=n) (f:=q) (out:=out++[q])
   rw[List.length_append,List.length_singleton]at this
   omega
theorem hU(t:Tpl)(f g:Int):(bz t f g).length≤25:=by
 unfold bz
 split
 ·simp
 ·have:=se (t:=t) (d:=to6 t g) (g:=g) (n:=25) (f:=f) (out:=[])
  simpa using this
def QG(t:Tpl)(from_:Int)(to_:Int):=okL [.agg [.sl 2 (t.rs.map Rtr.v) false,.sl 5 (t.ls.map Lnk.v) false],.int from_,.int to_]
def Le(t:Tpl)(from_:Int)(to_:Int)(t0:Bool):NF:=⟨[(1,.k,.int from_),(2,.k,.int to_),(3,.k,.ref 0 0),(19,.k,.bool t0)],[.box (.agg [.sl 2 (t.rs.map Rtr.v) false,.sl 5 (t.ls.map Lnk.v) false])]⟩
def Lc(t:Tpl)(to_:Int)(t1:Int×List Int):NF:=⟨[(1,.k,.int t1.1),(2,.k,.int to_),(3,.k,.ref 0 0),(7,.k,.sl 1 ((to6 t to_).map AV.int) false),(8,.k,.vec 1)],[.box (.agg [.sl 2 (t.rs.map Rtr.v) false,.sl 5 (t.ls.map Lnk.v) false]),.vec 1 (t1.2.map AV.int) (ab (λ_=>rfl) t1.2)]⟩
@[reducible] def Ft:Nat→Type
 | 0=>Bool
 | 1=>Int×List Int
 | _=>Unit
def vE(r:List Int):AV:=.sl 1 (r.map AV.int) false
def vD(t:Tpl)(from_:Int)(to_:Int)(I0:Bool→Prop)(I1:Bool→(Int×List Int)→Prop)(m1:Bool→(Int×List Int)→Nat):Ax Tryz.prog Ft ((List Int)):=
 (.pass (.pass (.join 0 (Le t from_ to_) (λ(t0:Bool)=>I0 t0) (λb0=>(.callP (nG t from_)
(.br 112 (!(hs5 t from_)) (.bk 0 b0 ((true):Bool) [0])
(.callP (nG t to_)
(.bk 0 b0 ((!(hs5 t to_)):Bool) [0]))))) λ(t0:Bool) =>
(.br 1 t0 (.ret ([]))
(.req 33 (aB t=0) λh1 =>
(.callP (ET t to_ h1)
(.cmdL (.nilT 8 1) (.loop 1 (Lc t to_) (I1 t0) (m1 t0) (from_,[]) [0,81] λ(t1:Int×List Int) b1 =>
(.br 50 (t1.1 != to_) (.req 98 (okD t (to6 t to_)) λh2 =>
(.callP (EX t (to6 t to_) t1.1 h2)
(.br 178 ((((bD t (to6 t to_) t1.1).map AV.int).length:Int)==0) (.ret ([]))
(.el 194 AV.int (bD t (to6 t to_) t1.1) (λR=>Rf ((bD t (to6 t to_) t1.1).map AV.int) (ck (decide (0<((bD t (to6 t to_) t1.1).length:Int)))
(∀x3,(bD t (to6 t to_) t1.1)[0]?=some x3 →
(R x3)))) λx3 =>
(.say (λR=>Rf (α:=List AV) (t1.2.map AV.int) (Rf (α:=List AV) [.int x3]
(ck (decide (t1.2.length+1≤1048576))
R))) (.app 290 AV.int t1.2 [x3]
(.bk 1 b1 (x3,t1.2++[x3]) [0,290])))))))
(.say (Rf (t1.2.map AV.int)) (.cmdL (.frzE 1 (t1.2.map AV.int) (ab (λ_=>rfl) t1.2)) (.ret (t1.2)))))))))))))
def AB(t:Tpl)(from_:Int)(to_:Int)(I0:Bool→Prop)(I1:Bool→(Int×List Int)→Prop)(m1:Bool→(Int×List Int)→Nat)(r0:List Int):=(vD t from_ to_ I0 I1 m1).vp vE r0
theorem QF(t:Tpl)(f g:Int)(ok:QG t f g):∃I0 I1 m1,AB t f g I0 I1 m1 (bz t f g):=by
 refine⟨λb=>b=decide (hs5 t f=false∨hs5 t g=false),λ_ s=>∃k:Nat,nrr t (to6 t g) s.1<k∧s.2.length+k≤25∧l6 t (to6 t g) g k s.1 s.2=bz t f g,λ_ s=>nrr t (to6 t g) s.1,?_⟩
 dsimp only[AB,vD,Ft,Ax.vp,Ax.vc];simp only[vcU,rfU,List.length_map]
 refine⟨⟨λc=>?_,λc=>?_⟩,?_⟩
 ·have c:hs5 t f=false:=by simpa using c
  simp[c]
 ·have c:hs5 t f=true:=by simpa using c
  cases q:hs5 t g<;>simp[c]
 rintro _ rfl
 refine⟨λc=>by rw[bz,if_pos (of_decide_eq_true c)],λc=>?_⟩
 have c:=of_decide_eq_false c
 have hc:aB t=0:=by
  refine Classical.byContradiction λq=>c (.inl ?_)
  rw[hs5,beq_eq_false_iff_ne.mpr q];rfl
 have hlen:=iq hc
 have hD:okD t (to6 t g):=⟨oC,by omega⟩
 refine⟨hc,⟨25,?_,by simp,by rw[bz,if_neg c]⟩,?_⟩
 ·have:=List.length_filter_le (λx:Rtr=>decide (at6 t (to6 t g) x.id<at6 t (to6 t g) f)) t.rs
  unfold nrr;omega
 rintro⟨x,out⟩ ⟨k,hk,hl,hr⟩
 simp only at hk hl hr ⊢
 obtain⟨k,rfl⟩:∃j,k=j+1:=⟨k-1,by omega⟩
 rw[l6]at hr
 refine⟨λe=>⟨hD,λe1=>?_,λe1=>⟨by have:(bD t (to6 t g) x).length≠0:=(by intro q;rw[q]at e1;simp at e1);omega,λy hy=>⟨by omega,?_⟩⟩⟩,λe=>?_⟩
 ·have e:¬x=g:=by simpa using e
  rw[if_neg e]at hr
  have:bD t (to6 t g) x=[]:=List.eq_nil_of_length_eq_zero (by have:=eq_of_beq e1;omega)
  rw[this]at hr;exact hr
 ·have e:¬x=g:=by simpa using e
  rw[if_neg e]at hr
  have hm:=G4 hc (vn hc) (aP hy)
  refine⟨⟨k,by omega,by simp;omega,?_⟩,hm⟩
  cases q:bD t (to6 t g) x with
  | nil=>rw[q]at hy;cases hy
  | cons z r =>
   rw[q]at hy hr;cases hy;exact hr
 ·have e:x=g:=by simpa using e
  rw[if_pos e]at hr;exact hr
def vF(t:Tpl)(from_:Int)(to_:Int):PC Tryz.prog:=⟨166,[(.a [(.s 2),(.s 5)]),.k,.k],[.agg [.sl 2 (t.rs.map Rtr.v) false,.sl 5 (t.ls.map Lnk.v) false],.int from_,.int to_],vE (bz t from_ to_),ao.of_ok λok=>(QF t from_ to_ ok).elim λI0 h=>h.elim λI1 h=>h.elim λm1 h=>aj (sh:=(.s 1)) (enc:=vE) (a:=(vD t from_ to_ I0 I1 m1).an) h (by kernel_rfl) (AV.pureB_ok rfl),ah (by kernel_rfl)⟩
def iy(t:Tpl)(u v c:Int):Prop:=∃l∈t.ls,(l.a=u∧l.b=v∧l.ca=c)∨(l.b=u∧l.a=v∧l.cb=c)
theorem lB{t:Tpl}(hc:aB t=0){u v c:Int}:iy t u v c↔cM t u v=(c,true):=by
 have hO:=aw hc
 have key:∀x∈t.ls,∀y∈t.ls,fD u v x=true→fD u v y=true→x=y:=λx hx y hy h1 h2=>by
  obtain⟨i,hi⟩:=List.mem_iff_getElem?.mp hx
  obtain⟨j,hj⟩:=List.mem_iff_getElem?.mp hy
  have a1:=hO.lt x hx
  have a2:=hO.lt y hy
  unfold fD at h1 h2
  simp only[Bool.or_eq_true,Bool.and_eq_true,beq_iff_eq]at h1 h2
  have hk:¬cP x y∧¬cP y x:=by unfold cP;omega
  rcases Nat.lt_trichotomy i j with h|h|h
  ·exact absurd (kW hO.ord h hi hj) hk.1
  ·subst h;rw[hi]at hj;exact Option.some.inj hj
  ·exact absurd (kW hO.ord h hj hi) hk.2
 constructor
 ·rintro⟨l,hl,h⟩
  have hp:fD u v l=true:=by
   unfold fD
   simp only[Bool.or_eq_true,Bool.and_eq_true,beq_iff_eq]
   omega
  have hlt:=hO.lt l hl
  unfold cM
  cases q:t.ls.find? (fD u v)with
  | none =>
   have:=List.find?_eq_none.mp q l hl
   exact absurd hp this
  | some y =>
   have:=key y (List.mem_of_find?_eq_some q) l hl (List.find?_some q) hp
   subst this
   simp only
   rcases h with⟨h1,h2,h3⟩|⟨h1,h2,h3⟩
   ·rw[if_pos (by simp[h1,h2]),h3]
   ·rw[if_neg (by simp;omega),h3]
 ·intro h
  unfold cM at h
  cases q:t.ls.find? (fD u v)with
  | none=>rw[q]at h;simp at h
  | some y =>
   rw[q]at h
   have hp:=List.find?_some q
   have hy:=List.mem_of_find?_eq_some q
   simp only[Prod.mk.injEq,and_true]at h
   unfold fD at hp
   refine⟨y,hy,?_⟩
   by_cases e:(y.a==u && y.b==v)=true
   ·rw[if_pos e]at h
    simp only[Bool.and_eq_true,beq_iff_eq]at e
    exact .inl ⟨e.1,e.2,h⟩
   ·rw[if_neg e]at h
    simp only[Bool.or_eq_true,Bool.and_eq_true,beq_iff_eq]at hp e
    rcases hp with hp|hp
    ·exact absurd hp e
    ·exact .inr ⟨hp.1,hp.2,h⟩
theorem iy.cost{t:Tpl}(hc:aB t=0){u v c:Int}(h:iy t u v c):1≤c∧c≤1000:=by
 obtain⟨l,hl,h⟩:=h
 have:=(aw hc).lr l hl
 have h1:=dT.mp this.1
 have h2:=dT.mp this.2.1
 omega
theorem iy.has{t:Tpl}(hc:aB t=0){u v c:Int}(h:iy t u v c):aK t u=true∧aK t v=true:=by
 obtain⟨l,hl,h⟩:=h
 have:=(aw hc).has l hl
 rcases h with⟨rfl,rfl,_⟩|⟨rfl,rfl,_⟩
 ·exact this
 ·exact⟨this.2,this.1⟩
theorem lJ{t:Tpl}(hc:aB t=0){x:Int}{s:Stp}:s∈fq t.ls x↔iy t x s.to s.cost:=by
 have hO:=aw hc
 unfold fq iy
 rw[List.mem_flatMap]
 constructor
 ·rintro⟨l,hl,h⟩
  refine⟨l,hl,?_⟩
  split at h
  ·rw[List.mem_singleton.mp h];exact .inl ⟨by assumption,rfl,rfl⟩
  ·split at h
   ·rw[List.mem_singleton.mp h];exact .inr ⟨by assumption,rfl,rfl⟩
   ·cases h
 ·rintro⟨l,hl,⟨h1,h2,h3⟩|⟨h1,h2,h3⟩⟩
  ·refine⟨l,hl,?_⟩
   rw[if_pos h1,h2,h3];simp
  ·have:=hO.lt l hl
   refine⟨l,hl,?_⟩
   rw[if_neg (by omega),if_pos h1,h2,h3];simp
theorem BQ{t:Tpl}(hc:aB t=0){x:Int}{s:Stp}:s∈inS t.ls x↔iy t s.to x s.cost:=by
 have hO:=aw hc
 unfold inS iy
 rw[List.mem_flatMap]
 constructor
 ·rintro⟨l,hl,h⟩
  refine⟨l,hl,?_⟩
  split at h
  ·rw[List.mem_singleton.mp h];exact .inl ⟨rfl,by assumption,rfl⟩
  ·split at h
   ·rw[List.mem_singleton.mp h];exact .inr ⟨rfl,by assumption,rfl⟩
   ·cases h
 ·rintro⟨l,hl,⟨h1,h2,h3⟩|⟨h1,h2,h3⟩⟩
  ·refine⟨l,hl,?_⟩
   rw[if_pos h2,h1,h3];simp
  ·have:=hO.lt l hl
   refine⟨l,hl,?_⟩
   rw[if_neg (by omega),if_pos h2,h1,h3];simp
theorem eB{t:Tpl}{x:Int}:aK t x=true↔∃r∈t.rs,r.id=x:=by
 unfold aK;rw[List.any_eq_true];simp
theorem aS{t:Tpl}(f:Rtr→List Stp):au (t.rs.map λr=>(r.id,f r))=t.rs.map (·.id):=by unfold au;rw[List.map_map];rfl
theorem bo{t:Tpl}{x:Int}:x∈t.rs.map (·.id)↔aK t x=true:=by rw[eB,List.mem_map]
theorem fQ{t:Tpl}(hc:aB t=0):(t.rs.map (·.id)).Nodup:=List.Pairwise.map _ (λa b h=>by omega) (aw hc).asc
theorem Ca{t:Tpl}(hc:aB t=0)(f:Int→List Stp)(hf:∀x,aK t x=false→f x=[])(x:Int):ay (t.rs.map λr=>(r.id,f r.id)) x []=f x:=by
 by_cases h:aK t x=true
 ·obtain⟨r,hr,rfl⟩:=eB.mp h
  exact eQ (by rw[aS (λr=>f r.id)];exact fQ hc) (List.mem_map.mpr ⟨r,hr,rfl⟩)
 ·have h:aK t x=false:=by simpa using h
  rw[kT,hf x h]
  unfold bn
  rw[aS (λr=>f r.id),decide_eq_false]
  rw[bo,h];simp
theorem LF{t:Tpl}(hc:aB t=0)(x:Int)(h:aK t x=false):fq t.ls x=[]:=by
 refine List.eq_nil_iff_forall_not_mem.mpr λs hs=>?_
 rw[(((lJ hc).mp hs).has hc).1]at h;cases h
theorem SI{t:Tpl}(hc:aB t=0)(x:Int)(h:aK t x=false):inS t.ls x=[]:=by
 refine List.eq_nil_iff_forall_not_mem.mpr λs hs=>?_
 rw[(((BQ hc).mp hs).has hc).2]at h;cases h
theorem kQ{t:Tpl}(hc:aB t=0)(x:Int):ay (c9 t) x []=gK (fq t.ls x):=Ca hc (λx=>gK (fq t.ls x)) (λx h=>by rw[LF hc x h];simp[gK]) x
theorem Hu{t:Tpl}(hc:aB t=0)(x:Int):ay (inG t) x []=inS t.ls x:=Ca hc (λx=>inS t.ls x) (λx h=>SI hc x h) x
theorem kR{t:Tpl}(hc:aB t=0){x:Int}{s:Stp}:s∈ay (c9 t) x []↔iy t x s.to s.cost:=by rw[kQ hc,(eV _).mem_iff,lJ hc]
theorem mg{t:Tpl}(hc:aB t=0){x:Int}{s:Stp}:s∈ay (inG t) x []↔iy t s.to x s.cost:=by rw[Hu hc,BQ hc]
theorem wo{t:Tpl}(hc:aB t=0):kz (c9 t):=by
 have:=(aw hc).nr
 refine⟨by unfold c9;rw[List.length_map];omega,by unfold c9;rw[aS];exact fQ hc,λx s hs=>?_,λx s hs=>((kR hc).mp hs).cost hc⟩
 unfold c9;rw[aS,bo];exact(((kR hc).mp hs).has hc).2
theorem k9{t:Tpl}(hc:aB t=0):kz (inG t):=by
 have:=(aw hc).nr
 refine⟨by unfold inG;rw[List.length_map];omega,by unfold inG;rw[aS];exact fQ hc,λx s hs=>?_,λx s hs=>((mg hc).mp hs).cost hc⟩
 unfold inG;rw[aS,bo];exact(((mg hc).mp hs).has hc).1
inductive Pth (t:Tpl) (g:Int):Nat→Int→Int→Prop
  | nil:Pth t g 0 g 0
  | cons {k:Nat} {u w c n:Int}:iy t u w c→Pth t g k w n→Pth t g (k+1) u (n+c)
theorem kY{t:Tpl}(hc:aB t=0){g v n:Int}:gG (inG t) g v n↔∃k,Pth t g k v n:=by
 constructor
 ·intro p
  induction p with
  | nil=>exact⟨0,.nil⟩
  | snoc q hs ih=>obtain⟨k,ih⟩:=ih;exact⟨k+1,.cons ((mg hc).mp hs) ih⟩
 ·rintro⟨k,p⟩
  induction p with
  | nil=>exact .nil
  | cons e q ih=>exact .snoc (s:=⟨_,_⟩) ih ((mg hc).mpr e)
theorem lI{t:Tpl}(hc:aB t=0){f v n:Int}:gG (c9 t) f v n↔∃k,Pth t v k f n:=by
 have app:∀{k:Nat} {u m w c v:Int},Pth t w k u m→iy t w v c→Pth t v (k+1) u (m+c):=λ{k u m w c v} p e=>by
  induction p with
  | nil=>exact .cons e .nil
  | cons e' q ih=>have:=Pth.cons e' ih;rwa [Int.add_right_comm]at this
 have pre:∀{f w v c n:Int},iy t f w c→gG (c9 t) w v n→gG (c9 t) f v (n+c):=λ{f w v c n} e p=>by
  induction p with
  | nil=>exact .snoc (s:=⟨_,_⟩) .nil ((kR hc).mpr e)
  | snoc q hs ih=>have:=gG.snoc ih hs;rwa [Int.add_right_comm]at this
 constructor
 ·intro p
  induction p with
  | nil=>exact⟨0,.nil⟩
  | snoc q hs ih=>obtain⟨k,ih⟩:=ih;exact⟨k+1,app ih ((kR hc).mp hs)⟩
 ·rintro⟨k,p⟩
  induction p with
  | nil=>exact .nil
  | cons e q ih=>exact pre e ih
def Lst(t:Tpl)(u v m:Int):Prop:=(∃k,Pth t v k u m)∧∀k n,Pth t v k u n→m≤n
theorem tl{t:Tpl}(hc:aB t=0){g v m:Int}(hg:aK t g=true):(v,m)∈bt (inG t) g↔Lst t v g m:=by
 rw[nS (k9 hc) (by unfold inG;rw[aS,bo];exact hg),kY hc]
 exact⟨λ⟨h1,h2⟩=>⟨h1,λk n p=>h2 n ((kY hc).mpr ⟨k,p⟩)⟩,λ⟨h1,h2⟩=>⟨h1,λn p=>by obtain⟨k,p⟩:=(kY hc).mp p;exact h2 k n p⟩⟩
theorem D4{t:Tpl}(hc:aB t=0){f v m:Int}(hf:aK t f=true):(v,m)∈bt (c9 t) f↔Lst t f v m:=by
 rw[nS (wo hc) (by unfold c9;rw[aS,bo];exact hf),lI hc]
 exact⟨λ⟨h1,h2⟩=>⟨h1,λk n p=>h2 n ((lI hc).mpr ⟨k,p⟩)⟩,λ⟨h1,h2⟩=>⟨h1,λn p=>by obtain⟨k,p⟩:=(lI hc).mp p;exact h2 k n p⟩⟩
def io:Int:=1073741824
theorem vX{t:Tpl}(hc:aB t=0){i:Nat}{r:Rtr}(h:t.rs[i]?=some r):(aT t r.id).toNat=i:=by
 have hh:aK t r.id=true:=eB.mpr ⟨r,aP h,rfl⟩
 unfold aT
 rw[if_pos hh,ci,if_pos (show t.rs.any (isR r.id)=true from hh)]
 have hlt:t.rs.findIdx (isR r.id)<t.rs.length:=List.findIdx_lt_length.mpr ⟨r,aP h,by simp[isR]⟩
 have e:=List.findIdx_getElem (w:=hlt)
 have h1:(t.rs.map (·.id))[t.rs.findIdx (isR r.id)]?=some r.id:=by
  rw[List.getElem?_map,List.getElem?_eq_getElem hlt]
  unfold isR at e ⊢
  simp only[beq_iff_eq]at e
  simp[e]
 have h2:(t.rs.map (·.id))[i]?=some r.id:=by rw[List.getElem?_map,h];rfl
 have:=dI (fQ hc) h1 h2
 rw[Int.toNat_natCast];exact this
theorem jG{t:Tpl}{d:List Int}{u:Int}(h:aK t u=true):at6 t d u=d.getD (aT t u).toNat 0:=by
 unfold at6 aT;rw[if_pos h,if_pos h]
theorem Pb{t:Tpl}(hc:aB t=0){d:List Int}(hd:d.length=t.rs.length){a u x:Int}(ha:aK t a=true)(hu:aK t u=true):at6 t (d.set (aT t a).toNat x) u=if u=a then x else at6 t d u:=by
 rw[jG hu,jG hu]
 obtain⟨ra,h1,rfl⟩:=eB.mp ha
 obtain⟨ru,h2,rfl⟩:=eB.mp hu
 obtain⟨i,hi⟩:=List.mem_iff_getElem?.mp h1
 obtain⟨j,hj⟩:=List.mem_iff_getElem?.mp h2
 rw[vX hc hi,vX hc hj]
 have hil:=ap hi
 rw[List.getD_eq_getElem?_getD,List.getElem?_set,List.getD_eq_getElem?_getD]
 by_cases e:i=j
 ·subst e
  rw[hi]at hj;cases hj
  rw[if_pos rfl,if_pos (by omega),if_pos rfl];rfl
 ·rw[if_neg e,if_neg]
  intro q
  have h3:(t.rs.map (·.id))[i]?=some ra.id:=by rw[List.getElem?_map,hi];rfl
  have h4:(t.rs.map (·.id))[j]?=some ra.id:=by rw[List.getElem?_map,hj,←q];rfl
  exact e (dI (fQ hc) h3 h4)
theorem oR{t:Tpl}(hc:aB t=0){d:List Int}(hd:d.length=t.rs.length)(hn:∀x∈d,0≤x){a b c u:Int}(h1:1≤c∧c≤1000)(ha:aK t a=true)(hb:aK t b=true)(hu:aK t u=true) :
  at6 t (rlx1 d (aT t a).toNat (aT t b).toNat c) u=if u=a∧at6 t d b<io∧c+at6 t d b<at6 t d a then c+at6 t d b else at6 t d u:=by
 have hb0:=JT (t:=t) hn b
 unfold rlx1
 rw[←jG hb,←jG ha]
 by_cases e:at6 t d b<1073741824
 ·rw[if_pos e,Pb hc hd ha hu,cn (by omega)]
  unfold dm io
  by_cases e1:u=a
  ·subst e1
   rw[if_pos rfl]
   by_cases e2:c+at6 t d b<at6 t d u
   ·rw[if_pos e2,if_pos ⟨rfl,e,e2⟩]
   ·rw[if_neg e2,if_neg (λq=>e2 q.2.2)]
  ·rw[if_neg e1,if_neg (λq=>e1 q.1)]
 ·rw[if_neg e,if_neg (λq=>e q.2.1)]
section
variable {t : Tpl} (hc : aB t = 0)
include hc
theorem Lk{d:List Int}(hd:d.length=t.rs.length)(hn:∀x∈d,0≤x){l:Lnk}(hl:l∈t.ls) :
  (∀u,aK t u=true→at6 t (rlx t d l) u≤at6 t d u)∧(at6 t d l.b<io→at6 t (rlx t d l) l.a≤at6 t d l.b+l.ca)∧(at6 t d l.a<io→at6 t (rlx t d l) l.b≤at6 t d l.a+l.cb):=by
 have hO:=aw hc
 obtain⟨ha,hb⟩:=hO.has l hl
 have hlr:=hO.lr l hl
 have hlt:=hO.lt l hl
 have c1:=dT.mp hlr.1
 have c2:=dT.mp hlr.2.1
 have hd1:(rlx1 d (aT t l.a).toNat (aT t l.b).toNat l.ca).length=t.rs.length:=by rw[hZ];exact hd
 have hn1:=kO (a:=(aT t l.a).toNat) (b:=(aT t l.b).toNat) hn c1
 have s1:=λu hu=>oR hc hd hn (u:=u) c1 ha hb hu
 have s2:=λu hu=>oR hc hd1 hn1 (u:=u) c2 hb ha hu
 unfold rlx
 have sa:=s1 l.a ha
 have sb:=s1 l.b hb
 rw[if_neg (λq=>by have:=q.1;omega)]at sb
 have e1:iy t l.a l.b l.ca:=⟨l,hl,.inl ⟨rfl,rfl,rfl⟩⟩
 have e2:iy t l.b l.a l.cb:=⟨l,hl,.inr ⟨rfl,rfl,rfl⟩⟩
 refine⟨λu hu=>?_,λh=>?_,λh=>?_⟩
 ·rw[s2 u hu,s1 u hu]
  by_cases q:u=l.b
  ·subst q;rw[sb,sa];(repeat' split)<;>omega
  ·rw[if_neg (λr=>q r.1)];split
   ·rename_i r;obtain⟨r1,r2,r3⟩:=r;subst r1;omega
   ·omega
 ·rw[s2 l.a ha,if_neg (λr=>by have:=r.1;omega),sa]
  split
  ·omega
  ·rename_i r
   have:¬l.ca+at6 t d l.b<at6 t d l.a:=λq=>r ⟨rfl,h,q⟩
   omega
 ·have ham:at6 t (rlx1 d (aT t l.a).toNat (aT t l.b).toNat l.ca) l.a≤at6 t d l.a:=by rw[sa];split<;>omega
  rw[s2 l.b hb]
  split
  ·omega
  ·rename_i r
   have:¬l.cb+at6 t (rlx1 d (aT t l.a).toNat (aT t l.b).toNat l.ca) l.a<at6 t (rlx1 d (aT t l.a).toNat (aT t l.b).toNat l.ca) l.b:=λq=>r ⟨rfl,by omega,q⟩
   omega
def PV(t:Tpl)(g:Int)(d:List Int):Prop:=∀u,aK t u=true→at6 t d u≤io∧(at6 t d u<io→∃k,Pth t g k u (at6 t d u))
theorem PV.rlx1{g:Int}{d:List Int}(h:PV t g d)(hd:d.length=t.rs.length)(hn:∀x∈d,0≤x){a b c:Int}(e:iy t a b c):PV t g (rlx1 d (aT t a).toNat (aT t b).toNat c):=λu hu=>by
 obtain⟨ha,hb⟩:=e.has hc
 rw[oR hc hd hn (e.cost hc) ha hb hu]
 split
 ·rename_i r
  obtain⟨r1,r2,r3⟩:=r
  subst r1
  have:=(h u hu).1
  refine⟨by omega,λ_=>?_⟩
  obtain⟨k,p⟩:=(h b hb).2 r2
  rw[Int.add_comm]
  exact⟨k+1,.cons e p⟩
 ·exact h u hu
theorem PV.rlx{g:Int}{d:List Int}(h:PV t g d)(hd:d.length=t.rs.length)(hn:∀x∈d,0≤x){l:Lnk}(hl:l∈t.ls):PV t g (rlx t d l):=by
 have c1:=dT.mp ((aw hc).lr l hl).1
 exact PV.rlx1 hc (PV.rlx1 hc h hd hn ⟨l,hl,.inl ⟨rfl,rfl,rfl⟩⟩) (by rw[hZ];exact hd) (kO hn c1) ⟨l,hl,.inr ⟨rfl,rfl,rfl⟩⟩
theorem tH{g:Int}:∀{ls:List Lnk} {d:List Int},d.length=t.rs.length→(∀x∈d,0≤x)→PV t g d→(∀l∈ls,l∈t.ls) →
  (ls.foldl (rlx t) d).length=t.rs.length∧(∀x∈ls.foldl (rlx t) d,0≤x)∧PV t g (ls.foldl (rlx t) d)∧(∀u,aK t u=true→at6 t (ls.foldl (rlx t) d) u≤at6 t d u) ∧
  ∀l∈ls,(at6 t d l.b<io→at6 t (ls.foldl (rlx t) d) l.a≤at6 t d l.b+l.ca)∧(at6 t d l.a<io→at6 t (ls.foldl (rlx t) d) l.b≤at6 t d l.a+l.cb)
 | [],d,hd,hn,hp,_=>⟨hd,hn,hp,λu _=>Int.le_refl _,λl hl=>by cases hl⟩
 | l::ls,d,hd,hn,hp,hs=>by
  have hl:=hs l (by simp)
  obtain⟨a1,a2,a3⟩:=Lk hc hd hn hl
  obtain⟨b1,b2,b3,b4,b5⟩:=tH (g:=g) (ls:=ls) (d:=rlx t d l) (by rw[AK];exact hd) (Fw hn (ri hc l hl)) (PV.rlx hc hp hd hn hl) λm hm=>hs m (List.mem_cons_of_mem _ hm)
  rw[List.foldl_cons]
  refine⟨b1,b2,b3,λu hu=>Int.le_trans (b4 u hu) (a1 u hu),λm hm=>?_⟩
  rcases List.mem_cons.mp hm with rfl|hm'
  ·obtain⟨ha,hb⟩:=(aw hc).has m hl
   exact⟨λh=>Int.le_trans (b4 _ ha) (a2 h),λh=>Int.le_trans (b4 _ hb) (a3 h)⟩
  ·obtain⟨ha,hb⟩:=(aw hc).has m (hs m hm)
   have h1:=a1 _ ha
   have h2:=a1 _ hb
   exact⟨λh=>by have:=(b5 m hm').1 (by omega);omega,λh=>by have:=(b5 m hm').2 (by omega);omega⟩
theorem Au{g:Int}(hg:aK t g=true):∀k:Nat,(iM t k (to0 t g)).length=t.rs.length∧(∀x∈iM t k (to0 t g),0≤x)∧PV t g (iM t k (to0 t g))∧∀j u n,j≤k→Pth t g j u n→n<io→at6 t (iM t k (to0 t g)) u≤n
 | 0=>by
  have e:∀u,aK t u=true→at6 t (to0 t g) u=if u=g then 0 else io:=λu hu=>by
   rw[jG hu]
   obtain⟨r,hr,rfl⟩:=eB.mp hu
   obtain⟨i,hi⟩:=List.mem_iff_getElem?.mp hr
   rw[vX hc hi,to0,List.getD_eq_getElem?_getD,List.getElem?_map,hi]
   simp[isR,io]
  refine⟨by simp[iM,to0],λx hx=>?_,λu hu=>?_,λj u n hj p hn=>?_⟩
  ·obtain⟨y,_,rfl⟩:=List.mem_map.mp hx
   split<;>omega
  ·rw[iM,e u hu]
   split
   ·rename_i q;subst q;exact⟨by decide,λ_=>⟨0,.nil⟩⟩
   ·exact⟨Int.le_refl _,λh=>by omega⟩
  ·obtain rfl:j=0:=by omega
   cases p
   rw[iM,e g hg,if_pos rfl];exact Int.le_refl _
 | k+1=>by
  obtain⟨h1,h2,h3,h4⟩:=Au hg k
  obtain⟨b1,b2,b3,b4,b5⟩:=tH hc (ls:=t.ls) h1 h2 h3 λl hl=>hl
  refine⟨b1,b2,b3,λj u n hj p hn=>?_⟩
  cases p with
  | nil=>exact Int.le_trans (b4 g hg) (h4 0 g 0 (by omega) .nil hn)
  | cons e q =>
   have hcs:=e.cost hc
   have hw:=h4 _ _ _ (by omega) q (by omega)
   obtain⟨l,hl,⟨rfl,rfl,rfl⟩|⟨rfl,rfl,rfl⟩⟩:=e
   ·have:=(b5 l hl).1 (by omega);show at6 t (t.ls.foldl (rlx t) _) _≤_;omega
   ·have:=(b5 l hl).2 (by omega);show at6 t (t.ls.foldl (rlx t) _) _≤_;omega
theorem nM{g:Int}{D:Dis}(h:uG (inG t) g D):∀(N:Nat) {v n:Int},n.toNat≤N→(v,n)∈D→∃k,k≤(D.filter λp=>decide (p.2<n)).length∧Pth t g k v n
 | N,v,n,hN,hx=>by
  by_cases e:v=g
  ·subst e
   have:=fM h.nd hx h.src
   subst this;exact⟨0,Nat.zero_le _,.nil⟩
  ·obtain⟨⟨u,m⟩,hq,s,hs,h1,h2⟩:=h.tgt _ hx e
   simp only at h1 h2 hs
   have he:=(mg hc).mp hs
   have hcs:=he.cost hc
   have hp:=(h.pos _ hq).1
   have hp2:=(h.pos _ hx).1
   simp only at hp hp2
   subst h1;subst h2
   match N with
   | 0=>omega
   | N+1 =>
    obtain⟨k,hk,p⟩:=nM h N (by omega) hq
    refine⟨k+1,?_,.cons he p⟩
    have:=jZ (l:=D) (x:=(u,m)) (p:=λp=>decide (p.2<m)) (q:=λp=>decide (p.2<m+s.cost)) (λy hy=>by rw[decide_eq_true_eq]at hy ⊢;omega) hq (decide_eq_false (by simp)) (decide_eq_true (by simp;omega))
    omega
theorem C6{g:Int}(hg:aK t g=true):(bt (inG t) g).length≤t.rs.length:=by
 have h:=eE (k9 hc) (f:=g) (by unfold inG;rw[aS,bo];exact hg)
 have:=List.Nodup.length_le_of_subset h.nd h.ke
 rw[cE,cE,inG,List.length_map]at this
 exact this
theorem kN{g:Int}(hg:aK t g=true)(u:Int):at6 t (to6 t g) u=if bn (bt (inG t) g) u=true then ay (bt (inG t) g) u 0 else io:=by
 have h:=eE (k9 hc) (f:=g) (by unfold inG;rw[aS,bo];exact hg)
 have hlen:=C6 hc hg
 have hR:=(aw hc).nr
 obtain⟨r1,r2,r3,r4⟩:=Au hc hg t.rs.length
 change PV t g (to6 t g)at r3
 change ∀j u n,j≤t.rs.length→Pth t g j u n→n<io→at6 t (to6 t g) u≤n at r4
 have hk:∀x,x∈au (inG t)↔aK t x=true:=λx=>by unfold inG;rw[aS,bo]
 by_cases hu:aK t u=true
 ·by_cases hm:bn (bt (inG t) g) u=true
  ·rw[if_pos hm]
   have hx:=cY (z:=(0:Int)) hm
   generalize ay (bt (inG t) g) u 0=m at hx ⊢
   obtain⟨k,hk1,p⟩:=nM hc h _ (Nat.le_refl _) hx
   have hle:=List.length_filter_le (λp:Int×Int=>decide (p.2<m)) (bt (inG t) g)
   have hb:=(h.pos _ hx).2
   simp only at hb
   have hup:=r4 k u m (by omega) p (by unfold io;omega)
   obtain⟨k',p'⟩:=(r3 u hu).2 (by unfold io;omega)
   have:=((tl hc hg).mp hx).2 _ _ p'
   omega
  ·rw[if_neg hm]
   refine Classical.byContradiction λq=>?_
   obtain⟨k',p'⟩:=(r3 u hu).2 (by have:=(r3 u hu).1;omega)
   obtain⟨m,_,hx⟩:=h.low ((kY hc).mpr ⟨k',p'⟩)
   exact hm (cg.mpr ⟨m,hx⟩)
 ·have e:at6 t (to6 t g) u=io:=by unfold at6;rw[if_neg hu];rfl
  rw[e,if_neg]
  intro q
  obtain⟨v,hv⟩:=cg.mp q
  exact hu ((hk u).mp (h.ke _ (aM.mpr ⟨v,hv⟩)))
end
section
variable {t : Tpl} (hc : aB t = 0)
include hc
theorem pH{f q:Int}:q∈dl t f↔(cM t f q).2=true:=by
 unfold dl
 rw[List.mem_flatMap]
 constructor
 ·rintro⟨x,hx,h⟩
  split at h
  ·rw[List.mem_singleton.mp h];assumption
  ·cases h
 ·intro h
  have he:=(lB hc (u:=f) (v:=q) (c:=(cM t f q).1)).mpr (Prod.ext rfl h)
  obtain⟨r,hr,rfl⟩:=eB.mp (he.has hc).2
  exact⟨r,hr,by rw[if_pos h];simp⟩
theorem Mh(f:Int):(dl t f).Pairwise (λa b=>a<b):=by
 unfold dl
 rw[List.pairwise_flatMap]
 refine⟨λx _=>by split<;>simp,List.Pairwise.imp (λ{a b} h x hx y hy=>?_) (aw hc).asc⟩
 split at hx
 ·split at hy
  ·rw[List.mem_singleton.mp hx,List.mem_singleton.mp hy];exact h
  ·cases hy
 ·cases hx
theorem LD(f:Int):gK (fq t.ls f)=(dl t f).map λq=>⟨q,(cM t f q).1⟩:=by
 have ho:=kS hc f
 have h1:(gK (fq t.ls f)).Pairwise (λa b=>a.to<b.to):=rY ho
 have h2:((dl t f).map λq=>(⟨q,(cM t f q).1⟩:Stp)).Pairwise (λa b=>a.to<b.to):=List.Pairwise.map _ (λa b h=>h) (Mh hc f)
 refine fC (key:=Stp.to) ?_ (h1.imp λh=>Int.le_of_lt h) h2
 refine(List.perm_ext_iff_of_nodup (h1.imp λh e=>by subst e;omega) (h2.imp λh e=>by subst e;omega)).mpr λs=>?_
 rw[(eV _).mem_iff,lJ hc,List.mem_map]
 constructor
 ·intro e
  have:=(lB hc).mp e
  exact⟨s.to,(pH hc).mpr (by rw[this]),by rw[this]⟩
 ·rintro⟨q,hq,rfl⟩
  exact(lB hc).mpr (Prod.ext rfl ((pH hc).mp hq))
theorem lb{g:Int}(hg:aK t g=true){x m:Int}(h:(x,m)∈bt (inG t) g):0≤m∧m≤24000:=by
 have hf:=eE (k9 hc) (f:=g) (by unfold inG;rw[aS,bo];exact hg)
 have:=hf.pos _ h
 have hl:=C6 hc hg
 have:=(aw hc).nr
 simp only at *;omega
theorem LZ{g:Int}(hg:aK t g=true)(f:Int):lM (bU t) (bt (inG t) g) f=bD t (to6 t g) f:=by
 unfold lM bD
 rw[show(bU t).out=c9 t from rfl,kQ hc,kN hc hg f]
 by_cases hf:bn (bt (inG t) g) f=true
 ·rw[if_pos hf,if_pos hf]
  have hx:=cY (z:=(0:Int)) hf
  have hb:=lb hc hg hx
  generalize hm:ay (bt (inG t) g) f 0=m at hx hb ⊢
  unfold RU
  rw[LD hc,List.filter_map,List.map_map]
  have hcomp:(Stp.to ∘ λq=>(⟨q,(cM t f q).1⟩:Stp))=id:=rfl
  rw[hcomp,List.map_id]
  have key:∀q∈dl t f,(mZ (bt (inG t) g) f ∘ λq=>(⟨q,(cM t f q).1⟩:Stp)) q=okN t (to6 t g) f q:=λq hq=>by
   show mZ (bt (inG t) g) f ⟨q,(cM t f q).1⟩=_
   unfold mZ okN
   rw[kN hc hg q,kN hc hg f,if_pos hf,hm]
   by_cases h:bn (bt (inG t) g) q=true
   ·have hy:=lb hc hg (cY (z:=(0:Int)) h)
    rw[if_pos h,h,decide_eq_true (by omega)]
   ·rw[if_neg h,Bool.eq_false_iff.mpr h];rfl
  rw[List.filter_congr key]
  by_cases h0:m=0
  ·rw[if_pos (.inr h0)]
   refine List.eq_nil_iff_forall_not_mem.mpr λq hq=>?_
   obtain⟨hq1,hq2⟩:=List.mem_filter.mp hq
   rw[←key q hq1]at hq2
   have hq2:mZ (bt (inG t) g) f ⟨q,(cM t f q).1⟩=true:=hq2
   unfold mZ at hq2
   rw[Bool.and_eq_true,beq_iff_eq,hm]at hq2
   have hy:=lb hc hg (cY (z:=(0:Int)) hq2.1)
   have hp:=sw hc ((pH hc).mp hq1)
   have:=hq2.2
   simp only at this hy
   rw[cn (by omega)]at this
   omega
  ·rw[if_neg]
   omega
 ·rw[if_neg hf,if_neg hf,if_pos (.inl rfl)]
theorem LE:lL (c9 t):=by
 have hk:=wo hc
 have e:au (c9 t)=t.rs.map (·.id):=by unfold c9;rw[aS]
 refine⟨hk.len,hk.nd,λx hx=>?_,λp hp=>?_⟩
 ·rw[e]at hx
  obtain⟨r,hr,rfl⟩:=List.mem_map.mp hx
  have:=(aw hc).rg r hr;omega
 ·have hm:ay (c9 t) p.1 []=p.2:=eQ hk.nd hp
  refine⟨?_,λs hs=>hk.to p.1 s (by rw[hm];exact hs)⟩
  rw[←hm,kQ hc,(eV _).length_eq]
  exact(kS hc _).1
theorem MC(x:Int):(inS t.ls x).length≤60:=by
 have:∀ls:List Lnk,(inS ls x).length≤ls.length:=λls=>by
  induction ls with
  | nil=>exact Nat.le_refl _
  | cons l ls ih =>
   have e:inS (l::ls) x=(if l.b=x then [⟨l.a,l.ca⟩]else if l.a=x then [⟨l.b,l.cb⟩]else [])++inS ls x:=rfl
   rw[e,List.length_append]
   have:(if l.b=x then [(⟨l.a,l.ca⟩:Stp)]else if l.a=x then [⟨l.b,l.cb⟩]else []).length≤1:=by split<;>(try split)<;>simp
   simp only[List.length_cons];omega
 have:=this t.ls;have:=(aw hc).nl;omega
theorem Hv:lL (inG t):=by
 have hk:=k9 hc
 have e:au (inG t)=t.rs.map (·.id):=by unfold inG;rw[aS]
 refine⟨hk.len,hk.nd,λx hx=>?_,λp hp=>?_⟩
 ·rw[e]at hx
  obtain⟨r,hr,rfl⟩:=List.mem_map.mp hx
  have:=(aw hc).rg r hr;omega
 ·have hm:ay (inG t) p.1 []=p.2:=eQ hk.nd hp
  refine⟨?_,λs hs=>hk.to p.1 s (by rw[hm];exact hs)⟩
  rw[←hm,Hu hc]
  have:=MC hc p.1;omega
theorem sD(f:Int):(ay (bU t).out f []).length≤1000000:=by
 rw[show(bU t).out=c9 t from rfl,kQ hc,(eV _).length_eq]
 exact(kS hc _).1
theorem j8{g:Int}(hg:aK t g=false):bt (inG t) g=[]:=by
 unfold bt
 rw[if_neg]
 unfold bn
 rw[decide_eq_true_iff]
 unfold inG;rw[aS,bo,hg];simp
end
theorem eS{t:Tpl}{r:Int}:hs5 t r=true↔aB t=0∧aK t r=true:=by unfold hs5;rw[Bool.and_eq_true,beq_iff_eq]
theorem Ej{t:Tpl}{f:Int}(hf:aK t f=false):bt (c9 t) f=[]:=by
 unfold bt
 rw[if_neg]
 unfold bn
 rw[decide_eq_true_iff]
 unfold c9;rw[aS,bo,hf];simp
def eM(t:Tpl)(f g:Int):Int×Bool:=if hs5 t f=false∨hs5 t g=false then(0,false)else if at6 t (to6 t g) f=1073741824 then(0,false)else(at6 t (to6 t g) f,true)
def Um(t:Tpl)(from_:Int)(to_:Int):=okL [.agg [.sl 2 (t.rs.map Rtr.v) false,.sl 5 (t.ls.map Lnk.v) false],.int from_,.int to_]
def NS(t:Tpl)(from_:Int)(to_:Int)(t0:Bool):NF:=⟨[(1,.k,.int from_),(2,.k,.int to_),(3,.k,.ref 0 0),(18,.k,.bool t0)],[.box (.agg [.sl 2 (t.rs.map Rtr.v) false,.sl 5 (t.ls.map Lnk.v) false])]⟩
@[reducible] def Jb:Nat→Type
 | 0=>Bool
 | _=>Unit
def yY(r:Int×Bool):AV:=.tup [.int r.1,.bool r.2]
def yX(t:Tpl)(from_:Int)(to_:Int)(I0:Bool→Prop):Ax Tryz.prog Jb (Int×Bool):=
 (.pass (.pass (.join 0 (NS t from_ to_) (λ(t0:Bool)=>I0 t0) (λb0=>(.callP (nG t from_)
(.br 128 (!(hs5 t from_)) (.bk 0 b0 ((true):Bool) [0])
(.callP (nG t to_)
(.bk 0 b0 ((!(hs5 t to_)):Bool) [0]))))) λ(t0:Bool) =>
(.br 1 t0 (.ret (0,false))
(.req 49 (aB t=0) λh1 =>
(.callP (ET t to_ h1)
(.req 81 (okD t (to6 t to_)) λh2 =>
(.callP (Di t (to6 t to_) from_ h2)
(.br 145 ((at6 t (to6 t to_) from_)==1073741824) (.ret (0,false))
(.ret (at6 t (to6 t to_) from_,true)))))))))))
def CI(t:Tpl)(from_:Int)(to_:Int)(I0:Bool→Prop)(r0:Int×Bool):=(yX t from_ to_ I0).vp yY r0
theorem Ul(t:Tpl)(f g:Int)(ok:Um t f g):∃I0,CI t f g I0 (eM t f g):=by
  refine⟨λb=>b=decide (hs5 t f=false∨hs5 t g=false),?_⟩
  dsimp only[CI,yX,Jb,Ax.vp,Ax.vc];simp only[vcU,rfU,List.length_map]
  refine ⟨⟨fun c => by have c : hs5 t f = false := by simpa using c
                       simp[c],λc=>?_⟩,?_⟩
  · have c:hs5 t f=true:=by simpa using c
    cases q:hs5 t g<;>simp[c]
  rintro _ rfl
  refine⟨λc=>by rw[eM,if_pos (of_decide_eq_true c)],λc=>?_⟩
  have c:=of_decide_eq_false c
  have hf:hs5 t f=true:=by
    cases q:hs5 t f
    · exact absurd (.inl q) c
    · rfl
  have hc:=(eS.mp hf).1
  have:=(aw hc).nr
  refine⟨hc,⟨oC,by omega⟩,λe=>by rw[eM,if_neg c,if_pos (eq_of_beq e)],λe=>?_⟩
  rw[eM,if_neg c,if_neg (by simpa using e)]
def yZ(t:Tpl)(from_:Int)(to_:Int):PC Tryz.prog:=⟨189,[(.a [(.s 2),(.s 5)]),.k,.k],[.agg [.sl 2 (t.rs.map Rtr.v) false,.sl 5 (t.ls.map Lnk.v) false],.int from_,.int to_],yY (eM t from_ to_),ao.of_ok λok=>(Ul t from_ to_ ok).elim λI0 h=>aj (sh:=.k) (enc:=yY) (a:=(yX t from_ to_ I0).an) h (by kernel_rfl) (AV.pureB_ok rfl),ah (by kernel_rfl)⟩
def ni(t:Tpl)(f g r:Int):Bool:=(eM t f g).2 && !((eM t f r).2 && ((eM t r g).2 && (W ((eM t f r).1+(eM t r g).1)==(eM t f g).1)))
def US(t:Tpl)(from_:Int)(to_:Int)(router:Int):=okL [.agg [.sl 2 (t.rs.map Rtr.v) false,.sl 5 (t.ls.map Lnk.v) false],.int from_,.int to_,.int router]
def zN(r:Bool):AV:=.bool r
def zM(t:Tpl)(from_:Int)(to_:Int)(router:Int):Ax Tryz.prog noS (Bool):=
 (.callP (yZ t from_ to_)
(.br 208 (!((eM t from_ to_).2)) (.ret (false))
(.callP (yZ t from_ router)
(.callP (yZ t router to_)
(.br 544 (!((eM t from_ router).2)) (.ret (true))
(.br 608 (!((eM t router to_).2)) (.ret (true))
(.ret ((W (((eM t from_ router).1)+((eM t router to_).1))) != ((eM t from_ to_).1)))))))))
def Dh(t:Tpl)(from_:Int)(to_:Int)(router:Int)(r0:Bool):=(zM t from_ to_ router).vp zN r0
theorem UQ(t:Tpl)(f g r:Int)(ok:US t f g r):Dh t f g r (ni t f g r):=by
 dsimp only[Dh,zM,noS,Ax.vp,Ax.vc];simp only[vcU,rfU,List.length_map]
 unfold ni
 cases q1:(eM t f g).2<;>cases q2:(eM t f r).2<;>cases q3:(eM t r g).2<;>simp<;>rfl
def UR(t:Tpl)(from_:Int)(to_:Int)(router:Int):PC Tryz.prog:=⟨168,[(.a [(.s 2),(.s 5)]),.k,.k,.k],[.agg [.sl 2 (t.rs.map Rtr.v) false,.sl 5 (t.ls.map Lnk.v) false],.int from_,.int to_,.int router],zN (ni t from_ to_ router),ao.of_ok λok=>aj (sh:=.k) (enc:=zN) (a:=(zM t from_ to_ router).an) (UQ t from_ to_ router ok) (by kernel_rfl) (AV.pureB_ok rfl),ah (by kernel_rfl)⟩
theorem Ja{t:Tpl}(hc:aB t=0)(f g:Int):eM t f g=if bn (bt (inG t) g) f=true then(ay (bt (inG t) g) f 0,true)else(0,false):=by
 unfold eM
 by_cases hg:aK t g=true
 ·by_cases hf:aK t f=true
  ·rw[if_neg (by rw[eS.mpr ⟨hc,hf⟩,eS.mpr ⟨hc,hg⟩];simp),kN hc hg f]
   by_cases h:bn (bt (inG t) g) f=true
   ·have:=lb hc hg (cY (z:=(0:Int)) h)
    rw[if_pos h,if_pos h,if_neg (by omega)]
   ·rw[if_neg h,if_neg h,if_pos (show io=1073741824 from rfl)]
  ·have e:hs5 t f=false:=by rw[Bool.eq_false_iff];exact λq=>hf (eS.mp q).2
   rw[if_pos (.inl e),if_neg]
   intro q
   obtain⟨v,hv⟩:=cg.mp q
   have h:=eE (k9 hc) (f:=g) (by unfold inG;rw[aS,bo];exact hg)
   have:=h.ke _ (aM.mpr ⟨v,hv⟩)
   unfold inG at this;rw[aS,bo]at this
   exact hf this
 ·have e:hs5 t g=false:=by rw[Bool.eq_false_iff];exact λq=>hg (eS.mp q).2
  rw[if_pos (.inr e),j8 hc (by simpa using hg)];rfl
theorem CG{t:Tpl}(hc:aB t=0)(f g:Int):eM t f g=if bn (bt (c9 t) f) g=true then(ay (bt (c9 t) f) g 0,true)else(0,false):=by
 rw[Ja hc]
 by_cases hf:aK t f=true
 ·by_cases hg:aK t g=true
  ·have key:∀m,(f,m)∈bt (inG t) g↔(g,m)∈bt (c9 t) f:=λm=>by rw[tl hc hg,D4 hc hf]
   have hF:=eE (k9 hc) (f:=g) (by unfold inG;rw[aS,bo];exact hg)
   by_cases h:bn (bt (inG t) g) f=true
   ·have hm:=cY (z:=(0:Int)) h
    have h2:=(key _).mp hm
    have h3:bn (bt (c9 t) f) g=true:=cg.mpr ⟨_,h2⟩
    have h4:=(key _).mpr (cY (z:=(0:Int)) h3)
    rw[if_pos h,if_pos h3,fM hF.nd hm h4]
   ·have h3:¬bn (bt (c9 t) f) g=true:=λq=>by
     obtain⟨v,hv⟩:=cg.mp q
     exact h (cg.mpr ⟨v,(key v).mpr hv⟩)
    rw[if_neg h,if_neg h3]
  ·rw[j8 hc (by simpa using hg)]
   have h3:¬bn (bt (c9 t) f) g=true:=λq=>by
    obtain⟨v,hv⟩:=cg.mp q
    have h:=eE (wo hc) (f:=f) (by unfold c9;rw[aS,bo];exact hf)
    have:=h.ke _ (aM.mpr ⟨v,hv⟩)
    unfold c9 at this;rw[aS,bo]at this
    exact hg this
   rw[if_neg h3];rfl
 ·rw[Ej (by simpa using hf)]
  have h3:¬bn (bt (inG t) g) f=true:=λq=>by
   obtain⟨v,hv⟩:=cg.mp q
   by_cases hg:aK t g=true
   ·have h:=eE (k9 hc) (f:=g) (by unfold inG;rw[aS,bo];exact hg)
    have:=h.ke _ (aM.mpr ⟨v,hv⟩)
    unfold inG at this;rw[aS,bo]at this
    exact hf this
   ·rw[j8 hc (by simpa using hg)]at hv;cases hv
  rw[if_neg h3];rfl
theorem RM{t:Tpl}(hc:aB t=0){g:Int}(hg:aK t g=false)(f:Int):lM (bU t) (bt (bU t).inn g) f=[]:=by
 rw[show(bU t).inn=inG t from rfl,j8 hc hg];rfl
theorem Qz{t:Tpl}{d:List Int}{f:Int}(hf:aK t f=false):bD t d f=[]:=by
 unfold bD at6;rw[if_pos];left;rw[hf];simp
def QE(t:Tpl)(from_:Int)(to_:Int):=okL [.agg [.sl 2 (t.rs.map Rtr.v) false,.sl 5 (t.ls.map Lnk.v) false],.int from_,.int to_]
def Lb(t:Tpl)(from_:Int)(to_:Int)(t0:Bool):NF:=⟨[(1,.k,.int from_),(2,.k,.int to_),(3,.k,.ref 0 0),(19,.k,.bool t0)],[.box (.agg [.sl 2 (t.rs.map Rtr.v) false,.sl 5 (t.ls.map Lnk.v) false])]⟩
def La(t:Tpl)(to_:Int)(t1:Int×List Int):NF:=⟨[(2,.k,.int to_),(7,.k,.ref 0 0),(8,.k,.mp none ((bt ((bU t).inn) to_).map λp:Int×Int=>MK.n p.1) ((bt ((bU t).inn) to_).map λp:Int×Int=>AV.int p.2)),(9,.k,.vec 1),(10,.k,.int t1.1)],[.box (.agg [.mp none (((bU t).out).map λp:Int×List Stp=>MK.n p.1) (((bU t).out).map λp:Int×List Stp=>(λl:List Stp=>AV.sl 2 (l.map Stp.v) false) p.2),.mp none (((bU t).inn).map λp:Int×List Stp=>MK.n p.1) (((bU t).inn).map λp:Int×List Stp=>(λl:List Stp=>AV.sl 2 (l.map Stp.v) false) p.2)]),.vec 1 (t1.2.map AV.int) (ab (λ_=>rfl) t1.2)]⟩
@[reducible] def Fs:Nat→Type
 | 0=>Bool
 | 1=>Int×List Int
 | _=>Unit
def vB(r:List Int):AV:=.sl 1 (r.map AV.int) false
def vA(t:Tpl)(from_:Int)(to_:Int)(I0:Bool→Prop)(I1:Bool→(Int×List Int)→Prop)(m1:Bool→(Int×List Int)→Nat):Ax Tryz.prog Fs ((List Int)):=
 (.pass (.pass (.join 0 (Lb t from_ to_) (λ(t0:Bool)=>I0 t0) (λb0=>(.callP (Aj t)
(.br 96 (!(ge t)) (.bk 0 b0 ((true):Bool) [0])
(.bk 0 b0 ((from_==to_):Bool) [0])))) λ(t0:Bool) =>
(.br 1 t0 (.ret ([]))
(.req 17 (aB t=0) λh1 =>
(.callP (HQ t h1)
(.req 113 (lL ((bU t).inn)) λh2 =>
(.callP (yK ((bU t).inn) to_ h2)
(.cmdL (.nilT 9 1) (.loop 1 (La t to_) (I1 t0) (m1 t0) (from_,[]) [33,193] λ(t1:Int×List Int) b1 =>
(.br 50 (t1.1 != to_) (.req 98 ((ay (bU t).out t1.1 []).length≤1000000) λh3 =>
(.callP (RR (bU t) (bt ((bU t).inn) to_) t1.1 h3)
(.br 178 ((((lM (bU t) (bt ((bU t).inn) to_) t1.1).map AV.int).length:Int)==0) (.ret ([]))
(.el 210 AV.int (lM (bU t) (bt ((bU t).inn) to_) t1.1) (λR=>Rf ((lM (bU t) (bt ((bU t).inn) to_) t1.1).map AV.int) (ck (decide (0<((lM (bU t) (bt ((bU t).inn) to_) t1.1).length:Int)))
(∀x4,(lM (bU t) (bt ((bU t).inn) to_) t1.1)[0]?=some x4 →
(R x4)))) λx4 =>
(.say (λR=>Rf (α:=List AV) (t1.2.map AV.int) (Rf (α:=List AV) [.int x4]
(ck (decide (t1.2.length+1≤1048576))
R))) (.app 258 AV.int t1.2 [x4]
(.say (ck (cond (decide (0≤(W ((((t1.2++[x4]).map AV.int).length:Int)-1)))) (decide ((W ((((t1.2++[x4]).map AV.int).length:Int)-1))<(((t1.2++[x4]).map AV.int).length:Int))) false)) (.el 370 AV.int (t1.2++[x4]) (λR=>Rf ((t1.2++[x4]).map AV.int) (ck (decide ((W ((((t1.2++[x4]).map AV.int).length:Int)-1)).toNat<(t1.2++[x4]).length))
(∀x5,(t1.2++[x4])[(W ((((t1.2++[x4]).map AV.int).length:Int)-1)).toNat]?=some x5 →
(R x5)))) λx5 =>
(.bk 1 b1 (x5,t1.2++[x4]) [0,258])))))))))
(.say (Rf (t1.2.map AV.int)) (.cmdL (.frzE 1 (t1.2.map AV.int) (ab (λ_=>rfl) t1.2)) (.ret (t1.2)))))))))))))))
def AA(t:Tpl)(from_:Int)(to_:Int)(I0:Bool→Prop)(I1:Bool→(Int×List Int)→Prop)(m1:Bool→(Int×List Int)→Nat)(r0:List Int):=(vA t from_ to_ I0 I1 m1).vp vB r0
theorem QD(t:Tpl)(f g:Int)(ok:QE t f g):∃I0 I1 m1,AA t f g I0 I1 m1 (bz t f g):=by
 refine⟨λb=>b=(!ge t || f==g),λ_ s=>(aK t g=false∧s.2=[])∨aK t g=true∧∃k:Nat,nrr t (to6 t g) s.1<k∧s.2.length+k≤25∧l6 t (to6 t g) g k s.1 s.2=bz t f g,λ_ s=>nrr t (to6 t g) s.1,?_⟩
 dsimp only[AA,vA,Fs,Ax.vp,Ax.vc];simp only[vcU,rfU,List.length_map]
 refine⟨⟨λc=>by rw[c];rfl,λc=>by rw[c];rfl⟩,?_⟩
 rintro _ rfl
 by_cases hc:aB t=0
 case neg =>
  have hv:ge t=false:=by unfold ge;simpa using hc
  rw[hv]
  refine⟨λ_=>?_,λe=>by simp at e⟩
  rw[bz,if_pos (.inl (by unfold hs5;rw[beq_eq_false_iff_ne.mpr hc];rfl))]
 have hv:ge t=true:=by unfold ge;rw[hc];rfl
 have hlen:=iq hc
 rw[hv]
 refine⟨λe=>?_,λe=>⟨hc,Hv hc,?_,?_⟩⟩
 ·have e:f=g:=by simpa using e
  subst e
  unfold bz
  split
  ·rfl
  ·rw[l6,if_pos rfl]
 ·by_cases hg:aK t g=true
  ·refine .inr ⟨hg,25,?_,by simp,?_⟩
   ·have:=List.length_filter_le (λx:Rtr=>decide (at6 t (to6 t g) x.id<at6 t (to6 t g) f)) t.rs
    unfold nrr;omega
   ·have e:¬f=g:=by simpa using e
    unfold bz
    by_cases hf:aK t f=true
    ·rw[if_neg (by rw[eS.mpr ⟨hc,hf⟩,eS.mpr ⟨hc,hg⟩];simp)]
    ·have hf:aK t f=false:=by simpa using hf
     rw[if_pos (.inl (by unfold hs5;rw[hf,Bool.and_false])),l6,if_neg e,Qz hf]
  ·exact .inl ⟨by simpa using hg,trivial⟩
 ·rintro⟨x,out⟩ hI
  simp only at hI ⊢
  rcases hI with⟨hg,ho⟩|⟨hg,k,hk,hl,hr⟩
  ·refine⟨λe1=>⟨sD hc x,λe2=>?_,λe2=>?_⟩,λe1=>?_⟩
   ·rw[bz,if_pos (.inr (by unfold hs5;rw[hg,Bool.and_false]))]
   ·rw[RM hc hg]at e2;simp at e2
   ·rw[bz,if_pos (.inr (by unfold hs5;rw[hg,Bool.and_false]))];exact ho
  ·obtain⟨k,rfl⟩:∃j,k=j+1:=⟨k-1,by omega⟩
   rw[l6]at hr
   rw[show(bU t).inn=inG t from rfl,LZ hc hg]
   refine⟨λe1=>⟨sD hc x,λe2=>?_,λe2=>⟨?_,λy hy=>?_⟩⟩,λe1=>?_⟩
   ·have e1:¬x=g:=by simpa using e1
    rw[if_neg e1]at hr
    have:bD t (to6 t g) x=[]:=List.eq_nil_of_length_eq_zero (by have:=eq_of_beq e2;omega)
    rw[this]at hr;exact hr
   ·have:(bD t (to6 t g) x).length≠0:=by intro q;rw[q]at e2;simp at e2
    omega
   ·have e1:¬x=g:=by simpa using e1
    rw[if_neg e1]at hr
    have hm:=G4 hc (vn hc) (aP hy)
    have hw:W (((out++[y]).length:Nat)-1:Int)=(out.length:Nat):=by rw[List.length_append,List.length_singleton,cn (by omega)];omega
    rw[hw,Int.toNat_natCast]
    refine⟨by omega,by simp<;>omega,by simp,λz hz=>?_⟩
    have:z=y:=by simpa using hz.symm
    subst this
    refine⟨.inr ⟨hg,k,by omega,by simp;omega,?_⟩,hm⟩
    cases q:bD t (to6 t g) x with
    | nil=>rw[q]at hy;cases hy
    | cons w r=>rw[q]at hy hr;cases hy;exact hr
   ·have e1:x=g:=by simpa using e1
    rw[if_pos e1]at hr;exact hr
def vC(t:Tpl)(from_:Int)(to_:Int):PC Tryz.prog:=⟨140,[(.a [(.s 2),(.s 5)]),.k,.k],[.agg [.sl 2 (t.rs.map Rtr.v) false,.sl 5 (t.ls.map Lnk.v) false],.int from_,.int to_],vB (bz t from_ to_),ao.of_ok λok=>(QD t from_ to_ ok).elim λI0 h=>h.elim λI1 h=>h.elim λm1 h=>aj (sh:=(.s 1)) (enc:=vB) (a:=(vA t from_ to_ I0 I1 m1).an) h (by kernel_rfl) (AV.pureB_ok rfl),ah (by kernel_rfl)⟩
def UP(t:Tpl)(from_:Int)(to_:Int)(router:Int):=okL [.agg [.sl 2 (t.rs.map Rtr.v) false,.sl 5 (t.ls.map Lnk.v) false],.int from_,.int to_,.int router]
def zL(r:Bool):AV:=.bool r
def zK(t:Tpl)(from_:Int)(to_:Int)(router:Int):Ax Tryz.prog noS (Bool):=
 (.callP (Aj t)
(.br 80 (!(ge t)) (.ret (false))
(.req 96 (aB t=0) λh1 =>
(.callP (HQ t h1)
(.req 192 (lL ((bU t).out)) λh2 =>
(.callP (yK ((bU t).out) from_ h2)
(.req 256 (lL ((bU t).inn)) λh3 =>
(.callP (yK ((bU t).inn) to_ h3)
(.mn 336 (fF AV.int (bt ((bU t).out) from_) to_ 0) (.mn 464 (fF AV.int (bt ((bU t).out) from_) router 0) (.mn 592 (fF AV.int (bt ((bU t).inn) to_) router 0) (.br 720 (bn (bt ((bU t).out) from_) to_) (.br 752 (bn (bt ((bU t).out) from_) router) (.br 800 (bn (bt ((bU t).inn) to_) router) (.ret (!((W ((ay (bt ((bU t).out) from_) router 0)+(ay (bt ((bU t).inn) to_) router 0)))==(ay (bt ((bU t).out) from_) to_ 0))))
(.ret (true)))
(.ret (true)))
(.ret (false))))))))))))))
def Dg(t:Tpl)(from_:Int)(to_:Int)(router:Int)(r0:Bool):=(zK t from_ to_ router).vp zL r0
theorem UN(t:Tpl)(f g r:Int)(ok:UP t f g r):Dg t f g r (ni t f g r):=by
 dsimp only[Dg,zK,noS,Ax.vp,Ax.vc];simp only[vcU,rfU,List.length_map]
 by_cases hc:aB t=0
 case neg =>
  have hv:ge t=false:=by unfold ge;simpa using hc
  have h0:eM t f g=(0,false):=by rw[eM,if_pos (.inl (by unfold hs5;rw[beq_eq_false_iff_ne.mpr hc];rfl))]
  rw[hv]
  exact⟨λ_=>by unfold ni;rw[h0];rfl,λe=>by simp at e⟩
 have hv:ge t=true:=by unfold ge;rw[hc];rfl
 rw[hv,show(bU t).out=c9 t from rfl,show(bU t).inn=inG t from rfl]
 unfold ni
 rw[CG hc f g,CG hc f r,Ja hc r g]
 refine⟨λe=>by simp at e,λ_=>⟨hc,LE hc,Hv hc,λh1=>⟨λh2=>⟨λh3=>?_,λh3=>?_⟩,λh2=>?_⟩,λh1=>?_⟩⟩
 ·rw[if_pos h1,if_pos h2,if_pos h3];simp
 ·rw[if_pos h1,if_pos h2,if_neg (by rw[h3];simp)];simp
 ·rw[if_pos h1,if_neg (by rw[h2];simp)];simp
 ·rw[if_neg (by rw[h1];simp)];simp
def UO(t:Tpl)(from_:Int)(to_:Int)(router:Int):PC Tryz.prog:=⟨141,[(.a [(.s 2),(.s 5)]),.k,.k,.k],[.agg [.sl 2 (t.rs.map Rtr.v) false,.sl 5 (t.ls.map Lnk.v) false],.int from_,.int to_,.int router],zL (ni t from_ to_ router),ao.of_ok λok=>aj (sh:=.k) (enc:=zL) (a:=(zK t from_ to_ router).an) (UN t from_ to_ router ok) (by kernel_rfl) (AV.pureB_ok rfl),ah (by kernel_rfl)⟩
end Go.Proofs.YtdbdndmdbbihbaaGreatDoor
