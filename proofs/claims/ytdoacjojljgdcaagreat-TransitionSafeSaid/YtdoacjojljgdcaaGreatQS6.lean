/- Texts joined: SO FM2 RD4 RD5 RD6 RD7 TC5 TC6 SR1 DT1 P1 DT2 DT3 DT4 PL KM1 KM2. -/
import Derived.Test.YtdoacjojljgdcaaGreatSh
import Derived.Test.YtdoacjojljgdcaaGreatChecked
import Derived.Test.YtdoacjojljgdcaaGreatQS5
set_option linter.unusedVariables false
set_option linter.unusedSimpArgs false
set_option linter.unusedSectionVars false
namespace Go.Proofs.YtdoacjojljgdcaaGreat
open Go Go.Am
open Go.Shelf Go.RowKit Go.Lib Go.Sort in
theorem yr(a b:Int)(x1 y1:Value)(w:World)(hx:x1.oneCell'=true)(hy:y1.oneCell'=true) :
  Calls Tryz.prog 175 #[.agg #[.int .i64 a,x1],.agg #[.int .i64 b,y1]] w λe w'=>e=.returned (.int .i64 (Lib.compareInt a b))∧∃q os',w'=grow (w.drewN q) os':=by
 have hcon:=λW'=>AnyG.cmp_Compare_int Tryz.cmpI a b W'
 change ∀W',Calls Tryz.prog 151 _ _ _ at hcon
 generalize Lib.compareInt a b=r at hcon ⊢
 go_enter Tryz.func175,Tryz.ntmps175
 go_wp2_with (go_at_call 151;refine(hcon _).mono ?_;rintro e w' ⟨rfl,rfl⟩)
 go_ret
 exact⟨rfl,0,_,by rw[alloc_eq_grow,alloc_eq_grow,grow_grow];rfl⟩
def Fb(l:List Stp):Prop:=l.length≤1000000∧l.Pairwise λa b=>a.to≠b.to
def jo(l:List Stp):List Stp:=l.mergeSort λa b=>decide (a.to≤b.to)
theorem jc(l:List Stp):(jo l).Perm l:=List.mergeSort_perm _ _
theorem DZ{l:List Stp}(h:Fb l):(jo l).Pairwise λa b=>a.to<b.to:=by
 have h1:(jo l).Pairwise λa b=>decide (a.to≤b.to)=true:=List.pairwise_mergeSort (λa b c h1 h2=>by simp at *;omega) (λa b=>by simp;omega) l
 have h2:(jo l).Pairwise λa b=>a.to≠b.to:=(List.Perm.pairwise_iff (λh=>Ne.symm h) (jc l)).mpr h.2
 exact(h1.and h2).imp λ⟨h1,h2⟩=>by simp at h1;omega
open Go.Shelf Go.RowKit Go.Lib Go.Sort in
theorem vP(l:List Stp)(h:Fb l):aO Tryz.prog 174 [.vec 0,.func 175 []] [.vec 2 (l.map Stp.v)] (.tup []) [some (.vec 2 ((jo l).map Stp.v))]:=by
 refine vO Tryz.sortW Stp.v Stp.to 2 (by omega) (λ_=>by kernel_rfl) (λ_=>by kernel_rfl) (λx=>⟨_,rfl⟩) 175 (enters_of Tryz.func175 (by kernel_rfl) rfl) ?_ l (jo l) (jc l) (DZ h) h.1
 intro a b xs ys w hx hy ox oy
 match xs,hx with
 | [x1],_ =>
 match ys,hy with
 | [y1],_=>exact yr a b x1 y1 w (ox x1 (by simp)) (oy y1 (by simp))
theorem aA.give3{k n:Nat}{s s':S3}(b:Nat)(hnx:s'.nx=s.nx)(h1:s'.tm=s.tm)
  (h2:∀b' x,s'.hp b'=some x→b'≠b∧(s.hp b'=some x∨∃kk ks es es',s.hp b'=some (.map kk ks es)∧x=.map kk ks es'∧dt b s.hp es es'∧((∀z∈es,z.solid=true)→∀z∈es',z.solid=true))) (hb:s.hp b≠none):aA k n s s':=by
 rintro P c a w ⟨h0,A,μ,H⟩
 have hle:∀k,A k→A k∨∃hd,μ b=some hd∧hd.emp=none∧hd.blk=k:=λ_ h=>.inl h
 have hlive:∃x hd,s.hp b=some x∧μ b=some hd∧(hd.emp=none→¬A hd.blk∧hd.blk<w.heap.size∧(c.own hd.blk∨c.w.heap.size≤hd.blk)):=by
  cases hx:s.hp b with
  | none=>exact absurd hx hb
  | some x=>obtain⟨hd,e1,_,e3⟩:=H.blk b x hx;exact⟨x,hd,rfl,e1,e3⟩
 obtain⟨xb,hdb,hxb,hmb,hpb⟩:=hlive
 have hsub:∀b' x,s'.hp b'=some x→b'≠b∧∃y,s.hp b'=some y:=by
  intro b' x hx
  obtain⟨e1,e2|⟨kk,ks,es,es',e2,_⟩⟩:=h2 b' x hx
  ·exact⟨e1,_,e2⟩
  ·exact⟨e1,_,e2⟩
 refine⟨h0,λk=>A k∨∃hd,μ b=some hd∧hd.emp=none∧hd.blk=k,μ,λt=>?_,H.n,H.df,λb' x hx=>?_,λb1 b2 x x' hd hd' hx hx'=>?_,?_,λb' hb'=>?_,H.keep,λb' hb'=>.inl (H.A0 b' hb'),?_,H.mu⟩
 ·rw[h1];exact(H.tm t).mono (cS.refl A w) hle _ (bE.refl _)
 ·obtain⟨hne,y,hy⟩:=hsub b' x hx
  obtain⟨hd,g1,g2,g3⟩:=H.blk b' y hy
  refine⟨hd,g1,?_,λhe=>⟨?_,(g3 he).2⟩⟩
  ·rcases(h2 b' x hx).2 with e|⟨kk,ks,es,es',e1,e2,e4,e5⟩
   ·rw[hy]at e;cases e
    exact g2.mono (cS.refl A w) hle (bE.refl _) (λ_=>rfl)
   ·rw[hy]at e1;cases e1
    subst e2
    obtain⟨q1,ents,ck,r1,r2,r3,r4⟩:=g2
    exact⟨q1,ents,ck,r1,r2,e4.rvl H r3,e5 r4⟩
  ·rintro(h|⟨hd2,k1,k2,k3⟩)
   ·exact(g3 he).1 h
   ·exact hne (H.inj _ _ _ _ _ _ hy hxb g1 k1 he k2 k3.symm)
 ·obtain⟨_,y,hy⟩:=hsub b1 x hx
  obtain⟨_,y',hy'⟩:=hsub b2 x' hx'
  exact H.inj _ _ _ _ _ _ hy hy'
 ·refine H.lt.mono (cS.refl A w) hle ?_
  rintro k (h|⟨hd,k1,k2,rfl⟩)
  ·exact H.lt k h
  ·rw[hmb]at k1;cases k1;exact(hpb k2).2.1
 ·rw[hnx]at hb'
  obtain⟨q1,q2⟩:=H.fr b' hb'
  refine⟨q1,?_⟩
  cases hx:s'.hp b' with
  | none=>rfl
  | some x=>obtain⟨_,y,hy⟩:=hsub b' x hx;rw[q2]at hy;cases hy
 ·rintro k (h|⟨hd,k1,k2,rfl⟩)
  ·exact H.A1 k h
  ·rw[hmb]at k1;cases k1;exact .inr (hpb k2).2.2
theorem aA.giveM{k n:Nat}{tm:Nat→AV}{hp:Hp}{nx kk:Nat}{kq:Option Nat}{ks:List MK}{vs es:List AV}(b0 i b:Nat)(h0:hp b0=some (.map kq ks vs))(hi:vs[i]?=some (.vec b))(hb:hp b=some (.vec kk es))(hx:aZ es) :
  aA k n ⟨tm,hp,nx⟩ ⟨tm,upd (upd hp b none) b0 (some (.map kq ks (vs.set i (.sl kk es false)))),nx⟩:=by
 have hne:b0≠b:=λe=>by subst e;rw[h0]at hb;cases hb
 refine aA.give3 b rfl rfl (λb' x hx'=>?_) (by show hp b≠none;rw[hb];simp)
 have hx':upd (upd hp b none) b0 (some (.map kq ks (vs.set i (.sl kk es false)))) b'=some x:=hx'
 by_cases e:b'=b0
 ·subst e;rw[ai]at hx';cases hx'
  exact⟨hne,.inr ⟨kq,ks,vs,_,h0,rfl,dt.set hi (bw.vec hb hx),λh z hz=>by
   rcases List.mem_or_eq_of_mem_set hz with hz|rfl
   ·exact h z hz
   ·rfl⟩⟩
 ·rw[aj _ _ e]at hx'
  by_cases e2:b'=b
  ·subst e2;rw[ai]at hx';cases hx'
  ·rw[aj _ _ e2]at hx';exact⟨e2,.inl hx'⟩
theorem aA.giveRows{k n:Nat}{tm:Nat→AV}{nx kk:Nat}{kq:Option Nat}{ks:List MK}{vs:List AV}{hp:Hp}(b0:Nat)(f:Nat→Nat)(es:Nat→List AV)(he:∀i,aZ (es i))(hf:∀i j,f i=f j→i=j)(hf0:∀i,f i≠b0)(h0:hp b0=some (.map kq ks vs)):∀m:Nat,
  (∀i,i<m→vs[i]?=some (.vec (f i))∧hp (f i)=some (.vec kk (es i))) →
  ∃hp' vs',aA k n ⟨tm,hp,nx⟩ ⟨tm,hp',nx⟩∧hp' b0=some (.map kq ks vs')∧vs'.length=vs.length∧(∀i,i<m→vs'[i]?=some (.sl kk (es i) false))∧(∀i,m≤i→vs'[i]?=vs[i]?)∧∀b,b≠b0→(∀i,i<m→b≠f i)→hp' b=hp b
 | 0,_=>⟨hp,vs,aA.refl,h0,rfl,λi h=>absurd h (by omega),λ_ _=>rfl,λ_ _ _=>rfl⟩
 | m+1,h=>by
  obtain⟨hp1,vs1,w,a1,a2,a3,a4,a5⟩:=aA.giveRows b0 f es he hf hf0 h0 m λi hi=>h i (by omega)
  obtain⟨g1,g2⟩:=h m (by omega)
  have hl:m<vs1.length:=by rw[a2];exact(List.getElem?_eq_some_iff.mp g1).1
  refine⟨_,_,w.trans (aA.giveM b0 m (f m) a1 (by rw[a4 m (Nat.le_refl _)];exact g1) (by rw[a5 (f m) (hf0 m) λi hi e=>by have:=hf _ _ e;omega];exact g2) (he m)),ai _ _ _,by rw[List.length_set,a2],λi hi=>?_,λi hi=>?_,λb hb hb'=>?_⟩
  ·rw[List.getElem?_set]
   by_cases e:m=i
   ·subst e;rw[if_pos rfl,if_pos hl]
   ·rw[if_neg e];exact a3 i (by omega)
  ·rw[List.getElem?_set,if_neg (by omega)];exact a4 i (by omega)
  ·rw[aj _ _ hb,aj _ _ (hb' m (by omega))]
   exact a5 b hb λi hi=>hb' i (by omega)
theorem aA.giveBM{k n:Nat}{tm:Nat→AV}{hp:Hp}{nx:Nat}{kq:Option Nat}{ks:List MK}{vs cs:List AV}(b0 i b:Nat)(h0:hp b0=some (.box (.agg cs)))(hi:cs[i]?=some (.mref b))(hb:hp b=some (.map kq ks vs))(hx:aZ vs)(hs':(AV.agg (cs.set i (.mp kq ks vs))).solid=true) :
  aA k n ⟨tm,hp,nx⟩ ⟨tm,upd (upd hp b none) b0 (some (.box (.agg (cs.set i (.mp kq ks vs))))),nx⟩:=by
 have hne:b0≠b:=λe=>by subst e;rw[h0]at hb;cases hb
 refine aA.give b rfl (λu=>.inr bw.refl) (λb' x hx'=>?_) (by show hp b≠none;rw[hb];simp)
 have hx':upd (upd hp b none) b0 (some (.box (.agg (cs.set i (.mp kq ks vs))))) b'=some x:=hx'
 by_cases e:b'=b0
 ·subst e;rw[ai]at hx';cases hx'
  exact⟨hne,.inr ⟨_,_,h0,rfl,hs',bw.agg (dt.set hi (bw.map hb hx))⟩⟩
 ·rw[aj _ _ e]at hx'
  by_cases e2:b'=b
  ·subst e2;rw[ai]at hx';cases hx'
  ·rw[aj _ _ e2]at hx';exact⟨e2,.inl hx'⟩
theorem bq.ownV{P:Program}{fid:FuncId}{n:Nat}{hp:Hp}{es es' args:List AV}{kk b f:Nat}{r:AV}(hs:aO P fid (.vec 0::args) [.vec kk es] r [some (.vec kk es')])(hf:jN P fid)
  (h0:aZ args) (h1:aZ es) (h2:aZ es') (h3:r.pure) (hb:hp b=some (.vec kk es)):bq P n fid (.vec b::args) f hp [b] r (eB [(b,some (.vec kk es'))]):=by
 have key:=bq.hand (n:=n) (f:=f) (hp:=hp) hf hs [b] rfl (by simp) ⟨show(0:Nat)<1 by omega,aW h0⟩ (λi b' x e1 e2=>by
  match i with
  | 0=>simp at e1 e2;subst e1;subst e2;exact⟨aW h1,by rw[hb];simp only[Blk.ren,bc _ h1]⟩
  | i+1=>simp at e1) (by simp) (by simp) (AV.bel_pure h3) (λy hy=>by simp at hy;subst hy;exact aW h2)
 have e0:ba [b] f 0=b:=by simp[ba]
 have e3:cN [b] f [some (Blk.vec kk es')]=eB [(b,some (.vec kk es'))]:=by simp[cN,List.zipIdx,e0,Blk.ren,bc _ h2]
 rw[e3]at key
 simpa only[dH,bc _ h0,AV.ren,AV.ren_pure _ h3,e0]using key
theorem Gn{P:Program}{n:Nat}{tm:Nat→AV}{hp:Hp}{fid:FuncId}{d:Option Nat}{g:AO}{xs:List AO}{os:List aJ}{f:Nat}{K:S2→Nat→Prop}{es es' args:List AV}{r:AV}{kk b:Nat}
  (hs:aO P fid (.vec 0::args) [.vec kk es] r [some (.vec kk es')]) (hf:jN P fid) (h0:aZ args) (h1:aZ es) (h2:aZ es') (h3:r.pure) (hg:evO tm g=.func fid [])
  (hx:xs.map (evO tm)=.vec b::args) (hb:hp b=some (.vec kk es)) (hK:evT P n os (f+16) ⟨aK d r tm,upd hp b (some (.vec kk es'))⟩ K):evT P n (⟨d,.call g xs,none⟩::os) f ⟨tm,hp⟩ K:=
 iM hg (by simpa using hx) (bq.ownV hs hf h0 h1 h2 h3 hb) (by rw[l7];exact hK)
def gm(ls:List Lnk)(x:Int):List Stp:=ls.flatMap λl=>if l.a=x then [⟨l.b,l.ca⟩]else if l.b=x then [⟨l.a,l.cb⟩]else []
def inS(ls:List Lnk)(x:Int):List Stp:=ls.flatMap λl=>if l.b=x then [⟨l.a,l.ca⟩]else if l.a=x then [⟨l.b,l.cb⟩]else []
theorem fV{M:List (List Stp)}{x j:Nat}{s:Stp}{r:List Stp}(h:M[j]?=some r):(apR M x s)[j]?=some (if x=j then r++[s]else r):=by
 unfold apR
 rw[List.getElem?_set]
 by_cases e:x=j
 ·subst e
  rw[if_pos rfl,if_pos (ap h),if_pos rfl,List.getD_eq_getElem?_getD,h];rfl
 ·rw[if_neg e,if_neg e,h]
theorem Bf{t:Tpl}(hnd:(t.rs.map (·.id)).Nodup){i:Nat}{r:Rtr}(h:t.rs[i]?=some r){a:Int}(ha:aG t a=true):ix5 t a=i↔a=r.id:=by
 have h1:(t.rs.map (·.id))[i]?=some r.id:=by rw[List.getElem?_map,h];rfl
 have h2:=qW ha
 constructor
 ·intro e;rw[e,h1]at h2;exact(Option.some.inj h2).symm
 ·intro e;subst e;exact(dC hnd h1 h2).symm
theorem nw{t:Tpl}(hnd:(t.rs.map (·.id)).Nodup):∀(m:Nat) (ls:List Lnk),ls.length=m→(∀l∈ls,(aG t l.a=true∧aG t l.b=true)∧l.a<l.b)→∀i r,t.rs[i]?=some r →
  (ed t ls)[2 * i]?=some (gm ls r.id)∧(ed t ls)[2 * i+1]?=some (inS ls r.id)
 | 0,ls,hm,hl,i,r,h=>by
  obtain rfl:=List.length_eq_zero_iff.mp hm
  have:=ap h
  unfold ed
  rw[List.foldl_nil,List.getElem?_replicate,List.getElem?_replicate,if_pos (by omega),if_pos (by omega)]
  exact⟨rfl,rfl⟩
 | m+1,ls,hm,hl,i,r,h=>by
  obtain⟨ls',l,rfl⟩:∃ls' l,ls=ls'++[l]:=⟨ls.dropLast,ls.getLast (by intro e;subst e;cases hm),(List.dropLast_concat_getLast _).symm⟩
  have hm':ls'.length=m:=by simpa using hm
  obtain⟨g1,g2⟩:=nw hnd m ls' hm' (λx hx=>hl x (by simp[hx])) i r h
  obtain⟨⟨ha,hb⟩,hab⟩:=hl l (by simp)
  have e:ed t (ls'++[l])=qR t (ed t ls') l:=by unfold ed;rw[List.foldl_append];rfl
  have ea:=Bf hnd h ha
  have eb:=Bf hnd h hb
  rw[e]
  unfold qR
  rw[fV (fV (fV (fV g1))),fV (fV (fV (fV g2)))]
  have o1:gm (ls'++[l]) r.id=gm ls' r.id++(if l.a=r.id then [⟨l.b,l.ca⟩]else if l.b=r.id then [⟨l.a,l.cb⟩]else []):=by unfold gm;rw[List.flatMap_append];simp
  have o2:inS (ls'++[l]) r.id=inS ls' r.id++(if l.b=r.id then [⟨l.a,l.ca⟩]else if l.a=r.id then [⟨l.b,l.cb⟩]else []):=by unfold inS;rw[List.flatMap_append];simp
  rw[o1,o2]
  have f1:∀q:Nat,¬(2 * q+1=2 * i):=λq=>by omega
  have f2:∀q:Nat,¬(2 * q=2 * i+1):=λq=>by omega
  have f3:∀q:Nat,(2 * q=2 * i)=(q=i):=λq=>propext ⟨λ_=>by omega,λ_=>by omega⟩
  have f4:∀q:Nat,(2 * q+1=2 * i+1)=(q=i):=λq=>propext ⟨λ_=>by omega,λ_=>by omega⟩
  simp only[f1,f2,f3,f4,ea,eb,if_false]
  by_cases h1:l.a=r.id
  ·have h2:¬l.b=r.id:=by omega
   simp[h1,h2]
  ·by_cases h2:l.b=r.id
   ·simp[h1,h2]
   ·simp[h1,h2]
theorem Au{t:Tpl}(hc:aD t=0)(x:Int):Fb (gm t.ls x):=by
 have hO:=aC hc
 constructor
 ·have:∀ls:List Lnk,(gm ls x).length≤ls.length:=λls=>by
   induction ls with
   | nil=>exact Nat.le_refl _
   | cons l ls ih =>
    have e:gm (l::ls) x=(if l.a=x then [⟨l.b,l.ca⟩]else if l.b=x then [⟨l.a,l.cb⟩]else [])++gm ls x:=rfl
    rw[e,List.length_append]
    have:(if l.a=x then [(⟨l.b,l.ca⟩:Stp)]else if l.b=x then [⟨l.a,l.cb⟩]else []).length≤1:=by split<;>(try split)<;>simp
    simp only[List.length_cons];omega
  have:=this t.ls;have:=hO.nl;omega
 ·unfold gm
  rw[List.pairwise_flatMap]
  refine⟨λl hl=>by split<;>(try split)<;>simp,?_⟩
  have hlt:=hO.lt
  refine List.Pairwise.imp_of_mem (λ{l1 l2} m1 m2 h s1 h1 s2 h2=>?_) hO.ord
  have a1:=hlt l1 m1
  have a2:=hlt l2 m2
  unfold aQ at h
  (repeat' split at h1)<;>(repeat' split at h2)<;>simp at h1 h2<;>subst h1<;>subst h2<;>simp only[ne_eq]<;>omega
def io(st seen:List Nat)(M:List (List Stp)):List (List Stp):=M.mapIdx λj r=>if j % 2=0∧st.getD (j / 2) 0∈seen then jo r else r
theorem eQ(st seen:List Nat)(M:List (List Stp)):(io st seen M).length=M.length:=by simp[io]
theorem Ea(st:List Nat)(M:List (List Stp)):io st [] M=M:=by
 refine List.ext_getElem? λi=>?_
 simp only[io,List.getElem?_mapIdx]
 simp
theorem Eb{st seen:List Nat}{M:List (List Stp)}{i s0:Nat}{r:List Stp}(h:M[2 * i]?=some r)(hs:st[i]?=some s0)(h0:s0 ∉ seen):(io st seen M)[2 * i]?=some r:=by
 have e:st.getD i 0=s0:=by rw[List.getD_eq_getElem?_getD,hs];rfl
 simp only[io,List.getElem?_mapIdx,h,Option.map_some,show 2 * i / 2=i by omega,e]
 rw[if_neg (λh=>h0 h.2)]
theorem CA{st seen:List Nat}{M:List (List Stp)}{i s0:Nat}{r:List Stp}(h:M[2 * i]?=some r)(hs:st[i]?=some s0)(hn:st.Nodup)(hM:M.length=2 * st.length):io st (seen++[s0]) M=(io st seen M).set (2 * i) (jo r):=by
 have hil:=ap hs
 refine List.ext_getElem? λj=>?_
 rw[List.getElem?_set]
 by_cases e:2 * i=j
 ·subst e
  have e:st.getD i 0=s0:=by rw[List.getD_eq_getElem?_getD,hs];rfl
  rw[if_pos rfl,if_pos (by rw[eQ];omega)]
  simp only[io,List.getElem?_mapIdx,h,Option.map_some,show 2 * i / 2=i by omega,e]
  rw[if_pos ⟨by omega,by simp⟩]
 ·rw[if_neg e]
  simp only[io,List.getElem?_mapIdx]
  cases hj:M[j]? with
  | none=>rfl
  | some q =>
   have hjl:=ap hj
   simp only[Option.map_some]
   congr 1
   by_cases h2:j % 2=0
   ·have hk:j / 2<st.length:=by omega
    have hne:st.getD (j / 2) 0≠s0:=λe'=>by
     rw[List.getD_eq_getElem?_getD,List.getElem?_eq_getElem hk]at e'
     have e':st[j / 2]?=some s0:=by rw[List.getElem?_eq_getElem hk];exact congrArg some e'
     have:=dC hn e' hs
     omega
    have e3:(st.getD (j / 2) 0∈seen++[s0])=(st.getD (j / 2) 0∈seen):=propext ⟨λh=>(List.mem_append.mp h).elim id λh=>absurd (List.mem_singleton.mp h) hne,λh=>List.mem_append_left _ h⟩
    simp only[e3]
   ·simp[h2]
def dl(t:Tpl):Lks:=t.rs.map λr=>(r.id,jo (gm t.ls r.id))
def inG(t:Tpl):Lks:=t.rs.map λr=>(r.id,inS t.ls r.id)
theorem Ec{t:Tpl}(hc:aD t=0){st seen:List Nat}(h:∀s∈st,s∈seen)(hs:st.length=t.rs.length){i:Nat}{r:Rtr}(hr:t.rs[i]?=some r) :
  (io st seen (ed t t.ls))[2 * i]?=some (jo (gm t.ls r.id))∧(io st seen (ed t t.ls))[2 * i+1]?=some (inS t.ls r.id):=by
 have hO:=aC hc
 have hnd:(t.rs.map (·.id)).Nodup:=List.Pairwise.map _ (λa b h=>by omega) hO.asc
 obtain⟨g1,g2⟩:=nw hnd _ t.ls rfl (λl hl=>⟨hO.has l hl,hO.lt l hl⟩) i r hr
 have hi:i<st.length:=by rw[hs];exact ap hr
 have e:st.getD i 0∈seen:=by rw[List.getD_eq_getElem?_getD,List.getElem?_eq_getElem hi];exact h _ (List.getElem_mem _)
 simp only[io,List.getElem?_mapIdx,g1,g2,Option.map_some,show 2 * i / 2=i by omega]
 rw[if_pos ⟨by omega,e⟩,if_neg (by omega)]
 exact⟨rfl,rfl⟩
def rdE(t:Tpl):NF:=
 ⟨[(2,.k,.ref 1 0),(3,.k,.ref 2 0)],[.box (Tpl.v t),.box (.agg [.val (.map none),.val (.map none)]),.box (.agg [iH (dl t),iH (inG t)])]⟩
theorem je(r:List Stp):aZ (r.map Stp.v):=aH (ae cF r)
theorem tQ(L:Lks):aZ (L.map λp=>AV.sl 2 (p.2.map Stp.v) false):=aH (ae (v:=λp:Int×List Stp=>AV.sl 2 (p.2.map Stp.v) false) (λ_=>rfl) L)
theorem NT(t:Tpl){k nx:Nat}{tm:Nat→AV}{hp:Hp}(t2:tm 2=.ref 1 0)(t3:tm 3=.ref 2 0)(h0:hp 0=some (.box (Tpl.v t)))(h1:hp 1=some (.box (.agg [.val (.map none),.val (.map none)])))(h2:hp 2=some (.box (.agg [.mref 3,.mref 4])))
  (h3:hp 3=some (.map none (kyN (t.rs.map (·.id))) (evN t.rs.length))) (h4:hp 4=some (.map none (kyN (t.rs.map (·.id))) (odN t.rs.length)))
  (hF:∀i r,t.rs[i]?=some r→hp (Fr (2 * i))=some (.vec 2 ((jo (gm t.ls r.id)).map Stp.v))∧hp (Fr (2 * i+1))=some (.vec 2 ((inS t.ls r.id).map Stp.v))):aA 0 k ⟨tm,hp,nx⟩ (rdE t).st:=by
 have key:∀(f:Rtr→List Stp) (vs':List AV),vs'.length=t.rs.length→(∀i,i<t.rs.length→vs'[i]?=some (.sl 2 (((t.rs[i]?).elim [] f).map Stp.v) false))→vs'=(t.rs.map λr=>(r.id,f r)).map λp=>AV.sl 2 (p.2.map Stp.v) false:=λf vs' e1 e2=>by
  refine List.ext_getElem? λi=>?_
  by_cases hi:i<t.rs.length
  ·rw[e2 i hi,List.getElem?_map,List.getElem?_map,List.getElem?_eq_getElem hi];rfl
  ·rw[List.getElem?_eq_none (by omega),List.getElem?_eq_none (by simp;omega)]
 have ks:∀f:Rtr→List Stp,kyN (t.rs.map (·.id))=(t.rs.map λr=>(r.id,f r)).map λp=>MK.n p.1:=λf=>by unfold kyN;rw[List.map_map,List.map_map];rfl
 obtain⟨hp1,v1,w1,a1,a2,a3,_,a5⟩:=aA.giveRows (k:=0) (n:=k) (tm:=tm) (nx:=nx) (kk:=2) 3 (λi=>Fr (2 * i)) (λi=>((t.rs[i]?).elim [] λr=>jo (gm t.ls r.id)).map Stp.v) (λi=>je _) (λi j h=>by unfold Fr at h;omega) (λi=>by unfold Fr;omega) h3 t.rs.length
  (λi hi=>⟨by rw[evN,List.getElem?_map,List.getElem?_range hi];rfl,by rw[List.getElem?_eq_getElem hi];exact(hF i _ (List.getElem?_eq_getElem hi)).1⟩)
 have b4:hp1 4=some (.map none (kyN (t.rs.map (·.id))) (odN t.rs.length)):=by rw[a5 4 (by decide) (λi _=>by unfold Fr;omega)];exact h4
 obtain⟨hp2,v2,w2,c1,c2,c3,_,c5⟩:=aA.giveRows (k:=0) (n:=k) (tm:=tm) (nx:=nx) (kk:=2) 4 (λi=>Fr (2 * i+1)) (λi=>((t.rs[i]?).elim [] λr=>inS t.ls r.id).map Stp.v) (λi=>je _) (λi j h=>by unfold Fr at h;omega) (λi=>by unfold Fr;omega) b4 t.rs.length
  (λi hi=>⟨by rw[odN,List.getElem?_map,List.getElem?_range hi];rfl,by
   rw[List.getElem?_eq_getElem hi,a5 _ (by unfold Fr;omega) (λj _=>by unfold Fr;omega)]
   exact(hF i _ (List.getElem?_eq_getElem hi)).2⟩)
 have e1:=key (λr=>jo (gm t.ls r.id)) v1 (by rw[a2,kI]) a3
 have e2:=key (λr=>inS t.ls r.id) v2 (by rw[c2,kw]) c3
 have lo:∀b,b<3→hp2 b=hp b:=λb hb=>by
  rw[c5 b (by omega) (λi _=>by unfold Fr;omega),a5 b (by omega) (λi _=>by unfold Fr;omega)]
 have m3:hp2 3=some (.map none (kyN (t.rs.map (·.id))) v1):=by rw[c5 3 (by decide) (λi _=>by unfold Fr;omega)];exact a1
 have z3:hp2 3=some (.map none ((dl t).map λp=>MK.n p.1) ((dl t).map λp=>AV.sl 2 (p.2.map Stp.v) false)):=by rw[m3,e1,ks];rfl
 have z4:hp2 4=some (.map none ((inG t).map λp=>MK.n p.1) ((inG t).map λp=>AV.sl 2 (p.2.map Stp.v) false)):=by rw[c1,e2,ks];rfl
 have hp1:(AV.agg [iH (dl t),iH (inG t)]).pure:=⟨trivial,trivial,trivial⟩
 have hr:=λπ=>AV.ren_pure π hp1
 have hb:=λk=>AV.bel_pure (k:=k) hp1
 have z5:upd (upd hp2 3 none) 2 (some (.box (.agg [iH (dl t),.mref 4]))) 4=some (.map none ((inG t).map λp=>MK.n p.1) ((inG t).map λp=>AV.sl 2 (p.2.map Stp.v) false)):=by
  rw[aj _ _ (by decide),aj _ _ (by decide)];exact z4
 refine w1.trans (w2.trans ((aA.giveBM 2 0 3 (by rw[lo 2 (by decide)];exact h2) rfl z3 (tQ _) rfl).trans ((aA.giveBM 2 1 4 (cs:=[iH (dl t),.mref 4]) (ai _ _ _) rfl z5 (tQ _) rfl).trans ?_)))
 show aA 0 k _ ⟨cL [(2,.ref 1 0),(3,.ref 2 0)],hpL 0 [some (.box (Tpl.v t)),some (.box (.agg [.val (.map none),.val (.map none)])),some (.box (.agg [iH (dl t),iH (inG t)]))],3⟩
 have u:∀{b},b<2→∀x,upd (upd (upd (upd hp2 3 none) 2 (some (Blk.box (AV.agg [iH (dl t),AV.mref 4])))) 4 none) 2 x b=hp b:=λ{b} hb x=>by
  rw[aj _ _ (by omega),aj _ _ (by omega),aj _ _ (by omega),aj _ _ (by omega),lo b (by omega)]
 refine aA.nf [0,1,2] [(2,.ref 1 0),(3,.ref 2 0)] [some (.box (Tpl.v t)),some (.box (.agg [.val (.map none),.val (.map none)])),some (.box (.agg [iH (dl t),iH (inG t)]))] ?_ ?_ ⟨rfl,rfl⟩ (by decide) (by decide) (by decide)
 ·exact⟨⟨t2,show 1<3 by decide⟩,⟨t3,show 2<3 by decide⟩,trivial⟩
 ·refine⟨⟨(u (by decide) _).trans (h0.trans ?_),trivial,trivial,trivial⟩,⟨(u (by decide) _).trans (h1.trans ?_),trivial,trivial,trivial⟩,⟨(ai _ _ _).trans ?_,?_⟩,trivial⟩
  ·rfl
  ·rfl
  ·show _=some (Blk.box (AV.ren _ _));rw[hr];rfl
  ·exact hb _
def E6:AC:=.seq (.reg [⟨(some 100),.faddr 0 (.t 3),none⟩,⟨(some 101),.load false 1 (.t 100),none⟩,⟨(some 102),.rng (.t 101),none⟩])
 (.block 4 (.loop (.seq (.reg [⟨(some 103),.nxt (.t 102),none⟩,⟨(some 104),.ext 0 (.t 103),none⟩])
 (.seq (.cond (.t 104) (.skip) (.exit 4))
 (.block 5 (.seq (.reg [⟨(some 105),.ent (.t 102),none⟩,⟨(some 106),.ext 0 (.t 105),none⟩,⟨(some 8),.move (.t 106),none⟩])
 (.reg [⟨(some 107),.faddr 0 (.t 3),none⟩,⟨(some 108),.load false 1 (.t 107),none⟩,⟨(some 109),.move (.t 8),none⟩,⟨(some 110),.mget none ((.sl 0 [] true)) false (.t 108) (.t 109),none⟩,⟨(some 111),.call (.c (.func 174 [])) [(.t 110),(.c (.func 175 []))],none⟩])))))))
def rdQ(t:Tpl)(ids:List Int)(a b:List AV)(st:List Nat)(ck:Nat)(seen:List Nat):List (Option Blk):=
 [some (.box (Tpl.v t)),some (.box (.agg [.val (.map none),.val (.map none)])),some (.box (.agg [.mref 3,.mref 4])),some (.mst none (kyN ids) a st ck),some (.map none (kyN ids) b),some (.itr 3 st ck seen)]
def rdR(t:Tpl)(M:List (List Stp))(st:List Nat)(ck:Nat)(seen:List Nat):S3:=
 ⟨cL [(2,.ref 1 0),(3,.ref 2 0),(102,.ref 5 0)],GS M (hpL 0 (rdQ t (t.rs.map (·.id)) (evN t.rs.length) (odN t.rs.length) st ck seen)),2000⟩
theorem MO{t:Tpl}{ids:List Int}{n:Nat}{hp:Hp}{bs fs:Nat→Nat}{a b:List AV}{st seen:List Nat}{ck:Nat}(hbs:bs 0=0∧bs 1=1∧bs 2=2∧bs 3=3∧bs 4=4)(hn:n≤400)(h0:hp 0=some (.box (Tpl.v t)))(h1:hp 1=some (.box (.agg [.val (.map none),.val (.map none)])))(h2:hp 2=some (.box (.agg [.mref 3,.mref 4])))
  (h3:hp 3=some (.mst none (kyN ids) a st ck)) (h4:hp 4=some (.map none (kyN ids) b)) (h5:hp (bs 5)=some (.itr 3 st ck seen)) (ha:a=(List.range n).map λi=>.vec (fs (2 * i))) (hb:b=(List.range n).map λi=>.vec (fs (2 * i+1))) :
  ∀i x,(rdQ t ids (evN n) (odN n) st ck seen)[i]?=some (some x)→hp (bs i)=some (x.ren (fm bs fs))∧x.bel 2000:=by
 obtain⟨b0,b1,b2,b3,b4⟩:=hbs
 have e3:fm bs fs 3=3:=by rw[eN (by omega),b3]
 have e4:fm bs fs 4=4:=by rw[eN (by omega),b4]
 intro i x h
 rcases i with _|_|_|_|_|_|i
 ·cases h;exact⟨by rw[b0];exact h0,⟨trivial,trivial,trivial⟩⟩
 ·cases h;exact⟨by rw[b1];exact h1,⟨trivial,trivial,trivial⟩⟩
 ·cases h;exact⟨by rw[b2,h2];show _=some (Blk.box (.agg [.mref (fm bs fs 3),.mref (fm bs fs 4)]));rw[e3,e4],⟨show 3<2000 by omega,show 4<2000 by omega,trivial⟩⟩
 ·cases h;exact⟨by show hp (bs 3)=_;rw[b3,h3,Blk.ren,rD hn,ha],rF hn⟩
 ·cases h;exact⟨by show hp (bs 4)=_;rw[b4,h4,Blk.ren,qy hn,hb],qz hn⟩
 ·cases h;exact⟨by show hp (bs 5)=some (.itr (fm bs fs 3) st ck seen);rw[e3];exact h5,show 3<2000 by omega⟩
 ·simp[rdQ]at h
theorem rd_h3(t:Tpl)(hc:aD t=0)(k:Nat):dL Tryz.prog 0 k E6 (rdS t (ed t t.ls)) (rdE t).st:=by
 unfold dL E6 rdS
 have hO:=aC hc
 have hR:=hO.nr
 have hml:=bv
 have hM:=dz t t.ls
 have hnd:(t.rs.map (·.id)).Nodup:=List.Pairwise.map _ (λa b h=>by omega) hO.asc
 have hkO:∀q∈kyN (t.rs.map (·.id)),kOk q:=λq hq=>by
  obtain⟨x,hx,rfl⟩:=List.mem_map.mp hq
  obtain⟨r,hr,rfl⟩:=List.mem_map.mp hx
  have:=hO.rg r hr
  show inK .i64 r.id
  rw[FP];omega
 have hG0:∀b,b<1000→GS (ed t t.ls) (hpL 0 (rdH t (t.rs.map (·.id)) (evN t.rs.length) (odN t.rs.length))) b=hpL 0 (rdH t (t.rs.map (·.id)) (evN t.rs.length) (odN t.rs.length)) b:=λb hb=>lZ hb
 refine AWP.open 3 (hG0 3 (by decide)) λst ck hs1 hs2 hn hv=>?_
 rw[kyN,List.length_map,List.length_map]at hs2
 have g2:GS (ed t t.ls) (hpL 0 (rdH t (t.rs.map (·.id)) (evN t.rs.length) (odN t.rs.length))) 2=some (.box (.agg [.mref 3,.mref 4])):=hG0 2 (by decide)
 refine AWP.seq' ?_
 refine AWP.reg' λK hK=>?_
 try simp only[ak,ao,am,eq_self,implies_true,forall_eq_or_imp,forall_eq,Nat.reduceEqDiff,↓reduceIte,Nat.reduceAdd,Nat.reduceLeDiff,Nat.reduceSub,Nat.reduceMul,Nat.reduceLT,Int.reduceBEq,Int.reduceBNe,Int.reduceToNat,Int.reduceLT,Int.reduceLE,Int.reduceAdd,Int.reduceSub,Int.reduceMul,reduceCtorEq,g2]
 refine rz rfl (ai _ _ _) ?_
 try simp only[ak,ao,am,eq_self,implies_true,forall_eq_or_imp,forall_eq,Nat.reduceEqDiff,↓reduceIte,Nat.reduceAdd,Nat.reduceLeDiff,Nat.reduceSub,Nat.reduceMul,Nat.reduceLT,Int.reduceBEq,Int.reduceBNe,Int.reduceToNat,Int.reduceLT,Int.reduceLE,Int.reduceAdd,Int.reduceSub,Int.reduceMul,reduceCtorEq]
 refine hK _ _ _ ?_
 clear hK K
 refine AWP.block ?_
 refine AWP.loopS (λseen:List Nat=>rdR t (io st seen (ed t t.ls)) st ck seen) (λseen=>seen.Nodup∧∀s∈seen,s∈st) (λseen=>st.length-seen.length) (i0:=[]) ⟨by simp,by simp⟩ ?_ ?_
 ·rw[Ea]
  refine aA.nfR cF _ _ _ (λb=>if b=5 then 2032 else b) Fr ?_ (MO ⟨rfl,rfl,rfl,rfl,rfl⟩ (by omega) ?_ ?_ ?_ ?_ ?_ ?_ rfl rfl) (by simp[rdQ]) (by omega) ?_ ?_ (λi j _ _ h=>by unfold Fr at h;omega) ?_ (λb hb=>by omega) (by decide)
  ·simp only[List.forall_mem_cons,List.not_mem_nil,false_implies,implies_true,and_true]
   exact⟨⟨rfl,show 1<2000 by omega⟩,⟨rfl,show 2<2000 by omega⟩,rfl,show 5<2000 by omega⟩
  ·rw[aj _ _ (by decide),aj _ _ (by decide)];exact hG0 0 (by decide)
  ·rw[aj _ _ (by decide),aj _ _ (by decide)];exact hG0 1 (by decide)
  ·rw[aj _ _ (by decide),aj _ _ (by decide)];exact hG0 2 (by decide)
  ·rw[aj _ _ (by decide),ai];rfl
  ·rw[aj _ _ (by decide),aj _ _ (by decide)];exact hG0 4 (by decide)
  ·rfl
  ·intro j r hr
   have hj:=ap hr
   rw[aj _ _ (by unfold Fr;omega),aj _ _ (by unfold Fr;omega)]
   exact ic hr (by omega)
  ·intro a b ha hb he
   simp only[rdQ,List.length_cons,List.length_nil]at ha hb
   (repeat' split at he)<;>omega
  ·intro a b ha hb he
   simp only[rdQ,List.length_cons,List.length_nil]at ha
   unfold Fr at he
   (repeat' split at he)<;>omega
 ·rintro seen ⟨hnd',hsub⟩
  unfold rdR
  have hS0:∀b,b<1000→GS (io st seen (ed t t.ls)) (hpL 0 (rdQ t (t.rs.map (·.id)) (evN t.rs.length) (odN t.rs.length) st ck seen)) b=hpL 0 (rdQ t (t.rs.map (·.id)) (evN t.rs.length) (odN t.rs.length) st ck seen) b:=λb hb=>lZ hb
  refine AWP.seq' ?_
  refine AWP.reg' λK hK=>?_
  try simp only[ak,ao,am,eq_self,implies_true,forall_eq_or_imp,forall_eq,Nat.reduceEqDiff,↓reduceIte,Nat.reduceAdd,Nat.reduceLeDiff,Nat.reduceSub,Nat.reduceMul,Nat.reduceLT,Int.reduceBEq,Int.reduceBNe,Int.reduceToNat,Int.reduceLT,Int.reduceLE,Int.reduceAdd,Int.reduceSub,Int.reduceMul,reduceCtorEq]
  refine rA rfl (hS0 5 (by decide)) (hS0 3 (by decide)) hkO (λhs=>?_) (λi q v s0 e1 e2 e3 e4=>?_)
  ·try simp only[ak,ao,am,eq_self,implies_true,forall_eq_or_imp,forall_eq,Nat.reduceEqDiff,↓reduceIte,Nat.reduceAdd,Nat.reduceLeDiff,Nat.reduceSub,Nat.reduceMul,Nat.reduceLT,Int.reduceBEq,Int.reduceBNe,Int.reduceToNat,Int.reduceLT,Int.reduceLE,Int.reduceAdd,Int.reduceSub,Int.reduceMul,reduceCtorEq]
   refine hK _ _ _ ?_
   clear hK K
   refine AWP.seq' (AWP.cond (b:=false) rfl (λh=>by cases h) (λ_=>AWP.exit ?_))
   refine(show aA 0 k _ _ from ?_)
   refine aA.trans (aA.close 3 (hS0 3 (by decide))) (NT t rfl rfl ?_ ?_ ?_ ?_ ?_ ?_)
   ·rw[aj _ _ (by decide)];exact hS0 0 (by decide)
   ·rw[aj _ _ (by decide)];exact hS0 1 (by decide)
   ·rw[aj _ _ (by decide)];exact hS0 2 (by decide)
   ·rw[ai]
   ·rw[aj _ _ (by decide)];exact hS0 4 (by decide)
   ·intro i r hr
    obtain⟨q1,q2⟩:=Ec hc hs hs2 hr
    rw[aj _ _ (by unfold Fr;omega),aj _ _ (by unfold Fr;omega)]
    exact⟨ic q1 (by rw[eQ];omega),ic q2 (by rw[eQ];omega)⟩
  ·have hi:i<t.rs.length:=by have:=ap e3;omega
   have hr:t.rs[i]?=some t.rs[i]:=List.getElem?_eq_getElem hi
   generalize t.rs[i]=r at hr
   have e1':(kyN (t.rs.map (·.id)))[i]?=some (MK.n r.id):=by rw[kyN,List.getElem?_map,List.getElem?_map,hr];rfl
   rw[e1']at e1;cases e1
   have e2':(evN t.rs.length)[i]?=some (.vec (Fr (2 * i))):=by rw[evN,List.getElem?_map,List.getElem?_range hi];rfl
   rw[e2']at e2;cases e2
   try simp only[ak,ao,am,eq_self,implies_true,forall_eq_or_imp,forall_eq,Nat.reduceEqDiff,↓reduceIte,Nat.reduceAdd,Nat.reduceLeDiff,Nat.reduceSub,Nat.reduceMul,Nat.reduceLT,Int.reduceBEq,Int.reduceBNe,Int.reduceToNat,Int.reduceLT,Int.reduceLE,Int.reduceAdd,Int.reduceSub,Int.reduceMul,reduceCtorEq]
   refine hK _ _ _ ?_
   clear hK K
   refine AWP.seq' (AWP.cond (b:=true) rfl (λ_=>?_) (λh=>by cases h))
   refine AWP.skip ?_
   refine AWP.block (AWP.seq' ?_)
   refine AWP.reg' λK hK=>?_
   try simp only[ak,ao,am,eq_self,implies_true,forall_eq_or_imp,forall_eq,Nat.reduceEqDiff,↓reduceIte,Nat.reduceAdd,Nat.reduceLeDiff,Nat.reduceSub,Nat.reduceMul,Nat.reduceLT,Int.reduceBEq,Int.reduceBNe,Int.reduceToNat,Int.reduceLT,Int.reduceLE,Int.reduceAdd,Int.reduceSub,Int.reduceMul,reduceCtorEq]
   refine rC (m:=3) rfl (ai _ _ _) ((aj _ _ (by decide)).trans ((aj _ _ (by decide)).trans (hS0 3 (by decide)))) e3 e1' e2' (hkO _ (List.mem_of_getElem? e1')) ?_
   try simp only[ak,ao,am,eq_self,implies_true,forall_eq_or_imp,forall_eq,Nat.reduceEqDiff,↓reduceIte,Nat.reduceAdd,Nat.reduceLeDiff,Nat.reduceSub,Nat.reduceMul,Nat.reduceLT,Int.reduceBEq,Int.reduceBNe,Int.reduceToNat,Int.reduceLT,Int.reduceLE,Int.reduceAdd,Int.reduceSub,Int.reduceMul,reduceCtorEq,kAV]
   refine hK _ _ _ ?_
   clear hK K
   refine(show AWP _ _ _ _ _ _ from ?_)
   obtain⟨hk1,hk2⟩:=kC hnd (show(t.rs.map (·.id))[i]?=some r.id by rw[List.getElem?_map,hr];rfl)
   have hmg:cZ (kyN (t.rs.map (·.id))) (evN t.rs.length) (MK.n r.id) (.sl 0 [] true) false=.vec (Fr (2 * i)):=by
    unfold cZ;rw[if_pos hk1,hk2,rE hi];rfl
   obtain⟨q1,q2⟩:=nw hnd _ t.ls rfl (λl hl=>⟨hO.has l hl,hO.lt l hl⟩) i r hr
   have q3:=Eb (seen:=seen) q1 e3 e4
   have gF:GS (io st seen (ed t t.ls)) (hpL 0 (rdQ t (t.rs.map (·.id)) (evN t.rs.length) (odN t.rs.length) st ck seen)) (Fr (2 * i))=some (.vec 2 ((gm t.ls r.id).map Stp.v)):=ic q3 (by rw[eQ];omega)
   have g2':GS (io st seen (ed t t.ls)) (hpL 0 (rdQ t (t.rs.map (·.id)) (evN t.rs.length) (odN t.rs.length) st ck seen)) 2=some (.box (.agg [.mref 3,.mref 4])):=hS0 2 (by decide)
   have g3':GS (io st seen (ed t t.ls)) (hpL 0 (rdQ t (t.rs.map (·.id)) (evN t.rs.length) (odN t.rs.length) st ck seen)) 3=some (.mst none (kyN (t.rs.map (·.id))) (evN t.rs.length) st ck):=hS0 3 (by decide)
   refine AWP.reg' λK hK=>?_
   try simp only[ak,ao,am,eq_self,implies_true,forall_eq_or_imp,forall_eq,Nat.reduceEqDiff,↓reduceIte,Nat.reduceAdd,Nat.reduceLeDiff,Nat.reduceSub,Nat.reduceMul,Nat.reduceLT,Int.reduceBEq,Int.reduceBNe,Int.reduceToNat,Int.reduceLT,Int.reduceLE,Int.reduceAdd,Int.reduceSub,Int.reduceMul,reduceCtorEq,g2',g3',bx,dI,AV.key,hmg]
   refine⟨trivial,Gn (vP _ (Au hc r.id)) ⟨_,Tryz.func174,by kernel_rfl,by kernel_rfl⟩ ⟨trivial,trivial⟩ (je _) (je _) trivial rfl rfl ((aj _ _ (by unfold Fr;omega)).trans ((aj _ _ (by unfold Fr;omega)).trans gF)) ?_⟩
   try simp only[ak,ao,am,eq_self,implies_true,forall_eq_or_imp,forall_eq,Nat.reduceEqDiff,↓reduceIte,Nat.reduceAdd,Nat.reduceLeDiff,Nat.reduceSub,Nat.reduceMul,Nat.reduceLT,Int.reduceBEq,Int.reduceBNe,Int.reduceToNat,Int.reduceLT,Int.reduceLE,Int.reduceAdd,Int.reduceSub,Int.reduceMul,reduceCtorEq]
   refine hK _ _ _ ?_
   clear hK K
   have hN:(seen++[s0]).Nodup:=List.nodup_append.mpr ⟨hnd',by simp,λa ha b hb=>by rw[List.mem_singleton.mp hb];rintro rfl;exact e4 ha⟩
   have hS:∀s∈seen++[s0],s∈st:=λs hs=>by
    rcases List.mem_append.mp hs with hs|hs
    ·exact hsub s hs
    ·rw[List.mem_singleton.mp hs];exact List.mem_of_getElem? e3
   have hL:st.length-(seen++[s0]).length<st.length-seen.length:=by
    have:=List.Nodup.length_le_of_subset hN hS
    rw[List.length_append,List.length_singleton]at this ⊢;omega
   refine⟨seen++[s0],⟨hN,hS⟩,hL,?_⟩
   rw[CA q1 e3 hs1 (by rw[hM,hs2])]
   have h5:∀i:Nat,¬5=Fr i:=λi=>by unfold Fr;omega
   refine aA.nfR cF _ _ _ (λb=>b) Fr ?_ (MO ⟨rfl,rfl,rfl,rfl,rfl⟩ (by omega) ?_ ?_ ?_ ?_ ?_ ?_ rfl rfl) (by simp[rdQ]) (by rw[List.length_set,eQ];omega) ?_ (λi j _ _ h=>h) (λi j _ _ h=>by unfold Fr at h;omega) (λi j h1 h2 h=>by simp[rdQ]at h1;unfold Fr at h;omega) (λb _=>rfl) (by decide)
   ·simp only[List.forall_mem_cons,List.not_mem_nil,false_implies,implies_true,and_true]
    exact⟨⟨rfl,show 1<2000 by omega⟩,⟨rfl,show 2<2000 by omega⟩,rfl,show 5<2000 by omega⟩
   ·rw[aj _ _ (by unfold Fr;omega),aj _ _ (by decide),aj _ _ (by decide)];exact hS0 0 (by decide)
   ·rw[aj _ _ (by unfold Fr;omega),aj _ _ (by decide),aj _ _ (by decide)];exact hS0 1 (by decide)
   ·rw[aj _ _ (by unfold Fr;omega),aj _ _ (by decide),aj _ _ (by decide)];exact hS0 2 (by decide)
   ·rw[aj _ _ (by unfold Fr;omega),aj _ _ (by decide),aj _ _ (by decide)];exact hS0 3 (by decide)
   ·rw[aj _ _ (by unfold Fr;omega),aj _ _ (by decide),aj _ _ (by decide)];exact hS0 4 (by decide)
   ·rw[aj _ _ (h5 _),ai]
   ·intro j q hj
    have hjl:=ap hj
    rw[List.length_set,eQ]at hjl
    rw[List.getElem?_set]at hj
    by_cases e:2 * i=j
    ·subst e
     rw[if_pos rfl,if_pos (by rw[eQ];omega)]at hj
     cases hj
     rw[ai]
    ·rw[if_neg e]at hj
     rw[aj _ _ (by unfold Fr;omega),aj _ _ (by unfold Fr;omega),aj _ _ (by unfold Fr;omega)]
     exact ic hj (by rw[eQ];omega)
structure Grh where
  out:Lks
  inn:Lks
def Grh.v(x:Grh):AV:=.agg [iH x.out,iH x.inn]
def me(t:Tpl):Grh:=⟨dl t,inG t⟩
def Pp(t:Tpl)(hc:aD t=0):=okL [.agg [.sl 2 (t.rs.map Rtr.v) false,.sl 5 (t.ls.map Lnk.v) false]]
def xI(r:Grh):AV:=Grh.v r
def xH(t:Tpl)(hc:aD t=0):Ax Tryz.prog noS (Grh):=
 (.pass (.pass (.hand 0 [] (rd_m t) [0,16,80,32,48] (rdS t (List.replicate (2 * (t).rs.length) [])) E8 (rd_h1 t hc)
(.hand2 0 (rdS t (List.replicate (2 * (t).rs.length) [])) (rdS t (ed t (t).ls)) E7 (rd_h2 t hc)
(.hand2 0 (rdS t (ed t (t).ls)) ((rdE t).st) E6 (rd_h3 t hc)
(.ret (me t)))))))
def By(t:Tpl)(hc:aD t=0)(r0:Grh):=(xH t hc).vp xI r0
theorem Pn(t:Tpl)(hc:aD t=0)(ok:Pp t hc):By t hc (me t):=by
 dsimp only[By,xH,noS,Ax.vp,Ax.vc];simp only[vcU,rfU,List.length_map]
def Po(t:Tpl)(hc:aD t=0):PC Tryz.prog:=⟨157,[(.a [(.s 2),(.s 5)])],[.agg [.sl 2 (t.rs.map Rtr.v) false,.sl 5 (t.ls.map Lnk.v) false]],xI (me t),ax.of_ok λok=>aw (sh:=.k) (enc:=xI) (a:=(xH t hc).an) (Pn t hc ok) (by kernel_rfl) (AV.pureB_ok rfl),aq (by kernel_rfl)⟩
theorem f8{l:List Lnk}(h:l.Pairwise aQ){i j:Nat}(hij:i<j){x y:Lnk}(hx:l[i]?=some x)(hy:l[j]?=some y):aQ x y:=by
 have hi:=ap hx
 have hj:=ap hy
 rw[List.getElem?_eq_getElem hi]at hx
 rw[List.getElem?_eq_getElem hj]at hy
 have:=List.pairwise_iff_getElem.mp h i j hi hj hij
 rw[Option.some.inj hx,Option.some.inj hy]at this
 exact this
theorem FW{l:List Lnk}(h:l.Pairwise aQ)(k:Lnk):(cp l k=l.any (gC k))∧∀x∈l,gC k x=true→l[aN l k]?=some x:=by
 refine Ce (λa b x y hab hx hy e=>?_) (λx e=>?_) λa b x y hab hx hy e=>?_
 ·have:=f8 h hab hx hy
  simp[lv]at e ⊢;unfold aQ at *;omega
 ·simp[gC]at e;simp[lv];unfold aQ;omega
 ·have:=f8 h hab hx hy
  simp[gC]at e;simp[lv];unfold aQ at *;omega
def o8(f g:Int):Lnk:=⟨eo f g,dP f g,0,0,0⟩
theorem Al{t:Tpl}(hc:aD t=0)(f g:Int):cp t.ls (o8 f g)=(be t f g).2∧∀x,cp t.ls (o8 f g)=true→t.ls[aN t.ls (o8 f g)]?=some x→(be t f g)=(if f<g then x.ca else x.cb,true):=by
 have hO:=aC hc
 obtain⟨k1,k2⟩:=FW hO.ord (o8 f g)
 have key:∀x∈t.ls,fX f g x=gC (o8 f g) x:=λx hx=>by
  have:=hO.lt x hx
  unfold fX gC o8
  rw[Bool.eq_iff_iff,decide_eq_true_iff]
  simp only[Bool.or_eq_true,Bool.and_eq_true,beq_iff_eq]
  unfold eo dP
  constructor
  ·intro h;(repeat' split)<;>omega
  ·intro h;(repeat' split at h)<;>omega
 have hany:t.ls.any (gC (o8 f g))=(t.ls.find? (fX f g)).isSome:=by
  rw[Bool.eq_iff_iff,List.any_eq_true,List.find?_isSome]
  exact⟨λ⟨x,hx,e⟩=>⟨x,hx,by rw[key x hx];exact e⟩,λ⟨x,hx,e⟩=>⟨x,hx,by rw[←key x hx];exact e⟩⟩
 refine⟨?_,λx hh hx=>?_⟩
 ·rw[k1,hany];unfold be
  cases q:t.ls.find? (fX f g)with
  | none=>rfl
  | some y=>rfl
 ·rw[k1,hany]at hh
  unfold be
  cases q:t.ls.find? (fX f g)with
  | none=>rw[q]at hh;cases hh
  | some y =>
   have hy:=List.mem_of_find?_eq_some q
   have e:=List.find?_some q
   have e':=e
   rw[key y hy]at e'
   have:=k2 y hy e'
   rw[hx]at this;cases this
   have hlt:=hO.lt x hy
   simp only
   unfold fX at e
   simp only[Bool.or_eq_true,Bool.and_eq_true,beq_iff_eq]at e
   congr 1
   by_cases c:x.a=f∧x.b=g
   ·rw[if_pos (by simp[c]),if_pos (by omega)]
   ·rw[if_neg (by simpa using c),if_neg (by omega)]
def PY(t:Tpl)(from_:Int)(to_:Int):=okL [.agg [.sl 2 (t.rs.map Rtr.v) false,.sl 5 (t.ls.map Lnk.v) false],.int from_,.int to_]
def yn(r:Int×Bool):AV:=.tup [.int r.1,.bool r.2]
def ym(t:Tpl)(from_:Int)(to_:Int):Ax Tryz.prog noS (Int×Bool):=
 (.callP (v8 t)
(.br 96 (!(iu t)) (.ret (0,false))
(.req 240 (t.ls.length≤1000000) λh1 =>
(.callP (Na t.ls (⟨eo from_ to_,dP from_ to_,0,0,0⟩:Lnk) h1)
(.br 384 (!(cp t.ls (⟨eo from_ to_,dP from_ to_,0,0,0⟩:Lnk))) (.ret (0,false))
(.br 448 (decide (from_<to_)) (.elI 496 Lnk.v t.ls (aN t.ls (⟨eo from_ to_,dP from_ to_,0,0,0⟩:Lnk):Int) λx2 =>
(.ret (x2.ca,true)))
(.elI 496 Lnk.v t.ls (aN t.ls (⟨eo from_ to_,dP from_ to_,0,0,0⟩:Lnk):Int) λx3 =>
(.ret (x3.cb,true)))))))))
def BN(t:Tpl)(from_:Int)(to_:Int)(r0:Int×Bool):=(ym t from_ to_).vp yn r0
theorem PX(t:Tpl)(f g:Int)(ok:PY t f g):BN t f g (bz t f g):=by
 dsimp only[BN,ym,noS,Ax.vp,Ax.vc];simp only[vcU,rfU,List.length_map]
 unfold bz iu
 by_cases hc:aD t=0
 ·have hl:=(aC hc).nl
  obtain⟨p1,p2⟩:=Al hc f g
  change cp t.ls ⟨eo f g,dP f g,0,0,0⟩=_ at p1
  change ∀x,cp t.ls ⟨eo f g,dP f g,0,0,0⟩=true→t.ls[aN t.ls ⟨eo f g,dP f g,0,0,0⟩]?=some x→_ at p2
  generalize (⟨eo f g,dP f g,0,0,0⟩:Lnk)=kk at p1 p2 ⊢
  rw[hc]
  refine⟨λh=>by simp at h,λ_=>⟨by omega,λh=>?_,λh=>?_⟩⟩
  ·have h:cp t.ls kk=false:=by simpa using h
   rw[if_neg (by simp)]
   rw[h]at p1
   unfold be at p1 ⊢
   cases q:t.ls.find? (fX f g)with
   | none=>rfl
   | some y=>rw[q]at p1;cases p1
  ·have h:cp t.ls kk=true:=by simpa using h
   have hp:aN t.ls kk<t.ls.length:=by
    refine Classical.byContradiction λq=>?_
    unfold cp bsH at h
    rw[List.getElem?_eq_none (by unfold aN at q;omega)]at h;cases h
   rw[if_neg (by simp)]
   refine⟨λc=>⟨by omega,by omega,λx hx=>?_⟩,λc=>⟨by omega,by omega,λx hx=>?_⟩⟩
   ·rw[p2 x h (by rw[Int.toNat_natCast]at hx;exact hx),if_pos c]
   ·rw[p2 x h (by rw[Int.toNat_natCast]at hx;exact hx),if_neg c]
 ·rw[if_pos hc]
  refine⟨λ_=>rfl,λh=>?_⟩
  simp[hc]at h
def oe(t:Tpl)(from_:Int)(to_:Int):PC Tryz.prog:=⟨92,[(.a [(.s 2),(.s 5)]),.k,.k],[.agg [.sl 2 (t.rs.map Rtr.v) false,.sl 5 (t.ls.map Lnk.v) false],.int from_,.int to_],yn (bz t from_ to_),ax.of_ok λok=>aw (sh:=.k) (enc:=yn) (a:=(ym t from_ to_).an) (PX t from_ to_ ok) (by kernel_rfl) (AV.pureB_ok rfl),aq (by kernel_rfl)⟩
theorem o7{α:Type}{l:List α}{k:Nat}{x:α}(hx:l[k]?=some x){P:α→Prop}:(∀y∈l.take (k+1),P y)↔(∀y∈l.take k,P y)∧P x:=by
 rw[aU hx]
 constructor
 ·intro h;exact⟨λy hy=>h y (List.mem_append_left _ hy),h x (by simp)⟩
 ·rintro⟨h1,h2⟩ y hy
  rcases List.mem_append.mp hy with hy|hy
  ·exact h1 y hy
  ·rw[List.mem_singleton.mp hy];exact h2
def ir{α:Type}(l:List α)(p:α→Bool)(t:Int)(a:List α):Prop:=∃k:Nat,t=k∧k≤l.length∧a=(l.take k).filter p
section
variable {α : Type} {l a : List α} {p : α → Bool} {t : Int} {x : α}
theorem ir.zero:ir l p 0 []:=⟨0,rfl,by omega,by simp⟩
theorem ir.idx(h:ir l p t a):0≤t:=by obtain⟨k,rfl,_,_⟩:=h;omega
theorem ir.len(h:ir l p t a):a.length≤l.length:=by
 obtain⟨k,rfl,_,rfl⟩:=h
 exact Nat.le_trans (List.length_filter_le _ _) (by rw[List.length_take];omega)
theorem ir.keep(h:ir l p t a)(hl:l.length≤9223372036854775807)(hx:l[t.toNat]?=some x)(e:p x=true):ir l p (W (t+1)) (a++[x])∧l.length-(W (t+1)).toNat<l.length-t.toNat:=by
 obtain⟨k,rfl,hk,rfl⟩:=h
 rw[Int.toNat_natCast]at hx
 have hlt:=ap hx
 rw[bM (n:=l.length) hlt hl]
 exact⟨⟨k+1,rfl,by omega,by rw[aU hx,List.filter_append];simp[e]⟩,by omega⟩
theorem ir.drop(h:ir l p t a)(hl:l.length≤9223372036854775807)(hx:l[t.toNat]?=some x)(e:p x=false):ir l p (W (t+1)) a∧l.length-(W (t+1)).toNat<l.length-t.toNat:=by
 obtain⟨k,rfl,hk,rfl⟩:=h
 rw[Int.toNat_natCast]at hx
 have hlt:=ap hx
 rw[bM (n:=l.length) hlt hl]
 exact⟨⟨k+1,rfl,by omega,by rw[aU hx,List.filter_append];simp[e]⟩,by omega⟩
theorem ir.done(h:ir l p t a)(c:¬t<l.length):a=l.filter p:=by
 obtain⟨k,rfl,hk,rfl⟩:=h
 rw[List.take_of_length_le (by omega)]
end
def gS(l:List Int)(v:Int):Int:=match l.findIdx? λx=>decide (v=x)with
 | some i=>i
 | none=>-1
theorem tZ{l:List Int}{r:Int}{i:Nat}(hx:l[i]?=some r)(hb:∀y∈l.take i,r≠y):gS l r=i:=by
 obtain⟨hi,hxi⟩:=List.getElem?_eq_some_iff.mp hx
 have:l.findIdx? (λp=>decide (r=p))=some i:=by
  rw[List.findIdx?_eq_some_iff_getElem]
  refine⟨hi,by rw[hxi];simp,λj hj=>?_⟩
  have:=hb l[j] (List.mem_of_getElem? (i:=j) (by rw[List.getElem?_take,if_pos hj,List.getElem?_eq_getElem (by omega)]))
  simpa using this
 unfold gS;rw[this]
theorem ub{l:List Int}{r:Int}(hb:∀y∈l,r≠y):gS l r=-1:=by
 have:l.findIdx? (λp=>decide (r=p))=none:=by
  rw[List.findIdx?_eq_none_iff]
  intro x hx;simpa using hb x hx
 unfold gS;rw[this]
def uc(s:List Int)(v:Int):=okL [.sl 1 (s.map AV.int) false,.int v]
def CW(s:List Int)(v:Int)(t0:Int):NF:=⟨[(0,.k,.sl 1 (s.map AV.int) false),(1,.k,.int v),(7,.k,.int ((s.map AV.int).length:Int)),(8,.k,.int t0)],[]⟩
@[reducible] def ua:Nat→Type
 | 0=>Int
 | _=>Unit
def nC(r:Int):AV:=.int r
def nB(s:List Int)(v:Int)(I0:Int→Prop)(m0:Int→Nat):Ax Tryz.prog ua (Int):=
 (.loop 0 (CW s v) I0 m0 ((0):Int) [] λ(t0:Int) b0 =>
(.br 16 (decide (t0<((s.map AV.int).length:Int))) (.elI 96 AV.int s t0 λx1 =>
(.br 144 (v==x1) (.ret (t0))
(.bk 0 b0 ((W (t0+1)):Int) [])))
(.ret (-1))))
def oP(s:List Int)(v:Int)(I0:Int→Prop)(m0:Int→Nat)(r0:Int):=(nB s v I0 m0).vp nC r0
theorem FI(l:List Int)(v:Int)(ok:uc l v):∃I m,oP l v I m (gS l v):=by
 simp only[uc,okU,Blk.ok,aL,List.length_map]at ok
 refine⟨λt=>∃k:Nat,t=k∧k≤l.length∧∀x∈l.take k,v≠x,λt=>l.length-t.toNat,?_⟩
 dsimp only[oP,nB,ua,Ax.vp,Ax.vc];simp only[vcU,rfU,List.length_map]
 have hle:l.length≤9223372036854775807:=ok.1.1
 refine⟨⟨0,rfl,by omega,by simp⟩,?_⟩
 rintro _ ⟨k,rfl,hk,hI⟩
 simp only[Int.toNat_natCast]
 refine⟨λh1=>⟨by omega,by omega,λx hx=>⟨λe=>?_,λe=>?_⟩⟩,λh1=>?_⟩
 ·have e:v=x:=by simpa using e
  subst e
  rw[tZ hx hI]
 ·rw[bM (n:=l.length) (by omega) (by omega)]
  exact⟨⟨k+1,rfl,by omega,(o7 hx).mpr ⟨hI,by simpa using e⟩⟩,by omega⟩
 ·rw[List.take_of_length_le (by omega)]at hI
  rw[ub hI]
def FJ(s:List Int)(v:Int):PC Tryz.prog:=⟨109,[(.s 1),.k],[.sl 1 (s.map AV.int) false,.int v],nC (gS s v),ax.of_ok λok=>(FI s v ok).elim λI0 h=>h.elim λm0 h=>aw (sh:=.k) (enc:=nC) (a:=(nB s v I0 m0).an) h (by kernel_rfl) (AV.pureB_ok rfl),aq (by kernel_rfl)⟩
theorem CV{l:List Int}{v:Int}:0≤gS l v↔v∈l:=by
 unfold gS
 cases e:l.findIdx? (λp=>decide (v=p))with
 | none =>
  rw[List.findIdx?_eq_none_iff]at e
  simp only
  refine⟨λh=>by omega,λh=>by have:=e v h;simp at this⟩
 | some i =>
  rw[List.findIdx?_eq_some_iff_getElem]at e
  obtain⟨h1,h2,_⟩:=e
  simp only
  refine⟨λ_=>?_,λ_=>by omega⟩
  have:v=l[i]:=by simpa using h2
  rw[this];exact List.getElem_mem h1
def Lb(s:List Int)(v:Int):=okL [.sl 1 (s.map AV.int) false,.int v]
def rW(r:Bool):AV:=.bool r
def rV(s:List Int)(v:Int):Ax Tryz.prog noS (Bool):=
 (.callP (FJ s v)
(.ret (decide (0≤(gS s v)))))
def uQ(s:List Int)(v:Int)(r0:Bool):=(rV s v).vp rW r0
theorem La(l:List Int)(v:Int)(ok:Lb l v):uQ l v (decide (v∈l)):=by
 dsimp only[uQ,rV,noS,Ax.vp,Ax.vc];simp only[vcU,rfU,List.length_map]
 exact decide_eq_decide.mpr CV
def eP(s:List Int)(v:Int):PC Tryz.prog:=⟨69,[(.s 1),.k],[.sl 1 (s.map AV.int) false,.int v],rW (decide (v∈s)),ax.of_ok λok=>aw (sh:=.k) (enc:=rW) (a:=(rV s v).an) (La s v ok) (by kernel_rfl) (AV.pureB_ok rfl),aq (by kernel_rfl)⟩
structure Hop where
  a:Int
  b:Int
  deriving DecidableEq
def Hop.v(h:Hop):AV:=.agg [.int h.a,.int h.b]
structure Flr where
  ls:List Hop
  rs:List Int
def nmd(l:List Hop)(a b:Int):Bool:=decide (⟨a,b⟩∈l) || decide (⟨b,a⟩∈l)
def gone(f:Flr)(l:Lnk):Bool:=decide (l.a∈f.rs) || (decide (l.b∈f.rs) || nmd f.ls l.a l.b)
def C6(t:Tpl)(f:Flr):Tpl:=if aD t=0 then⟨t.rs.filter λr=>!decide (r.id∈f.rs),t.ls.filter λl=>!gone f l⟩else⟨[],[]⟩
def FZ(l:List Int)(n:Int):=okL [.sl 1 (l.map AV.int) false,.int n]
def K0(l:List Int)(n:Int)(t0:Int):NF:=⟨[(0,.k,.sl 1 (l.map AV.int) false),(1,.k,.int n),(5,.k,.int t0)],[]⟩
@[reducible] def FY:Nat→Type
 | 0=>Int
 | _=>Unit
def xD(r:Bool):AV:=.bool r
def xC(l:List Int)(n:Int)(I0:Int→Prop)(m0:Int→Nat):Ax Tryz.prog FY (Bool):=
 (.loop 0 (K0 l n) I0 m0 ((0):Int) [] λ(t0:Int) b0 =>
(.br 64 (decide (t0<((l.map AV.int).length:Int))) (.elI 96 AV.int l t0 λx1 =>
(.br 160 (x1==n) (.ret (true))
(.bk 0 b0 ((W (t0+1)):Int) [])))
(.ret (false))))
def Bt(l:List Int)(n:Int)(I0:Int→Prop)(m0:Int→Nat)(r0:Bool):=(xC l n I0 m0).vp xD r0
theorem Pl(l:List Int)(n:Int)(ok:FZ l n):∃I m,Bt l n I m (decide (n∈l)):=by
 refine⟨λt=>bi l (λy=>y≠n) t,λt=>l.length-t.toNat,?_⟩
 simp only[FZ,okU,Blk.ok,aL,List.length_map]at ok
 dsimp only[Bt,xC,FY,Ax.vp,Ax.vc];simp only[vcU,rfU,List.length_map]
 refine⟨bi.zero,λt h=>⟨λc=>⟨h.idx,c,λx hx=>⟨λq=>?_,λq=>h.step (by omega) hx (by simpa using q)⟩⟩,λc=>?_⟩⟩
 ·have q:=eq_of_beq q
  subst q;exact(decide_eq_true (cB hx)).symm
 ·exact(decide_eq_false λq=>h.done c n q rfl).symm
def rc(l:List Int)(n:Int):PC Tryz.prog:=⟨75,[(.s 1),.k],[.sl 1 (l.map AV.int) false,.int n],xD (decide (n∈l)),ax.of_ok λok=>(Pl l n ok).elim λI0 h=>h.elim λm0 h=>aw (sh:=.k) (enc:=xD) (a:=(xC l n I0 m0).an) h (by kernel_rfl) (AV.pureB_ok rfl),aq (by kernel_rfl)⟩
def nm1(a b:Int)(x:Hop):Bool:=(x.a==a && x.b==b) || (x.a==b && x.b==a)
def Fk(l:List Hop)(a:Int)(b:Int):=okL [.sl 2 (l.map Hop.v) false,.int a,.int b]
def JN(l:List Hop)(a:Int)(b:Int)(t0:Int):NF:=⟨[(0,.k,.sl 2 (l.map Hop.v) false),(1,.k,.int a),(2,.k,.int b),(7,.k,.int t0)],[]⟩
def JM(l:List Hop)(a:Int)(b:Int)(t0:Int)(t1:Bool):NF:=⟨[(0,.k,.sl 2 (l.map Hop.v) false),(1,.k,.int a),(2,.k,.int b),(7,.k,.int t0),(47,.k,.bool t1)],[]⟩
@[reducible] def Fj:Nat→Type
 | 0=>Int
 | 1=>Bool
 | _=>Unit
def wQ(r:Bool):AV:=.bool r
def wP(l:List Hop)(a:Int)(b:Int)(I0:Int→Prop)(m0:Int→Nat)(I1:Int→Bool→Prop):Ax Tryz.prog Fj (Bool):=
 (.loop 0 (JN l a b) I0 m0 ((0):Int) [] λ(t0:Int) b0 =>
(.br 64 (decide (t0<((l.map Hop.v).length:Int))) (.pass (.join 1 (JM l a b t0) (λ(t1:Bool)=>I1 t0 t1) (λb1=>(.elI 96 Hop.v l t0 λx1 =>
(.br 192 (x1.a==a) (.elI 224 Hop.v l t0 λx2 =>
(.br 336 (x2.b==b) (.bk 1 b1 ((true):Bool) [])
(.elI 368 Hop.v l t0 λx3 =>
(.br 464 (x3.a==b) (.elI 496 Hop.v l t0 λx4 =>
(.bk 1 b1 ((x4.b==a):Bool) []))
(.bk 1 b1 ((false):Bool) [])))))
(.elI 368 Hop.v l t0 λx5 =>
(.br 464 (x5.a==b) (.elI 496 Hop.v l t0 λx6 =>
(.bk 1 b1 ((x6.b==a):Bool) []))
(.bk 1 b1 ((false):Bool) [])))))) λ(t1:Bool) =>
(.br 0 t1 (.ret (true))
(.bk 0 b0 ((W (t0+1)):Int) []))))
(.ret (false))))
def AG(l:List Hop)(a:Int)(b:Int)(I0:Int→Prop)(m0:Int→Nat)(I1:Int→Bool→Prop)(r0:Bool):=(wP l a b I0 m0 I1).vp wQ r0
theorem Oz(l:List Hop)(a b:Int)(ok:Fk l a b):∃I0 m0 I1,AG l a b I0 m0 I1 (nmd l a b):=by
 refine⟨λt=>bi l (λy=>nm1 a b y=false) t,λt=>l.length-t.toNat,λt r=>∀x,l[t.toNat]?=some x→r=nm1 a b x,?_⟩
 simp only[Fk,okU,Blk.ok,aL,List.length_map]at ok
 dsimp only[AG,wP,Fj,Ax.vp,Ax.vc];simp only[vcU,rfU,List.length_map]
 have e0:nmd l a b=l.any (nm1 a b):=by
  unfold nmd nm1
  rw[Bool.eq_iff_iff,List.any_eq_true,Bool.or_eq_true,decide_eq_true_iff,decide_eq_true_iff]
  simp only[Bool.or_eq_true,Bool.and_eq_true,beq_iff_eq]
  constructor
  ·rintro(h|h)
   ·exact⟨_,h,.inl ⟨rfl,rfl⟩⟩
   ·exact⟨_,h,.inr ⟨rfl,rfl⟩⟩
  ·rintro⟨⟨u,v⟩,h,⟨rfl,rfl⟩|⟨rfl,rfl⟩⟩
   ·exact .inl h
   ·exact .inr h
 rw[e0]
 refine⟨bi.zero,λi h=>⟨λc=>⟨⟨h.idx,c,λx hx=>⟨λq=>⟨h.idx,c,λx2 hx2=>⟨λq2 x3 hx3=>?_,λq2=>⟨h.idx,c,λx3 hx3=>⟨λq3=>⟨h.idx,c,λx4 hx4 x5 hx5=>?_⟩,λq3 x4 hx4=>?_⟩⟩⟩⟩,λq=>⟨h.idx,c,λx3 hx3=>⟨λq3=>⟨h.idx,c,λx4 hx4 x5 hx5=>?_⟩,λq3 x4 hx4=>?_⟩⟩⟩⟩,?_⟩,λc=>?_⟩⟩
 ·rw[hx]at hx2 hx3;cases hx2;cases hx3;simp[nm1,q,q2]
 ·rw[hx]at hx2 hx3 hx4 hx5;cases hx2;cases hx3;cases hx4;cases hx5;simp[nm1,q2,q3]
 ·rw[hx]at hx2 hx3 hx4;cases hx2;cases hx3;cases hx4;simp[nm1,q2,q3]
 ·rw[hx]at hx3 hx4 hx5;cases hx3;cases hx4;cases hx5;simp[nm1,q,q3]
 ·rw[hx]at hx3 hx4;cases hx3;cases hx4;simp[nm1,q,q3]
 ·intro r hr
  have hx:=List.getElem?_eq_getElem (show i.toNat<l.length by have:=h.idx;omega)
  have hr:=hr _ hx
  subst hr
  exact⟨λq=>(List.any_eq_true.mpr ⟨_,cB hx,q⟩).symm,λq=>h.step (by omega) hx q⟩
 ·symm
  rw[Bool.eq_false_iff]
  intro q
  obtain⟨x,hx,e⟩:=List.any_eq_true.mp q
  rw[h.done c x hx]at e;cases e
def O0(l:List Hop)(a:Int)(b:Int):PC Tryz.prog:=⟨116,[(.s 2),.k,.k],[.sl 2 (l.map Hop.v) false,.int a,.int b],wQ (nmd l a b),ax.of_ok λok=>(Oz l a b ok).elim λI0 h=>h.elim λm0 h=>h.elim λI1 h=>aw (sh:=.k) (enc:=wQ) (a:=(wP l a b I0 m0 I1).an) h (by kernel_rfl) (AV.pureB_ok rfl),aq (by kernel_rfl)⟩
def jx(t:Tpl):Bool:=!t.rs.any Hg
def DC(t:Tpl)(f:Flr):=okL [.agg [.sl 2 (t.rs.map Rtr.v) false,.sl 5 (t.ls.map Lnk.v) false],.agg [.sl 2 (f.ls.map Hop.v) false,.sl 1 (f.rs.map AV.int) false]]
def Id(t:Tpl)(f:Flr)(t0:Int×List Rtr):NF:=⟨[(2,.k,.ref 0 0),(3,.k,.ref 1 0),(4,.k,.ref 2 0),(5,.k,.ref 3 0),(6,.k,.int t0.1)],[.box (.agg [.sl 2 (t.rs.map Rtr.v) false,.sl 5 (t.ls.map Lnk.v) false]),.box (.agg [.sl 2 (f.ls.map Hop.v) false,.sl 1 (f.rs.map AV.int) false]),.box (.agg [.sl 0 [] true,.sl 0 [] true]),.box (.agg [.vec 4,.sl 0 [] true]),.vec 2 (t0.2.map Rtr.v) (ae (λ_=>rfl) t0.2)]⟩
def Ic(t:Tpl)(f:Flr)(t0:Int×List Rtr)(t1:Int×List Lnk):NF:=⟨[(2,.k,.ref 0 0),(3,.k,.ref 1 0),(4,.k,.ref 2 0),(5,.k,.ref 3 0),(7,.k,.int t1.1)],[.box (.agg [.sl 2 (t.rs.map Rtr.v) false,.sl 5 (t.ls.map Lnk.v) false]),.box (.agg [.sl 2 (f.ls.map Hop.v) false,.sl 1 (f.rs.map AV.int) false]),.box (.agg [.sl 0 [] true,.sl 0 [] true]),.box (.agg [.vec 4,.vec 5]),.vec 2 (t0.2.map Rtr.v) (ae (λ_=>rfl) t0.2),.vec 5 (t1.2.map Lnk.v) (ae (λ_=>rfl) t1.2)]⟩
def Ib(t:Tpl)(f:Flr)(t0:Int×List Rtr)(t1:Int×List Lnk)(x3:Lnk)(t2:Bool):NF:=⟨[(2,.k,.ref 0 0),(3,.k,.ref 1 0),(4,.k,.ref 2 0),(5,.k,.ref 3 0),(7,.k,.int t1.1),(8,.k,.ref 6 0),(75,.k,.bool t2)],[.box (.agg [.sl 2 (t.rs.map Rtr.v) false,.sl 5 (t.ls.map Lnk.v) false]),.box (.agg [.sl 2 (f.ls.map Hop.v) false,.sl 1 (f.rs.map AV.int) false]),.box (.agg [.sl 0 [] true,.sl 0 [] true]),.box (.agg [.vec 4,.vec 5]),.vec 2 (t0.2.map Rtr.v) (ae (λ_=>rfl) t0.2),.vec 5 (t1.2.map Lnk.v) (ae (λ_=>rfl) t1.2),.box (.agg [.int x3.a,.int x3.b,.int x3.ca,.int x3.cb,.int x3.w])]⟩
@[reducible] def DB:Nat→Type
 | 0=>Int×List Rtr
 | 1=>Int×List Lnk
 | 2=>Bool
 | _=>Unit
def vx(r:Tpl):AV:=Tpl.v r
def vw(t:Tpl)(f:Flr)(I0:(Int×List Rtr)→Prop)(m0:(Int×List Rtr)→Nat)(I1:Int×List Rtr→(Int×List Lnk)→Prop)(m1:Int×List Rtr→(Int×List Lnk)→Nat)(I2:Int×List Rtr→Int×List Lnk→Lnk→Bool→Prop):Ax Tryz.prog DB (Tpl):=
 (.callP (oj t)
(.br 96 ((aD t) != 0) (.ret ((⟨[],[]⟩:Tpl)))
(.cmdL (.nilB 96 0 2) (.loop 0 (Id t f) I0 m0 (0,[]) [0,16,32,96,128] λ(t0:Int×List Rtr) b0 =>
(.br 85 (decide (t0.1<((t.rs.map Rtr.v).length:Int))) (.elI 165 Rtr.v t.rs t0.1 λx1 =>
(.callP (rc f.rs x1.id)
(.br 245 (!(decide (x1.id∈f.rs))) (.elI 325 Rtr.v t.rs t0.1 λx2 =>
(.apX 373 Rtr.v t0.2 [x2] (t0.2.length+1)
(.bk 0 b0 (W (t0.1+1),t0.2++[x2]) [0,1,2,3,373])))
(.bk 0 b0 (W (t0.1+1),t0.2) [0,1,2,3,4]))))
(.cmdL (.nilB 3 1 5) (.loop 1 (Ic t f t0) (I1 t0) (m1 t0) (0,[]) [0,1,2,3,4,101] λ(t1:Int×List Lnk) b1 =>
(.br 86 (decide (t1.1<((t.ls.map Lnk.v).length:Int))) (.elI 134 Lnk.v t.ls t1.1 λx3 =>
(.join 2 (Ib t f t0 t1 x3) (λ(t2:Bool)=>I2 t0 t1 x3 t2) (λb2=>(.callP (rc f.rs x3.a)
(.br 310 (!(decide (x3.a∈f.rs))) (.callP (rc f.rs x3.b)
(.br 438 (!(decide (x3.b∈f.rs))) (.callP (O0 f.ls x3.a x3.b)
(.bk 2 b2 ((!(nmd f.ls x3.a x3.b)):Bool) [0,1,2,3,4,5,166]))
(.bk 2 b2 ((false):Bool) [0,1,2,3,4,5,166])))
(.bk 2 b2 ((false):Bool) [0,1,2,3,4,5,166])))) λ(t2:Bool) =>
(.br 7 t2 (.apX 71 Lnk.v t1.2 [x3] (t1.2.length+1)
(.bk 1 b1 (W (t1.1+1),t1.2++[x3]) [0,1,2,3,4,71]))
(.bk 1 b1 (W (t1.1+1),t1.2) [0,1,2,3,4,5]))))
(.fz 5 Lnk.v t1.2 (λ_=>rfl) (.fz 4 Rtr.v t0.2 (λ_=>rfl) (.ret ((⟨t0.2,t1.2⟩:Tpl)))))))))))))
def zt(t:Tpl)(f:Flr)(I0:(Int×List Rtr)→Prop)(m0:(Int×List Rtr)→Nat)(I1:Int×List Rtr→(Int×List Lnk)→Prop)(m1:Int×List Rtr→(Int×List Lnk)→Nat)(I2:Int×List Rtr→Int×List Lnk→Lnk→Bool→Prop)(r0:Tpl):=(vw t f I0 m0 I1 m1 I2).vp vx r0
theorem Ni(t:Tpl)(f:Flr)(ok:DC t f):∃I0 m0 I1 m1 I2,zt t f I0 m0 I1 m1 I2 (C6 t f):=by
 refine⟨λq=>ir t.rs (λr=>!decide (r.id∈f.rs)) q.1 q.2,λq=>t.rs.length-q.1.toNat,λ_ q=>ir t.ls (λl=>!gone f l) q.1 q.2,λ_ q=>t.ls.length-q.1.toNat,λ_ q l b=>b=!gone f l,?_⟩
 simp only[DC,okU,Blk.ok,aL,List.length_map]at ok
 dsimp only[zt,vw,DB,Ax.vp,Ax.vc];simp only[vcU,rfU,List.length_map]
 unfold C6
 by_cases hc:aD t=0
 case neg=>exact⟨λ_=>by rw[if_neg hc],λh=>by simp[hc]at h⟩
 have h1:=(aC hc).nr
 have h2:=(aC hc).nl
 rw[if_pos hc]
 refine⟨λh=>by simp[hc]at h,λ_=>⟨ir.zero,?_⟩⟩
 rintro⟨i,rs⟩ hF
 simp only at hF ⊢
 refine⟨λc=>⟨hF.idx,c,λx hx=>⟨λe=>⟨hF.idx,c,λy hy=>?_⟩,λe=>hF.drop (by omega) hx e⟩⟩,λc=>⟨ir.zero,?_⟩⟩
 ·rw[hx]at hy;cases hy
  exact⟨by have:=hF.len;omega,hF.keep (by omega) hx e⟩
 rintro⟨j,ls⟩ hG
 simp only at hG ⊢
 refine⟨λd=>⟨hG.idx,d,λx hx=>⟨⟨λe=>⟨λe2=>?_,λe2=>?_⟩,λe=>?_⟩,?_⟩⟩,λd=>?_⟩
 ·have e:¬x.a∈f.rs:=by simpa using e
  have e2:¬x.b∈f.rs:=by simpa using e2
  simp[gone,e,e2]
 ·have e2:x.b∈f.rs:=by simpa using e2
  simp[gone,e2]
 ·have e:x.a∈f.rs:=by simpa using e
  simp[gone,e]
 ·rintro _ rfl
  exact⟨λe=>⟨by have:=hG.len;omega,hG.keep (by omega) hx e⟩,λe=>hG.drop (by omega) hx e⟩
 ·rw[hF.done c,hG.done d]
def Nj(t:Tpl)(f:Flr):PC Tryz.prog:=⟨81,[(.a [(.s 2),(.s 5)]),(.a [(.s 2),(.s 1)])],[.agg [.sl 2 (t.rs.map Rtr.v) false,.sl 5 (t.ls.map Lnk.v) false],.agg [.sl 2 (f.ls.map Hop.v) false,.sl 1 (f.rs.map AV.int) false]],vx (C6 t f),ax.of_ok λok=>(Ni t f ok).elim λI0 h=>h.elim λm0 h=>h.elim λI1 h=>h.elim λm1 h=>h.elim λI2 h=>aw (sh:=(.a [(.s 2),(.s 5)])) (enc:=vx) (a:=(vw t f I0 m0 I1 m1 I2).an) h (by kernel_rfl) (AV.pureB_ok rfl),aq (by kernel_rfl)⟩
def In(t:Tpl):=okL [.agg [.sl 2 (t.rs.map Rtr.v) false,.sl 5 (t.ls.map Lnk.v) false]]
def p8(r:Bool):AV:=.bool r
def pz(t:Tpl):Ax Tryz.prog noS (Bool):=
 (.callP (GM t)
(.ret ((aD t)==0)))
def sN(t:Tpl)(r0:Bool):=(pz t).vp p8 r0
theorem Il(t:Tpl)(ok:In t):sN t (iu t):=by
 dsimp only[sN,pz,noS,Ax.vp,Ax.vc];simp only[vcU,rfU,List.length_map]
 rfl
def Im(t:Tpl):PC Tryz.prog:=⟨155,[(.a [(.s 2),(.s 5)])],[.agg [.sl 2 (t.rs.map Rtr.v) false,.sl 5 (t.ls.map Lnk.v) false]],p8 (iu t),ax.of_ok λok=>aw (sh:=.k) (enc:=p8) (a:=(pz t).an) (Il t ok) (by kernel_rfl) (AV.pureB_ok rfl),aq (by kernel_rfl)⟩
structure lQ (L:Lks):Prop where
  len:L.length≤1000000
  nd:(av L).Nodup
  to:∀x,∀s∈aB L x [],s.to∈av L
  cost:∀x,∀s∈aB L x [],1≤s.cost∧s.cost≤1000
structure DJ (L:Lks) (f:Int) (out op:Dis):Prop where
  di:jO L out op
  src:(f,0)∈out∨(f,0)∈op
  tgt:∀p,p∈out∨p∈op→p.1≠f→∃q∈out,∃s∈aB L q.1 [],s.to=p.1∧p.2=q.2+s.cost
  mon:∀p∈out,∀q∈op,p.2≤q.2
  bnd:∀p,p∈out∨p∈op→0≤p.2∧p.2≤1000 * out.length
theorem DJ.relx{L:Lks}{f:Int}{out op:Dis}{b c:Int}(hL:lQ L)(h:DJ L f out op)(hb:(b,c)∈out)(ht:∀p∈out,p.2≤c)(hc:c+1000≤1000 * out.length){s:Stp}(hs:s∈aB L b []) :
  DJ L f out (relx c out op s)∧(∀x n,(x,n)∈op→∃m,m≤n∧(x,m)∈Go.Proofs.YtdoacjojljgdcaaGreat.relx c out op s)∧∃n,n≤c+s.cost∧((s.to,n)∈out∨(s.to,n)∈Go.Proofs.YtdoacjojljgdcaaGreat.relx c out op s):=by
 obtain⟨c1,c2⟩:=hL.cost b s hs
 have c0:=(h.bnd _ (.inl hb)).1
 have hDi:=h.di.relx (c:=c) (hL.to b s hs)
 have hlen:=h.di.len1
 have hll:=hL.len
 have hW:W (c+s.cost)=c+s.cost:=dm ⟨by omega,by omega⟩
 revert hDi
 unfold Go.Proofs.YtdoacjojljgdcaaGreat.relx
 rw[hW]
 by_cases e1:aY out s.to=true
 ·rw[if_pos e1]
  intro hDi
  refine⟨h,λx n hx=>⟨n,Int.le_refl _,hx⟩,?_⟩
  obtain⟨n,hn⟩:=bY.mp e1
  exact⟨n,by have:=ht _ hn;simp at this;omega,.inl hn⟩
 rw[if_neg e1]
 by_cases e2:aY op s.to=false∨c+s.cost<aB op s.to 0
 ·rw[if_pos e2]
  intro hDi
  have hm:=λp=>bP (l:=op) (p:=p) (x:=s.to) (v:=c+s.cost) h.di.np
  refine⟨⟨hDi,?_,?_,?_,?_⟩,λx n hx=>?_,⟨c+s.cost,Int.le_refl _,.inr ((hm _).mpr (.inl rfl))⟩⟩
  ·rcases h.src with q|q
   ·exact .inl q
   ·refine .inr ((hm _).mpr (.inr ⟨q,?_⟩))
    rintro rfl
    rcases e2 with e2|e2
    ·exact AP.mp e2 _ q
    ·rw[dD h.di.np q]at e2;omega
  ·rintro p (hp|hp) hpf
   ·exact h.tgt p (.inl hp) hpf
   ·rcases(hm _).mp hp with rfl|⟨hp,_⟩
    ·exact⟨_,hb,s,hs,rfl,rfl⟩
    ·exact h.tgt p (.inr hp) hpf
  ·intro p hp q hq
   rcases(hm _).mp hq with rfl|⟨hq,_⟩
   ·have:=ht p hp;simp only;omega
   ·exact h.mon p hp q hq
  ·rintro p (hp|hp)
   ·exact h.bnd p (.inl hp)
   ·rcases(hm _).mp hp with rfl|⟨hp,_⟩
    ·simp only;omega
    ·exact h.bnd p (.inr hp)
  ·by_cases ex:x=s.to
   ·subst ex
    refine⟨c+s.cost,?_,(hm _).mpr (.inl rfl)⟩
    rcases e2 with e2|e2
    ·exact absurd hx (AP.mp e2 _)
    ·rw[dD h.di.np hx]at e2;omega
   ·exact⟨n,Int.le_refl _,(hm _).mpr (.inr ⟨hx,ex⟩)⟩
 ·rw[if_neg e2]
  intro hDi
  refine⟨h,λx n hx=>⟨n,Int.le_refl _,hx⟩,?_⟩
  have e3:aY op s.to=true:=by
   cases q:aY op s.to
   ·exact absurd (.inl q) e2
   ·rfl
  have e4:¬c+s.cost<aB op s.to 0:=λq=>e2 (.inr q)
  exact⟨aB op s.to 0,by omega,.inr (bI e3)⟩
theorem DJ.fold{L:Lks}{f:Int}{out:Dis}{b c:Int}(hL:lQ L)(hb:(b,c)∈out)(ht:∀p∈out,p.2≤c)(hc:c+1000≤1000 * out.length):∀{l:List Stp} {op:Dis},DJ L f out op→(∀s∈l,s∈aB L b []) →
  DJ L f out (l.foldl (Go.Proofs.YtdoacjojljgdcaaGreat.relx c out) op)∧(∀x n,(x,n)∈op→∃m,m≤n∧(x,m)∈l.foldl (Go.Proofs.YtdoacjojljgdcaaGreat.relx c out) op)∧∀s∈l,∃n,n≤c+s.cost∧((s.to,n)∈out∨(s.to,n)∈l.foldl (Go.Proofs.YtdoacjojljgdcaaGreat.relx c out) op)
 | [],op,h,_=>⟨h,λx n hx=>⟨n,Int.le_refl _,hx⟩,λs hs=>by cases hs⟩
 | s::l,op,h,hs=>by
  obtain⟨h1,h2,h3⟩:=h.relx hL hb ht hc (hs s (by simp))
  obtain⟨g1,g2,g3⟩:=DJ.fold hL hb ht hc h1 λx hx=>hs x (List.mem_cons_of_mem _ hx)
  rw[List.foldl_cons]
  refine⟨g1,λx n hx=>?_,λq hq=>?_⟩
  ·obtain⟨m,hm,hx⟩:=h2 x n hx
   obtain⟨m',hm',hx⟩:=g2 x m hx
   exact⟨m',by omega,hx⟩
  ·rcases List.mem_cons.mp hq with rfl|hq
   ·obtain⟨n,hn,hx|hx⟩:=h3
    ·exact⟨n,hn,.inl hx⟩
    ·obtain⟨m',hm',hx⟩:=g2 _ n hx
     exact⟨m',by omega,.inr hx⟩
   ·exact g3 q hq
structure vr (L:Lks) (f:Int) (D:Dis):Prop where
  nd:(av D).Nodup
  ke:∀x∈av D,x∈av L
  src:(f,0)∈D
  rlx:∀p∈D,∀s∈aB L p.1 [],∃n,n≤p.2+s.cost∧(s.to,n)∈D
  tgt:∀p∈D,p.1≠f→∃q∈D,∃s∈aB L q.1 [],s.to=p.1∧p.2=q.2+s.cost
  pos:∀p∈D,0≤p.2∧p.2≤1000 * D.length
theorem JV{l m:List Int}(hl:l.Nodup)(hm:m.Nodup)(hs:∀x∈l,x∈m)(e:l.length=m.length):∀x∈m,x∈l:=λx hx=>by
 refine Classical.byContradiction λq=>?_
 have h2:(x::l).Nodup:=List.nodup_cons.mpr ⟨q,hl⟩
 have:=List.Nodup.length_le_of_subset h2 (l₂:=m) λy hy=>by
  rcases List.mem_cons.mp hy with rfl|hy
  ·exact hx
  ·exact hs y hy
 simp at this;omega
theorem BB{L:Lks}{f:Int}(hL:lQ L):∀(n:Nat) (out op:Dis),DJ L f out op→(∀p∈out,∀s∈aB L p.1 [],∃n,n≤p.2+s.cost∧((s.to,n)∈out∨(s.to,n)∈op))→n=L.length-out.length→out.length<L.length→vr L f (Dx L n out op)
 | 0,out,op,h,hr,hn,hl=>by omega
 | n+1,out,op,h,hr,hn,hl=>by
  rw[Dx]
  by_cases e:op=[]
  ·rw[if_pos e]
   subst e
   refine⟨h.di.no,h.di.ko,?_,λp hp s hs=>?_,λp hp hf=>h.tgt p (.inl hp) hf,λp hp=>h.bnd p (.inl hp)⟩
   ·rcases h.src with q|q
    ·exact q
    ·cases q
   ·obtain⟨n,hn,hx|hx⟩:=hr p hp s hs
    ·exact⟨n,hn,hx⟩
    ·cases hx
  rw[if_neg e]
  obtain⟨c,hc,hmin⟩:=Hn e
  rw[dD h.di.np hc]
  generalize bst op=b at hc hmin ⊢
  have hbk:b∈av op:=aV.mpr ⟨c,hc⟩
  have hbo:=h.di.di b hbk
  obtain⟨hD,hlen⟩:=h.di.pop (c:=c) hbk
  have hmo:=λp=>bP (l:=out) (p:=p) (x:=b) (v:=c) h.di.no
  have hmd:=λp=>qG (l:=op) (p:=p) (x:=b) h.di.np
  have hout:∀p∈out,p∈bo out b c:=λp hp=>(hmo p).mpr (.inr ⟨hp,λe=>hbo (aV.mpr ⟨p.2,by rw[←e];exact hp⟩)⟩)
  have htop:∀p∈bo out b c,p.2≤c:=λp hp=>by
   rcases(hmo p).mp hp with rfl|⟨hp,_⟩
   ·exact Int.le_refl _
   ·exact h.mon p hp _ hc
  have hmv:∀p,p∈op→p∈bo out b c∨p∈mdl op b:=λp hp=>by
   by_cases e:p.1=b
   ·refine .inl ((hmo p).mpr (.inl ?_))
    have:p.2=c:=gn h.di.np (x:=b) (by rw[←e];exact hp) hc
    exact Prod.ext e this
   ·exact .inr ((hmd p).mpr ⟨hp,e⟩)
  have hback:∀p,p∈bo out b c∨p∈mdl op b→p∈out∨p∈op:=λp hp=>by
   rcases hp with hp|hp
   ·rcases(hmo p).mp hp with rfl|⟨hp,_⟩
    ·exact .inr hc
    ·exact .inl hp
   ·exact .inr ((hmd p).mp hp).1
  have hJ:DJ L f (bo out b c) (mdl op b):=by
   refine⟨hD,?_,λp hp hf=>?_,λp hp q hq=>?_,λp hp=>?_⟩
   ·rcases h.src with q|q
    ·exact .inl (hout _ q)
    ·exact hmv _ q
   ·obtain⟨q,hq,s,hs,h1,h2⟩:=h.tgt p (hback p hp) hf
    exact⟨q,hout q hq,s,hs,h1,h2⟩
   ·have h1:=htop p hp
    have h2:=hmin q ((hmd q).mp hq).1
    unfold bfr at h2;simp only at h2;omega
   ·have:=h.bnd p (hback p hp)
    rw[hlen];omega
  have hcb:=h.bnd _ (.inr hc)
  simp only at hcb
  have hbm:(b,c)∈bo out b c:=(hmo _).mpr (.inl rfl)
  have hold:∀p∈out,∀s∈aB L p.1 [],∃n,n≤p.2+s.cost∧((s.to,n)∈bo out b c∨(s.to,n)∈mdl op b):=λp hp s hs=>by
   obtain⟨n,hn,hx|hx⟩:=hr p hp s hs
   ·exact⟨n,hn,.inl (hout _ hx)⟩
   ·exact⟨n,hn,hmv _ hx⟩
  by_cases e2:(bo out b c).length=L.length
  ·rw[if_pos e2]
   have hall:=JV hD.no hL.nd hD.ko (by rw[cR,cR,e2])
   have hemp:∀p,p ∉ mdl op b:=λp hp=>by
    have hk:p.1∈av (mdl op b):=aV.mpr ⟨p.2,hp⟩
    exact hD.di _ hk (hall _ (hD.kp _ hk))
   refine⟨hD.no,hD.ko,?_,λp hp s hs=>?_,λp hp hf=>hJ.tgt p (.inl hp) hf,λp hp=>hJ.bnd p (.inl hp)⟩
   ·rcases hJ.src with q|q
    ·exact q
    ·exact absurd q (hemp _)
   ·rcases(hmo p).mp hp with rfl|⟨hp',_⟩
    ·obtain⟨n,hn⟩:=aV.mp (hall _ (hL.to _ s hs))
     have h1:=htop _ hn
     have h2:=hL.cost _ s hs
     exact⟨n,by simp only at h1 ⊢;omega,hn⟩
    ·obtain⟨n,hn,hx|hx⟩:=hold p hp' s hs
     ·exact⟨n,hn,hx⟩
     ·exact absurd hx (hemp _)
  ·rw[if_neg e2]
   obtain⟨g1,g2,g3⟩:=hJ.fold hL hbm htop (by rw[hlen];omega) (l:=aB L b []) λs hs=>hs
   refine BB hL n _ _ g1 (λp hp s hs=>?_) (by rw[hlen];omega) (by have:=hD.len1;omega)
   rcases(hmo p).mp hp with rfl|⟨hp',_⟩
   ·exact g3 s hs
   ·obtain⟨n,hn,hx|hx⟩:=hold p hp' s hs
    ·exact⟨n,hn,.inl hx⟩
    ·obtain⟨m,hm,hx⟩:=g2 _ _ hx
     exact⟨m,by omega,.inr hx⟩
theorem eu{L:Lks}{f:Int}(hL:lQ L)(hf:f∈av L):vr L f (cJ L f):=by
 have h0:0<L.length:=by rw[←cR];exact List.length_pos_of_mem hf
 have e:bo ([]:Dis) f 0=[(f,0)]:=rfl
 rw[cJ,if_pos (show aY L f=true from decide_eq_true hf),e]
 refine BB hL _ _ _ ⟨⟨by simp[av],by simp[av],by simp[av],by simp[av];simpa[av]using hf,by simp[av]⟩,.inr (by simp),λp hp hpf=>?_,by simp,λp hp=>?_⟩ (by simp) (by simp) (by simpa using h0)
 ·rcases hp with hp|hp
  ·cases hp
  ·rw[List.mem_singleton.mp hp]at hpf;exact absurd rfl hpf
 ·rcases hp with hp|hp
  ·cases hp
  ·rw[List.mem_singleton.mp hp];simp
inductive ik (L:Lks) (f:Int):Int→Int→Prop
  | nil:ik L f f 0
  | snoc {u n:Int} {s:Stp}:ik L f u n→s∈aB L u []→ik L f s.to (n+s.cost)
theorem vr.low{L:Lks}{f:Int}{D:Dis}(h:vr L f D){v n:Int}(p:ik L f v n):∃m,m≤n∧(v,m)∈D:=by
 induction p with
 | nil=>exact⟨0,Int.le_refl _,h.src⟩
 | snoc q hs ih =>
  obtain⟨m,hm,hx⟩:=ih
  obtain⟨k,hk,hx⟩:=h.rlx _ hx _ hs
  exact⟨k,by simp only at hk;omega,hx⟩
theorem vr.path{L:Lks}{f:Int}{D:Dis}(hL:lQ L)(h:vr L f D):∀(k:Nat) {v n:Int},n.toNat≤k→(v,n)∈D→ik L f v n
 | k,v,n,hk,hx=>by
  by_cases e:v=f
  ·subst e
   have:=gn h.nd hx h.src
   subst this;exact .nil
  ·obtain⟨⟨u,m⟩,hq,s,hs,h1,h2⟩:=h.tgt _ hx e
   simp only at h1 h2 hs
   have hc:=hL.cost _ s hs
   have hp:=(h.pos _ hq).1
   have hp2:=(h.pos _ hx).1
   simp only at hp hp2
   subst h1;subst h2
   match k with
   | 0=>omega
   | k+1=>exact .snoc (vr.path hL h k (by omega) hq) hs
theorem pd{L:Lks}{f:Int}(hL:lQ L)(hf:f∈av L){v m:Int}:(v,m)∈cJ L f↔ik L f v m∧∀n,ik L f v n→m≤n:=by
 have h:=eu hL hf
 constructor
 ·intro hx
  refine⟨h.path hL _ (Nat.le_refl _) hx,λn p=>?_⟩
  obtain⟨k,hk,hx'⟩:=h.low p
  rw[gn h.nd hx hx'];exact hk
 ·rintro⟨p,q⟩
  obtain⟨k,hk,hx⟩:=h.low p
  have:=q k (h.path hL _ (Nat.le_refl _) hx)
  have:k=m:=by omega
  rw[←this];exact hx
def isR(r:Int)(x:Rtr):Bool:=x.id==r
theorem FQ{α:Type}{p:α→Bool}{l:List α}(h:l.any p=true):0≤cM p l∧cM p l<l.length:=by
 rw[cM,if_pos h]
 have:l.findIdx p<l.length:=List.findIdx_lt_length.mpr (List.any_eq_true.mp h)
 omega
def cw(t:Tpl)(r:Int):Int:=if aG t r=true then cM (isR r) t.rs else 0
theorem ti{t:Tpl}{r:Int}(h:0<t.rs.length):0≤cw t r∧cw t r<t.rs.length:=by
 unfold cw
 split
 ·rename_i c;exact FQ c
 ·omega
def EI(t:Tpl)(r:Int):=okL [.agg [.sl 2 (t.rs.map Rtr.v) false,.sl 5 (t.ls.map Lnk.v) false],.int r]
def J1(t:Tpl)(r:Int)(t0:Int):NF:=⟨[(1,.k,.int r),(2,.k,.ref 0 0),(5,.k,.int t0)],[.box (.agg [.sl 2 (t.rs.map Rtr.v) false,.sl 5 (t.ls.map Lnk.v) false])]⟩
@[reducible] def EG:Nat→Type
 | 0=>Int
 | _=>Unit
def w5(r:Int):AV:=.int r
def w4(t:Tpl)(r:Int)(I0:Int→Prop)(m0:Int→Nat):Ax Tryz.prog EG (Int):=
 (.loop 0 (J1 t r) I0 m0 ((0):Int) [0] λ(t0:Int) b0 =>
(.br 81 (decide (t0<((t.rs.map Rtr.v).length:Int))) (.elI 129 Rtr.v t.rs t0 λx1 =>
(.br 209 (x1.id==r) (.ret (t0))
(.bk 0 b0 ((W (t0+1)):Int) [0])))
(.ret (0))))
def Aq(t:Tpl)(r:Int)(I0:Int→Prop)(m0:Int→Nat)(r0:Int):=(w4 t r I0 m0).vp w5 r0
theorem NZ(t:Tpl)(r:Int)(ok:EI t r):∃I m,Aq t r I m (cw t r):=by
 refine⟨λi=>bi t.rs (λx=>isR r x=false) i,λi=>t.rs.length-i.toNat,?_⟩
 simp only[EI,okU,Blk.ok,aL,List.length_map]at ok
 dsimp only[Aq,w4,EG,Ax.vp,Ax.vc];simp only[vcU,rfU,List.length_map]
 refine⟨bi.zero,λi h=>⟨λc=>⟨h.idx,c,λx hx=>⟨λq=>?_,λq=>h.step (by omega) hx q⟩⟩,λc=>?_⟩⟩
 ·have:aG t r=true:=List.any_eq_true.mpr ⟨x,cB hx,q⟩
  rw[cw,if_pos this];exact h.found hx q
 ·have:¬aG t r=true:=λq=>by
   obtain⟨x,hx,q⟩:=List.any_eq_true.mp q
   have:=h.done c x hx
   rw[isR,q]at this;cases this
  rw[cw,if_neg this]
def EH(t:Tpl)(r:Int):PC Tryz.prog:=⟨159,[(.a [(.s 2),(.s 5)]),.k],[.agg [.sl 2 (t.rs.map Rtr.v) false,.sl 5 (t.ls.map Lnk.v) false],.int r],w5 (cw t r),ax.of_ok λok=>(NZ t r ok).elim λI0 h=>h.elim λm0 h=>aw (sh:=.k) (enc:=w5) (a:=(w4 t r I0 m0).an) h (by kernel_rfl) (AV.pureB_ok rfl),aq (by kernel_rfl)⟩
def okD(t:Tpl)(d:List Int):Prop:=d.length=t.rs.length∧t.rs.length≤1000
def at6(t:Tpl)(d:List Int)(r:Int):Int:=if aG t r=true then d.getD (cM (isR r) t.rs).toNat 0 else 1073741824
def at6_a(t:Tpl)(d:List Int)(r:Int):=okL [.agg [.sl 2 (t.rs.map Rtr.v) false,.sl 5 (t.ls.map Lnk.v) false],.sl 1 (d.map AV.int) false,.int r]
def QL(t:Tpl)(d:List Int)(r:Int)(t0:Int):NF:=⟨[(1,.k,.sl 1 (d.map AV.int) false),(2,.k,.int r),(3,.k,.ref 0 0),(7,.k,.int t0)],[.box (.agg [.sl 2 (t.rs.map Rtr.v) false,.sl 5 (t.ls.map Lnk.v) false])]⟩
@[reducible] def Nd:Nat→Type
 | 0=>Int
 | _=>Unit
def HF(r:Int):AV:=.int r
def HA(t:Tpl)(d:List Int)(r:Int)(I0:Int→Prop)(m0:Int→Nat):Ax Tryz.prog Nd (Int):=
 (.loop 0 (QL t d r) I0 m0 ((0):Int) [0] λ(t0:Int) b0 =>
(.br 81 (decide (t0<((t.rs.map Rtr.v).length:Int))) (.elI 129 Rtr.v t.rs t0 λx1 =>
(.br 209 (x1.id==r) (.elI 241 AV.int d t0 λx2 =>
(.ret (x2)))
(.bk 0 b0 ((W (t0+1)):Int) [0])))
(.ret (1073741824))))
def HD(t:Tpl)(d:List Int)(r:Int)(I0:Int→Prop)(m0:Int→Nat)(r0:Int):=(HA t d r I0 m0).vp HF r0
theorem at6_p(t:Tpl)(d:List Int)(r:Int)(h:okD t d)(ok:at6_a t d r):∃I m,HD t d r I m (at6 t d r):=by
 refine⟨λi=>bi t.rs (λx=>isR r x=false) i,λi=>t.rs.length-i.toNat,?_⟩
 dsimp only[HD,HA,Nd,Ax.vp,Ax.vc];simp only[vcU,rfU,List.length_map]
 obtain⟨hd,hn⟩:=h
 refine⟨bi.zero,λi h=>⟨λc=>⟨h.idx,c,λx hx=>⟨λq=>⟨h.idx,by omega,λy hy=>?_⟩,λq=>h.step (by omega) hx q⟩⟩,λc=>?_⟩⟩
 ·have e:aG t r=true:=List.any_eq_true.mpr ⟨x,cB hx,q⟩
  rw[at6,if_pos e,←h.found hx q,List.getD_eq_getElem?_getD,hy];rfl
 ·have:¬aG t r=true:=λq=>by
   obtain⟨x,hx,q⟩:=List.any_eq_true.mp q
   have:=h.done c x hx
   rw[isR,q]at this;cases this
  rw[at6,if_neg this]
def HG(t:Tpl)(d:List Int)(r:Int)(h:okD t d):PC Tryz.prog:=⟨158,[(.a [(.s 2),(.s 5)]),(.s 1),.k],[.agg [.sl 2 (t.rs.map Rtr.v) false,.sl 5 (t.ls.map Lnk.v) false],.sl 1 (d.map AV.int) false,.int r],HF (at6 t d r),ax.of_ok λok=>(at6_p t d r h ok).elim λI0 h=>h.elim λm0 h=>aw (sh:=.k) (enc:=HF) (a:=(HA t d r I0 m0).an) h (by kernel_rfl) (AV.pureB_ok rfl),aq (by kernel_rfl)⟩
def rlx1(d:List Int)(a b:Nat)(c:Int):List Int:=if d.getD b 0<1073741824 then d.set a (eo (d.getD a 0) (W (c+d.getD b 0)))else d
def rlx(t:Tpl)(d:List Int)(l:Lnk):List Int:=rlx1 (rlx1 d (cw t l.a).toNat (cw t l.b).toNat l.ca) (cw t l.b).toNat (cw t l.a).toNat l.cb
def j8(t:Tpl):Nat→List Int→List Int
 | 0,d=>d
 | n+1,d=>t.ls.foldl (rlx t) (j8 t n d)
def to0(t:Tpl)(r:Int):List Int:=t.rs.map λx=>if isR r x=true then 0 else 1073741824
def to6(t:Tpl)(r:Int):List Int:=j8 t t.rs.length (to0 t r)
theorem iy{d:List Int}{a b:Nat}{c:Int}:(rlx1 d a b c).length=d.length:=by unfold rlx1;split<;>simp
theorem Ab{t:Tpl}{d:List Int}{l:Lnk}:(rlx t d l).length=d.length:=by rw[rlx,iy,iy]
theorem gV{t:Tpl}:∀{ls:List Lnk} {d:List Int},(ls.foldl (rlx t) d).length=d.length
 | [],d=>rfl
 | l::ls,d=>by rw[List.foldl_cons,gV,Ab]
theorem mL{t:Tpl}{d:List Int}:∀{n:Nat},(j8 t n d).length=d.length
 | 0=>rfl
 | n+1=>by rw[j8,gV,mL]
theorem Iy{t:Tpl}{r:Int}:(to6 t r).length=t.rs.length:=by rw[to6,mL,to0,List.length_map]
theorem JU{l:List Int}{k:Nat}{v:Int}{P:Int→Prop}(h:∀x∈l,P x)(hv:P v):∀x∈l.set k v,P x:=λx hx=>by
 rcases List.mem_or_eq_of_mem_set hx with q|q
 ·exact h x q
 ·exact q ▸ hv
theorem rf{d:List Int}(h:∀x∈d,0≤x)(k:Nat):0≤d.getD k 0:=by
 rw[List.getD_eq_getElem?_getD]
 cases e:d[k]? with
 | none=>simp
 | some x=>exact h x (bF e)
theorem mh{d:List Int}{a b:Nat}{c:Int}(h:∀x∈d,0≤x)(hc:1≤c∧c≤1000):∀x∈rlx1 d a b c,0≤x:=by
 unfold rlx1
 split
 ·have h1:=rf h a
  have h2:=rf h b
  refine JU h ?_
  rw[dm (by omega)]
  unfold eo;split<;>omega
 ·exact h
theorem ew{n:Int}:dT n=true↔1≤n∧n≤1000:=by unfold dT;simp
theorem Er{t:Tpl}{d:List Int}{l:Lnk}(h:∀x∈d,0≤x)(hl:fO l):∀x∈rlx t d l,0≤x:=mh (mh h (ew.mp hl.1)) (ew.mp hl.2.1)
theorem lU{t:Tpl}:∀{ls:List Lnk} {d:List Int},(∀x∈d,0≤x)→(∀l∈ls,fO l)→∀x∈ls.foldl (rlx t) d,0≤x
 | [],d,h,_=>h
 | l::ls,d,h,hl=>lU (t:=t) (ls:=ls) (d:=rlx t d l) (Er h (hl l (by simp))) λm hm=>hl m (by simp[hm])
theorem Aa{t:Tpl}(hl:∀l∈t.ls,fO l){d:List Int}(h:∀x∈d,0≤x):∀{n:Nat},∀x∈j8 t n d,0≤x
 | 0=>h
 | n+1=>lU (Aa hl h) hl
theorem si{t:Tpl}(h:aD t=0):∀l∈t.ls,fO l:=by
 refine Classical.byContradiction λq=>?_
 unfold aD at h
 by_cases c1:24<t.rs.length∨60<t.ls.length
 ·rw[if_pos c1]at h;cases h
 rw[if_neg c1]at h
 by_cases c2:¬∀x∈t.rs,1≤x.id∧x.id≤99
 ·rw[if_pos c2]at h;cases h
 rw[if_neg c2]at h
 by_cases c3:¬t.rs.Pairwise (λx y=>x.id<y.id)
 ·rw[if_pos c3]at h;cases h
 rw[if_neg c3,if_pos q]at h;cases h
theorem Nx{t:Tpl}(h:aD t=0){r:Int}:∀x∈to6 t r,0≤x:=by
 refine Aa (si h) λx hx=>?_
 obtain⟨y,_,rfl⟩:=List.mem_map.mp hx
 split<;>omega
theorem pH{α:Type}{A B:List α}{k:Nat}{x v:α}(h:A.length=k):(A++x::B).set k v=A++v::B:=by
 subst h;rw[List.set_append_right _ _ (Nat.le_refl _),Nat.sub_self,List.set_cons_zero]
theorem getD_of{d:List Int}{k:Nat}{x:Int}(h:d[k]?=some x):d.getD k 0=x:=by rw[List.getD_eq_getElem?_getD,h];rfl
def to6_a(t:Tpl)(to_:Int):=okL [.agg [.sl 2 (t.rs.map Rtr.v) false,.sl 5 (t.ls.map Lnk.v) false],.int to_]
def N1(t:Tpl)(to_:Int)(t0:Int×List Int):NF:=⟨[(1,.k,.int to_),(2,.k,.ref 0 0),(5,.k,.vec 1),(6,.k,.int t0.1)],[.box (.agg [.sl 2 (t.rs.map Rtr.v) false,.sl 5 (t.ls.map Lnk.v) false]),.vec 1 (t0.2.map AV.int) (ae (λ_=>rfl) t0.2)]⟩
def N0(t:Tpl)(t1:Int×List Int):NF:=⟨[(2,.k,.ref 0 0),(5,.k,.vec 1),(7,.k,.int t1.1)],[.box (.agg [.sl 2 (t.rs.map Rtr.v) false,.sl 5 (t.ls.map Lnk.v) false]),.vec 1 (t1.2.map AV.int) (ae (λ_=>rfl) t1.2)]⟩
def Nz(t:Tpl)(t1:Int×List Int)(t2:Int×List Int):NF:=⟨[(2,.k,.ref 0 0),(5,.k,.vec 1),(7,.k,.int t1.1),(8,.k,.int t2.1)],[.box (.agg [.sl 2 (t.rs.map Rtr.v) false,.sl 5 (t.ls.map Lnk.v) false]),.vec 1 (t2.2.map AV.int) (ae (λ_=>rfl) t2.2)]⟩
def Ny(t:Tpl)(t1:Int×List Int)(t2:Int×List Int)(x4:Lnk)(t3:List Int):NF:=⟨[(2,.k,.ref 0 0),(5,.k,.vec 1),(7,.k,.int t1.1),(8,.k,.int t2.1),(9,.k,.ref 2 0),(10,.k,.int (cw t x4.a)),(11,.k,.int (cw t x4.b))],[.box (.agg [.sl 2 (t.rs.map Rtr.v) false,.sl 5 (t.ls.map Lnk.v) false]),.vec 1 (t3.map AV.int) (ae (λ_=>rfl) t3),.box (.agg [.int x4.a,.int x4.b,.int x4.ca,.int x4.cb,.int x4.w])]⟩
@[reducible] def MI:Nat→Type
 | 0=>Int×List Int
 | 1=>Int×List Int
 | 2=>Int×List Int
 | 3=>(List Int)
 | _=>Unit
def DR(r:List Int):AV:=.sl 1 (r.map AV.int) false
def DP(t:Tpl)(to_:Int)(I0:(Int×List Int)→Prop)(m0:(Int×List Int)→Nat)(I1:Int×List Int→(Int×List Int)→Prop)(m1:Int×List Int→(Int×List Int)→Nat)(I2:Int×List Int→Int×List Int→(Int×List Int)→Prop)(m2:Int×List Int→Int×List Int→(Int×List Int)→Nat)(I3:Int×List Int→Int×List Int→Int×List Int→Lnk→(List Int)→Prop):Ax Tryz.prog MI ((List Int)):=
 (.say (λR=>Rf (AV.int 0) (ck (cond (decide (0≤((t.rs.map Rtr.v).length:Int))) (cond (decide (((t.rs.map Rtr.v).length:Int)≤((t.rs.map Rtr.v).length:Int))) (decide (((t.rs.map Rtr.v).length:Int)≤1048576)) false) false)
R)) (.rep 80 AV.int 0
(.loop 0 (N1 t to_) I0 m0 (0,List.replicate (((t.rs.map Rtr.v).length:Int).toNat) 0) [0,80] λ(t0:Int×List Int) b0 =>
(.br 66 (decide (t0.1<((t0.2.map AV.int).length:Int))) (.stJ 114 AV.int t0.2 t0.1 (λy1=>1073741824) λy1 =>
(.elI 178 Rtr.v t.rs t0.1 λx2 =>
(.br 258 (x2.id==to_) (.stJ 306 AV.int (t0.2.set t0.1.toNat 1073741824) t0.1 (λy3=>0) λy3 =>
(.bk 0 b0 (W (t0.1+1),(t0.2.set t0.1.toNat 1073741824).set t0.1.toNat 0) [0,1]))
(.bk 0 b0 (W (t0.1+1),t0.2.set t0.1.toNat 1073741824) [0,1]))))
(.loop 1 (N0 t) (I1 t0) (m1 t0) (0,t0.2) [0,1] λ(t1:Int×List Int) b1 =>
(.br 66 (decide (t1.1<((t1.2.map AV.int).length:Int))) (.loop 2 (Nz t t1) (I2 t0 t1) (m2 t0 t1) (0,t1.2) [0,1] λ(t2:Int×List Int) b2 =>
(.br 82 (decide (t2.1<((t.ls.map Lnk.v).length:Int))) (.elI 130 Lnk.v t.ls t2.1 λx4 =>
(.callP (EH t x4.a)
(.callP (EH t x4.b)
(.join 3 (Ny t t1 t2 x4) (λ(t3:List Int)=>I3 t0 t1 t2 x4 t3) (λb3=>(.elJ 402 AV.int t2.2 (cw t x4.b) λx5 =>
(.br 434 (decide (x5<1073741824)) (.elJ 514 AV.int t2.2 (cw t x4.a) λx6 =>
(.elJ 610 AV.int t2.2 (cw t x4.b) λx7 =>
(.stJ 674 AV.int t2.2 (cw t x4.a) (λy8=>(eo x6 (W (x4.ca+x7)))) λy8 =>
(.bk 3 b3 ((t2.2.set ((cw t x4.a).toNat) (eo x6 (W (x4.ca+x7)))):(List Int)) [0,1,162]))))
(.bk 3 b3 ((t2.2):(List Int)) [0,1,162])))) λ(t3:List Int) =>
(.elJ 51 AV.int t3 (cw t x4.a) λx9 =>
(.br 83 (decide (x9<1073741824)) (.elJ 163 AV.int t3 (cw t x4.b) λx10 =>
(.elJ 259 AV.int t3 (cw t x4.a) λx11 =>
(.stJ 323 AV.int t3 (cw t x4.b) (λy12=>(eo x10 (W (x4.cb+x11)))) λy12 =>
(.bk 2 b2 (W (t2.1+1),t3.set ((cw t x4.b).toNat) (eo x10 (W (x4.cb+x11)))) [0,1]))))
(.bk 2 b2 (W (t2.1+1),t3) [0,1])))))))
(.bk 1 b1 (W (t1.1+1),t2.2) [0,1])))
(.fz 1 AV.int t1.2 (λ_=>rfl) (.ret (t1.2)))))))))
def DQ(t:Tpl)(to_:Int)(I0:(Int×List Int)→Prop)(m0:(Int×List Int)→Nat)(I1:Int×List Int→(Int×List Int)→Prop)(m1:Int×List Int→(Int×List Int)→Nat)(I2:Int×List Int→Int×List Int→(Int×List Int)→Prop)(m2:Int×List Int→Int×List Int→(Int×List Int)→Nat)(I3:Int×List Int→Int×List Int→Int×List Int→Lnk→(List Int)→Prop)(r0:List Int):=(DP t to_ I0 m0 I1 m1 I2 m2 I3).vp DR r0
theorem to6_p(t:Tpl)(r:Int)(h:aD t=0)(ok:to6_a t r):∃I0 m0 I1 m1 I2 m2 I3,DQ t r I0 m0 I1 m1 I2 m2 I3 (to6 t r):=by
 refine⟨λs=>∃k:Nat,s.1=k∧k≤t.rs.length∧s.2=(to0 t r).take k++List.replicate (t.rs.length-k) 0,λs=>t.rs.length-s.1.toNat,
  λ_ s=>∃k:Nat,s.1=k∧k≤t.rs.length∧s.2=j8 t k (to0 t r),λ_ s=>t.rs.length-s.1.toNat,
  λ_ u s=>iW t.ls (rlx t) u.2 s.1 s.2,λ_ _ s=>t.ls.length-s.1.toNat,λ_ u s l d=>d=rlx1 s.2 (cw t l.a).toNat (cw t l.b).toNat l.ca,?_⟩
 dsimp only[DQ,DP,MI,Ax.vp,Ax.vc];simp only[vcU,rfU,List.length_map]
 have hn:=(cd h).1
 have h0:(to0 t r).length=t.rs.length:=by rw[to0,List.length_map]
 refine⟨by simp;omega,⟨0,rfl,by omega,by simp⟩,?_⟩
 rintro⟨_,_⟩ ⟨k,rfl,hk,rfl⟩
 simp only
 have hlen:((to0 t r).take k++List.replicate (t.rs.length-k) (0:Int)).length=t.rs.length:=by simp[h0];omega
 rw[hlen]
 refine⟨λc=>⟨eE (by omega) c,by omega,λy hy=>⟨by omega,c,λx hx=>?_⟩⟩,λc=>?_⟩
 ·rw[Int.toNat_natCast]at hx ⊢
  have hkl:k<t.rs.length:=ap hx
  have e0:t.rs.length-k=(t.rs.length-(k+1))+1:=by omega
  have hA:((to0 t r).take k).length=k:=by rw[List.length_take,h0];omega
  have hg:(to0 t r)[k]?=some (if isR r x=true then 0 else 1073741824):=by rw[to0,List.getElem?_map,hx];rfl
  rw[e0,List.replicate_succ,pH hA,pH hA,bM (n:=t.rs.length) hkl (by omega)]
  refine⟨λe=>⟨eE (by omega) (by simp[h0];omega),by simp[h0];omega,λy hy=>⟨⟨k+1,rfl,by omega,?_⟩,by omega⟩⟩,λe=>⟨⟨k+1,rfl,by omega,?_⟩,by omega⟩⟩
  ·rw[aU hg,if_pos (show isR r x=true from e)];simp
  ·have e:¬isR r x=true:=λq=>by rw[isR,e]at q;cases q
   rw[aU hg,if_neg e];simp
 have:k=t.rs.length:=by omega
 subst this
 have e1:(to0 t r).take t.rs.length++List.replicate (t.rs.length-t.rs.length) (0:Int)=to0 t r:=by
  rw[Nat.sub_self,List.replicate_zero,List.append_nil,←h0,List.take_length]
 rw[e1]
 refine⟨⟨0,rfl,by omega,rfl⟩,?_⟩
 rintro⟨_,_⟩ ⟨k,rfl,hk,rfl⟩
 simp only
 have hlen2:(j8 t k (to0 t r)).length=t.rs.length:=by rw[mL,h0]
 rw[hlen2]
 refine⟨λc2=>⟨iW.zero,?_⟩,λc2=>?_⟩
 ·rintro⟨j,d⟩ g
  simp only at g ⊢
  have hpos:0<t.rs.length:=by omega
  have hdl:d.length=t.rs.length:=by
   obtain⟨m,_,_,e⟩:=g
   rw[e,gV,hlen2]
  have hll:=(cd h).2
  refine⟨λc3=>⟨g.idx,c3,λl hl=>?_⟩,λc3=>?_⟩
  ·obtain⟨a1,a2⟩:=ti (r:=l.a) hpos
   obtain⟨b1,b2⟩:=ti (r:=l.b) hpos
   generalize hea:cw t l.a=pa at a1 a2 ⊢
   generalize heb:cw t l.b=pb at b1 b2 ⊢
   refine⟨⟨eE b1 (by omega),by omega,λx5 h5=>⟨λe=>⟨eE a1 (by omega),by omega,λx6 h6=>⟨eE b1 (by omega),by omega,λx7 h7=>⟨eE a1 (by omega),by omega,λy8 h8=>?_⟩⟩⟩,λe=>?_⟩⟩,?_⟩
   ·rw[rlx1,getD_of h5,getD_of h6,if_pos e]
    rw[h5]at h7;cases h7;rfl
   ·rw[rlx1,getD_of h5,if_neg e]
   rintro d4 hd4
   have hl4:d4.length=t.rs.length:=by rw[hd4,iy];exact hdl
   refine⟨eE a1 (by omega),by omega,λx9 h9=>⟨λe=>⟨eE b1 (by omega),by omega,λx10 h10=>⟨eE a1 (by omega),by omega,λx11 h11=>⟨eE b1 (by omega),by omega,λy12 h12=>g.step (by omega) hl ?_⟩⟩⟩,λe=>g.step (by omega) hl ?_⟩⟩
   ·rw[rlx,hea,heb,←hd4,rlx1,getD_of h9,getD_of h10,if_pos e]
    rw[h9]at h11;cases h11;rfl
   ·rw[rlx,hea,heb,←hd4,rlx1,getD_of h9,if_neg e]
  ·rw[bM (n:=t.rs.length) (by omega) (by omega)]
   exact⟨⟨k+1,rfl,by omega,by rw[j8];exact g.done c3⟩,by omega⟩
 ·have:k=t.rs.length:=by omega
  subst this
  rfl
def to6_c(t:Tpl)(to_:Int)(h:aD t=0):PC Tryz.prog:=⟨132,[(.a [(.s 2),(.s 5)]),.k],[.agg [.sl 2 (t.rs.map Rtr.v) false,.sl 5 (t.ls.map Lnk.v) false],.int to_],DR (to6 t to_),ax.of_ok λok=>(to6_p t to_ h ok).elim λI0 h=>h.elim λm0 h=>h.elim λI1 h=>h.elim λm1 h=>h.elim λI2 h=>h.elim λm2 h=>h.elim λI3 h=>aw (sh:=(.s 1)) (enc:=DR) (a:=(DP t to_ I0 m0 I1 m1 I2 m2 I3).an) h (by kernel_rfl) (AV.pureB_ok rfl),aq (by kernel_rfl)⟩
def okN(t:Tpl)(d:List Int)(r q:Int):Bool:=decide (at6 t d q<1073741824) && (W ((be t r q).1+at6 t d q)==at6 t d r)
def eA(t:Tpl)(d:List Int)(r:Int):List Int:=if at6 t d r=1073741824∨at6 t d r=0 then []else(j9 t r).filter (okN t d r)
theorem nT{α β:Type}{p:α→Bool}{g:α→β}:∀{l:List α},(l.flatMap λx=>if p x=true then [g x]else []).length≤l.length
 | []=>by simp
 | x::l=>by
  have:=nT (p:=p) (g:=g) (l:=l)
  have h1:(if p x=true then [g x]else []).length≤1:=by split<;>simp
  rw[List.flatMap_cons,List.length_append,List.length_cons]
  omega
theorem tD{t:Tpl}{r:Int}:(j9 t r).length≤t.rs.length:=nT (p:=λx:Rtr=>(be t r x.id).2) (g:=Rtr.id)
def N7(t:Tpl)(d:List Int)(from_:Int):=okL [.agg [.sl 2 (t.rs.map Rtr.v) false,.sl 5 (t.ls.map Lnk.v) false],.sl 1 (d.map AV.int) false,.int from_]
def IE(t:Tpl)(d:List Int)(from_:Int)(t0:Bool):NF:=⟨[(1,.k,.sl 1 (d.map AV.int) false),(2,.k,.int from_),(3,.k,.ref 0 0),(7,.k,.sl 0 [] true),(8,.k,.int (at6 t d from_)),(22,.k,.bool t0)],[.box (.agg [.sl 2 (t.rs.map Rtr.v) false,.sl 5 (t.ls.map Lnk.v) false])]⟩
def ID(t:Tpl)(d:List Int)(from_:Int)(t1:Int×List Int):NF:=⟨[(1,.k,.sl 1 (d.map AV.int) false),(2,.k,.int from_),(3,.k,.ref 0 0),(7,.k,.vec 1),(8,.k,.int (at6 t d from_)),(9,.k,.sl 1 ((j9 t from_).map AV.int) false),(10,.k,.int t1.1)],[.box (.agg [.sl 2 (t.rs.map Rtr.v) false,.sl 5 (t.ls.map Lnk.v) false]),.vec 1 (t1.2.map AV.int) (ae (λ_=>rfl) t1.2)]⟩
def IC(t:Tpl)(d:List Int)(from_:Int)(t1:Int×List Int)(t2:Bool):NF:=⟨[(1,.k,.sl 1 (d.map AV.int) false),(2,.k,.int from_),(3,.k,.ref 0 0),(7,.k,.vec 1),(8,.k,.int (at6 t d from_)),(9,.k,.sl 1 ((j9 t from_).map AV.int) false),(10,.k,.int t1.1),(62,.k,.bool t2)],[.box (.agg [.sl 2 (t.rs.map Rtr.v) false,.sl 5 (t.ls.map Lnk.v) false]),.vec 1 (t1.2.map AV.int) (ae (λ_=>rfl) t1.2)]⟩
@[reducible] def DV:Nat→Type
 | 0=>Bool
 | 1=>Int×List Int
 | 2=>Bool
 | _=>Unit
def vL(r:List Int):AV:=.sl 1 (r.map AV.int) false
def vK(t:Tpl)(d:List Int)(from_:Int)(I0:Bool→Prop)(I1:Bool→(Int×List Int)→Prop)(m1:Bool→(Int×List Int)→Nat)(I2:Bool→Int×List Int→Int→Bool→Prop):Ax Tryz.prog DV ((List Int)):=
 (.req 96 (okD t d) λh1 =>
(.callP (HG t d from_ h1)
(.pass (.join 0 (IE t d from_) (λ(t0:Bool)=>I0 t0) (λb0=>(.br 176 ((at6 t d from_)==1073741824) (.bk 0 b0 ((true):Bool) [0])
(.bk 0 b0 (((at6 t d from_)==0):Bool) [0]))) λ(t0:Bool) =>
(.br 1 t0 (.ret ([]))
(.req 33 (t.rs.length≤1000) λh2 =>
(.callP (O5 t from_ h2)
(.cmdL (.nilT 7 1) (.loop 1 (ID t d from_) (I1 t0) (m1 t0) (0,[]) [0,81] λ(t1:Int×List Int) b1 =>
(.br 66 (decide (t1.1<(((j9 t from_).map AV.int).length:Int))) (.elI 130 AV.int (j9 t from_) t1.1 λx3 =>
(.callP (wu t from_ x3)
(.join 2 (IC t d from_ t1) (λ(t2:Bool)=>I2 t0 t1 x3 t2) (λb2=>(.elI 322 AV.int (j9 t from_) t1.1 λx4 =>
(.req 354 (okD t d) λh5 =>
(.callP (HG t d x4 h5)
(.br 402 (decide ((at6 t d x4)<1073741824)) (.elI 482 AV.int (j9 t from_) t1.1 λx6 =>
(.req 514 (okD t d) λh7 =>
(.callP (HG t d x6 h7)
(.bk 2 b2 (((W (((be t from_ x3).1)+(at6 t d x6)))==(at6 t d from_)):Bool) [0,1]))))
(.bk 2 b2 ((false):Bool) [0,1])))))) λ(t2:Bool) =>
(.br 2 t2 (.elI 50 AV.int (j9 t from_) t1.1 λx8 =>
(.apX 98 AV.int t1.2 [x8] (t1.2.length+1)
(.bk 1 b1 (W (t1.1+1),t1.2++[x8]) [0,98])))
(.bk 1 b1 (W (t1.1+1),t1.2) [0,1])))))
(.fz 1 AV.int t1.2 (λ_=>rfl) (.ret (t1.2)))))))))))))
def zL(t:Tpl)(d:List Int)(from_:Int)(I0:Bool→Prop)(I1:Bool→(Int×List Int)→Prop)(m1:Bool→(Int×List Int)→Nat)(I2:Bool→Int×List Int→Int→Bool→Prop)(r0:List Int):=(vK t d from_ I0 I1 m1 I2).vp vL r0
theorem N5(t:Tpl)(d:List Int)(r:Int)(h:okD t d)(ok:N7 t d r):∃I0 I1 m1 I2,zL t d r I0 I1 m1 I2 (eA t d r):=by
 refine⟨λb=>b=decide (at6 t d r=1073741824∨at6 t d r=0),λ_ s=>eK (j9 t r) (λq=>if okN t d r q=true then [q]else []) s.1 s.2,λ_ s=>(j9 t r).length-s.1.toNat,
  λ_ _ q b=>b=okN t d r q,?_⟩
 dsimp only[zL,vK,DV,Ax.vp,Ax.vc];simp only[vcU,rfU,List.length_map]
 have hn:=h.2
 have hl:=tD (t:=t) (r:=r)
 refine⟨h,⟨λc=>by simp[eq_of_beq c],λc=>?_⟩,?_⟩
 ·have c:¬at6 t d r=1073741824:=by simpa using c
  rw[Bool.eq_iff_iff];simp[c]
 rintro _ rfl
 refine⟨λc=>by rw[eA,if_pos (of_decide_eq_true c)],λc=>⟨hn,eK.zero,?_⟩⟩
 have c:=of_decide_eq_false c
 rintro⟨i,out⟩ g
 simp only at g ⊢
 have hlen:=g.len (b:=1) λx _=>by split<;>simp
 refine⟨λe=>⟨g.idx,e,λx hx=>⟨⟨g.idx,e,λy hy=>⟨h,λe1=>⟨g.idx,e,λz hz=>⟨h,?_⟩⟩,λe1=>?_⟩⟩,?_⟩⟩,λe=>?_⟩
 ·rw[hx]at hy hz;cases hy;cases hz
  rw[okN,decide_eq_true e1];rfl
 ·rw[hx]at hy;cases hy
  rw[okN,decide_eq_false e1];rfl
 ·rintro _ rfl
  refine⟨λe1=>⟨g.idx,e,λz hz=>⟨by omega,?_⟩⟩,λe1=>g.step (by omega) hx (by rw[if_neg (by rw[e1];simp)];simp)⟩
  rw[hx]at hz;cases hz
  exact g.step (by omega) hx (by rw[if_pos e1])
 ·rw[eA,if_neg c,g.done e,xM]
def N6(t:Tpl)(d:List Int)(from_:Int)(h:okD t d):PC Tryz.prog:=⟨131,[(.a [(.s 2),(.s 5)]),(.s 1),.k],[.agg [.sl 2 (t.rs.map Rtr.v) false,.sl 5 (t.ls.map Lnk.v) false],.sl 1 (d.map AV.int) false,.int from_],vL (eA t d from_),ax.of_ok λok=>(N5 t d from_ h ok).elim λI0 h=>h.elim λI1 h=>h.elim λm1 h=>h.elim λI2 h=>aw (sh:=(.s 1)) (enc:=vL) (a:=(vK t d from_ I0 I1 m1 I2).an) h (by kernel_rfl) (AV.pureB_ok rfl),aq (by kernel_rfl)⟩
theorem eS{t:Tpl}(h:aD t=0){f g:Int}(hp:(be t f g).2=true):1≤(be t f g).1∧(be t f g).1≤1000:=by
 unfold be at hp ⊢
 cases e:t.ls.find? (fX f g)with
 | none=>rw[e]at hp;cases hp
 | some l =>
  have hl:=si h l (List.mem_of_find?_eq_some e)
  have h1:=ew.mp hl.1
  have h2:=ew.mp hl.2.1
  simp only
  split<;>omega
theorem HE{t:Tpl}{d:List Int}(h:∀x∈d,0≤x)(r:Int):0≤at6 t d r:=by
 unfold at6
 split
 ·exact rf h _
 ·omega
theorem IF{t:Tpl}(h:aD t=0){d:List Int}(hd:∀x∈d,0≤x){f q:Int}(hq:q∈eA t d f):at6 t d q<at6 t d f∧∃x∈t.rs,x.id=q:=by
 unfold eA at hq
 split at hq
 ·cases hq
 obtain⟨h1,h2⟩:=List.mem_filter.mp hq
 obtain⟨x,hx,hx2⟩:=List.mem_flatMap.mp h1
 have hp:(be t f x.id).2=true∧q=x.id:=by
  by_cases c:(be t f x.id).2=true
  ·rw[if_pos c,List.mem_singleton]at hx2;exact⟨c,hx2⟩
  ·rw[if_neg c]at hx2;cases hx2
 obtain⟨hp,rfl⟩:=hp
 obtain⟨p1,p2⟩:=eS h hp
 rw[okN,Bool.and_eq_true,decide_eq_true_eq,beq_iff_eq]at h2
 have h0:=HE (t:=t) hd x.id
 have:=h2.2
 rw[dm (by omega)]at this
 exact⟨by omega,x,hx,rfl⟩
theorem oW{α:Type}{p q:α→Bool}:∀{l:List α} {x:α},(∀y,p y=true→q y=true)→x∈l→p x=false→q x=true→(l.filter p).length<(l.filter q).length
 | y::l,x,h,hx,h1,h2=>by
  have hle:∀l:List α,(l.filter p).length≤(l.filter q).length:=by
   intro l
   induction l with
   | nil=>simp
   | cons z l ih =>
    rw[List.filter_cons,List.filter_cons]
    by_cases c:p z=true
    ·rw[if_pos c,if_pos (h z c)];simp only[List.length_cons];omega
    ·rw[if_neg c];split
     ·simp only[List.length_cons];omega
     ·exact ih
  rw[List.filter_cons,List.filter_cons]
  rcases List.mem_cons.mp hx with rfl|hx
  ·rw[if_neg (by rw[h1];simp),if_pos h2]
   have:=hle l
   simp only[List.length_cons];omega
  ·have:=oW h hx h1 h2
   by_cases c:p y=true
   ·rw[if_pos c,if_pos (h y c)];simp only[List.length_cons];omega
   ·rw[if_neg c];split
    ·simp only[List.length_cons];omega
    ·exact this
def cz(t:Tpl)(u v c:Int):Prop:=∃l∈t.ls,(l.a=u∧l.b=v∧l.ca=c)∨(l.b=u∧l.a=v∧l.cb=c)
theorem cm{t:Tpl}(hc:aD t=0){u v c:Int}:cz t u v c↔be t u v=(c,true):=by
 have hO:=aC hc
 have key:∀x∈t.ls,∀y∈t.ls,fX u v x=true→fX u v y=true→x=y:=λx hx y hy h1 h2=>by
  obtain⟨i,hi⟩:=List.mem_iff_getElem?.mp hx
  obtain⟨j,hj⟩:=List.mem_iff_getElem?.mp hy
  have a1:=hO.lt x hx
  have a2:=hO.lt y hy
  unfold fX at h1 h2
  simp only[Bool.or_eq_true,Bool.and_eq_true,beq_iff_eq]at h1 h2
  have hk:¬aQ x y∧¬aQ y x:=by unfold aQ;omega
  rcases Nat.lt_trichotomy i j with h|h|h
  ·exact absurd (f8 hO.ord h hi hj) hk.1
  ·subst h;rw[hi]at hj;exact Option.some.inj hj
  ·exact absurd (f8 hO.ord h hj hi) hk.2
 constructor
 ·rintro⟨l,hl,h⟩
  have hp:fX u v l=true:=by
   unfold fX
   simp only[Bool.or_eq_true,Bool.and_eq_true,beq_iff_eq]
   omega
  have hlt:=hO.lt l hl
  unfold be
  cases q:t.ls.find? (fX u v)with
  | none =>
   have:=List.find?_eq_none.mp q l hl
   exact absurd hp this
  | some y =>
   have:=key y (List.mem_of_find?_eq_some q) l hl (List.find?_some q) hp
   subst this
   simp only
   rcases h with⟨h1,h2,h3⟩|⟨h1,h2,h3⟩
   ·rw[if_pos (by simp[h1,h2]),h3]
   ·rw[if_neg (by simp;omega),h3]
 ·intro h
  unfold be at h
  cases q:t.ls.find? (fX u v)with
  | none=>rw[q]at h;simp at h
  | some y =>
   rw[q]at h
   have hp:=List.find?_some q
   have hy:=List.mem_of_find?_eq_some q
   simp only[Prod.mk.injEq,and_true]at h
   unfold fX at hp
   refine⟨y,hy,?_⟩
   by_cases e:(y.a==u && y.b==v)=true
   ·rw[if_pos e]at h
    simp only[Bool.and_eq_true,beq_iff_eq]at e
    exact .inl ⟨e.1,e.2,h⟩
   ·rw[if_neg e]at h
    simp only[Bool.or_eq_true,Bool.and_eq_true,beq_iff_eq]at hp e
    rcases hp with hp|hp
    ·exact absurd hp e
    ·exact .inr ⟨hp.1,hp.2,h⟩
theorem cz.cost{t:Tpl}(hc:aD t=0){u v c:Int}(h:cz t u v c):1≤c∧c≤1000:=by
 obtain⟨l,hl,h⟩:=h
 have:=(aC hc).lr l hl
 have h1:=ew.mp this.1
 have h2:=ew.mp this.2.1
 omega
theorem cz.has{t:Tpl}(hc:aD t=0){u v c:Int}(h:cz t u v c):aG t u=true∧aG t v=true:=by
 obtain⟨l,hl,h⟩:=h
 have:=(aC hc).has l hl
 rcases h with⟨rfl,rfl,_⟩|⟨rfl,rfl,_⟩
 ·exact this
 ·exact⟨this.2,this.1⟩
theorem tp{t:Tpl}(hc:aD t=0){x:Int}{s:Stp}:s∈gm t.ls x↔cz t x s.to s.cost:=by
 have hO:=aC hc
 unfold gm cz
 rw[List.mem_flatMap]
 constructor
 ·rintro⟨l,hl,h⟩
  refine⟨l,hl,?_⟩
  split at h
  ·rw[List.mem_singleton.mp h];exact .inl ⟨by assumption,rfl,rfl⟩
  ·split at h
   ·rw[List.mem_singleton.mp h];exact .inr ⟨by assumption,rfl,rfl⟩
   ·cases h
 ·rintro⟨l,hl,⟨h1,h2,h3⟩|⟨h1,h2,h3⟩⟩
  ·refine⟨l,hl,?_⟩
   rw[if_pos h1,h2,h3];simp
  ·have:=hO.lt l hl
   refine⟨l,hl,?_⟩
   rw[if_neg (by omega),if_pos h1,h2,h3];simp
theorem Bo{t:Tpl}(hc:aD t=0){x:Int}{s:Stp}:s∈inS t.ls x↔cz t s.to x s.cost:=by
 have hO:=aC hc
 unfold inS cz
 rw[List.mem_flatMap]
 constructor
 ·rintro⟨l,hl,h⟩
  refine⟨l,hl,?_⟩
  split at h
  ·rw[List.mem_singleton.mp h];exact .inl ⟨rfl,by assumption,rfl⟩
  ·split at h
   ·rw[List.mem_singleton.mp h];exact .inr ⟨rfl,by assumption,rfl⟩
   ·cases h
 ·rintro⟨l,hl,⟨h1,h2,h3⟩|⟨h1,h2,h3⟩⟩
  ·refine⟨l,hl,?_⟩
   rw[if_pos h2,h1,h3];simp
  ·have:=hO.lt l hl
   refine⟨l,hl,?_⟩
   rw[if_neg (by omega),if_pos h2,h1,h3];simp
theorem bZ{t:Tpl}{x:Int}:aG t x=true↔∃r∈t.rs,r.id=x:=by
 unfold aG;rw[List.any_eq_true];simp
theorem bu{t:Tpl}(f:Rtr→List Stp):av (t.rs.map λr=>(r.id,f r))=t.rs.map (·.id):=by unfold av;rw[List.map_map];rfl
theorem bC{t:Tpl}{x:Int}:x∈t.rs.map (·.id)↔aG t x=true:=by rw[bZ,List.mem_map]
theorem fA{t:Tpl}(hc:aD t=0):(t.rs.map (·.id)).Nodup:=List.Pairwise.map _ (λa b h=>by omega) (aC hc).asc
theorem Bx{t:Tpl}(hc:aD t=0)(f:Int→List Stp)(hf:∀x,aG t x=false→f x=[])(x:Int):aB (t.rs.map λr=>(r.id,f r.id)) x []=f x:=by
 by_cases h:aG t x=true
 ·obtain⟨r,hr,rfl⟩:=bZ.mp h
  exact dD (by rw[bu (λr=>f r.id)];exact fA hc) (List.mem_map.mpr ⟨r,hr,rfl⟩)
 ·have h:aG t x=false:=by simpa using h
  rw[bV,hf x h]
  unfold aY
  rw[bu (λr=>f r.id),decide_eq_false]
  rw[bC,h];simp
theorem J6{t:Tpl}(hc:aD t=0)(x:Int)(h:aG t x=false):gm t.ls x=[]:=by
 refine List.eq_nil_iff_forall_not_mem.mpr λs hs=>?_
 rw[(((tp hc).mp hs).has hc).1]at h;cases h
theorem Pa{t:Tpl}(hc:aD t=0)(x:Int)(h:aG t x=false):inS t.ls x=[]:=by
 refine List.eq_nil_iff_forall_not_mem.mpr λs hs=>?_
 rw[(((Bo hc).mp hs).has hc).2]at h;cases h
theorem At{t:Tpl}(hc:aD t=0)(x:Int):aB (dl t) x []=jo (gm t.ls x):=Bx hc (λx=>jo (gm t.ls x)) (λx h=>by rw[J6 hc x h];simp[jo]) x
theorem OX{t:Tpl}(hc:aD t=0)(x:Int):aB (inG t) x []=inS t.ls x:=Bx hc (λx=>inS t.ls x) (λx h=>Pa hc x h) x
theorem mj{t:Tpl}(hc:aD t=0){x:Int}{s:Stp}:s∈aB (dl t) x []↔cz t x s.to s.cost:=by rw[At hc,(jc _).mem_iff,tp hc]
theorem nD{t:Tpl}(hc:aD t=0){x:Int}{s:Stp}:s∈aB (inG t) x []↔cz t s.to x s.cost:=by rw[OX hc,Bo hc]
theorem wB{t:Tpl}(hc:aD t=0):lQ (dl t):=by
 have:=(aC hc).nr
 refine⟨by unfold dl;rw[List.length_map];omega,by unfold dl;rw[bu];exact fA hc,λx s hs=>?_,λx s hs=>((mj hc).mp hs).cost hc⟩
 unfold dl;rw[bu,bC];exact(((mj hc).mp hs).has hc).2
theorem lT{t:Tpl}(hc:aD t=0):lQ (inG t):=by
 have:=(aC hc).nr
 refine⟨by unfold inG;rw[List.length_map];omega,by unfold inG;rw[bu];exact fA hc,λx s hs=>?_,λx s hs=>((nD hc).mp hs).cost hc⟩
 unfold inG;rw[bu,bC];exact(((nD hc).mp hs).has hc).1
inductive Pth (t:Tpl) (g:Int):Nat→Int→Int→Prop
  | nil:Pth t g 0 g 0
  | cons {k:Nat} {u w c n:Int}:cz t u w c→Pth t g k w n→Pth t g (k+1) u (n+c)
theorem kE{t:Tpl}(hc:aD t=0){g v n:Int}:ik (inG t) g v n↔∃k,Pth t g k v n:=by
 constructor
 ·intro p
  induction p with
  | nil=>exact⟨0,.nil⟩
  | snoc q hs ih=>obtain⟨k,ih⟩:=ih;exact⟨k+1,.cons ((nD hc).mp hs) ih⟩
 ·rintro⟨k,p⟩
  induction p with
  | nil=>exact .nil
  | cons e q ih=>exact .snoc (s:=⟨_,_⟩) ih ((nD hc).mpr e)
theorem na{t:Tpl}(hc:aD t=0){f v n:Int}:ik (dl t) f v n↔∃k,Pth t v k f n:=by
 have app:∀{k:Nat} {u m w c v:Int},Pth t w k u m→cz t w v c→Pth t v (k+1) u (m+c):=λ{k u m w c v} p e=>by
  induction p with
  | nil=>exact .cons e .nil
  | cons e' q ih=>have:=Pth.cons e' ih;rwa [Int.add_right_comm]at this
 have pre:∀{f w v c n:Int},cz t f w c→ik (dl t) w v n→ik (dl t) f v (n+c):=λ{f w v c n} e p=>by
  induction p with
  | nil=>exact .snoc (s:=⟨_,_⟩) .nil ((mj hc).mpr e)
  | snoc q hs ih=>have:=ik.snoc ih hs;rwa [Int.add_right_comm]at this
 constructor
 ·intro p
  induction p with
  | nil=>exact⟨0,.nil⟩
  | snoc q hs ih=>obtain⟨k,ih⟩:=ih;exact⟨k+1,app ih ((mj hc).mp hs)⟩
 ·rintro⟨k,p⟩
  induction p with
  | nil=>exact .nil
  | cons e q ih=>exact pre e ih
def Lst(t:Tpl)(u v m:Int):Prop:=(∃k,Pth t v k u m)∧∀k n,Pth t v k u n→m≤n
theorem nE{t:Tpl}(hc:aD t=0){g v m:Int}(hg:aG t g=true):(v,m)∈cJ (inG t) g↔Lst t v g m:=by
 rw[pd (lT hc) (by unfold inG;rw[bu,bC];exact hg),kE hc]
 exact⟨λ⟨h1,h2⟩=>⟨h1,λk n p=>h2 n ((kE hc).mpr ⟨k,p⟩)⟩,λ⟨h1,h2⟩=>⟨h1,λn p=>by obtain⟨k,p⟩:=(kE hc).mp p;exact h2 k n p⟩⟩
theorem CL{t:Tpl}(hc:aD t=0){f v m:Int}(hf:aG t f=true):(v,m)∈cJ (dl t) f↔Lst t f v m:=by
 rw[pd (wB hc) (by unfold dl;rw[bu,bC];exact hf),na hc]
 exact⟨λ⟨h1,h2⟩=>⟨h1,λk n p=>h2 n ((na hc).mpr ⟨k,p⟩)⟩,λ⟨h1,h2⟩=>⟨h1,λn p=>by obtain⟨k,p⟩:=(na hc).mp p;exact h2 k n p⟩⟩
def gB:Int:=1073741824
theorem wz{t:Tpl}(hc:aD t=0){i:Nat}{r:Rtr}(h:t.rs[i]?=some r):(cw t r.id).toNat=i:=by
 have hh:aG t r.id=true:=bZ.mpr ⟨r,bF h,rfl⟩
 unfold cw
 rw[if_pos hh,cM,if_pos (show t.rs.any (isR r.id)=true from hh)]
 have hlt:t.rs.findIdx (isR r.id)<t.rs.length:=List.findIdx_lt_length.mpr ⟨r,bF h,by simp[isR]⟩
 have e:=List.findIdx_getElem (w:=hlt)
 have h1:(t.rs.map (·.id))[t.rs.findIdx (isR r.id)]?=some r.id:=by
  rw[List.getElem?_map,List.getElem?_eq_getElem hlt]
  unfold isR at e ⊢
  simp only[beq_iff_eq]at e
  simp[e]
 have h2:(t.rs.map (·.id))[i]?=some r.id:=by rw[List.getElem?_map,h];rfl
 have:=dC (fA hc) h1 h2
 rw[Int.toNat_natCast];exact this
theorem kU{t:Tpl}{d:List Int}{u:Int}(h:aG t u=true):at6 t d u=d.getD (cw t u).toNat 0:=by
 unfold at6 cw;rw[if_pos h,if_pos h]
theorem Md{t:Tpl}(hc:aD t=0){d:List Int}(hd:d.length=t.rs.length){a u x:Int}(ha:aG t a=true)(hu:aG t u=true):at6 t (d.set (cw t a).toNat x) u=if u=a then x else at6 t d u:=by
 rw[kU hu,kU hu]
 obtain⟨ra,h1,rfl⟩:=bZ.mp ha
 obtain⟨ru,h2,rfl⟩:=bZ.mp hu
 obtain⟨i,hi⟩:=List.mem_iff_getElem?.mp h1
 obtain⟨j,hj⟩:=List.mem_iff_getElem?.mp h2
 rw[wz hc hi,wz hc hj]
 have hil:=ap hi
 rw[List.getD_eq_getElem?_getD,List.getElem?_set,List.getD_eq_getElem?_getD]
 by_cases e:i=j
 ·subst e
  rw[hi]at hj;cases hj
  rw[if_pos rfl,if_pos (by omega),if_pos rfl];rfl
 ·rw[if_neg e,if_neg]
  intro q
  have h3:(t.rs.map (·.id))[i]?=some ra.id:=by rw[List.getElem?_map,hi];rfl
  have h4:(t.rs.map (·.id))[j]?=some ra.id:=by rw[List.getElem?_map,hj,←q];rfl
  exact e (dC (fA hc) h3 h4)
theorem pR{t:Tpl}(hc:aD t=0){d:List Int}(hd:d.length=t.rs.length)(hn:∀x∈d,0≤x){a b c u:Int}(h1:1≤c∧c≤1000)(ha:aG t a=true)(hb:aG t b=true)(hu:aG t u=true) :
  at6 t (rlx1 d (cw t a).toNat (cw t b).toNat c) u=if u=a∧at6 t d b<gB∧c+at6 t d b<at6 t d a then c+at6 t d b else at6 t d u:=by
 have hb0:=HE (t:=t) hn b
 unfold rlx1
 rw[←kU hb,←kU ha]
 by_cases e:at6 t d b<1073741824
 ·rw[if_pos e,Md hc hd ha hu,dm (by omega)]
  unfold eo gB
  by_cases e1:u=a
  ·subst e1
   rw[if_pos rfl]
   by_cases e2:c+at6 t d b<at6 t d u
   ·rw[if_pos e2,if_pos ⟨rfl,e,e2⟩]
   ·rw[if_neg e2,if_neg (λq=>e2 q.2.2)]
  ·rw[if_neg e1,if_neg (λq=>e1 q.1)]
 ·rw[if_neg e,if_neg (λq=>e q.2.1)]
section
variable {t : Tpl} (hc : aD t = 0)
include hc
theorem Je{d:List Int}(hd:d.length=t.rs.length)(hn:∀x∈d,0≤x){l:Lnk}(hl:l∈t.ls) :
  (∀u,aG t u=true→at6 t (rlx t d l) u≤at6 t d u)∧(at6 t d l.b<gB→at6 t (rlx t d l) l.a≤at6 t d l.b+l.ca)∧(at6 t d l.a<gB→at6 t (rlx t d l) l.b≤at6 t d l.a+l.cb):=by
 have hO:=aC hc
 obtain⟨ha,hb⟩:=hO.has l hl
 have hlr:=hO.lr l hl
 have hlt:=hO.lt l hl
 have c1:=ew.mp hlr.1
 have c2:=ew.mp hlr.2.1
 have hd1:(rlx1 d (cw t l.a).toNat (cw t l.b).toNat l.ca).length=t.rs.length:=by rw[iy];exact hd
 have hn1:=mh (a:=(cw t l.a).toNat) (b:=(cw t l.b).toNat) hn c1
 have s1:=λu hu=>pR hc hd hn (u:=u) c1 ha hb hu
 have s2:=λu hu=>pR hc hd1 hn1 (u:=u) c2 hb ha hu
 unfold rlx
 have sa:=s1 l.a ha
 have sb:=s1 l.b hb
 rw[if_neg (λq=>by have:=q.1;omega)]at sb
 have e1:cz t l.a l.b l.ca:=⟨l,hl,.inl ⟨rfl,rfl,rfl⟩⟩
 have e2:cz t l.b l.a l.cb:=⟨l,hl,.inr ⟨rfl,rfl,rfl⟩⟩
 refine⟨λu hu=>?_,λh=>?_,λh=>?_⟩
 ·rw[s2 u hu,s1 u hu]
  by_cases q:u=l.b
  ·subst q;rw[sb,sa];(repeat' split)<;>omega
  ·rw[if_neg (λr=>q r.1)];split
   ·rename_i r;obtain⟨r1,r2,r3⟩:=r;subst r1;omega
   ·omega
 ·rw[s2 l.a ha,if_neg (λr=>by have:=r.1;omega),sa]
  split
  ·omega
  ·rename_i r
   have:¬l.ca+at6 t d l.b<at6 t d l.a:=λq=>r ⟨rfl,h,q⟩
   omega
 ·have ham:at6 t (rlx1 d (cw t l.a).toNat (cw t l.b).toNat l.ca) l.a≤at6 t d l.a:=by rw[sa];split<;>omega
  rw[s2 l.b hb]
  split
  ·omega
  ·rename_i r
   have:¬l.cb+at6 t (rlx1 d (cw t l.a).toNat (cw t l.b).toNat l.ca) l.a<at6 t (rlx1 d (cw t l.a).toNat (cw t l.b).toNat l.ca) l.b:=λq=>r ⟨rfl,by omega,q⟩
   omega
def PV(t:Tpl)(g:Int)(d:List Int):Prop:=∀u,aG t u=true→at6 t d u≤gB∧(at6 t d u<gB→∃k,Pth t g k u (at6 t d u))
theorem PV.rlx1{g:Int}{d:List Int}(h:PV t g d)(hd:d.length=t.rs.length)(hn:∀x∈d,0≤x){a b c:Int}(e:cz t a b c):PV t g (rlx1 d (cw t a).toNat (cw t b).toNat c):=λu hu=>by
 obtain⟨ha,hb⟩:=e.has hc
 rw[pR hc hd hn (e.cost hc) ha hb hu]
 split
 ·rename_i r
  obtain⟨r1,r2,r3⟩:=r
  subst r1
  have:=(h u hu).1
  refine⟨by omega,λ_=>?_⟩
  obtain⟨k,p⟩:=(h b hb).2 r2
  rw[Int.add_comm]
  exact⟨k+1,.cons e p⟩
 ·exact h u hu
theorem PV.rlx{g:Int}{d:List Int}(h:PV t g d)(hd:d.length=t.rs.length)(hn:∀x∈d,0≤x){l:Lnk}(hl:l∈t.ls):PV t g (rlx t d l):=by
 have c1:=ew.mp ((aC hc).lr l hl).1
 exact PV.rlx1 hc (PV.rlx1 hc h hd hn ⟨l,hl,.inl ⟨rfl,rfl,rfl⟩⟩) (by rw[iy];exact hd) (mh hn c1) ⟨l,hl,.inr ⟨rfl,rfl,rfl⟩⟩
theorem ui{g:Int}:∀{ls:List Lnk} {d:List Int},d.length=t.rs.length→(∀x∈d,0≤x)→PV t g d→(∀l∈ls,l∈t.ls) →
  (ls.foldl (rlx t) d).length=t.rs.length∧(∀x∈ls.foldl (rlx t) d,0≤x)∧PV t g (ls.foldl (rlx t) d)∧(∀u,aG t u=true→at6 t (ls.foldl (rlx t) d) u≤at6 t d u) ∧
  ∀l∈ls,(at6 t d l.b<gB→at6 t (ls.foldl (rlx t) d) l.a≤at6 t d l.b+l.ca)∧(at6 t d l.a<gB→at6 t (ls.foldl (rlx t) d) l.b≤at6 t d l.a+l.cb)
 | [],d,hd,hn,hp,_=>⟨hd,hn,hp,λu _=>Int.le_refl _,λl hl=>by cases hl⟩
 | l::ls,d,hd,hn,hp,hs=>by
  have hl:=hs l (by simp)
  obtain⟨a1,a2,a3⟩:=Je hc hd hn hl
  obtain⟨b1,b2,b3,b4,b5⟩:=ui (g:=g) (ls:=ls) (d:=rlx t d l) (by rw[Ab];exact hd) (Er hn (si hc l hl)) (PV.rlx hc hp hd hn hl) λm hm=>hs m (List.mem_cons_of_mem _ hm)
  rw[List.foldl_cons]
  refine⟨b1,b2,b3,λu hu=>Int.le_trans (b4 u hu) (a1 u hu),λm hm=>?_⟩
  rcases List.mem_cons.mp hm with rfl|hm'
  ·obtain⟨ha,hb⟩:=(aC hc).has m hl
   exact⟨λh=>Int.le_trans (b4 _ ha) (a2 h),λh=>Int.le_trans (b4 _ hb) (a3 h)⟩
  ·obtain⟨ha,hb⟩:=(aC hc).has m (hs m hm)
   have h1:=a1 _ ha
   have h2:=a1 _ hb
   exact⟨λh=>by have:=(b5 m hm').1 (by omega);omega,λh=>by have:=(b5 m hm').2 (by omega);omega⟩
theorem zG{g:Int}(hg:aG t g=true):∀k:Nat,(j8 t k (to0 t g)).length=t.rs.length∧(∀x∈j8 t k (to0 t g),0≤x)∧PV t g (j8 t k (to0 t g))∧∀j u n,j≤k→Pth t g j u n→n<gB→at6 t (j8 t k (to0 t g)) u≤n
 | 0=>by
  have e:∀u,aG t u=true→at6 t (to0 t g) u=if u=g then 0 else gB:=λu hu=>by
   rw[kU hu]
   obtain⟨r,hr,rfl⟩:=bZ.mp hu
   obtain⟨i,hi⟩:=List.mem_iff_getElem?.mp hr
   rw[wz hc hi,to0,List.getD_eq_getElem?_getD,List.getElem?_map,hi]
   simp[isR,gB]
  refine⟨by simp[j8,to0],λx hx=>?_,λu hu=>?_,λj u n hj p hn=>?_⟩
  ·obtain⟨y,_,rfl⟩:=List.mem_map.mp hx
   split<;>omega
  ·rw[j8,e u hu]
   split
   ·rename_i q;subst q;exact⟨by decide,λ_=>⟨0,.nil⟩⟩
   ·exact⟨Int.le_refl _,λh=>by omega⟩
  ·obtain rfl:j=0:=by omega
   cases p
   rw[j8,e g hg,if_pos rfl];exact Int.le_refl _
 | k+1=>by
  obtain⟨h1,h2,h3,h4⟩:=zG hg k
  obtain⟨b1,b2,b3,b4,b5⟩:=ui hc (ls:=t.ls) h1 h2 h3 λl hl=>hl
  refine⟨b1,b2,b3,λj u n hj p hn=>?_⟩
  cases p with
  | nil=>exact Int.le_trans (b4 g hg) (h4 0 g 0 (by omega) .nil hn)
  | cons e q =>
   have hcs:=e.cost hc
   have hw:=h4 _ _ _ (by omega) q (by omega)
   obtain⟨l,hl,⟨rfl,rfl,rfl⟩|⟨rfl,rfl,rfl⟩⟩:=e
   ·have:=(b5 l hl).1 (by omega);show at6 t (t.ls.foldl (rlx t) _) _≤_;omega
   ·have:=(b5 l hl).2 (by omega);show at6 t (t.ls.foldl (rlx t) _) _≤_;omega
theorem oV{g:Int}{D:Dis}(h:vr (inG t) g D):∀(N:Nat) {v n:Int},n.toNat≤N→(v,n)∈D→∃k,k≤(D.filter λp=>decide (p.2<n)).length∧Pth t g k v n
 | N,v,n,hN,hx=>by
  by_cases e:v=g
  ·subst e
   have:=gn h.nd hx h.src
   subst this;exact⟨0,Nat.zero_le _,.nil⟩
  ·obtain⟨⟨u,m⟩,hq,s,hs,h1,h2⟩:=h.tgt _ hx e
   simp only at h1 h2 hs
   have he:=(nD hc).mp hs
   have hcs:=he.cost hc
   have hp:=(h.pos _ hq).1
   have hp2:=(h.pos _ hx).1
   simp only at hp hp2
   subst h1;subst h2
   match N with
   | 0=>omega
   | N+1 =>
    obtain⟨k,hk,p⟩:=oV h N (by omega) hq
    refine⟨k+1,?_,.cons he p⟩
    have:=oW (l:=D) (x:=(u,m)) (p:=λp=>decide (p.2<m)) (q:=λp=>decide (p.2<m+s.cost)) (λy hy=>by rw[decide_eq_true_eq]at hy ⊢;omega) hq (decide_eq_false (by simp)) (decide_eq_true (by simp;omega))
    omega
theorem BA{g:Int}(hg:aG t g=true):(cJ (inG t) g).length≤t.rs.length:=by
 have h:=eu (lT hc) (f:=g) (by unfold inG;rw[bu,bC];exact hg)
 have:=List.Nodup.length_le_of_subset h.nd h.ke
 rw[cR,cR,inG,List.length_map]at this
 exact this
theorem zH{g:Int}(hg:aG t g=true)(u:Int):at6 t (to6 t g) u=if aY (cJ (inG t) g) u=true then aB (cJ (inG t) g) u 0 else gB:=by
 have h:=eu (lT hc) (f:=g) (by unfold inG;rw[bu,bC];exact hg)
 have hlen:=BA hc hg
 have hR:=(aC hc).nr
 obtain⟨r1,r2,r3,r4⟩:=zG hc hg t.rs.length
 change PV t g (to6 t g)at r3
 change ∀j u n,j≤t.rs.length→Pth t g j u n→n<gB→at6 t (to6 t g) u≤n at r4
 have hk:∀x,x∈av (inG t)↔aG t x=true:=λx=>by unfold inG;rw[bu,bC]
 by_cases hu:aG t u=true
 ·by_cases hm:aY (cJ (inG t) g) u=true
  ·rw[if_pos hm]
   have hx:=bI (z:=(0:Int)) hm
   generalize aB (cJ (inG t) g) u 0=m at hx ⊢
   obtain⟨k,hk1,p⟩:=oV hc h _ (Nat.le_refl _) hx
   have hle:=List.length_filter_le (λp:Int×Int=>decide (p.2<m)) (cJ (inG t) g)
   have hb:=(h.pos _ hx).2
   simp only at hb
   have hup:=r4 k u m (by omega) p (by unfold gB;omega)
   obtain⟨k',p'⟩:=(r3 u hu).2 (by unfold gB;omega)
   have:=((nE hc hg).mp hx).2 _ _ p'
   omega
  ·rw[if_neg hm]
   refine Classical.byContradiction λq=>?_
   obtain⟨k',p'⟩:=(r3 u hu).2 (by have:=(r3 u hu).1;omega)
   obtain⟨m,_,hx⟩:=h.low ((kE hc).mpr ⟨k',p'⟩)
   exact hm (bY.mpr ⟨m,hx⟩)
 ·have e:at6 t (to6 t g) u=gB:=by unfold at6;rw[if_neg hu];rfl
  rw[e,if_neg]
  intro q
  obtain⟨v,hv⟩:=bY.mp q
  exact hu ((hk u).mp (h.ke _ (aV.mpr ⟨v,hv⟩)))
end
section
variable {t : Tpl} (hc : aD t = 0)
include hc
theorem AJ{f q:Int}:q∈j9 t f↔(be t f q).2=true:=by
 unfold j9
 rw[List.mem_flatMap]
 constructor
 ·rintro⟨x,hx,h⟩
  split at h
  ·rw[List.mem_singleton.mp h];assumption
  ·cases h
 ·intro h
  have he:=(cm hc (u:=f) (v:=q) (c:=(be t f q).1)).mpr (Prod.ext rfl h)
  obtain⟨r,hr,rfl⟩:=bZ.mp (he.has hc).2
  exact⟨r,hr,by rw[if_pos h];simp⟩
theorem B9{g:Int}(hg:aG t g=true){x m:Int}(h:(x,m)∈cJ (inG t) g):0≤m∧m≤24000:=by
 have hf:=eu (lT hc) (f:=g) (by unfold inG;rw[bu,bC];exact hg)
 have:=hf.pos _ h
 have hl:=BA hc hg
 have:=(aC hc).nr
 simp only at *;omega
theorem J5:A9 (dl t):=by
 have hk:=wB hc
 have e:av (dl t)=t.rs.map (·.id):=by unfold dl;rw[bu]
 refine⟨hk.len,hk.nd,λx hx=>?_,λp hp=>?_⟩
 ·rw[e]at hx
  obtain⟨r,hr,rfl⟩:=List.mem_map.mp hx
  have:=(aC hc).rg r hr;omega
 ·have hm:aB (dl t) p.1 []=p.2:=dD hk.nd hp
  refine⟨?_,λs hs=>hk.to p.1 s (by rw[hm];exact hs)⟩
  rw[←hm,At hc,(jc _).length_eq]
  exact(Au hc _).1
theorem ob{g:Int}(hg:aG t g=false):cJ (inG t) g=[]:=by
 unfold cJ
 rw[if_neg]
 unfold aY
 rw[decide_eq_true_iff]
 unfold inG;rw[bu,bC,hg];simp
end
theorem dq{t:Tpl}{r:Int}:hs5 t r=true↔aD t=0∧aG t r=true:=by unfold hs5;rw[Bool.and_eq_true,beq_iff_eq]
theorem Dw{t:Tpl}{f:Int}(hf:aG t f=false):cJ (dl t) f=[]:=by
 unfold cJ
 rw[if_neg]
 unfold aY
 rw[decide_eq_true_iff]
 unfold dl;rw[bu,bC,hf];simp
def iE(t:Tpl)(f g:Int):List Int:=if hs5 t f=false∨hs5 t g=false then []else eA t (to6 t g) f
def aM(t:Tpl)(f g:Int):Int×Bool:=if hs5 t f=false∨hs5 t g=false then(0,false)else if at6 t (to6 t g) f=1073741824 then(0,false)else(at6 t (to6 t g) f,true)
theorem rU{t:Tpl}(hc:aD t=0)(f g:Int):aM t f g=if aY (cJ (inG t) g) f=true then(aB (cJ (inG t) g) f 0,true)else(0,false):=by
 unfold aM
 by_cases hg:aG t g=true
 ·by_cases hf:aG t f=true
  ·rw[if_neg (by rw[dq.mpr ⟨hc,hf⟩,dq.mpr ⟨hc,hg⟩];simp),zH hc hg f]
   by_cases h:aY (cJ (inG t) g) f=true
   ·have:=B9 hc hg (bI (z:=(0:Int)) h)
    rw[if_pos h,if_pos h,if_neg (by omega)]
   ·rw[if_neg h,if_neg h,if_pos (show gB=1073741824 from rfl)]
  ·have e:hs5 t f=false:=by rw[Bool.eq_false_iff];exact λq=>hf (dq.mp q).2
   rw[if_pos (.inl e),if_neg]
   intro q
   obtain⟨v,hv⟩:=bY.mp q
   have h:=eu (lT hc) (f:=g) (by unfold inG;rw[bu,bC];exact hg)
   have:=h.ke _ (aV.mpr ⟨v,hv⟩)
   unfold inG at this;rw[bu,bC]at this
   exact hf this
 ·have e:hs5 t g=false:=by rw[Bool.eq_false_iff];exact λq=>hg (dq.mp q).2
  rw[if_pos (.inr e),ob hc (by simpa using hg)];rfl
theorem BM{t:Tpl}(hc:aD t=0)(f g:Int):aM t f g=if aY (cJ (dl t) f) g=true then(aB (cJ (dl t) f) g 0,true)else(0,false):=by
 rw[rU hc]
 by_cases hf:aG t f=true
 ·by_cases hg:aG t g=true
  ·have key:∀m,(f,m)∈cJ (inG t) g↔(g,m)∈cJ (dl t) f:=λm=>by rw[nE hc hg,CL hc hf]
   have hF:=eu (lT hc) (f:=g) (by unfold inG;rw[bu,bC];exact hg)
   by_cases h:aY (cJ (inG t) g) f=true
   ·have hm:=bI (z:=(0:Int)) h
    have h2:=(key _).mp hm
    have h3:aY (cJ (dl t) f) g=true:=bY.mpr ⟨_,h2⟩
    have h4:=(key _).mpr (bI (z:=(0:Int)) h3)
    rw[if_pos h,if_pos h3,gn hF.nd hm h4]
   ·have h3:¬aY (cJ (dl t) f) g=true:=λq=>by
     obtain⟨v,hv⟩:=bY.mp q
     exact h (bY.mpr ⟨v,(key v).mpr hv⟩)
    rw[if_neg h,if_neg h3]
  ·rw[ob hc (by simpa using hg)]
   have h3:¬aY (cJ (dl t) f) g=true:=λq=>by
    obtain⟨v,hv⟩:=bY.mp q
    have h:=eu (wB hc) (f:=f) (by unfold dl;rw[bu,bC];exact hf)
    have:=h.ke _ (aV.mpr ⟨v,hv⟩)
    unfold dl at this;rw[bu,bC]at this
    exact hg this
   rw[if_neg h3];rfl
 ·rw[Dw (by simpa using hf)]
  have h3:¬aY (cJ (inG t) g) f=true:=λq=>by
   obtain⟨v,hv⟩:=bY.mp q
   by_cases hg:aG t g=true
   ·have h:=eu (lT hc) (f:=g) (by unfold inG;rw[bu,bC];exact hg)
    have:=h.ke _ (aV.mpr ⟨v,hv⟩)
    unfold inG at this;rw[bu,bC]at this
    exact hf this
   ·rw[ob hc (by simpa using hg)]at hv;cases hv
  rw[if_neg h3];rfl
structure Edg where
  router:Int
  id:Int
  deriving DecidableEq
structure Pln where
  sub:Int
  len:Int
  es:List Edg
  deriving DecidableEq
def Edg.v(x:Edg):AV:=.agg [.int x.router,.int x.id]
theorem i8{es:List AV}(h:bT es=true):dB [es]=true:=by rw[dB,h];rfl
theorem bi.find{α:Type}{l:List α}{t:Int}{x:α}{p:α→Bool}(h:bi l (λy=>p y=false) t)(hx:l[t.toNat]?=some x)(hp:p x=true):l.find? p=some x:=by
 obtain⟨k,rfl,hk,ha⟩:=h
 rw[Int.toNat_natCast]at hx
 rw[List.find?_eq_some_iff_getElem]
 have hlt:=ap hx
 refine⟨hp,k,hlt,by rw[List.getElem?_eq_getElem hlt]at hx;exact Option.some.inj hx,λj hj=>?_⟩
 rw[ha _ (List.mem_take_iff_getElem.mpr ⟨j,by omega,rfl⟩)];rfl
theorem bi.nofind{α:Type}{l:List α}{t:Int}{p:α→Bool}(h:bi l (λy=>p y=false) t)(c:¬t<l.length):l.find? p=none:=by
 rw[List.find?_eq_none]
 exact λx hx=>by rw[h.done c x hx];simp
def inP(n a b:Int):Bool:=decide (a≤n) && decide (n≤b)
theorem FO{n a b:Int}:(!inP n a b)=true↔¬(a≤n∧n≤b):=by
 unfold inP
 by_cases h1:a≤n<;>by_cases h2:n≤b<;>simp[h1,h2]
theorem nF{n a b:Int}:(!inP n a b)=false↔a≤n∧n≤b:=by
 unfold inP
 by_cases h1:a≤n<;>by_cases h2:n≤b<;>simp[h1,h2]
def cY(n:Int):Bool:=decide (n=8∨n=16∨n=32∨n=64)
def Ik(n:Int):=okL [.int n]
def py(r:Bool):AV:=.bool r
def px(n:Int):Ax Tryz.prog noS (Bool):=
 (.br 64 (n==8) (.ret (true))
(.br 128 (n==16) (.ret (true))
(.br 192 (n==32) (.ret (true))
(.ret (n==64)))))
def sM(n:Int)(r0:Bool):=(px n).vp py r0
theorem Ij(n:Int)(ok:Ik n):sM n (cY n):=by
 dsimp only[sM,px,noS,Ax.vp,Ax.vc];simp only[vcU,rfU,List.length_map]
 refine⟨λc=>?_,λc=>⟨λd=>?_,λd=>⟨λe=>?_,λe=>?_⟩⟩⟩
 ·rw[cY,decide_eq_true (.inl (eq_of_beq c))]
 ·rw[cY,decide_eq_true (.inr (.inl (eq_of_beq d)))]
 ·rw[cY,decide_eq_true (.inr (.inr (.inl (eq_of_beq e))))]
 ·have c:¬n=8:=by simpa using c
  have d:¬n=16:=by simpa using d
  have e:¬n=32:=by simpa using e
  rw[cY,Bool.eq_iff_iff,beq_iff_eq,decide_eq_true_eq]
  simp[c,d,e]
def zx(n:Int):PC Tryz.prog:=⟨139,[.k],[.int n],py (cY n),ax.of_ok λok=>aw (sh:=.k) (enc:=py) (a:=(px n).an) (Ij n ok) (by kernel_rfl) (AV.pureB_ok rfl),aq (by kernel_rfl)⟩
def P5(y x:Edg):Bool:=y.router==x.router
def Dj(e:Edg):Prop:=(1≤e.id∧e.id≤256)∧1≤e.router∧e.router≤99
instance (e:Edg):Decidable (Dj e):=by unfold Dj;infer_instance
def pX(p:Pln):Prop:=(0≤p.sub∧p.sub≤7)∧(cY p.len=true∨p.len=0∧p.es=[])∧p.es.length≤24
instance (p:Pln):Decidable (pX p):=by unfold pX;infer_instance
def wv(es:List Edg):Prop:=(∀e∈es,Dj e)∧(es.map Edg.router).Nodup∧(es.map Edg.id).Pairwise (·<·)
instance (es:List Edg):Decidable (wv es):=by unfold wv;infer_instance
def cH(p:Pln):Bool:=decide (pX p) && decide (wv p.es)
def edgG(es:List Edg)(j:Nat)(e:Edg):Prop:=Dj e∧((es.take j).any λy=>P5 y e)=false∧∀e',0<j→es[j-1]?=some e'→e'.id<e.id
theorem th{es:List Edg}:wv es↔∀j e,es[j]?=some e→edgG es j e:=by
 constructor
 ·rintro⟨h1,h2,h3⟩ j e he
  have hj:=ap he
  rw[List.getElem?_eq_getElem hj]at he
  have he:=Option.some.inj he
  rw[List.nodup_iff_pairwise_ne,List.pairwise_map,List.pairwise_iff_getElem]at h2
  rw[List.pairwise_map,List.pairwise_iff_getElem]at h3
  refine⟨h1 e (he ▸ List.getElem_mem hj),?_,λe' h0 he'=>?_⟩
  ·rw[List.any_eq_false]
   intro y hy
   obtain⟨i,hi,rfl⟩:=List.getElem_of_mem hy
   have hi':i<j:=by simp at hi;omega
   rw[List.getElem_take]
   have:=h2 i j (by omega) hj hi'
   rw[he]at this
   simpa[P5]using this
  ·rw[List.getElem?_eq_getElem (by omega)]at he'
   have:=h3 (j-1) j (by omega) hj (by omega)
   rw[he,Option.some.inj he']at this
   exact this
 ·intro h
  refine⟨λe he=>?_,?_,?_⟩
  ·obtain⟨j,hj⟩:=List.getElem?_of_mem he
   exact(h j e hj).1
  ·rw[List.nodup_iff_pairwise_ne,List.pairwise_map,List.pairwise_iff_getElem]
   intro i j hi hj hij
   have:=(h j _ (List.getElem?_eq_getElem hj)).2.1
   rw[List.any_eq_false]at this
   have:=this es[i] (List.mem_take_iff_getElem.mpr ⟨i,by omega,rfl⟩)
   simpa[P5]using this
  ·rw[List.pairwise_map]
   refine iX.done (l:=es) (R:=λa b=>a.id<b.id) (t:=((es.length+1:Nat):Int)) ⟨es.length+1,rfl,by omega,by omega,λj x y hj hx hy=>?_⟩ (by omega) λx y z q r=>Int.lt_trans q r
   exact(h (j+1) y hy).2.2 x (by omega) (by simpa using hx)
abbrev sL:=cY
def Ii(n:Int):=okL [.int n]
def pv(r:Bool):AV:=.bool r
def pr(n:Int):Ax Tryz.prog noS (Bool):=
 (.br 64 (n==8) (.ret (true))
(.br 128 (n==16) (.ret (true))
(.br 192 (n==32) (.ret (true))
(.ret (n==64)))))
def sK(n:Int)(r0:Bool):=(pr n).vp pv r0
theorem Ig(n:Int)(ok:Ii n):sK n (sL n):=by
 dsimp only[sK,pr,noS,Ax.vp,Ax.vc];simp only[vcU,rfU,List.length_map]
 refine⟨λc=>?_,λc=>⟨λd=>?_,λd=>⟨λe=>?_,λe=>?_⟩⟩⟩
 ·rw[sL,cY,decide_eq_true (.inl (eq_of_beq c))]
 ·rw[sL,cY,decide_eq_true (.inr (.inl (eq_of_beq d)))]
 ·rw[sL,cY,decide_eq_true (.inr (.inr (.inl (eq_of_beq e))))]
 ·have c:¬n=8:=by simpa using c
  have d:¬n=16:=by simpa using d
  have e:¬n=32:=by simpa using e
  rw[sL,cY,Bool.eq_iff_iff,beq_iff_eq,decide_eq_true_eq]
  simp[c,d,e]
def Ih(n:Int):PC Tryz.prog:=⟨72,[.k],[.int n],pv (cY n),ax.of_ok λok=>aw (sh:=.k) (enc:=pv) (a:=(pr n).an) (Ig n ok) (by kernel_rfl) (AV.pureB_ok rfl),aq (by kernel_rfl)⟩
abbrev insR:=inP
def OS(n:Int)(low:Int)(high:Int):=okL [.int n,.int low,.int high]
def xk(r:Bool):AV:=.bool r
def xj(n:Int)(low:Int)(high:Int):Ax Tryz.prog noS (Bool):=
 (.br 80 (decide (low≤n)) (.ret (decide (n≤high)))
(.ret (false)))
def Bh(n:Int)(low:Int)(high:Int)(r0:Bool):=(xj n low high).vp xk r0
theorem OR(n a b:Int)(ok:OS n a b):Bh n a b (insR n a b):=by
 dsimp only[Bh,xj,noS,Ax.vp,Ax.vc];simp only[vcU,rfU,List.length_map]
 refine⟨λc=>?_,λc=>?_⟩<;>simp[insR,inP,c]
def xl(n:Int)(low:Int)(high:Int):PC Tryz.prog:=⟨73,[.k,.k,.k],[.int n,.int low,.int high],xk (inP n low high),ax.of_ok λok=>aw (sh:=.k) (enc:=xk) (a:=(xj n low high).an) (OR n low high ok) (by kernel_rfl) (AV.pureB_ok rfl),aq (by kernel_rfl)⟩
def repR(l:List Int):Bool:=!decide l.Nodup
theorem zJ{α:Type}{l:List α}{k:Nat}{y:α}(hy:l[k]?=some y):(l.take (k+1)).Nodup↔(l.take k).Nodup∧∀x∈l.take k,x≠y:=by
 rw[aU hy,List.nodup_append]
 simp
def Ey(l:List Int):=okL [.sl 1 (l.map AV.int) false]
def Jl(l:List Int)(t0:Int):NF:=⟨[(0,.k,.sl 1 (l.map AV.int) false),(3,.k,.int t0)],[]⟩
def Jk(l:List Int)(t0:Int)(t1:Int):NF:=⟨[(0,.k,.sl 1 (l.map AV.int) false),(3,.k,.int t0),(4,.k,.int t1)],[]⟩
@[reducible] def Ex:Nat→Type
 | 0=>Int
 | 1=>Int
 | _=>Unit
def wh(r:Bool):AV:=.bool r
def wg(l:List Int)(I0:Int→Prop)(m0:Int→Nat)(I1:Int→Int→Prop)(m1:Int→Int→Nat):Ax Tryz.prog Ex (Bool):=
 (.loop 0 (Jl l) I0 m0 ((0):Int) [] λ(t0:Int) b0 =>
(.br 64 (decide (t0<((l.map AV.int).length:Int))) (.loop 1 (Jk l t0) (I1 t0) (m1 t0) ((0):Int) [] λ(t1:Int) b1 =>
(.br 48 (decide (t1<t0)) (.elI 80 AV.int l t0 λx1 =>
(.elI 144 AV.int l t1 λx2 =>
(.br 192 (x1==x2) (.ret (true))
(.bk 1 b1 ((W (t1+1)):Int) []))))
(.bk 0 b0 ((W (t0+1)):Int) [])))
(.ret (false))))
def Ad(l:List Int)(I0:Int→Prop)(m0:Int→Nat)(I1:Int→Int→Prop)(m1:Int→Int→Nat)(r0:Bool):=(wg l I0 m0 I1 m1).vp wh r0
theorem NP(l:List Int)(ok:Ey l):∃I0 m0 I1 m1,Ad l I0 m0 I1 m1 (repR l):=by
 refine⟨λt=>∃k:Nat,t=k∧k≤l.length∧(l.take k).Nodup,λt=>l.length-t.toNat,λs t=>∃j:Nat,t=j∧t≤s∧∀y,l[s.toNat]?=some y→∀x∈l.take j,x≠y,λs t=>s.toNat-t.toNat,?_⟩
 simp only[Ey,okU,Blk.ok,aL,List.length_map]at ok
 dsimp only[Ad,wg,Ex,Ax.vp,Ax.vc];simp only[vcU,rfU,List.length_map]
 refine⟨⟨0,rfl,by omega,by simp⟩,?_⟩
 rintro _ ⟨k,rfl,hk,h⟩
 refine⟨λc=>⟨⟨0,rfl,by omega,by simp⟩,?_⟩,λc=>?_⟩
 ·rintro _ ⟨j,rfl,hj,g⟩
  have hy:=List.getElem?_eq_getElem (show k<l.length by omega)
  simp only[Int.toNat_natCast]at g ⊢
  refine⟨λd=>⟨by omega,by omega,λy hy'=>⟨by omega,by omega,λx hx=>⟨λe=>?_,λe=>?_⟩⟩⟩,λd=>?_⟩
  ·have e:=eq_of_beq e
   have:¬l.Nodup:=λq=>by
    have:=(zJ hy').mp (q.sublist (List.take_sublist _ _))
    exact this.2 x (List.mem_take_iff_getElem.mpr ⟨j,by omega,by rw[List.getElem?_eq_getElem (by omega)]at hx;exact Option.some.inj hx⟩) e.symm
   rw[repR,decide_eq_false this];rfl
  ·rw[bM (n:=l.length) (by omega) (by omega)]
   refine⟨⟨j+1,rfl,by omega,λz hz w hw=>?_⟩,by omega⟩
   rw[aU hx]at hw
   rcases List.mem_append.mp hw with hw|hw
   ·exact g z hz w hw
   ·rw[List.mem_singleton]at hw
    rw[hy']at hz;cases hz;subst hw
    exact λq=>by rw[q]at e;simp at e
  ·have:j=k:=by omega
   subst this
   rw[bM (n:=l.length) (by omega) (by omega)]
   exact⟨⟨j+1,rfl,by omega,(zJ hy).mpr ⟨h,g _ hy⟩⟩,by omega⟩
 ·rw[List.take_of_length_le (by omega)]at h
  rw[repR,decide_eq_true h];rfl
def NQ(l:List Int):PC Tryz.prog:=⟨97,[(.s 1)],[.sl 1 (l.map AV.int) false],wh (repR l),ax.of_ok λok=>(NP l ok).elim λI0 h=>h.elim λm0 h=>h.elim λI1 h=>h.elim λm1 h=>aw (sh:=.k) (enc:=wh) (a:=(wg l I0 m0 I1 m1).an) h (by kernel_rfl) (AV.pureB_ok rfl),aq (by kernel_rfl)⟩
def zw(p:Pln):=okL [.agg [.int p.sub,.int p.len,.sl 2 (p.es.map Edg.v) false]]
def DF(p:Pln)(t0:Bool):NF:=⟨[(1,.k,.ref 0 0),(32,.k,.bool t0)],[.box (.agg [.int p.sub,.int p.len,.sl 2 (p.es.map Edg.v) false])]⟩
def DE(p:Pln)(t1:Int×List Int):NF:=⟨[(1,.k,.ref 0 0),(3,.k,.vec 1),(4,.k,.int t1.1)],[.box (.agg [.int p.sub,.int p.len,.sl 2 (p.es.map Edg.v) false]),.vec 1 (t1.2.map AV.int) (ae (λ_=>rfl) t1.2)]⟩
def DD(p:Pln)(t1:Int×List Int)(x1:Edg)(t2:Bool):NF:=⟨[(1,.k,.ref 0 0),(3,.k,.vec 1),(4,.k,.int t1.1),(5,.k,.ref 2 0),(70,.k,.bool t2)],[.box (.agg [.int p.sub,.int p.len,.sl 2 (p.es.map Edg.v) false]),.vec 1 (t1.2.map AV.int) (ae (λ_=>rfl) t1.2),.box (.agg [.int x1.router,.int x1.id])]⟩
@[reducible] def zu:Nat→Type
 | 0=>Bool
 | 1=>Int×List Int
 | 2=>Bool
 | _=>Unit
def pq(r:Bool):AV:=.bool r
def po(p:Pln)(I0:Bool→Prop)(I1:Bool→(Int×List Int)→Prop)(m1:Bool→(Int×List Int)→Nat)(I2:Bool→Int×List Int→Edg→Bool→Prop):Ax Tryz.prog zu (Bool):=
 (.pass (.pass (.join 0 (DF p) (λ(t0:Bool)=>I0 t0) (λb0=>(.callP (xl p.sub 0 7)
(.br 112 (!(inP p.sub 0 7)) (.bk 0 b0 ((true):Bool) [0])
(.callP (Ih p.len)
(.br 192 (!(cY p.len)) (.br 256 (p.len != 0) (.bk 0 b0 ((true):Bool) [0])
(.br 384 (decide (0<((p.es.map Edg.v).length:Int))) (.bk 0 b0 ((true):Bool) [0])
(.bk 0 b0 ((decide (24<((p.es.map Edg.v).length:Int))):Bool) [0])))
(.bk 0 b0 ((decide (24<((p.es.map Edg.v).length:Int))):Bool) [0])))))) λ(t0:Bool) =>
(.br 1 t0 (.ret (false))
(.cmdL (.nilT 3 1) (.loop 1 (DE p) (I1 t0) (m1 t0) (0,[]) [0,33] λ(t1:Int×List Int) b1 =>
(.br 82 (decide (t1.1<((p.es.map Edg.v).length:Int))) (.elI 130 Edg.v p.es t1.1 λx1 =>
(.pass (.join 2 (DD p t1 x1) (λ(t2:Bool)=>I2 t0 t1 x1 t2) (λb2=>(.callP (xl x1.id 1 256)
(.br 274 (!(inP x1.id 1 256)) (.bk 2 b2 ((true):Bool) [0,1,162])
(.callP (xl x1.router 1 99)
(.br 370 (!(inP x1.router 1 99)) (.bk 2 b2 ((true):Bool) [0,1,162])
(.br 418 (decide (0<t1.1)) (.elI 482 Edg.v p.es (W (t1.1-1)) λx2 =>
(.bk 2 b2 ((decide (x1.id≤x2.id)):Bool) [0,1,162]))
(.bk 2 b2 ((false):Bool) [0,1,162]))))))) λ(t2:Bool) =>
(.br 3 t2 (.ret (false))
(.apX 67 AV.int t1.2 [x1.router] (t1.2.length+1)
(.bk 1 b1 (W (t1.1+1),t1.2++[x1.router]) [0,67]))))))
(.callP (NQ t1.2)
(.say (ck (dB [(t1.2.map AV.int)])) (.ret (!(repR t1.2))))))))))))
def sJ(p:Pln)(I0:Bool→Prop)(I1:Bool→(Int×List Int)→Prop)(m1:Bool→(Int×List Int)→Nat)(I2:Bool→Int×List Int→Edg→Bool→Prop)(r0:Bool):=(po p I0 I1 m1 I2).vp pq r0
def KD(es:List Edg)(j:Nat)(e:Edg):Prop:=Dj e∧∀e',0<j→es[j-1]?=some e'→e'.id<e.id
theorem oH{es:List Edg}:wv es↔(∀j e,es[j]?=some e→KD es j e)∧(es.map Edg.router).Nodup:=by
 constructor
 ·exact λh=>⟨λj e he=>⟨(th.mp h j e he).1,(th.mp h j e he).2.2⟩,h.2.1⟩
 ·intro h
  refine⟨λe he=>?_,h.2,?_⟩
  ·obtain⟨j,hj⟩:=List.getElem?_of_mem he
   exact(h.1 j e hj).1
  ·rw[List.pairwise_map]
   refine iX.done (l:=es) (R:=λa b=>a.id<b.id) (t:=((es.length+1:Nat):Int)) ⟨es.length+1,rfl,by omega,by omega,λj x y hj hx hy=>?_⟩ (by omega) λx y z q r=>Int.lt_trans q r
   exact(h.1 (j+1) y hy).2 x (by omega) (by simpa using hx)
theorem Ie(p:Pln)(ok:zw p):∃I0 I1 m1 I2,sJ p I0 I1 m1 I2 (cH p):=by
 refine⟨λb=>b=decide (¬pX p),λ_ t=>eK p.es (λe=>[e.router]) t.1 t.2∧∃k:Nat,t.1=k∧∀j e,j<k→p.es[j]?=some e→KD p.es j e,λ_ t=>p.es.length-t.1.toNat,λ_ t x b=>b=true↔¬KD p.es t.1.toNat x,?_⟩
 simp only[zw,okU,Blk.ok,aL,List.length_map]at ok
 dsimp only[sJ,po,zu,Ax.vp,Ax.vc];simp only[vcU,rfU,List.length_map]
 have hes:p.es=[]↔¬0<(p.es.length:Int):=by rw[←List.length_eq_zero_iff];omega
 refine⟨⟨λc=>?_,λc=>⟨λd=>⟨λe=>?_,λe=>⟨λg=>?_,λg=>?_⟩⟩,λd=>?_⟩⟩,?_⟩
 ·have c:¬(0≤p.sub∧p.sub≤7):=FO.mp c
  exact(decide_eq_true (show ¬pX p from λq=>c q.1)).symm
 ·have d:cY p.len=false:=by simpa using d
  have e:p.len≠0:=by simpa using e
  exact(decide_eq_true (show ¬pX p from λq=>by
   rcases q.2.1 with r|r
   ·rw[d]at r;cases r
   ·exact e r.1)).symm
 ·have d:cY p.len=false:=by simpa using d
  exact(decide_eq_true (show ¬pX p from λq=>by
   rcases q.2.1 with r|r
   ·rw[d]at r;cases r
   ·exact hes.mp r.2 g)).symm
 ·have c:0≤p.sub∧p.sub≤7:=nF.mp c
  have e:p.len=0:=by simpa using e
  rw[decide_eq_decide]
  unfold pX
  rw[and_iff_right c,and_iff_right (.inr ⟨e,hes.mpr g⟩)]
  omega
 ·have c:0≤p.sub∧p.sub≤7:=nF.mp c
  have d:cY p.len=true:=by simpa using d
  rw[decide_eq_decide]
  unfold pX
  rw[and_iff_right c,and_iff_right (.inl d)]
  omega
 rintro _ rfl
 refine⟨λc=>?_,λc=>⟨⟨eK.zero,0,rfl,λj e h=>by omega⟩,?_⟩⟩
 ·rw[cH,decide_eq_false (of_decide_eq_true c)];rfl
 have c:=Classical.not_not.mp (of_decide_eq_false c)
 have hl:=c.2.2
 rintro⟨i,out⟩ ⟨hx0,k,hi,h⟩
 simp only at hi hx0 ⊢
 have hlen:=hx0.len (b:=1) (by simp)
 have h0:=hx0.idx
 refine⟨λd=>⟨h0,d,λx hx=>⟨?_,?_⟩⟩,λd=>?_⟩
 ·refine⟨λe1=>?_,λe1=>⟨λe2=>?_,λe2=>⟨λe4=>?_,λe4=>?_⟩⟩⟩
  ·have e1:¬(1≤x.id∧x.id≤256):=FO.mp e1
   exact iff_of_true trivial λq=>e1 q.1.1
  ·have e2:¬(1≤x.router∧x.router≤99):=FO.mp e2
   exact iff_of_true trivial λq=>e2 q.1.2
  ·have e1:1≤x.id∧x.id≤256:=nF.mp e1
   have e2:1≤x.router∧x.router≤99:=nF.mp e2
   subst hi
   rw[jL (by omega) (by omega)]
   refine⟨by omega,by omega,λy hy=>?_⟩
   rw[Int.toNat_natCast]at hy
   simp only[Int.toNat_natCast,decide_eq_true_eq]
   constructor
   ·exact λq r=>by have:=r.2 y (by omega) hy;omega
   ·intro q
    refine Classical.byContradiction λr=>q ⟨⟨e1,e2⟩,λy' _ hy'=>?_⟩
    rw[hy]at hy';cases hy';omega
  ·have e1:1≤x.id∧x.id≤256:=nF.mp e1
   have e2:1≤x.router∧x.router≤99:=nF.mp e2
   exact iff_of_false Bool.false_ne_true λq=>q ⟨⟨e1,e2⟩,λy' h0 _=>by omega⟩
 ·intro b hb
  refine⟨λe=>?_,λe=>?_⟩
  ·have:¬wv p.es:=λq=>hb.mp e ((oH.mp q).1 i.toNat x hx)
   rw[cH,decide_eq_false this,Bool.and_false]
  ·have hg:KD p.es i.toNat x:=Classical.not_not.mp λq=>by rw[hb.mpr q]at e;cases e
   obtain⟨a1,a2⟩:=hx0.step (out':=out++[x.router]) (by omega) hx rfl
   refine⟨by omega,⟨a1,k+1,?_,λj y hj hy=>?_⟩,a2⟩
   ·rw[dm (by omega)];omega
   ·by_cases e':j=k
    ·subst e';subst hi
     rw[Int.toNat_natCast]at hx hg
     rw[hx]at hy;cases hy;exact hg
    ·exact h j y (by omega) hy
 ·have hd:=hx0.done d
  rw[ul]at hd
  have:wv p.es↔(p.es.map Edg.router).Nodup:=by
   rw[oH]
   exact⟨λq=>q.2,λq=>⟨λj e he=>h j e (by have:=ap he;omega) he,q⟩⟩
  refine⟨i8 (ae (λ_=>rfl) _),?_⟩
  rw[cH,decide_eq_true c,decide_eq_decide.mpr this,hd,repR,Bool.not_not];rfl
def If(p:Pln):PC Tryz.prog:=⟨59,[(.a [.k,.k,(.s 2)])],[.agg [.int p.sub,.int p.len,.sl 2 (p.es.map Edg.v) false]],pq (cH p),ax.of_ok λok=>(Ie p ok).elim λI0 h=>h.elim λI1 h=>h.elim λm1 h=>h.elim λI2 h=>aw (sh:=.k) (enc:=pq) (a:=(po p I0 I1 m1 I2).an) h (by kernel_rfl) (AV.pureB_ok rfl),aq (by kernel_rfl)⟩
def GC(x:Int)(n:Int):=okL [.int x,.int n]
def yf(r:Int):AV:=.int r
def ye(x:Int)(n:Int):Ax Tryz.prog noS (Int):=
 (.br 48 (decide (n<1)) (.ret (0))
(.say (ck (!(n==0))) (.br 144 (decide ((x.tmod n)<0)) (.ret (W ((x.tmod n)+n)))
(.ret (x.tmod n)))))
def BG(x:Int)(n:Int)(r0:Int):=(ye x n).vp yf r0
theorem PO(x n:Int)(ok:GC x n):BG x n (Mod x n):=by
 simp only[GC,okU,Blk.ok,aL,List.length_map]at ok
 dsimp only[BG,ye,noS,Ax.vp,Ax.vc];simp only[vcU,rfU,List.length_map]
 refine⟨λh=>by rw[Mod,if_pos h],λh=>⟨by simp;omega,λh2=>?_,λh2=>by rw[Mod,if_neg h,if_neg h2]⟩⟩
 have hb:=Int.tmod_lt_of_pos x (show 0<n by omega)
 have hb':=Int.lt_tmod_of_pos x (show 0<n by omega)
 rw[Mod,if_neg h,if_pos h2,dm (by omega)]
def PP(x:Int)(n:Int):PC Tryz.prog:=⟨89,[.k,.k],[.int x,.int n],yf (Mod x n),ax.of_ok λok=>aw (sh:=.k) (enc:=yf) (a:=(ye x n).an) (PO x n ok) (by kernel_rfl) (AV.pureB_ok rfl),aq (by kernel_rfl)⟩
def EA(L:List Int)(p:Int):=okL [.ref 0 0]∧(.box (.agg [.sl 1 (L.map AV.int) false,.int p]):Blk).ok
def E9(r:zm×Int):AV:=.int r.2
def wl(r:zm×Int):List (Option Blk):=[some (.box (.agg [.sl 1 (r.1.L.map AV.int) false,.int r.1.p]))]
def wk(L:List Int)(p:Int):Ax Tryz.prog noS (zm×Int):=
 (.br 177 (decide (((L.map AV.int).length:Int)≤p)) (.retH ((⟨L,p⟩:zm),0) ⟨[(2,.k,.int 0)],[.box (.agg [.sl 1 (L.map AV.int) false,.int p])]⟩ [0])
(.elI 449 AV.int L (W ((W (p+1))-1)) λx1 =>
(.retH ((⟨L,W (p+1)⟩:zm),x1) ⟨[(2,.k,.int x1)],[.box (.agg [.sl 1 (L.map AV.int) false,.int (W (p+1))])]⟩ [0])))
def pU(L:List Int)(p:Int)(r0:zm×Int):=(wk L p).vc E9 wl r0
theorem Js(L:List Int)(p:Int)(r0:zm×Int)(h:pU L p r0):aO Tryz.prog 90 [.ref 0 0] [.box (.agg [.sl 1 (L.map AV.int) false,.int p])] (E9 r0) (wl r0):=dX (sh:=.k) (hB:=wl) (a:=(wk L p).an) h (by kernel_rfl)
theorem NV(L:List Int)(p:Nat)(ok:EA L p):pU L p (⟨L,ab L p⟩,au L p):=by
 simp only[EA,okU,Blk.ok,aL,List.length_map]at ok
 dsimp only[pU,wk,noS,Ax.vp,Ax.vc];simp only[vcU,rfU,List.length_map]
 refine⟨λh=>?_,λh=>?_⟩
 ·rw[ab,if_pos (by omega)];simp[au,List.getElem?_eq_none (show L.length≤p by omega)]
 ·have e1:W ((p:Int)+1)=p+1:=dm (by omega)
  have e2:W ((p:Int)+1-1)=p:=by rw[dm (by omega)];omega
  rw[e1,e2]
  refine⟨by omega,by omega,λx hx=>?_⟩
  rw[Int.toNat_natCast]at hx
  rw[ab,if_neg (by omega)];simp[au,hx]
theorem CF(L:List Int)(p:Nat):aO Tryz.prog 90 [.ref 0 0] [.box (Tap.v ⟨L,p⟩)] (.int (au L p)) [some (.box (Tap.v ⟨L,ab L p⟩))]:=
 aO.of_okh λok ok2=>Js L p _ (NV L p ⟨ok,ok2 _ (List.mem_singleton.mpr rfl)⟩)
def NW(L:List Int)(p:Nat):HC Tryz.prog:=⟨90,[],[.ref 0 0],[.box (Tap.v ⟨L,p⟩)],.int (au L p),[some (.box (Tap.v ⟨L,ab L p⟩))],CF L p,aq (by kernel_rfl),gc.of rfl⟩
def Ff(L:List Int)(p:Nat)(n:Int):=okL [.ref 0 0,.int n]∧(.box (.agg [.sl 1 (L.map AV.int) false,.int p]):Blk).ok
def q9(r:Tap×Int):AV:=.int r.2
def qA(r:Tap×Int):List (Option Blk):=[some (.box (.agg [.sl 1 (r.1.L.map AV.int) false,.int r.1.p]))]
def wN(L:List Int)(p:Nat)(n:Int):Ax Tryz.prog noS (Tap×Int):=
 (.callH [0] (NW L p) 33
(.callP (PP (au L p) n)
(.retH ((⟨L,ab L p⟩:Tap),Mod (au L p) n) ⟨[(4,.k,.int (Mod (au L p) n))],[.box (.agg [.sl 1 (L.map AV.int) false,.int (ab L p)])]⟩ [0])))
def AD(L:List Int)(p:Nat)(n:Int)(r0:Tap×Int):=(wN L p n).vc q9 qA r0
theorem Oy(L:List Int)(p:Nat)(n:Int)(ok:Ff L p n):AD L p n (⟨L,ab L p⟩,Mod (au L p) n):=by
 dsimp only[AD,wN,noS,Ax.vp,Ax.vc];simp only[vcU,rfU,List.length_map]
def bR(L:List Int)(p:Nat)(n:Int):HC Tryz.prog:=⟨44,[.k,.k],[.ref 0 0,.int n],[.box (.agg [.sl 1 (L.map AV.int) false,.int p])],q9 ((⟨L,ab L p⟩,Mod (au L p) n):Tap×Int),qA ((⟨L,ab L p⟩,Mod (au L p) n):Tap×Int),aO.of_okh λok ok2=>have ok:Ff L p n:=⟨ok,ok2 _ (by simp)⟩;dX (sh:=.k) (enc:=q9) (hB:=qA) (a:=(wN L p n).an) (Oy L p n ok) (by kernel_rfl),aq (by kernel_rfl),gc.of (by simp[hcB,dG,AV.belB,allB,fJ,eT,q9,qA,ae (v:=AV.int) (λ_=>rfl)])⟩
def Eo(L:List Int)(p:Nat)(low:Int)(high:Int):=okL [.ref 0 0,.int low,.int high]∧(.box (.agg [.sl 1 (L.map AV.int) false,.int p]):Blk).ok
def pL(r:Tap×Int):AV:=.int r.2
def pM(r:Tap×Int):List (Option Blk):=[some (.box (.agg [.sl 1 (r.1.L.map AV.int) false,.int r.1.p]))]
def wa(L:List Int)(p:Nat)(low:Int)(high:Int):Ax Tryz.prog noS (Tap×Int):=
 (.callH [0] (bR L p (W ((W (high-low))+1))) 113
(.retH ((⟨L,ab L p⟩:Tap),W (low+(Mod (au L p) (W ((W (high-low))+1))))) ⟨[(6,.k,.int (W (low+(Mod (au L p) (W ((W (high-low))+1))))))],[.box (.agg [.sl 1 (L.map AV.int) false,.int (ab L p)])]⟩ [0]))
def zW(L:List Int)(p:Nat)(low:Int)(high:Int)(r0:Tap×Int):=(wa L p low high).vc pL pM r0
theorem NK(L:List Int)(p:Nat)(lo hi:Int)(ok:Eo L p lo hi):zW L p lo hi (⟨L,ab L p⟩,rng L p lo hi):=by
 dsimp only[zW,wa,noS,Ax.vp,Ax.vc];simp only[vcU,rfU,List.length_map]
 rfl
def fG(L:List Int)(p:Nat)(low:Int)(high:Int):HC Tryz.prog:=⟨20,[.k,.k,.k],[.ref 0 0,.int low,.int high],[.box (.agg [.sl 1 (L.map AV.int) false,.int p])],pL ((⟨L,ab L p⟩,rng L p low high):Tap×Int),pM ((⟨L,ab L p⟩,rng L p low high):Tap×Int),aO.of_okh λok ok2=>have ok:Eo L p low high:=⟨ok,ok2 _ (by simp)⟩;dX (sh:=.k) (enc:=pL) (hB:=pM) (a:=(wa L p low high).an) (NK L p low high ok) (by kernel_rfl),aq (by kernel_rfl),gc.of (by simp[hcB,dG,AV.belB,allB,fJ,eT,pL,pM,ae (v:=AV.int) (λ_=>rfl)])⟩
def EO(L:List Int)(p:Nat)(l:List Int):=okL [.ref 0 0,.sl 1 (l.map AV.int) false]∧(.box (.agg [.sl 1 (L.map AV.int) false,.int p]):Blk).ok
def qd(r:Tap×Int):AV:=.int r.2
def qe(r:Tap×Int):List (Option Blk):=[some (.box (.agg [.sl 1 (r.1.L.map AV.int) false,.int r.1.p]))]
def wA(L:List Int)(p:Nat)(l:List Int):Ax Tryz.prog noS (Tap×Int):=
 (.callH [0] (bR L p ((l.map AV.int).length:Int)) 81
(.elI 97 AV.int l (Mod (au L p) ((l.map AV.int).length:Int)) λx1 =>
(.retH ((⟨L,ab L p⟩:Tap),x1) ⟨[(4,.k,.int x1)],[.box (.agg [.sl 1 (L.map AV.int) false,.int (ab L p)])]⟩ [0])))
def As(L:List Int)(p:Nat)(l:List Int)(r0:Tap×Int):=(wA L p l).vc qd qe r0
theorem Od(L:List Int)(p:Nat)(l:List Int)(hl:l≠[])(ok:EO L p l):As L p l (⟨L,ab L p⟩,bf l (au L p)):=by
 have hl:0<l.length:=List.length_pos_iff.mpr hl
 have hm:=cU (x:=au L p) (show 1≤(l.length:Int) by omega)
 dsimp only[As,wA,noS,Ax.vp,Ax.vc];simp only[vcU,rfU,List.length_map]
 refine⟨by omega,by omega,λx hx=>?_⟩
 rw[bf,List.getD_eq_getElem?_getD,hx];rfl
def iB(L:List Int)(p:Nat)(l:List Int)(hl:l≠[]):HC Tryz.prog:=⟨43,[.k,(.s 1)],[.ref 0 0,.sl 1 (l.map AV.int) false],[.box (.agg [.sl 1 (L.map AV.int) false,.int p])],qd ((⟨L,ab L p⟩,bf l (au L p)):Tap×Int),qe ((⟨L,ab L p⟩,bf l (au L p)):Tap×Int),aO.of_okh λok ok2=>have ok:EO L p l:=⟨ok,ok2 _ (by simp)⟩;dX (sh:=.k) (enc:=qd) (hB:=qe) (a:=(wA L p l).an) (Od L p l hl ok) (by kernel_rfl),aq (by kernel_rfl),gc.of (by simp[hcB,dG,AV.belB,allB,fJ,eT,qd,qe,ae (v:=AV.int) (λ_=>rfl)])⟩
def fI(L:List Int)(p:Nat)(n:Int):Bool:=Mod (au L p) n==W (n-1)
def Fa(L:List Int)(p:Nat)(n:Int):=okL [.ref 0 0,.int n]∧(.box (.agg [.sl 1 (L.map AV.int) false,.int p]):Blk).ok
def qv(r:Tap×Bool):AV:=.bool r.2
def qw(r:Tap×Bool):List (Option Blk):=[some (.box (.agg [.sl 1 (r.1.L.map AV.int) false,.int r.1.p]))]
def wK(L:List Int)(p:Nat)(n:Int):Ax Tryz.prog noS (Tap×Bool):=
 (.callH [0] (bR L p n) 49
(.retH ((⟨L,ab L p⟩:Tap),(Mod (au L p) n)==(W (n-1))) ⟨[(4,.k,.bool ((Mod (au L p) n)==(W (n-1))))],[.box (.agg [.sl 1 (L.map AV.int) false,.int (ab L p)])]⟩ [0]))
def A7(L:List Int)(p:Nat)(n:Int)(r0:Tap×Bool):=(wK L p n).vc qv qw r0
theorem Ou(L:List Int)(p:Nat)(n:Int)(ok:Fa L p n):A7 L p n (⟨L,ab L p⟩,fI L p n):=by
 dsimp only[A7,wK,noS,Ax.vp,Ax.vc];simp only[vcU,rfU,List.length_map]
 rfl
def lm(L:List Int)(p:Nat)(n:Int):HC Tryz.prog:=⟨33,[.k,.k],[.ref 0 0,.int n],[.box (.agg [.sl 1 (L.map AV.int) false,.int p])],qv ((⟨L,ab L p⟩,fI L p n):Tap×Bool),qw ((⟨L,ab L p⟩,fI L p n):Tap×Bool),aO.of_okh λok ok2=>have ok:Fa L p n:=⟨ok,ok2 _ (by simp)⟩;dX (sh:=.k) (enc:=qv) (hB:=qw) (a:=(wK L p n).an) (Ou L p n ok) (by kernel_rfl),aq (by kernel_rfl),gc.of (by simp[hcB,dG,AV.belB,allB,fJ,eT,qv,qw,ae (v:=AV.int) (λ_=>rfl)])⟩
def wldL:List Int:=[-1,0,1,7,8,23,24,31,32,63,64,99,100,255,256,257,1000,1001,1023,1024,1000000,1000001,1099511627776,9223372036854775807,-9223372036854775808]
def ei(L:List Int)(p:Nat):Int:=bf wldL (au L p)
def DA(L:List Int)(p:Nat):=okL [.ref 0 0]∧(.box (.agg [.sl 1 (L.map AV.int) false,.int p]):Blk).ok
def pm(r:Tap×Int):AV:=.int r.2
def pn(r:Tap×Int):List (Option Blk):=[some (.box (.agg [.sl 1 (r.1.L.map AV.int) false,.int r.1.p]))]
def vu(L:List Int)(p:Nat):Ax Tryz.prog noS (Tap×Int):=
 (.req 49 ([-1,0,1,7,8,23,24,31,32,63,64,99,100,255,256,257,1000,1001,1023,1024,1000000,1000001,1099511627776,9223372036854775807,-9223372036854775808]≠[]) λh1 =>
(.callH [0] (iB L p [-1,0,1,7,8,23,24,31,32,63,64,99,100,255,256,257,1000,1001,1023,1024,1000000,1000001,1099511627776,9223372036854775807,-9223372036854775808] h1) 49
(.retH ((⟨L,ab L p⟩:Tap),bf [-1,0,1,7,8,23,24,31,32,63,64,99,100,255,256,257,1000,1001,1023,1024,1000000,1000001,1099511627776,9223372036854775807,-9223372036854775808] (au L p)) ⟨[(2,.k,.int (bf [-1,0,1,7,8,23,24,31,32,63,64,99,100,255,256,257,1000,1001,1023,1024,1000000,1000001,1099511627776,9223372036854775807,-9223372036854775808] (au L p)))],[.box (.agg [.sl 1 (L.map AV.int) false,.int (ab L p)])]⟩ [0])))
def zr(L:List Int)(p:Nat)(r0:Tap×Int):=(vu L p).vc pm pn r0
theorem Nh(L:List Int)(p:Nat)(ok:DA L p):zr L p (⟨L,ab L p⟩,ei L p):=by
 dsimp only[zr,vu,noS,Ax.vp,Ax.vc];simp only[vcU,rfU,List.length_map]
 exact⟨by simp,rfl⟩
def kX(L:List Int)(p:Nat):HC Tryz.prog:=⟨46,[.k],[.ref 0 0],[.box (.agg [.sl 1 (L.map AV.int) false,.int p])],pm ((⟨L,ab L p⟩,ei L p):Tap×Int),pn ((⟨L,ab L p⟩,ei L p):Tap×Int),aO.of_okh λok ok2=>have ok:DA L p:=⟨ok,ok2 _ (by simp)⟩;dX (sh:=.k) (enc:=pm) (hB:=pn) (a:=(vu L p).an) (Nh L p ok) (by kernel_rfl),aq (by kernel_rfl),gc.of (by simp[hcB,dG,AV.belB,allB,fJ,eT,pm,pn,ae (v:=AV.int) (λ_=>rfl)])⟩
def Kk:List Int:=[8,8,16,32,64]
def d7(L:List Int)(p:Nat):Int:=bf Kk (au L p)
def FC(L:List Int)(p:Nat):=okL [.ref 0 0]∧(.box (.agg [.sl 1 (L.map AV.int) false,.int p]):Blk).ok
def qT(r:Tap×Int):AV:=.int r.2
def qU(r:Tap×Int):List (Option Blk):=[some (.box (.agg [.sl 1 (r.1.L.map AV.int) false,.int r.1.p]))]
def xd(L:List Int)(p:Nat):Ax Tryz.prog noS (Tap×Int):=
 (.req 49 ([8,8,16,32,64]≠[]) λh1 =>
(.callH [0] (iB L p [8,8,16,32,64] h1) 49
(.retH ((⟨L,ab L p⟩:Tap),bf [8,8,16,32,64] (au L p)) ⟨[(2,.k,.int (bf [8,8,16,32,64] (au L p)))],[.box (.agg [.sl 1 (L.map AV.int) false,.int (ab L p)])]⟩ [0])))
def Ba(L:List Int)(p:Nat)(r0:Tap×Int):=(xd L p).vc qT qU r0
theorem OM(L:List Int)(p:Nat)(ok:FC L p):Ba L p (⟨L,ab L p⟩,d7 L p):=by
 dsimp only[Ba,xd,noS,Ax.vp,Ax.vc];simp only[vcU,rfU,List.length_map]
 exact⟨by simp,rfl⟩
def ON(L:List Int)(p:Nat):HC Tryz.prog:=⟨56,[.k],[.ref 0 0],[.box (.agg [.sl 1 (L.map AV.int) false,.int p])],qT ((⟨L,ab L p⟩,d7 L p):Tap×Int),qU ((⟨L,ab L p⟩,d7 L p):Tap×Int),aO.of_okh λok ok2=>have ok:FC L p:=⟨ok,ok2 _ (by simp)⟩;dX (sh:=.k) (enc:=qT) (hB:=qU) (a:=(xd L p).an) (OM L p ok) (by kernel_rfl),aq (by kernel_rfl),gc.of (by simp[hcB,dG,AV.belB,allB,fJ,eT,qT,qU,ae (v:=AV.int) (λ_=>rfl)])⟩
def Fm(l:List Int):=okL [.sl 1 (l.map AV.int) false]
def qC(r:Tap):AV:=.ref 0 0
def qD(r:Tap):List (Option Blk):=[some (.box (.agg [.sl 1 (r.L.map AV.int) false,.int r.p]))]
def wR(l:List Int):Ax Tryz.prog noS (Tap):=
 (.br 64 (decide (600<((l.map AV.int).length:Int))) (.say (λR=>Rf (α:=List AV) (l.map AV.int) (ck (gI l.length 0 600 (l.length:Int))
R)) (.sub 80 AV.int l false
(.retH (⟨(l.take 600).drop 0,0⟩:Tap) ⟨[(2,.k,.ref 0 0)],[.box (.agg [.sl 1 (((l.take 600).drop 0).map AV.int) false,.int 0])]⟩ [144])))
(.retH (⟨l,0⟩:Tap) ⟨[(2,.k,.ref 0 0)],[.box (.agg [.sl 1 (l.map AV.int) false,.int 0])]⟩ [96]))
def AI(l:List Int)(r0:Tap):=(wR l).vc qC qD r0
theorem O2(t:List Int)(ok:Fm t):AI t ⟨t.take 600,0⟩:=by
 simp only[Fm,okU,Blk.ok,aL,List.length_map]at ok
 dsimp only[AI,wR,noS,Ax.vp,Ax.vc];simp only[vcU,rfU,List.length_map]
 refine⟨λh=>⟨by simp[gI];omega,by rw[List.drop_zero]⟩,λh=>by rw[List.take_of_length_le (by omega)]⟩
def O3(l:List Int):HC Tryz.prog:=⟨7,[(.s 1)],[.sl 1 (l.map AV.int) false],[],qC (⟨l.take 600,0⟩:Tap),qD (⟨l.take 600,0⟩:Tap),aO.of_okh λok _=>dX (sh:=.k) (enc:=qC) (hB:=qD) (a:=(wR l).an) (O2 l ok) (by kernel_rfl),aq (by kernel_rfl),gc.of (by simp[hcB,dG,AV.belB,allB,fJ,eT,qC,qD,ae (v:=AV.int) (λ_=>rfl)])⟩
def o6(L:List Int):Nat→Int→List Int→Nat→List Int×Nat
 | 0,_,out,p=>(out,p)
 | n+1,i,out,p=>o6 L n (i+1) (bD out (Mod (au L p) (out.length+1)).toNat i) (ab L p)
def fk(L:List Int)(n:Int)(p:Nat):List Int×Nat:=o6 L n.toNat 0 [] p
theorem gq{α:Type}(l:List α)(k:Nat)(x:α)(h:k≤l.length):(bD l k x).length=l.length+1:=by
 unfold bD;simp;omega
theorem n9{α:Type}(l:List α)(k:Nat)(x:α):(bD l k x).Perm (x::l):=by
 unfold bD
 have:=(List.perm_middle (a:=x) (l₁:=l.take k) (l₂:=l.drop k))
 rw[List.take_append_drop]at this
 simpa[List.append_assoc]using this
theorem A6{L:List Int}:∀{n:Nat} {i:Int} {out:List Int} {p:Nat},out.Nodup→(∀x∈out,0≤x∧x<i)→0≤i →
  (o6 L n i out p).1.Nodup∧∀x∈(o6 L n i out p).1,0≤x∧x<i+n
 | 0,i,out,p,h1,h2,h0=>⟨h1,λx hx=>by have:=h2 x hx;omega⟩
 | n+1,i,out,p,h1,h2,h0=>by
  rw[o6]
  have hp:=n9 out (Mod (au L p) (out.length+1)).toNat i
  obtain⟨a,b⟩:=A6 (L:=L) (n:=n) (i:=i+1) (out:=bD out (Mod (au L p) (out.length+1)).toNat i) (p:=ab L p)
   (hp.nodup_iff.mpr (List.nodup_cons.mpr ⟨λhi=>by have:=h2 i hi;omega,h1⟩))
   (λx hx=>by
    rcases List.mem_cons.mp (hp.mem_iff.mp hx)with rfl|hx
    ·omega
    ·have:=h2 x hx;omega) (by omega)
  exact⟨a,λx hx=>by have:=b x hx;omega⟩
theorem nb{L:List Int}{n:Int}{p:Nat}(h:0≤n):(fk L n p).1.Nodup∧∀x∈(fk L n p).1,0≤x∧x<n:=by
 obtain⟨a,b⟩:=A6 (L:=L) (n:=n.toNat) (i:=0) (out:=[]) (p:=p) List.nodup_nil (by simp) (by omega)
 exact⟨a,λx hx=>by have:=b x hx;omega⟩
theorem l4{α:Type}{l:List α}{k:Nat}{x:α}:(((l.take k).drop 0)++[x])++((l.take ((l.length:Int).toNat)).drop k)=bD l k x:=by rw[List.append_assoc,CT]
def EW(L:List Int)(p:Nat)(n:Int):=okL [.ref 0 0,.int n]∧(.box (.agg [.sl 1 (L.map AV.int) false,.int p]):Blk).ok
def JJ(L:List Int)(n:Int)(t0:Int×Nat×List Int):NF:=⟨[(0,.k,.ref 0 0),(1,.k,.int n),(5,.k,.vec 1),(6,.k,.int t0.1)],[.box (.agg [.sl 1 (L.map AV.int) false,.int t0.2.1]),.vec 1 (t0.2.2.map AV.int) (ae (λ_=>rfl) t0.2.2)]⟩
@[reducible] def EV:Nat→Type
 | 0=>Int×Nat×List Int
 | _=>Unit
def qr(r:Tap×List Int):AV:=.sl 1 (r.2.map AV.int) false
def qt(r:Tap×List Int):List (Option Blk):=[some (.box (.agg [.sl 1 (r.1.L.map AV.int) false,.int r.1.p]))]
def wH(L:List Int)(p:Nat)(n:Int)(I0:(Int×Nat×List Int)→Prop)(m0:(Int×Nat×List Int)→Nat):Ax Tryz.prog EV (Tap×List Int):=
 (.cmdL (.nilT 5 1) (.loop 0 (JJ L n) I0 m0 (0,p,[]) [0,49] λ(t0:Int×Nat×List Int) b0 =>
(.br 50 (decide (t0.1<n)) (.callH [0] (bR L t0.2.1 (W (t0.1+1))) 98
(.wait (.say (Rf (t0.2.2.map AV.int)) (.cmd (.frzE 1 (t0.2.2.map AV.int) (ae (λ_=>rfl) t0.2.2)) (.say (λR=>Rf (α:=List AV) (t0.2.2.map AV.int) (ck (gI t0.2.2.length 0 (Mod (au L t0.2.1) (W (t0.1+1))) (t0.2.2.length:Int))
R)) (.sub 194 AV.int t0.2.2 false
(.apX 210 AV.int [] ((t0.2.2.take ((Mod (au L t0.2.1) (W (t0.1+1))).toNat)).drop 0) (0+((t0.2.2.take ((Mod (au L t0.2.1) (W (t0.1+1))).toNat)).drop 0).length)
(.own 274 (.apX 290 AV.int ((t0.2.2.take ((Mod (au L t0.2.1) (W (t0.1+1))).toNat)).drop 0) [t0.1] (((t0.2.2.take ((Mod (au L t0.2.1) (W (t0.1+1))).toNat)).drop 0).length+1)
(.say (λR=>Rf (α:=List AV) (t0.2.2.map AV.int) (ck (gI t0.2.2.length (Mod (au L t0.2.1) (W (t0.1+1))) (t0.2.2.length:Int) (t0.2.2.length:Int))
R)) (.sub 370 AV.int t0.2.2 false
(.apX 386 AV.int (((t0.2.2.take ((Mod (au L t0.2.1) (W (t0.1+1))).toNat)).drop 0)++[t0.1]) ((t0.2.2.take ((t0.2.2.length:Int).toNat)).drop ((Mod (au L t0.2.1) (W (t0.1+1))).toNat)) ((((t0.2.2.take ((Mod (au L t0.2.1) (W (t0.1+1))).toNat)).drop 0)++[t0.1]).length+((t0.2.2.take ((t0.2.2.length:Int).toNat)).drop ((Mod (au L t0.2.1) (W (t0.1+1))).toNat)).length)
(.bk 0 b0 (W (t0.1+1),ab L t0.2.1,(((t0.2.2.take ((Mod (au L t0.2.1) (W (t0.1+1))).toNat)).drop 0)++[t0.1])++((t0.2.2.take ((t0.2.2.length:Int).toNat)).drop ((Mod (au L t0.2.1) (W (t0.1+1))).toNat))) [0,386])))))))))))))
(.fz 1 AV.int t0.2.2 (λ_=>rfl) (.retH ((⟨L,t0.2.1⟩:Tap),t0.2.2) ⟨[(4,.k,.sl 1 (t0.2.2.map AV.int) false)],[.box (.agg [.sl 1 (L.map AV.int) false,.int t0.2.1])]⟩ [0])))))
def A5(L:List Int)(p:Nat)(n:Int)(I0:(Int×Nat×List Int)→Prop)(m0:(Int×Nat×List Int)→Nat)(r0:Tap×List Int):=(wH L p n I0 m0).vc qr qt r0
theorem On(L:List Int)(p:Nat)(n:Int)(h:n≤1000)(ok:EW L p n):∃I m,A5 L p n I m ((⟨L,(fk L n p).2⟩:Tap),(fk L n p).1):=by
 have hm:=λ(l:Nat) (q:Nat)=>cU (x:=au L q) (show 1≤(l:Int)+1 by omega)
 refine⟨λt=>∃k:Nat,t.1=k∧k≤n.toNat∧t.2.2.length=k∧o6 L (n.toNat-k) t.1 t.2.2 t.2.1=fk L n p,λt=>n.toNat-t.1.toNat,?_⟩
 dsimp only[A5,wH,EV,Ax.vp,Ax.vc];simp only[vcU,rfU,List.length_map]
 refine⟨⟨0,rfl,by omega,rfl,rfl⟩,?_⟩
 rintro⟨i,q,out⟩ ⟨k,hi,hk,hl,hr⟩
 simp only at hi hl hr ⊢
 subst hi;subst hl
 have w1:W ((out.length:Int)+1)=(out.length:Int)+1:=dm (by omega)
 have hq:=hm out.length q
 rw[w1,l4]
 refine⟨λc=>?_,λc=>?_⟩
 ·have c:out.length<n.toNat:=by omega
  refine⟨by simp[gI];omega,by simp;omega,by simp;omega,by simp[gI];omega,by simp;omega,⟨out.length+1,by omega,by omega,by rw[gq _ _ _ (by omega)],?_⟩,by omega⟩
  rw[show n.toNat-out.length=(n.toNat-(out.length+1))+1 by omega,o6]at hr
  exact hr
 ·have:out.length=n.toNat:=by omega
  rw[this,Nat.sub_self,o6]at hr
  rw[←hr]
def Oo(L:List Int)(p:Nat)(n:Int)(h:n≤1000):HC Tryz.prog:=⟨57,[.k,.k],[.ref 0 0,.int n],[.box (.agg [.sl 1 (L.map AV.int) false,.int p])],qr ((⟨L,(fk L n p).2⟩:Tap),(fk L n p).1),qt ((⟨L,(fk L n p).2⟩:Tap),(fk L n p).1),aO.of_okh λok ok2=>have ok:EW L p n:=⟨ok,ok2 _ (by simp)⟩;(On L p n h ok).elim λI0 h=>h.elim λm0 h=>dX (sh:=(.s 1)) (enc:=qr) (hB:=qt) (a:=(wH L p n I0 m0).an) h (by kernel_rfl),aq (by kernel_rfl),gc.of (by simp[hcB,dG,AV.belB,allB,fJ,eT,qr,qt,ae (v:=AV.int) (λ_=>rfl)])⟩
def gQ(out:List Lnk)(x:Lnk):Nat:=out.findIdx λy=>!decide (aQ y x)
def aT:List Lnk→List Lnk→List Lnk
 | [],out=>out
 | x::l,out=>aT l (bD out (gQ out x) x)
def Om(l:List Lnk):=okL [.sl 5 (l.map Lnk.v) false]
def JI(l:List Lnk)(t0:Int×List Lnk):NF:=⟨[(0,.k,.sl 5 (l.map Lnk.v) false),(3,.k,.vec 0),(4,.k,.int t0.1)],[.vec 5 (t0.2.map Lnk.v) (ae (λ_=>rfl) t0.2)]⟩
def JH(l:List Lnk)(t0:Int×List Lnk)(t1:Int):NF:=⟨[(0,.k,.sl 5 (l.map Lnk.v) false),(3,.k,.vec 0),(4,.k,.int t0.1),(5,.k,.int t1)],[.vec 5 (t0.2.map Lnk.v) (ae (λ_=>rfl) t0.2)]⟩
def JG(l:List Lnk)(t0:Int×List Lnk)(t1:Int)(t2:Bool):NF:=⟨[(0,.k,.sl 5 (l.map Lnk.v) false),(3,.k,.vec 0),(4,.k,.int t0.1),(5,.k,.int t1),(55,.k,.bool t2)],[.vec 5 (t0.2.map Lnk.v) (ae (λ_=>rfl) t0.2)]⟩
@[reducible] def EU:Nat→Type
 | 0=>Int×List Lnk
 | 1=>Int
 | 2=>Bool
 | _=>Unit
def qp(r:List Lnk):AV:=.vec 0
def qq(r:List Lnk):List (Option Blk):=[some (.vec 5 (r.map Lnk.v))]
def wG(l:List Lnk)(I0:(Int×List Lnk)→Prop)(m0:(Int×List Lnk)→Nat)(I1:Int×List Lnk→Int→Prop)(m1:Int×List Lnk→Int→Nat)(I2:Int×List Lnk→Int→Bool→Prop):Ax Tryz.prog EU ((List Lnk)):=
 (.cmdL (.nilT 3 5) (.loop 0 (JI l) I0 m0 (0,[]) [48] λ(t0:Int×List Lnk) b0 =>
(.br 65 (decide (t0.1<((l.map Lnk.v).length:Int))) (.loop 1 (JH l t0) (I1 t0) (m1 t0) ((0):Int) [0] λ(t1:Int) b1 =>
(.pass (.join 2 (JG l t0 t1) (λ(t2:Bool)=>I2 t0 t1 t2) (λb2=>(.br 81 (decide (t1<((t0.2.map Lnk.v).length:Int))) (.elJ 145 Lnk.v t0.2 t1 λx1 =>
(.elI 193 Lnk.v l t0.1 λx2 =>
(.br 273 (decide (x1.a<x2.a)) (.bk 2 b2 ((true):Bool) [0])
(.elJ 337 Lnk.v t0.2 t1 λx3 =>
(.elI 385 Lnk.v l t0.1 λx4 =>
(.br 465 (x3.a==x4.a) (.elJ 529 Lnk.v t0.2 t1 λx5 =>
(.elI 577 Lnk.v l t0.1 λx6 =>
(.bk 2 b2 ((decide (x5.b<x6.b)):Bool) [0])))
(.bk 2 b2 ((false):Bool) [0])))))))
(.bk 2 b2 ((false):Bool) [0]))) λ(t2:Bool) =>
(.br 1 t2 (.bk 1 b1 ((W (t1+1)):Int) [0])
(.wait (.say (Rf (t0.2.map Lnk.v)) (.cmd (.frzE 0 (t0.2.map Lnk.v) (ae (λ_=>rfl) t0.2)) (.say (λR=>Rf (α:=List AV) (t0.2.map Lnk.v) (ck (gI t0.2.length 0 t1 (t0.2.length:Int))
R)) (.sub 65 Lnk.v t0.2 false
(.apX 81 Lnk.v [] ((t0.2.take t1.toNat).drop 0) (0+((t0.2.take t1.toNat).drop 0).length)
(.elI 161 Lnk.v l t0.1 λx7 =>
(.own 193 (.apX 209 Lnk.v ((t0.2.take t1.toNat).drop 0) [x7] (((t0.2.take t1.toNat).drop 0).length+1)
(.say (λR=>Rf (α:=List AV) (t0.2.map Lnk.v) (ck (gI t0.2.length t1 (t0.2.length:Int) (t0.2.length:Int))
R)) (.sub 289 Lnk.v t0.2 false
(.apX 305 Lnk.v (((t0.2.take t1.toNat).drop 0)++[x7]) ((t0.2.take ((t0.2.length:Int).toNat)).drop t1.toNat) ((((t0.2.take t1.toNat).drop 0)++[x7]).length+((t0.2.take ((t0.2.length:Int).toNat)).drop t1.toNat).length)
(.bk 0 b0 (W (t0.1+1),(((t0.2.take t1.toNat).drop 0)++[x7])++((t0.2.take ((t0.2.length:Int).toNat)).drop t1.toNat)) [305])))))))))))))))))
(.retH t0.2 ⟨[(2,.k,.vec 0)],[.vec 5 (t0.2.map Lnk.v) (ae (λ_=>rfl) t0.2)]⟩ [0]))))
def A4(l:List Lnk)(I0:(Int×List Lnk)→Prop)(m0:(Int×List Lnk)→Nat)(I1:Int×List Lnk→Int→Prop)(m1:Int×List Lnk→Int→Nat)(I2:Int×List Lnk→Int→Bool→Prop)(r0:List Lnk):=(wG l I0 m0 I1 m1 I2).vc qp qq r0
theorem J0{out:List Lnk}{x:Lnk}{j:Nat}(hj:j≤out.length)(h1:∀y∈out.take j,aQ y x)(h2:∀y,out[j]?=some y→¬aQ y x):gQ out x=j:=by
 unfold gQ
 by_cases e:j=out.length
 ·subst e
  rw[List.take_length]at h1
  rw[List.findIdx_eq_length]
  intro y hy
  simp[h1 y hy]
 ·rw[List.findIdx_eq (by omega)]
  refine⟨?_,λi hi=>?_⟩
  ·have:=h2 _ (List.getElem?_eq_getElem (by omega))
   simp[this]
  ·have:=h1 (out[i]'(by omega)) (List.mem_take_iff_getElem.mpr ⟨i,by omega,rfl⟩)
   simp[this]
theorem Ok(l:List Lnk)(h:l.length≤1000)(ok:Om l):∃I0 m0 I1 m1 I2,A4 l I0 m0 I1 m1 I2 (aT l []):=by
 refine⟨λs=>∃k:Nat,s.1=k∧k≤l.length∧s.2.length=k∧aT (l.drop k) s.2=aT l [],λs=>l.length-s.1.toNat,
  λs t=>bi s.2 (λy=>∀x,l[s.1.toNat]?=some x→aQ y x) t,λs t=>s.2.length-t.toNat,λs t b=>b=true↔t<s.2.length∧∀x y,l[s.1.toNat]?=some x→s.2[t.toNat]?=some y→aQ y x,?_⟩
 dsimp only[A4,wG,EU,Ax.vp,Ax.vc];simp only[vcU,rfU,List.length_map]
 refine⟨⟨0,rfl,by omega,rfl,by simp⟩,?_⟩
 rintro⟨i,out⟩ ⟨k,hi,hk,hl,hr⟩
 simp only at hi hl hr ⊢
 subst hi;subst hl
 simp only[Int.toNat_natCast]
 refine⟨λc=>?_,λc=>?_⟩
 ·have hx:=List.getElem?_eq_getElem (show out.length<l.length by omega)
  generalize l[out.length]=x at hx
  refine⟨bi.zero,λt hI=>?_⟩
  obtain⟨j,rfl,hj,ha⟩:=hI
  have ha':∀y∈out.take j,aQ y x:=λy hy=>ha y hy x hx
  have hI:bi out (λy=>∀x,l[out.length]?=some x→aQ y x) ((j:Nat):Int):=⟨j,rfl,hj,ha⟩
  simp only[Int.toNat_natCast]
  refine⟨⟨λd=>?_,λd=>⟨nofun,λq=>absurd q.1 d⟩⟩,λb hb=>?_⟩
  ·have hy:=List.getElem?_eq_getElem (show j<out.length by omega)
   generalize out[j]=y at hy
   have rg:(bif decide (0≤((j:Nat):Int))then decide (((j:Nat):Int)<out.length)else false)=true:=eE (by omega) d
   refine⟨rg,by omega,λx1 h1=>⟨by omega,c,λx2 h2=>?_⟩⟩
   rw[hy]at h1;cases h1;rw[hx]at h2;cases h2
   refine⟨λe=>⟨λ_=>⟨d,λx' y' hx' hy'=>?_⟩,λ_=>trivial⟩,λe=>⟨rg,by omega,λx3 h3=>⟨by omega,c,λx4 h4=>?_⟩⟩⟩
   ·rw[hx]at hx';cases hx';rw[hy]at hy';cases hy';exact .inl e
   rw[hy]at h3;cases h3;rw[hx]at h4;cases h4
   refine⟨λe2=>⟨rg,by omega,λx5 h5=>⟨by omega,c,λx6 h6=>?_⟩⟩,λe2=>⟨nofun,λq=>?_⟩⟩
   ·rw[hy]at h5;cases h5;rw[hx]at h6;cases h6
    have e2:=eq_of_beq e2
    refine⟨λe3=>⟨d,λx' y' hx' hy'=>?_⟩,λq=>?_⟩
    ·rw[hx]at hx';cases hx';rw[hy]at hy';cases hy';exact .inr ⟨e2,e3⟩
    ·have:=q.2 x y hx hy;unfold aQ at this;omega
   ·have:=q.2 x y hx hy
    have e2:¬y.a=x.a:=by simpa using e2
    unfold aQ at this;omega
  ·refine⟨λe=>?_,λe=>?_⟩
   ·obtain⟨d,hd⟩:=hb.mp e
    have hy:=List.getElem?_eq_getElem (show j<out.length by omega)
    exact hI.step (by omega) (by rw[Int.toNat_natCast];exact hy) λx' hx'=>hd x' _ hx' hy
   ·have hp:gQ out x=j:=J0 hj ha' λy hy q=>by
     have:=hb.mpr ⟨by have:=ap hy;omega,λx' y' hx' hy'=>by rw[hx]at hx';cases hx';rw[hy]at hy';cases hy';exact q⟩
     rw[e]at this;cases this
    refine⟨by simp[gI];omega,by simp;omega,by omega,c,λx7 h7=>?_⟩
    rw[hx]at h7;cases h7
    have hi:(((out.take j).drop 0)++[x])++((out.take out.length).drop j)=bD out j x:=by have:=l4 (l:=out) (k:=j) (x:=x);rwa [Int.toNat_natCast]at this
    rw[hi,bM (n:=l.length) (by omega) (by omega)]
    refine⟨by simp;omega,by simp[gI];omega,by simp;omega,⟨out.length+1,rfl,by omega,gq _ _ _ hj,?_⟩,by omega⟩
    rw[List.drop_eq_getElem_cons (by omega),aT]at hr
    have:l[out.length]'(by omega)=x:=by rw[List.getElem?_eq_getElem (by omega)]at hx;exact Option.some.inj hx
    rw[this,hp]at hr
    exact hr
 ·have:out.length=l.length:=by omega
  rw[this,List.drop_length,aT]at hr
  exact hr
def Ol(l:List Lnk)(h:l.length≤1000):HC Tryz.prog:=⟨45,[(.s 5)],[.sl 5 (l.map Lnk.v) false],[],qp (aT l []),qq (aT l []),aO.of_okh λok _=>(Ok l h ok).elim λI0 h=>h.elim λm0 h=>h.elim λI1 h=>h.elim λm1 h=>h.elim λI2 h=>dX (sh:=.k) (enc:=qp) (hB:=qq) (a:=(wG l I0 m0 I1 m1 I2).an) h (by kernel_rfl),aq (by kernel_rfl),gc.of (by simp[hcB,dG,AV.belB,allB,fJ,eT,qp,qq,ae (v:=Lnk.v) (λ_=>rfl)])⟩
end Go.Proofs.YtdoacjojljgdcaaGreat
