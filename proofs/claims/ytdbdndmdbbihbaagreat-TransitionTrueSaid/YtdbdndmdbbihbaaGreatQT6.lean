/- Texts joined: SO FM2 RD4 RD5 RD6 RD7 TC5 TC6 SR1 DT1 P1 DT2 DT3 DT4 PL KM1 KM2. -/
import Derived.Test.YtdbdndmdbbihbaaGreatSh
import Derived.Test.YtdbdndmdbbihbaaGreatChecked
import Derived.Test.YtdbdndmdbbihbaaGreatQT5
set_option linter.unusedVariables false
set_option linter.unusedSimpArgs false
set_option linter.unusedSectionVars false
namespace Go.Proofs.YtdbdndmdbbihbaaGreat
open Go Go.Am
open Go.Shelf Go.RowKit Go.Lib Go.Sort in
theorem xR(a b:Int)(x1 y1:Value)(w:World)(hx:x1.oneCell'=true)(hy:y1.oneCell'=true) :
  Calls Tryz.prog 177 #[.agg #[.int .i64 a,x1],.agg #[.int .i64 b,y1]] w λe w'=>e=.returned (.int .i64 (Lib.compareInt a b))∧∃q os',w'=grow (w.drewN q) os':=by
 have hcon:=λW'=>AnyG.cmp_Compare_int Tryz.cmpI a b W'
 change ∀W',Calls Tryz.prog 153 _ _ _ at hcon
 generalize Lib.compareInt a b=r at hcon ⊢
 go_enter Tryz.func177,Tryz.ntmps177
 go_wp2_with (go_at_call 153;refine(hcon _).mono ?_;rintro e w' ⟨rfl,rfl⟩)
 go_ret
 exact⟨rfl,0,_,by rw[alloc_eq_grow,alloc_eq_grow,grow_grow];rfl⟩
def Ez(l:List Stp):Prop:=l.length≤1000000∧l.Pairwise λa b=>a.to≠b.to
def iY(l:List Stp):List Stp:=l.mergeSort λa b=>decide (a.to≤b.to)
theorem iM(l:List Stp):(iY l).Perm l:=List.mergeSort_perm _ _
theorem Dt{l:List Stp}(h:Ez l):(iY l).Pairwise λa b=>a.to<b.to:=by
 have h1:(iY l).Pairwise λa b=>decide (a.to≤b.to)=true:=List.pairwise_mergeSort (λa b c h1 h2=>by simp at *;omega) (λa b=>by simp;omega) l
 have h2:(iY l).Pairwise λa b=>a.to≠b.to:=(List.Perm.pairwise_iff (λh=>Ne.symm h) (iM l)).mpr h.2
 exact(h1.and h2).imp λ⟨h1,h2⟩=>by simp at h1;omega
open Go.Shelf Go.RowKit Go.Lib Go.Sort in
theorem vb(l:List Stp)(h:Ez l):aH Tryz.prog 176 [.vec 0,.func 177 []] [.vec 2 (l.map Stp.v)] (.tup []) [some (.vec 2 ((iY l).map Stp.v))]:=by
 refine va Tryz.sortW Stp.v Stp.to 2 (by omega) (λ_=>by kernel_rfl) (λ_=>by kernel_rfl) (λx=>⟨_,rfl⟩) 177 (enters_of Tryz.func177 (by kernel_rfl) rfl) ?_ l (iY l) (iM l) (Dt h) h.1
 intro a b xs ys w hx hy ox oy
 match xs,hx with
 | [x1],_ =>
 match ys,hy with
 | [y1],_=>exact xR a b x1 y1 w (ox x1 (by simp)) (oy y1 (by simp))
theorem ay.give3{k n:Nat}{s s':S3}(b:Nat)(hnx:s'.nx=s.nx)(h1:s'.tm=s.tm)
  (h2:∀b' x,s'.hp b'=some x→b'≠b∧(s.hp b'=some x∨∃kk ks es es',s.hp b'=some (.map kk ks es)∧x=.map kk ks es'∧cW b s.hp es es'∧((∀z∈es,z.solid=true)→∀z∈es',z.solid=true))) (hb:s.hp b≠none):ay k n s s':=by
 rintro P c a w ⟨h0,A,μ,H⟩
 have hle:∀k,A k→A k∨∃hd,μ b=some hd∧hd.emp=none∧hd.blk=k:=λ_ h=>.inl h
 have hlive:∃x hd,s.hp b=some x∧μ b=some hd∧(hd.emp=none→¬A hd.blk∧hd.blk<w.heap.size∧(c.own hd.blk∨c.w.heap.size≤hd.blk)):=by
  cases hx:s.hp b with
  | none=>exact absurd hx hb
  | some x=>obtain⟨hd,e1,_,e3⟩:=H.blk b x hx;exact⟨x,hd,rfl,e1,e3⟩
 obtain⟨xb,hdb,hxb,hmb,hpb⟩:=hlive
 have hsub:∀b' x,s'.hp b'=some x→b'≠b∧∃y,s.hp b'=some y:=by
  intro b' x hx
  obtain⟨e1,e2|⟨kk,ks,es,es',e2,_⟩⟩:=h2 b' x hx
  ·exact⟨e1,_,e2⟩
  ·exact⟨e1,_,e2⟩
 refine⟨h0,λk=>A k∨∃hd,μ b=some hd∧hd.emp=none∧hd.blk=k,μ,λt=>?_,H.n,H.df,λb' x hx=>?_,λb1 b2 x x' hd hd' hx hx'=>?_,?_,λb' hb'=>?_,H.keep,λb' hb'=>.inl (H.A0 b' hb'),?_,H.mu⟩
 ·rw[h1];exact(H.tm t).mono (cA.refl A w) hle _ (bu.refl _)
 ·obtain⟨hne,y,hy⟩:=hsub b' x hx
  obtain⟨hd,g1,g2,g3⟩:=H.blk b' y hy
  refine⟨hd,g1,?_,λhe=>⟨?_,(g3 he).2⟩⟩
  ·rcases(h2 b' x hx).2 with e|⟨kk,ks,es,es',e1,e2,e4,e5⟩
   ·rw[hy]at e;cases e
    exact g2.mono (cA.refl A w) hle (bu.refl _) (λ_=>rfl)
   ·rw[hy]at e1;cases e1
    subst e2
    obtain⟨q1,ents,ck,r1,r2,r3,r4⟩:=g2
    exact⟨q1,ents,ck,r1,r2,e4.rvl H r3,e5 r4⟩
  ·rintro(h|⟨hd2,k1,k2,k3⟩)
   ·exact(g3 he).1 h
   ·exact hne (H.inj _ _ _ _ _ _ hy hxb g1 k1 he k2 k3.symm)
 ·obtain⟨_,y,hy⟩:=hsub b1 x hx
  obtain⟨_,y',hy'⟩:=hsub b2 x' hx'
  exact H.inj _ _ _ _ _ _ hy hy'
 ·refine H.lt.mono (cA.refl A w) hle ?_
  rintro k (h|⟨hd,k1,k2,rfl⟩)
  ·exact H.lt k h
  ·rw[hmb]at k1;cases k1;exact(hpb k2).2.1
 ·rw[hnx]at hb'
  obtain⟨q1,q2⟩:=H.fr b' hb'
  refine⟨q1,?_⟩
  cases hx:s'.hp b' with
  | none=>rfl
  | some x=>obtain⟨_,y,hy⟩:=hsub b' x hx;rw[q2]at hy;cases hy
 ·rintro k (h|⟨hd,k1,k2,rfl⟩)
  ·exact H.A1 k h
  ·rw[hmb]at k1;cases k1;exact .inr (hpb k2).2.2
theorem ay.giveM{k n:Nat}{tm:Nat→AV}{hp:Hp}{nx kk:Nat}{kq:Option Nat}{ks:List MK}{vs es:List AV}(b0 i b:Nat)(h0:hp b0=some (.map kq ks vs))(hi:vs[i]?=some (.vec b))(hb:hp b=some (.vec kk es))(hx:aR es) :
  ay k n ⟨tm,hp,nx⟩ ⟨tm,upd (upd hp b none) b0 (some (.map kq ks (vs.set i (.sl kk es false)))),nx⟩:=by
 have hne:b0≠b:=λe=>by subst e;rw[h0]at hb;cases hb
 refine ay.give3 b rfl rfl (λb' x hx'=>?_) (by show hp b≠none;rw[hb];simp)
 have hx':upd (upd hp b none) b0 (some (.map kq ks (vs.set i (.sl kk es false)))) b'=some x:=hx'
 by_cases e:b'=b0
 ·subst e;rw[ai]at hx';cases hx'
  exact⟨hne,.inr ⟨kq,ks,vs,_,h0,rfl,cW.set hi (bn.vec hb hx),λh z hz=>by
   rcases List.mem_or_eq_of_mem_set hz with hz|rfl
   ·exact h z hz
   ·rfl⟩⟩
 ·rw[aj _ _ e]at hx'
  by_cases e2:b'=b
  ·subst e2;rw[ai]at hx';cases hx'
  ·rw[aj _ _ e2]at hx';exact⟨e2,.inl hx'⟩
theorem ay.giveRows{k n:Nat}{tm:Nat→AV}{nx kk:Nat}{kq:Option Nat}{ks:List MK}{vs:List AV}{hp:Hp}(b0:Nat)(f:Nat→Nat)(es:Nat→List AV)(he:∀i,aR (es i))(hf:∀i j,f i=f j→i=j)(hf0:∀i,f i≠b0)(h0:hp b0=some (.map kq ks vs)):∀m:Nat,
  (∀i,i<m→vs[i]?=some (.vec (f i))∧hp (f i)=some (.vec kk (es i))) →
  ∃hp' vs',ay k n ⟨tm,hp,nx⟩ ⟨tm,hp',nx⟩∧hp' b0=some (.map kq ks vs')∧vs'.length=vs.length∧(∀i,i<m→vs'[i]?=some (.sl kk (es i) false))∧(∀i,m≤i→vs'[i]?=vs[i]?)∧∀b,b≠b0→(∀i,i<m→b≠f i)→hp' b=hp b
 | 0,_=>⟨hp,vs,ay.refl,h0,rfl,λi h=>absurd h (by omega),λ_ _=>rfl,λ_ _ _=>rfl⟩
 | m+1,h=>by
  obtain⟨hp1,vs1,w,a1,a2,a3,a4,a5⟩:=ay.giveRows b0 f es he hf hf0 h0 m λi hi=>h i (by omega)
  obtain⟨g1,g2⟩:=h m (by omega)
  have hl:m<vs1.length:=by rw[a2];exact(List.getElem?_eq_some_iff.mp g1).1
  refine⟨_,_,w.trans (ay.giveM b0 m (f m) a1 (by rw[a4 m (Nat.le_refl _)];exact g1) (by rw[a5 (f m) (hf0 m) λi hi e=>by have:=hf _ _ e;omega];exact g2) (he m)),ai _ _ _,by rw[List.length_set,a2],λi hi=>?_,λi hi=>?_,λb hb hb'=>?_⟩
  ·rw[List.getElem?_set]
   by_cases e:m=i
   ·subst e;rw[if_pos rfl,if_pos hl]
   ·rw[if_neg e];exact a3 i (by omega)
  ·rw[List.getElem?_set,if_neg (by omega)];exact a4 i (by omega)
  ·rw[aj _ _ hb,aj _ _ (hb' m (by omega))]
   exact a5 b hb λi hi=>hb' i (by omega)
theorem ay.giveBM{k n:Nat}{tm:Nat→AV}{hp:Hp}{nx:Nat}{kq:Option Nat}{ks:List MK}{vs cs:List AV}(b0 i b:Nat)(h0:hp b0=some (.box (.agg cs)))(hi:cs[i]?=some (.mref b))(hb:hp b=some (.map kq ks vs))(hx:aR vs)(hs':(AV.agg (cs.set i (.mp kq ks vs))).solid=true) :
  ay k n ⟨tm,hp,nx⟩ ⟨tm,upd (upd hp b none) b0 (some (.box (.agg (cs.set i (.mp kq ks vs))))),nx⟩:=by
 have hne:b0≠b:=λe=>by subst e;rw[h0]at hb;cases hb
 refine ay.give b rfl (λu=>.inr bn.refl) (λb' x hx'=>?_) (by show hp b≠none;rw[hb];simp)
 have hx':upd (upd hp b none) b0 (some (.box (.agg (cs.set i (.mp kq ks vs))))) b'=some x:=hx'
 by_cases e:b'=b0
 ·subst e;rw[ai]at hx';cases hx'
  exact⟨hne,.inr ⟨_,_,h0,rfl,hs',bn.agg (cW.set hi (bn.map hb hx))⟩⟩
 ·rw[aj _ _ e]at hx'
  by_cases e2:b'=b
  ·subst e2;rw[ai]at hx';cases hx'
  ·rw[aj _ _ e2]at hx';exact⟨e2,.inl hx'⟩
theorem aY.ownV{P:Program}{fid:FuncId}{n:Nat}{hp:Hp}{es es' args:List AV}{kk b f:Nat}{r:AV}(hs:aH P fid (.vec 0::args) [.vec kk es] r [some (.vec kk es')])(hf:j5 P fid)
  (h0:aR args) (h1:aR es) (h2:aR es') (h3:r.pure) (hb:hp b=some (.vec kk es)):aY P n fid (.vec b::args) f hp [b] r (dX [(b,some (.vec kk es'))]):=by
 have key:=aY.hand (n:=n) (f:=f) (hp:=hp) hf hs [b] rfl (by simp) ⟨show(0:Nat)<1 by omega,aQ h0⟩ (λi b' x e1 e2=>by
  match i with
  | 0=>simp at e1 e2;subst e1;subst e2;exact⟨aQ h1,by rw[hb];simp only[Blk.ren,aT _ h1]⟩
  | i+1=>simp at e1) (by simp) (by simp) (AV.bel_pure h3) (λy hy=>by simp at hy;subst hy;exact aQ h2)
 have e0:aS [b] f 0=b:=by simp[aS]
 have e3:cz [b] f [some (Blk.vec kk es')]=dX [(b,some (.vec kk es'))]:=by simp[cz,List.zipIdx,e0,Blk.ren,aT _ h2]
 rw[e3]at key
 simpa only[dt,aT _ h0,AV.ren,AV.ren_pure _ h3,e0]using key
theorem F5{P:Program}{n:Nat}{tm:Nat→AV}{hp:Hp}{fid:FuncId}{d:Option Nat}{g:AO}{xs:List AO}{os:List aF}{f:Nat}{K:S2→Nat→Prop}{es es' args:List AV}{r:AV}{kk b:Nat}
  (hs:aH P fid (.vec 0::args) [.vec kk es] r [some (.vec kk es')]) (hf:j5 P fid) (h0:aR args) (h1:aR es) (h2:aR es') (h3:r.pure) (hg:evO tm g=.func fid [])
  (hx:xs.map (evO tm)=.vec b::args) (hb:hp b=some (.vec kk es)) (hK:evT P n os (f+16) ⟨aG d r tm,upd hp b (some (.vec kk es'))⟩ K):evT P n (⟨d,.call g xs,none⟩::os) f ⟨tm,hp⟩ K:=
 i9 hg (by simpa using hx) (aY.ownV hs hf h0 h1 h2 h3 hb) (by rw[kH];exact hK)
def fT(ls:List Lnk)(x:Int):List Stp:=ls.flatMap λl=>if l.a=x then [⟨l.b,l.ca⟩]else if l.b=x then [⟨l.a,l.cb⟩]else []
def inS(ls:List Lnk)(x:Int):List Stp:=ls.flatMap λl=>if l.b=x then [⟨l.a,l.ca⟩]else if l.a=x then [⟨l.b,l.cb⟩]else []
theorem fF{M:List (List Stp)}{x j:Nat}{s:Stp}{r:List Stp}(h:M[j]?=some r):(apR M x s)[j]?=some (if x=j then r++[s]else r):=by
 unfold apR
 rw[List.getElem?_set]
 by_cases e:x=j
 ·subst e
  rw[if_pos rfl,if_pos (aq h),if_pos rfl,List.getD_eq_getElem?_getD,h];rfl
 ·rw[if_neg e,if_neg e,h]
theorem Ay{t:Tpl}(hnd:(t.rs.map (·.id)).Nodup){i:Nat}{r:Rtr}(h:t.rs[i]?=some r){a:Int}(ha:aI t a=true):ix5 t a=i↔a=r.id:=by
 have h1:(t.rs.map (·.id))[i]?=some r.id:=by rw[List.getElem?_map,h];rfl
 have h2:=qe ha
 constructor
 ·intro e;rw[e,h1]at h2;exact(Option.some.inj h2).symm
 ·intro e;subst e;exact(dM hnd h1 h2).symm
theorem mz{t:Tpl}(hnd:(t.rs.map (·.id)).Nodup):∀(m:Nat) (ls:List Lnk),ls.length=m→(∀l∈ls,(aI t l.a=true∧aI t l.b=true)∧l.a<l.b)→∀i r,t.rs[i]?=some r →
  (dO t ls)[2 * i]?=some (fT ls r.id)∧(dO t ls)[2 * i+1]?=some (inS ls r.id)
 | 0,ls,hm,hl,i,r,h=>by
  obtain rfl:=List.length_eq_zero_iff.mp hm
  have:=aq h
  unfold dO
  rw[List.foldl_nil,List.getElem?_replicate,List.getElem?_replicate,if_pos (by omega),if_pos (by omega)]
  exact⟨rfl,rfl⟩
 | m+1,ls,hm,hl,i,r,h=>by
  obtain⟨ls',l,rfl⟩:∃ls' l,ls=ls'++[l]:=⟨ls.dropLast,ls.getLast (by intro e;subst e;cases hm),(List.dropLast_concat_getLast _).symm⟩
  have hm':ls'.length=m:=by simpa using hm
  obtain⟨g1,g2⟩:=mz hnd m ls' hm' (λx hx=>hl x (by simp[hx])) i r h
  obtain⟨⟨ha,hb⟩,hab⟩:=hl l (by simp)
  have e:dO t (ls'++[l])=pX t (dO t ls') l:=by unfold dO;rw[List.foldl_append];rfl
  have ea:=Ay hnd h ha
  have eb:=Ay hnd h hb
  rw[e]
  unfold pX
  rw[fF (fF (fF (fF g1))),fF (fF (fF (fF g2)))]
  have o1:fT (ls'++[l]) r.id=fT ls' r.id++(if l.a=r.id then [⟨l.b,l.ca⟩]else if l.b=r.id then [⟨l.a,l.cb⟩]else []):=by unfold fT;rw[List.flatMap_append];simp
  have o2:inS (ls'++[l]) r.id=inS ls' r.id++(if l.b=r.id then [⟨l.a,l.ca⟩]else if l.a=r.id then [⟨l.b,l.cb⟩]else []):=by unfold inS;rw[List.flatMap_append];simp
  rw[o1,o2]
  have f1:∀q:Nat,¬(2 * q+1=2 * i):=λq=>by omega
  have f2:∀q:Nat,¬(2 * q=2 * i+1):=λq=>by omega
  have f3:∀q:Nat,(2 * q=2 * i)=(q=i):=λq=>propext ⟨λ_=>by omega,λ_=>by omega⟩
  have f4:∀q:Nat,(2 * q+1=2 * i+1)=(q=i):=λq=>propext ⟨λ_=>by omega,λ_=>by omega⟩
  simp only[f1,f2,f3,f4,ea,eb,if_false]
  by_cases h1:l.a=r.id
  ·have h2:¬l.b=r.id:=by omega
   simp[h1,h2]
  ·by_cases h2:l.b=r.id
   ·simp[h1,h2]
   ·simp[h1,h2]
theorem zO{t:Tpl}(hc:aJ t=0)(x:Int):Ez (fT t.ls x):=by
 have hO:=aC hc
 constructor
 ·have:∀ls:List Lnk,(fT ls x).length≤ls.length:=λls=>by
   induction ls with
   | nil=>exact Nat.le_refl _
   | cons l ls ih =>
    have e:fT (l::ls) x=(if l.a=x then [⟨l.b,l.ca⟩]else if l.b=x then [⟨l.a,l.cb⟩]else [])++fT ls x:=rfl
    rw[e,List.length_append]
    have:(if l.a=x then [(⟨l.b,l.ca⟩:Stp)]else if l.b=x then [⟨l.a,l.cb⟩]else []).length≤1:=by split<;>(try split)<;>simp
    simp only[List.length_cons];omega
  have:=this t.ls;have:=hO.nl;omega
 ·unfold fT
  rw[List.pairwise_flatMap]
  refine⟨λl hl=>by split<;>(try split)<;>simp,?_⟩
  have hlt:=hO.lt
  refine List.Pairwise.imp_of_mem (λ{l1 l2} m1 m2 h s1 h1 s2 h2=>?_) hO.ord
  have a1:=hlt l1 m1
  have a2:=hlt l2 m2
  unfold cX at h
  (repeat' split at h1)<;>(repeat' split at h2)<;>simp at h1 h2<;>subst h1<;>subst h2<;>simp only[ne_eq]<;>omega
def gU(st seen:List Nat)(M:List (List Stp)):List (List Stp):=M.mapIdx λj r=>if j % 2=0∧st.getD (j / 2) 0∈seen then iY r else r
theorem eA(st seen:List Nat)(M:List (List Stp)):(gU st seen M).length=M.length:=by simp[gU]
theorem Du(st:List Nat)(M:List (List Stp)):gU st [] M=M:=by
 refine List.ext_getElem? λi=>?_
 simp only[gU,List.getElem?_mapIdx]
 simp
theorem Dv{st seen:List Nat}{M:List (List Stp)}{i s0:Nat}{r:List Stp}(h:M[2 * i]?=some r)(hs:st[i]?=some s0)(h0:s0 ∉ seen):(gU st seen M)[2 * i]?=some r:=by
 have e:st.getD i 0=s0:=by rw[List.getD_eq_getElem?_getD,hs];rfl
 simp only[gU,List.getElem?_mapIdx,h,Option.map_some,show 2 * i / 2=i by omega,e]
 rw[if_neg (λh=>h0 h.2)]
theorem BQ{st seen:List Nat}{M:List (List Stp)}{i s0:Nat}{r:List Stp}(h:M[2 * i]?=some r)(hs:st[i]?=some s0)(hn:st.Nodup)(hM:M.length=2 * st.length):gU st (seen++[s0]) M=(gU st seen M).set (2 * i) (iY r):=by
 have hil:=aq hs
 refine List.ext_getElem? λj=>?_
 rw[List.getElem?_set]
 by_cases e:2 * i=j
 ·subst e
  have e:st.getD i 0=s0:=by rw[List.getD_eq_getElem?_getD,hs];rfl
  rw[if_pos rfl,if_pos (by rw[eA];omega)]
  simp only[gU,List.getElem?_mapIdx,h,Option.map_some,show 2 * i / 2=i by omega,e]
  rw[if_pos ⟨by omega,by simp⟩]
 ·rw[if_neg e]
  simp only[gU,List.getElem?_mapIdx]
  cases hj:M[j]? with
  | none=>rfl
  | some q =>
   have hjl:=aq hj
   simp only[Option.map_some]
   congr 1
   by_cases h2:j % 2=0
   ·have hk:j / 2<st.length:=by omega
    have hne:st.getD (j / 2) 0≠s0:=λe'=>by
     rw[List.getD_eq_getElem?_getD,List.getElem?_eq_getElem hk]at e'
     have e':st[j / 2]?=some s0:=by rw[List.getElem?_eq_getElem hk];exact congrArg some e'
     have:=dM hn e' hs
     omega
    have e3:(st.getD (j / 2) 0∈seen++[s0])=(st.getD (j / 2) 0∈seen):=propext ⟨λh=>(List.mem_append.mp h).elim id λh=>absurd (List.mem_singleton.mp h) hne,λh=>List.mem_append_left _ h⟩
    simp only[e3]
   ·simp[h2]
def cR(t:Tpl):Lks:=t.rs.map λr=>(r.id,iY (fT t.ls r.id))
def inG(t:Tpl):Lks:=t.rs.map λr=>(r.id,inS t.ls r.id)
theorem Dw{t:Tpl}(hc:aJ t=0){st seen:List Nat}(h:∀s∈st,s∈seen)(hs:st.length=t.rs.length){i:Nat}{r:Rtr}(hr:t.rs[i]?=some r) :
  (gU st seen (dO t t.ls))[2 * i]?=some (iY (fT t.ls r.id))∧(gU st seen (dO t t.ls))[2 * i+1]?=some (inS t.ls r.id):=by
 have hO:=aC hc
 have hnd:(t.rs.map (·.id)).Nodup:=List.Pairwise.map _ (λa b h=>by omega) hO.asc
 obtain⟨g1,g2⟩:=mz hnd _ t.ls rfl (λl hl=>⟨hO.has l hl,hO.lt l hl⟩) i r hr
 have hi:i<st.length:=by rw[hs];exact aq hr
 have e:st.getD i 0∈seen:=by rw[List.getD_eq_getElem?_getD,List.getElem?_eq_getElem hi];exact h _ (List.getElem_mem _)
 simp only[gU,List.getElem?_mapIdx,g1,g2,Option.map_some,show 2 * i / 2=i by omega]
 rw[if_pos ⟨by omega,e⟩,if_neg (by omega)]
 exact⟨rfl,rfl⟩
def rdE(t:Tpl):NF:=
 ⟨[(2,.k,.ref 1 0),(3,.k,.ref 2 0)],[.box (Tpl.v t),.box (.agg [.val (.map none),.val (.map none)]),.box (.agg [ix (cR t),ix (inG t)])]⟩
theorem iO(r:List Stp):aR (r.map Stp.v):=aB (ab co r)
theorem sS(L:Lks):aR (L.map λp=>AV.sl 2 (p.2.map Stp.v) false):=aB (ab (v:=λp:Int×List Stp=>AV.sl 2 (p.2.map Stp.v) false) (λ_=>rfl) L)
theorem Na(t:Tpl){k nx:Nat}{tm:Nat→AV}{hp:Hp}(t2:tm 2=.ref 1 0)(t3:tm 3=.ref 2 0)(h0:hp 0=some (.box (Tpl.v t)))(h1:hp 1=some (.box (.agg [.val (.map none),.val (.map none)])))(h2:hp 2=some (.box (.agg [.mref 3,.mref 4])))
  (h3:hp 3=some (.map none (kyN (t.rs.map (·.id))) (evN t.rs.length))) (h4:hp 4=some (.map none (kyN (t.rs.map (·.id))) (odN t.rs.length)))
  (hF:∀i r,t.rs[i]?=some r→hp (Fr (2 * i))=some (.vec 2 ((iY (fT t.ls r.id)).map Stp.v))∧hp (Fr (2 * i+1))=some (.vec 2 ((inS t.ls r.id).map Stp.v))):ay 0 k ⟨tm,hp,nx⟩ (rdE t).st:=by
 have key:∀(f:Rtr→List Stp) (vs':List AV),vs'.length=t.rs.length→(∀i,i<t.rs.length→vs'[i]?=some (.sl 2 (((t.rs[i]?).elim [] f).map Stp.v) false))→vs'=(t.rs.map λr=>(r.id,f r)).map λp=>AV.sl 2 (p.2.map Stp.v) false:=λf vs' e1 e2=>by
  refine List.ext_getElem? λi=>?_
  by_cases hi:i<t.rs.length
  ·rw[e2 i hi,List.getElem?_map,List.getElem?_map,List.getElem?_eq_getElem hi];rfl
  ·rw[List.getElem?_eq_none (by omega),List.getElem?_eq_none (by simp;omega)]
 have ks:∀f:Rtr→List Stp,kyN (t.rs.map (·.id))=(t.rs.map λr=>(r.id,f r)).map λp=>MK.n p.1:=λf=>by unfold kyN;rw[List.map_map,List.map_map];rfl
 obtain⟨hp1,v1,w1,a1,a2,a3,_,a5⟩:=ay.giveRows (k:=0) (n:=k) (tm:=tm) (nx:=nx) (kk:=2) 3 (λi=>Fr (2 * i)) (λi=>((t.rs[i]?).elim [] λr=>iY (fT t.ls r.id)).map Stp.v) (λi=>iO _) (λi j h=>by unfold Fr at h;omega) (λi=>by unfold Fr;omega) h3 t.rs.length
  (λi hi=>⟨by rw[evN,List.getElem?_map,List.getElem?_range hi];rfl,by rw[List.getElem?_eq_getElem hi];exact(hF i _ (List.getElem?_eq_getElem hi)).1⟩)
 have b4:hp1 4=some (.map none (kyN (t.rs.map (·.id))) (odN t.rs.length)):=by rw[a5 4 (by decide) (λi _=>by unfold Fr;omega)];exact h4
 obtain⟨hp2,v2,w2,c1,c2,c3,_,c5⟩:=ay.giveRows (k:=0) (n:=k) (tm:=tm) (nx:=nx) (kk:=2) 4 (λi=>Fr (2 * i+1)) (λi=>((t.rs[i]?).elim [] λr=>inS t.ls r.id).map Stp.v) (λi=>iO _) (λi j h=>by unfold Fr at h;omega) (λi=>by unfold Fr;omega) b4 t.rs.length
  (λi hi=>⟨by rw[odN,List.getElem?_map,List.getElem?_range hi];rfl,by
   rw[List.getElem?_eq_getElem hi,a5 _ (by unfold Fr;omega) (λj _=>by unfold Fr;omega)]
   exact(hF i _ (List.getElem?_eq_getElem hi)).2⟩)
 have e1:=key (λr=>iY (fT t.ls r.id)) v1 (by rw[a2,jX]) a3
 have e2:=key (λr=>inS t.ls r.id) v2 (by rw[c2,jM]) c3
 have lo:∀b,b<3→hp2 b=hp b:=λb hb=>by
  rw[c5 b (by omega) (λi _=>by unfold Fr;omega),a5 b (by omega) (λi _=>by unfold Fr;omega)]
 have m3:hp2 3=some (.map none (kyN (t.rs.map (·.id))) v1):=by rw[c5 3 (by decide) (λi _=>by unfold Fr;omega)];exact a1
 have z3:hp2 3=some (.map none ((cR t).map λp=>MK.n p.1) ((cR t).map λp=>AV.sl 2 (p.2.map Stp.v) false)):=by rw[m3,e1,ks];rfl
 have z4:hp2 4=some (.map none ((inG t).map λp=>MK.n p.1) ((inG t).map λp=>AV.sl 2 (p.2.map Stp.v) false)):=by rw[c1,e2,ks];rfl
 have hp1:(AV.agg [ix (cR t),ix (inG t)]).pure:=⟨trivial,trivial,trivial⟩
 have hr:=λπ=>AV.ren_pure π hp1
 have hb:=λk=>AV.bel_pure (k:=k) hp1
 have z5:upd (upd hp2 3 none) 2 (some (.box (.agg [ix (cR t),.mref 4]))) 4=some (.map none ((inG t).map λp=>MK.n p.1) ((inG t).map λp=>AV.sl 2 (p.2.map Stp.v) false)):=by
  rw[aj _ _ (by decide),aj _ _ (by decide)];exact z4
 refine w1.trans (w2.trans ((ay.giveBM 2 0 3 (by rw[lo 2 (by decide)];exact h2) rfl z3 (sS _) rfl).trans ((ay.giveBM 2 1 4 (cs:=[ix (cR t),.mref 4]) (ai _ _ _) rfl z5 (sS _) rfl).trans ?_)))
 show ay 0 k _ ⟨cu [(2,.ref 1 0),(3,.ref 2 0)],hpL 0 [some (.box (Tpl.v t)),some (.box (.agg [.val (.map none),.val (.map none)])),some (.box (.agg [ix (cR t),ix (inG t)]))],3⟩
 have u:∀{b},b<2→∀x,upd (upd (upd (upd hp2 3 none) 2 (some (Blk.box (AV.agg [ix (cR t),AV.mref 4])))) 4 none) 2 x b=hp b:=λ{b} hb x=>by
  rw[aj _ _ (by omega),aj _ _ (by omega),aj _ _ (by omega),aj _ _ (by omega),lo b (by omega)]
 refine ay.nf [0,1,2] [(2,.ref 1 0),(3,.ref 2 0)] [some (.box (Tpl.v t)),some (.box (.agg [.val (.map none),.val (.map none)])),some (.box (.agg [ix (cR t),ix (inG t)]))] ?_ ?_ ⟨rfl,rfl⟩ (by decide) (by decide) (by decide)
 ·exact⟨⟨t2,show 1<3 by decide⟩,⟨t3,show 2<3 by decide⟩,trivial⟩
 ·refine⟨⟨(u (by decide) _).trans (h0.trans ?_),trivial,trivial,trivial⟩,⟨(u (by decide) _).trans (h1.trans ?_),trivial,trivial,trivial⟩,⟨(ai _ _ _).trans ?_,?_⟩,trivial⟩
  ·rfl
  ·rfl
  ·show _=some (Blk.box (AV.ren _ _));rw[hr];rfl
  ·exact hb _
def DP:AC:=.seq (.reg [⟨(some 100),.faddr 0 (.t 3),none⟩,⟨(some 101),.load false 1 (.t 100),none⟩,⟨(some 102),.rng (.t 101),none⟩])
 (.block 4 (.loop (.seq (.reg [⟨(some 103),.nxt (.t 102),none⟩,⟨(some 104),.ext 0 (.t 103),none⟩])
 (.seq (.cond (.t 104) (.skip) (.exit 4))
 (.block 5 (.seq (.reg [⟨(some 105),.ent (.t 102),none⟩,⟨(some 106),.ext 0 (.t 105),none⟩,⟨(some 8),.move (.t 106),none⟩])
 (.reg [⟨(some 107),.faddr 0 (.t 3),none⟩,⟨(some 108),.load false 1 (.t 107),none⟩,⟨(some 109),.move (.t 8),none⟩,⟨(some 110),.mget none ((.sl 0 [] true)) false (.t 108) (.t 109),none⟩,⟨(some 111),.call (.c (.func 176 [])) [(.t 110),(.c (.func 177 []))],none⟩])))))))
def rdQ(t:Tpl)(ids:List Int)(a b:List AV)(st:List Nat)(ck:Nat)(seen:List Nat):List (Option Blk):=
 [some (.box (Tpl.v t)),some (.box (.agg [.val (.map none),.val (.map none)])),some (.box (.agg [.mref 3,.mref 4])),some (.mst none (kyN ids) a st ck),some (.map none (kyN ids) b),some (.itr 3 st ck seen)]
def rdR(t:Tpl)(M:List (List Stp))(st:List Nat)(ck:Nat)(seen:List Nat):S3:=
 ⟨cu [(2,.ref 1 0),(3,.ref 2 0),(102,.ref 5 0)],GS M (hpL 0 (rdQ t (t.rs.map (·.id)) (evN t.rs.length) (odN t.rs.length) st ck seen)),2000⟩
theorem LY{t:Tpl}{ids:List Int}{n:Nat}{hp:Hp}{bs fs:Nat→Nat}{a b:List AV}{st seen:List Nat}{ck:Nat}(hbs:bs 0=0∧bs 1=1∧bs 2=2∧bs 3=3∧bs 4=4)(hn:n≤400)(h0:hp 0=some (.box (Tpl.v t)))(h1:hp 1=some (.box (.agg [.val (.map none),.val (.map none)])))(h2:hp 2=some (.box (.agg [.mref 3,.mref 4])))
  (h3:hp 3=some (.mst none (kyN ids) a st ck)) (h4:hp 4=some (.map none (kyN ids) b)) (h5:hp (bs 5)=some (.itr 3 st ck seen)) (ha:a=(List.range n).map λi=>.vec (fs (2 * i))) (hb:b=(List.range n).map λi=>.vec (fs (2 * i+1))) :
  ∀i x,(rdQ t ids (evN n) (odN n) st ck seen)[i]?=some (some x)→hp (bs i)=some (x.ren (eQ bs fs))∧x.bel 2000:=by
 obtain⟨b0,b1,b2,b3,b4⟩:=hbs
 have e3:eQ bs fs 3=3:=by rw[ez (by omega),b3]
 have e4:eQ bs fs 4=4:=by rw[ez (by omega),b4]
 intro i x h
 rcases i with _|_|_|_|_|_|i
 ·cases h;exact⟨by rw[b0];exact h0,⟨trivial,trivial,trivial⟩⟩
 ·cases h;exact⟨by rw[b1];exact h1,⟨trivial,trivial,trivial⟩⟩
 ·cases h;exact⟨by rw[b2,h2];show _=some (Blk.box (.agg [.mref (eQ bs fs 3),.mref (eQ bs fs 4)]));rw[e3,e4],⟨show 3<2000 by omega,show 4<2000 by omega,trivial⟩⟩
 ·cases h;exact⟨by show hp (bs 3)=_;rw[b3,h3,Blk.ren,qx hn,ha],qz hn⟩
 ·cases h;exact⟨by show hp (bs 4)=_;rw[b4,h4,Blk.ren,pH hn,hb],pI hn⟩
 ·cases h;exact⟨by show hp (bs 5)=some (.itr (eQ bs fs 3) st ck seen);rw[e3];exact h5,show 3<2000 by omega⟩
 ·simp[rdQ]at h
theorem rd_h3(t:Tpl)(hc:aJ t=0)(k:Nat):dx Tryz.prog 0 k DP (rdS t (dO t t.ls)) (rdE t).st:=by
 unfold dx DP rdS
 have hO:=aC hc
 have hR:=hO.nr
 have hml:=bj
 have hM:=dl t t.ls
 have hnd:(t.rs.map (·.id)).Nodup:=List.Pairwise.map _ (λa b h=>by omega) hO.asc
 have hkO:∀q∈kyN (t.rs.map (·.id)),kOk q:=λq hq=>by
  obtain⟨x,hx,rfl⟩:=List.mem_map.mp hq
  obtain⟨r,hr,rfl⟩:=List.mem_map.mp hx
  have:=hO.rg r hr
  show inK .i64 r.id
  rw[Fe];omega
 have hG0:∀b,b<1000→GS (dO t t.ls) (hpL 0 (rdH t (t.rs.map (·.id)) (evN t.rs.length) (odN t.rs.length))) b=hpL 0 (rdH t (t.rs.map (·.id)) (evN t.rs.length) (odN t.rs.length)) b:=λb hb=>lk hb
 refine AWP.open 3 (hG0 3 (by decide)) λst ck hs1 hs2 hn hv=>?_
 rw[kyN,List.length_map,List.length_map]at hs2
 have g2:GS (dO t t.ls) (hpL 0 (rdH t (t.rs.map (·.id)) (evN t.rs.length) (odN t.rs.length))) 2=some (.box (.agg [.mref 3,.mref 4])):=hG0 2 (by decide)
 refine AWP.seq' ?_
 refine AWP.reg' λK hK=>?_
 try simp only[ak,am,al,eq_self,implies_true,forall_eq_or_imp,forall_eq,Nat.reduceEqDiff,↓reduceIte,Nat.reduceAdd,Nat.reduceLeDiff,Nat.reduceSub,Nat.reduceMul,Nat.reduceLT,Int.reduceBEq,Int.reduceBNe,Int.reduceToNat,Int.reduceLT,Int.reduceLE,Int.reduceAdd,Int.reduceSub,Int.reduceMul,reduceCtorEq,g2]
 refine qt rfl (ai _ _ _) ?_
 try simp only[ak,am,al,eq_self,implies_true,forall_eq_or_imp,forall_eq,Nat.reduceEqDiff,↓reduceIte,Nat.reduceAdd,Nat.reduceLeDiff,Nat.reduceSub,Nat.reduceMul,Nat.reduceLT,Int.reduceBEq,Int.reduceBNe,Int.reduceToNat,Int.reduceLT,Int.reduceLE,Int.reduceAdd,Int.reduceSub,Int.reduceMul,reduceCtorEq]
 refine hK _ _ _ ?_
 clear hK K
 refine AWP.block ?_
 refine AWP.loopS (λseen:List Nat=>rdR t (gU st seen (dO t t.ls)) st ck seen) (λseen=>seen.Nodup∧∀s∈seen,s∈st) (λseen=>st.length-seen.length) (i0:=[]) ⟨by simp,by simp⟩ ?_ ?_
 ·rw[Du]
  refine ay.nfR co _ _ _ (λb=>if b=5 then 2032 else b) Fr ?_ (LY ⟨rfl,rfl,rfl,rfl,rfl⟩ (by omega) ?_ ?_ ?_ ?_ ?_ ?_ rfl rfl) (by simp[rdQ]) (by omega) ?_ ?_ (λi j _ _ h=>by unfold Fr at h;omega) ?_ (λb hb=>by omega) (by decide)
  ·simp only[List.forall_mem_cons,List.not_mem_nil,false_implies,implies_true,and_true]
   exact⟨⟨rfl,show 1<2000 by omega⟩,⟨rfl,show 2<2000 by omega⟩,rfl,show 5<2000 by omega⟩
  ·rw[aj _ _ (by decide),aj _ _ (by decide)];exact hG0 0 (by decide)
  ·rw[aj _ _ (by decide),aj _ _ (by decide)];exact hG0 1 (by decide)
  ·rw[aj _ _ (by decide),aj _ _ (by decide)];exact hG0 2 (by decide)
  ·rw[aj _ _ (by decide),ai];rfl
  ·rw[aj _ _ (by decide),aj _ _ (by decide)];exact hG0 4 (by decide)
  ·rfl
  ·intro j r hr
   have hj:=aq hr
   rw[aj _ _ (by unfold Fr;omega),aj _ _ (by unfold Fr;omega)]
   exact gM hr (by omega)
  ·intro a b ha hb he
   simp only[rdQ,List.length_cons,List.length_nil]at ha hb
   (repeat' split at he)<;>omega
  ·intro a b ha hb he
   simp only[rdQ,List.length_cons,List.length_nil]at ha
   unfold Fr at he
   (repeat' split at he)<;>omega
 ·rintro seen ⟨hnd',hsub⟩
  unfold rdR
  have hS0:∀b,b<1000→GS (gU st seen (dO t t.ls)) (hpL 0 (rdQ t (t.rs.map (·.id)) (evN t.rs.length) (odN t.rs.length) st ck seen)) b=hpL 0 (rdQ t (t.rs.map (·.id)) (evN t.rs.length) (odN t.rs.length) st ck seen) b:=λb hb=>lk hb
  refine AWP.seq' ?_
  refine AWP.reg' λK hK=>?_
  try simp only[ak,am,al,eq_self,implies_true,forall_eq_or_imp,forall_eq,Nat.reduceEqDiff,↓reduceIte,Nat.reduceAdd,Nat.reduceLeDiff,Nat.reduceSub,Nat.reduceMul,Nat.reduceLT,Int.reduceBEq,Int.reduceBNe,Int.reduceToNat,Int.reduceLT,Int.reduceLE,Int.reduceAdd,Int.reduceSub,Int.reduceMul,reduceCtorEq]
  refine qu rfl (hS0 5 (by decide)) (hS0 3 (by decide)) hkO (λhs=>?_) (λi q v s0 e1 e2 e3 e4=>?_)
  ·try simp only[ak,am,al,eq_self,implies_true,forall_eq_or_imp,forall_eq,Nat.reduceEqDiff,↓reduceIte,Nat.reduceAdd,Nat.reduceLeDiff,Nat.reduceSub,Nat.reduceMul,Nat.reduceLT,Int.reduceBEq,Int.reduceBNe,Int.reduceToNat,Int.reduceLT,Int.reduceLE,Int.reduceAdd,Int.reduceSub,Int.reduceMul,reduceCtorEq]
   refine hK _ _ _ ?_
   clear hK K
   refine AWP.seq' (AWP.cond (b:=false) rfl (λh=>by cases h) (λ_=>AWP.exit ?_))
   refine(show ay 0 k _ _ from ?_)
   refine ay.trans (ay.close 3 (hS0 3 (by decide))) (Na t rfl rfl ?_ ?_ ?_ ?_ ?_ ?_)
   ·rw[aj _ _ (by decide)];exact hS0 0 (by decide)
   ·rw[aj _ _ (by decide)];exact hS0 1 (by decide)
   ·rw[aj _ _ (by decide)];exact hS0 2 (by decide)
   ·rw[ai]
   ·rw[aj _ _ (by decide)];exact hS0 4 (by decide)
   ·intro i r hr
    obtain⟨q1,q2⟩:=Dw hc hs hs2 hr
    rw[aj _ _ (by unfold Fr;omega),aj _ _ (by unfold Fr;omega)]
    exact⟨gM q1 (by rw[eA];omega),gM q2 (by rw[eA];omega)⟩
  ·have hi:i<t.rs.length:=by have:=aq e3;omega
   have hr:t.rs[i]?=some t.rs[i]:=List.getElem?_eq_getElem hi
   generalize t.rs[i]=r at hr
   have e1':(kyN (t.rs.map (·.id)))[i]?=some (MK.n r.id):=by rw[kyN,List.getElem?_map,List.getElem?_map,hr];rfl
   rw[e1']at e1;cases e1
   have e2':(evN t.rs.length)[i]?=some (.vec (Fr (2 * i))):=by rw[evN,List.getElem?_map,List.getElem?_range hi];rfl
   rw[e2']at e2;cases e2
   try simp only[ak,am,al,eq_self,implies_true,forall_eq_or_imp,forall_eq,Nat.reduceEqDiff,↓reduceIte,Nat.reduceAdd,Nat.reduceLeDiff,Nat.reduceSub,Nat.reduceMul,Nat.reduceLT,Int.reduceBEq,Int.reduceBNe,Int.reduceToNat,Int.reduceLT,Int.reduceLE,Int.reduceAdd,Int.reduceSub,Int.reduceMul,reduceCtorEq]
   refine hK _ _ _ ?_
   clear hK K
   refine AWP.seq' (AWP.cond (b:=true) rfl (λ_=>?_) (λh=>by cases h))
   refine AWP.skip ?_
   refine AWP.block (AWP.seq' ?_)
   refine AWP.reg' λK hK=>?_
   try simp only[ak,am,al,eq_self,implies_true,forall_eq_or_imp,forall_eq,Nat.reduceEqDiff,↓reduceIte,Nat.reduceAdd,Nat.reduceLeDiff,Nat.reduceSub,Nat.reduceMul,Nat.reduceLT,Int.reduceBEq,Int.reduceBNe,Int.reduceToNat,Int.reduceLT,Int.reduceLE,Int.reduceAdd,Int.reduceSub,Int.reduceMul,reduceCtorEq]
   refine qw (m:=3) rfl (ai _ _ _) ((aj _ _ (by decide)).trans ((aj _ _ (by decide)).trans (hS0 3 (by decide)))) e3 e1' e2' (hkO _ (List.mem_of_getElem? e1')) ?_
   try simp only[ak,am,al,eq_self,implies_true,forall_eq_or_imp,forall_eq,Nat.reduceEqDiff,↓reduceIte,Nat.reduceAdd,Nat.reduceLeDiff,Nat.reduceSub,Nat.reduceMul,Nat.reduceLT,Int.reduceBEq,Int.reduceBNe,Int.reduceToNat,Int.reduceLT,Int.reduceLE,Int.reduceAdd,Int.reduceSub,Int.reduceMul,reduceCtorEq,kAV]
   refine hK _ _ _ ?_
   clear hK K
   refine(show AWP _ _ _ _ _ _ from ?_)
   obtain⟨hk1,hk2⟩:=jR hnd (show(t.rs.map (·.id))[i]?=some r.id by rw[List.getElem?_map,hr];rfl)
   have hmg:cF (kyN (t.rs.map (·.id))) (evN t.rs.length) (MK.n r.id) (.sl 0 [] true) false=.vec (Fr (2 * i)):=by
    unfold cF;rw[if_pos hk1,hk2,qy hi];rfl
   obtain⟨q1,q2⟩:=mz hnd _ t.ls rfl (λl hl=>⟨hO.has l hl,hO.lt l hl⟩) i r hr
   have q3:=Dv (seen:=seen) q1 e3 e4
   have gF:GS (gU st seen (dO t t.ls)) (hpL 0 (rdQ t (t.rs.map (·.id)) (evN t.rs.length) (odN t.rs.length) st ck seen)) (Fr (2 * i))=some (.vec 2 ((fT t.ls r.id).map Stp.v)):=gM q3 (by rw[eA];omega)
   have g2':GS (gU st seen (dO t t.ls)) (hpL 0 (rdQ t (t.rs.map (·.id)) (evN t.rs.length) (odN t.rs.length) st ck seen)) 2=some (.box (.agg [.mref 3,.mref 4])):=hS0 2 (by decide)
   have g3':GS (gU st seen (dO t t.ls)) (hpL 0 (rdQ t (t.rs.map (·.id)) (evN t.rs.length) (odN t.rs.length) st ck seen)) 3=some (.mst none (kyN (t.rs.map (·.id))) (evN t.rs.length) st ck):=hS0 3 (by decide)
   refine AWP.reg' λK hK=>?_
   try simp only[ak,am,al,eq_self,implies_true,forall_eq_or_imp,forall_eq,Nat.reduceEqDiff,↓reduceIte,Nat.reduceAdd,Nat.reduceLeDiff,Nat.reduceSub,Nat.reduceMul,Nat.reduceLT,Int.reduceBEq,Int.reduceBNe,Int.reduceToNat,Int.reduceLT,Int.reduceLE,Int.reduceAdd,Int.reduceSub,Int.reduceMul,reduceCtorEq,g2',g3',bo,du,AV.key,hmg]
   refine⟨trivial,F5 (vb _ (zO hc r.id)) ⟨_,Tryz.func176,by kernel_rfl,by kernel_rfl⟩ ⟨trivial,trivial⟩ (iO _) (iO _) trivial rfl rfl ((aj _ _ (by unfold Fr;omega)).trans ((aj _ _ (by unfold Fr;omega)).trans gF)) ?_⟩
   try simp only[ak,am,al,eq_self,implies_true,forall_eq_or_imp,forall_eq,Nat.reduceEqDiff,↓reduceIte,Nat.reduceAdd,Nat.reduceLeDiff,Nat.reduceSub,Nat.reduceMul,Nat.reduceLT,Int.reduceBEq,Int.reduceBNe,Int.reduceToNat,Int.reduceLT,Int.reduceLE,Int.reduceAdd,Int.reduceSub,Int.reduceMul,reduceCtorEq]
   refine hK _ _ _ ?_
   clear hK K
   have hN:(seen++[s0]).Nodup:=List.nodup_append.mpr ⟨hnd',by simp,λa ha b hb=>by rw[List.mem_singleton.mp hb];rintro rfl;exact e4 ha⟩
   have hS:∀s∈seen++[s0],s∈st:=λs hs=>by
    rcases List.mem_append.mp hs with hs|hs
    ·exact hsub s hs
    ·rw[List.mem_singleton.mp hs];exact List.mem_of_getElem? e3
   have hL:st.length-(seen++[s0]).length<st.length-seen.length:=by
    have:=List.Nodup.length_le_of_subset hN hS
    rw[List.length_append,List.length_singleton]at this ⊢;omega
   refine⟨seen++[s0],⟨hN,hS⟩,hL,?_⟩
   rw[BQ q1 e3 hs1 (by rw[hM,hs2])]
   have h5:∀i:Nat,¬5=Fr i:=λi=>by unfold Fr;omega
   refine ay.nfR co _ _ _ (λb=>b) Fr ?_ (LY ⟨rfl,rfl,rfl,rfl,rfl⟩ (by omega) ?_ ?_ ?_ ?_ ?_ ?_ rfl rfl) (by simp[rdQ]) (by rw[List.length_set,eA];omega) ?_ (λi j _ _ h=>h) (λi j _ _ h=>by unfold Fr at h;omega) (λi j h1 h2 h=>by simp[rdQ]at h1;unfold Fr at h;omega) (λb _=>rfl) (by decide)
   ·simp only[List.forall_mem_cons,List.not_mem_nil,false_implies,implies_true,and_true]
    exact⟨⟨rfl,show 1<2000 by omega⟩,⟨rfl,show 2<2000 by omega⟩,rfl,show 5<2000 by omega⟩
   ·rw[aj _ _ (by unfold Fr;omega),aj _ _ (by decide),aj _ _ (by decide)];exact hS0 0 (by decide)
   ·rw[aj _ _ (by unfold Fr;omega),aj _ _ (by decide),aj _ _ (by decide)];exact hS0 1 (by decide)
   ·rw[aj _ _ (by unfold Fr;omega),aj _ _ (by decide),aj _ _ (by decide)];exact hS0 2 (by decide)
   ·rw[aj _ _ (by unfold Fr;omega),aj _ _ (by decide),aj _ _ (by decide)];exact hS0 3 (by decide)
   ·rw[aj _ _ (by unfold Fr;omega),aj _ _ (by decide),aj _ _ (by decide)];exact hS0 4 (by decide)
   ·rw[aj _ _ (h5 _),ai]
   ·intro j q hj
    have hjl:=aq hj
    rw[List.length_set,eA]at hjl
    rw[List.getElem?_set]at hj
    by_cases e:2 * i=j
    ·subst e
     rw[if_pos rfl,if_pos (by rw[eA];omega)]at hj
     cases hj
     rw[ai]
    ·rw[if_neg e]at hj
     rw[aj _ _ (by unfold Fr;omega),aj _ _ (by unfold Fr;omega),aj _ _ (by unfold Fr;omega)]
     exact gM hj (by rw[eA];omega)
structure Grh where
  out:Lks
  inn:Lks
def Grh.v(x:Grh):AV:=.agg [ix x.out,ix x.inn]
def kK(t:Tpl):Grh:=⟨cR t,inG t⟩
def O2(t:Tpl)(hc:aJ t=0):=okL [.agg [.sl 2 (t.rs.map Rtr.v) false,.sl 5 (t.ls.map Lnk.v) false]]
def xc(r:Grh):AV:=Grh.v r
def wZ(t:Tpl)(hc:aJ t=0):Ax Tryz.prog noS (Grh):=
 (.pass (.pass (.hand 0 [] (rd_m t) [0,16,80,32,48] (rdS t (List.replicate (2 * (t).rs.length) [])) DR (rd_h1 t hc)
(.hand2 0 (rdS t (List.replicate (2 * (t).rs.length) [])) (rdS t (dO t (t).ls)) DQ (rd_h2 t hc)
(.hand2 0 (rdS t (dO t (t).ls)) ((rdE t).st) DP (rd_h3 t hc)
(.ret (kK t)))))))
def AI(t:Tpl)(hc:aJ t=0)(r0:Grh):=(wZ t hc).vp xc r0
theorem O0(t:Tpl)(hc:aJ t=0)(ok:O2 t hc):AI t hc (kK t):=by
 dsimp only[AI,wZ,noS,Ax.vp,Ax.vc];simp only[vcU,rfU,List.length_map]
def O1(t:Tpl)(hc:aJ t=0):PC Tryz.prog:=⟨159,[(.a [(.s 2),(.s 5)])],[.agg [.sl 2 (t.rs.map Rtr.v) false,.sl 5 (t.ls.map Lnk.v) false]],xc (kK t),aw.of_ok λok=>av (sh:=.k) (enc:=xc) (a:=(wZ t hc).an) (O0 t hc ok) (by kernel_rfl) (AV.pureB_ok rfl),ap (by kernel_rfl)⟩
theorem l8{l:List Lnk}(h:l.Pairwise cX){i j:Nat}(hij:i<j){x y:Lnk}(hx:l[i]?=some x)(hy:l[j]?=some y):cX x y:=by
 have hi:=aq hx
 have hj:=aq hy
 rw[List.getElem?_eq_getElem hi]at hx
 rw[List.getElem?_eq_getElem hj]at hy
 have:=List.pairwise_iff_getElem.mp h i j hi hj hij
 rw[Option.some.inj hx,Option.some.inj hy]at this
 exact this
theorem Fm{l:List Lnk}(h:l.Pairwise cX)(k:Lnk):(dW l k=l.any (nL k))∧∀x∈l,nL k x=true→l[bE l k]?=some x:=by
 refine B3 (λa b x y hab hx hy e=>?_) (λx e=>?_) λa b x y hab hx hy e=>?_
 ·have:=l8 h hab hx hy
  simp[pS]at e ⊢;unfold cX at *;omega
 ·simp[nL]at e;simp[pS];unfold cX;omega
 ·have:=l8 h hab hx hy
  simp[nL]at e;simp[pS];unfold cX at *;omega
def wv(f g:Int):Lnk:=⟨dp f g,dj f g,0,0,0⟩
theorem IQ{t:Tpl}(hc:aJ t=0)(f g:Int):dW t.ls (wv f g)=(ec t f g).2∧∀x,dW t.ls (wv f g)=true→t.ls[bE t.ls (wv f g)]?=some x→(ec t f g)=(if f<g then x.ca else x.cb,true):=by
 have hO:=aC hc
 obtain⟨k1,k2⟩:=Fm hO.ord (wv f g)
 have key:∀x∈t.ls,fH f g x=nL (wv f g) x:=λx hx=>by
  have:=hO.lt x hx
  unfold fH nL wv
  rw[Bool.eq_iff_iff,decide_eq_true_iff]
  simp only[Bool.or_eq_true,Bool.and_eq_true,beq_iff_eq]
  unfold dp dj
  constructor
  ·intro h;(repeat' split)<;>omega
  ·intro h;(repeat' split at h)<;>omega
 have hany:t.ls.any (nL (wv f g))=(t.ls.find? (fH f g)).isSome:=by
  rw[Bool.eq_iff_iff,List.any_eq_true,List.find?_isSome]
  exact⟨λ⟨x,hx,e⟩=>⟨x,hx,by rw[key x hx];exact e⟩,λ⟨x,hx,e⟩=>⟨x,hx,by rw[←key x hx];exact e⟩⟩
 refine⟨?_,λx hh hx=>?_⟩
 ·rw[k1,hany];unfold ec
  cases q:t.ls.find? (fH f g)with
  | none=>rfl
  | some y=>rfl
 ·rw[k1,hany]at hh
  unfold ec
  cases q:t.ls.find? (fH f g)with
  | none=>rw[q]at hh;cases hh
  | some y =>
   have hy:=List.mem_of_find?_eq_some q
   have e:=List.find?_some q
   have e':=e
   rw[key y hy]at e'
   have:=k2 y hy e'
   rw[hx]at this;cases this
   have hlt:=hO.lt x hy
   simp only
   unfold fH at e
   simp only[Bool.or_eq_true,Bool.and_eq_true,beq_iff_eq]at e
   congr 1
   by_cases c:x.a=f∧x.b=g
   ·rw[if_pos (by simp[c]),if_pos (by omega)]
   ·rw[if_neg (by simpa using c),if_neg (by omega)]
def Pl(t:Tpl)(from_:Int)(to_:Int):=okL [.agg [.sl 2 (t.rs.map Rtr.v) false,.sl 5 (t.ls.map Lnk.v) false],.int from_,.int to_]
def xN(r:Int×Bool):AV:=.tup [.int r.1,.bool r.2]
def xM(t:Tpl)(from_:Int)(to_:Int):Ax Tryz.prog noS (Int×Bool):=
 (.callP (uK t)
(.br 96 (!(ie t)) (.ret (0,false))
(.req 240 (t.ls.length≤1000000) λh1 =>
(.callP (Mi t.ls (⟨dp from_ to_,dj from_ to_,0,0,0⟩:Lnk) h1)
(.br 384 (!(dW t.ls (⟨dp from_ to_,dj from_ to_,0,0,0⟩:Lnk))) (.ret (0,false))
(.br 448 (decide (from_<to_)) (.el 496 Lnk.v t.ls (λR=>Rf (t.ls.map Lnk.v) (ck (decide (0≤(bE t.ls (⟨dp from_ to_,dj from_ to_,0,0,0⟩:Lnk):Int))) (ck (decide ((bE t.ls (⟨dp from_ to_,dj from_ to_,0,0,0⟩:Lnk):Int)<(t.ls.length:Int)))
(∀x2,t.ls[(bE t.ls (⟨dp from_ to_,dj from_ to_,0,0,0⟩:Lnk):Int).toNat]?=some x2 →
(R x2))))) λx2 =>
(.ret (x2.ca,true)))
(.el 496 Lnk.v t.ls (λR=>Rf (t.ls.map Lnk.v) (ck (decide (0≤(bE t.ls (⟨dp from_ to_,dj from_ to_,0,0,0⟩:Lnk):Int))) (ck (decide ((bE t.ls (⟨dp from_ to_,dj from_ to_,0,0,0⟩:Lnk):Int)<(t.ls.length:Int)))
(∀x3,t.ls[(bE t.ls (⟨dp from_ to_,dj from_ to_,0,0,0⟩:Lnk):Int).toNat]?=some x3 →
(R x3))))) λx3 =>
(.ret (x3.cb,true)))))))))
def Bn(t:Tpl)(from_:Int)(to_:Int)(r0:Int×Bool):=(xM t from_ to_).vp xN r0
theorem Pk(t:Tpl)(f g:Int)(ok:Pl t f g):Bn t f g (bR t f g):=by
 dsimp only[Bn,xM,noS,Ax.vp,Ax.vc];simp only[vcU,rfU,List.length_map]
 unfold bR ie
 by_cases hc:aJ t=0
 ·have hl:=(aC hc).nl
  obtain⟨p1,p2⟩:=IQ hc f g
  change dW t.ls ⟨dp f g,dj f g,0,0,0⟩=_ at p1
  change ∀x,dW t.ls ⟨dp f g,dj f g,0,0,0⟩=true→t.ls[bE t.ls ⟨dp f g,dj f g,0,0,0⟩]?=some x→_ at p2
  generalize (⟨dp f g,dj f g,0,0,0⟩:Lnk)=kk at p1 p2 ⊢
  rw[hc]
  refine⟨λh=>by simp at h,λ_=>⟨by omega,λh=>?_,λh=>?_⟩⟩
  ·have h:dW t.ls kk=false:=by simpa using h
   rw[if_neg (by simp)]
   rw[h]at p1
   unfold ec at p1 ⊢
   cases q:t.ls.find? (fH f g)with
   | none=>rfl
   | some y=>rw[q]at p1;cases p1
  ·have h:dW t.ls kk=true:=by simpa using h
   have hp:bE t.ls kk<t.ls.length:=by
    refine Classical.byContradiction λq=>?_
    unfold dW bsH at h
    rw[List.getElem?_eq_none (by unfold bE at q;omega)]at h;cases h
   rw[if_neg (by simp)]
   refine⟨λc=>⟨by omega,by omega,λx hx=>?_⟩,λc=>⟨by omega,by omega,λx hx=>?_⟩⟩
   ·rw[p2 x h (by rw[Int.toNat_natCast]at hx;exact hx),if_pos c]
   ·rw[p2 x h (by rw[Int.toNat_natCast]at hx;exact hx),if_neg c]
 ·rw[if_pos hc]
  refine⟨λ_=>rfl,λh=>?_⟩
  simp[hc]at h
def nm(t:Tpl)(from_:Int)(to_:Int):PC Tryz.prog:=⟨95,[(.a [(.s 2),(.s 5)]),.k,.k],[.agg [.sl 2 (t.rs.map Rtr.v) false,.sl 5 (t.ls.map Lnk.v) false],.int from_,.int to_],xN (bR t from_ to_),aw.of_ok λok=>av (sh:=.k) (enc:=xN) (a:=(xM t from_ to_).an) (Pk t from_ to_ ok) (by kernel_rfl) (AV.pureB_ok rfl),ap (by kernel_rfl)⟩
theorem nJ{α:Type}{l:List α}{k:Nat}{x:α}(hx:l[k]?=some x){P:α→Prop}:(∀y∈l.take (k+1),P y)↔(∀y∈l.take k,P y)∧P x:=by
 rw[aV hx]
 constructor
 ·intro h;exact⟨λy hy=>h y (List.mem_append_left _ hy),h x (by simp)⟩
 ·rintro⟨h1,h2⟩ y hy
  rcases List.mem_append.mp hy with hy|hy
  ·exact h1 y hy
  ·rw[List.mem_singleton.mp hy];exact h2
section
variable {α : Type} {l a : List α} {p : α → Bool} {t : Int} {x : α}
end
def gA(l:List Int)(v:Int):Int:=match l.findIdx? λx=>decide (v=x)with
 | some i=>i
 | none=>-1
theorem tc{l:List Int}{r:Int}{i:Nat}(hx:l[i]?=some r)(hb:∀y∈l.take i,r≠y):gA l r=i:=by
 obtain⟨hi,hxi⟩:=List.getElem?_eq_some_iff.mp hx
 have:l.findIdx? (λp=>decide (r=p))=some i:=by
  rw[List.findIdx?_eq_some_iff_getElem]
  refine⟨hi,by rw[hxi];simp,λj hj=>?_⟩
  have:=hb l[j] (List.mem_of_getElem? (i:=j) (by rw[List.getElem?_take,if_pos hj,List.getElem?_eq_getElem (by omega)]))
  simpa using this
 unfold gA;rw[this]
theorem te{l:List Int}{r:Int}(hb:∀y∈l,r≠y):gA l r=-1:=by
 have:l.findIdx? (λp=>decide (r=p))=none:=by
  rw[List.findIdx?_eq_none_iff]
  intro x hx;simpa using hb x hx
 unfold gA;rw[this]
def tf(s:List Int)(v:Int):=okL [.sl 1 (s.map AV.int) false,.int v]
def Cn(s:List Int)(v:Int)(t0:Int):NF:=⟨[(0,.k,.sl 1 (s.map AV.int) false),(1,.k,.int v),(7,.k,.int ((s.map AV.int).length:Int)),(8,.k,.int t0)],[]⟩
@[reducible] def td:Nat→Type
 | 0=>Int
 | _=>Unit
def mI(r:Int):AV:=.int r
def mH(s:List Int)(v:Int)(I0:Int→Prop)(m0:Int→Nat):Ax Tryz.prog td (Int):=
 (.loop 0 (Cn s v) I0 m0 ((0):Int) [] λ(t0:Int) b0 =>
(.br 16 (decide (t0<((s.map AV.int).length:Int))) (.el 96 AV.int s (λR=>Rf (s.map AV.int) (ck (decide (0≤t0)) (ck (decide (t0<(s.length:Int)))
(∀x1,s[t0.toNat]?=some x1 →
(R x1))))) λx1 =>
(.br 144 (v==x1) (.ret (t0))
(.bk 0 b0 ((W (t0+1)):Int) [])))
(.ret (-1))))
def oa(s:List Int)(v:Int)(I0:Int→Prop)(m0:Int→Nat)(r0:Int):=(mH s v I0 m0).vp mI r0
theorem EY(l:List Int)(v:Int)(ok:tf l v):∃I m,oa l v I m (gA l v):=by
 simp only[tf,okU,Blk.ok,aK,List.length_map]at ok
 refine⟨λt=>∃k:Nat,t=k∧k≤l.length∧∀x∈l.take k,v≠x,λt=>l.length-t.toNat,?_⟩
 dsimp only[oa,mH,td,Ax.vp,Ax.vc];simp only[vcU,rfU,List.length_map]
 have hle:l.length≤9223372036854775807:=ok.1.1
 refine⟨⟨0,rfl,by omega,by simp⟩,?_⟩
 rintro _ ⟨k,rfl,hk,hI⟩
 simp only[Int.toNat_natCast]
 refine⟨λh1=>⟨by omega,by omega,λx hx=>⟨λe=>?_,λe=>?_⟩⟩,λh1=>?_⟩
 ·have e:v=x:=by simpa using e
  subst e
  rw[tc hx hI]
 ·rw[bx (n:=l.length) (by omega) (by omega)]
  exact⟨⟨k+1,rfl,by omega,(nJ hx).mpr ⟨hI,by simpa using e⟩⟩,by omega⟩
 ·rw[List.take_of_length_le (by omega)]at hI
  rw[te hI]
def EZ(s:List Int)(v:Int):PC Tryz.prog:=⟨112,[(.s 1),.k],[.sl 1 (s.map AV.int) false,.int v],mI (gA s v),aw.of_ok λok=>(EY s v ok).elim λI0 h=>h.elim λm0 h=>av (sh:=.k) (enc:=mI) (a:=(mH s v I0 m0).an) h (by kernel_rfl) (AV.pureB_ok rfl),ap (by kernel_rfl)⟩
theorem Cm{l:List Int}{v:Int}:0≤gA l v↔v∈l:=by
 unfold gA
 cases e:l.findIdx? (λp=>decide (v=p))with
 | none =>
  rw[List.findIdx?_eq_none_iff]at e
  simp only
  refine⟨λh=>by omega,λh=>by have:=e v h;simp at this⟩
 | some i =>
  rw[List.findIdx?_eq_some_iff_getElem]at e
  obtain⟨h1,h2,_⟩:=e
  simp only
  refine⟨λ_=>?_,λ_=>by omega⟩
  have:v=l[i]:=by simpa using h2
  rw[this];exact List.getElem_mem h1
def Ku(s:List Int)(v:Int):=okL [.sl 1 (s.map AV.int) false,.int v]
def qV(r:Bool):AV:=.bool r
def qU(s:List Int)(v:Int):Ax Tryz.prog noS (Bool):=
 (.callP (EZ s v)
(.ret (decide (0≤(gA s v)))))
def ub(s:List Int)(v:Int)(r0:Bool):=(qU s v).vp qV r0
theorem Kt(l:List Int)(v:Int)(ok:Ku l v):ub l v (decide (v∈l)):=by
 dsimp only[ub,qU,noS,Ax.vp,Ax.vc];simp only[vcU,rfU,List.length_map]
 exact decide_eq_decide.mpr Cm
def eY(s:List Int)(v:Int):PC Tryz.prog:=⟨72,[(.s 1),.k],[.sl 1 (s.map AV.int) false,.int v],qV (decide (v∈s)),aw.of_ok λok=>av (sh:=.k) (enc:=qV) (a:=(qU s v).an) (Kt s v ok) (by kernel_rfl) (AV.pureB_ok rfl),ap (by kernel_rfl)⟩
structure Hop where
  a:Int
  b:Int
  deriving DecidableEq
def Hop.v(h:Hop):AV:=.agg [.int h.a,.int h.b]
structure Flr where
  ls:List Hop
  rs:List Int
def nmd(l:List Hop)(a b:Int):Bool:=decide (⟨a,b⟩∈l) || decide (⟨b,a⟩∈l)
def gone(f:Flr)(l:Lnk):Bool:=decide (l.a∈f.rs) || (decide (l.b∈f.rs) || nmd f.ls l.a l.b)
def Fp(l:List Int)(n:Int):=okL [.sl 1 (l.map AV.int) false,.int n]
def JM(l:List Int)(n:Int)(t0:Int):NF:=⟨[(0,.k,.sl 1 (l.map AV.int) false),(1,.k,.int n),(5,.k,.int t0)],[]⟩
@[reducible] def Fo:Nat→Type
 | 0=>Int
 | _=>Unit
def wT(r:Bool):AV:=.bool r
def wS(l:List Int)(n:Int)(I0:Int→Prop)(m0:Int→Nat):Ax Tryz.prog Fo (Bool):=
 (.loop 0 (JM l n) I0 m0 ((0):Int) [] λ(t0:Int) b0 =>
(.br 64 (decide (t0<((l.map AV.int).length:Int))) (.el 96 AV.int l (λR=>Rf (l.map AV.int) (ck (decide (0≤t0)) (ck (decide (t0<(l.length:Int)))
(∀x1,l[t0.toNat]?=some x1 →
(R x1))))) λx1 =>
(.br 160 (x1==n) (.ret (true))
(.bk 0 b0 ((W (t0+1)):Int) [])))
(.ret (false))))
def AB(l:List Int)(n:Int)(I0:Int→Prop)(m0:Int→Nat)(r0:Bool):=(wS l n I0 m0).vp wT r0
theorem Oy(l:List Int)(n:Int)(ok:Fp l n):∃I m,AB l n I m (decide (n∈l)):=by
 refine⟨λt=>aL l (λy=>y≠n) t,λt=>l.length-t.toNat,?_⟩
 simp only[Fp,okU,Blk.ok,aK,List.length_map]at ok
 dsimp only[AB,wS,Fo,Ax.vp,Ax.vc];simp only[vcU,rfU,List.length_map]
 refine⟨aL.zero,λt h=>⟨λc=>⟨h.idx,c,λx hx=>⟨λq=>?_,λq=>h.step (by omega) hx (by simpa using q)⟩⟩,λc=>?_⟩⟩
 ·have q:=eq_of_beq q
  subst q;exact(decide_eq_true (bS hx)).symm
 ·exact(decide_eq_false λq=>h.done c n q rfl).symm
def wU(l:List Int)(n:Int):PC Tryz.prog:=⟨78,[(.s 1),.k],[.sl 1 (l.map AV.int) false,.int n],wT (decide (n∈l)),aw.of_ok λok=>(Oy l n ok).elim λI0 h=>h.elim λm0 h=>av (sh:=.k) (enc:=wT) (a:=(wS l n I0 m0).an) h (by kernel_rfl) (AV.pureB_ok rfl),ap (by kernel_rfl)⟩
def H6(t:Tpl):=okL [.agg [.sl 2 (t.rs.map Rtr.v) false,.sl 5 (t.ls.map Lnk.v) false]]
def oH(r:Bool):AV:=.bool r
def oG(t:Tpl):Ax Tryz.prog noS (Bool):=
 (.callP (Gk t)
(.ret ((aJ t)==0)))
def rQ(t:Tpl)(r0:Bool):=(oG t).vp oH r0
theorem H4(t:Tpl)(ok:H6 t):rQ t (ie t):=by
 dsimp only[rQ,oG,noS,Ax.vp,Ax.vc];simp only[vcU,rfU,List.length_map]
 rfl
def H5(t:Tpl):PC Tryz.prog:=⟨157,[(.a [(.s 2),(.s 5)])],[.agg [.sl 2 (t.rs.map Rtr.v) false,.sl 5 (t.ls.map Lnk.v) false]],oH (ie t),aw.of_ok λok=>av (sh:=.k) (enc:=oH) (a:=(oG t).an) (H4 t ok) (by kernel_rfl) (AV.pureB_ok rfl),ap (by kernel_rfl)⟩
structure kY (L:Lks):Prop where
  len:L.length≤1000000
  nd:(au L).Nodup
  to:∀x,∀s∈az L x [],s.to∈au L
  cost:∀x,∀s∈az L x [],1≤s.cost∧s.cost≤1000
structure DJ (L:Lks) (f:Int) (out op:Dis):Prop where
  di:j6 L out op
  src:(f,0)∈out∨(f,0)∈op
  tgt:∀p,p∈out∨p∈op→p.1≠f→∃q∈out,∃s∈az L q.1 [],s.to=p.1∧p.2=q.2+s.cost
  mon:∀p∈out,∀q∈op,p.2≤q.2
  bnd:∀p,p∈out∨p∈op→0≤p.2∧p.2≤1000 * out.length
theorem DJ.relx{L:Lks}{f:Int}{out op:Dis}{b c:Int}(hL:kY L)(h:DJ L f out op)(hb:(b,c)∈out)(ht:∀p∈out,p.2≤c)(hc:c+1000≤1000 * out.length){s:Stp}(hs:s∈az L b []) :
  DJ L f out (relx c out op s)∧(∀x n,(x,n)∈op→∃m,m≤n∧(x,m)∈Go.Proofs.YtdbdndmdbbihbaaGreat.relx c out op s)∧∃n,n≤c+s.cost∧((s.to,n)∈out∨(s.to,n)∈Go.Proofs.YtdbdndmdbbihbaaGreat.relx c out op s):=by
 obtain⟨c1,c2⟩:=hL.cost b s hs
 have c0:=(h.bnd _ (.inl hb)).1
 have hDi:=h.di.relx (c:=c) (hL.to b s hs)
 have hlen:=h.di.len1
 have hll:=hL.len
 have hW:W (c+s.cost)=c+s.cost:=dY ⟨by omega,by omega⟩
 revert hDi
 unfold Go.Proofs.YtdbdndmdbbihbaaGreat.relx
 rw[hW]
 by_cases e1:aU out s.to=true
 ·rw[if_pos e1]
  intro hDi
  refine⟨h,λx n hx=>⟨n,Int.le_refl _,hx⟩,?_⟩
  obtain⟨n,hn⟩:=bP.mp e1
  exact⟨n,by have:=ht _ hn;simp at this;omega,.inl hn⟩
 rw[if_neg e1]
 by_cases e2:aU op s.to=false∨c+s.cost<az op s.to 0
 ·rw[if_pos e2]
  intro hDi
  have hm:=λp=>bK (l:=op) (p:=p) (x:=s.to) (v:=c+s.cost) h.di.np
  refine⟨⟨hDi,?_,?_,?_,?_⟩,λx n hx=>?_,⟨c+s.cost,Int.le_refl _,.inr ((hm _).mpr (.inl rfl))⟩⟩
  ·rcases h.src with q|q
   ·exact .inl q
   ·refine .inr ((hm _).mpr (.inr ⟨q,?_⟩))
    rintro rfl
    rcases e2 with e2|e2
    ·exact Ai.mp e2 _ q
    ·rw[dE h.di.np q]at e2;omega
  ·rintro p (hp|hp) hpf
   ·exact h.tgt p (.inl hp) hpf
   ·rcases(hm _).mp hp with rfl|⟨hp,_⟩
    ·exact⟨_,hb,s,hs,rfl,rfl⟩
    ·exact h.tgt p (.inr hp) hpf
  ·intro p hp q hq
   rcases(hm _).mp hq with rfl|⟨hq,_⟩
   ·have:=ht p hp;simp only;omega
   ·exact h.mon p hp q hq
  ·rintro p (hp|hp)
   ·exact h.bnd p (.inl hp)
   ·rcases(hm _).mp hp with rfl|⟨hp,_⟩
    ·simp only;omega
    ·exact h.bnd p (.inr hp)
  ·by_cases ex:x=s.to
   ·subst ex
    refine⟨c+s.cost,?_,(hm _).mpr (.inl rfl)⟩
    rcases e2 with e2|e2
    ·exact absurd hx (Ai.mp e2 _)
    ·rw[dE h.di.np hx]at e2;omega
   ·exact⟨n,Int.le_refl _,(hm _).mpr (.inr ⟨hx,ex⟩)⟩
 ·rw[if_neg e2]
  intro hDi
  refine⟨h,λx n hx=>⟨n,Int.le_refl _,hx⟩,?_⟩
  have e3:aU op s.to=true:=by
   cases q:aU op s.to
   ·exact absurd (.inl q) e2
   ·rfl
  have e4:¬c+s.cost<az op s.to 0:=λq=>e2 (.inr q)
  exact⟨az op s.to 0,by omega,.inr (bG e3)⟩
theorem DJ.fold{L:Lks}{f:Int}{out:Dis}{b c:Int}(hL:kY L)(hb:(b,c)∈out)(ht:∀p∈out,p.2≤c)(hc:c+1000≤1000 * out.length):∀{l:List Stp} {op:Dis},DJ L f out op→(∀s∈l,s∈az L b []) →
  DJ L f out (l.foldl (Go.Proofs.YtdbdndmdbbihbaaGreat.relx c out) op)∧(∀x n,(x,n)∈op→∃m,m≤n∧(x,m)∈l.foldl (Go.Proofs.YtdbdndmdbbihbaaGreat.relx c out) op)∧∀s∈l,∃n,n≤c+s.cost∧((s.to,n)∈out∨(s.to,n)∈l.foldl (Go.Proofs.YtdbdndmdbbihbaaGreat.relx c out) op)
 | [],op,h,_=>⟨h,λx n hx=>⟨n,Int.le_refl _,hx⟩,λs hs=>by cases hs⟩
 | s::l,op,h,hs=>by
  obtain⟨h1,h2,h3⟩:=h.relx hL hb ht hc (hs s (by simp))
  obtain⟨g1,g2,g3⟩:=DJ.fold hL hb ht hc h1 λx hx=>hs x (List.mem_cons_of_mem _ hx)
  rw[List.foldl_cons]
  refine⟨g1,λx n hx=>?_,λq hq=>?_⟩
  ·obtain⟨m,hm,hx⟩:=h2 x n hx
   obtain⟨m',hm',hx⟩:=g2 x m hx
   exact⟨m',by omega,hx⟩
  ·rcases List.mem_cons.mp hq with rfl|hq
   ·obtain⟨n,hn,hx|hx⟩:=h3
    ·exact⟨n,hn,.inl hx⟩
    ·obtain⟨m',hm',hx⟩:=g2 _ n hx
     exact⟨m',by omega,.inr hx⟩
   ·exact g3 q hq
structure uD (L:Lks) (f:Int) (D:Dis):Prop where
  nd:(au D).Nodup
  ke:∀x∈au D,x∈au L
  src:(f,0)∈D
  rlx:∀p∈D,∀s∈az L p.1 [],∃n,n≤p.2+s.cost∧(s.to,n)∈D
  tgt:∀p∈D,p.1≠f→∃q∈D,∃s∈az L q.1 [],s.to=p.1∧p.2=q.2+s.cost
  pos:∀p∈D,0≤p.2∧p.2≤1000 * D.length
theorem Jx{l m:List Int}(hl:l.Nodup)(hm:m.Nodup)(hs:∀x∈l,x∈m)(e:l.length=m.length):∀x∈m,x∈l:=λx hx=>by
 refine Classical.byContradiction λq=>?_
 have h2:(x::l).Nodup:=List.nodup_cons.mpr ⟨q,hl⟩
 have:=List.Nodup.length_le_of_subset h2 (l₂:=m) λy hy=>by
  rcases List.mem_cons.mp hy with rfl|hy
  ·exact hx
  ·exact hs y hy
 simp at this;omega
theorem AU{L:Lks}{f:Int}(hL:kY L):∀(n:Nat) (out op:Dis),DJ L f out op→(∀p∈out,∀s∈az L p.1 [],∃n,n≤p.2+s.cost∧((s.to,n)∈out∨(s.to,n)∈op))→n=L.length-out.length→out.length<L.length→uD L f (CE L n out op)
 | 0,out,op,h,hr,hn,hl=>by omega
 | n+1,out,op,h,hr,hn,hl=>by
  rw[CE]
  by_cases e:op=[]
  ·rw[if_pos e]
   subst e
   refine⟨h.di.no,h.di.ko,?_,λp hp s hs=>?_,λp hp hf=>h.tgt p (.inl hp) hf,λp hp=>h.bnd p (.inl hp)⟩
   ·rcases h.src with q|q
    ·exact q
    ·cases q
   ·obtain⟨n,hn,hx|hx⟩:=hr p hp s hs
    ·exact⟨n,hn,hx⟩
    ·cases hx
  rw[if_neg e]
  obtain⟨c,hc,hmin⟩:=G9 e
  rw[dE h.di.np hc]
  generalize bst op=b at hc hmin ⊢
  have hbk:b∈au op:=aP.mpr ⟨c,hc⟩
  have hbo:=h.di.di b hbk
  obtain⟨hD,hlen⟩:=h.di.pop (c:=c) hbk
  have hmo:=λp=>bK (l:=out) (p:=p) (x:=b) (v:=c) h.di.no
  have hmd:=λp=>pQ (l:=op) (p:=p) (x:=b) h.di.np
  have hout:∀p∈out,p∈bi out b c:=λp hp=>(hmo p).mpr (.inr ⟨hp,λe=>hbo (aP.mpr ⟨p.2,by rw[←e];exact hp⟩)⟩)
  have htop:∀p∈bi out b c,p.2≤c:=λp hp=>by
   rcases(hmo p).mp hp with rfl|⟨hp,_⟩
   ·exact Int.le_refl _
   ·exact h.mon p hp _ hc
  have hmv:∀p,p∈op→p∈bi out b c∨p∈mdl op b:=λp hp=>by
   by_cases e:p.1=b
   ·refine .inl ((hmo p).mpr (.inl ?_))
    have:p.2=c:=fV h.di.np (x:=b) (by rw[←e];exact hp) hc
    exact Prod.ext e this
   ·exact .inr ((hmd p).mpr ⟨hp,e⟩)
  have hback:∀p,p∈bi out b c∨p∈mdl op b→p∈out∨p∈op:=λp hp=>by
   rcases hp with hp|hp
   ·rcases(hmo p).mp hp with rfl|⟨hp,_⟩
    ·exact .inr hc
    ·exact .inl hp
   ·exact .inr ((hmd p).mp hp).1
  have hJ:DJ L f (bi out b c) (mdl op b):=by
   refine⟨hD,?_,λp hp hf=>?_,λp hp q hq=>?_,λp hp=>?_⟩
   ·rcases h.src with q|q
    ·exact .inl (hout _ q)
    ·exact hmv _ q
   ·obtain⟨q,hq,s,hs,h1,h2⟩:=h.tgt p (hback p hp) hf
    exact⟨q,hout q hq,s,hs,h1,h2⟩
   ·have h1:=htop p hp
    have h2:=hmin q ((hmd q).mp hq).1
    unfold bfr at h2;simp only at h2;omega
   ·have:=h.bnd p (hback p hp)
    rw[hlen];omega
  have hcb:=h.bnd _ (.inr hc)
  simp only at hcb
  have hbm:(b,c)∈bi out b c:=(hmo _).mpr (.inl rfl)
  have hold:∀p∈out,∀s∈az L p.1 [],∃n,n≤p.2+s.cost∧((s.to,n)∈bi out b c∨(s.to,n)∈mdl op b):=λp hp s hs=>by
   obtain⟨n,hn,hx|hx⟩:=hr p hp s hs
   ·exact⟨n,hn,.inl (hout _ hx)⟩
   ·exact⟨n,hn,hmv _ hx⟩
  by_cases e2:(bi out b c).length=L.length
  ·rw[if_pos e2]
   have hall:=Jx hD.no hL.nd hD.ko (by rw[c9,c9,e2])
   have hemp:∀p,p ∉ mdl op b:=λp hp=>by
    have hk:p.1∈au (mdl op b):=aP.mpr ⟨p.2,hp⟩
    exact hD.di _ hk (hall _ (hD.kp _ hk))
   refine⟨hD.no,hD.ko,?_,λp hp s hs=>?_,λp hp hf=>hJ.tgt p (.inl hp) hf,λp hp=>hJ.bnd p (.inl hp)⟩
   ·rcases hJ.src with q|q
    ·exact q
    ·exact absurd q (hemp _)
   ·rcases(hmo p).mp hp with rfl|⟨hp',_⟩
    ·obtain⟨n,hn⟩:=aP.mp (hall _ (hL.to _ s hs))
     have h1:=htop _ hn
     have h2:=hL.cost _ s hs
     exact⟨n,by simp only at h1 ⊢;omega,hn⟩
    ·obtain⟨n,hn,hx|hx⟩:=hold p hp' s hs
     ·exact⟨n,hn,hx⟩
     ·exact absurd hx (hemp _)
  ·rw[if_neg e2]
   obtain⟨g1,g2,g3⟩:=hJ.fold hL hbm htop (by rw[hlen];omega) (l:=az L b []) λs hs=>hs
   refine AU hL n _ _ g1 (λp hp s hs=>?_) (by rw[hlen];omega) (by have:=hD.len1;omega)
   rcases(hmo p).mp hp with rfl|⟨hp',_⟩
   ·exact g3 s hs
   ·obtain⟨n,hn,hx|hx⟩:=hold p hp' s hs
    ·exact⟨n,hn,.inl hx⟩
    ·obtain⟨m,hm,hx⟩:=g2 _ _ hx
     exact⟨m,by omega,.inr hx⟩
theorem dU{L:Lks}{f:Int}(hL:kY L)(hf:f∈au L):uD L f (cr L f):=by
 have h0:0<L.length:=by rw[←c9];exact List.length_pos_of_mem hf
 have e:bi ([]:Dis) f 0=[(f,0)]:=rfl
 rw[cr,if_pos (show aU L f=true from decide_eq_true hf),e]
 refine AU hL _ _ _ ⟨⟨by simp[au],by simp[au],by simp[au],by simp[au];simpa[au]using hf,by simp[au]⟩,.inr (by simp),λp hp hpf=>?_,by simp,λp hp=>?_⟩ (by simp) (by simp) (by simpa using h0)
 ·rcases hp with hp|hp
  ·cases hp
  ·rw[List.mem_singleton.mp hp]at hpf;exact absurd rfl hpf
 ·rcases hp with hp|hp
  ·cases hp
  ·rw[List.mem_singleton.mp hp];simp
inductive gQ (L:Lks) (f:Int):Int→Int→Prop
  | nil:gQ L f f 0
  | snoc {u n:Int} {s:Stp}:gQ L f u n→s∈az L u []→gQ L f s.to (n+s.cost)
theorem uD.low{L:Lks}{f:Int}{D:Dis}(h:uD L f D){v n:Int}(p:gQ L f v n):∃m,m≤n∧(v,m)∈D:=by
 induction p with
 | nil=>exact⟨0,Int.le_refl _,h.src⟩
 | snoc q hs ih =>
  obtain⟨m,hm,hx⟩:=ih
  obtain⟨k,hk,hx⟩:=h.rlx _ hx _ hs
  exact⟨k,by simp only at hk;omega,hx⟩
theorem uD.path{L:Lks}{f:Int}{D:Dis}(hL:kY L)(h:uD L f D):∀(k:Nat) {v n:Int},n.toNat≤k→(v,n)∈D→gQ L f v n
 | k,v,n,hk,hx=>by
  by_cases e:v=f
  ·subst e
   have:=fV h.nd hx h.src
   subst this;exact .nil
  ·obtain⟨⟨u,m⟩,hq,s,hs,h1,h2⟩:=h.tgt _ hx e
   simp only at h1 h2 hs
   have hc:=hL.cost _ s hs
   have hp:=(h.pos _ hq).1
   have hp2:=(h.pos _ hx).1
   simp only at hp hp2
   subst h1;subst h2
   match k with
   | 0=>omega
   | k+1=>exact .snoc (uD.path hL h k (by omega) hq) hs
theorem ou{L:Lks}{f:Int}(hL:kY L)(hf:f∈au L){v m:Int}:(v,m)∈cr L f↔gQ L f v m∧∀n,gQ L f v n→m≤n:=by
 have h:=dU hL hf
 constructor
 ·intro hx
  refine⟨h.path hL _ (Nat.le_refl _) hx,λn p=>?_⟩
  obtain⟨k,hk,hx'⟩:=h.low p
  rw[fV h.nd hx hx'];exact hk
 ·rintro⟨p,q⟩
  obtain⟨k,hk,hx⟩:=h.low p
  have:=q k (h.path hL _ (Nat.le_refl _) hx)
  have:k=m:=by omega
  rw[←this];exact hx
def isR(r:Int)(x:Rtr):Bool:=x.id==r
theorem Ff{α:Type}{p:α→Bool}{l:List α}(h:l.any p=true):0≤cw p l∧cw p l<l.length:=by
 rw[cw,if_pos h]
 have:l.findIdx p<l.length:=List.findIdx_lt_length.mpr (List.any_eq_true.mp h)
 omega
def bf(t:Tpl)(r:Int):Int:=if aI t r=true then cw (isR r) t.rs else 0
theorem sw{t:Tpl}{r:Int}(h:0<t.rs.length):0≤bf t r∧bf t r<t.rs.length:=by
 unfold bf
 split
 ·rename_i c;exact Ff c
 ·omega
def Ei(t:Tpl)(r:Int):=okL [.agg [.sl 2 (t.rs.map Rtr.v) false,.sl 5 (t.ls.map Lnk.v) false],.int r]
def IX(t:Tpl)(r:Int)(t0:Int):NF:=⟨[(1,.k,.int r),(2,.k,.ref 0 0),(5,.k,.int t0)],[.box (.agg [.sl 2 (t.rs.map Rtr.v) false,.sl 5 (t.ls.map Lnk.v) false])]⟩
@[reducible] def Eg:Nat→Type
 | 0=>Int
 | _=>Unit
def vI(r:Int):AV:=.int r
def vH(t:Tpl)(r:Int)(I0:Int→Prop)(m0:Int→Nat):Ax Tryz.prog Eg (Int):=
 (.loop 0 (IX t r) I0 m0 ((0):Int) [0] λ(t0:Int) b0 =>
(.br 81 (decide (t0<((t.rs.map Rtr.v).length:Int))) (.el 129 Rtr.v t.rs (λR=>Rf (t.rs.map Rtr.v) (ck (decide (0≤t0)) (ck (decide (t0<(t.rs.length:Int)))
(∀x1,t.rs[t0.toNat]?=some x1 →
(R x1))))) λx1 =>
(.br 209 (x1.id==r) (.ret (t0))
(.bk 0 b0 ((W (t0+1)):Int) [0])))
(.ret (0))))
def zK(t:Tpl)(r:Int)(I0:Int→Prop)(m0:Int→Nat)(r0:Int):=(vH t r I0 m0).vp vI r0
theorem Nj(t:Tpl)(r:Int)(ok:Ei t r):∃I m,zK t r I m (bf t r):=by
 refine⟨λi=>aL t.rs (λx=>isR r x=false) i,λi=>t.rs.length-i.toNat,?_⟩
 simp only[Ei,okU,Blk.ok,aK,List.length_map]at ok
 dsimp only[zK,vH,Eg,Ax.vp,Ax.vc];simp only[vcU,rfU,List.length_map]
 refine⟨aL.zero,λi h=>⟨λc=>⟨h.idx,c,λx hx=>⟨λq=>?_,λq=>h.step (by omega) hx q⟩⟩,λc=>?_⟩⟩
 ·have:aI t r=true:=List.any_eq_true.mpr ⟨x,bS hx,q⟩
  rw[bf,if_pos this];exact h.found hx q
 ·have:¬aI t r=true:=λq=>by
   obtain⟨x,hx,q⟩:=List.any_eq_true.mp q
   have:=h.done c x hx
   rw[isR,q]at this;cases this
  rw[bf,if_neg this]
def Eh(t:Tpl)(r:Int):PC Tryz.prog:=⟨161,[(.a [(.s 2),(.s 5)]),.k],[.agg [.sl 2 (t.rs.map Rtr.v) false,.sl 5 (t.ls.map Lnk.v) false],.int r],vI (bf t r),aw.of_ok λok=>(Nj t r ok).elim λI0 h=>h.elim λm0 h=>av (sh:=.k) (enc:=vI) (a:=(vH t r I0 m0).an) h (by kernel_rfl) (AV.pureB_ok rfl),ap (by kernel_rfl)⟩
def okD(t:Tpl)(d:List Int):Prop:=d.length=t.rs.length∧t.rs.length≤1000
def at6(t:Tpl)(d:List Int)(r:Int):Int:=if aI t r=true then d.getD (cw (isR r) t.rs).toNat 0 else 1073741824
def at6_a(t:Tpl)(d:List Int)(r:Int):=okL [.agg [.sl 2 (t.rs.map Rtr.v) false,.sl 5 (t.ls.map Lnk.v) false],.sl 1 (d.map AV.int) false,.int r]
def PW(t:Tpl)(d:List Int)(r:Int)(t0:Int):NF:=⟨[(1,.k,.sl 1 (d.map AV.int) false),(2,.k,.int r),(3,.k,.ref 0 0),(7,.k,.int t0)],[.box (.agg [.sl 2 (t.rs.map Rtr.v) false,.sl 5 (t.ls.map Lnk.v) false])]⟩
@[reducible] def Ml:Nat→Type
 | 0=>Int
 | _=>Unit
def GX(r:Int):AV:=.int r
def GU(t:Tpl)(d:List Int)(r:Int)(I0:Int→Prop)(m0:Int→Nat):Ax Tryz.prog Ml (Int):=
 (.loop 0 (PW t d r) I0 m0 ((0):Int) [0] λ(t0:Int) b0 =>
(.br 81 (decide (t0<((t.rs.map Rtr.v).length:Int))) (.el 129 Rtr.v t.rs (λR=>Rf (t.rs.map Rtr.v) (ck (decide (0≤t0)) (ck (decide (t0<(t.rs.length:Int)))
(∀x1,t.rs[t0.toNat]?=some x1 →
(R x1))))) λx1 =>
(.br 209 (x1.id==r) (.el 241 AV.int d (λR=>Rf (d.map AV.int) (ck (decide (0≤t0)) (ck (decide (t0<(d.length:Int)))
(∀x2,d[t0.toNat]?=some x2 →
(R x2))))) λx2 =>
(.ret (x2)))
(.bk 0 b0 ((W (t0+1)):Int) [0])))
(.ret (1073741824))))
def GV(t:Tpl)(d:List Int)(r:Int)(I0:Int→Prop)(m0:Int→Nat)(r0:Int):=(GU t d r I0 m0).vp GX r0
theorem at6_p(t:Tpl)(d:List Int)(r:Int)(h:okD t d)(ok:at6_a t d r):∃I m,GV t d r I m (at6 t d r):=by
 refine⟨λi=>aL t.rs (λx=>isR r x=false) i,λi=>t.rs.length-i.toNat,?_⟩
 dsimp only[GV,GU,Ml,Ax.vp,Ax.vc];simp only[vcU,rfU,List.length_map]
 obtain⟨hd,hn⟩:=h
 refine⟨aL.zero,λi h=>⟨λc=>⟨h.idx,c,λx hx=>⟨λq=>⟨h.idx,by omega,λy hy=>?_⟩,λq=>h.step (by omega) hx q⟩⟩,λc=>?_⟩⟩
 ·have e:aI t r=true:=List.any_eq_true.mpr ⟨x,bS hx,q⟩
  rw[at6,if_pos e,←h.found hx q,List.getD_eq_getElem?_getD,hy];rfl
 ·have:¬aI t r=true:=λq=>by
   obtain⟨x,hx,q⟩:=List.any_eq_true.mp q
   have:=h.done c x hx
   rw[isR,q]at this;cases this
  rw[at6,if_neg this]
def GY(t:Tpl)(d:List Int)(r:Int)(h:okD t d):PC Tryz.prog:=⟨160,[(.a [(.s 2),(.s 5)]),(.s 1),.k],[.agg [.sl 2 (t.rs.map Rtr.v) false,.sl 5 (t.ls.map Lnk.v) false],.sl 1 (d.map AV.int) false,.int r],GX (at6 t d r),aw.of_ok λok=>(at6_p t d r h ok).elim λI0 h=>h.elim λm0 h=>av (sh:=.k) (enc:=GX) (a:=(GU t d r I0 m0).an) h (by kernel_rfl) (AV.pureB_ok rfl),ap (by kernel_rfl)⟩
def rlx1(d:List Int)(a b:Nat)(c:Int):List Int:=if d.getD b 0<1073741824 then d.set a (dp (d.getD a 0) (W (c+d.getD b 0)))else d
def rlx(t:Tpl)(d:List Int)(l:Lnk):List Int:=rlx1 (rlx1 d (bf t l.a).toNat (bf t l.b).toNat l.ca) (bf t l.b).toNat (bf t l.a).toNat l.cb
def jn(t:Tpl):Nat→List Int→List Int
 | 0,d=>d
 | n+1,d=>t.ls.foldl (rlx t) (jn t n d)
def to0(t:Tpl)(r:Int):List Int:=t.rs.map λx=>if isR r x=true then 0 else 1073741824
def to6(t:Tpl)(r:Int):List Int:=jn t t.rs.length (to0 t r)
theorem ik{d:List Int}{a b:Nat}{c:Int}:(rlx1 d a b c).length=d.length:=by unfold rlx1;split<;>simp
theorem zB{t:Tpl}{d:List Int}{l:Lnk}:(rlx t d l).length=d.length:=by rw[rlx,ik,ik]
theorem gB{t:Tpl}:∀{ls:List Lnk} {d:List Int},(ls.foldl (rlx t) d).length=d.length
 | [],d=>rfl
 | l::ls,d=>by rw[List.foldl_cons,gB,zB]
theorem lS{t:Tpl}{d:List Int}:∀{n:Nat},(jn t n d).length=d.length
 | 0=>rfl
 | n+1=>by rw[jn,gB,lS]
theorem HU{t:Tpl}{r:Int}:(to6 t r).length=t.rs.length:=by rw[to6,lS,to0,List.length_map]
theorem Jw{l:List Int}{k:Nat}{v:Int}{P:Int→Prop}(h:∀x∈l,P x)(hv:P v):∀x∈l.set k v,P x:=λx hx=>by
 rcases List.mem_or_eq_of_mem_set hx with q|q
 ·exact h x q
 ·exact q ▸ hv
theorem qj{d:List Int}(h:∀x∈d,0≤x)(k:Nat):0≤d.getD k 0:=by
 rw[List.getD_eq_getElem?_getD]
 cases e:d[k]? with
 | none=>simp
 | some x=>exact h x (bc e)
theorem l5{d:List Int}{a b:Nat}{c:Int}(h:∀x∈d,0≤x)(hc:1≤c∧c≤1000):∀x∈rlx1 d a b c,0≤x:=by
 unfold rlx1
 split
 ·have h1:=qj h a
  have h2:=qj h b
  refine Jw h ?_
  rw[dY (by omega)]
  unfold dp;split<;>omega
 ·exact h
theorem dV{n:Int}:gE n=true↔1≤n∧n≤1000:=by unfold gE;simp
theorem D9{t:Tpl}{d:List Int}{l:Lnk}(h:∀x∈d,0≤x)(hl:gV l):∀x∈rlx t d l,0≤x:=l5 (l5 h (dV.mp hl.1)) (dV.mp hl.2.1)
theorem ld{t:Tpl}:∀{ls:List Lnk} {d:List Int},(∀x∈d,0≤x)→(∀l∈ls,gV l)→∀x∈ls.foldl (rlx t) d,0≤x
 | [],d,h,_=>h
 | l::ls,d,h,hl=>ld (t:=t) (ls:=ls) (d:=rlx t d l) (D9 h (hl l (by simp))) λm hm=>hl m (by simp[hm])
theorem zA{t:Tpl}(hl:∀l∈t.ls,gV l){d:List Int}(h:∀x∈d,0≤x):∀{n:Nat},∀x∈jn t n d,0≤x
 | 0=>h
 | n+1=>ld (zA hl h) hl
theorem rk{t:Tpl}(h:aJ t=0):∀l∈t.ls,gV l:=by
 refine Classical.byContradiction λq=>?_
 unfold aJ at h
 by_cases c1:24<t.rs.length∨60<t.ls.length
 ·rw[if_pos c1]at h;cases h
 rw[if_neg c1]at h
 by_cases c2:¬∀x∈t.rs,1≤x.id∧x.id≤99
 ·rw[if_pos c2]at h;cases h
 rw[if_neg c2]at h
 by_cases c3:¬t.rs.Pairwise (λx y=>x.id<y.id)
 ·rw[if_pos c3]at h;cases h
 rw[if_neg c3,if_pos q]at h;cases h
theorem M5{t:Tpl}(h:aJ t=0){r:Int}:∀x∈to6 t r,0≤x:=by
 refine zA (rk h) λx hx=>?_
 obtain⟨y,_,rfl⟩:=List.mem_map.mp hx
 split<;>omega
theorem zo{α:Type}{A B:List α}{k:Nat}{x v:α}(h:A.length=k):(A++x::B).set k v=A++v::B:=by
 subst h;rw[List.set_append_right _ _ (Nat.le_refl _),Nat.sub_self,List.set_cons_zero]
theorem getD_of{d:List Int}{k:Nat}{x:Int}(h:d[k]?=some x):d.getD k 0=x:=by rw[List.getD_eq_getElem?_getD,h];rfl
def to6_a(t:Tpl)(to_:Int):=okL [.agg [.sl 2 (t.rs.map Rtr.v) false,.sl 5 (t.ls.map Lnk.v) false],.int to_]
def M9(t:Tpl)(to_:Int)(t0:Int×List Int):NF:=⟨[(1,.k,.int to_),(2,.k,.ref 0 0),(5,.k,.vec 1),(6,.k,.int t0.1)],[.box (.agg [.sl 2 (t.rs.map Rtr.v) false,.sl 5 (t.ls.map Lnk.v) false]),.vec 1 (t0.2.map AV.int) (ab (λ_=>rfl) t0.2)]⟩
def M8(t:Tpl)(t1:Int×List Int):NF:=⟨[(2,.k,.ref 0 0),(5,.k,.vec 1),(7,.k,.int t1.1)],[.box (.agg [.sl 2 (t.rs.map Rtr.v) false,.sl 5 (t.ls.map Lnk.v) false]),.vec 1 (t1.2.map AV.int) (ab (λ_=>rfl) t1.2)]⟩
def M7(t:Tpl)(t1:Int×List Int)(t2:Int×List Int):NF:=⟨[(2,.k,.ref 0 0),(5,.k,.vec 1),(7,.k,.int t1.1),(8,.k,.int t2.1)],[.box (.agg [.sl 2 (t.rs.map Rtr.v) false,.sl 5 (t.ls.map Lnk.v) false]),.vec 1 (t2.2.map AV.int) (ab (λ_=>rfl) t2.2)]⟩
def M6(t:Tpl)(t1:Int×List Int)(t2:Int×List Int)(x4:Lnk)(t3:List Int):NF:=⟨[(2,.k,.ref 0 0),(5,.k,.vec 1),(7,.k,.int t1.1),(8,.k,.int t2.1),(9,.k,.ref 2 0),(10,.k,.int (bf t x4.a)),(11,.k,.int (bf t x4.b))],[.box (.agg [.sl 2 (t.rs.map Rtr.v) false,.sl 5 (t.ls.map Lnk.v) false]),.vec 1 (t3.map AV.int) (ab (λ_=>rfl) t3),.box (.agg [.int x4.a,.int x4.b,.int x4.ca,.int x4.cb,.int x4.w])]⟩
@[reducible] def LW:Nat→Type
 | 0=>Int×List Int
 | 1=>Int×List Int
 | 2=>Int×List Int
 | 3=>(List Int)
 | _=>Unit
def Dm(r:List Int):AV:=.sl 1 (r.map AV.int) false
def Dj(t:Tpl)(to_:Int)(I0:(Int×List Int)→Prop)(m0:(Int×List Int)→Nat)(I1:Int×List Int→(Int×List Int)→Prop)(m1:Int×List Int→(Int×List Int)→Nat)(I2:Int×List Int→Int×List Int→(Int×List Int)→Prop)(m2:Int×List Int→Int×List Int→(Int×List Int)→Nat)(I3:Int×List Int→Int×List Int→Int×List Int→Lnk→(List Int)→Prop):Ax Tryz.prog LW ((List Int)):=
 (.say (λR=>Rf (AV.int 0) (ck (cond (decide (0≤((t.rs.map Rtr.v).length:Int))) (cond (decide (((t.rs.map Rtr.v).length:Int)≤((t.rs.map Rtr.v).length:Int))) (decide (((t.rs.map Rtr.v).length:Int)≤1048576)) false) false)
R)) (.rep 80 AV.int 0
(.loop 0 (M9 t to_) I0 m0 (0,List.replicate (((t.rs.map Rtr.v).length:Int).toNat) 0) [0,80] λ(t0:Int×List Int) b0 =>
(.br 66 (decide (t0.1<((t0.2.map AV.int).length:Int))) (.say (ck (cond (decide (0≤t0.1)) (decide (t0.1<((t0.2.map AV.int).length:Int))) false)) (.st 114 AV.int t0.2 (λy1=>1073741824) (λR=>Rf (t0.2.map AV.int) (ck (decide (t0.1.toNat<t0.2.length))
(∀y1,t0.2[t0.1.toNat]?=some y1→Rf (AV.int 1073741824)
((R y1))))) λy1 =>
(.el 178 Rtr.v t.rs (λR=>Rf (t.rs.map Rtr.v) (ck (decide (0≤t0.1)) (ck (decide (t0.1<(t.rs.length:Int)))
(∀x2,t.rs[t0.1.toNat]?=some x2 →
(R x2))))) λx2 =>
(.br 258 (x2.id==to_) (.say (ck (cond (decide (0≤t0.1)) (decide (t0.1<(((t0.2.set t0.1.toNat 1073741824).map AV.int).length:Int))) false)) (.st 306 AV.int (t0.2.set t0.1.toNat 1073741824) (λy3=>0) (λR=>Rf ((t0.2.set t0.1.toNat 1073741824).map AV.int) (ck (decide (t0.1.toNat<(t0.2.set t0.1.toNat 1073741824).length))
(∀y3,(t0.2.set t0.1.toNat 1073741824)[t0.1.toNat]?=some y3→Rf (AV.int 0)
((R y3))))) λy3 =>
(.bk 0 b0 (W (t0.1+1),(t0.2.set t0.1.toNat 1073741824).set t0.1.toNat 0) [0,1])))
(.bk 0 b0 (W (t0.1+1),t0.2.set t0.1.toNat 1073741824) [0,1])))))
(.loop 1 (M8 t) (I1 t0) (m1 t0) (0,t0.2) [0,1] λ(t1:Int×List Int) b1 =>
(.br 66 (decide (t1.1<((t1.2.map AV.int).length:Int))) (.loop 2 (M7 t t1) (I2 t0 t1) (m2 t0 t1) (0,t1.2) [0,1] λ(t2:Int×List Int) b2 =>
(.br 82 (decide (t2.1<((t.ls.map Lnk.v).length:Int))) (.el 130 Lnk.v t.ls (λR=>Rf (t.ls.map Lnk.v) (ck (decide (0≤t2.1)) (ck (decide (t2.1<(t.ls.length:Int)))
(∀x4,t.ls[t2.1.toNat]?=some x4 →
(R x4))))) λx4 =>
(.callP (Eh t x4.a)
(.callP (Eh t x4.b)
(.join 3 (M6 t t1 t2 x4) (λ(t3:List Int)=>I3 t0 t1 t2 x4 t3) (λb3=>(.say (ck (cond (decide (0≤(bf t x4.b))) (decide ((bf t x4.b)<((t2.2.map AV.int).length:Int))) false)) (.el 402 AV.int t2.2 (λR=>Rf (t2.2.map AV.int) (ck (decide ((bf t x4.b).toNat<t2.2.length))
(∀x5,t2.2[(bf t x4.b).toNat]?=some x5 →
(R x5)))) λx5 =>
(.br 434 (decide (x5<1073741824)) (.say (ck (cond (decide (0≤(bf t x4.a))) (decide ((bf t x4.a)<((t2.2.map AV.int).length:Int))) false)) (.el 514 AV.int t2.2 (λR=>Rf (t2.2.map AV.int) (ck (decide ((bf t x4.a).toNat<t2.2.length))
(∀x6,t2.2[(bf t x4.a).toNat]?=some x6 →
(R x6)))) λx6 =>
(.say (ck (cond (decide (0≤(bf t x4.b))) (decide ((bf t x4.b)<((t2.2.map AV.int).length:Int))) false)) (.el 610 AV.int t2.2 (λR=>Rf (t2.2.map AV.int) (ck (decide ((bf t x4.b).toNat<t2.2.length))
(∀x7,t2.2[(bf t x4.b).toNat]?=some x7 →
(R x7)))) λx7 =>
(.say (ck (cond (decide (0≤(bf t x4.a))) (decide ((bf t x4.a)<((t2.2.map AV.int).length:Int))) false)) (.st 674 AV.int t2.2 (λy8=>(dp x6 (W (x4.ca+x7)))) (λR=>Rf (t2.2.map AV.int) (ck (decide ((bf t x4.a).toNat<t2.2.length))
(∀y8,t2.2[(bf t x4.a).toNat]?=some y8→Rf (AV.int (dp x6 (W (x4.ca+x7))))
((R y8))))) λy8 =>
(.bk 3 b3 ((t2.2.set ((bf t x4.a).toNat) (dp x6 (W (x4.ca+x7)))):(List Int)) [0,1,162])))))))
(.bk 3 b3 ((t2.2):(List Int)) [0,1,162]))))) λ(t3:List Int) =>
(.say (ck (cond (decide (0≤(bf t x4.a))) (decide ((bf t x4.a)<((t3.map AV.int).length:Int))) false)) (.el 51 AV.int t3 (λR=>Rf (t3.map AV.int) (ck (decide ((bf t x4.a).toNat<t3.length))
(∀x9,t3[(bf t x4.a).toNat]?=some x9 →
(R x9)))) λx9 =>
(.br 83 (decide (x9<1073741824)) (.say (ck (cond (decide (0≤(bf t x4.b))) (decide ((bf t x4.b)<((t3.map AV.int).length:Int))) false)) (.el 163 AV.int t3 (λR=>Rf (t3.map AV.int) (ck (decide ((bf t x4.b).toNat<t3.length))
(∀x10,t3[(bf t x4.b).toNat]?=some x10 →
(R x10)))) λx10 =>
(.say (ck (cond (decide (0≤(bf t x4.a))) (decide ((bf t x4.a)<((t3.map AV.int).length:Int))) false)) (.el 259 AV.int t3 (λR=>Rf (t3.map AV.int) (ck (decide ((bf t x4.a).toNat<t3.length))
(∀x11,t3[(bf t x4.a).toNat]?=some x11 →
(R x11)))) λx11 =>
(.say (ck (cond (decide (0≤(bf t x4.b))) (decide ((bf t x4.b)<((t3.map AV.int).length:Int))) false)) (.st 323 AV.int t3 (λy12=>(dp x10 (W (x4.cb+x11)))) (λR=>Rf (t3.map AV.int) (ck (decide ((bf t x4.b).toNat<t3.length))
(∀y12,t3[(bf t x4.b).toNat]?=some y12→Rf (AV.int (dp x10 (W (x4.cb+x11))))
((R y12))))) λy12 =>
(.bk 2 b2 (W (t2.1+1),t3.set ((bf t x4.b).toNat) (dp x10 (W (x4.cb+x11)))) [0,1])))))))
(.bk 2 b2 (W (t2.1+1),t3) [0,1]))))))))
(.bk 1 b1 (W (t1.1+1),t2.2) [0,1])))
(.say (Rf (t1.2.map AV.int)) (.cmdL (.frzE 1 (t1.2.map AV.int) (ab (λ_=>rfl) t1.2)) (.ret (t1.2))))))))))
def Dk(t:Tpl)(to_:Int)(I0:(Int×List Int)→Prop)(m0:(Int×List Int)→Nat)(I1:Int×List Int→(Int×List Int)→Prop)(m1:Int×List Int→(Int×List Int)→Nat)(I2:Int×List Int→Int×List Int→(Int×List Int)→Prop)(m2:Int×List Int→Int×List Int→(Int×List Int)→Nat)(I3:Int×List Int→Int×List Int→Int×List Int→Lnk→(List Int)→Prop)(r0:List Int):=(Dj t to_ I0 m0 I1 m1 I2 m2 I3).vp Dm r0
theorem to6_p(t:Tpl)(r:Int)(h:aJ t=0)(ok:to6_a t r):∃I0 m0 I1 m1 I2 m2 I3,Dk t r I0 m0 I1 m1 I2 m2 I3 (to6 t r):=by
 refine⟨λs=>∃k:Nat,s.1=k∧k≤t.rs.length∧s.2=(to0 t r).take k++List.replicate (t.rs.length-k) 0,λs=>t.rs.length-s.1.toNat,
  λ_ s=>∃k:Nat,s.1=k∧k≤t.rs.length∧s.2=jn t k (to0 t r),λ_ s=>t.rs.length-s.1.toNat,
  λ_ u s=>kS t.ls (rlx t) u.2 s.1 s.2,λ_ _ s=>t.ls.length-s.1.toNat,λ_ u s l d=>d=rlx1 s.2 (bf t l.a).toNat (bf t l.b).toNat l.ca,?_⟩
 dsimp only[Dk,Dj,LW,Ax.vp,Ax.vc];simp only[vcU,rfU,List.length_map]
 have hn:=(cH h).1
 have h0:(to0 t r).length=t.rs.length:=by rw[to0,List.length_map]
 refine⟨by simp;omega,⟨0,rfl,by omega,by simp⟩,?_⟩
 rintro⟨_,_⟩ ⟨k,rfl,hk,rfl⟩
 simp only
 have hlen:((to0 t r).take k++List.replicate (t.rs.length-k) (0:Int)).length=t.rs.length:=by simp[h0];omega
 rw[hlen]
 refine⟨λc=>⟨dg (by omega) c,by omega,λy hy=>⟨by omega,c,λx hx=>?_⟩⟩,λc=>?_⟩
 ·rw[Int.toNat_natCast]at hx ⊢
  have hkl:k<t.rs.length:=aq hx
  have e0:t.rs.length-k=(t.rs.length-(k+1))+1:=by omega
  have hA:((to0 t r).take k).length=k:=by rw[List.length_take,h0];omega
  have hg:(to0 t r)[k]?=some (if isR r x=true then 0 else 1073741824):=by rw[to0,List.getElem?_map,hx];rfl
  rw[e0,List.replicate_succ,zo hA,zo hA,bx (n:=t.rs.length) hkl (by omega)]
  refine⟨λe=>⟨dg (by omega) (by simp[h0];omega),by simp[h0];omega,λy hy=>⟨⟨k+1,rfl,by omega,?_⟩,by omega⟩⟩,λe=>⟨⟨k+1,rfl,by omega,?_⟩,by omega⟩⟩
  ·rw[aV hg,if_pos (show isR r x=true from e)];simp
  ·have e:¬isR r x=true:=λq=>by rw[isR,e]at q;cases q
   rw[aV hg,if_neg e];simp
 have:k=t.rs.length:=by omega
 subst this
 have e1:(to0 t r).take t.rs.length++List.replicate (t.rs.length-t.rs.length) (0:Int)=to0 t r:=by
  rw[Nat.sub_self,List.replicate_zero,List.append_nil,←h0,List.take_length]
 rw[e1]
 refine⟨⟨0,rfl,by omega,rfl⟩,?_⟩
 rintro⟨_,_⟩ ⟨k,rfl,hk,rfl⟩
 simp only
 have hlen2:(jn t k (to0 t r)).length=t.rs.length:=by rw[lS,h0]
 rw[hlen2]
 refine⟨λc2=>⟨kS.zero,?_⟩,λc2=>?_⟩
 ·rintro⟨j,d⟩ g
  simp only at g ⊢
  have hpos:0<t.rs.length:=by omega
  have hdl:d.length=t.rs.length:=by
   obtain⟨m,_,_,e⟩:=g
   rw[e,gB,hlen2]
  have hll:=(cH h).2
  refine⟨λc3=>⟨g.idx,c3,λl hl=>?_⟩,λc3=>?_⟩
  ·obtain⟨a1,a2⟩:=sw (r:=l.a) hpos
   obtain⟨b1,b2⟩:=sw (r:=l.b) hpos
   generalize hea:bf t l.a=pa at a1 a2 ⊢
   generalize heb:bf t l.b=pb at b1 b2 ⊢
   refine⟨⟨dg b1 (by omega),by omega,λx5 h5=>⟨λe=>⟨dg a1 (by omega),by omega,λx6 h6=>⟨dg b1 (by omega),by omega,λx7 h7=>⟨dg a1 (by omega),by omega,λy8 h8=>?_⟩⟩⟩,λe=>?_⟩⟩,?_⟩
   ·rw[rlx1,getD_of h5,getD_of h6,if_pos e]
    rw[h5]at h7;cases h7;rfl
   ·rw[rlx1,getD_of h5,if_neg e]
   rintro d4 hd4
   have hl4:d4.length=t.rs.length:=by rw[hd4,ik];exact hdl
   refine⟨dg a1 (by omega),by omega,λx9 h9=>⟨λe=>⟨dg b1 (by omega),by omega,λx10 h10=>⟨dg a1 (by omega),by omega,λx11 h11=>⟨dg b1 (by omega),by omega,λy12 h12=>g.step (by omega) hl ?_⟩⟩⟩,λe=>g.step (by omega) hl ?_⟩⟩
   ·rw[rlx,hea,heb,←hd4,rlx1,getD_of h9,getD_of h10,if_pos e]
    rw[h9]at h11;cases h11;rfl
   ·rw[rlx,hea,heb,←hd4,rlx1,getD_of h9,if_neg e]
  ·rw[bx (n:=t.rs.length) (by omega) (by omega)]
   exact⟨⟨k+1,rfl,by omega,by rw[jn];exact g.done c3⟩,by omega⟩
 ·have:k=t.rs.length:=by omega
  subst this
  rfl
def to6_c(t:Tpl)(to_:Int)(h:aJ t=0):PC Tryz.prog:=⟨134,[(.a [(.s 2),(.s 5)]),.k],[.agg [.sl 2 (t.rs.map Rtr.v) false,.sl 5 (t.ls.map Lnk.v) false],.int to_],Dm (to6 t to_),aw.of_ok λok=>(to6_p t to_ h ok).elim λI0 h=>h.elim λm0 h=>h.elim λI1 h=>h.elim λm1 h=>h.elim λI2 h=>h.elim λm2 h=>h.elim λI3 h=>av (sh:=(.s 1)) (enc:=Dm) (a:=(Dj t to_ I0 m0 I1 m1 I2 m2 I3).an) h (by kernel_rfl) (AV.pureB_ok rfl),ap (by kernel_rfl)⟩
def okN(t:Tpl)(d:List Int)(r q:Int):Bool:=decide (at6 t d q<1073741824) && (W ((ec t r q).1+at6 t d q)==at6 t d r)
def cN(t:Tpl)(d:List Int)(r:Int):List Int:=if at6 t d r=1073741824∨at6 t d r=0 then []else(eO t r).filter (okN t d r)
theorem mY{α β:Type}{p:α→Bool}{g:α→β}:∀{l:List α},(l.flatMap λx=>if p x=true then [g x]else []).length≤l.length
 | []=>by simp
 | x::l=>by
  have:=mY (p:=p) (g:=g) (l:=l)
  have h1:(if p x=true then [g x]else []).length≤1:=by split<;>simp
  rw[List.flatMap_cons,List.length_append,List.length_cons]
  omega
theorem sJ{t:Tpl}{r:Int}:(eO t r).length≤t.rs.length:=mY (p:=λx:Rtr=>(ec t r x.id).2) (g:=Rtr.id)
def MF(t:Tpl)(d:List Int)(from_:Int):=okL [.agg [.sl 2 (t.rs.map Rtr.v) false,.sl 5 (t.ls.map Lnk.v) false],.sl 1 (d.map AV.int) false,.int from_]
def Ib(t:Tpl)(d:List Int)(from_:Int)(t0:Bool):NF:=⟨[(1,.k,.sl 1 (d.map AV.int) false),(2,.k,.int from_),(3,.k,.ref 0 0),(7,.k,.sl 0 [] true),(8,.k,.int (at6 t d from_)),(22,.k,.bool t0)],[.box (.agg [.sl 2 (t.rs.map Rtr.v) false,.sl 5 (t.ls.map Lnk.v) false])]⟩
def Ia(t:Tpl)(d:List Int)(from_:Int)(t1:Int×List Int):NF:=⟨[(1,.k,.sl 1 (d.map AV.int) false),(2,.k,.int from_),(3,.k,.ref 0 0),(7,.k,.vec 1),(8,.k,.int (at6 t d from_)),(9,.k,.sl 1 ((eO t from_).map AV.int) false),(10,.k,.int t1.1)],[.box (.agg [.sl 2 (t.rs.map Rtr.v) false,.sl 5 (t.ls.map Lnk.v) false]),.vec 1 (t1.2.map AV.int) (ab (λ_=>rfl) t1.2)]⟩
def HZ(t:Tpl)(d:List Int)(from_:Int)(t1:Int×List Int)(t2:Bool):NF:=⟨[(1,.k,.sl 1 (d.map AV.int) false),(2,.k,.int from_),(3,.k,.ref 0 0),(7,.k,.vec 1),(8,.k,.int (at6 t d from_)),(9,.k,.sl 1 ((eO t from_).map AV.int) false),(10,.k,.int t1.1),(62,.k,.bool t2)],[.box (.agg [.sl 2 (t.rs.map Rtr.v) false,.sl 5 (t.ls.map Lnk.v) false]),.vec 1 (t1.2.map AV.int) (ab (λ_=>rfl) t1.2)]⟩
@[reducible] def Dp:Nat→Type
 | 0=>Bool
 | 1=>Int×List Int
 | 2=>Bool
 | _=>Unit
def uX(r:List Int):AV:=.sl 1 (r.map AV.int) false
def uW(t:Tpl)(d:List Int)(from_:Int)(I0:Bool→Prop)(I1:Bool→(Int×List Int)→Prop)(m1:Bool→(Int×List Int)→Nat)(I2:Bool→Int×List Int→Int→Bool→Prop):Ax Tryz.prog Dp ((List Int)):=
 (.req 96 (okD t d) λh1 =>
(.callP (GY t d from_ h1)
(.pass (.join 0 (Ib t d from_) (λ(t0:Bool)=>I0 t0) (λb0=>(.br 176 ((at6 t d from_)==1073741824) (.bk 0 b0 ((true):Bool) [0])
(.bk 0 b0 (((at6 t d from_)==0):Bool) [0]))) λ(t0:Bool) =>
(.br 1 t0 (.ret ([]))
(.req 33 (t.rs.length≤1000) λh2 =>
(.callP (NB t from_ h2)
(.cmdL (.nilT 7 1) (.loop 1 (Ia t d from_) (I1 t0) (m1 t0) (0,[]) [0,81] λ(t1:Int×List Int) b1 =>
(.br 66 (decide (t1.1<(((eO t from_).map AV.int).length:Int))) (.el 130 AV.int (eO t from_) (λR=>Rf ((eO t from_).map AV.int) (ck (decide (0≤t1.1)) (ck (decide (t1.1<((eO t from_).length:Int)))
(∀x3,(eO t from_)[t1.1.toNat]?=some x3 →
(R x3))))) λx3 =>
(.callP (Ec t from_ x3)
(.join 2 (HZ t d from_ t1) (λ(t2:Bool)=>I2 t0 t1 x3 t2) (λb2=>(.el 322 AV.int (eO t from_) (λR=>Rf ((eO t from_).map AV.int) (ck (decide (0≤t1.1)) (ck (decide (t1.1<((eO t from_).length:Int)))
(∀x4,(eO t from_)[t1.1.toNat]?=some x4 →
(R x4))))) λx4 =>
(.req 354 (okD t d) λh5 =>
(.callP (GY t d x4 h5)
(.br 402 (decide ((at6 t d x4)<1073741824)) (.el 482 AV.int (eO t from_) (λR=>Rf ((eO t from_).map AV.int) (ck (decide (0≤t1.1)) (ck (decide (t1.1<((eO t from_).length:Int)))
(∀x6,(eO t from_)[t1.1.toNat]?=some x6 →
(R x6))))) λx6 =>
(.req 514 (okD t d) λh7 =>
(.callP (GY t d x6 h7)
(.bk 2 b2 (((W (((ec t from_ x3).1)+(at6 t d x6)))==(at6 t d from_)):Bool) [0,1]))))
(.bk 2 b2 ((false):Bool) [0,1])))))) λ(t2:Bool) =>
(.br 2 t2 (.el 50 AV.int (eO t from_) (λR=>Rf ((eO t from_).map AV.int) (ck (decide (0≤t1.1)) (ck (decide (t1.1<((eO t from_).length:Int)))
(∀x8,(eO t from_)[t1.1.toNat]?=some x8 →
(R x8))))) λx8 =>
(.say (λR=>Rf (α:=List AV) (t1.2.map AV.int) (Rf (α:=List AV) [.int x8]
(ck (decide (t1.2.length+1≤1048576))
R))) (.app 98 AV.int t1.2 [x8]
(.bk 1 b1 (W (t1.1+1),t1.2++[x8]) [0,98]))))
(.bk 1 b1 (W (t1.1+1),t1.2) [0,1])))))
(.say (Rf (t1.2.map AV.int)) (.cmdL (.frzE 1 (t1.2.map AV.int) (ab (λ_=>rfl) t1.2)) (.ret (t1.2))))))))))))))
def zj(t:Tpl)(d:List Int)(from_:Int)(I0:Bool→Prop)(I1:Bool→(Int×List Int)→Prop)(m1:Bool→(Int×List Int)→Nat)(I2:Bool→Int×List Int→Int→Bool→Prop)(r0:List Int):=(uW t d from_ I0 I1 m1 I2).vp uX r0
theorem MD(t:Tpl)(d:List Int)(r:Int)(h:okD t d)(ok:MF t d r):∃I0 I1 m1 I2,zj t d r I0 I1 m1 I2 (cN t d r):=by
 refine⟨λb=>b=decide (at6 t d r=1073741824∨at6 t d r=0),λ_ s=>fz (eO t r) (λq=>if okN t d r q=true then [q]else []) s.1 s.2,λ_ s=>(eO t r).length-s.1.toNat,
  λ_ _ q b=>b=okN t d r q,?_⟩
 dsimp only[zj,uW,Dp,Ax.vp,Ax.vc];simp only[vcU,rfU,List.length_map]
 have hn:=h.2
 have hl:=sJ (t:=t) (r:=r)
 refine⟨h,⟨λc=>by simp[eq_of_beq c],λc=>?_⟩,?_⟩
 ·have c:¬at6 t d r=1073741824:=by simpa using c
  rw[Bool.eq_iff_iff];simp[c]
 rintro _ rfl
 refine⟨λc=>by rw[cN,if_pos (of_decide_eq_true c)],λc=>⟨hn,fz.zero,?_⟩⟩
 have c:=of_decide_eq_false c
 rintro⟨i,out⟩ g
 simp only at g ⊢
 have hlen:=g.len (b:=1) λx _=>by split<;>simp
 refine⟨λe=>⟨g.idx,e,λx hx=>⟨⟨g.idx,e,λy hy=>⟨h,λe1=>⟨g.idx,e,λz hz=>⟨h,?_⟩⟩,λe1=>?_⟩⟩,?_⟩⟩,λe=>?_⟩
 ·rw[hx]at hy hz;cases hy;cases hz
  rw[okN,decide_eq_true e1];rfl
 ·rw[hx]at hy;cases hy
  rw[okN,decide_eq_false e1];rfl
 ·rintro _ rfl
  refine⟨λe1=>⟨g.idx,e,λz hz=>⟨by omega,?_⟩⟩,λe1=>g.step (by omega) hx (by rw[if_neg (by rw[e1];simp)];simp)⟩
  rw[hx]at hz;cases hz
  exact g.step (by omega) hx (by rw[if_pos e1])
 ·rw[cN,if_neg c,g.done e,xi]
def ME(t:Tpl)(d:List Int)(from_:Int)(h:okD t d):PC Tryz.prog:=⟨133,[(.a [(.s 2),(.s 5)]),(.s 1),.k],[.agg [.sl 2 (t.rs.map Rtr.v) false,.sl 5 (t.ls.map Lnk.v) false],.sl 1 (d.map AV.int) false,.int from_],uX (cN t d from_),aw.of_ok λok=>(MD t d from_ h ok).elim λI0 h=>h.elim λI1 h=>h.elim λm1 h=>h.elim λI2 h=>av (sh:=(.s 1)) (enc:=uX) (a:=(uW t d from_ I0 I1 m1 I2).an) h (by kernel_rfl) (AV.pureB_ok rfl),ap (by kernel_rfl)⟩
theorem Eb{t:Tpl}(h:aJ t=0){f g:Int}(hp:(ec t f g).2=true):1≤(ec t f g).1∧(ec t f g).1≤1000:=by
 unfold ec at hp ⊢
 cases e:t.ls.find? (fH f g)with
 | none=>rw[e]at hp;cases hp
 | some l =>
  have hl:=rk h l (List.mem_of_find?_eq_some e)
  have h1:=dV.mp hl.1
  have h2:=dV.mp hl.2.1
  simp only
  split<;>omega
theorem GW{t:Tpl}{d:List Int}(h:∀x∈d,0≤x)(r:Int):0≤at6 t d r:=by
 unfold at6
 split
 ·exact qj h _
 ·omega
theorem Ic{t:Tpl}(h:aJ t=0){d:List Int}(hd:∀x∈d,0≤x){f q:Int}(hq:q∈cN t d f):at6 t d q<at6 t d f∧∃x∈t.rs,x.id=q:=by
 unfold cN at hq
 split at hq
 ·cases hq
 obtain⟨h1,h2⟩:=List.mem_filter.mp hq
 obtain⟨x,hx,hx2⟩:=List.mem_flatMap.mp h1
 have hp:(ec t f x.id).2=true∧q=x.id:=by
  by_cases c:(ec t f x.id).2=true
  ·rw[if_pos c,List.mem_singleton]at hx2;exact⟨c,hx2⟩
  ·rw[if_neg c]at hx2;cases hx2
 obtain⟨hp,rfl⟩:=hp
 obtain⟨p1,p2⟩:=Eb h hp
 rw[okN,Bool.and_eq_true,decide_eq_true_eq,beq_iff_eq]at h2
 have h0:=GW (t:=t) hd x.id
 have:=h2.2
 rw[dY (by omega)]at this
 exact⟨by omega,x,hx,rfl⟩
theorem oi{α:Type}{p q:α→Bool}:∀{l:List α} {x:α},(∀y,p y=true→q y=true)→x∈l→p x=false→q x=true→(l.filter p).length<(l.filter q).length
 | y::l,x,h,hx,h1,h2=>by
  have hle:∀l:List α,(l.filter p).length≤(l.filter q).length:=by
   intro l
   induction l with
   | nil=>simp
   | cons z l ih =>
    rw[List.filter_cons,List.filter_cons]
    by_cases c:p z=true
    ·rw[if_pos c,if_pos (h z c)];simp only[List.length_cons];omega
    ·rw[if_neg c];split
     ·simp only[List.length_cons];omega
     ·exact ih
  rw[List.filter_cons,List.filter_cons]
  rcases List.mem_cons.mp hx with rfl|hx
  ·rw[if_neg (by rw[h1];simp),if_pos h2]
   have:=hle l
   simp only[List.length_cons];omega
  ·have:=oi h hx h1 h2
   by_cases c:p y=true
   ·rw[if_pos c,if_pos (h y c)];simp only[List.length_cons];omega
   ·rw[if_neg c];split
    ·simp only[List.length_cons];omega
    ·exact this
def fN(t:Tpl)(u v c:Int):Prop:=∃l∈t.ls,(l.a=u∧l.b=v∧l.ca=c)∨(l.b=u∧l.a=v∧l.cb=c)
theorem DZ{t:Tpl}(hc:aJ t=0){u v c:Int}:fN t u v c↔ec t u v=(c,true):=by
 have hO:=aC hc
 have key:∀x∈t.ls,∀y∈t.ls,fH u v x=true→fH u v y=true→x=y:=λx hx y hy h1 h2=>by
  obtain⟨i,hi⟩:=List.mem_iff_getElem?.mp hx
  obtain⟨j,hj⟩:=List.mem_iff_getElem?.mp hy
  have a1:=hO.lt x hx
  have a2:=hO.lt y hy
  unfold fH at h1 h2
  simp only[Bool.or_eq_true,Bool.and_eq_true,beq_iff_eq]at h1 h2
  have hk:¬cX x y∧¬cX y x:=by unfold cX;omega
  rcases Nat.lt_trichotomy i j with h|h|h
  ·exact absurd (l8 hO.ord h hi hj) hk.1
  ·subst h;rw[hi]at hj;exact Option.some.inj hj
  ·exact absurd (l8 hO.ord h hj hi) hk.2
 constructor
 ·rintro⟨l,hl,h⟩
  have hp:fH u v l=true:=by
   unfold fH
   simp only[Bool.or_eq_true,Bool.and_eq_true,beq_iff_eq]
   omega
  have hlt:=hO.lt l hl
  unfold ec
  cases q:t.ls.find? (fH u v)with
  | none =>
   have:=List.find?_eq_none.mp q l hl
   exact absurd hp this
  | some y =>
   have:=key y (List.mem_of_find?_eq_some q) l hl (List.find?_some q) hp
   subst this
   simp only
   rcases h with⟨h1,h2,h3⟩|⟨h1,h2,h3⟩
   ·rw[if_pos (by simp[h1,h2]),h3]
   ·rw[if_neg (by simp;omega),h3]
 ·intro h
  unfold ec at h
  cases q:t.ls.find? (fH u v)with
  | none=>rw[q]at h;simp at h
  | some y =>
   rw[q]at h
   have hp:=List.find?_some q
   have hy:=List.mem_of_find?_eq_some q
   simp only[Prod.mk.injEq,and_true]at h
   unfold fH at hp
   refine⟨y,hy,?_⟩
   by_cases e:(y.a==u && y.b==v)=true
   ·rw[if_pos e]at h
    simp only[Bool.and_eq_true,beq_iff_eq]at e
    exact .inl ⟨e.1,e.2,h⟩
   ·rw[if_neg e]at h
    simp only[Bool.or_eq_true,Bool.and_eq_true,beq_iff_eq]at hp e
    rcases hp with hp|hp
    ·exact absurd hp e
    ·exact .inr ⟨hp.1,hp.2,h⟩
theorem fN.cost{t:Tpl}(hc:aJ t=0){u v c:Int}(h:fN t u v c):1≤c∧c≤1000:=by
 obtain⟨l,hl,h⟩:=h
 have:=(aC hc).lr l hl
 have h1:=dV.mp this.1
 have h2:=dV.mp this.2.1
 omega
theorem fN.has{t:Tpl}(hc:aJ t=0){u v c:Int}(h:fN t u v c):aI t u=true∧aI t v=true:=by
 obtain⟨l,hl,h⟩:=h
 have:=(aC hc).has l hl
 rcases h with⟨rfl,rfl,_⟩|⟨rfl,rfl,_⟩
 ·exact this
 ·exact⟨this.2,this.1⟩
theorem sA{t:Tpl}(hc:aJ t=0){x:Int}{s:Stp}:s∈fT t.ls x↔fN t x s.to s.cost:=by
 have hO:=aC hc
 unfold fT fN
 rw[List.mem_flatMap]
 constructor
 ·rintro⟨l,hl,h⟩
  refine⟨l,hl,?_⟩
  split at h
  ·rw[List.mem_singleton.mp h];exact .inl ⟨by assumption,rfl,rfl⟩
  ·split at h
   ·rw[List.mem_singleton.mp h];exact .inr ⟨by assumption,rfl,rfl⟩
   ·cases h
 ·rintro⟨l,hl,⟨h1,h2,h3⟩|⟨h1,h2,h3⟩⟩
  ·refine⟨l,hl,?_⟩
   rw[if_pos h1,h2,h3];simp
  ·have:=hO.lt l hl
   refine⟨l,hl,?_⟩
   rw[if_neg (by omega),if_pos h1,h2,h3];simp
theorem A6{t:Tpl}(hc:aJ t=0){x:Int}{s:Stp}:s∈inS t.ls x↔fN t s.to x s.cost:=by
 have hO:=aC hc
 unfold inS fN
 rw[List.mem_flatMap]
 constructor
 ·rintro⟨l,hl,h⟩
  refine⟨l,hl,?_⟩
  split at h
  ·rw[List.mem_singleton.mp h];exact .inl ⟨rfl,by assumption,rfl⟩
  ·split at h
   ·rw[List.mem_singleton.mp h];exact .inr ⟨rfl,by assumption,rfl⟩
   ·cases h
 ·rintro⟨l,hl,⟨h1,h2,h3⟩|⟨h1,h2,h3⟩⟩
  ·refine⟨l,hl,?_⟩
   rw[if_pos h2,h1,h3];simp
  ·have:=hO.lt l hl
   refine⟨l,hl,?_⟩
   rw[if_neg (by omega),if_pos h2,h1,h3];simp
theorem eE{t:Tpl}{x:Int}:aI t x=true↔∃r∈t.rs,r.id=x:=by
 unfold aI;rw[List.any_eq_true];simp
theorem be{t:Tpl}(f:Rtr→List Stp):au (t.rs.map λr=>(r.id,f r))=t.rs.map (·.id):=by unfold au;rw[List.map_map];rfl
theorem bv{t:Tpl}{x:Int}:x∈t.rs.map (·.id)↔aI t x=true:=by rw[eE,List.mem_map]
theorem fY{t:Tpl}(hc:aJ t=0):(t.rs.map (·.id)).Nodup:=List.Pairwise.map _ (λa b h=>by omega) (aC hc).asc
theorem AH{t:Tpl}(hc:aJ t=0)(f:Int→List Stp)(hf:∀x,aI t x=false→f x=[])(x:Int):az (t.rs.map λr=>(r.id,f r.id)) x []=f x:=by
 by_cases h:aI t x=true
 ·obtain⟨r,hr,rfl⟩:=eE.mp h
  exact dE (by rw[be (λr=>f r.id)];exact fY hc) (List.mem_map.mpr ⟨r,hr,rfl⟩)
 ·have h:aI t x=false:=by simpa using h
  rw[cn,hf x h]
  unfold aU
  rw[be (λr=>f r.id),decide_eq_false]
  rw[bv,h];simp
theorem Jc{t:Tpl}(hc:aJ t=0)(x:Int)(h:aI t x=false):fT t.ls x=[]:=by
 refine List.eq_nil_iff_forall_not_mem.mpr λs hs=>?_
 rw[(((sA hc).mp hs).has hc).1]at h;cases h
theorem Oh{t:Tpl}(hc:aJ t=0)(x:Int)(h:aI t x=false):inS t.ls x=[]:=by
 refine List.eq_nil_iff_forall_not_mem.mpr λs hs=>?_
 rw[(((A6 hc).mp hs).has hc).2]at h;cases h
theorem zN{t:Tpl}(hc:aJ t=0)(x:Int):az (cR t) x []=iY (fT t.ls x):=AH hc (λx=>iY (fT t.ls x)) (λx h=>by rw[Jc hc x h];simp[iY]) x
theorem Oe{t:Tpl}(hc:aJ t=0)(x:Int):az (inG t) x []=inS t.ls x:=AH hc (λx=>inS t.ls x) (λx h=>Oh hc x h) x
theorem l6{t:Tpl}(hc:aJ t=0){x:Int}{s:Stp}:s∈az (cR t) x []↔fN t x s.to s.cost:=by rw[zN hc,(iM _).mem_iff,sA hc]
theorem mJ{t:Tpl}(hc:aJ t=0){x:Int}{s:Stp}:s∈az (inG t) x []↔fN t s.to x s.cost:=by rw[Oe hc,A6 hc]
theorem vO{t:Tpl}(hc:aJ t=0):kY (cR t):=by
 have:=(aC hc).nr
 refine⟨by unfold cR;rw[List.length_map];omega,by unfold cR;rw[be];exact fY hc,λx s hs=>?_,λx s hs=>((l6 hc).mp hs).cost hc⟩
 unfold cR;rw[be,bv];exact(((l6 hc).mp hs).has hc).2
theorem lb{t:Tpl}(hc:aJ t=0):kY (inG t):=by
 have:=(aC hc).nr
 refine⟨by unfold inG;rw[List.length_map];omega,by unfold inG;rw[be];exact fY hc,λx s hs=>?_,λx s hs=>((mJ hc).mp hs).cost hc⟩
 unfold inG;rw[be,bv];exact(((mJ hc).mp hs).has hc).1
inductive Pth (t:Tpl) (g:Int):Nat→Int→Int→Prop
  | nil:Pth t g 0 g 0
  | cons {k:Nat} {u w c n:Int}:fN t u w c→Pth t g k w n→Pth t g (k+1) u (n+c)
theorem jT{t:Tpl}(hc:aJ t=0){g v n:Int}:gQ (inG t) g v n↔∃k,Pth t g k v n:=by
 constructor
 ·intro p
  induction p with
  | nil=>exact⟨0,.nil⟩
  | snoc q hs ih=>obtain⟨k,ih⟩:=ih;exact⟨k+1,.cons ((mJ hc).mp hs) ih⟩
 ·rintro⟨k,p⟩
  induction p with
  | nil=>exact .nil
  | cons e q ih=>exact .snoc (s:=⟨_,_⟩) ih ((mJ hc).mpr e)
theorem mg{t:Tpl}(hc:aJ t=0){f v n:Int}:gQ (cR t) f v n↔∃k,Pth t v k f n:=by
 have app:∀{k:Nat} {u m w c v:Int},Pth t w k u m→fN t w v c→Pth t v (k+1) u (m+c):=λ{k u m w c v} p e=>by
  induction p with
  | nil=>exact .cons e .nil
  | cons e' q ih=>have:=Pth.cons e' ih;rwa [Int.add_right_comm]at this
 have pre:∀{f w v c n:Int},fN t f w c→gQ (cR t) w v n→gQ (cR t) f v (n+c):=λ{f w v c n} e p=>by
  induction p with
  | nil=>exact .snoc (s:=⟨_,_⟩) .nil ((l6 hc).mpr e)
  | snoc q hs ih=>have:=gQ.snoc ih hs;rwa [Int.add_right_comm]at this
 constructor
 ·intro p
  induction p with
  | nil=>exact⟨0,.nil⟩
  | snoc q hs ih=>obtain⟨k,ih⟩:=ih;exact⟨k+1,app ih ((l6 hc).mp hs)⟩
 ·rintro⟨k,p⟩
  induction p with
  | nil=>exact .nil
  | cons e q ih=>exact pre e ih
def Lst(t:Tpl)(u v m:Int):Prop:=(∃k,Pth t v k u m)∧∀k n,Pth t v k u n→m≤n
theorem mK{t:Tpl}(hc:aJ t=0){g v m:Int}(hg:aI t g=true):(v,m)∈cr (inG t) g↔Lst t v g m:=by
 rw[ou (lb hc) (by unfold inG;rw[be,bv];exact hg),jT hc]
 exact⟨λ⟨h1,h2⟩=>⟨h1,λk n p=>h2 n ((jT hc).mpr ⟨k,p⟩)⟩,λ⟨h1,h2⟩=>⟨h1,λn p=>by obtain⟨k,p⟩:=(jT hc).mp p;exact h2 k n p⟩⟩
theorem Cc{t:Tpl}(hc:aJ t=0){f v m:Int}(hf:aI t f=true):(v,m)∈cr (cR t) f↔Lst t f v m:=by
 rw[ou (vO hc) (by unfold cR;rw[be,bv];exact hf),mg hc]
 exact⟨λ⟨h1,h2⟩=>⟨h1,λk n p=>h2 n ((mg hc).mpr ⟨k,p⟩)⟩,λ⟨h1,h2⟩=>⟨h1,λn p=>by obtain⟨k,p⟩:=(mg hc).mp p;exact h2 k n p⟩⟩
def i8:Int:=1073741824
theorem vG{t:Tpl}(hc:aJ t=0){i:Nat}{r:Rtr}(h:t.rs[i]?=some r):(bf t r.id).toNat=i:=by
 have hh:aI t r.id=true:=eE.mpr ⟨r,bc h,rfl⟩
 unfold bf
 rw[if_pos hh,cw,if_pos (show t.rs.any (isR r.id)=true from hh)]
 have hlt:t.rs.findIdx (isR r.id)<t.rs.length:=List.findIdx_lt_length.mpr ⟨r,bc h,by simp[isR]⟩
 have e:=List.findIdx_getElem (w:=hlt)
 have h1:(t.rs.map (·.id))[t.rs.findIdx (isR r.id)]?=some r.id:=by
  rw[List.getElem?_map,List.getElem?_eq_getElem hlt]
  unfold isR at e ⊢
  simp only[beq_iff_eq]at e
  simp[e]
 have h2:(t.rs.map (·.id))[i]?=some r.id:=by rw[List.getElem?_map,h];rfl
 have:=dM (fY hc) h1 h2
 rw[Int.toNat_natCast];exact this
theorem kj{t:Tpl}{d:List Int}{u:Int}(h:aI t u=true):at6 t d u=d.getD (bf t u).toNat 0:=by
 unfold at6 bf;rw[if_pos h,if_pos h]
theorem L1{t:Tpl}(hc:aJ t=0){d:List Int}(hd:d.length=t.rs.length){a u x:Int}(ha:aI t a=true)(hu:aI t u=true):at6 t (d.set (bf t a).toNat x) u=if u=a then x else at6 t d u:=by
 rw[kj hu,kj hu]
 obtain⟨ra,h1,rfl⟩:=eE.mp ha
 obtain⟨ru,h2,rfl⟩:=eE.mp hu
 obtain⟨i,hi⟩:=List.mem_iff_getElem?.mp h1
 obtain⟨j,hj⟩:=List.mem_iff_getElem?.mp h2
 rw[vG hc hi,vG hc hj]
 have hil:=aq hi
 rw[List.getD_eq_getElem?_getD,List.getElem?_set,List.getD_eq_getElem?_getD]
 by_cases e:i=j
 ·subst e
  rw[hi]at hj;cases hj
  rw[if_pos rfl,if_pos (by omega),if_pos rfl];rfl
 ·rw[if_neg e,if_neg]
  intro q
  have h3:(t.rs.map (·.id))[i]?=some ra.id:=by rw[List.getElem?_map,hi];rfl
  have h4:(t.rs.map (·.id))[j]?=some ra.id:=by rw[List.getElem?_map,hj,←q];rfl
  exact e (dM (fY hc) h3 h4)
theorem pc{t:Tpl}(hc:aJ t=0){d:List Int}(hd:d.length=t.rs.length)(hn:∀x∈d,0≤x){a b c u:Int}(h1:1≤c∧c≤1000)(ha:aI t a=true)(hb:aI t b=true)(hu:aI t u=true) :
  at6 t (rlx1 d (bf t a).toNat (bf t b).toNat c) u=if u=a∧at6 t d b<i8∧c+at6 t d b<at6 t d a then c+at6 t d b else at6 t d u:=by
 have hb0:=GW (t:=t) hn b
 unfold rlx1
 rw[←kj hb,←kj ha]
 by_cases e:at6 t d b<1073741824
 ·rw[if_pos e,L1 hc hd ha hu,dY (by omega)]
  unfold dp i8
  by_cases e1:u=a
  ·subst e1
   rw[if_pos rfl]
   by_cases e2:c+at6 t d b<at6 t d u
   ·rw[if_pos e2,if_pos ⟨rfl,e,e2⟩]
   ·rw[if_neg e2,if_neg (λq=>e2 q.2.2)]
  ·rw[if_neg e1,if_neg (λq=>e1 q.1)]
 ·rw[if_neg e,if_neg (λq=>e q.2.1)]
section
variable {t : Tpl} (hc : aJ t = 0)
include hc
theorem Iv{d:List Int}(hd:d.length=t.rs.length)(hn:∀x∈d,0≤x){l:Lnk}(hl:l∈t.ls) :
  (∀u,aI t u=true→at6 t (rlx t d l) u≤at6 t d u)∧(at6 t d l.b<i8→at6 t (rlx t d l) l.a≤at6 t d l.b+l.ca)∧(at6 t d l.a<i8→at6 t (rlx t d l) l.b≤at6 t d l.a+l.cb):=by
 have hO:=aC hc
 obtain⟨ha,hb⟩:=hO.has l hl
 have hlr:=hO.lr l hl
 have hlt:=hO.lt l hl
 have c1:=dV.mp hlr.1
 have c2:=dV.mp hlr.2.1
 have hd1:(rlx1 d (bf t l.a).toNat (bf t l.b).toNat l.ca).length=t.rs.length:=by rw[ik];exact hd
 have hn1:=l5 (a:=(bf t l.a).toNat) (b:=(bf t l.b).toNat) hn c1
 have s1:=λu hu=>pc hc hd hn (u:=u) c1 ha hb hu
 have s2:=λu hu=>pc hc hd1 hn1 (u:=u) c2 hb ha hu
 unfold rlx
 have sa:=s1 l.a ha
 have sb:=s1 l.b hb
 rw[if_neg (λq=>by have:=q.1;omega)]at sb
 have e1:fN t l.a l.b l.ca:=⟨l,hl,.inl ⟨rfl,rfl,rfl⟩⟩
 have e2:fN t l.b l.a l.cb:=⟨l,hl,.inr ⟨rfl,rfl,rfl⟩⟩
 refine⟨λu hu=>?_,λh=>?_,λh=>?_⟩
 ·rw[s2 u hu,s1 u hu]
  by_cases q:u=l.b
  ·subst q;rw[sb,sa];(repeat' split)<;>omega
  ·rw[if_neg (λr=>q r.1)];split
   ·rename_i r;obtain⟨r1,r2,r3⟩:=r;subst r1;omega
   ·omega
 ·rw[s2 l.a ha,if_neg (λr=>by have:=r.1;omega),sa]
  split
  ·omega
  ·rename_i r
   have:¬l.ca+at6 t d l.b<at6 t d l.a:=λq=>r ⟨rfl,h,q⟩
   omega
 ·have ham:at6 t (rlx1 d (bf t l.a).toNat (bf t l.b).toNat l.ca) l.a≤at6 t d l.a:=by rw[sa];split<;>omega
  rw[s2 l.b hb]
  split
  ·omega
  ·rename_i r
   have:¬l.cb+at6 t (rlx1 d (bf t l.a).toNat (bf t l.b).toNat l.ca) l.a<at6 t (rlx1 d (bf t l.a).toNat (bf t l.b).toNat l.ca) l.b:=λq=>r ⟨rfl,by omega,q⟩
   omega
def PV(t:Tpl)(g:Int)(d:List Int):Prop:=∀u,aI t u=true→at6 t d u≤i8∧(at6 t d u<i8→∃k,Pth t g k u (at6 t d u))
theorem PV.rlx1{g:Int}{d:List Int}(h:PV t g d)(hd:d.length=t.rs.length)(hn:∀x∈d,0≤x){a b c:Int}(e:fN t a b c):PV t g (rlx1 d (bf t a).toNat (bf t b).toNat c):=λu hu=>by
 obtain⟨ha,hb⟩:=e.has hc
 rw[pc hc hd hn (e.cost hc) ha hb hu]
 split
 ·rename_i r
  obtain⟨r1,r2,r3⟩:=r
  subst r1
  have:=(h u hu).1
  refine⟨by omega,λ_=>?_⟩
  obtain⟨k,p⟩:=(h b hb).2 r2
  rw[Int.add_comm]
  exact⟨k+1,.cons e p⟩
 ·exact h u hu
theorem PV.rlx{g:Int}{d:List Int}(h:PV t g d)(hd:d.length=t.rs.length)(hn:∀x∈d,0≤x){l:Lnk}(hl:l∈t.ls):PV t g (rlx t d l):=by
 have c1:=dV.mp ((aC hc).lr l hl).1
 exact PV.rlx1 hc (PV.rlx1 hc h hd hn ⟨l,hl,.inl ⟨rfl,rfl,rfl⟩⟩) (by rw[ik];exact hd) (l5 hn c1) ⟨l,hl,.inr ⟨rfl,rfl,rfl⟩⟩
theorem tp{g:Int}:∀{ls:List Lnk} {d:List Int},d.length=t.rs.length→(∀x∈d,0≤x)→PV t g d→(∀l∈ls,l∈t.ls) →
  (ls.foldl (rlx t) d).length=t.rs.length∧(∀x∈ls.foldl (rlx t) d,0≤x)∧PV t g (ls.foldl (rlx t) d)∧(∀u,aI t u=true→at6 t (ls.foldl (rlx t) d) u≤at6 t d u) ∧
  ∀l∈ls,(at6 t d l.b<i8→at6 t (ls.foldl (rlx t) d) l.a≤at6 t d l.b+l.ca)∧(at6 t d l.a<i8→at6 t (ls.foldl (rlx t) d) l.b≤at6 t d l.a+l.cb)
 | [],d,hd,hn,hp,_=>⟨hd,hn,hp,λu _=>Int.le_refl _,λl hl=>by cases hl⟩
 | l::ls,d,hd,hn,hp,hs=>by
  have hl:=hs l (by simp)
  obtain⟨a1,a2,a3⟩:=Iv hc hd hn hl
  obtain⟨b1,b2,b3,b4,b5⟩:=tp (g:=g) (ls:=ls) (d:=rlx t d l) (by rw[zB];exact hd) (D9 hn (rk hc l hl)) (PV.rlx hc hp hd hn hl) λm hm=>hs m (List.mem_cons_of_mem _ hm)
  rw[List.foldl_cons]
  refine⟨b1,b2,b3,λu hu=>Int.le_trans (b4 u hu) (a1 u hu),λm hm=>?_⟩
  rcases List.mem_cons.mp hm with rfl|hm'
  ·obtain⟨ha,hb⟩:=(aC hc).has m hl
   exact⟨λh=>Int.le_trans (b4 _ ha) (a2 h),λh=>Int.le_trans (b4 _ hb) (a3 h)⟩
  ·obtain⟨ha,hb⟩:=(aC hc).has m (hs m hm)
   have h1:=a1 _ ha
   have h2:=a1 _ hb
   exact⟨λh=>by have:=(b5 m hm').1 (by omega);omega,λh=>by have:=(b5 m hm').2 (by omega);omega⟩
theorem zf{g:Int}(hg:aI t g=true):∀k:Nat,(jn t k (to0 t g)).length=t.rs.length∧(∀x∈jn t k (to0 t g),0≤x)∧PV t g (jn t k (to0 t g))∧∀j u n,j≤k→Pth t g j u n→n<i8→at6 t (jn t k (to0 t g)) u≤n
 | 0=>by
  have e:∀u,aI t u=true→at6 t (to0 t g) u=if u=g then 0 else i8:=λu hu=>by
   rw[kj hu]
   obtain⟨r,hr,rfl⟩:=eE.mp hu
   obtain⟨i,hi⟩:=List.mem_iff_getElem?.mp hr
   rw[vG hc hi,to0,List.getD_eq_getElem?_getD,List.getElem?_map,hi]
   simp[isR,i8]
  refine⟨by simp[jn,to0],λx hx=>?_,λu hu=>?_,λj u n hj p hn=>?_⟩
  ·obtain⟨y,_,rfl⟩:=List.mem_map.mp hx
   split<;>omega
  ·rw[jn,e u hu]
   split
   ·rename_i q;subst q;exact⟨by decide,λ_=>⟨0,.nil⟩⟩
   ·exact⟨Int.le_refl _,λh=>by omega⟩
  ·obtain rfl:j=0:=by omega
   cases p
   rw[jn,e g hg,if_pos rfl];exact Int.le_refl _
 | k+1=>by
  obtain⟨h1,h2,h3,h4⟩:=zf hg k
  obtain⟨b1,b2,b3,b4,b5⟩:=tp hc (ls:=t.ls) h1 h2 h3 λl hl=>hl
  refine⟨b1,b2,b3,λj u n hj p hn=>?_⟩
  cases p with
  | nil=>exact Int.le_trans (b4 g hg) (h4 0 g 0 (by omega) .nil hn)
  | cons e q =>
   have hcs:=e.cost hc
   have hw:=h4 _ _ _ (by omega) q (by omega)
   obtain⟨l,hl,⟨rfl,rfl,rfl⟩|⟨rfl,rfl,rfl⟩⟩:=e
   ·have:=(b5 l hl).1 (by omega);show at6 t (t.ls.foldl (rlx t) _) _≤_;omega
   ·have:=(b5 l hl).2 (by omega);show at6 t (t.ls.foldl (rlx t) _) _≤_;omega
theorem oh{g:Int}{D:Dis}(h:uD (inG t) g D):∀(N:Nat) {v n:Int},n.toNat≤N→(v,n)∈D→∃k,k≤(D.filter λp=>decide (p.2<n)).length∧Pth t g k v n
 | N,v,n,hN,hx=>by
  by_cases e:v=g
  ·subst e
   have:=fV h.nd hx h.src
   subst this;exact⟨0,Nat.zero_le _,.nil⟩
  ·obtain⟨⟨u,m⟩,hq,s,hs,h1,h2⟩:=h.tgt _ hx e
   simp only at h1 h2 hs
   have he:=(mJ hc).mp hs
   have hcs:=he.cost hc
   have hp:=(h.pos _ hq).1
   have hp2:=(h.pos _ hx).1
   simp only at hp hp2
   subst h1;subst h2
   match N with
   | 0=>omega
   | N+1 =>
    obtain⟨k,hk,p⟩:=oh h N (by omega) hq
    refine⟨k+1,?_,.cons he p⟩
    have:=oi (l:=D) (x:=(u,m)) (p:=λp=>decide (p.2<m)) (q:=λp=>decide (p.2<m+s.cost)) (λy hy=>by rw[decide_eq_true_eq]at hy ⊢;omega) hq (decide_eq_false (by simp)) (decide_eq_true (by simp;omega))
    omega
theorem AT{g:Int}(hg:aI t g=true):(cr (inG t) g).length≤t.rs.length:=by
 have h:=dU (lb hc) (f:=g) (by unfold inG;rw[be,bv];exact hg)
 have:=List.Nodup.length_le_of_subset h.nd h.ke
 rw[c9,c9,inG,List.length_map]at this
 exact this
theorem HV{g:Int}(hg:aI t g=true)(u:Int):at6 t (to6 t g) u=if aU (cr (inG t) g) u=true then az (cr (inG t) g) u 0 else i8:=by
 have h:=dU (lb hc) (f:=g) (by unfold inG;rw[be,bv];exact hg)
 have hlen:=AT hc hg
 have hR:=(aC hc).nr
 obtain⟨r1,r2,r3,r4⟩:=zf hc hg t.rs.length
 change PV t g (to6 t g)at r3
 change ∀j u n,j≤t.rs.length→Pth t g j u n→n<i8→at6 t (to6 t g) u≤n at r4
 have hk:∀x,x∈au (inG t)↔aI t x=true:=λx=>by unfold inG;rw[be,bv]
 by_cases hu:aI t u=true
 ·by_cases hm:aU (cr (inG t) g) u=true
  ·rw[if_pos hm]
   have hx:=bG (z:=(0:Int)) hm
   generalize az (cr (inG t) g) u 0=m at hx ⊢
   obtain⟨k,hk1,p⟩:=oh hc h _ (Nat.le_refl _) hx
   have hle:=List.length_filter_le (λp:Int×Int=>decide (p.2<m)) (cr (inG t) g)
   have hb:=(h.pos _ hx).2
   simp only at hb
   have hup:=r4 k u m (by omega) p (by unfold i8;omega)
   obtain⟨k',p'⟩:=(r3 u hu).2 (by unfold i8;omega)
   have:=((mK hc hg).mp hx).2 _ _ p'
   omega
  ·rw[if_neg hm]
   refine Classical.byContradiction λq=>?_
   obtain⟨k',p'⟩:=(r3 u hu).2 (by have:=(r3 u hu).1;omega)
   obtain⟨m,_,hx⟩:=h.low ((jT hc).mpr ⟨k',p'⟩)
   exact hm (bP.mpr ⟨m,hx⟩)
 ·have e:at6 t (to6 t g) u=i8:=by unfold at6;rw[if_neg hu];rfl
  rw[e,if_neg]
  intro q
  obtain⟨v,hv⟩:=bP.mp q
  exact hu ((hk u).mp (h.ke _ (aP.mpr ⟨v,hv⟩)))
end
section
variable {t : Tpl} (hc : aJ t = 0)
include hc
theorem AS{g:Int}(hg:aI t g=true){x m:Int}(h:(x,m)∈cr (inG t) g):0≤m∧m≤24000:=by
 have hf:=dU (lb hc) (f:=g) (by unfold inG;rw[be,bv];exact hg)
 have:=hf.pos _ h
 have hl:=AT hc hg
 have:=(aC hc).nr
 simp only at *;omega
theorem Jb:zZ (cR t):=by
 have hk:=vO hc
 have e:au (cR t)=t.rs.map (·.id):=by unfold cR;rw[be]
 refine⟨hk.len,hk.nd,λx hx=>?_,λp hp=>?_⟩
 ·rw[e]at hx
  obtain⟨r,hr,rfl⟩:=List.mem_map.mp hx
  have:=(aC hc).rg r hr;omega
 ·have hm:az (cR t) p.1 []=p.2:=dE hk.nd hp
  refine⟨?_,λs hs=>hk.to p.1 s (by rw[hm];exact hs)⟩
  rw[←hm,zN hc,(iM _).length_eq]
  exact(zO hc _).1
theorem nj{g:Int}(hg:aI t g=false):cr (inG t) g=[]:=by
 unfold cr
 rw[if_neg]
 unfold aU
 rw[decide_eq_true_iff]
 unfold inG;rw[be,bv,hg];simp
end
theorem eX{t:Tpl}{r:Int}:hs5 t r=true↔aJ t=0∧aI t r=true:=by unfold hs5;rw[Bool.and_eq_true,beq_iff_eq]
theorem CD{t:Tpl}{f:Int}(hf:aI t f=false):cr (cR t) f=[]:=by
 unfold cr
 rw[if_neg]
 unfold aU
 rw[decide_eq_true_iff]
 unfold cR;rw[be,bv,hf];simp
def bg(t:Tpl)(f g:Int):Int×Bool:=if hs5 t f=false∨hs5 t g=false then(0,false)else if at6 t (to6 t g) f=1073741824 then(0,false)else(at6 t (to6 t g) f,true)
theorem xL{t:Tpl}(hc:aJ t=0)(f g:Int):bg t f g=if aU (cr (inG t) g) f=true then(az (cr (inG t) g) f 0,true)else(0,false):=by
 unfold bg
 by_cases hg:aI t g=true
 ·by_cases hf:aI t f=true
  ·rw[if_neg (by rw[eX.mpr ⟨hc,hf⟩,eX.mpr ⟨hc,hg⟩];simp),HV hc hg f]
   by_cases h:aU (cr (inG t) g) f=true
   ·have:=AS hc hg (bG (z:=(0:Int)) h)
    rw[if_pos h,if_pos h,if_neg (by omega)]
   ·rw[if_neg h,if_neg h,if_pos (show i8=1073741824 from rfl)]
  ·have e:hs5 t f=false:=by rw[Bool.eq_false_iff];exact λq=>hf (eX.mp q).2
   rw[if_pos (.inl e),if_neg]
   intro q
   obtain⟨v,hv⟩:=bP.mp q
   have h:=dU (lb hc) (f:=g) (by unfold inG;rw[be,bv];exact hg)
   have:=h.ke _ (aP.mpr ⟨v,hv⟩)
   unfold inG at this;rw[be,bv]at this
   exact hf this
 ·have e:hs5 t g=false:=by rw[Bool.eq_false_iff];exact λq=>hg (eX.mp q).2
  rw[if_pos (.inr e),nj hc (by simpa using hg)];rfl
theorem Bl{t:Tpl}(hc:aJ t=0)(f g:Int):bg t f g=if aU (cr (cR t) f) g=true then(az (cr (cR t) f) g 0,true)else(0,false):=by
 rw[xL hc]
 by_cases hf:aI t f=true
 ·by_cases hg:aI t g=true
  ·have key:∀m,(f,m)∈cr (inG t) g↔(g,m)∈cr (cR t) f:=λm=>by rw[mK hc hg,Cc hc hf]
   have hF:=dU (lb hc) (f:=g) (by unfold inG;rw[be,bv];exact hg)
   by_cases h:aU (cr (inG t) g) f=true
   ·have hm:=bG (z:=(0:Int)) h
    have h2:=(key _).mp hm
    have h3:aU (cr (cR t) f) g=true:=bP.mpr ⟨_,h2⟩
    have h4:=(key _).mpr (bG (z:=(0:Int)) h3)
    rw[if_pos h,if_pos h3,fV hF.nd hm h4]
   ·have h3:¬aU (cr (cR t) f) g=true:=λq=>by
     obtain⟨v,hv⟩:=bP.mp q
     exact h (bP.mpr ⟨v,(key v).mpr hv⟩)
    rw[if_neg h,if_neg h3]
  ·rw[nj hc (by simpa using hg)]
   have h3:¬aU (cr (cR t) f) g=true:=λq=>by
    obtain⟨v,hv⟩:=bP.mp q
    have h:=dU (vO hc) (f:=f) (by unfold cR;rw[be,bv];exact hf)
    have:=h.ke _ (aP.mpr ⟨v,hv⟩)
    unfold cR at this;rw[be,bv]at this
    exact hg this
   rw[if_neg h3];rfl
 ·rw[CD (by simpa using hf)]
  have h3:¬aU (cr (inG t) g) f=true:=λq=>by
   obtain⟨v,hv⟩:=bP.mp q
   by_cases hg:aI t g=true
   ·have h:=dU (lb hc) (f:=g) (by unfold inG;rw[be,bv];exact hg)
    have:=h.ke _ (aP.mpr ⟨v,hv⟩)
    unfold inG at this;rw[be,bv]at this
    exact hf this
   ·rw[nj hc (by simpa using hg)]at hv;cases hv
  rw[if_neg h3];rfl
structure Edg where
  router:Int
  id:Int
  deriving DecidableEq
structure Pln where
  sub:Int
  len:Int
  es:List Edg
  deriving DecidableEq
def Edg.v(x:Edg):AV:=.agg [.int x.router,.int x.id]
theorem io{es:List AV}(h:bJ es=true):cD [es]=true:=by rw[cD,h];rfl
theorem aL.find{α:Type}{l:List α}{t:Int}{x:α}{p:α→Bool}(h:aL l (λy=>p y=false) t)(hx:l[t.toNat]?=some x)(hp:p x=true):l.find? p=some x:=by
 obtain⟨k,rfl,hk,ha⟩:=h
 rw[Int.toNat_natCast]at hx
 rw[List.find?_eq_some_iff_getElem]
 have hlt:=aq hx
 refine⟨hp,k,hlt,by rw[List.getElem?_eq_getElem hlt]at hx;exact Option.some.inj hx,λj hj=>?_⟩
 rw[ha _ (List.mem_take_iff_getElem.mpr ⟨j,by omega,rfl⟩)];rfl
theorem aL.nofind{α:Type}{l:List α}{t:Int}{p:α→Bool}(h:aL l (λy=>p y=false) t)(c:¬t<l.length):l.find? p=none:=by
 rw[List.find?_eq_none]
 exact λx hx=>by rw[h.done c x hx];simp
def inP(n a b:Int):Bool:=decide (a≤n) && decide (n≤b)
theorem Fd{n a b:Int}:(!inP n a b)=true↔¬(a≤n∧n≤b):=by
 unfold inP
 by_cases h1:a≤n<;>by_cases h2:n≤b<;>simp[h1,h2]
theorem mL{n a b:Int}:(!inP n a b)=false↔a≤n∧n≤b:=by
 unfold inP
 by_cases h1:a≤n<;>by_cases h2:n≤b<;>simp[h1,h2]
def cS(n:Int):Bool:=decide (n=8∨n=16∨n=32∨n=64)
def H3(n:Int):=okL [.int n]
def oF(r:Bool):AV:=.bool r
def oE(n:Int):Ax Tryz.prog noS (Bool):=
 (.br 64 (n==8) (.ret (true))
(.br 128 (n==16) (.ret (true))
(.br 192 (n==32) (.ret (true))
(.ret (n==64)))))
def rP(n:Int)(r0:Bool):=(oE n).vp oF r0
theorem Hz(n:Int)(ok:H3 n):rP n (cS n):=by
 dsimp only[rP,oE,noS,Ax.vp,Ax.vc];simp only[vcU,rfU,List.length_map]
 refine⟨λc=>?_,λc=>⟨λd=>?_,λd=>⟨λe=>?_,λe=>?_⟩⟩⟩
 ·rw[cS,decide_eq_true (.inl (eq_of_beq c))]
 ·rw[cS,decide_eq_true (.inr (.inl (eq_of_beq d)))]
 ·rw[cS,decide_eq_true (.inr (.inr (.inl (eq_of_beq e))))]
 ·have c:¬n=8:=by simpa using c
  have d:¬n=16:=by simpa using d
  have e:¬n=32:=by simpa using e
  rw[cS,Bool.eq_iff_iff,beq_iff_eq,decide_eq_true_eq]
  simp[c,d,e]
def yU(n:Int):PC Tryz.prog:=⟨141,[.k],[.int n],oF (cS n),aw.of_ok λok=>av (sh:=.k) (enc:=oF) (a:=(oE n).an) (Hz n ok) (by kernel_rfl) (AV.pureB_ok rfl),ap (by kernel_rfl)⟩
def OH(y x:Edg):Bool:=y.router==x.router
def FB(e:Edg):Prop:=(1≤e.id∧e.id≤256)∧1≤e.router∧e.router≤99
instance (e:Edg):Decidable (FB e):=by unfold FB;infer_instance
def pg(p:Pln):Prop:=(0≤p.sub∧p.sub≤7)∧(cS p.len=true∨p.len=0∧p.es=[])∧p.es.length≤24
instance (p:Pln):Decidable (pg p):=by unfold pg;infer_instance
def vF(es:List Edg):Prop:=(∀e∈es,FB e)∧(es.map Edg.router).Nodup∧(es.map Edg.id).Pairwise (·<·)
instance (es:List Edg):Decidable (vF es):=by unfold vF;infer_instance
def dH(p:Pln):Bool:=decide (pg p) && decide (vF p.es)
def edgG(es:List Edg)(j:Nat)(e:Edg):Prop:=FB e∧((es.take j).any λy=>OH y e)=false∧∀e',0<j→es[j-1]?=some e'→e'.id<e.id
theorem su{es:List Edg}:vF es↔∀j e,es[j]?=some e→edgG es j e:=by
 constructor
 ·rintro⟨h1,h2,h3⟩ j e he
  have hj:=aq he
  rw[List.getElem?_eq_getElem hj]at he
  have he:=Option.some.inj he
  rw[List.nodup_iff_pairwise_ne,List.pairwise_map,List.pairwise_iff_getElem]at h2
  rw[List.pairwise_map,List.pairwise_iff_getElem]at h3
  refine⟨h1 e (he ▸ List.getElem_mem hj),?_,λe' h0 he'=>?_⟩
  ·rw[List.any_eq_false]
   intro y hy
   obtain⟨i,hi,rfl⟩:=List.getElem_of_mem hy
   have hi':i<j:=by simp at hi;omega
   rw[List.getElem_take]
   have:=h2 i j (by omega) hj hi'
   rw[he]at this
   simpa[OH]using this
  ·rw[List.getElem?_eq_getElem (by omega)]at he'
   have:=h3 (j-1) j (by omega) hj (by omega)
   rw[he,Option.some.inj he']at this
   exact this
 ·intro h
  refine⟨λe he=>?_,?_,?_⟩
  ·obtain⟨j,hj⟩:=List.getElem?_of_mem he
   exact(h j e hj).1
  ·rw[List.nodup_iff_pairwise_ne,List.pairwise_map,List.pairwise_iff_getElem]
   intro i j hi hj hij
   have:=(h j _ (List.getElem?_eq_getElem hj)).2.1
   rw[List.any_eq_false]at this
   have:=this es[i] (List.mem_take_iff_getElem.mpr ⟨i,by omega,rfl⟩)
   simpa[OH]using this
  ·rw[List.pairwise_map]
   refine fM.done (l:=es) (R:=λa b=>a.id<b.id) (t:=((es.length+1:Nat):Int)) ⟨es.length+1,rfl,by omega,by omega,λj x y hj hx hy=>?_⟩ (by omega) λx y z q r=>Int.lt_trans q r
   exact(h (j+1) y hy).2.2 x (by omega) (by simpa using hx)
abbrev rO:=cS
def Hy(n:Int):=okL [.int n]
def oD(r:Bool):AV:=.bool r
def oC(n:Int):Ax Tryz.prog noS (Bool):=
 (.br 64 (n==8) (.ret (true))
(.br 128 (n==16) (.ret (true))
(.br 192 (n==32) (.ret (true))
(.ret (n==64)))))
def rN(n:Int)(r0:Bool):=(oC n).vp oD r0
theorem Hx(n:Int)(ok:Hy n):rN n (rO n):=by
 dsimp only[rN,oC,noS,Ax.vp,Ax.vc];simp only[vcU,rfU,List.length_map]
 refine⟨λc=>?_,λc=>⟨λd=>?_,λd=>⟨λe=>?_,λe=>?_⟩⟩⟩
 ·rw[rO,cS,decide_eq_true (.inl (eq_of_beq c))]
 ·rw[rO,cS,decide_eq_true (.inr (.inl (eq_of_beq d)))]
 ·rw[rO,cS,decide_eq_true (.inr (.inr (.inl (eq_of_beq e))))]
 ·have c:¬n=8:=by simpa using c
  have d:¬n=16:=by simpa using d
  have e:¬n=32:=by simpa using e
  rw[rO,cS,Bool.eq_iff_iff,beq_iff_eq,decide_eq_true_eq]
  simp[c,d,e]
def yT(n:Int):PC Tryz.prog:=⟨75,[.k],[.int n],oD (cS n),aw.of_ok λok=>av (sh:=.k) (enc:=oD) (a:=(oC n).an) (Hx n ok) (by kernel_rfl) (AV.pureB_ok rfl),ap (by kernel_rfl)⟩
abbrev insR:=inP
def NZ(n:Int)(low:Int)(high:Int):=okL [.int n,.int low,.int high]
def wA(r:Bool):AV:=.bool r
def w9(n:Int)(low:Int)(high:Int):Ax Tryz.prog noS (Bool):=
 (.br 80 (decide (low≤n)) (.ret (decide (n≤high)))
(.ret (false)))
def A2(n:Int)(low:Int)(high:Int)(r0:Bool):=(w9 n low high).vp wA r0
theorem NY(n a b:Int)(ok:NZ n a b):A2 n a b (insR n a b):=by
 dsimp only[A2,w9,noS,Ax.vp,Ax.vc];simp only[vcU,rfU,List.length_map]
 refine⟨λc=>?_,λc=>?_⟩<;>simp[insR,inP,c]
def wB(n:Int)(low:Int)(high:Int):PC Tryz.prog:=⟨76,[.k,.k,.k],[.int n,.int low,.int high],wA (inP n low high),aw.of_ok λok=>av (sh:=.k) (enc:=wA) (a:=(w9 n low high).an) (NY n low high ok) (by kernel_rfl) (AV.pureB_ok rfl),ap (by kernel_rfl)⟩
def repR(l:List Int):Bool:=!decide l.Nodup
theorem zi{α:Type}{l:List α}{k:Nat}{y:α}(hy:l[k]?=some y):(l.take (k+1)).Nodup↔(l.take k).Nodup∧∀x∈l.take k,x≠y:=by
 rw[aV hy,List.nodup_append]
 simp
def DG(l:List Int):=okL [.sl 1 (l.map AV.int) false]
def IC(l:List Int)(t0:Int):NF:=⟨[(0,.k,.sl 1 (l.map AV.int) false),(3,.k,.int t0)],[]⟩
def IB(l:List Int)(t0:Int)(t1:Int):NF:=⟨[(0,.k,.sl 1 (l.map AV.int) false),(3,.k,.int t0),(4,.k,.int t1)],[]⟩
@[reducible] def DF:Nat→Type
 | 0=>Int
 | 1=>Int
 | _=>Unit
def vu(r:Bool):AV:=.bool r
def vt(l:List Int)(I0:Int→Prop)(m0:Int→Nat)(I1:Int→Int→Prop)(m1:Int→Int→Nat):Ax Tryz.prog DF (Bool):=
 (.loop 0 (IC l) I0 m0 ((0):Int) [] λ(t0:Int) b0 =>
(.br 64 (decide (t0<((l.map AV.int).length:Int))) (.loop 1 (IB l t0) (I1 t0) (m1 t0) ((0):Int) [] λ(t1:Int) b1 =>
(.br 48 (decide (t1<t0)) (.el 80 AV.int l (λR=>Rf (l.map AV.int) (ck (decide (0≤t0)) (ck (decide (t0<(l.length:Int)))
(∀x1,l[t0.toNat]?=some x1 →
(R x1))))) λx1 =>
(.el 144 AV.int l (λR=>Rf (l.map AV.int) (ck (decide (0≤t1)) (ck (decide (t1<(l.length:Int)))
(∀x2,l[t1.toNat]?=some x2 →
(R x2))))) λx2 =>
(.br 192 (x1==x2) (.ret (true))
(.bk 1 b1 ((W (t1+1)):Int) []))))
(.bk 0 b0 ((W (t0+1)):Int) [])))
(.ret (false))))
def zD(l:List Int)(I0:Int→Prop)(m0:Int→Nat)(I1:Int→Int→Prop)(m1:Int→Int→Nat)(r0:Bool):=(vt l I0 m0 I1 m1).vp vu r0
theorem MX(l:List Int)(ok:DG l):∃I0 m0 I1 m1,zD l I0 m0 I1 m1 (repR l):=by
 refine⟨λt=>∃k:Nat,t=k∧k≤l.length∧(l.take k).Nodup,λt=>l.length-t.toNat,λs t=>∃j:Nat,t=j∧t≤s∧∀y,l[s.toNat]?=some y→∀x∈l.take j,x≠y,λs t=>s.toNat-t.toNat,?_⟩
 simp only[DG,okU,Blk.ok,aK,List.length_map]at ok
 dsimp only[zD,vt,DF,Ax.vp,Ax.vc];simp only[vcU,rfU,List.length_map]
 refine⟨⟨0,rfl,by omega,by simp⟩,?_⟩
 rintro _ ⟨k,rfl,hk,h⟩
 refine⟨λc=>⟨⟨0,rfl,by omega,by simp⟩,?_⟩,λc=>?_⟩
 ·rintro _ ⟨j,rfl,hj,g⟩
  have hy:=List.getElem?_eq_getElem (show k<l.length by omega)
  simp only[Int.toNat_natCast]at g ⊢
  refine⟨λd=>⟨by omega,by omega,λy hy'=>⟨by omega,by omega,λx hx=>⟨λe=>?_,λe=>?_⟩⟩⟩,λd=>?_⟩
  ·have e:=eq_of_beq e
   have:¬l.Nodup:=λq=>by
    have:=(zi hy').mp (q.sublist (List.take_sublist _ _))
    exact this.2 x (List.mem_take_iff_getElem.mpr ⟨j,by omega,by rw[List.getElem?_eq_getElem (by omega)]at hx;exact Option.some.inj hx⟩) e.symm
   rw[repR,decide_eq_false this];rfl
  ·rw[bx (n:=l.length) (by omega) (by omega)]
   refine⟨⟨j+1,rfl,by omega,λz hz w hw=>?_⟩,by omega⟩
   rw[aV hx]at hw
   rcases List.mem_append.mp hw with hw|hw
   ·exact g z hz w hw
   ·rw[List.mem_singleton]at hw
    rw[hy']at hz;cases hz;subst hw
    exact λq=>by rw[q]at e;simp at e
  ·have:j=k:=by omega
   subst this
   rw[bx (n:=l.length) (by omega) (by omega)]
   exact⟨⟨j+1,rfl,by omega,(zi hy).mpr ⟨h,g _ hy⟩⟩,by omega⟩
 ·rw[List.take_of_length_le (by omega)]at h
  rw[repR,decide_eq_true h];rfl
def MY(l:List Int):PC Tryz.prog:=⟨100,[(.s 1)],[.sl 1 (l.map AV.int) false],vu (repR l),aw.of_ok λok=>(MX l ok).elim λI0 h=>h.elim λm0 h=>h.elim λI1 h=>h.elim λm1 h=>av (sh:=.k) (enc:=vu) (a:=(vt l I0 m0 I1 m1).an) h (by kernel_rfl) (AV.pureB_ok rfl),ap (by kernel_rfl)⟩
def yS(p:Pln):=okL [.agg [.int p.sub,.int p.len,.sl 2 (p.es.map Edg.v) false]]
def CW(p:Pln)(t0:Bool):NF:=⟨[(1,.k,.ref 0 0),(32,.k,.bool t0)],[.box (.agg [.int p.sub,.int p.len,.sl 2 (p.es.map Edg.v) false])]⟩
def CV(p:Pln)(t1:Int×List Int):NF:=⟨[(1,.k,.ref 0 0),(3,.k,.vec 1),(4,.k,.int t1.1)],[.box (.agg [.int p.sub,.int p.len,.sl 2 (p.es.map Edg.v) false]),.vec 1 (t1.2.map AV.int) (ab (λ_=>rfl) t1.2)]⟩
def CU(p:Pln)(t1:Int×List Int)(x1:Edg)(t2:Bool):NF:=⟨[(1,.k,.ref 0 0),(3,.k,.vec 1),(4,.k,.int t1.1),(5,.k,.ref 2 0),(70,.k,.bool t2)],[.box (.agg [.int p.sub,.int p.len,.sl 2 (p.es.map Edg.v) false]),.vec 1 (t1.2.map AV.int) (ab (λ_=>rfl) t1.2),.box (.agg [.int x1.router,.int x1.id])]⟩
@[reducible] def yR:Nat→Type
 | 0=>Bool
 | 1=>Int×List Int
 | 2=>Bool
 | _=>Unit
def oB(r:Bool):AV:=.bool r
def oA(p:Pln)(I0:Bool→Prop)(I1:Bool→(Int×List Int)→Prop)(m1:Bool→(Int×List Int)→Nat)(I2:Bool→Int×List Int→Edg→Bool→Prop):Ax Tryz.prog yR (Bool):=
 (.pass (.pass (.join 0 (CW p) (λ(t0:Bool)=>I0 t0) (λb0=>(.callP (wB p.sub 0 7)
(.br 112 (!(inP p.sub 0 7)) (.bk 0 b0 ((true):Bool) [0])
(.callP (yT p.len)
(.br 192 (!(cS p.len)) (.br 256 (p.len != 0) (.bk 0 b0 ((true):Bool) [0])
(.br 384 (decide (0<((p.es.map Edg.v).length:Int))) (.bk 0 b0 ((true):Bool) [0])
(.bk 0 b0 ((decide (24<((p.es.map Edg.v).length:Int))):Bool) [0])))
(.bk 0 b0 ((decide (24<((p.es.map Edg.v).length:Int))):Bool) [0])))))) λ(t0:Bool) =>
(.br 1 t0 (.ret (false))
(.cmdL (.nilT 3 1) (.loop 1 (CV p) (I1 t0) (m1 t0) (0,[]) [0,33] λ(t1:Int×List Int) b1 =>
(.br 82 (decide (t1.1<((p.es.map Edg.v).length:Int))) (.el 130 Edg.v p.es (λR=>Rf (p.es.map Edg.v) (ck (decide (0≤t1.1)) (ck (decide (t1.1<(p.es.length:Int)))
(∀x1,p.es[t1.1.toNat]?=some x1 →
(R x1))))) λx1 =>
(.pass (.join 2 (CU p t1 x1) (λ(t2:Bool)=>I2 t0 t1 x1 t2) (λb2=>(.callP (wB x1.id 1 256)
(.br 274 (!(inP x1.id 1 256)) (.bk 2 b2 ((true):Bool) [0,1,162])
(.callP (wB x1.router 1 99)
(.br 370 (!(inP x1.router 1 99)) (.bk 2 b2 ((true):Bool) [0,1,162])
(.br 418 (decide (0<t1.1)) (.el 482 Edg.v p.es (λR=>Rf (p.es.map Edg.v) (ck (decide (0≤(W (t1.1-1)))) (ck (decide ((W (t1.1-1))<(p.es.length:Int)))
(∀x2,p.es[(W (t1.1-1)).toNat]?=some x2 →
(R x2))))) λx2 =>
(.bk 2 b2 ((decide (x1.id≤x2.id)):Bool) [0,1,162]))
(.bk 2 b2 ((false):Bool) [0,1,162]))))))) λ(t2:Bool) =>
(.br 3 t2 (.ret (false))
(.say (λR=>Rf (α:=List AV) (t1.2.map AV.int) (Rf (α:=List AV) [.int x1.router]
(ck (decide (t1.2.length+1≤1048576))
R))) (.app 67 AV.int t1.2 [x1.router]
(.bk 1 b1 (W (t1.1+1),t1.2++[x1.router]) [0,67])))))))
(.callP (MY t1.2)
(.say (ck (cD [(t1.2.map AV.int)])) (.ret (!(repR t1.2))))))))))))
def rM(p:Pln)(I0:Bool→Prop)(I1:Bool→(Int×List Int)→Prop)(m1:Bool→(Int×List Int)→Nat)(I2:Bool→Int×List Int→Edg→Bool→Prop)(r0:Bool):=(oA p I0 I1 m1 I2).vp oB r0
def JX(es:List Edg)(j:Nat)(e:Edg):Prop:=FB e∧∀e',0<j→es[j-1]?=some e'→e'.id<e.id
theorem nR{es:List Edg}:vF es↔(∀j e,es[j]?=some e→JX es j e)∧(es.map Edg.router).Nodup:=by
 constructor
 ·exact λh=>⟨λj e he=>⟨(su.mp h j e he).1,(su.mp h j e he).2.2⟩,h.2.1⟩
 ·intro h
  refine⟨λe he=>?_,h.2,?_⟩
  ·obtain⟨j,hj⟩:=List.getElem?_of_mem he
   exact(h.1 j e hj).1
  ·rw[List.pairwise_map]
   refine fM.done (l:=es) (R:=λa b=>a.id<b.id) (t:=((es.length+1:Nat):Int)) ⟨es.length+1,rfl,by omega,by omega,λj x y hj hx hy=>?_⟩ (by omega) λx y z q r=>Int.lt_trans q r
   exact(h.1 (j+1) y hy).2 x (by omega) (by simpa using hx)
theorem Hv(p:Pln)(ok:yS p):∃I0 I1 m1 I2,rM p I0 I1 m1 I2 (dH p):=by
 refine⟨λb=>b=decide (¬pg p),λ_ t=>fz p.es (λe=>[e.router]) t.1 t.2∧∃k:Nat,t.1=k∧∀j e,j<k→p.es[j]?=some e→JX p.es j e,λ_ t=>p.es.length-t.1.toNat,λ_ t x b=>b=true↔¬JX p.es t.1.toNat x,?_⟩
 simp only[yS,okU,Blk.ok,aK,List.length_map]at ok
 dsimp only[rM,oA,yR,Ax.vp,Ax.vc];simp only[vcU,rfU,List.length_map]
 have hes:p.es=[]↔¬0<(p.es.length:Int):=by rw[←List.length_eq_zero_iff];omega
 refine⟨⟨λc=>?_,λc=>⟨λd=>⟨λe=>?_,λe=>⟨λg=>?_,λg=>?_⟩⟩,λd=>?_⟩⟩,?_⟩
 ·have c:¬(0≤p.sub∧p.sub≤7):=Fd.mp c
  exact(decide_eq_true (show ¬pg p from λq=>c q.1)).symm
 ·have d:cS p.len=false:=by simpa using d
  have e:p.len≠0:=by simpa using e
  exact(decide_eq_true (show ¬pg p from λq=>by
   rcases q.2.1 with r|r
   ·rw[d]at r;cases r
   ·exact e r.1)).symm
 ·have d:cS p.len=false:=by simpa using d
  exact(decide_eq_true (show ¬pg p from λq=>by
   rcases q.2.1 with r|r
   ·rw[d]at r;cases r
   ·exact hes.mp r.2 g)).symm
 ·have c:0≤p.sub∧p.sub≤7:=mL.mp c
  have e:p.len=0:=by simpa using e
  rw[decide_eq_decide]
  unfold pg
  rw[and_iff_right c,and_iff_right (.inr ⟨e,hes.mpr g⟩)]
  omega
 ·have c:0≤p.sub∧p.sub≤7:=mL.mp c
  have d:cS p.len=true:=by simpa using d
  rw[decide_eq_decide]
  unfold pg
  rw[and_iff_right c,and_iff_right (.inl d)]
  omega
 rintro _ rfl
 refine⟨λc=>?_,λc=>⟨⟨fz.zero,0,rfl,λj e h=>by omega⟩,?_⟩⟩
 ·rw[dH,decide_eq_false (of_decide_eq_true c)];rfl
 have c:=Classical.not_not.mp (of_decide_eq_false c)
 have hl:=c.2.2
 rintro⟨i,out⟩ ⟨hx0,k,hi,h⟩
 simp only at hi hx0 ⊢
 have hlen:=hx0.len (b:=1) (by simp)
 have h0:=hx0.idx
 refine⟨λd=>⟨h0,d,λx hx=>⟨?_,?_⟩⟩,λd=>?_⟩
 ·refine⟨λe1=>?_,λe1=>⟨λe2=>?_,λe2=>⟨λe4=>?_,λe4=>?_⟩⟩⟩
  ·have e1:¬(1≤x.id∧x.id≤256):=Fd.mp e1
   exact iff_of_true trivial λq=>e1 q.1.1
  ·have e2:¬(1≤x.router∧x.router≤99):=Fd.mp e2
   exact iff_of_true trivial λq=>e2 q.1.2
  ·have e1:1≤x.id∧x.id≤256:=mL.mp e1
   have e2:1≤x.router∧x.router≤99:=mL.mp e2
   subst hi
   rw[j3 (by omega) (by omega)]
   refine⟨by omega,by omega,λy hy=>?_⟩
   rw[Int.toNat_natCast]at hy
   simp only[Int.toNat_natCast,decide_eq_true_eq]
   constructor
   ·exact λq r=>by have:=r.2 y (by omega) hy;omega
   ·intro q
    refine Classical.byContradiction λr=>q ⟨⟨e1,e2⟩,λy' _ hy'=>?_⟩
    rw[hy]at hy';cases hy';omega
  ·have e1:1≤x.id∧x.id≤256:=mL.mp e1
   have e2:1≤x.router∧x.router≤99:=mL.mp e2
   exact iff_of_false Bool.false_ne_true λq=>q ⟨⟨e1,e2⟩,λy' h0 _=>by omega⟩
 ·intro b hb
  refine⟨λe=>?_,λe=>?_⟩
  ·have:¬vF p.es:=λq=>hb.mp e ((nR.mp q).1 i.toNat x hx)
   rw[dH,decide_eq_false this,Bool.and_false]
  ·have hg:JX p.es i.toNat x:=Classical.not_not.mp λq=>by rw[hb.mpr q]at e;cases e
   obtain⟨a1,a2⟩:=hx0.step (out':=out++[x.router]) (by omega) hx rfl
   refine⟨by omega,⟨a1,k+1,?_,λj y hj hy=>?_⟩,a2⟩
   ·rw[dY (by omega)];omega
   ·by_cases e':j=k
    ·subst e';subst hi
     rw[Int.toNat_natCast]at hx hg
     rw[hx]at hy;cases hy;exact hg
    ·exact h j y (by omega) hy
 ·have hd:=hx0.done d
  rw[tu]at hd
  have:vF p.es↔(p.es.map Edg.router).Nodup:=by
   rw[nR]
   exact⟨λq=>q.2,λq=>⟨λj e he=>h j e (by have:=aq he;omega) he,q⟩⟩
  refine⟨io (ab (λ_=>rfl) _),?_⟩
  rw[dH,decide_eq_true c,decide_eq_decide.mpr this,hd,repR,Bool.not_not];rfl
def Hw(p:Pln):PC Tryz.prog:=⟨63,[(.a [.k,.k,(.s 2)])],[.agg [.int p.sub,.int p.len,.sl 2 (p.es.map Edg.v) false]],oB (dH p),aw.of_ok λok=>(Hv p ok).elim λI0 h=>h.elim λI1 h=>h.elim λm1 h=>h.elim λI2 h=>av (sh:=.k) (enc:=oB) (a:=(oA p I0 I1 m1 I2).an) h (by kernel_rfl) (AV.pureB_ok rfl),ap (by kernel_rfl)⟩
def FU(x:Int)(n:Int):=okL [.int x,.int n]
def xC(r:Int):AV:=.int r
def xB(x:Int)(n:Int):Ax Tryz.prog noS (Int):=
 (.br 48 (decide (n<1)) (.ret (0))
(.say (ck (!(n==0))) (.br 144 (decide ((x.tmod n)<0)) (.ret (W ((x.tmod n)+n)))
(.ret (x.tmod n)))))
def Ba(x:Int)(n:Int)(r0:Int):=(xB x n).vp xC r0
theorem OZ(x n:Int)(ok:FU x n):Ba x n (Mod x n):=by
 simp only[FU,okU,Blk.ok,aK,List.length_map]at ok
 dsimp only[Ba,xB,noS,Ax.vp,Ax.vc];simp only[vcU,rfU,List.length_map]
 refine⟨λh=>by rw[Mod,if_pos h],λh=>⟨by simp;omega,λh2=>?_,λh2=>by rw[Mod,if_neg h,if_neg h2]⟩⟩
 have hb:=Int.tmod_lt_of_pos x (show 0<n by omega)
 have hb':=Int.lt_tmod_of_pos x (show 0<n by omega)
 rw[Mod,if_neg h,if_pos h2,dY (by omega)]
def Pa(x:Int)(n:Int):PC Tryz.prog:=⟨81,[.k,.k],[.int x,.int n],xC (Mod x n),aw.of_ok λok=>av (sh:=.k) (enc:=xC) (a:=(xB x n).an) (OZ x n ok) (by kernel_rfl) (AV.pureB_ok rfl),ap (by kernel_rfl)⟩
def DT(L:List Int)(p:Int):=okL [.ref 0 0]∧(.box (.agg [.sl 1 (L.map AV.int) false,.int p]):Blk).ok
def DS(r:yL×Int):AV:=.int r.2
def vz(r:yL×Int):List (Option Blk):=[some (.box (.agg [.sl 1 (r.1.L.map AV.int) false,.int r.1.p]))]
def vy(L:List Int)(p:Int):Ax Tryz.prog noS (yL×Int):=
 (.br 177 (decide (((L.map AV.int).length:Int)≤p)) (.retH ((⟨L,p⟩:yL),0) ⟨[(2,.k,.int 0)],[.box (.agg [.sl 1 (L.map AV.int) false,.int p])]⟩ [0])
(.el 449 AV.int L (λR=>Rf (L.map AV.int) (ck (decide (0≤(W ((W (p+1))-1)))) (ck (decide ((W ((W (p+1))-1))<(L.length:Int)))
(∀x1,L[(W ((W (p+1))-1)).toNat]?=some x1 →
(R x1))))) λx1 =>
(.retH ((⟨L,W (p+1)⟩:yL),x1) ⟨[(2,.k,.int x1)],[.box (.agg [.sl 1 (L.map AV.int) false,.int (W (p+1))])]⟩ [0])))
def pe(L:List Int)(p:Int)(r0:yL×Int):=(vy L p).vc DS vz r0
theorem II(L:List Int)(p:Int)(r0:yL×Int)(h:pe L p r0):aH Tryz.prog 82 [.ref 0 0] [.box (.agg [.sl 1 (L.map AV.int) false,.int p])] (DS r0) (vz r0):=dh (sh:=.k) (hB:=vz) (a:=(vy L p).an) h (by kernel_rfl)
theorem Nc(L:List Int)(p:Nat)(ok:DT L p):pe L p (⟨L,ae L p⟩,ao L p):=by
 simp only[DT,okU,Blk.ok,aK,List.length_map]at ok
 dsimp only[pe,vy,noS,Ax.vp,Ax.vc];simp only[vcU,rfU,List.length_map]
 refine⟨λh=>?_,λh=>?_⟩
 ·rw[ae,if_pos (by omega)];simp[ao,List.getElem?_eq_none (show L.length≤p by omega)]
 ·have e1:W ((p:Int)+1)=p+1:=dY (by omega)
  have e2:W ((p:Int)+1-1)=p:=by rw[dY (by omega)];omega
  rw[e1,e2]
  refine⟨by omega,by omega,λx hx=>?_⟩
  rw[Int.toNat_natCast]at hx
  rw[ae,if_neg (by omega)];simp[ao,hx]
theorem BV(L:List Int)(p:Nat):aH Tryz.prog 82 [.ref 0 0] [.box (Tap.v ⟨L,p⟩)] (.int (ao L p)) [some (.box (Tap.v ⟨L,ae L p⟩))]:=
 aH.of_okh λok ok2=>II L p _ (Nc L p ⟨ok,ok2 _ (List.mem_singleton.mpr rfl)⟩)
def Nd(L:List Int)(p:Nat):HC Tryz.prog:=⟨82,[],[.ref 0 0],[.box (Tap.v ⟨L,p⟩)],.int (ao L p),[some (.box (Tap.v ⟨L,ae L p⟩))],BV L p,ap (by kernel_rfl),fw.of rfl⟩
def E2(L:List Int)(p:Nat)(n:Int):=okL [.ref 0 0,.int n]∧(.box (.agg [.sl 1 (L.map AV.int) false,.int p]):Blk).ok
def pJ(r:Tap×Int):AV:=.int r.2
def pK(r:Tap×Int):List (Option Blk):=[some (.box (.agg [.sl 1 (r.1.L.map AV.int) false,.int r.1.p]))]
def wc(L:List Int)(p:Nat)(n:Int):Ax Tryz.prog noS (Tap×Int):=
 (.callH [0] (Nd L p) 33
(.callP (Pa (ao L p) n)
(.retH ((⟨L,ae L p⟩:Tap),Mod (ao L p) n) ⟨[(4,.k,.int (Mod (ao L p) n))],[.box (.agg [.sl 1 (L.map AV.int) false,.int (ae L p)])]⟩ [0])))
def Ad(L:List Int)(p:Nat)(n:Int)(r0:Tap×Int):=(wc L p n).vc pJ pK r0
theorem N6(L:List Int)(p:Nat)(n:Int)(ok:E2 L p n):Ad L p n (⟨L,ae L p⟩,Mod (ao L p) n):=by
 dsimp only[Ad,wc,noS,Ax.vp,Ax.vc];simp only[vcU,rfU,List.length_map]
def c7(L:List Int)(p:Nat)(n:Int):HC Tryz.prog:=⟨33,[.k,.k],[.ref 0 0,.int n],[.box (.agg [.sl 1 (L.map AV.int) false,.int p])],pJ ((⟨L,ae L p⟩,Mod (ao L p) n):Tap×Int),pK ((⟨L,ae L p⟩,Mod (ao L p) n):Tap×Int),aH.of_okh λok ok2=>have ok:E2 L p n:=⟨ok,ok2 _ (by simp)⟩;dh (sh:=.k) (enc:=pJ) (hB:=pK) (a:=(wc L p n).an) (N6 L p n ok) (by kernel_rfl),ap (by kernel_rfl),fw.of (by simp[hcB,cV,AV.belB,allB,eN,dR,pJ,pK,ab (v:=AV.int) (λ_=>rfl)])⟩
def D7(L:List Int)(p:Nat)(low:Int)(high:Int):=okL [.ref 0 0,.int low,.int high]∧(.box (.agg [.sl 1 (L.map AV.int) false,.int p]):Blk).ok
def oU(r:Tap×Int):AV:=.int r.2
def oV(r:Tap×Int):List (Option Blk):=[some (.box (.agg [.sl 1 (r.1.L.map AV.int) false,.int r.1.p]))]
def vn(L:List Int)(p:Nat)(low:Int)(high:Int):Ax Tryz.prog noS (Tap×Int):=
 (.callH [0] (c7 L p (W ((W (high-low))+1))) 113
(.retH ((⟨L,ae L p⟩:Tap),W (low+(Mod (ao L p) (W ((W (high-low))+1))))) ⟨[(6,.k,.int (W (low+(Mod (ao L p) (W ((W (high-low))+1))))))],[.box (.agg [.sl 1 (L.map AV.int) false,.int (ae L p)])]⟩ [0]))
def zy(L:List Int)(p:Nat)(low:Int)(high:Int)(r0:Tap×Int):=(vn L p low high).vc oU oV r0
theorem MS(L:List Int)(p:Nat)(lo hi:Int)(ok:D7 L p lo hi):zy L p lo hi (⟨L,ae L p⟩,rng L p lo hi):=by
 dsimp only[zy,vn,noS,Ax.vp,Ax.vc];simp only[vcU,rfU,List.length_map]
 rfl
def oT(L:List Int)(p:Nat)(low:Int)(high:Int):HC Tryz.prog:=⟨21,[.k,.k,.k],[.ref 0 0,.int low,.int high],[.box (.agg [.sl 1 (L.map AV.int) false,.int p])],oU ((⟨L,ae L p⟩,rng L p low high):Tap×Int),oV ((⟨L,ae L p⟩,rng L p low high):Tap×Int),aH.of_okh λok ok2=>have ok:D7 L p low high:=⟨ok,ok2 _ (by simp)⟩;dh (sh:=.k) (enc:=oU) (hB:=oV) (a:=(vn L p low high).an) (MS L p low high ok) (by kernel_rfl),ap (by kernel_rfl),fw.of (by simp[hcB,cV,AV.belB,allB,eN,dR,oU,oV,ab (v:=AV.int) (λ_=>rfl)])⟩
def En(L:List Int)(p:Nat)(l:List Int):=okL [.ref 0 0,.sl 1 (l.map AV.int) false]∧(.box (.agg [.sl 1 (L.map AV.int) false,.int p]):Blk).ok
def pm(r:Tap×Int):AV:=.int r.2
def pn(r:Tap×Int):List (Option Blk):=[some (.box (.agg [.sl 1 (r.1.L.map AV.int) false,.int r.1.p]))]
def vN(L:List Int)(p:Nat)(l:List Int):Ax Tryz.prog noS (Tap×Int):=
 (.callH [0] (c7 L p ((l.map AV.int).length:Int)) 81
(.el 97 AV.int l (λR=>Rf (l.map AV.int) (ck (decide (0≤(Mod (ao L p) ((l.map AV.int).length:Int)))) (ck (decide ((Mod (ao L p) ((l.map AV.int).length:Int))<(l.length:Int)))
(∀x1,l[(Mod (ao L p) ((l.map AV.int).length:Int)).toNat]?=some x1 →
(R x1))))) λx1 =>
(.retH ((⟨L,ae L p⟩:Tap),x1) ⟨[(4,.k,.int x1)],[.box (.agg [.sl 1 (L.map AV.int) false,.int (ae L p)])]⟩ [0])))
def zM(L:List Int)(p:Nat)(l:List Int)(r0:Tap×Int):=(vN L p l).vc pm pn r0
theorem Nm(L:List Int)(p:Nat)(l:List Int)(hl:l≠[])(ok:En L p l):zM L p l (⟨L,ae L p⟩,aO l (ao L p)):=by
 have hl:0<l.length:=List.length_pos_iff.mpr hl
 have hm:=eo (x:=ao L p) (show 1≤(l.length:Int) by omega)
 dsimp only[zM,vN,noS,Ax.vp,Ax.vc];simp only[vcU,rfU,List.length_map]
 refine⟨by omega,by omega,λx hx=>?_⟩
 rw[aO,List.getD_eq_getElem?_getD,hx];rfl
def gw(L:List Int)(p:Nat)(l:List Int)(hl:l≠[]):HC Tryz.prog:=⟨48,[.k,(.s 1)],[.ref 0 0,.sl 1 (l.map AV.int) false],[.box (.agg [.sl 1 (L.map AV.int) false,.int p])],pm ((⟨L,ae L p⟩,aO l (ao L p)):Tap×Int),pn ((⟨L,ae L p⟩,aO l (ao L p)):Tap×Int),aH.of_okh λok ok2=>have ok:En L p l:=⟨ok,ok2 _ (by simp)⟩;dh (sh:=.k) (enc:=pm) (hB:=pn) (a:=(vN L p l).an) (Nm L p l hl ok) (by kernel_rfl),ap (by kernel_rfl),fw.of (by simp[hcB,cV,AV.belB,allB,eN,dR,pm,pn,ab (v:=AV.int) (λ_=>rfl)])⟩
def eC(L:List Int)(p:Nat)(n:Int):Bool:=Mod (ao L p) n==W (n-1)
def Ey(L:List Int)(p:Nat)(n:Int):=okL [.ref 0 0,.int n]∧(.box (.agg [.sl 1 (L.map AV.int) false,.int p]):Blk).ok
def pF(r:Tap×Bool):AV:=.bool r.2
def pG(r:Tap×Bool):List (Option Blk):=[some (.box (.agg [.sl 1 (r.1.L.map AV.int) false,.int r.1.p]))]
def vZ(L:List Int)(p:Nat)(n:Int):Ax Tryz.prog noS (Tap×Bool):=
 (.callH [0] (c7 L p n) 49
(.retH ((⟨L,ae L p⟩:Tap),(Mod (ao L p) n)==(W (n-1))) ⟨[(4,.k,.bool ((Mod (ao L p) n)==(W (n-1))))],[.box (.agg [.sl 1 (L.map AV.int) false,.int (ae L p)])]⟩ [0]))
def zY(L:List Int)(p:Nat)(n:Int)(r0:Tap×Bool):=(vZ L p n).vc pF pG r0
theorem N1(L:List Int)(p:Nat)(n:Int)(ok:Ey L p n):zY L p n (⟨L,ae L p⟩,eC L p n):=by
 dsimp only[zY,vZ,noS,Ax.vp,Ax.vc];simp only[vcU,rfU,List.length_map]
 rfl
def jp(L:List Int)(p:Nat)(n:Int):HC Tryz.prog:=⟨40,[.k,.k],[.ref 0 0,.int n],[.box (.agg [.sl 1 (L.map AV.int) false,.int p])],pF ((⟨L,ae L p⟩,eC L p n):Tap×Bool),pG ((⟨L,ae L p⟩,eC L p n):Tap×Bool),aH.of_okh λok ok2=>have ok:Ey L p n:=⟨ok,ok2 _ (by simp)⟩;dh (sh:=.k) (enc:=pF) (hB:=pG) (a:=(vZ L p n).an) (N1 L p n ok) (by kernel_rfl),ap (by kernel_rfl),fw.of (by simp[hcB,cV,AV.belB,allB,eN,dR,pF,pG,ab (v:=AV.int) (λ_=>rfl)])⟩
def wldL:List Int:=[-1,0,1,7,8,23,24,31,32,63,64,99,100,255,256,257,1000,1001,1023,1024,1000000,1000001,1099511627776,9223372036854775807,-9223372036854775808]
def dy(L:List Int)(p:Nat):Int:=aO wldL (ao L p)
def CT(L:List Int)(p:Nat):=okL [.ref 0 0]∧(.box (.agg [.sl 1 (L.map AV.int) false,.int p]):Blk).ok
def o8(r:Tap×Int):AV:=.int r.2
def o9(r:Tap×Int):List (Option Blk):=[some (.box (.agg [.sl 1 (r.1.L.map AV.int) false,.int r.1.p]))]
def uG(L:List Int)(p:Nat):Ax Tryz.prog noS (Tap×Int):=
 (.req 49 ([-1,0,1,7,8,23,24,31,32,63,64,99,100,255,256,257,1000,1001,1023,1024,1000000,1000001,1099511627776,9223372036854775807,-9223372036854775808]≠[]) λh1 =>
(.callH [0] (gw L p [-1,0,1,7,8,23,24,31,32,63,64,99,100,255,256,257,1000,1001,1023,1024,1000000,1000001,1099511627776,9223372036854775807,-9223372036854775808] h1) 49
(.retH ((⟨L,ae L p⟩:Tap),aO [-1,0,1,7,8,23,24,31,32,63,64,99,100,255,256,257,1000,1001,1023,1024,1000000,1000001,1099511627776,9223372036854775807,-9223372036854775808] (ao L p)) ⟨[(2,.k,.int (aO [-1,0,1,7,8,23,24,31,32,63,64,99,100,255,256,257,1000,1001,1023,1024,1000000,1000001,1099511627776,9223372036854775807,-9223372036854775808] (ao L p)))],[.box (.agg [.sl 1 (L.map AV.int) false,.int (ae L p)])]⟩ [0])))
def yQ(L:List Int)(p:Nat)(r0:Tap×Int):=(uG L p).vc o8 o9 r0
theorem Mp(L:List Int)(p:Nat)(ok:CT L p):yQ L p (⟨L,ae L p⟩,dy L p):=by
 dsimp only[yQ,uG,noS,Ax.vp,Ax.vc];simp only[vcU,rfU,List.length_map]
 exact⟨by simp,rfl⟩
def lK(L:List Int)(p:Nat):HC Tryz.prog:=⟨50,[.k],[.ref 0 0],[.box (.agg [.sl 1 (L.map AV.int) false,.int p])],o8 ((⟨L,ae L p⟩,dy L p):Tap×Int),o9 ((⟨L,ae L p⟩,dy L p):Tap×Int),aH.of_okh λok ok2=>have ok:CT L p:=⟨ok,ok2 _ (by simp)⟩;dh (sh:=.k) (enc:=o8) (hB:=o9) (a:=(uG L p).an) (Mp L p ok) (by kernel_rfl),ap (by kernel_rfl),fw.of (by simp[hcB,cV,AV.belB,allB,eN,dR,o8,o9,ab (v:=AV.int) (λ_=>rfl)])⟩
def lenL:List Int:=[8,8,16,32,64]
def dT(L:List Int)(p:Nat):Int:=aO lenL (ao L p)
def ER(L:List Int)(p:Nat):=okL [.ref 0 0]∧(.box (.agg [.sl 1 (L.map AV.int) false,.int p]):Blk).ok
def qa(r:Tap×Int):AV:=.int r.2
def qc(r:Tap×Int):List (Option Blk):=[some (.box (.agg [.sl 1 (r.1.L.map AV.int) false,.int r.1.p]))]
def wz(L:List Int)(p:Nat):Ax Tryz.prog noS (Tap×Int):=
 (.req 49 ([8,8,16,32,64]≠[]) λh1 =>
(.callH [0] (gw L p [8,8,16,32,64] h1) 49
(.retH ((⟨L,ae L p⟩:Tap),aO [8,8,16,32,64] (ao L p)) ⟨[(2,.k,.int (aO [8,8,16,32,64] (ao L p)))],[.box (.agg [.sl 1 (L.map AV.int) false,.int (ae L p)])]⟩ [0])))
def At(L:List Int)(p:Nat)(r0:Tap×Int):=(wz L p).vc qa qc r0
theorem NT(L:List Int)(p:Nat)(ok:ER L p):At L p (⟨L,ae L p⟩,dT L p):=by
 dsimp only[At,wz,noS,Ax.vp,Ax.vc];simp only[vcU,rfU,List.length_map]
 exact⟨by simp,rfl⟩
def NU(L:List Int)(p:Nat):HC Tryz.prog:=⟨60,[.k],[.ref 0 0],[.box (.agg [.sl 1 (L.map AV.int) false,.int p])],qa ((⟨L,ae L p⟩,dT L p):Tap×Int),qc ((⟨L,ae L p⟩,dT L p):Tap×Int),aH.of_okh λok ok2=>have ok:ER L p:=⟨ok,ok2 _ (by simp)⟩;dh (sh:=.k) (enc:=qa) (hB:=qc) (a:=(wz L p).an) (NT L p ok) (by kernel_rfl),ap (by kernel_rfl),fw.of (by simp[hcB,cV,AV.belB,allB,eN,dR,qa,qc,ab (v:=AV.int) (λ_=>rfl)])⟩
def E5(l:List Int):=okL [.sl 1 (l.map AV.int) false]
def pM(r:Tap):AV:=.ref 0 0
def pN(r:Tap):List (Option Blk):=[some (.box (.agg [.sl 1 (r.L.map AV.int) false,.int r.p]))]
def we(l:List Int):Ax Tryz.prog noS (Tap):=
 (.br 64 (decide (600<((l.map AV.int).length:Int))) (.say (λR=>Rf (α:=List AV) (l.map AV.int) (ck (f9 l.length 0 600 (l.length:Int))
R)) (.sub 80 AV.int l false
(.retH (⟨(l.take 600).drop 0,0⟩:Tap) ⟨[(2,.k,.ref 0 0)],[.box (.agg [.sl 1 (((l.take 600).drop 0).map AV.int) false,.int 0])]⟩ [144])))
(.retH (⟨l,0⟩:Tap) ⟨[(2,.k,.ref 0 0)],[.box (.agg [.sl 1 (l.map AV.int) false,.int 0])]⟩ [96]))
def Af(l:List Int)(r0:Tap):=(we l).vc pM pN r0
theorem N8(t:List Int)(ok:E5 t):Af t ⟨t.take 600,0⟩:=by
 simp only[E5,okU,Blk.ok,aK,List.length_map]at ok
 dsimp only[Af,we,noS,Ax.vp,Ax.vc];simp only[vcU,rfU,List.length_map]
 refine⟨λh=>⟨by simp[f9];omega,by rw[List.drop_zero]⟩,λh=>by rw[List.take_of_length_le (by omega)]⟩
def N9(l:List Int):HC Tryz.prog:=⟨8,[(.s 1)],[.sl 1 (l.map AV.int) false],[],pM (⟨l.take 600,0⟩:Tap),pN (⟨l.take 600,0⟩:Tap),aH.of_okh λok _=>dh (sh:=.k) (enc:=pM) (hB:=pN) (a:=(we l).an) (N8 l ok) (by kernel_rfl),ap (by kernel_rfl),fw.of (by simp[hcB,cV,AV.belB,allB,eN,dR,pM,pN,ab (v:=AV.int) (λ_=>rfl)])⟩
def nI(L:List Int):Nat→Int→List Int→Nat→List Int×Nat
 | 0,_,out,p=>(out,p)
 | n+1,i,out,p=>nI L n (i+1) (bM out (Mod (ao L p) (out.length+1)).toNat i) (ae L p)
def fU(L:List Int)(n:Int)(p:Nat):List Int×Nat:=nI L n.toNat 0 [] p
theorem fX{α:Type}(l:List α)(k:Nat)(x:α)(h:k≤l.length):(bM l k x).length=l.length+1:=by
 unfold bM;simp;omega
theorem wE{α:Type}(l:List α)(k:Nat)(x:α):(bM l k x).Perm (x::l):=by
 unfold bM
 have:=(List.perm_middle (a:=x) (l₁:=l.take k) (l₂:=l.drop k))
 rw[List.take_append_drop]at this
 simpa[List.append_assoc]using this
theorem zX{L:List Int}:∀{n:Nat} {i:Int} {out:List Int} {p:Nat},out.Nodup→(∀x∈out,0≤x∧x<i)→0≤i →
  (nI L n i out p).1.Nodup∧∀x∈(nI L n i out p).1,0≤x∧x<i+n
 | 0,i,out,p,h1,h2,h0=>⟨h1,λx hx=>by have:=h2 x hx;omega⟩
 | n+1,i,out,p,h1,h2,h0=>by
  rw[nI]
  have hp:=wE out (Mod (ao L p) (out.length+1)).toNat i
  obtain⟨a,b⟩:=zX (L:=L) (n:=n) (i:=i+1) (out:=bM out (Mod (ao L p) (out.length+1)).toNat i) (p:=ae L p)
   (hp.nodup_iff.mpr (List.nodup_cons.mpr ⟨λhi=>by have:=h2 i hi;omega,h1⟩))
   (λx hx=>by
    rcases List.mem_cons.mp (hp.mem_iff.mp hx)with rfl|hx
    ·omega
    ·have:=h2 x hx;omega) (by omega)
  exact⟨a,λx hx=>by have:=b x hx;omega⟩
theorem vU{L:List Int}{n:Int}{p:Nat}(h:0≤n):(fU L n p).1.Nodup∧∀x∈(fU L n p).1,0≤x∧x<n:=by
 obtain⟨a,b⟩:=zX (L:=L) (n:=n.toNat) (i:=0) (out:=[]) (p:=p) List.nodup_nil (by simp) (by omega)
 exact⟨a,λx hx=>by have:=b x hx;omega⟩
theorem kE{α:Type}{l:List α}{k:Nat}{x:α}:(((l.take k).drop 0)++[x])++((l.take ((l.length:Int).toNat)).drop k)=bM l k x:=by rw[List.append_assoc,Cj]
def Eu(L:List Int)(p:Nat)(n:Int):=okL [.ref 0 0,.int n]∧(.box (.agg [.sl 1 (L.map AV.int) false,.int p]):Blk).ok
def Jp(L:List Int)(n:Int)(t0:Int×Nat×List Int):NF:=⟨[(0,.k,.ref 0 0),(1,.k,.int n),(5,.k,.vec 1),(6,.k,.int t0.1)],[.box (.agg [.sl 1 (L.map AV.int) false,.int t0.2.1]),.vec 1 (t0.2.2.map AV.int) (ab (λ_=>rfl) t0.2.2)]⟩
@[reducible] def Et:Nat→Type
 | 0=>Int×Nat×List Int
 | _=>Unit
def pC(r:Tap×List Int):AV:=.sl 1 (r.2.map AV.int) false
def pD(r:Tap×List Int):List (Option Blk):=[some (.box (.agg [.sl 1 (r.1.L.map AV.int) false,.int r.1.p]))]
def vW(L:List Int)(p:Nat)(n:Int)(I0:(Int×Nat×List Int)→Prop)(m0:(Int×Nat×List Int)→Nat):Ax Tryz.prog Et (Tap×List Int):=
 (.cmdL (.nilT 5 1) (.loop 0 (Jp L n) I0 m0 (0,p,[]) [0,49] λ(t0:Int×Nat×List Int) b0 =>
(.br 50 (decide (t0.1<n)) (.callH [0] (c7 L t0.2.1 (W (t0.1+1))) 98
(.wait (.say (Rf (t0.2.2.map AV.int)) (.cmd (.frzE 1 (t0.2.2.map AV.int) (ab (λ_=>rfl) t0.2.2)) (.say (λR=>Rf (α:=List AV) (t0.2.2.map AV.int) (ck (f9 t0.2.2.length 0 (Mod (ao L t0.2.1) (W (t0.1+1))) (t0.2.2.length:Int))
R)) (.sub 194 AV.int t0.2.2 false
(.say (λR=>Rf (α:=List AV) [] (Rf (α:=List AV) (((t0.2.2.take ((Mod (ao L t0.2.1) (W (t0.1+1))).toNat)).drop 0).map AV.int)
(ck (decide (0+((t0.2.2.take ((Mod (ao L t0.2.1) (W (t0.1+1))).toNat)).drop 0).length≤1048576))
R))) (.app 210 AV.int [] ((t0.2.2.take ((Mod (ao L t0.2.1) (W (t0.1+1))).toNat)).drop 0)
(.own 274 (.say (λR=>Rf (α:=List AV) (((t0.2.2.take ((Mod (ao L t0.2.1) (W (t0.1+1))).toNat)).drop 0).map AV.int) (Rf (α:=List AV) [.int t0.1]
(ck (decide (((t0.2.2.take ((Mod (ao L t0.2.1) (W (t0.1+1))).toNat)).drop 0).length+1≤1048576))
R))) (.app 290 AV.int ((t0.2.2.take ((Mod (ao L t0.2.1) (W (t0.1+1))).toNat)).drop 0) [t0.1]
(.say (λR=>Rf (α:=List AV) (t0.2.2.map AV.int) (ck (f9 t0.2.2.length (Mod (ao L t0.2.1) (W (t0.1+1))) (t0.2.2.length:Int) (t0.2.2.length:Int))
R)) (.sub 370 AV.int t0.2.2 false
(.say (λR=>Rf (α:=List AV) ((((t0.2.2.take ((Mod (ao L t0.2.1) (W (t0.1+1))).toNat)).drop 0)++[t0.1]).map AV.int) (Rf (α:=List AV) (((t0.2.2.take ((t0.2.2.length:Int).toNat)).drop ((Mod (ao L t0.2.1) (W (t0.1+1))).toNat)).map AV.int)
(ck (decide ((((t0.2.2.take ((Mod (ao L t0.2.1) (W (t0.1+1))).toNat)).drop 0)++[t0.1]).length+((t0.2.2.take ((t0.2.2.length:Int).toNat)).drop ((Mod (ao L t0.2.1) (W (t0.1+1))).toNat)).length≤1048576))
R))) (.app 386 AV.int (((t0.2.2.take ((Mod (ao L t0.2.1) (W (t0.1+1))).toNat)).drop 0)++[t0.1]) ((t0.2.2.take ((t0.2.2.length:Int).toNat)).drop ((Mod (ao L t0.2.1) (W (t0.1+1))).toNat))
(.bk 0 b0 (W (t0.1+1),ae L t0.2.1,(((t0.2.2.take ((Mod (ao L t0.2.1) (W (t0.1+1))).toNat)).drop 0)++[t0.1])++((t0.2.2.take ((t0.2.2.length:Int).toNat)).drop ((Mod (ao L t0.2.1) (W (t0.1+1))).toNat))) [0,386]))))))))))))))))
(.say (Rf (t0.2.2.map AV.int)) (.cmdL (.frzE 1 (t0.2.2.map AV.int) (ab (λ_=>rfl) t0.2.2)) (.retH ((⟨L,t0.2.1⟩:Tap),t0.2.2) ⟨[(4,.k,.sl 1 (t0.2.2.map AV.int) false)],[.box (.agg [.sl 1 (L.map AV.int) false,.int t0.2.1])]⟩ [0]))))))
def zW(L:List Int)(p:Nat)(n:Int)(I0:(Int×Nat×List Int)→Prop)(m0:(Int×Nat×List Int)→Nat)(r0:Tap×List Int):=(vW L p n I0 m0).vc pC pD r0
theorem Nx(L:List Int)(p:Nat)(n:Int)(h:n≤1000)(ok:Eu L p n):∃I m,zW L p n I m ((⟨L,(fU L n p).2⟩:Tap),(fU L n p).1):=by
 have hm:=λ(l:Nat) (q:Nat)=>eo (x:=ao L q) (show 1≤(l:Int)+1 by omega)
 refine⟨λt=>∃k:Nat,t.1=k∧k≤n.toNat∧t.2.2.length=k∧nI L (n.toNat-k) t.1 t.2.2 t.2.1=fU L n p,λt=>n.toNat-t.1.toNat,?_⟩
 dsimp only[zW,vW,Et,Ax.vp,Ax.vc];simp only[vcU,rfU,List.length_map]
 refine⟨⟨0,rfl,by omega,rfl,rfl⟩,?_⟩
 rintro⟨i,q,out⟩ ⟨k,hi,hk,hl,hr⟩
 simp only at hi hl hr ⊢
 subst hi;subst hl
 have w1:W ((out.length:Int)+1)=(out.length:Int)+1:=dY (by omega)
 have hq:=hm out.length q
 rw[w1,kE]
 refine⟨λc=>?_,λc=>?_⟩
 ·have c:out.length<n.toNat:=by omega
  refine⟨by simp[f9];omega,by simp;omega,by simp;omega,by simp[f9];omega,by simp;omega,⟨out.length+1,by omega,by omega,by rw[fX _ _ _ (by omega)],?_⟩,by omega⟩
  rw[show n.toNat-out.length=(n.toNat-(out.length+1))+1 by omega,nI]at hr
  exact hr
 ·have:out.length=n.toNat:=by omega
  rw[this,Nat.sub_self,nI]at hr
  rw[←hr]
def Ny(L:List Int)(p:Nat)(n:Int)(h:n≤1000):HC Tryz.prog:=⟨61,[.k,.k],[.ref 0 0,.int n],[.box (.agg [.sl 1 (L.map AV.int) false,.int p])],pC ((⟨L,(fU L n p).2⟩:Tap),(fU L n p).1),pD ((⟨L,(fU L n p).2⟩:Tap),(fU L n p).1),aH.of_okh λok ok2=>have ok:Eu L p n:=⟨ok,ok2 _ (by simp)⟩;(Nx L p n h ok).elim λI0 h=>h.elim λm0 h=>dh (sh:=(.s 1)) (enc:=pC) (hB:=pD) (a:=(vW L p n I0 m0).an) h (by kernel_rfl),ap (by kernel_rfl),fw.of (by simp[hcB,cV,AV.belB,allB,eN,dR,pC,pD,ab (v:=AV.int) (λ_=>rfl)])⟩
def kx(L:List Int)(p:Nat)(g:Tpl)(n:Int):Int×Nat:=
 if(0<n∧eC L p n=true)∨g.rs.length=0 then(aO [0,1,2,7,77,-1] (ao L (if 0<n then ae L p else p)),ae L (if 0<n then ae L p else p))
 else((g.rs.map Rtr.id).getD (Mod (ao L (if 0<n then ae L p else p)) g.rs.length).toNat 0,ae L (if 0<n then ae L p else p))
def D5(L:List Int)(p:Nat)(g:Tpl)(n:Int):=okL [.ref 0 0,.agg [.sl 2 (g.rs.map Rtr.v) false,.sl 5 (g.ls.map Lnk.v) false],.int n]∧(.box (.agg [.sl 1 (L.map AV.int) false,.int p]):Blk).ok
def Ip(L:List Int)(g:Tpl)(t0:Bool×Nat):NF:=⟨[(0,.k,.ref 0 0),(4,.k,.ref 1 0),(19,.k,.bool t0.1)],[.box (.agg [.sl 1 (L.map AV.int) false,.int t0.2]),.box (.agg [.sl 2 (g.rs.map Rtr.v) false,.sl 5 (g.ls.map Lnk.v) false])]⟩
@[reducible] def D4:Nat→Type
 | 0=>Bool×Nat
 | _=>Unit
def oQ(r:Tap×Int):AV:=.int r.2
def oR(r:Tap×Int):List (Option Blk):=[some (.box (.agg [.sl 1 (r.1.L.map AV.int) false,.int r.1.p]))]
def vm(L:List Int)(p:Nat)(g:Tpl)(n:Int)(I0:(Bool×Nat)→Prop):Ax Tryz.prog D4 (Tap×Int):=
 (.pass (.pass (.join 0 (Ip L g) (λ(t0:Bool×Nat)=>I0 t0) (λb0=>(.br 81 (decide (0<n)) (.callH [0] (jp L p n) 113
(.br 161 (eC L p n) (.bk 0 b0 (true,ae L p) [0,1])
(.bk 0 b0 (((g.rs.map Rtr.v).length:Int)==0,ae L p) [0,1])))
(.bk 0 b0 (((g.rs.map Rtr.v).length:Int)==0,p) [0,1]))) λ(t0:Bool×Nat) =>
(.br 2 t0.1 (.req 34 ([0,1,2,7,77,-1]≠[]) λh1 =>
(.callH [0] (gw L t0.2 [0,1,2,7,77,-1] h1) 34
(.retH ((⟨L,ae L t0.2⟩:Tap),aO [0,1,2,7,77,-1] (ao L t0.2)) ⟨[(6,.k,.int (aO [0,1,2,7,77,-1] (ao L t0.2)))],[.box (.agg [.sl 1 (L.map AV.int) false,.int (ae L t0.2)])]⟩ [0])))
(.callH [0] (c7 L t0.2 ((g.rs.map Rtr.v).length:Int)) 98
(.el 114 Rtr.v g.rs (λR=>Rf (g.rs.map Rtr.v) (ck (decide (0≤(Mod (ao L t0.2) ((g.rs.map Rtr.v).length:Int)))) (ck (decide ((Mod (ao L t0.2) ((g.rs.map Rtr.v).length:Int))<(g.rs.length:Int)))
(∀x2,g.rs[(Mod (ao L t0.2) ((g.rs.map Rtr.v).length:Int)).toNat]?=some x2 →
(R x2))))) λx2 =>
(.retH ((⟨L,ae L t0.2⟩:Tap),x2.id) ⟨[(6,.k,.int x2.id)],[.box (.agg [.sl 1 (L.map AV.int) false,.int (ae L t0.2)])]⟩ [0])))))))
def zx(L:List Int)(p:Nat)(g:Tpl)(n:Int)(I0:(Bool×Nat)→Prop)(r0:Tap×Int):=(vm L p g n I0).vc oQ oR r0
theorem MQ(L:List Int)(p:Nat)(g:Tpl)(n:Int)(ok:D5 L p g n):∃I0,zx L p g n I0 ((⟨L,(kx L p g n).2⟩:Tap),(kx L p g n).1):=by
  refine⟨λs=>s=(decide ((0<n∧eC L p n=true)∨g.rs.length=0),if 0<n then ae L p else p),?_⟩
  dsimp only[zx,vm,D4,Ax.vp,Ax.vc];simp only[vcU,rfU,List.length_map]
  refine⟨⟨λc=>⟨λd=>by simp[c,d],λd=>?_⟩,λc=>?_⟩,?_⟩
  · rw[if_pos c,d]
    refine Prod.ext ?_ rfl
    rw[Bool.eq_iff_iff];simp
  · rw[if_neg c]
    refine Prod.ext ?_ rfl
    rw[Bool.eq_iff_iff];simp[c]
  rintro _ rfl
  unfold kx
  simp only
  refine⟨λc=>⟨by simp,by rw[if_pos (of_decide_eq_true c)]⟩,λc=>?_⟩
  have c:=of_decide_eq_false c
  rw[if_neg c]
  have hl : 1 ≤ (g.rs.length : Int) := by have : ¬ g.rs.length = 0 := fun q => c (.inr q)
                                          omega
  have hm:=eo (x:=ao L (if 0<n then ae L p else p)) hl
  refine⟨hm.1,hm.2,λx hx=>?_⟩
  refine Prod.ext rfl ?_
  simp only
  rw[List.getD_eq_getElem?_getD,List.getElem?_map,hx];rfl
def MR(L:List Int)(p:Nat)(g:Tpl)(n:Int):HC Tryz.prog:=⟨22,[.k,(.a [(.s 2),(.s 5)]),.k],[.ref 0 0,.agg [.sl 2 (g.rs.map Rtr.v) false,.sl 5 (g.ls.map Lnk.v) false],.int n],[.box (.agg [.sl 1 (L.map AV.int) false,.int p])],oQ ((⟨L,(kx L p g n).2⟩:Tap),(kx L p g n).1),oR ((⟨L,(kx L p g n).2⟩:Tap),(kx L p g n).1),aH.of_okh λok ok2=>have ok:D5 L p g n:=⟨ok,ok2 _ (by simp)⟩;(MQ L p g n ok).elim λI0 h=>dh (sh:=.k) (enc:=oQ) (hB:=oR) (a:=(vm L p g n I0).an) h (by kernel_rfl),ap (by kernel_rfl),fw.of (by simp[hcB,cV,AV.belB,allB,eN,dR,oQ,oR,ab (v:=AV.int) (λ_=>rfl),ab (v:=Lnk.v) (λ_=>rfl),ab (v:=Rtr.v) (λ_=>rfl)])⟩
def Ee(out:List Lnk)(x:Lnk):Nat:=out.findIdx λy=>!decide (cX y x)
def aD:List Lnk→List Lnk→List Lnk
 | [],out=>out
 | x::l,out=>aD l (bM out (Ee out x) x)
def Nw(l:List Lnk):=okL [.sl 5 (l.map Lnk.v) false]
def Jo(l:List Lnk)(t0:Int×List Lnk):NF:=⟨[(0,.k,.sl 5 (l.map Lnk.v) false),(3,.k,.vec 0),(4,.k,.int t0.1)],[.vec 5 (t0.2.map Lnk.v) (ab (λ_=>rfl) t0.2)]⟩
def Jn(l:List Lnk)(t0:Int×List Lnk)(t1:Int):NF:=⟨[(0,.k,.sl 5 (l.map Lnk.v) false),(3,.k,.vec 0),(4,.k,.int t0.1),(5,.k,.int t1)],[.vec 5 (t0.2.map Lnk.v) (ab (λ_=>rfl) t0.2)]⟩
def Jm(l:List Lnk)(t0:Int×List Lnk)(t1:Int)(t2:Bool):NF:=⟨[(0,.k,.sl 5 (l.map Lnk.v) false),(3,.k,.vec 0),(4,.k,.int t0.1),(5,.k,.int t1),(55,.k,.bool t2)],[.vec 5 (t0.2.map Lnk.v) (ab (λ_=>rfl) t0.2)]⟩
@[reducible] def Es:Nat→Type
 | 0=>Int×List Lnk
 | 1=>Int
 | 2=>Bool
 | _=>Unit
def pA(r:List Lnk):AV:=.vec 0
def pB(r:List Lnk):List (Option Blk):=[some (.vec 5 (r.map Lnk.v))]
def vT(l:List Lnk)(I0:(Int×List Lnk)→Prop)(m0:(Int×List Lnk)→Nat)(I1:Int×List Lnk→Int→Prop)(m1:Int×List Lnk→Int→Nat)(I2:Int×List Lnk→Int→Bool→Prop):Ax Tryz.prog Es ((List Lnk)):=
 (.cmdL (.nilT 3 5) (.loop 0 (Jo l) I0 m0 (0,[]) [48] λ(t0:Int×List Lnk) b0 =>
(.br 65 (decide (t0.1<((l.map Lnk.v).length:Int))) (.loop 1 (Jn l t0) (I1 t0) (m1 t0) ((0):Int) [0] λ(t1:Int) b1 =>
(.pass (.join 2 (Jm l t0 t1) (λ(t2:Bool)=>I2 t0 t1 t2) (λb2=>(.br 81 (decide (t1<((t0.2.map Lnk.v).length:Int))) (.say (ck (cond (decide (0≤t1)) (decide (t1<((t0.2.map Lnk.v).length:Int))) false)) (.el 145 Lnk.v t0.2 (λR=>Rf (t0.2.map Lnk.v) (ck (decide (t1.toNat<t0.2.length))
(∀x1,t0.2[t1.toNat]?=some x1 →
(R x1)))) λx1 =>
(.el 193 Lnk.v l (λR=>Rf (l.map Lnk.v) (ck (decide (0≤t0.1)) (ck (decide (t0.1<(l.length:Int)))
(∀x2,l[t0.1.toNat]?=some x2 →
(R x2))))) λx2 =>
(.br 273 (decide (x1.a<x2.a)) (.bk 2 b2 ((true):Bool) [0])
(.say (ck (cond (decide (0≤t1)) (decide (t1<((t0.2.map Lnk.v).length:Int))) false)) (.el 337 Lnk.v t0.2 (λR=>Rf (t0.2.map Lnk.v) (ck (decide (t1.toNat<t0.2.length))
(∀x3,t0.2[t1.toNat]?=some x3 →
(R x3)))) λx3 =>
(.el 385 Lnk.v l (λR=>Rf (l.map Lnk.v) (ck (decide (0≤t0.1)) (ck (decide (t0.1<(l.length:Int)))
(∀x4,l[t0.1.toNat]?=some x4 →
(R x4))))) λx4 =>
(.br 465 (x3.a==x4.a) (.say (ck (cond (decide (0≤t1)) (decide (t1<((t0.2.map Lnk.v).length:Int))) false)) (.el 529 Lnk.v t0.2 (λR=>Rf (t0.2.map Lnk.v) (ck (decide (t1.toNat<t0.2.length))
(∀x5,t0.2[t1.toNat]?=some x5 →
(R x5)))) λx5 =>
(.el 577 Lnk.v l (λR=>Rf (l.map Lnk.v) (ck (decide (0≤t0.1)) (ck (decide (t0.1<(l.length:Int)))
(∀x6,l[t0.1.toNat]?=some x6 →
(R x6))))) λx6 =>
(.bk 2 b2 ((decide (x5.b<x6.b)):Bool) [0]))))
(.bk 2 b2 ((false):Bool) [0])))))))))
(.bk 2 b2 ((false):Bool) [0]))) λ(t2:Bool) =>
(.br 1 t2 (.bk 1 b1 ((W (t1+1)):Int) [0])
(.wait (.say (Rf (t0.2.map Lnk.v)) (.cmd (.frzE 0 (t0.2.map Lnk.v) (ab (λ_=>rfl) t0.2)) (.say (λR=>Rf (α:=List AV) (t0.2.map Lnk.v) (ck (f9 t0.2.length 0 t1 (t0.2.length:Int))
R)) (.sub 65 Lnk.v t0.2 false
(.say (λR=>Rf (α:=List AV) [] (Rf (α:=List AV) (((t0.2.take t1.toNat).drop 0).map Lnk.v)
(ck (decide (0+((t0.2.take t1.toNat).drop 0).length≤1048576))
R))) (.app 81 Lnk.v [] ((t0.2.take t1.toNat).drop 0)
(.el 161 Lnk.v l (λR=>Rf (l.map Lnk.v) (ck (decide (0≤t0.1)) (ck (decide (t0.1<(l.length:Int)))
(∀x7,l[t0.1.toNat]?=some x7 →
(R x7))))) λx7 =>
(.own 193 (.say (λR=>Rf (α:=List AV) (((t0.2.take t1.toNat).drop 0).map Lnk.v) (Rf (α:=List AV) [.agg [.int x7.a,.int x7.b,.int x7.ca,.int x7.cb,.int x7.w]]
(ck (decide (((t0.2.take t1.toNat).drop 0).length+1≤1048576))
R))) (.app 209 Lnk.v ((t0.2.take t1.toNat).drop 0) [x7]
(.say (λR=>Rf (α:=List AV) (t0.2.map Lnk.v) (ck (f9 t0.2.length t1 (t0.2.length:Int) (t0.2.length:Int))
R)) (.sub 289 Lnk.v t0.2 false
(.say (λR=>Rf (α:=List AV) ((((t0.2.take t1.toNat).drop 0)++[x7]).map Lnk.v) (Rf (α:=List AV) (((t0.2.take ((t0.2.length:Int).toNat)).drop t1.toNat).map Lnk.v)
(ck (decide ((((t0.2.take t1.toNat).drop 0)++[x7]).length+((t0.2.take ((t0.2.length:Int).toNat)).drop t1.toNat).length≤1048576))
R))) (.app 305 Lnk.v (((t0.2.take t1.toNat).drop 0)++[x7]) ((t0.2.take ((t0.2.length:Int).toNat)).drop t1.toNat)
(.bk 0 b0 (W (t0.1+1),(((t0.2.take t1.toNat).drop 0)++[x7])++((t0.2.take ((t0.2.length:Int).toNat)).drop t1.toNat)) [305]))))))))))))))))))))
(.retH t0.2 ⟨[(2,.k,.vec 0)],[.vec 5 (t0.2.map Lnk.v) (ab (λ_=>rfl) t0.2)]⟩ [0]))))
def zV(l:List Lnk)(I0:(Int×List Lnk)→Prop)(m0:(Int×List Lnk)→Nat)(I1:Int×List Lnk→Int→Prop)(m1:Int×List Lnk→Int→Nat)(I2:Int×List Lnk→Int→Bool→Prop)(r0:List Lnk):=(vT l I0 m0 I1 m1 I2).vc pA pB r0
theorem IW{out:List Lnk}{x:Lnk}{j:Nat}(hj:j≤out.length)(h1:∀y∈out.take j,cX y x)(h2:∀y,out[j]?=some y→¬cX y x):Ee out x=j:=by
 unfold Ee
 by_cases e:j=out.length
 ·subst e
  rw[List.take_length]at h1
  rw[List.findIdx_eq_length]
  intro y hy
  simp[h1 y hy]
 ·rw[List.findIdx_eq (by omega)]
  refine⟨?_,λi hi=>?_⟩
  ·have:=h2 _ (List.getElem?_eq_getElem (by omega))
   simp[this]
  ·have:=h1 (out[i]'(by omega)) (List.mem_take_iff_getElem.mpr ⟨i,by omega,rfl⟩)
   simp[this]
theorem Nu(l:List Lnk)(h:l.length≤1000)(ok:Nw l):∃I0 m0 I1 m1 I2,zV l I0 m0 I1 m1 I2 (aD l []):=by
 refine⟨λs=>∃k:Nat,s.1=k∧k≤l.length∧s.2.length=k∧aD (l.drop k) s.2=aD l [],λs=>l.length-s.1.toNat,
  λs t=>aL s.2 (λy=>∀x,l[s.1.toNat]?=some x→cX y x) t,λs t=>s.2.length-t.toNat,λs t b=>b=true↔t<s.2.length∧∀x y,l[s.1.toNat]?=some x→s.2[t.toNat]?=some y→cX y x,?_⟩
 dsimp only[zV,vT,Es,Ax.vp,Ax.vc];simp only[vcU,rfU,List.length_map]
 refine⟨⟨0,rfl,by omega,rfl,by simp⟩,?_⟩
 rintro⟨i,out⟩ ⟨k,hi,hk,hl,hr⟩
 simp only at hi hl hr ⊢
 subst hi;subst hl
 simp only[Int.toNat_natCast]
 refine⟨λc=>?_,λc=>?_⟩
 ·have hx:=List.getElem?_eq_getElem (show out.length<l.length by omega)
  generalize l[out.length]=x at hx
  refine⟨aL.zero,λt hI=>?_⟩
  obtain⟨j,rfl,hj,ha⟩:=hI
  have ha':∀y∈out.take j,cX y x:=λy hy=>ha y hy x hx
  have hI:aL out (λy=>∀x,l[out.length]?=some x→cX y x) ((j:Nat):Int):=⟨j,rfl,hj,ha⟩
  simp only[Int.toNat_natCast]
  refine⟨⟨λd=>?_,λd=>⟨nofun,λq=>absurd q.1 d⟩⟩,λb hb=>?_⟩
  ·have hy:=List.getElem?_eq_getElem (show j<out.length by omega)
   generalize out[j]=y at hy
   have rg:(bif decide (0≤((j:Nat):Int))then decide (((j:Nat):Int)<out.length)else false)=true:=dg (by omega) d
   refine⟨rg,by omega,λx1 h1=>⟨by omega,c,λx2 h2=>?_⟩⟩
   rw[hy]at h1;cases h1;rw[hx]at h2;cases h2
   refine⟨λe=>⟨λ_=>⟨d,λx' y' hx' hy'=>?_⟩,λ_=>trivial⟩,λe=>⟨rg,by omega,λx3 h3=>⟨by omega,c,λx4 h4=>?_⟩⟩⟩
   ·rw[hx]at hx';cases hx';rw[hy]at hy';cases hy';exact .inl e
   rw[hy]at h3;cases h3;rw[hx]at h4;cases h4
   refine⟨λe2=>⟨rg,by omega,λx5 h5=>⟨by omega,c,λx6 h6=>?_⟩⟩,λe2=>⟨nofun,λq=>?_⟩⟩
   ·rw[hy]at h5;cases h5;rw[hx]at h6;cases h6
    have e2:=eq_of_beq e2
    refine⟨λe3=>⟨d,λx' y' hx' hy'=>?_⟩,λq=>?_⟩
    ·rw[hx]at hx';cases hx';rw[hy]at hy';cases hy';exact .inr ⟨e2,e3⟩
    ·have:=q.2 x y hx hy;unfold cX at this;omega
   ·have:=q.2 x y hx hy
    have e2:¬y.a=x.a:=by simpa using e2
    unfold cX at this;omega
  ·refine⟨λe=>?_,λe=>?_⟩
   ·obtain⟨d,hd⟩:=hb.mp e
    have hy:=List.getElem?_eq_getElem (show j<out.length by omega)
    exact hI.step (by omega) (by rw[Int.toNat_natCast];exact hy) λx' hx'=>hd x' _ hx' hy
   ·have hp:Ee out x=j:=IW hj ha' λy hy q=>by
     have:=hb.mpr ⟨by have:=aq hy;omega,λx' y' hx' hy'=>by rw[hx]at hx';cases hx';rw[hy]at hy';cases hy';exact q⟩
     rw[e]at this;cases this
    refine⟨by simp[f9];omega,by simp;omega,by omega,c,λx7 h7=>?_⟩
    rw[hx]at h7;cases h7
    have hi:(((out.take j).drop 0)++[x])++((out.take out.length).drop j)=bM out j x:=by have:=kE (l:=out) (k:=j) (x:=x);rwa [Int.toNat_natCast]at this
    rw[hi,bx (n:=l.length) (by omega) (by omega)]
    refine⟨by simp;omega,by simp[f9];omega,by simp;omega,⟨out.length+1,rfl,by omega,fX _ _ _ hj,?_⟩,by omega⟩
    rw[List.drop_eq_getElem_cons (by omega),aD]at hr
    have:l[out.length]'(by omega)=x:=by rw[List.getElem?_eq_getElem (by omega)]at hx;exact Option.some.inj hx
    rw[this,hp]at hr
    exact hr
 ·have:out.length=l.length:=by omega
  rw[this,List.drop_length,aD]at hr
  exact hr
def Nv(l:List Lnk)(h:l.length≤1000):HC Tryz.prog:=⟨49,[(.s 5)],[.sl 5 (l.map Lnk.v) false],[],pA (aD l []),pB (aD l []),aH.of_okh λok _=>(Nu l h ok).elim λI0 h=>h.elim λm0 h=>h.elim λI1 h=>h.elim λm1 h=>h.elim λI2 h=>dh (sh:=.k) (enc:=pA) (hB:=pB) (a:=(vT l I0 m0 I1 m1 I2).an) h (by kernel_rfl),ap (by kernel_rfl),fw.of (by simp[hcB,cV,AV.belB,allB,eN,dR,pA,pB,ab (v:=Lnk.v) (λ_=>rfl)])⟩
end Go.Proofs.YtdbdndmdbbihbaaGreat
