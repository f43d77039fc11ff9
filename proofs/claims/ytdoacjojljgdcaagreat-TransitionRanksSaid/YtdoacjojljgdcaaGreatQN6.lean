/- Texts joined: SO FM2 RD4 RD5 RD6 RD7 TC5 TC6 SR1 DT1 P1 DT2 DT3 DT4 PL KM1 KM2 KM3. -/
import Derived.Test.YtdoacjojljgdcaaGreatSh
import Derived.Test.YtdoacjojljgdcaaGreatChecked
import Derived.Test.YtdoacjojljgdcaaGreatQN5
set_option linter.unusedVariables false
set_option linter.unusedSimpArgs false
set_option linter.unusedSectionVars false
namespace Go.Proofs.YtdoacjojljgdcaaGreat
open Go Go.Am
open Go.Shelf Go.RowKit Go.Lib Go.Sort in
theorem cmpS_calls(a b:Int)(x1 y1:Value)(w:World)(hx:x1.oneCell'=true)(hy:y1.oneCell'=true) :
  Calls Tryz.prog 175 #[.agg #[.int .i64 a,x1],.agg #[.int .i64 b,y1]] w λe w'=>e=.returned (.int .i64 (Lib.compareInt a b))∧∃q os',w'=grow (w.drewN q) os':=by
 have hcon:=λW'=>AnyG.cmp_Compare_int Tryz.cmpI a b W'
 change ∀W',Calls Tryz.prog 151 _ _ _ at hcon
 generalize Lib.compareInt a b=r at hcon ⊢
 go_enter Tryz.func175,Tryz.ntmps175
 go_wp2_with (go_at_call 151;refine(hcon _).mono ?_;rintro e w' ⟨rfl,rfl⟩)
 go_ret
 exact⟨rfl,0,_,by rw[alloc_eq_grow,alloc_eq_grow,grow_grow];rfl⟩
def okStp(l:List Stp):Prop:=l.length≤1000000∧l.Pairwise λa b=>a.to≠b.to
def srtS(l:List Stp):List Stp:=l.mergeSort λa b=>decide (a.to≤b.to)
theorem srtS_perm(l:List Stp):(srtS l).Perm l:=List.mergeSort_perm _ _
theorem srtS_asc{l:List Stp}(h:okStp l):(srtS l).Pairwise λa b=>a.to<b.to:=by
 have h1:(srtS l).Pairwise λa b=>decide (a.to≤b.to)=true:=List.pairwise_mergeSort (λa b c h1 h2=>by simp at *;omega) (λa b=>by simp;omega) l
 have h2:(srtS l).Pairwise λa b=>a.to≠b.to:=(List.Perm.pairwise_iff (λh=>Ne.symm h) (srtS_perm l)).mpr h.2
 exact(h1.and h2).imp λ⟨h1,h2⟩=>by simp at h1;omega
open Go.Shelf Go.RowKit Go.Lib Go.Sort in
theorem sortS_spec(l:List Stp)(h:okStp l):HSpec Tryz.prog 174 [.vec 0,.func 175 []] [.vec 2 (l.map Stp.v)] (.tup []) [some (.vec 2 ((srtS l).map Stp.v))]:=by
 refine sort_hspec Tryz.sortW Stp.v Stp.to 2 (by omega) (λ_=>by kernel_rfl) (λ_=>by kernel_rfl) (λx=>⟨_,rfl⟩) 175 (enters_of Tryz.func175 (by kernel_rfl) rfl) ?_ l (srtS l) (srtS_perm l) (srtS_asc h) h.1
 intro a b xs ys w hx hy ox oy
 match xs,hx with
 | [x1],_ =>
 match ys,hy with
 | [y1],_=>exact cmpS_calls a b x1 y1 w (ox x1 (by simp)) (oy y1 (by simp))
theorem Weak.give3{k n:Nat}{s s':S3}(b:Nat)(hnx:s'.nx=s.nx)(h1:s'.tm=s.tm)
  (h2:∀b' x,s'.hp b'=some x→b'≠b∧(s.hp b'=some x∨∃kk ks es es',s.hp b'=some (.map kk ks es)∧x=.map kk ks es'∧GiveL b s.hp es es'∧((∀z∈es,z.solid=true)→∀z∈es',z.solid=true))) (hb:s.hp b≠none):Weak k n s s':=by
 rintro P c a w ⟨h0,A,μ,H⟩
 have hle:∀k,A k→A k∨∃hd,μ b=some hd∧hd.emp=none∧hd.blk=k:=λ_ h=>.inl h
 have hlive:∃x hd,s.hp b=some x∧μ b=some hd∧(hd.emp=none→¬A hd.blk∧hd.blk<w.heap.size∧(c.own hd.blk∨c.w.heap.size≤hd.blk)):=by
  cases hx:s.hp b with
  | none=>exact absurd hx hb
  | some x=>obtain⟨hd,e1,_,e3⟩:=H.blk b x hx;exact⟨x,hd,rfl,e1,e3⟩
 obtain⟨xb,hdb,hxb,hmb,hpb⟩:=hlive
 have hsub:∀b' x,s'.hp b'=some x→b'≠b∧∃y,s.hp b'=some y:=by
  intro b' x hx
  obtain⟨e1,e2|⟨kk,ks,es,es',e2,_⟩⟩:=h2 b' x hx
  ·exact⟨e1,_,e2⟩
  ·exact⟨e1,_,e2⟩
 refine⟨h0,λk=>A k∨∃hd,μ b=some hd∧hd.emp=none∧hd.blk=k,μ,λt=>?_,H.n,H.df,λb' x hx=>?_,λb1 b2 x x' hd hd' hx hx'=>?_,?_,λb' hb'=>?_,H.keep,λb' hb'=>.inl (H.A0 b' hb'),?_,H.mu⟩
 ·rw[h1];exact(H.tm t).mono (Same.refl A w) hle _ (MuLe.refl _)
 ·obtain⟨hne,y,hy⟩:=hsub b' x hx
  obtain⟨hd,g1,g2,g3⟩:=H.blk b' y hy
  refine⟨hd,g1,?_,λhe=>⟨?_,(g3 he).2⟩⟩
  ·rcases(h2 b' x hx).2 with e|⟨kk,ks,es,es',e1,e2,e4,e5⟩
   ·rw[hy]at e;cases e
    exact g2.mono (Same.refl A w) hle (MuLe.refl _) (λ_=>rfl)
   ·rw[hy]at e1;cases e1
    subst e2
    obtain⟨q1,ents,ck,r1,r2,r3,r4⟩:=g2
    exact⟨q1,ents,ck,r1,r2,e4.rvl H r3,e5 r4⟩
  ·rintro(h|⟨hd2,k1,k2,k3⟩)
   ·exact(g3 he).1 h
   ·exact hne (H.inj _ _ _ _ _ _ hy hxb g1 k1 he k2 k3.symm)
 ·obtain⟨_,y,hy⟩:=hsub b1 x hx
  obtain⟨_,y',hy'⟩:=hsub b2 x' hx'
  exact H.inj _ _ _ _ _ _ hy hy'
 ·refine H.lt.mono (Same.refl A w) hle ?_
  rintro k (h|⟨hd,k1,k2,rfl⟩)
  ·exact H.lt k h
  ·rw[hmb]at k1;cases k1;exact(hpb k2).2.1
 ·rw[hnx]at hb'
  obtain⟨q1,q2⟩:=H.fr b' hb'
  refine⟨q1,?_⟩
  cases hx:s'.hp b' with
  | none=>rfl
  | some x=>obtain⟨_,y,hy⟩:=hsub b' x hx;rw[q2]at hy;cases hy
 ·rintro k (h|⟨hd,k1,k2,rfl⟩)
  ·exact H.A1 k h
  ·rw[hmb]at k1;cases k1;exact .inr (hpb k2).2.2
theorem Weak.giveM{k n:Nat}{tm:Nat→AV}{hp:Hp}{nx kk:Nat}{kq:Option Nat}{ks:List MK}{vs es:List AV}(b0 i b:Nat)(h0:hp b0=some (.map kq ks vs))(hi:vs[i]?=some (.vec b))(hb:hp b=some (.vec kk es))(hx:pureL es) :
  Weak k n ⟨tm,hp,nx⟩ ⟨tm,upd (upd hp b none) b0 (some (.map kq ks (vs.set i (.sl kk es false)))),nx⟩:=by
 have hne:b0≠b:=λe=>by subst e;rw[h0]at hb;cases hb
 refine Weak.give3 b rfl rfl (λb' x hx'=>?_) (by show hp b≠none;rw[hb];simp)
 have hx':upd (upd hp b none) b0 (some (.map kq ks (vs.set i (.sl kk es false)))) b'=some x:=hx'
 by_cases e:b'=b0
 ·subst e;rw[upd_same]at hx';cases hx'
  exact⟨hne,.inr ⟨kq,ks,vs,_,h0,rfl,GiveL.set hi (Give.vec hb hx),λh z hz=>by
   rcases List.mem_or_eq_of_mem_set hz with hz|rfl
   ·exact h z hz
   ·rfl⟩⟩
 ·rw[upd_ne _ _ e]at hx'
  by_cases e2:b'=b
  ·subst e2;rw[upd_same]at hx';cases hx'
  ·rw[upd_ne _ _ e2]at hx';exact⟨e2,.inl hx'⟩
theorem Weak.giveRows{k n:Nat}{tm:Nat→AV}{nx kk:Nat}{kq:Option Nat}{ks:List MK}{vs:List AV}{hp:Hp}(b0:Nat)(f:Nat→Nat)(es:Nat→List AV)(he:∀i,pureL (es i))(hf:∀i j,f i=f j→i=j)(hf0:∀i,f i≠b0)(h0:hp b0=some (.map kq ks vs)):∀m:Nat,
  (∀i,i<m→vs[i]?=some (.vec (f i))∧hp (f i)=some (.vec kk (es i))) →
  ∃hp' vs',Weak k n ⟨tm,hp,nx⟩ ⟨tm,hp',nx⟩∧hp' b0=some (.map kq ks vs')∧vs'.length=vs.length∧(∀i,i<m→vs'[i]?=some (.sl kk (es i) false))∧(∀i,m≤i→vs'[i]?=vs[i]?)∧∀b,b≠b0→(∀i,i<m→b≠f i)→hp' b=hp b
 | 0,_=>⟨hp,vs,Weak.refl,h0,rfl,λi h=>absurd h (by omega),λ_ _=>rfl,λ_ _ _=>rfl⟩
 | m+1,h=>by
  obtain⟨hp1,vs1,w,a1,a2,a3,a4,a5⟩:=Weak.giveRows b0 f es he hf hf0 h0 m λi hi=>h i (by omega)
  obtain⟨g1,g2⟩:=h m (by omega)
  have hl:m<vs1.length:=by rw[a2];exact(List.getElem?_eq_some_iff.mp g1).1
  refine⟨_,_,w.trans (Weak.giveM b0 m (f m) a1 (by rw[a4 m (Nat.le_refl _)];exact g1) (by rw[a5 (f m) (hf0 m) λi hi e=>by have:=hf _ _ e;omega];exact g2) (he m)),upd_same _ _ _,by rw[List.length_set,a2],λi hi=>?_,λi hi=>?_,λb hb hb'=>?_⟩
  ·rw[List.getElem?_set]
   by_cases e:m=i
   ·subst e;rw[if_pos rfl,if_pos hl]
   ·rw[if_neg e];exact a3 i (by omega)
  ·rw[List.getElem?_set,if_neg (by omega)];exact a4 i (by omega)
  ·rw[upd_ne _ _ hb,upd_ne _ _ (hb' m (by omega))]
   exact a5 b hb λi hi=>hb' i (by omega)
theorem Weak.giveBM{k n:Nat}{tm:Nat→AV}{hp:Hp}{nx:Nat}{kq:Option Nat}{ks:List MK}{vs cs:List AV}(b0 i b:Nat)(h0:hp b0=some (.box (.agg cs)))(hi:cs[i]?=some (.mref b))(hb:hp b=some (.map kq ks vs))(hx:pureL vs)(hs':(AV.agg (cs.set i (.mp kq ks vs))).solid=true) :
  Weak k n ⟨tm,hp,nx⟩ ⟨tm,upd (upd hp b none) b0 (some (.box (.agg (cs.set i (.mp kq ks vs))))),nx⟩:=by
 have hne:b0≠b:=λe=>by subst e;rw[h0]at hb;cases hb
 refine Weak.give b rfl (λu=>.inr Give.refl) (λb' x hx'=>?_) (by show hp b≠none;rw[hb];simp)
 have hx':upd (upd hp b none) b0 (some (.box (.agg (cs.set i (.mp kq ks vs))))) b'=some x:=hx'
 by_cases e:b'=b0
 ·subst e;rw[upd_same]at hx';cases hx'
  exact⟨hne,.inr ⟨_,_,h0,rfl,hs',Give.agg (GiveL.set hi (Give.map hb hx))⟩⟩
 ·rw[upd_ne _ _ e]at hx'
  by_cases e2:b'=b
  ·subst e2;rw[upd_same]at hx';cases hx'
  ·rw[upd_ne _ _ e2]at hx';exact⟨e2,.inl hx'⟩
theorem CallOk.ownV{P:Program}{fid:FuncId}{n:Nat}{hp:Hp}{es es' args:List AV}{kk b f:Nat}{r:AV}(hs:HSpec P fid (.vec 0::args) [.vec kk es] r [some (.vec kk es')])(hf:FnOk P fid)
  (h0:pureL args) (h1:pureL es) (h2:pureL es') (h3:r.pure) (hb:hp b=some (.vec kk es)):CallOk P n fid (.vec b::args) f hp [b] r (effL [(b,some (.vec kk es'))]):=by
 have key:=CallOk.hand (n:=n) (f:=f) (hp:=hp) hf hs [b] rfl (by simp) ⟨show(0:Nat)<1 by omega,belL_pure h0⟩ (λi b' x e1 e2=>by
  match i with
  | 0=>simp at e1 e2;subst e1;subst e2;exact⟨belL_pure h1,by rw[hb];simp only[Blk.ren,renL_pure _ h1]⟩
  | i+1=>simp at e1) (by simp) (by simp) (AV.bel_pure h3) (λy hy=>by simp at hy;subst hy;exact belL_pure h2)
 have e0:piOf [b] f 0=b:=by simp[piOf]
 have e3:handEff [b] f [some (Blk.vec kk es')]=effL [(b,some (.vec kk es'))]:=by simp[handEff,List.zipIdx,e0,Blk.ren,renL_pure _ h2]
 rw[e3]at key
 simpa only[renL,renL_pure _ h0,AV.ren,AV.ren_pure _ h3,e0]using key
theorem evT_ownV{P:Program}{n:Nat}{tm:Nat→AV}{hp:Hp}{fid:FuncId}{d:Option Nat}{g:AO}{xs:List AO}{os:List AOper}{f:Nat}{K:S2→Nat→Prop}{es es' args:List AV}{r:AV}{kk b:Nat}
  (hs:HSpec P fid (.vec 0::args) [.vec kk es] r [some (.vec kk es')]) (hf:FnOk P fid) (h0:pureL args) (h1:pureL es) (h2:pureL es') (h3:r.pure) (hg:evO tm g=.func fid [])
  (hx:xs.map (evO tm)=.vec b::args) (hb:hp b=some (.vec kk es)) (hK:evT P n os (f+16) ⟨putD d r tm,upd hp b (some (.vec kk es'))⟩ K):evT P n (⟨d,.call g xs,none⟩::os) f ⟨tm,hp⟩ K:=
 evT_call hg (by simpa using hx) (CallOk.ownV hs hf h0 h1 h2 h3 hb) (by rw[hpEff_one];exact hK)
def outS(ls:List Lnk)(x:Int):List Stp:=ls.flatMap λl=>if l.a=x then [⟨l.b,l.ca⟩]else if l.b=x then [⟨l.a,l.cb⟩]else []
def inS(ls:List Lnk)(x:Int):List Stp:=ls.flatMap λl=>if l.b=x then [⟨l.a,l.ca⟩]else if l.a=x then [⟨l.b,l.cb⟩]else []
theorem apR_get{M:List (List Stp)}{x j:Nat}{s:Stp}{r:List Stp}(h:M[j]?=some r):(apR M x s)[j]?=some (if x=j then r++[s]else r):=by
 unfold apR
 rw[List.getElem?_set]
 by_cases e:x=j
 ·subst e
  rw[if_pos rfl,if_pos (lt_of_get h),if_pos rfl,List.getD_eq_getElem?_getD,h];rfl
 ·rw[if_neg e,if_neg e,h]
theorem ix5_iff{t:Tpl}(hnd:(t.rs.map (·.id)).Nodup){i:Nat}{r:Rtr}(h:t.rs[i]?=some r){a:Int}(ha:has5 t a=true):ix5 t a=i↔a=r.id:=by
 have h1:(t.rs.map (·.id))[i]?=some r.id:=by rw[List.getElem?_map,h];rfl
 have h2:=ix5_get ha
 constructor
 ·intro e;rw[e,h1]at h2;exact(Option.some.inj h2).symm
 ·intro e;subst e;exact(nodup_get hnd h1 h2).symm
theorem lkM5_get{t:Tpl}(hnd:(t.rs.map (·.id)).Nodup):∀(m:Nat) (ls:List Lnk),ls.length=m→(∀l∈ls,(has5 t l.a=true∧has5 t l.b=true)∧l.a<l.b)→∀i r,t.rs[i]?=some r →
  (lkM5 t ls)[2 * i]?=some (outS ls r.id)∧(lkM5 t ls)[2 * i+1]?=some (inS ls r.id)
 | 0,ls,hm,hl,i,r,h=>by
  obtain rfl:=List.length_eq_zero_iff.mp hm
  have:=lt_of_get h
  unfold lkM5
  rw[List.foldl_nil,List.getElem?_replicate,List.getElem?_replicate,if_pos (by omega),if_pos (by omega)]
  exact⟨rfl,rfl⟩
 | m+1,ls,hm,hl,i,r,h=>by
  obtain⟨ls',l,rfl⟩:∃ls' l,ls=ls'++[l]:=⟨ls.dropLast,ls.getLast (by intro e;subst e;cases hm),(List.dropLast_concat_getLast _).symm⟩
  have hm':ls'.length=m:=by simpa using hm
  obtain⟨g1,g2⟩:=lkM5_get hnd m ls' hm' (λx hx=>hl x (by simp[hx])) i r h
  obtain⟨⟨ha,hb⟩,hab⟩:=hl l (by simp)
  have e:lkM5 t (ls'++[l])=lkA5 t (lkM5 t ls') l:=by unfold lkM5;rw[List.foldl_append];rfl
  have ea:=ix5_iff hnd h ha
  have eb:=ix5_iff hnd h hb
  rw[e]
  unfold lkA5
  rw[apR_get (apR_get (apR_get (apR_get g1))),apR_get (apR_get (apR_get (apR_get g2)))]
  have o1:outS (ls'++[l]) r.id=outS ls' r.id++(if l.a=r.id then [⟨l.b,l.ca⟩]else if l.b=r.id then [⟨l.a,l.cb⟩]else []):=by unfold outS;rw[List.flatMap_append];simp
  have o2:inS (ls'++[l]) r.id=inS ls' r.id++(if l.b=r.id then [⟨l.a,l.ca⟩]else if l.a=r.id then [⟨l.b,l.cb⟩]else []):=by unfold inS;rw[List.flatMap_append];simp
  rw[o1,o2]
  have f1:∀q:Nat,¬(2 * q+1=2 * i):=λq=>by omega
  have f2:∀q:Nat,¬(2 * q=2 * i+1):=λq=>by omega
  have f3:∀q:Nat,(2 * q=2 * i)=(q=i):=λq=>propext ⟨λ_=>by omega,λ_=>by omega⟩
  have f4:∀q:Nat,(2 * q+1=2 * i+1)=(q=i):=λq=>propext ⟨λ_=>by omega,λ_=>by omega⟩
  simp only[f1,f2,f3,f4,ea,eb,if_false]
  by_cases h1:l.a=r.id
  ·have h2:¬l.b=r.id:=by omega
   simp[h1,h2]
  ·by_cases h2:l.b=r.id
   ·simp[h1,h2]
   ·simp[h1,h2]
theorem outS_ok{t:Tpl}(hc:chk5 t=0)(x:Int):okStp (outS t.ls x):=by
 have hO:=chk5_good hc
 constructor
 ·have:∀ls:List Lnk,(outS ls x).length≤ls.length:=λls=>by
   induction ls with
   | nil=>exact Nat.le_refl _
   | cons l ls ih =>
    have e:outS (l::ls) x=(if l.a=x then [⟨l.b,l.ca⟩]else if l.b=x then [⟨l.a,l.cb⟩]else [])++outS ls x:=rfl
    rw[e,List.length_append]
    have:(if l.a=x then [(⟨l.b,l.ca⟩:Stp)]else if l.b=x then [⟨l.a,l.cb⟩]else []).length≤1:=by split<;>(try split)<;>simp
    simp only[List.length_cons];omega
  have:=this t.ls;have:=hO.nl;omega
 ·unfold outS
  rw[List.pairwise_flatMap]
  refine⟨λl hl=>by split<;>(try split)<;>simp,?_⟩
  have hlt:=hO.lt
  refine List.Pairwise.imp_of_mem (λ{l1 l2} m1 m2 h s1 h1 s2 h2=>?_) hO.ord
  have a1:=hlt l1 m1
  have a2:=hlt l2 m2
  unfold lnkL at h
  (repeat' split at h1)<;>(repeat' split at h2)<;>simp at h1 h2<;>subst h1<;>subst h2<;>simp only[ne_eq]<;>omega
def srtM(st seen:List Nat)(M:List (List Stp)):List (List Stp):=M.mapIdx λj r=>if j % 2=0∧st.getD (j / 2) 0∈seen then srtS r else r
theorem srtM_len(st seen:List Nat)(M:List (List Stp)):(srtM st seen M).length=M.length:=by simp[srtM]
theorem srtM_nil(st:List Nat)(M:List (List Stp)):srtM st [] M=M:=by
 refine List.ext_getElem? λi=>?_
 simp only[srtM,List.getElem?_mapIdx]
 simp
theorem srtM_get{st seen:List Nat}{M:List (List Stp)}{i s0:Nat}{r:List Stp}(h:M[2 * i]?=some r)(hs:st[i]?=some s0)(h0:s0 ∉ seen):(srtM st seen M)[2 * i]?=some r:=by
 have e:st.getD i 0=s0:=by rw[List.getD_eq_getElem?_getD,hs];rfl
 simp only[srtM,List.getElem?_mapIdx,h,Option.map_some,show 2 * i / 2=i by omega,e]
 rw[if_neg (λh=>h0 h.2)]
theorem srtM_snoc{st seen:List Nat}{M:List (List Stp)}{i s0:Nat}{r:List Stp}(h:M[2 * i]?=some r)(hs:st[i]?=some s0)(hn:st.Nodup)(hM:M.length=2 * st.length):srtM st (seen++[s0]) M=(srtM st seen M).set (2 * i) (srtS r):=by
 have hil:=lt_of_get hs
 refine List.ext_getElem? λj=>?_
 rw[List.getElem?_set]
 by_cases e:2 * i=j
 ·subst e
  have e:st.getD i 0=s0:=by rw[List.getD_eq_getElem?_getD,hs];rfl
  rw[if_pos rfl,if_pos (by rw[srtM_len];omega)]
  simp only[srtM,List.getElem?_mapIdx,h,Option.map_some,show 2 * i / 2=i by omega,e]
  rw[if_pos ⟨by omega,by simp⟩]
 ·rw[if_neg e]
  simp only[srtM,List.getElem?_mapIdx]
  cases hj:M[j]? with
  | none=>rfl
  | some q =>
   have hjl:=lt_of_get hj
   simp only[Option.map_some]
   congr 1
   by_cases h2:j % 2=0
   ·have hk:j / 2<st.length:=by omega
    have hne:st.getD (j / 2) 0≠s0:=λe'=>by
     rw[List.getD_eq_getElem?_getD,List.getElem?_eq_getElem hk]at e'
     have e':st[j / 2]?=some s0:=by rw[List.getElem?_eq_getElem hk];exact congrArg some e'
     have:=nodup_get hn e' hs
     omega
    have e3:(st.getD (j / 2) 0∈seen++[s0])=(st.getD (j / 2) 0∈seen):=propext ⟨λh=>(List.mem_append.mp h).elim id λh=>absurd (List.mem_singleton.mp h) hne,λh=>List.mem_append_left _ h⟩
    simp only[e3]
   ·simp[h2]
def outG(t:Tpl):Lks:=t.rs.map λr=>(r.id,srtS (outS t.ls r.id))
def inG(t:Tpl):Lks:=t.rs.map λr=>(r.id,inS t.ls r.id)
theorem srtM_all{t:Tpl}(hc:chk5 t=0){st seen:List Nat}(h:∀s∈st,s∈seen)(hs:st.length=t.rs.length){i:Nat}{r:Rtr}(hr:t.rs[i]?=some r) :
  (srtM st seen (lkM5 t t.ls))[2 * i]?=some (srtS (outS t.ls r.id))∧(srtM st seen (lkM5 t t.ls))[2 * i+1]?=some (inS t.ls r.id):=by
 have hO:=chk5_good hc
 have hnd:(t.rs.map (·.id)).Nodup:=List.Pairwise.map _ (λa b h=>by omega) hO.asc
 obtain⟨g1,g2⟩:=lkM5_get hnd _ t.ls rfl (λl hl=>⟨hO.has l hl,hO.lt l hl⟩) i r hr
 have hi:i<st.length:=by rw[hs];exact lt_of_get hr
 have e:st.getD i 0∈seen:=by rw[List.getD_eq_getElem?_getD,List.getElem?_eq_getElem hi];exact h _ (List.getElem_mem _)
 simp only[srtM,List.getElem?_mapIdx,g1,g2,Option.map_some,show 2 * i / 2=i by omega]
 rw[if_pos ⟨by omega,e⟩,if_neg (by omega)]
 exact⟨rfl,rfl⟩
def rdE(t:Tpl):NF:=
 ⟨[(2,.k,.ref 1 0),(3,.k,.ref 2 0)],[.box (Tpl.v t),.box (.agg [.val (.map none),.val (.map none)]),.box (.agg [lksA (outG t),lksA (inG t)])]⟩
theorem rows_pure(r:List Stp):pureL (r.map Stp.v):=pureBL_ok (pureBL_map Stp_pure r)
theorem lks_pure(L:Lks):pureL (L.map λp=>AV.sl 2 (p.2.map Stp.v) false):=pureBL_ok (pureBL_map (v:=λp:Int×List Stp=>AV.sl 2 (p.2.map Stp.v) false) (λ_=>rfl) L)
theorem rd_frz(t:Tpl){k nx:Nat}{tm:Nat→AV}{hp:Hp}(t2:tm 2=.ref 1 0)(t3:tm 3=.ref 2 0)(h0:hp 0=some (.box (Tpl.v t)))(h1:hp 1=some (.box (.agg [.val (.map none),.val (.map none)])))(h2:hp 2=some (.box (.agg [.mref 3,.mref 4])))
  (h3:hp 3=some (.map none (kyN (t.rs.map (·.id))) (evN t.rs.length))) (h4:hp 4=some (.map none (kyN (t.rs.map (·.id))) (odN t.rs.length)))
  (hF:∀i r,t.rs[i]?=some r→hp (Fr (2 * i))=some (.vec 2 ((srtS (outS t.ls r.id)).map Stp.v))∧hp (Fr (2 * i+1))=some (.vec 2 ((inS t.ls r.id).map Stp.v))):Weak 0 k ⟨tm,hp,nx⟩ (rdE t).st:=by
 have key:∀(f:Rtr→List Stp) (vs':List AV),vs'.length=t.rs.length→(∀i,i<t.rs.length→vs'[i]?=some (.sl 2 (((t.rs[i]?).elim [] f).map Stp.v) false))→vs'=(t.rs.map λr=>(r.id,f r)).map λp=>AV.sl 2 (p.2.map Stp.v) false:=λf vs' e1 e2=>by
  refine List.ext_getElem? λi=>?_
  by_cases hi:i<t.rs.length
  ·rw[e2 i hi,List.getElem?_map,List.getElem?_map,List.getElem?_eq_getElem hi];rfl
  ·rw[List.getElem?_eq_none (by omega),List.getElem?_eq_none (by simp;omega)]
 have ks:∀f:Rtr→List Stp,kyN (t.rs.map (·.id))=(t.rs.map λr=>(r.id,f r)).map λp=>MK.n p.1:=λf=>by unfold kyN;rw[List.map_map,List.map_map];rfl
 obtain⟨hp1,v1,w1,a1,a2,a3,_,a5⟩:=Weak.giveRows (k:=0) (n:=k) (tm:=tm) (nx:=nx) (kk:=2) 3 (λi=>Fr (2 * i)) (λi=>((t.rs[i]?).elim [] λr=>srtS (outS t.ls r.id)).map Stp.v) (λi=>rows_pure _) (λi j h=>by unfold Fr at h;omega) (λi=>by unfold Fr;omega) h3 t.rs.length
  (λi hi=>⟨by rw[evN,List.getElem?_map,List.getElem?_range hi];rfl,by rw[List.getElem?_eq_getElem hi];exact(hF i _ (List.getElem?_eq_getElem hi)).1⟩)
 have b4:hp1 4=some (.map none (kyN (t.rs.map (·.id))) (odN t.rs.length)):=by rw[a5 4 (by decide) (λi _=>by unfold Fr;omega)];exact h4
 obtain⟨hp2,v2,w2,c1,c2,c3,_,c5⟩:=Weak.giveRows (k:=0) (n:=k) (tm:=tm) (nx:=nx) (kk:=2) 4 (λi=>Fr (2 * i+1)) (λi=>((t.rs[i]?).elim [] λr=>inS t.ls r.id).map Stp.v) (λi=>rows_pure _) (λi j h=>by unfold Fr at h;omega) (λi=>by unfold Fr;omega) b4 t.rs.length
  (λi hi=>⟨by rw[odN,List.getElem?_map,List.getElem?_range hi];rfl,by
   rw[List.getElem?_eq_getElem hi,a5 _ (by unfold Fr;omega) (λj _=>by unfold Fr;omega)]
   exact(hF i _ (List.getElem?_eq_getElem hi)).2⟩)
 have e1:=key (λr=>srtS (outS t.ls r.id)) v1 (by rw[a2,evN_len]) a3
 have e2:=key (λr=>inS t.ls r.id) v2 (by rw[c2,odN_len]) c3
 have lo:∀b,b<3→hp2 b=hp b:=λb hb=>by
  rw[c5 b (by omega) (λi _=>by unfold Fr;omega),a5 b (by omega) (λi _=>by unfold Fr;omega)]
 have m3:hp2 3=some (.map none (kyN (t.rs.map (·.id))) v1):=by rw[c5 3 (by decide) (λi _=>by unfold Fr;omega)];exact a1
 have z3:hp2 3=some (.map none ((outG t).map λp=>MK.n p.1) ((outG t).map λp=>AV.sl 2 (p.2.map Stp.v) false)):=by rw[m3,e1,ks];rfl
 have z4:hp2 4=some (.map none ((inG t).map λp=>MK.n p.1) ((inG t).map λp=>AV.sl 2 (p.2.map Stp.v) false)):=by rw[c1,e2,ks];rfl
 have hp1:(AV.agg [lksA (outG t),lksA (inG t)]).pure:=⟨trivial,trivial,trivial⟩
 have hr:=λπ=>AV.ren_pure π hp1
 have hb:=λk=>AV.bel_pure (k:=k) hp1
 have z5:upd (upd hp2 3 none) 2 (some (.box (.agg [lksA (outG t),.mref 4]))) 4=some (.map none ((inG t).map λp=>MK.n p.1) ((inG t).map λp=>AV.sl 2 (p.2.map Stp.v) false)):=by
  rw[upd_ne _ _ (by decide),upd_ne _ _ (by decide)];exact z4
 refine w1.trans (w2.trans ((Weak.giveBM 2 0 3 (by rw[lo 2 (by decide)];exact h2) rfl z3 (lks_pure _) rfl).trans ((Weak.giveBM 2 1 4 (cs:=[lksA (outG t),.mref 4]) (upd_same _ _ _) rfl z5 (lks_pure _) rfl).trans ?_)))
 show Weak 0 k _ ⟨resT [(2,.ref 1 0),(3,.ref 2 0)],hpL 0 [some (.box (Tpl.v t)),some (.box (.agg [.val (.map none),.val (.map none)])),some (.box (.agg [lksA (outG t),lksA (inG t)]))],3⟩
 have u:∀{b},b<2→∀x,upd (upd (upd (upd hp2 3 none) 2 (some (Blk.box (AV.agg [lksA (outG t),AV.mref 4])))) 4 none) 2 x b=hp b:=λ{b} hb x=>by
  rw[upd_ne _ _ (by omega),upd_ne _ _ (by omega),upd_ne _ _ (by omega),upd_ne _ _ (by omega),lo b (by omega)]
 refine Weak.nf [0,1,2] [(2,.ref 1 0),(3,.ref 2 0)] [some (.box (Tpl.v t)),some (.box (.agg [.val (.map none),.val (.map none)])),some (.box (.agg [lksA (outG t),lksA (inG t)]))] ?_ ?_ ⟨rfl,rfl⟩ (by decide) (by decide) (by decide)
 ·exact⟨⟨t2,show 1<3 by decide⟩,⟨t3,show 2<3 by decide⟩,trivial⟩
 ·refine⟨⟨(u (by decide) _).trans (h0.trans ?_),trivial,trivial,trivial⟩,⟨(u (by decide) _).trans (h1.trans ?_),trivial,trivial,trivial⟩,⟨(upd_same _ _ _).trans ?_,?_⟩,trivial⟩
  ·rfl
  ·rfl
  ·show _=some (Blk.box (AV.ren _ _));rw[hr];rfl
  ·exact hb _
def rd_c3:AC:=.seq (.reg [⟨(some 100),.faddr 0 (.t 3),none⟩,⟨(some 101),.load false 1 (.t 100),none⟩,⟨(some 102),.rng (.t 101),none⟩])
 (.block 4 (.loop (.seq (.reg [⟨(some 103),.nxt (.t 102),none⟩,⟨(some 104),.ext 0 (.t 103),none⟩])
 (.seq (.cond (.t 104) (.skip) (.exit 4))
 (.block 5 (.seq (.reg [⟨(some 105),.ent (.t 102),none⟩,⟨(some 106),.ext 0 (.t 105),none⟩,⟨(some 8),.move (.t 106),none⟩])
 (.reg [⟨(some 107),.faddr 0 (.t 3),none⟩,⟨(some 108),.load false 1 (.t 107),none⟩,⟨(some 109),.move (.t 8),none⟩,⟨(some 110),.mget none ((.sl 0 [] true)) false (.t 108) (.t 109),none⟩,⟨(some 111),.call (.c (.func 174 [])) [(.t 110),(.c (.func 175 []))],none⟩])))))))
def rdQ(t:Tpl)(ids:List Int)(a b:List AV)(st:List Nat)(ck:Nat)(seen:List Nat):List (Option Blk):=
 [some (.box (Tpl.v t)),some (.box (.agg [.val (.map none),.val (.map none)])),some (.box (.agg [.mref 3,.mref 4])),some (.mst none (kyN ids) a st ck),some (.map none (kyN ids) b),some (.itr 3 st ck seen)]
def rdR(t:Tpl)(M:List (List Stp))(st:List Nat)(ck:Nat)(seen:List Nat):S3:=
 ⟨resT [(2,.ref 1 0),(3,.ref 2 0),(102,.ref 5 0)],GS M (hpL 0 (rdQ t (t.rs.map (·.id)) (evN t.rs.length) (odN t.rs.length) st ck seen)),2000⟩
theorem rdQ_F{t:Tpl}{ids:List Int}{n:Nat}{hp:Hp}{bs fs:Nat→Nat}{a b:List AV}{st seen:List Nat}{ck:Nat}(hbs:bs 0=0∧bs 1=1∧bs 2=2∧bs 3=3∧bs 4=4)(hn:n≤400)(h0:hp 0=some (.box (Tpl.v t)))(h1:hp 1=some (.box (.agg [.val (.map none),.val (.map none)])))(h2:hp 2=some (.box (.agg [.mref 3,.mref 4])))
  (h3:hp 3=some (.mst none (kyN ids) a st ck)) (h4:hp 4=some (.map none (kyN ids) b)) (h5:hp (bs 5)=some (.itr 3 st ck seen)) (ha:a=(List.range n).map λi=>.vec (fs (2 * i))) (hb:b=(List.range n).map λi=>.vec (fs (2 * i+1))) :
  ∀i x,(rdQ t ids (evN n) (odN n) st ck seen)[i]?=some (some x)→hp (bs i)=some (x.ren (fmPi bs fs))∧x.bel 2000:=by
 obtain⟨b0,b1,b2,b3,b4⟩:=hbs
 have e3:fmPi bs fs 3=3:=by rw[fmPi_lo (by omega),b3]
 have e4:fmPi bs fs 4=4:=by rw[fmPi_lo (by omega),b4]
 intro i x h
 rcases i with _|_|_|_|_|_|i
 ·cases h;exact⟨by rw[b0];exact h0,⟨trivial,trivial,trivial⟩⟩
 ·cases h;exact⟨by rw[b1];exact h1,⟨trivial,trivial,trivial⟩⟩
 ·cases h;exact⟨by rw[b2,h2];show _=some (Blk.box (.agg [.mref (fmPi bs fs 3),.mref (fmPi bs fs 4)]));rw[e3,e4],⟨show 3<2000 by omega,show 4<2000 by omega,trivial⟩⟩
 ·cases h;exact⟨by show hp (bs 3)=_;rw[b3,h3,Blk.ren,evN_ren hn,ha],evN_bel hn⟩
 ·cases h;exact⟨by show hp (bs 4)=_;rw[b4,h4,Blk.ren,odN_ren hn,hb],odN_bel hn⟩
 ·cases h;exact⟨by show hp (bs 5)=some (.itr (fmPi bs fs 3) st ck seen);rw[e3];exact h5,show 3<2000 by omega⟩
 ·simp[rdQ]at h
theorem rd_h3(t:Tpl)(hc:chk5 t=0)(k:Nat):HandOk Tryz.prog 0 k rd_c3 (rdS t (lkM5 t t.ls)) (rdE t).st:=by
 unfold HandOk rd_c3 rdS
 have hO:=chk5_good hc
 have hR:=hO.nr
 have hml:=maxLen_eq
 have hM:=lkM5_len t t.ls
 have hnd:(t.rs.map (·.id)).Nodup:=List.Pairwise.map _ (λa b h=>by omega) hO.asc
 have hkO:∀q∈kyN (t.rs.map (·.id)),kOk q:=λq hq=>by
  obtain⟨x,hx,rfl⟩:=List.mem_map.mp hq
  obtain⟨r,hr,rfl⟩:=List.mem_map.mp hx
  have:=hO.rg r hr
  show inK .i64 r.id
  rw[inK64];omega
 have hG0:∀b,b<1000→GS (lkM5 t t.ls) (hpL 0 (rdH t (t.rs.map (·.id)) (evN t.rs.length) (odN t.rs.length))) b=hpL 0 (rdH t (t.rs.map (·.id)) (evN t.rs.length) (odN t.rs.length)) b:=λb hb=>GR_lo hb
 refine AWP.open 3 (hG0 3 (by decide)) λst ck hs1 hs2 hn hv=>?_
 rw[kyN,List.length_map,List.length_map]at hs2
 have g2:GS (lkM5 t t.ls) (hpL 0 (rdH t (t.rs.map (·.id)) (evN t.rs.length) (odN t.rs.length))) 2=some (.box (.agg [.mref 3,.mref 4])):=hG0 2 (by decide)
 refine AWP.seq' ?_
 refine AWP.reg' λK hK=>?_
 try simp only[stepS,stepD,stepM,eq_self,implies_true,forall_eq_or_imp,forall_eq,Nat.reduceEqDiff,↓reduceIte,Nat.reduceAdd,Nat.reduceLeDiff,Nat.reduceSub,Nat.reduceMul,Nat.reduceLT,Int.reduceBEq,Int.reduceBNe,Int.reduceToNat,Int.reduceLT,Int.reduceLE,Int.reduceAdd,Int.reduceSub,Int.reduceMul,reduceCtorEq,g2]
 refine evT_rng rfl (upd_same _ _ _) ?_
 try simp only[stepS,stepD,stepM,eq_self,implies_true,forall_eq_or_imp,forall_eq,Nat.reduceEqDiff,↓reduceIte,Nat.reduceAdd,Nat.reduceLeDiff,Nat.reduceSub,Nat.reduceMul,Nat.reduceLT,Int.reduceBEq,Int.reduceBNe,Int.reduceToNat,Int.reduceLT,Int.reduceLE,Int.reduceAdd,Int.reduceSub,Int.reduceMul,reduceCtorEq]
 refine hK _ _ _ ?_
 clear hK K
 refine AWP.block ?_
 refine AWP.loopS (λseen:List Nat=>rdR t (srtM st seen (lkM5 t t.ls)) st ck seen) (λseen=>seen.Nodup∧∀s∈seen,s∈st) (λseen=>st.length-seen.length) (i0:=[]) ⟨by simp,by simp⟩ ?_ ?_
 ·rw[srtM_nil]
  refine Weak.nfR Stp_pure _ _ _ (λb=>if b=5 then 2032 else b) Fr ?_ (rdQ_F ⟨rfl,rfl,rfl,rfl,rfl⟩ (by omega) ?_ ?_ ?_ ?_ ?_ ?_ rfl rfl) (by simp[rdQ]) (by omega) ?_ ?_ (λi j _ _ h=>by unfold Fr at h;omega) ?_ (λb hb=>by omega) (by decide)
  ·simp only[List.forall_mem_cons,List.not_mem_nil,false_implies,implies_true,and_true]
   exact⟨⟨rfl,show 1<2000 by omega⟩,⟨rfl,show 2<2000 by omega⟩,rfl,show 5<2000 by omega⟩
  ·rw[upd_ne _ _ (by decide),upd_ne _ _ (by decide)];exact hG0 0 (by decide)
  ·rw[upd_ne _ _ (by decide),upd_ne _ _ (by decide)];exact hG0 1 (by decide)
  ·rw[upd_ne _ _ (by decide),upd_ne _ _ (by decide)];exact hG0 2 (by decide)
  ·rw[upd_ne _ _ (by decide),upd_same];rfl
  ·rw[upd_ne _ _ (by decide),upd_ne _ _ (by decide)];exact hG0 4 (by decide)
  ·rfl
  ·intro j r hr
   have hj:=lt_of_get hr
   rw[upd_ne _ _ (by unfold Fr;omega),upd_ne _ _ (by unfold Fr;omega)]
   exact GR_F hr (by omega)
  ·intro a b ha hb he
   simp only[rdQ,List.length_cons,List.length_nil]at ha hb
   (repeat' split at he)<;>omega
  ·intro a b ha hb he
   simp only[rdQ,List.length_cons,List.length_nil]at ha
   unfold Fr at he
   (repeat' split at he)<;>omega
 ·rintro seen ⟨hnd',hsub⟩
  unfold rdR
  have hS0:∀b,b<1000→GS (srtM st seen (lkM5 t t.ls)) (hpL 0 (rdQ t (t.rs.map (·.id)) (evN t.rs.length) (odN t.rs.length) st ck seen)) b=hpL 0 (rdQ t (t.rs.map (·.id)) (evN t.rs.length) (odN t.rs.length) st ck seen) b:=λb hb=>GR_lo hb
  refine AWP.seq' ?_
  refine AWP.reg' λK hK=>?_
  try simp only[stepS,stepD,stepM,eq_self,implies_true,forall_eq_or_imp,forall_eq,Nat.reduceEqDiff,↓reduceIte,Nat.reduceAdd,Nat.reduceLeDiff,Nat.reduceSub,Nat.reduceMul,Nat.reduceLT,Int.reduceBEq,Int.reduceBNe,Int.reduceToNat,Int.reduceLT,Int.reduceLE,Int.reduceAdd,Int.reduceSub,Int.reduceMul,reduceCtorEq]
  refine evT_nxt rfl (hS0 5 (by decide)) (hS0 3 (by decide)) hkO (λhs=>?_) (λi q v s0 e1 e2 e3 e4=>?_)
  ·try simp only[stepS,stepD,stepM,eq_self,implies_true,forall_eq_or_imp,forall_eq,Nat.reduceEqDiff,↓reduceIte,Nat.reduceAdd,Nat.reduceLeDiff,Nat.reduceSub,Nat.reduceMul,Nat.reduceLT,Int.reduceBEq,Int.reduceBNe,Int.reduceToNat,Int.reduceLT,Int.reduceLE,Int.reduceAdd,Int.reduceSub,Int.reduceMul,reduceCtorEq]
   refine hK _ _ _ ?_
   clear hK K
   refine AWP.seq' (AWP.cond (b:=false) rfl (λh=>by cases h) (λ_=>AWP.exit ?_))
   refine(show Weak 0 k _ _ from ?_)
   refine Weak.trans (Weak.close 3 (hS0 3 (by decide))) (rd_frz t rfl rfl ?_ ?_ ?_ ?_ ?_ ?_)
   ·rw[upd_ne _ _ (by decide)];exact hS0 0 (by decide)
   ·rw[upd_ne _ _ (by decide)];exact hS0 1 (by decide)
   ·rw[upd_ne _ _ (by decide)];exact hS0 2 (by decide)
   ·rw[upd_same]
   ·rw[upd_ne _ _ (by decide)];exact hS0 4 (by decide)
   ·intro i r hr
    obtain⟨q1,q2⟩:=srtM_all hc hs hs2 hr
    rw[upd_ne _ _ (by unfold Fr;omega),upd_ne _ _ (by unfold Fr;omega)]
    exact⟨GR_F q1 (by rw[srtM_len];omega),GR_F q2 (by rw[srtM_len];omega)⟩
  ·have hi:i<t.rs.length:=by have:=lt_of_get e3;omega
   have hr:t.rs[i]?=some t.rs[i]:=List.getElem?_eq_getElem hi
   generalize t.rs[i]=r at hr
   have e1':(kyN (t.rs.map (·.id)))[i]?=some (MK.n r.id):=by rw[kyN,List.getElem?_map,List.getElem?_map,hr];rfl
   rw[e1']at e1;cases e1
   have e2':(evN t.rs.length)[i]?=some (.vec (Fr (2 * i))):=by rw[evN,List.getElem?_map,List.getElem?_range hi];rfl
   rw[e2']at e2;cases e2
   try simp only[stepS,stepD,stepM,eq_self,implies_true,forall_eq_or_imp,forall_eq,Nat.reduceEqDiff,↓reduceIte,Nat.reduceAdd,Nat.reduceLeDiff,Nat.reduceSub,Nat.reduceMul,Nat.reduceLT,Int.reduceBEq,Int.reduceBNe,Int.reduceToNat,Int.reduceLT,Int.reduceLE,Int.reduceAdd,Int.reduceSub,Int.reduceMul,reduceCtorEq]
   refine hK _ _ _ ?_
   clear hK K
   refine AWP.seq' (AWP.cond (b:=true) rfl (λ_=>?_) (λh=>by cases h))
   refine AWP.skip ?_
   refine AWP.block (AWP.seq' ?_)
   refine AWP.reg' λK hK=>?_
   try simp only[stepS,stepD,stepM,eq_self,implies_true,forall_eq_or_imp,forall_eq,Nat.reduceEqDiff,↓reduceIte,Nat.reduceAdd,Nat.reduceLeDiff,Nat.reduceSub,Nat.reduceMul,Nat.reduceLT,Int.reduceBEq,Int.reduceBNe,Int.reduceToNat,Int.reduceLT,Int.reduceLE,Int.reduceAdd,Int.reduceSub,Int.reduceMul,reduceCtorEq]
   refine evT_ent (m:=3) rfl (upd_same _ _ _) ((upd_ne _ _ (by decide)).trans ((upd_ne _ _ (by decide)).trans (hS0 3 (by decide)))) e3 e1' e2' (hkO _ (List.mem_of_getElem? e1')) ?_
   try simp only[stepS,stepD,stepM,eq_self,implies_true,forall_eq_or_imp,forall_eq,Nat.reduceEqDiff,↓reduceIte,Nat.reduceAdd,Nat.reduceLeDiff,Nat.reduceSub,Nat.reduceMul,Nat.reduceLT,Int.reduceBEq,Int.reduceBNe,Int.reduceToNat,Int.reduceLT,Int.reduceLE,Int.reduceAdd,Int.reduceSub,Int.reduceMul,reduceCtorEq,kAV]
   refine hK _ _ _ ?_
   clear hK K
   refine(show AWP _ _ _ _ _ _ from ?_)
   obtain⟨hk1,hk2⟩:=kyN_idx hnd (show(t.rs.map (·.id))[i]?=some r.id by rw[List.getElem?_map,hr];rfl)
   have hmg:mgetA (kyN (t.rs.map (·.id))) (evN t.rs.length) (MK.n r.id) (.sl 0 [] true) false=.vec (Fr (2 * i)):=by
    unfold mgetA;rw[if_pos hk1,hk2,evN_get hi];rfl
   obtain⟨q1,q2⟩:=lkM5_get hnd _ t.ls rfl (λl hl=>⟨hO.has l hl,hO.lt l hl⟩) i r hr
   have q3:=srtM_get (seen:=seen) q1 e3 e4
   have gF:GS (srtM st seen (lkM5 t t.ls)) (hpL 0 (rdQ t (t.rs.map (·.id)) (evN t.rs.length) (odN t.rs.length) st ck seen)) (Fr (2 * i))=some (.vec 2 ((outS t.ls r.id).map Stp.v)):=GR_F q3 (by rw[srtM_len];omega)
   have g2':GS (srtM st seen (lkM5 t t.ls)) (hpL 0 (rdQ t (t.rs.map (·.id)) (evN t.rs.length) (odN t.rs.length) st ck seen)) 2=some (.box (.agg [.mref 3,.mref 4])):=hS0 2 (by decide)
   have g3':GS (srtM st seen (lkM5 t t.ls)) (hpL 0 (rdQ t (t.rs.map (·.id)) (evN t.rs.length) (odN t.rs.length) st ck seen)) 3=some (.mst none (kyN (t.rs.map (·.id))) (evN t.rs.length) st ck):=hS0 3 (by decide)
   refine AWP.reg' λK hK=>?_
   try simp only[stepS,stepD,stepM,eq_self,implies_true,forall_eq_or_imp,forall_eq,Nat.reduceEqDiff,↓reduceIte,Nat.reduceAdd,Nat.reduceLeDiff,Nat.reduceSub,Nat.reduceMul,Nat.reduceLT,Int.reduceBEq,Int.reduceBNe,Int.reduceToNat,Int.reduceLT,Int.reduceLE,Int.reduceAdd,Int.reduceSub,Int.reduceMul,reduceCtorEq,g2',g3',evA_mget,mapA,AV.key,hmg]
   refine⟨trivial,evT_ownV (sortS_spec _ (outS_ok hc r.id)) ⟨_,Tryz.func174,by kernel_rfl,by kernel_rfl⟩ ⟨trivial,trivial⟩ (rows_pure _) (rows_pure _) trivial rfl rfl ((upd_ne _ _ (by unfold Fr;omega)).trans ((upd_ne _ _ (by unfold Fr;omega)).trans gF)) ?_⟩
   try simp only[stepS,stepD,stepM,eq_self,implies_true,forall_eq_or_imp,forall_eq,Nat.reduceEqDiff,↓reduceIte,Nat.reduceAdd,Nat.reduceLeDiff,Nat.reduceSub,Nat.reduceMul,Nat.reduceLT,Int.reduceBEq,Int.reduceBNe,Int.reduceToNat,Int.reduceLT,Int.reduceLE,Int.reduceAdd,Int.reduceSub,Int.reduceMul,reduceCtorEq]
   refine hK _ _ _ ?_
   clear hK K
   have hN:(seen++[s0]).Nodup:=List.nodup_append.mpr ⟨hnd',by simp,λa ha b hb=>by rw[List.mem_singleton.mp hb];rintro rfl;exact e4 ha⟩
   have hS:∀s∈seen++[s0],s∈st:=λs hs=>by
    rcases List.mem_append.mp hs with hs|hs
    ·exact hsub s hs
    ·rw[List.mem_singleton.mp hs];exact List.mem_of_getElem? e3
   have hL:st.length-(seen++[s0]).length<st.length-seen.length:=by
    have:=List.Nodup.length_le_of_subset hN hS
    rw[List.length_append,List.length_singleton]at this ⊢;omega
   refine⟨seen++[s0],⟨hN,hS⟩,hL,?_⟩
   rw[srtM_snoc q1 e3 hs1 (by rw[hM,hs2])]
   have h5:∀i:Nat,¬5=Fr i:=λi=>by unfold Fr;omega
   refine Weak.nfR Stp_pure _ _ _ (λb=>b) Fr ?_ (rdQ_F ⟨rfl,rfl,rfl,rfl,rfl⟩ (by omega) ?_ ?_ ?_ ?_ ?_ ?_ rfl rfl) (by simp[rdQ]) (by rw[List.length_set,srtM_len];omega) ?_ (λi j _ _ h=>h) (λi j _ _ h=>by unfold Fr at h;omega) (λi j h1 h2 h=>by simp[rdQ]at h1;unfold Fr at h;omega) (λb _=>rfl) (by decide)
   ·simp only[List.forall_mem_cons,List.not_mem_nil,false_implies,implies_true,and_true]
    exact⟨⟨rfl,show 1<2000 by omega⟩,⟨rfl,show 2<2000 by omega⟩,rfl,show 5<2000 by omega⟩
   ·rw[upd_ne _ _ (by unfold Fr;omega),upd_ne _ _ (by decide),upd_ne _ _ (by decide)];exact hS0 0 (by decide)
   ·rw[upd_ne _ _ (by unfold Fr;omega),upd_ne _ _ (by decide),upd_ne _ _ (by decide)];exact hS0 1 (by decide)
   ·rw[upd_ne _ _ (by unfold Fr;omega),upd_ne _ _ (by decide),upd_ne _ _ (by decide)];exact hS0 2 (by decide)
   ·rw[upd_ne _ _ (by unfold Fr;omega),upd_ne _ _ (by decide),upd_ne _ _ (by decide)];exact hS0 3 (by decide)
   ·rw[upd_ne _ _ (by unfold Fr;omega),upd_ne _ _ (by decide),upd_ne _ _ (by decide)];exact hS0 4 (by decide)
   ·rw[upd_ne _ _ (h5 _),upd_same]
   ·intro j q hj
    have hjl:=lt_of_get hj
    rw[List.length_set,srtM_len]at hjl
    rw[List.getElem?_set]at hj
    by_cases e:2 * i=j
    ·subst e
     rw[if_pos rfl,if_pos (by rw[srtM_len];omega)]at hj
     cases hj
     rw[upd_same]
    ·rw[if_neg e]at hj
     rw[upd_ne _ _ (by unfold Fr;omega),upd_ne _ _ (by unfold Fr;omega),upd_ne _ _ (by unfold Fr;omega)]
     exact GR_F hj (by rw[srtM_len];omega)
structure Grh where
  out:Lks
  inn:Lks
def Grh.v(x:Grh):AV:=.agg [lksA x.out,lksA x.inn]
def grhT(t:Tpl):Grh:=⟨outG t,inG t⟩
def grhT_a(t:Tpl)(hc:chk5 t=0):Prop:=okL [.agg [.sl 2 (t.rs.map Rtr.v) false,.sl 5 (t.ls.map Lnk.v) false]]
def grhT_e(r:Grh):AV:=Grh.v r
def grhT_x(t:Tpl)(hc:chk5 t=0):Ax Tryz.prog noS (Grh):=
 (.pass (.pass (.hand 0 [] (rd_m t) [0,16,80,32,48] (rdS t (List.replicate (2 * (t).rs.length) [])) rd_c1 (rd_h1 t hc)
(.hand2 0 (rdS t (List.replicate (2 * (t).rs.length) [])) (rdS t (lkM5 t (t).ls)) rd_c2 (rd_h2 t hc)
(.hand2 0 (rdS t (lkM5 t (t).ls)) ((rdE t).st) rd_c3 (rd_h3 t hc)
(.ret (grhT t)))))))
def grhT_vc(t:Tpl)(hc:chk5 t=0)(r0:Grh):Prop:=(grhT_x t hc).vp grhT_e r0
theorem grhT_p(t:Tpl)(hc:chk5 t=0)(ok:grhT_a t hc):grhT_vc t hc (grhT t):=by
 dsimp only[grhT_vc,grhT_x,noS,Ax.vp,Ax.vc];simp only[vcU,rfU,List.length_map]
def grhT_c(t:Tpl)(hc:chk5 t=0):PC Tryz.prog:=⟨157,[(.a [(.s 2),(.s 5)])],[.agg [.sl 2 (t.rs.map Rtr.v) false,.sl 5 (t.ls.map Lnk.v) false]],grhT_e (grhT t),PSpec.of_ok λok=>mxP_of (sh:=.k) (enc:=grhT_e) (a:=(grhT_x t hc).an) (grhT_p t hc ok) (by kernel_rfl) (AV.pureB_ok rfl),fnB_ok (by kernel_rfl)⟩
theorem lnk_get{l:List Lnk}(h:l.Pairwise lnkL){i j:Nat}(hij:i<j){x y:Lnk}(hx:l[i]?=some x)(hy:l[j]?=some y):lnkL x y:=by
 have hi:=lt_of_get hx
 have hj:=lt_of_get hy
 rw[List.getElem?_eq_getElem hi]at hx
 rw[List.getElem?_eq_getElem hj]at hy
 have:=List.pairwise_iff_getElem.mp h i j hi hj hij
 rw[Option.some.inj hx,Option.some.inj hy]at this
 exact this
theorem hitL_any{l:List Lnk}(h:l.Pairwise lnkL)(k:Lnk):(hitL l k=l.any (eqLk k))∧∀x∈l,eqLk k x=true→l[posL l k]?=some x:=by
 refine bsH_any (λa b x y hab hx hy e=>?_) (λx e=>?_) λa b x y hab hx hy e=>?_
 ·have:=lnk_get h hab hx hy
  simp[ltLk]at e ⊢;unfold lnkL at *;omega
 ·simp[eqLk]at e;simp[ltLk];unfold lnkL;omega
 ·have:=lnk_get h hab hx hy
  simp[eqLk]at e;simp[ltLk];unfold lnkL at *;omega
def lkey(f g:Int):Lnk:=⟨minI f g,maxI f g,0,0,0⟩
theorem prc_key{t:Tpl}(hc:chk5 t=0)(f g:Int):hitL t.ls (lkey f g)=(prc5 t f g).2∧∀x,hitL t.ls (lkey f g)=true→t.ls[posL t.ls (lkey f g)]?=some x→(prc5 t f g)=(if f<g then x.ca else x.cb,true):=by
 have hO:=chk5_good hc
 obtain⟨k1,k2⟩:=hitL_any hO.ord (lkey f g)
 have key:∀x∈t.ls,prcH f g x=eqLk (lkey f g) x:=λx hx=>by
  have:=hO.lt x hx
  unfold prcH eqLk lkey
  rw[Bool.eq_iff_iff,decide_eq_true_iff]
  simp only[Bool.or_eq_true,Bool.and_eq_true,beq_iff_eq]
  unfold minI maxI
  constructor
  ·intro h;(repeat' split)<;>omega
  ·intro h;(repeat' split at h)<;>omega
 have hany:t.ls.any (eqLk (lkey f g))=(t.ls.find? (prcH f g)).isSome:=by
  rw[Bool.eq_iff_iff,List.any_eq_true,List.find?_isSome]
  exact⟨λ⟨x,hx,e⟩=>⟨x,hx,by rw[key x hx];exact e⟩,λ⟨x,hx,e⟩=>⟨x,hx,by rw[←key x hx];exact e⟩⟩
 refine⟨?_,λx hh hx=>?_⟩
 ·rw[k1,hany];unfold prc5
  cases q:t.ls.find? (prcH f g)with
  | none=>rfl
  | some y=>rfl
 ·rw[k1,hany]at hh
  unfold prc5
  cases q:t.ls.find? (prcH f g)with
  | none=>rw[q]at hh;cases hh
  | some y =>
   have hy:=List.mem_of_find?_eq_some q
   have e:=List.find?_some q
   have e':=e
   rw[key y hy]at e'
   have:=k2 y hy e'
   rw[hx]at this;cases this
   have hlt:=hO.lt x hy
   simp only
   unfold prcH at e
   simp only[Bool.or_eq_true,Bool.and_eq_true,beq_iff_eq]at e
   congr 1
   by_cases c:x.a=f∧x.b=g
   ·rw[if_pos (by simp[c]),if_pos (by omega)]
   ·rw[if_neg (by simpa using c),if_neg (by omega)]
def cosP_a(t:Tpl)(from_:Int)(to_:Int):Prop:=okL [.agg [.sl 2 (t.rs.map Rtr.v) false,.sl 5 (t.ls.map Lnk.v) false],.int from_,.int to_]
def cosP_e(r:Int×Bool):AV:=.tup [.int r.1,.bool r.2]
def cosP_x(t:Tpl)(from_:Int)(to_:Int):Ax Tryz.prog noS (Int×Bool):=
 (.callP (valP_c t)
(.br 96 (!(valP t)) (.ret (0,false))
(.req 240 (t.ls.length≤1000000) λh1 =>
(.callP (bsL_c t.ls (⟨minI from_ to_,maxI from_ to_,0,0,0⟩:Lnk) h1)
(.br 384 (!(hitL t.ls (⟨minI from_ to_,maxI from_ to_,0,0,0⟩:Lnk))) (.ret (0,false))
(.br 448 (decide (from_<to_)) (.elI 496 Lnk.v t.ls (posL t.ls (⟨minI from_ to_,maxI from_ to_,0,0,0⟩:Lnk):Int) λx2 =>
(.ret (x2.ca,true)))
(.elI 496 Lnk.v t.ls (posL t.ls (⟨minI from_ to_,maxI from_ to_,0,0,0⟩:Lnk):Int) λx3 =>
(.ret (x3.cb,true)))))))))
def cosP_vc(t:Tpl)(from_:Int)(to_:Int)(r0:Int×Bool):Prop:=(cosP_x t from_ to_).vp cosP_e r0
theorem cosP_p(t:Tpl)(f g:Int)(ok:cosP_a t f g):cosP_vc t f g (cos5 t f g):=by
 dsimp only[cosP_vc,cosP_x,noS,Ax.vp,Ax.vc];simp only[vcU,rfU,List.length_map]
 unfold cos5 valP
 by_cases hc:chk5 t=0
 ·have hl:=(chk5_good hc).nl
  obtain⟨p1,p2⟩:=prc_key hc f g
  change hitL t.ls ⟨minI f g,maxI f g,0,0,0⟩=_ at p1
  change ∀x,hitL t.ls ⟨minI f g,maxI f g,0,0,0⟩=true→t.ls[posL t.ls ⟨minI f g,maxI f g,0,0,0⟩]?=some x→_ at p2
  generalize (⟨minI f g,maxI f g,0,0,0⟩:Lnk)=kk at p1 p2 ⊢
  rw[hc]
  refine⟨λh=>by simp at h,λ_=>⟨by omega,λh=>?_,λh=>?_⟩⟩
  ·have h:hitL t.ls kk=false:=by simpa using h
   rw[if_neg (by simp)]
   rw[h]at p1
   unfold prc5 at p1 ⊢
   cases q:t.ls.find? (prcH f g)with
   | none=>rfl
   | some y=>rw[q]at p1;cases p1
  ·have h:hitL t.ls kk=true:=by simpa using h
   have hp:posL t.ls kk<t.ls.length:=by
    refine Classical.byContradiction λq=>?_
    unfold hitL bsH at h
    rw[List.getElem?_eq_none (by unfold posL at q;omega)]at h;cases h
   rw[if_neg (by simp)]
   refine⟨λc=>⟨by omega,by omega,λx hx=>?_⟩,λc=>⟨by omega,by omega,λx hx=>?_⟩⟩
   ·rw[p2 x h (by rw[Int.toNat_natCast]at hx;exact hx),if_pos c]
   ·rw[p2 x h (by rw[Int.toNat_natCast]at hx;exact hx),if_neg c]
 ·rw[if_pos hc]
  refine⟨λ_=>rfl,λh=>?_⟩
  simp[hc]at h
def cosP_c(t:Tpl)(from_:Int)(to_:Int):PC Tryz.prog:=⟨92,[(.a [(.s 2),(.s 5)]),.k,.k],[.agg [.sl 2 (t.rs.map Rtr.v) false,.sl 5 (t.ls.map Lnk.v) false],.int from_,.int to_],cosP_e (cos5 t from_ to_),PSpec.of_ok λok=>mxP_of (sh:=.k) (enc:=cosP_e) (a:=(cosP_x t from_ to_).an) (cosP_p t from_ to_ ok) (by kernel_rfl) (AV.pureB_ok rfl),fnB_ok (by kernel_rfl)⟩
theorem mem_take_succ{α:Type}{l:List α}{k:Nat}{x:α}(hx:l[k]?=some x){P:α→Prop}:(∀y∈l.take (k+1),P y)↔(∀y∈l.take k,P y)∧P x:=by
 rw[take_succ hx]
 constructor
 ·intro h;exact⟨λy hy=>h y (List.mem_append_left _ hy),h x (by simp)⟩
 ·rintro⟨h1,h2⟩ y hy
  rcases List.mem_append.mp hy with hy|hy
  ·exact h1 y hy
  ·rw[List.mem_singleton.mp hy];exact h2
def ForF{α:Type}(l:List α)(p:α→Bool)(t:Int)(a:List α):Prop:=∃k:Nat,t=k∧k≤l.length∧a=(l.take k).filter p
section
variable {α : Type} {l a : List α} {p : α → Bool} {t : Int} {x : α}
theorem ForF.zero:ForF l p 0 []:=⟨0,rfl,by omega,by simp⟩
theorem ForF.idx(h:ForF l p t a):0≤t:=by obtain⟨k,rfl,_,_⟩:=h;omega
theorem ForF.len(h:ForF l p t a):a.length≤l.length:=by
 obtain⟨k,rfl,_,rfl⟩:=h
 exact Nat.le_trans (List.length_filter_le _ _) (by rw[List.length_take];omega)
theorem ForF.keep(h:ForF l p t a)(hl:l.length≤9223372036854775807)(hx:l[t.toNat]?=some x)(e:p x=true):ForF l p (W (t+1)) (a++[x])∧l.length-(W (t+1)).toNat<l.length-t.toNat:=by
 obtain⟨k,rfl,hk,rfl⟩:=h
 rw[Int.toNat_natCast]at hx
 have hlt:=lt_of_get hx
 rw[W_succ (n:=l.length) hlt hl]
 exact⟨⟨k+1,rfl,by omega,by rw[take_succ hx,List.filter_append];simp[e]⟩,by omega⟩
theorem ForF.drop(h:ForF l p t a)(hl:l.length≤9223372036854775807)(hx:l[t.toNat]?=some x)(e:p x=false):ForF l p (W (t+1)) a∧l.length-(W (t+1)).toNat<l.length-t.toNat:=by
 obtain⟨k,rfl,hk,rfl⟩:=h
 rw[Int.toNat_natCast]at hx
 have hlt:=lt_of_get hx
 rw[W_succ (n:=l.length) hlt hl]
 exact⟨⟨k+1,rfl,by omega,by rw[take_succ hx,List.filter_append];simp[e]⟩,by omega⟩
theorem ForF.done(h:ForF l p t a)(c:¬t<l.length):a=l.filter p:=by
 obtain⟨k,rfl,hk,rfl⟩:=h
 rw[List.take_of_length_le (by omega)]
end
def indexI(l:List Int)(v:Int):Int:=match l.findIdx? λx=>decide (v=x)with
 | some i=>i
 | none=>-1
theorem indexI_some{l:List Int}{r:Int}{i:Nat}(hx:l[i]?=some r)(hb:∀y∈l.take i,r≠y):indexI l r=i:=by
 obtain⟨hi,hxi⟩:=List.getElem?_eq_some_iff.mp hx
 have:l.findIdx? (λp=>decide (r=p))=some i:=by
  rw[List.findIdx?_eq_some_iff_getElem]
  refine⟨hi,by rw[hxi];simp,λj hj=>?_⟩
  have:=hb l[j] (List.mem_of_getElem? (i:=j) (by rw[List.getElem?_take,if_pos hj,List.getElem?_eq_getElem (by omega)]))
  simpa using this
 unfold indexI;rw[this]
theorem indexI_none{l:List Int}{r:Int}(hb:∀y∈l,r≠y):indexI l r=-1:=by
 have:l.findIdx? (λp=>decide (r=p))=none:=by
  rw[List.findIdx?_eq_none_iff]
  intro x hx;simpa using hb x hx
 unfold indexI;rw[this]
def indexI_a(s:(List Int))(v:Int):Prop:=okL [.sl 1 (s.map AV.int) false,.int v]
def indexI_n0(s:(List Int))(v:Int)(t0:Int):NF:=⟨[(0,.k,.sl 1 (s.map AV.int) false),(1,.k,.int v),(7,.k,.int ((s.map AV.int).length:Int)),(8,.k,.int t0)],[]⟩
@[reducible] def indexI_s:Nat→Type
 | 0=>Int
 | _=>Unit
def indexI_e(r:Int):AV:=.int r
def indexI_x(s:(List Int))(v:Int)(I0:Int→Prop)(m0:Int→Nat):Ax Tryz.prog indexI_s (Int):=
 (.loop 0 (indexI_n0 s v) I0 m0 ((0):Int) [] λ(t0:Int) b0 =>
(.br 16 (decide (t0<((s.map AV.int).length:Int))) (.elI 96 AV.int s t0 λx1 =>
(.br 144 (v==x1) (.ret (t0))
(.bk 0 b0 ((W (t0+1)):Int) [])))
(.ret (-1))))
def indexI_vc(s:(List Int))(v:Int)(I0:Int→Prop)(m0:Int→Nat)(r0:Int):Prop:=(indexI_x s v I0 m0).vp indexI_e r0
theorem indexI_p(l:List Int)(v:Int)(ok:indexI_a l v):∃I m,indexI_vc l v I m (indexI l v):=by
 simp only[indexI_a,okU,Blk.ok,plainV,List.length_map]at ok
 refine⟨λt=>∃k:Nat,t=k∧k≤l.length∧∀x∈l.take k,v≠x,λt=>l.length-t.toNat,?_⟩
 dsimp only[indexI_vc,indexI_x,indexI_s,Ax.vp,Ax.vc];simp only[vcU,rfU,List.length_map]
 have hle:l.length≤9223372036854775807:=ok.1.1
 refine⟨⟨0,rfl,by omega,by simp⟩,?_⟩
 rintro _ ⟨k,rfl,hk,hI⟩
 simp only[Int.toNat_natCast]
 refine⟨λh1=>⟨by omega,by omega,λx hx=>⟨λe=>?_,λe=>?_⟩⟩,λh1=>?_⟩
 ·have e:v=x:=by simpa using e
  subst e
  rw[indexI_some hx hI]
 ·rw[W_succ (n:=l.length) (by omega) (by omega)]
  exact⟨⟨k+1,rfl,by omega,(mem_take_succ hx).mpr ⟨hI,by simpa using e⟩⟩,by omega⟩
 ·rw[List.take_of_length_le (by omega)]at hI
  rw[indexI_none hI]
def indexI_c(s:(List Int))(v:Int):PC Tryz.prog:=⟨109,[(.s 1),.k],[.sl 1 (s.map AV.int) false,.int v],indexI_e (indexI s v),PSpec.of_ok λok=>(indexI_p s v ok).elim λI0 h=>h.elim λm0 h=>mxP_of (sh:=.k) (enc:=indexI_e) (a:=(indexI_x s v I0 m0).an) h (by kernel_rfl) (AV.pureB_ok rfl),fnB_ok (by kernel_rfl)⟩
theorem indexI_nn{l:List Int}{v:Int}:0≤indexI l v↔v∈l:=by
 unfold indexI
 cases e:l.findIdx? (λp=>decide (v=p))with
 | none =>
  rw[List.findIdx?_eq_none_iff]at e
  simp only
  refine⟨λh=>by omega,λh=>by have:=e v h;simp at this⟩
 | some i =>
  rw[List.findIdx?_eq_some_iff_getElem]at e
  obtain⟨h1,h2,_⟩:=e
  simp only
  refine⟨λ_=>?_,λ_=>by omega⟩
  have:v=l[i]:=by simpa using h2
  rw[this];exact List.getElem_mem h1
def contI_a(s:(List Int))(v:Int):Prop:=okL [.sl 1 (s.map AV.int) false,.int v]
def contI_e(r:Bool):AV:=.bool r
def contI_x(s:(List Int))(v:Int):Ax Tryz.prog noS (Bool):=
 (.callP (indexI_c s v)
(.ret (decide (0≤(indexI s v)))))
def contI_vc(s:(List Int))(v:Int)(r0:Bool):Prop:=(contI_x s v).vp contI_e r0
theorem contI_p(l:List Int)(v:Int)(ok:contI_a l v):contI_vc l v (decide (v∈l)):=by
 dsimp only[contI_vc,contI_x,noS,Ax.vp,Ax.vc];simp only[vcU,rfU,List.length_map]
 exact decide_eq_decide.mpr indexI_nn
def contI_c(s:(List Int))(v:Int):PC Tryz.prog:=⟨69,[(.s 1),.k],[.sl 1 (s.map AV.int) false,.int v],contI_e (decide (v∈s)),PSpec.of_ok λok=>mxP_of (sh:=.k) (enc:=contI_e) (a:=(contI_x s v).an) (contI_p s v ok) (by kernel_rfl) (AV.pureB_ok rfl),fnB_ok (by kernel_rfl)⟩
structure Hop where
  a:Int
  b:Int
  deriving DecidableEq
def Hop.v(h:Hop):AV:=.agg [.int h.a,.int h.b]
structure Flr where
  ls:List Hop
  rs:List Int
def nmd(l:List Hop)(a b:Int):Bool:=decide (⟨a,b⟩∈l) || decide (⟨b,a⟩∈l)
def gone(f:Flr)(l:Lnk):Bool:=decide (l.a∈f.rs) || (decide (l.b∈f.rs) || nmd f.ls l.a l.b)
def witT(t:Tpl)(f:Flr):Tpl:=if chk5 t=0 then⟨t.rs.filter λr=>!decide (r.id∈f.rs),t.ls.filter λl=>!gone f l⟩else⟨[],[]⟩
def hasI_a(l:(List Int))(n:Int):Prop:=okL [.sl 1 (l.map AV.int) false,.int n]
def hasI_n0(l:(List Int))(n:Int)(t0:Int):NF:=⟨[(0,.k,.sl 1 (l.map AV.int) false),(1,.k,.int n),(5,.k,.int t0)],[]⟩
@[reducible] def hasI_s:Nat→Type
 | 0=>Int
 | _=>Unit
def hasI_e(r:Bool):AV:=.bool r
def hasI_x(l:(List Int))(n:Int)(I0:Int→Prop)(m0:Int→Nat):Ax Tryz.prog hasI_s (Bool):=
 (.loop 0 (hasI_n0 l n) I0 m0 ((0):Int) [] λ(t0:Int) b0 =>
(.br 64 (decide (t0<((l.map AV.int).length:Int))) (.elI 96 AV.int l t0 λx1 =>
(.br 160 (x1==n) (.ret (true))
(.bk 0 b0 ((W (t0+1)):Int) [])))
(.ret (false))))
def hasI_vc(l:(List Int))(n:Int)(I0:Int→Prop)(m0:Int→Nat)(r0:Bool):Prop:=(hasI_x l n I0 m0).vp hasI_e r0
theorem hasI_p(l:List Int)(n:Int)(ok:hasI_a l n):∃I m,hasI_vc l n I m (decide (n∈l)):=by
 refine⟨λt=>ForI l (λy=>y≠n) t,λt=>l.length-t.toNat,?_⟩
 simp only[hasI_a,okU,Blk.ok,plainV,List.length_map]at ok
 dsimp only[hasI_vc,hasI_x,hasI_s,Ax.vp,Ax.vc];simp only[vcU,rfU,List.length_map]
 refine⟨ForI.zero,λt h=>⟨λc=>⟨h.idx,c,λx hx=>⟨λq=>?_,λq=>h.step (by omega) hx (by simpa using q)⟩⟩,λc=>?_⟩⟩
 ·have q:=eq_of_beq q
  subst q;exact(decide_eq_true (at_mem hx)).symm
 ·exact(decide_eq_false λq=>h.done c n q rfl).symm
def hasI_c(l:(List Int))(n:Int):PC Tryz.prog:=⟨75,[(.s 1),.k],[.sl 1 (l.map AV.int) false,.int n],hasI_e (decide (n∈l)),PSpec.of_ok λok=>(hasI_p l n ok).elim λI0 h=>h.elim λm0 h=>mxP_of (sh:=.k) (enc:=hasI_e) (a:=(hasI_x l n I0 m0).an) h (by kernel_rfl) (AV.pureB_ok rfl),fnB_ok (by kernel_rfl)⟩
def nm1(a b:Int)(x:Hop):Bool:=(x.a==a && x.b==b) || (x.a==b && x.b==a)
def nmdR_a(l:(List Hop))(a:Int)(b:Int):Prop:=okL [.sl 2 (l.map Hop.v) false,.int a,.int b]
def nmdR_n0(l:(List Hop))(a:Int)(b:Int)(t0:Int):NF:=⟨[(0,.k,.sl 2 (l.map Hop.v) false),(1,.k,.int a),(2,.k,.int b),(7,.k,.int t0)],[]⟩
def nmdR_n1(l:(List Hop))(a:Int)(b:Int)(t0:Int)(t1:Bool):NF:=⟨[(0,.k,.sl 2 (l.map Hop.v) false),(1,.k,.int a),(2,.k,.int b),(7,.k,.int t0),(47,.k,.bool t1)],[]⟩
@[reducible] def nmdR_s:Nat→Type
 | 0=>Int
 | 1=>Bool
 | _=>Unit
def nmdR_e(r:Bool):AV:=.bool r
def nmdR_x(l:(List Hop))(a:Int)(b:Int)(I0:Int→Prop)(m0:Int→Nat)(I1:Int→Bool→Prop):Ax Tryz.prog nmdR_s (Bool):=
 (.loop 0 (nmdR_n0 l a b) I0 m0 ((0):Int) [] λ(t0:Int) b0 =>
(.br 64 (decide (t0<((l.map Hop.v).length:Int))) (.pass (.join 1 (nmdR_n1 l a b t0) (λ(t1:Bool)=>I1 t0 t1) (λb1=>(.elI 96 Hop.v l t0 λx1 =>
(.br 192 (x1.a==a) (.elI 224 Hop.v l t0 λx2 =>
(.br 336 (x2.b==b) (.bk 1 b1 ((true):Bool) [])
(.elI 368 Hop.v l t0 λx3 =>
(.br 464 (x3.a==b) (.elI 496 Hop.v l t0 λx4 =>
(.bk 1 b1 ((x4.b==a):Bool) []))
(.bk 1 b1 ((false):Bool) [])))))
(.elI 368 Hop.v l t0 λx5 =>
(.br 464 (x5.a==b) (.elI 496 Hop.v l t0 λx6 =>
(.bk 1 b1 ((x6.b==a):Bool) []))
(.bk 1 b1 ((false):Bool) [])))))) λ(t1:Bool) =>
(.br 0 t1 (.ret (true))
(.bk 0 b0 ((W (t0+1)):Int) []))))
(.ret (false))))
def nmdR_vc(l:(List Hop))(a:Int)(b:Int)(I0:Int→Prop)(m0:Int→Nat)(I1:Int→Bool→Prop)(r0:Bool):Prop:=(nmdR_x l a b I0 m0 I1).vp nmdR_e r0
theorem nmdR_p(l:List Hop)(a b:Int)(ok:nmdR_a l a b):∃I0 m0 I1,nmdR_vc l a b I0 m0 I1 (nmd l a b):=by
 refine⟨λt=>ForI l (λy=>nm1 a b y=false) t,λt=>l.length-t.toNat,λt r=>∀x,l[t.toNat]?=some x→r=nm1 a b x,?_⟩
 simp only[nmdR_a,okU,Blk.ok,plainV,List.length_map]at ok
 dsimp only[nmdR_vc,nmdR_x,nmdR_s,Ax.vp,Ax.vc];simp only[vcU,rfU,List.length_map]
 have e0:nmd l a b=l.any (nm1 a b):=by
  unfold nmd nm1
  rw[Bool.eq_iff_iff,List.any_eq_true,Bool.or_eq_true,decide_eq_true_iff,decide_eq_true_iff]
  simp only[Bool.or_eq_true,Bool.and_eq_true,beq_iff_eq]
  constructor
  ·rintro(h|h)
   ·exact⟨_,h,.inl ⟨rfl,rfl⟩⟩
   ·exact⟨_,h,.inr ⟨rfl,rfl⟩⟩
  ·rintro⟨⟨u,v⟩,h,⟨rfl,rfl⟩|⟨rfl,rfl⟩⟩
   ·exact .inl h
   ·exact .inr h
 rw[e0]
 refine⟨ForI.zero,λi h=>⟨λc=>⟨⟨h.idx,c,λx hx=>⟨λq=>⟨h.idx,c,λx2 hx2=>⟨λq2 x3 hx3=>?_,λq2=>⟨h.idx,c,λx3 hx3=>⟨λq3=>⟨h.idx,c,λx4 hx4 x5 hx5=>?_⟩,λq3 x4 hx4=>?_⟩⟩⟩⟩,λq=>⟨h.idx,c,λx3 hx3=>⟨λq3=>⟨h.idx,c,λx4 hx4 x5 hx5=>?_⟩,λq3 x4 hx4=>?_⟩⟩⟩⟩,?_⟩,λc=>?_⟩⟩
 ·rw[hx]at hx2 hx3;cases hx2;cases hx3;simp[nm1,q,q2]
 ·rw[hx]at hx2 hx3 hx4 hx5;cases hx2;cases hx3;cases hx4;cases hx5;simp[nm1,q2,q3]
 ·rw[hx]at hx2 hx3 hx4;cases hx2;cases hx3;cases hx4;simp[nm1,q2,q3]
 ·rw[hx]at hx3 hx4 hx5;cases hx3;cases hx4;cases hx5;simp[nm1,q,q3]
 ·rw[hx]at hx3 hx4;cases hx3;cases hx4;simp[nm1,q,q3]
 ·intro r hr
  have hx:=List.getElem?_eq_getElem (show i.toNat<l.length by have:=h.idx;omega)
  have hr:=hr _ hx
  subst hr
  exact⟨λq=>(List.any_eq_true.mpr ⟨_,at_mem hx,q⟩).symm,λq=>h.step (by omega) hx q⟩
 ·symm
  rw[Bool.eq_false_iff]
  intro q
  obtain⟨x,hx,e⟩:=List.any_eq_true.mp q
  rw[h.done c x hx]at e;cases e
def nmdR_c(l:(List Hop))(a:Int)(b:Int):PC Tryz.prog:=⟨116,[(.s 2),.k,.k],[.sl 2 (l.map Hop.v) false,.int a,.int b],nmdR_e (nmd l a b),PSpec.of_ok λok=>(nmdR_p l a b ok).elim λI0 h=>h.elim λm0 h=>h.elim λI1 h=>mxP_of (sh:=.k) (enc:=nmdR_e) (a:=(nmdR_x l a b I0 m0 I1).an) h (by kernel_rfl) (AV.pureB_ok rfl),fnB_ok (by kernel_rfl)⟩
def witR_a(t:Tpl)(f:Flr):Prop:=okL [.agg [.sl 2 (t.rs.map Rtr.v) false,.sl 5 (t.ls.map Lnk.v) false],.agg [.sl 2 (f.ls.map Hop.v) false,.sl 1 (f.rs.map AV.int) false]]
def witR_n0(t:Tpl)(f:Flr)(t0:Int×(List Rtr)):NF:=⟨[(2,.k,.ref 0 0),(3,.k,.ref 1 0),(4,.k,.ref 2 0),(5,.k,.ref 3 0),(6,.k,.int t0.1)],[.box (.agg [.sl 2 (t.rs.map Rtr.v) false,.sl 5 (t.ls.map Lnk.v) false]),.box (.agg [.sl 2 (f.ls.map Hop.v) false,.sl 1 (f.rs.map AV.int) false]),.box (.agg [.sl 0 [] true,.sl 0 [] true]),.box (.agg [.vec 4,.sl 0 [] true]),.vec 2 (t0.2.map Rtr.v) (pureBL_map (λ_=>rfl) t0.2)]⟩
def witR_n1(t:Tpl)(f:Flr)(t0:Int×(List Rtr))(t1:Int×(List Lnk)):NF:=⟨[(2,.k,.ref 0 0),(3,.k,.ref 1 0),(4,.k,.ref 2 0),(5,.k,.ref 3 0),(7,.k,.int t1.1)],[.box (.agg [.sl 2 (t.rs.map Rtr.v) false,.sl 5 (t.ls.map Lnk.v) false]),.box (.agg [.sl 2 (f.ls.map Hop.v) false,.sl 1 (f.rs.map AV.int) false]),.box (.agg [.sl 0 [] true,.sl 0 [] true]),.box (.agg [.vec 4,.vec 5]),.vec 2 (t0.2.map Rtr.v) (pureBL_map (λ_=>rfl) t0.2),.vec 5 (t1.2.map Lnk.v) (pureBL_map (λ_=>rfl) t1.2)]⟩
def witR_n2(t:Tpl)(f:Flr)(t0:Int×(List Rtr))(t1:Int×(List Lnk))(x3:Lnk)(t2:Bool):NF:=⟨[(2,.k,.ref 0 0),(3,.k,.ref 1 0),(4,.k,.ref 2 0),(5,.k,.ref 3 0),(7,.k,.int t1.1),(8,.k,.ref 6 0),(75,.k,.bool t2)],[.box (.agg [.sl 2 (t.rs.map Rtr.v) false,.sl 5 (t.ls.map Lnk.v) false]),.box (.agg [.sl 2 (f.ls.map Hop.v) false,.sl 1 (f.rs.map AV.int) false]),.box (.agg [.sl 0 [] true,.sl 0 [] true]),.box (.agg [.vec 4,.vec 5]),.vec 2 (t0.2.map Rtr.v) (pureBL_map (λ_=>rfl) t0.2),.vec 5 (t1.2.map Lnk.v) (pureBL_map (λ_=>rfl) t1.2),.box (.agg [.int x3.a,.int x3.b,.int x3.ca,.int x3.cb,.int x3.w])]⟩
@[reducible] def witR_s:Nat→Type
 | 0=>Int×(List Rtr)
 | 1=>Int×(List Lnk)
 | 2=>Bool
 | _=>Unit
def witR_e(r:Tpl):AV:=Tpl.v r
def witR_x(t:Tpl)(f:Flr)(I0:(Int×(List Rtr))→Prop)(m0:(Int×(List Rtr))→Nat)(I1:Int×(List Rtr)→(Int×(List Lnk))→Prop)(m1:Int×(List Rtr)→(Int×(List Lnk))→Nat)(I2:Int×(List Rtr)→Int×(List Lnk)→Lnk→Bool→Prop):Ax Tryz.prog witR_s (Tpl):=
 (.callP (chk5_c t)
(.br 96 ((chk5 t) != 0) (.ret ((⟨[],[]⟩:Tpl)))
(.cmdL (.nilB 96 0 2) (.loop 0 (witR_n0 t f) I0 m0 (0,[]) [0,16,32,96,128] λ(t0:Int×(List Rtr)) b0 =>
(.br 85 (decide (t0.1<((t.rs.map Rtr.v).length:Int))) (.elI 165 Rtr.v t.rs t0.1 λx1 =>
(.callP (hasI_c f.rs x1.id)
(.br 245 (!(decide (x1.id∈f.rs))) (.elI 325 Rtr.v t.rs t0.1 λx2 =>
(.apX 373 Rtr.v t0.2 [x2] (t0.2.length+1)
(.bk 0 b0 (W (t0.1+1),t0.2++[x2]) [0,1,2,3,373])))
(.bk 0 b0 (W (t0.1+1),t0.2) [0,1,2,3,4]))))
(.cmdL (.nilB 3 1 5) (.loop 1 (witR_n1 t f t0) (I1 t0) (m1 t0) (0,[]) [0,1,2,3,4,101] λ(t1:Int×(List Lnk)) b1 =>
(.br 86 (decide (t1.1<((t.ls.map Lnk.v).length:Int))) (.elI 134 Lnk.v t.ls t1.1 λx3 =>
(.join 2 (witR_n2 t f t0 t1 x3) (λ(t2:Bool)=>I2 t0 t1 x3 t2) (λb2=>(.callP (hasI_c f.rs x3.a)
(.br 310 (!(decide (x3.a∈f.rs))) (.callP (hasI_c f.rs x3.b)
(.br 438 (!(decide (x3.b∈f.rs))) (.callP (nmdR_c f.ls x3.a x3.b)
(.bk 2 b2 ((!(nmd f.ls x3.a x3.b)):Bool) [0,1,2,3,4,5,166]))
(.bk 2 b2 ((false):Bool) [0,1,2,3,4,5,166])))
(.bk 2 b2 ((false):Bool) [0,1,2,3,4,5,166])))) λ(t2:Bool) =>
(.br 7 t2 (.apX 71 Lnk.v t1.2 [x3] (t1.2.length+1)
(.bk 1 b1 (W (t1.1+1),t1.2++[x3]) [0,1,2,3,4,71]))
(.bk 1 b1 (W (t1.1+1),t1.2) [0,1,2,3,4,5]))))
(.fz 5 Lnk.v t1.2 (λ_=>rfl) (.fz 4 Rtr.v t0.2 (λ_=>rfl) (.ret ((⟨t0.2,t1.2⟩:Tpl)))))))))))))
def witR_vc(t:Tpl)(f:Flr)(I0:(Int×(List Rtr))→Prop)(m0:(Int×(List Rtr))→Nat)(I1:Int×(List Rtr)→(Int×(List Lnk))→Prop)(m1:Int×(List Rtr)→(Int×(List Lnk))→Nat)(I2:Int×(List Rtr)→Int×(List Lnk)→Lnk→Bool→Prop)(r0:Tpl):Prop:=(witR_x t f I0 m0 I1 m1 I2).vp witR_e r0
theorem witR_p(t:Tpl)(f:Flr)(ok:witR_a t f):∃I0 m0 I1 m1 I2,witR_vc t f I0 m0 I1 m1 I2 (witT t f):=by
 refine⟨λq=>ForF t.rs (λr=>!decide (r.id∈f.rs)) q.1 q.2,λq=>t.rs.length-q.1.toNat,λ_ q=>ForF t.ls (λl=>!gone f l) q.1 q.2,λ_ q=>t.ls.length-q.1.toNat,λ_ q l b=>b=!gone f l,?_⟩
 simp only[witR_a,okU,Blk.ok,plainV,List.length_map]at ok
 dsimp only[witR_vc,witR_x,witR_s,Ax.vp,Ax.vc];simp only[vcU,rfU,List.length_map]
 unfold witT
 by_cases hc:chk5 t=0
 case neg=>exact⟨λ_=>by rw[if_neg hc],λh=>by simp[hc]at h⟩
 have h1:=(chk5_good hc).nr
 have h2:=(chk5_good hc).nl
 rw[if_pos hc]
 refine⟨λh=>by simp[hc]at h,λ_=>⟨ForF.zero,?_⟩⟩
 rintro⟨i,rs⟩ hF
 simp only at hF ⊢
 refine⟨λc=>⟨hF.idx,c,λx hx=>⟨λe=>⟨hF.idx,c,λy hy=>?_⟩,λe=>hF.drop (by omega) hx e⟩⟩,λc=>⟨ForF.zero,?_⟩⟩
 ·rw[hx]at hy;cases hy
  exact⟨by have:=hF.len;omega,hF.keep (by omega) hx e⟩
 rintro⟨j,ls⟩ hG
 simp only at hG ⊢
 refine⟨λd=>⟨hG.idx,d,λx hx=>⟨⟨λe=>⟨λe2=>?_,λe2=>?_⟩,λe=>?_⟩,?_⟩⟩,λd=>?_⟩
 ·have e:¬x.a∈f.rs:=by simpa using e
  have e2:¬x.b∈f.rs:=by simpa using e2
  simp[gone,e,e2]
 ·have e2:x.b∈f.rs:=by simpa using e2
  simp[gone,e2]
 ·have e:x.a∈f.rs:=by simpa using e
  simp[gone,e]
 ·rintro _ rfl
  exact⟨λe=>⟨by have:=hG.len;omega,hG.keep (by omega) hx e⟩,λe=>hG.drop (by omega) hx e⟩
 ·rw[hF.done c,hG.done d]
def witR_c(t:Tpl)(f:Flr):PC Tryz.prog:=⟨81,[(.a [(.s 2),(.s 5)]),(.a [(.s 2),(.s 1)])],[.agg [.sl 2 (t.rs.map Rtr.v) false,.sl 5 (t.ls.map Lnk.v) false],.agg [.sl 2 (f.ls.map Hop.v) false,.sl 1 (f.rs.map AV.int) false]],witR_e (witT t f),PSpec.of_ok λok=>(witR_p t f ok).elim λI0 h=>h.elim λm0 h=>h.elim λI1 h=>h.elim λm1 h=>h.elim λI2 h=>mxP_of (sh:=(.a [(.s 2),(.s 5)])) (enc:=witR_e) (a:=(witR_x t f I0 m0 I1 m1 I2).an) h (by kernel_rfl) (AV.pureB_ok rfl),fnB_ok (by kernel_rfl)⟩
def valS5_a(t:Tpl):Prop:=okL [.agg [.sl 2 (t.rs.map Rtr.v) false,.sl 5 (t.ls.map Lnk.v) false]]
def valS5_e(r:Bool):AV:=.bool r
def valS5_x(t:Tpl):Ax Tryz.prog noS (Bool):=
 (.callP (chkP_c t)
(.ret ((chk5 t)==0)))
def valS5_vc(t:Tpl)(r0:Bool):Prop:=(valS5_x t).vp valS5_e r0
theorem valS5_p(t:Tpl)(ok:valS5_a t):valS5_vc t (valP t):=by
 dsimp only[valS5_vc,valS5_x,noS,Ax.vp,Ax.vc];simp only[vcU,rfU,List.length_map]
 rfl
def valS5_c(t:Tpl):PC Tryz.prog:=⟨155,[(.a [(.s 2),(.s 5)])],[.agg [.sl 2 (t.rs.map Rtr.v) false,.sl 5 (t.ls.map Lnk.v) false]],valS5_e (valP t),PSpec.of_ok λok=>mxP_of (sh:=.k) (enc:=valS5_e) (a:=(valS5_x t).an) (valS5_p t ok) (by kernel_rfl) (AV.pureB_ok rfl),fnB_ok (by kernel_rfl)⟩
structure okCst (L:Lks):Prop where
  len:L.length≤1000000
  nd:(mkeys L).Nodup
  to:∀x,∀s∈mval L x [],s.to∈mkeys L
  cost:∀x,∀s∈mval L x [],1≤s.cost∧s.cost≤1000
structure DJ (L:Lks) (f:Int) (out op:Dis):Prop where
  di:DInv L out op
  src:(f,0)∈out∨(f,0)∈op
  tgt:∀p,p∈out∨p∈op→p.1≠f→∃q∈out,∃s∈mval L q.1 [],s.to=p.1∧p.2=q.2+s.cost
  mon:∀p∈out,∀q∈op,p.2≤q.2
  bnd:∀p,p∈out∨p∈op→0≤p.2∧p.2≤1000 * out.length
theorem DJ.relx{L:Lks}{f:Int}{out op:Dis}{b c:Int}(hL:okCst L)(h:DJ L f out op)(hb:(b,c)∈out)(ht:∀p∈out,p.2≤c)(hc:c+1000≤1000 * out.length){s:Stp}(hs:s∈mval L b []) :
  DJ L f out (relx c out op s)∧(∀x n,(x,n)∈op→∃m,m≤n∧(x,m)∈Go.Proofs.YtdoacjojljgdcaaGreat.relx c out op s)∧∃n,n≤c+s.cost∧((s.to,n)∈out∨(s.to,n)∈Go.Proofs.YtdoacjojljgdcaaGreat.relx c out op s):=by
 obtain⟨c1,c2⟩:=hL.cost b s hs
 have c0:=(h.bnd _ (.inl hb)).1
 have hDi:=h.di.relx (c:=c) (hL.to b s hs)
 have hlen:=h.di.len1
 have hll:=hL.len
 have hW:W (c+s.cost)=c+s.cost:=W_eq ⟨by omega,by omega⟩
 revert hDi
 unfold Go.Proofs.YtdoacjojljgdcaaGreat.relx
 rw[hW]
 by_cases e1:mhas out s.to=true
 ·rw[if_pos e1]
  intro hDi
  refine⟨h,λx n hx=>⟨n,Int.le_refl _,hx⟩,?_⟩
  obtain⟨n,hn⟩:=mhas_iff.mp e1
  exact⟨n,by have:=ht _ hn;simp at this;omega,.inl hn⟩
 rw[if_neg e1]
 by_cases e2:mhas op s.to=false∨c+s.cost<mval op s.to 0
 ·rw[if_pos e2]
  intro hDi
  have hm:=λp=>mput_mem (l:=op) (p:=p) (x:=s.to) (v:=c+s.cost) h.di.np
  refine⟨⟨hDi,?_,?_,?_,?_⟩,λx n hx=>?_,⟨c+s.cost,Int.le_refl _,.inr ((hm _).mpr (.inl rfl))⟩⟩
  ·rcases h.src with q|q
   ·exact .inl q
   ·refine .inr ((hm _).mpr (.inr ⟨q,?_⟩))
    rintro rfl
    rcases e2 with e2|e2
    ·exact mhas_no.mp e2 _ q
    ·rw[mval_eq h.di.np q]at e2;omega
  ·rintro p (hp|hp) hpf
   ·exact h.tgt p (.inl hp) hpf
   ·rcases(hm _).mp hp with rfl|⟨hp,_⟩
    ·exact⟨_,hb,s,hs,rfl,rfl⟩
    ·exact h.tgt p (.inr hp) hpf
  ·intro p hp q hq
   rcases(hm _).mp hq with rfl|⟨hq,_⟩
   ·have:=ht p hp;simp only;omega
   ·exact h.mon p hp q hq
  ·rintro p (hp|hp)
   ·exact h.bnd p (.inl hp)
   ·rcases(hm _).mp hp with rfl|⟨hp,_⟩
    ·simp only;omega
    ·exact h.bnd p (.inr hp)
  ·by_cases ex:x=s.to
   ·subst ex
    refine⟨c+s.cost,?_,(hm _).mpr (.inl rfl)⟩
    rcases e2 with e2|e2
    ·exact absurd hx (mhas_no.mp e2 _)
    ·rw[mval_eq h.di.np hx]at e2;omega
   ·exact⟨n,Int.le_refl _,(hm _).mpr (.inr ⟨hx,ex⟩)⟩
 ·rw[if_neg e2]
  intro hDi
  refine⟨h,λx n hx=>⟨n,Int.le_refl _,hx⟩,?_⟩
  have e3:mhas op s.to=true:=by
   cases q:mhas op s.to
   ·exact absurd (.inl q) e2
   ·rfl
  have e4:¬c+s.cost<mval op s.to 0:=λq=>e2 (.inr q)
  exact⟨mval op s.to 0,by omega,.inr (mval_mem e3)⟩
theorem DJ.fold{L:Lks}{f:Int}{out:Dis}{b c:Int}(hL:okCst L)(hb:(b,c)∈out)(ht:∀p∈out,p.2≤c)(hc:c+1000≤1000 * out.length):∀{l:List Stp} {op:Dis},DJ L f out op→(∀s∈l,s∈mval L b []) →
  DJ L f out (l.foldl (Go.Proofs.YtdoacjojljgdcaaGreat.relx c out) op)∧(∀x n,(x,n)∈op→∃m,m≤n∧(x,m)∈l.foldl (Go.Proofs.YtdoacjojljgdcaaGreat.relx c out) op)∧∀s∈l,∃n,n≤c+s.cost∧((s.to,n)∈out∨(s.to,n)∈l.foldl (Go.Proofs.YtdoacjojljgdcaaGreat.relx c out) op)
 | [],op,h,_=>⟨h,λx n hx=>⟨n,Int.le_refl _,hx⟩,λs hs=>by cases hs⟩
 | s::l,op,h,hs=>by
  obtain⟨h1,h2,h3⟩:=h.relx hL hb ht hc (hs s (by simp))
  obtain⟨g1,g2,g3⟩:=DJ.fold hL hb ht hc h1 λx hx=>hs x (List.mem_cons_of_mem _ hx)
  rw[List.foldl_cons]
  refine⟨g1,λx n hx=>?_,λq hq=>?_⟩
  ·obtain⟨m,hm,hx⟩:=h2 x n hx
   obtain⟨m',hm',hx⟩:=g2 x m hx
   exact⟨m',by omega,hx⟩
  ·rcases List.mem_cons.mp hq with rfl|hq
   ·obtain⟨n,hn,hx|hx⟩:=h3
    ·exact⟨n,hn,.inl hx⟩
    ·obtain⟨m',hm',hx⟩:=g2 _ n hx
     exact⟨m',by omega,.inr hx⟩
   ·exact g3 q hq
structure Fin5 (L:Lks) (f:Int) (D:Dis):Prop where
  nd:(mkeys D).Nodup
  ke:∀x∈mkeys D,x∈mkeys L
  src:(f,0)∈D
  rlx:∀p∈D,∀s∈mval L p.1 [],∃n,n≤p.2+s.cost∧(s.to,n)∈D
  tgt:∀p∈D,p.1≠f→∃q∈D,∃s∈mval L q.1 [],s.to=p.1∧p.2=q.2+s.cost
  pos:∀p∈D,0≤p.2∧p.2≤1000 * D.length
theorem mem_all{l m:List Int}(hl:l.Nodup)(hm:m.Nodup)(hs:∀x∈l,x∈m)(e:l.length=m.length):∀x∈m,x∈l:=λx hx=>by
 refine Classical.byContradiction λq=>?_
 have h2:(x::l).Nodup:=List.nodup_cons.mpr ⟨q,hl⟩
 have:=List.Nodup.length_le_of_subset h2 (l₂:=m) λy hy=>by
  rcases List.mem_cons.mp hy with rfl|hy
  ·exact hx
  ·exact hs y hy
 simp at this;omega
theorem dij_fin{L:Lks}{f:Int}(hL:okCst L):∀(n:Nat) (out op:Dis),DJ L f out op→(∀p∈out,∀s∈mval L p.1 [],∃n,n≤p.2+s.cost∧((s.to,n)∈out∨(s.to,n)∈op))→n=L.length-out.length→out.length<L.length→Fin5 L f (dijN L n out op)
 | 0,out,op,h,hr,hn,hl=>by omega
 | n+1,out,op,h,hr,hn,hl=>by
  rw[dijN]
  by_cases e:op=[]
  ·rw[if_pos e]
   subst e
   refine⟨h.di.no,h.di.ko,?_,λp hp s hs=>?_,λp hp hf=>h.tgt p (.inl hp) hf,λp hp=>h.bnd p (.inl hp)⟩
   ·rcases h.src with q|q
    ·exact q
    ·cases q
   ·obtain⟨n,hn,hx|hx⟩:=hr p hp s hs
    ·exact⟨n,hn,hx⟩
    ·cases hx
  rw[if_neg e]
  obtain⟨c,hc,hmin⟩:=bst_in e
  rw[mval_eq h.di.np hc]
  generalize bst op=b at hc hmin ⊢
  have hbk:b∈mkeys op:=mkeys_mem.mpr ⟨c,hc⟩
  have hbo:=h.di.di b hbk
  obtain⟨hD,hlen⟩:=h.di.pop (c:=c) hbk
  have hmo:=λp=>mput_mem (l:=out) (p:=p) (x:=b) (v:=c) h.di.no
  have hmd:=λp=>mdl_mem (l:=op) (p:=p) (x:=b) h.di.np
  have hout:∀p∈out,p∈mput out b c:=λp hp=>(hmo p).mpr (.inr ⟨hp,λe=>hbo (mkeys_mem.mpr ⟨p.2,by rw[←e];exact hp⟩)⟩)
  have htop:∀p∈mput out b c,p.2≤c:=λp hp=>by
   rcases(hmo p).mp hp with rfl|⟨hp,_⟩
   ·exact Int.le_refl _
   ·exact h.mon p hp _ hc
  have hmv:∀p,p∈op→p∈mput out b c∨p∈mdl op b:=λp hp=>by
   by_cases e:p.1=b
   ·refine .inl ((hmo p).mpr (.inl ?_))
    have:p.2=c:=mkey_inj h.di.np (x:=b) (by rw[←e];exact hp) hc
    exact Prod.ext e this
   ·exact .inr ((hmd p).mpr ⟨hp,e⟩)
  have hback:∀p,p∈mput out b c∨p∈mdl op b→p∈out∨p∈op:=λp hp=>by
   rcases hp with hp|hp
   ·rcases(hmo p).mp hp with rfl|⟨hp,_⟩
    ·exact .inr hc
    ·exact .inl hp
   ·exact .inr ((hmd p).mp hp).1
  have hJ:DJ L f (mput out b c) (mdl op b):=by
   refine⟨hD,?_,λp hp hf=>?_,λp hp q hq=>?_,λp hp=>?_⟩
   ·rcases h.src with q|q
    ·exact .inl (hout _ q)
    ·exact hmv _ q
   ·obtain⟨q,hq,s,hs,h1,h2⟩:=h.tgt p (hback p hp) hf
    exact⟨q,hout q hq,s,hs,h1,h2⟩
   ·have h1:=htop p hp
    have h2:=hmin q ((hmd q).mp hq).1
    unfold bfr at h2;simp only at h2;omega
   ·have:=h.bnd p (hback p hp)
    rw[hlen];omega
  have hcb:=h.bnd _ (.inr hc)
  simp only at hcb
  have hbm:(b,c)∈mput out b c:=(hmo _).mpr (.inl rfl)
  have hold:∀p∈out,∀s∈mval L p.1 [],∃n,n≤p.2+s.cost∧((s.to,n)∈mput out b c∨(s.to,n)∈mdl op b):=λp hp s hs=>by
   obtain⟨n,hn,hx|hx⟩:=hr p hp s hs
   ·exact⟨n,hn,.inl (hout _ hx)⟩
   ·exact⟨n,hn,hmv _ hx⟩
  by_cases e2:(mput out b c).length=L.length
  ·rw[if_pos e2]
   have hall:=mem_all hD.no hL.nd hD.ko (by rw[mkeys_len,mkeys_len,e2])
   have hemp:∀p,p ∉ mdl op b:=λp hp=>by
    have hk:p.1∈mkeys (mdl op b):=mkeys_mem.mpr ⟨p.2,hp⟩
    exact hD.di _ hk (hall _ (hD.kp _ hk))
   refine⟨hD.no,hD.ko,?_,λp hp s hs=>?_,λp hp hf=>hJ.tgt p (.inl hp) hf,λp hp=>hJ.bnd p (.inl hp)⟩
   ·rcases hJ.src with q|q
    ·exact q
    ·exact absurd q (hemp _)
   ·rcases(hmo p).mp hp with rfl|⟨hp',_⟩
    ·obtain⟨n,hn⟩:=mkeys_mem.mp (hall _ (hL.to _ s hs))
     have h1:=htop _ hn
     have h2:=hL.cost _ s hs
     exact⟨n,by simp only at h1 ⊢;omega,hn⟩
    ·obtain⟨n,hn,hx|hx⟩:=hold p hp' s hs
     ·exact⟨n,hn,hx⟩
     ·exact absurd hx (hemp _)
  ·rw[if_neg e2]
   obtain⟨g1,g2,g3⟩:=hJ.fold hL hbm htop (by rw[hlen];omega) (l:=mval L b []) λs hs=>hs
   refine dij_fin hL n _ _ g1 (λp hp s hs=>?_) (by rw[hlen];omega) (by have:=hD.len1;omega)
   rcases(hmo p).mp hp with rfl|⟨hp',_⟩
   ·exact g3 s hs
   ·obtain⟨n,hn,hx|hx⟩:=hold p hp' s hs
    ·exact⟨n,hn,.inl hx⟩
    ·obtain⟨m,hm,hx⟩:=g2 _ _ hx
     exact⟨m,by omega,.inr hx⟩
theorem dijT_fin{L:Lks}{f:Int}(hL:okCst L)(hf:f∈mkeys L):Fin5 L f (dijT L f):=by
 have h0:0<L.length:=by rw[←mkeys_len];exact List.length_pos_of_mem hf
 have e:mput ([]:Dis) f 0=[(f,0)]:=rfl
 rw[dijT,if_pos (show mhas L f=true from decide_eq_true hf),e]
 refine dij_fin hL _ _ _ ⟨⟨by simp[mkeys],by simp[mkeys],by simp[mkeys],by simp[mkeys];simpa[mkeys]using hf,by simp[mkeys]⟩,.inr (by simp),λp hp hpf=>?_,by simp,λp hp=>?_⟩ (by simp) (by simp) (by simpa using h0)
 ·rcases hp with hp|hp
  ·cases hp
  ·rw[List.mem_singleton.mp hp]at hpf;exact absurd rfl hpf
 ·rcases hp with hp|hp
  ·cases hp
  ·rw[List.mem_singleton.mp hp];simp
inductive PathL (L:Lks) (f:Int):Int→Int→Prop
  | nil:PathL L f f 0
  | snoc {u n:Int} {s:Stp}:PathL L f u n→s∈mval L u []→PathL L f s.to (n+s.cost)
theorem Fin5.low{L:Lks}{f:Int}{D:Dis}(h:Fin5 L f D){v n:Int}(p:PathL L f v n):∃m,m≤n∧(v,m)∈D:=by
 induction p with
 | nil=>exact⟨0,Int.le_refl _,h.src⟩
 | snoc q hs ih =>
  obtain⟨m,hm,hx⟩:=ih
  obtain⟨k,hk,hx⟩:=h.rlx _ hx _ hs
  exact⟨k,by simp only at hk;omega,hx⟩
theorem Fin5.path{L:Lks}{f:Int}{D:Dis}(hL:okCst L)(h:Fin5 L f D):∀(k:Nat) {v n:Int},n.toNat≤k→(v,n)∈D→PathL L f v n
 | k,v,n,hk,hx=>by
  by_cases e:v=f
  ·subst e
   have:=mkey_inj h.nd hx h.src
   subst this;exact .nil
  ·obtain⟨⟨u,m⟩,hq,s,hs,h1,h2⟩:=h.tgt _ hx e
   simp only at h1 h2 hs
   have hc:=hL.cost _ s hs
   have hp:=(h.pos _ hq).1
   have hp2:=(h.pos _ hx).1
   simp only at hp hp2
   subst h1;subst h2
   match k with
   | 0=>omega
   | k+1=>exact .snoc (Fin5.path hL h k (by omega) hq) hs
theorem dij_least{L:Lks}{f:Int}(hL:okCst L)(hf:f∈mkeys L){v m:Int}:(v,m)∈dijT L f↔PathL L f v m∧∀n,PathL L f v n→m≤n:=by
 have h:=dijT_fin hL hf
 constructor
 ·intro hx
  refine⟨h.path hL _ (Nat.le_refl _) hx,λn p=>?_⟩
  obtain⟨k,hk,hx'⟩:=h.low p
  rw[mkey_inj h.nd hx hx'];exact hk
 ·rintro⟨p,q⟩
  obtain⟨k,hk,hx⟩:=h.low p
  have:=q k (h.path hL _ (Nat.le_refl _) hx)
  have:k=m:=by omega
  rw[←this];exact hx
def isR(r:Int)(x:Rtr):Bool:=x.id==r
theorem idxF_rng{α:Type}{p:α→Bool}{l:List α}(h:l.any p=true):0≤idxF p l∧idxF p l<l.length:=by
 rw[idxF,if_pos h]
 have:l.findIdx p<l.length:=List.findIdx_lt_length.mpr (List.any_eq_true.mp h)
 omega
def plc6(t:Tpl)(r:Int):Int:=if has5 t r=true then idxF (isR r) t.rs else 0
theorem plc6_rng{t:Tpl}{r:Int}(h:0<t.rs.length):0≤plc6 t r∧plc6 t r<t.rs.length:=by
 unfold plc6
 split
 ·rename_i c;exact idxF_rng c
 ·omega
def plc6_a(t:Tpl)(r:Int):Prop:=okL [.agg [.sl 2 (t.rs.map Rtr.v) false,.sl 5 (t.ls.map Lnk.v) false],.int r]
def plc6_n0(t:Tpl)(r:Int)(t0:Int):NF:=⟨[(1,.k,.int r),(2,.k,.ref 0 0),(5,.k,.int t0)],[.box (.agg [.sl 2 (t.rs.map Rtr.v) false,.sl 5 (t.ls.map Lnk.v) false])]⟩
@[reducible] def plc6_s:Nat→Type
 | 0=>Int
 | _=>Unit
def plc6_e(r:Int):AV:=.int r
def plc6_x(t:Tpl)(r:Int)(I0:Int→Prop)(m0:Int→Nat):Ax Tryz.prog plc6_s (Int):=
 (.loop 0 (plc6_n0 t r) I0 m0 ((0):Int) [0] λ(t0:Int) b0 =>
(.br 81 (decide (t0<((t.rs.map Rtr.v).length:Int))) (.elI 129 Rtr.v t.rs t0 λx1 =>
(.br 209 (x1.id==r) (.ret (t0))
(.bk 0 b0 ((W (t0+1)):Int) [0])))
(.ret (0))))
def plc6_vc(t:Tpl)(r:Int)(I0:Int→Prop)(m0:Int→Nat)(r0:Int):Prop:=(plc6_x t r I0 m0).vp plc6_e r0
theorem plc6_p(t:Tpl)(r:Int)(ok:plc6_a t r):∃I m,plc6_vc t r I m (plc6 t r):=by
 refine⟨λi=>ForI t.rs (λx=>isR r x=false) i,λi=>t.rs.length-i.toNat,?_⟩
 simp only[plc6_a,okU,Blk.ok,plainV,List.length_map]at ok
 dsimp only[plc6_vc,plc6_x,plc6_s,Ax.vp,Ax.vc];simp only[vcU,rfU,List.length_map]
 refine⟨ForI.zero,λi h=>⟨λc=>⟨h.idx,c,λx hx=>⟨λq=>?_,λq=>h.step (by omega) hx q⟩⟩,λc=>?_⟩⟩
 ·have:has5 t r=true:=List.any_eq_true.mpr ⟨x,at_mem hx,q⟩
  rw[plc6,if_pos this];exact h.found hx q
 ·have:¬has5 t r=true:=λq=>by
   obtain⟨x,hx,q⟩:=List.any_eq_true.mp q
   have:=h.done c x hx
   rw[isR,q]at this;cases this
  rw[plc6,if_neg this]
def plc6_c(t:Tpl)(r:Int):PC Tryz.prog:=⟨159,[(.a [(.s 2),(.s 5)]),.k],[.agg [.sl 2 (t.rs.map Rtr.v) false,.sl 5 (t.ls.map Lnk.v) false],.int r],plc6_e (plc6 t r),PSpec.of_ok λok=>(plc6_p t r ok).elim λI0 h=>h.elim λm0 h=>mxP_of (sh:=.k) (enc:=plc6_e) (a:=(plc6_x t r I0 m0).an) h (by kernel_rfl) (AV.pureB_ok rfl),fnB_ok (by kernel_rfl)⟩
def okD(t:Tpl)(d:List Int):Prop:=d.length=t.rs.length∧t.rs.length≤1000
def at6(t:Tpl)(d:List Int)(r:Int):Int:=if has5 t r=true then d.getD (idxF (isR r) t.rs).toNat 0 else 1073741824
def at6_a(t:Tpl)(d:(List Int))(r:Int):Prop:=okL [.agg [.sl 2 (t.rs.map Rtr.v) false,.sl 5 (t.ls.map Lnk.v) false],.sl 1 (d.map AV.int) false,.int r]
def at6_n0(t:Tpl)(d:(List Int))(r:Int)(t0:Int):NF:=⟨[(1,.k,.sl 1 (d.map AV.int) false),(2,.k,.int r),(3,.k,.ref 0 0),(7,.k,.int t0)],[.box (.agg [.sl 2 (t.rs.map Rtr.v) false,.sl 5 (t.ls.map Lnk.v) false])]⟩
@[reducible] def at6_s:Nat→Type
 | 0=>Int
 | _=>Unit
def at6_e(r:Int):AV:=.int r
def at6_x(t:Tpl)(d:(List Int))(r:Int)(I0:Int→Prop)(m0:Int→Nat):Ax Tryz.prog at6_s (Int):=
 (.loop 0 (at6_n0 t d r) I0 m0 ((0):Int) [0] λ(t0:Int) b0 =>
(.br 81 (decide (t0<((t.rs.map Rtr.v).length:Int))) (.elI 129 Rtr.v t.rs t0 λx1 =>
(.br 209 (x1.id==r) (.elI 241 AV.int d t0 λx2 =>
(.ret (x2)))
(.bk 0 b0 ((W (t0+1)):Int) [0])))
(.ret (1073741824))))
def at6_vc(t:Tpl)(d:(List Int))(r:Int)(I0:Int→Prop)(m0:Int→Nat)(r0:Int):Prop:=(at6_x t d r I0 m0).vp at6_e r0
theorem at6_p(t:Tpl)(d:List Int)(r:Int)(h:okD t d)(ok:at6_a t d r):∃I m,at6_vc t d r I m (at6 t d r):=by
 refine⟨λi=>ForI t.rs (λx=>isR r x=false) i,λi=>t.rs.length-i.toNat,?_⟩
 dsimp only[at6_vc,at6_x,at6_s,Ax.vp,Ax.vc];simp only[vcU,rfU,List.length_map]
 obtain⟨hd,hn⟩:=h
 refine⟨ForI.zero,λi h=>⟨λc=>⟨h.idx,c,λx hx=>⟨λq=>⟨h.idx,by omega,λy hy=>?_⟩,λq=>h.step (by omega) hx q⟩⟩,λc=>?_⟩⟩
 ·have e:has5 t r=true:=List.any_eq_true.mpr ⟨x,at_mem hx,q⟩
  rw[at6,if_pos e,←h.found hx q,List.getD_eq_getElem?_getD,hy];rfl
 ·have:¬has5 t r=true:=λq=>by
   obtain⟨x,hx,q⟩:=List.any_eq_true.mp q
   have:=h.done c x hx
   rw[isR,q]at this;cases this
  rw[at6,if_neg this]
def at6_c(t:Tpl)(d:(List Int))(r:Int)(h:okD t d):PC Tryz.prog:=⟨158,[(.a [(.s 2),(.s 5)]),(.s 1),.k],[.agg [.sl 2 (t.rs.map Rtr.v) false,.sl 5 (t.ls.map Lnk.v) false],.sl 1 (d.map AV.int) false,.int r],at6_e (at6 t d r),PSpec.of_ok λok=>(at6_p t d r h ok).elim λI0 h=>h.elim λm0 h=>mxP_of (sh:=.k) (enc:=at6_e) (a:=(at6_x t d r I0 m0).an) h (by kernel_rfl) (AV.pureB_ok rfl),fnB_ok (by kernel_rfl)⟩
def rlx1(d:List Int)(a b:Nat)(c:Int):List Int:=if d.getD b 0<1073741824 then d.set a (minI (d.getD a 0) (W (c+d.getD b 0)))else d
def rlx(t:Tpl)(d:List Int)(l:Lnk):List Int:=rlx1 (rlx1 d (plc6 t l.a).toNat (plc6 t l.b).toNat l.ca) (plc6 t l.b).toNat (plc6 t l.a).toNat l.cb
def rndD(t:Tpl):Nat→List Int→List Int
 | 0,d=>d
 | n+1,d=>t.ls.foldl (rlx t) (rndD t n d)
def to0(t:Tpl)(r:Int):List Int:=t.rs.map λx=>if isR r x=true then 0 else 1073741824
def to6(t:Tpl)(r:Int):List Int:=rndD t t.rs.length (to0 t r)
theorem rlx1_len{d:List Int}{a b:Nat}{c:Int}:(rlx1 d a b c).length=d.length:=by unfold rlx1;split<;>simp
theorem rlx_len{t:Tpl}{d:List Int}{l:Lnk}:(rlx t d l).length=d.length:=by rw[rlx,rlx1_len,rlx1_len]
theorem fold_rlx_len{t:Tpl}:∀{ls:List Lnk} {d:List Int},(ls.foldl (rlx t) d).length=d.length
 | [],d=>rfl
 | l::ls,d=>by rw[List.foldl_cons,fold_rlx_len,rlx_len]
theorem rndD_len{t:Tpl}{d:List Int}:∀{n:Nat},(rndD t n d).length=d.length
 | 0=>rfl
 | n+1=>by rw[rndD,fold_rlx_len,rndD_len]
theorem to6_len{t:Tpl}{r:Int}:(to6 t r).length=t.rs.length:=by rw[to6,rndD_len,to0,List.length_map]
theorem mem_set{l:List Int}{k:Nat}{v:Int}{P:Int→Prop}(h:∀x∈l,P x)(hv:P v):∀x∈l.set k v,P x:=λx hx=>by
 rcases List.mem_or_eq_of_mem_set hx with q|q
 ·exact h x q
 ·exact q ▸ hv
theorem getD_nn{d:List Int}(h:∀x∈d,0≤x)(k:Nat):0≤d.getD k 0:=by
 rw[List.getD_eq_getElem?_getD]
 cases e:d[k]? with
 | none=>simp
 | some x=>exact h x (mem_of_get e)
theorem rlx1_nn{d:List Int}{a b:Nat}{c:Int}(h:∀x∈d,0≤x)(hc:1≤c∧c≤1000):∀x∈rlx1 d a b c,0≤x:=by
 unfold rlx1
 split
 ·have h1:=getD_nn h a
  have h2:=getD_nn h b
  refine mem_set h ?_
  rw[W_eq (by omega)]
  unfold minI;split<;>omega
 ·exact h
theorem cst5_iff{n:Int}:cst5 n=true↔1≤n∧n≤1000:=by unfold cst5;simp
theorem rlx_nn{t:Tpl}{d:List Int}{l:Lnk}(h:∀x∈d,0≤x)(hl:lnkR l):∀x∈rlx t d l,0≤x:=rlx1_nn (rlx1_nn h (cst5_iff.mp hl.1)) (cst5_iff.mp hl.2.1)
theorem chk5_ls{t:Tpl}(h:chk5 t=0):∀l∈t.ls,lnkR l:=by
 refine Classical.byContradiction λq=>?_
 unfold chk5 at h
 by_cases c1:24<t.rs.length∨60<t.ls.length
 ·rw[if_pos c1]at h;cases h
 rw[if_neg c1]at h
 by_cases c2:¬∀x∈t.rs,1≤x.id∧x.id≤99
 ·rw[if_pos c2]at h;cases h
 rw[if_neg c2]at h
 by_cases c3:¬t.rs.Pairwise (λx y=>x.id<y.id)
 ·rw[if_pos c3]at h;cases h
 rw[if_neg c3,if_pos q]at h;cases h
theorem set_mid{α:Type}{A B:List α}{k:Nat}{x v:α}(h:A.length=k):(A++x::B).set k v=A++v::B:=by
 subst h;rw[List.set_append_right _ _ (Nat.le_refl _),Nat.sub_self,List.set_cons_zero]
theorem getD_of{d:List Int}{k:Nat}{x:Int}(h:d[k]?=some x):d.getD k 0=x:=by rw[List.getD_eq_getElem?_getD,h];rfl
def to6_a(t:Tpl)(to_:Int):Prop:=okL [.agg [.sl 2 (t.rs.map Rtr.v) false,.sl 5 (t.ls.map Lnk.v) false],.int to_]
def to6_n0(t:Tpl)(to_:Int)(t0:Int×(List Int)):NF:=⟨[(1,.k,.int to_),(2,.k,.ref 0 0),(5,.k,.vec 1),(6,.k,.int t0.1)],[.box (.agg [.sl 2 (t.rs.map Rtr.v) false,.sl 5 (t.ls.map Lnk.v) false]),.vec 1 (t0.2.map AV.int) (pureBL_map (λ_=>rfl) t0.2)]⟩
def to6_n1(t:Tpl)(t1:Int×(List Int)):NF:=⟨[(2,.k,.ref 0 0),(5,.k,.vec 1),(7,.k,.int t1.1)],[.box (.agg [.sl 2 (t.rs.map Rtr.v) false,.sl 5 (t.ls.map Lnk.v) false]),.vec 1 (t1.2.map AV.int) (pureBL_map (λ_=>rfl) t1.2)]⟩
def to6_n2(t:Tpl)(t1:Int×(List Int))(t2:Int×(List Int)):NF:=⟨[(2,.k,.ref 0 0),(5,.k,.vec 1),(7,.k,.int t1.1),(8,.k,.int t2.1)],[.box (.agg [.sl 2 (t.rs.map Rtr.v) false,.sl 5 (t.ls.map Lnk.v) false]),.vec 1 (t2.2.map AV.int) (pureBL_map (λ_=>rfl) t2.2)]⟩
def to6_n3(t:Tpl)(t1:Int×(List Int))(t2:Int×(List Int))(x4:Lnk)(t3:(List Int)):NF:=⟨[(2,.k,.ref 0 0),(5,.k,.vec 1),(7,.k,.int t1.1),(8,.k,.int t2.1),(9,.k,.ref 2 0),(10,.k,.int (plc6 t x4.a)),(11,.k,.int (plc6 t x4.b))],[.box (.agg [.sl 2 (t.rs.map Rtr.v) false,.sl 5 (t.ls.map Lnk.v) false]),.vec 1 (t3.map AV.int) (pureBL_map (λ_=>rfl) t3),.box (.agg [.int x4.a,.int x4.b,.int x4.ca,.int x4.cb,.int x4.w])]⟩
@[reducible] def to6_s:Nat→Type
 | 0=>Int×(List Int)
 | 1=>Int×(List Int)
 | 2=>Int×(List Int)
 | 3=>(List Int)
 | _=>Unit
def to6_e(r:(List Int)):AV:=.sl 1 (r.map AV.int) false
def to6_x(t:Tpl)(to_:Int)(I0:(Int×(List Int))→Prop)(m0:(Int×(List Int))→Nat)(I1:Int×(List Int)→(Int×(List Int))→Prop)(m1:Int×(List Int)→(Int×(List Int))→Nat)(I2:Int×(List Int)→Int×(List Int)→(Int×(List Int))→Prop)(m2:Int×(List Int)→Int×(List Int)→(Int×(List Int))→Nat)(I3:Int×(List Int)→Int×(List Int)→Int×(List Int)→Lnk→(List Int)→Prop):Ax Tryz.prog to6_s ((List Int)):=
 (.say (λR=>Rf (AV.int 0) (ck (cond (decide (0≤((t.rs.map Rtr.v).length:Int))) (cond (decide (((t.rs.map Rtr.v).length:Int)≤((t.rs.map Rtr.v).length:Int))) (decide (((t.rs.map Rtr.v).length:Int)≤1048576)) false) false)
R)) (.rep 80 AV.int 0
(.loop 0 (to6_n0 t to_) I0 m0 (0,List.replicate (((t.rs.map Rtr.v).length:Int).toNat) 0) [0,80] λ(t0:Int×(List Int)) b0 =>
(.br 66 (decide (t0.1<((t0.2.map AV.int).length:Int))) (.stJ 114 AV.int t0.2 t0.1 (λy1=>1073741824) λy1 =>
(.elI 178 Rtr.v t.rs t0.1 λx2 =>
(.br 258 (x2.id==to_) (.stJ 306 AV.int (t0.2.set t0.1.toNat 1073741824) t0.1 (λy3=>0) λy3 =>
(.bk 0 b0 (W (t0.1+1),(t0.2.set t0.1.toNat 1073741824).set t0.1.toNat 0) [0,1]))
(.bk 0 b0 (W (t0.1+1),t0.2.set t0.1.toNat 1073741824) [0,1]))))
(.loop 1 (to6_n1 t) (I1 t0) (m1 t0) (0,t0.2) [0,1] λ(t1:Int×(List Int)) b1 =>
(.br 66 (decide (t1.1<((t1.2.map AV.int).length:Int))) (.loop 2 (to6_n2 t t1) (I2 t0 t1) (m2 t0 t1) (0,t1.2) [0,1] λ(t2:Int×(List Int)) b2 =>
(.br 82 (decide (t2.1<((t.ls.map Lnk.v).length:Int))) (.elI 130 Lnk.v t.ls t2.1 λx4 =>
(.callP (plc6_c t x4.a)
(.callP (plc6_c t x4.b)
(.join 3 (to6_n3 t t1 t2 x4) (λ(t3:(List Int))=>I3 t0 t1 t2 x4 t3) (λb3=>(.elJ 402 AV.int t2.2 (plc6 t x4.b) λx5 =>
(.br 434 (decide (x5<1073741824)) (.elJ 514 AV.int t2.2 (plc6 t x4.a) λx6 =>
(.elJ 610 AV.int t2.2 (plc6 t x4.b) λx7 =>
(.stJ 674 AV.int t2.2 (plc6 t x4.a) (λy8=>(minI x6 (W (x4.ca+x7)))) λy8 =>
(.bk 3 b3 ((t2.2.set ((plc6 t x4.a).toNat) (minI x6 (W (x4.ca+x7)))):(List Int)) [0,1,162]))))
(.bk 3 b3 ((t2.2):(List Int)) [0,1,162])))) λ(t3:(List Int)) =>
(.elJ 51 AV.int t3 (plc6 t x4.a) λx9 =>
(.br 83 (decide (x9<1073741824)) (.elJ 163 AV.int t3 (plc6 t x4.b) λx10 =>
(.elJ 259 AV.int t3 (plc6 t x4.a) λx11 =>
(.stJ 323 AV.int t3 (plc6 t x4.b) (λy12=>(minI x10 (W (x4.cb+x11)))) λy12 =>
(.bk 2 b2 (W (t2.1+1),t3.set ((plc6 t x4.b).toNat) (minI x10 (W (x4.cb+x11)))) [0,1]))))
(.bk 2 b2 (W (t2.1+1),t3) [0,1])))))))
(.bk 1 b1 (W (t1.1+1),t2.2) [0,1])))
(.fz 1 AV.int t1.2 (λ_=>rfl) (.ret (t1.2)))))))))
def to6_vc(t:Tpl)(to_:Int)(I0:(Int×(List Int))→Prop)(m0:(Int×(List Int))→Nat)(I1:Int×(List Int)→(Int×(List Int))→Prop)(m1:Int×(List Int)→(Int×(List Int))→Nat)(I2:Int×(List Int)→Int×(List Int)→(Int×(List Int))→Prop)(m2:Int×(List Int)→Int×(List Int)→(Int×(List Int))→Nat)(I3:Int×(List Int)→Int×(List Int)→Int×(List Int)→Lnk→(List Int)→Prop)(r0:(List Int)):Prop:=(to6_x t to_ I0 m0 I1 m1 I2 m2 I3).vp to6_e r0
theorem to6_p(t:Tpl)(r:Int)(h:chk5 t=0)(ok:to6_a t r):∃I0 m0 I1 m1 I2 m2 I3,to6_vc t r I0 m0 I1 m1 I2 m2 I3 (to6 t r):=by
 refine⟨λs=>∃k:Nat,s.1=k∧k≤t.rs.length∧s.2=(to0 t r).take k++List.replicate (t.rs.length-k) 0,λs=>t.rs.length-s.1.toNat,
  λ_ s=>∃k:Nat,s.1=k∧k≤t.rs.length∧s.2=rndD t k (to0 t r),λ_ s=>t.rs.length-s.1.toNat,
  λ_ u s=>ForG t.ls (rlx t) u.2 s.1 s.2,λ_ _ s=>t.ls.length-s.1.toNat,λ_ u s l d=>d=rlx1 s.2 (plc6 t l.a).toNat (plc6 t l.b).toNat l.ca,?_⟩
 dsimp only[to6_vc,to6_x,to6_s,Ax.vp,Ax.vc];simp only[vcU,rfU,List.length_map]
 have hn:=(chk5_len h).1
 have h0:(to0 t r).length=t.rs.length:=by rw[to0,List.length_map]
 refine⟨by simp;omega,⟨0,rfl,by omega,by simp⟩,?_⟩
 rintro⟨_,_⟩ ⟨k,rfl,hk,rfl⟩
 simp only
 have hlen:((to0 t r).take k++List.replicate (t.rs.length-k) (0:Int)).length=t.rs.length:=by simp[h0];omega
 rw[hlen]
 refine⟨λc=>⟨range2 (by omega) c,by omega,λy hy=>⟨by omega,c,λx hx=>?_⟩⟩,λc=>?_⟩
 ·rw[Int.toNat_natCast]at hx ⊢
  have hkl:k<t.rs.length:=lt_of_get hx
  have e0:t.rs.length-k=(t.rs.length-(k+1))+1:=by omega
  have hA:((to0 t r).take k).length=k:=by rw[List.length_take,h0];omega
  have hg:(to0 t r)[k]?=some (if isR r x=true then 0 else 1073741824):=by rw[to0,List.getElem?_map,hx];rfl
  rw[e0,List.replicate_succ,set_mid hA,set_mid hA,W_succ (n:=t.rs.length) hkl (by omega)]
  refine⟨λe=>⟨range2 (by omega) (by simp[h0];omega),by simp[h0];omega,λy hy=>⟨⟨k+1,rfl,by omega,?_⟩,by omega⟩⟩,λe=>⟨⟨k+1,rfl,by omega,?_⟩,by omega⟩⟩
  ·rw[take_succ hg,if_pos (show isR r x=true from e)];simp
  ·have e:¬isR r x=true:=λq=>by rw[isR,e]at q;cases q
   rw[take_succ hg,if_neg e];simp
 have:k=t.rs.length:=by omega
 subst this
 have e1:(to0 t r).take t.rs.length++List.replicate (t.rs.length-t.rs.length) (0:Int)=to0 t r:=by
  rw[Nat.sub_self,List.replicate_zero,List.append_nil,←h0,List.take_length]
 rw[e1]
 refine⟨⟨0,rfl,by omega,rfl⟩,?_⟩
 rintro⟨_,_⟩ ⟨k,rfl,hk,rfl⟩
 simp only
 have hlen2:(rndD t k (to0 t r)).length=t.rs.length:=by rw[rndD_len,h0]
 rw[hlen2]
 refine⟨λc2=>⟨ForG.zero,?_⟩,λc2=>?_⟩
 ·rintro⟨j,d⟩ g
  simp only at g ⊢
  have hpos:0<t.rs.length:=by omega
  have hdl:d.length=t.rs.length:=by
   obtain⟨m,_,_,e⟩:=g
   rw[e,fold_rlx_len,hlen2]
  have hll:=(chk5_len h).2
  refine⟨λc3=>⟨g.idx,c3,λl hl=>?_⟩,λc3=>?_⟩
  ·obtain⟨a1,a2⟩:=plc6_rng (r:=l.a) hpos
   obtain⟨b1,b2⟩:=plc6_rng (r:=l.b) hpos
   generalize hea:plc6 t l.a=pa at a1 a2 ⊢
   generalize heb:plc6 t l.b=pb at b1 b2 ⊢
   refine⟨⟨range2 b1 (by omega),by omega,λx5 h5=>⟨λe=>⟨range2 a1 (by omega),by omega,λx6 h6=>⟨range2 b1 (by omega),by omega,λx7 h7=>⟨range2 a1 (by omega),by omega,λy8 h8=>?_⟩⟩⟩,λe=>?_⟩⟩,?_⟩
   ·rw[rlx1,getD_of h5,getD_of h6,if_pos e]
    rw[h5]at h7;cases h7;rfl
   ·rw[rlx1,getD_of h5,if_neg e]
   rintro d4 hd4
   have hl4:d4.length=t.rs.length:=by rw[hd4,rlx1_len];exact hdl
   refine⟨range2 a1 (by omega),by omega,λx9 h9=>⟨λe=>⟨range2 b1 (by omega),by omega,λx10 h10=>⟨range2 a1 (by omega),by omega,λx11 h11=>⟨range2 b1 (by omega),by omega,λy12 h12=>g.step (by omega) hl ?_⟩⟩⟩,λe=>g.step (by omega) hl ?_⟩⟩
   ·rw[rlx,hea,heb,←hd4,rlx1,getD_of h9,getD_of h10,if_pos e]
    rw[h9]at h11;cases h11;rfl
   ·rw[rlx,hea,heb,←hd4,rlx1,getD_of h9,if_neg e]
  ·rw[W_succ (n:=t.rs.length) (by omega) (by omega)]
   exact⟨⟨k+1,rfl,by omega,by rw[rndD];exact g.done c3⟩,by omega⟩
 ·have:k=t.rs.length:=by omega
  subst this
  rfl
def to6_c(t:Tpl)(to_:Int)(h:chk5 t=0):PC Tryz.prog:=⟨132,[(.a [(.s 2),(.s 5)]),.k],[.agg [.sl 2 (t.rs.map Rtr.v) false,.sl 5 (t.ls.map Lnk.v) false],.int to_],to6_e (to6 t to_),PSpec.of_ok λok=>(to6_p t to_ h ok).elim λI0 h=>h.elim λm0 h=>h.elim λI1 h=>h.elim λm1 h=>h.elim λI2 h=>h.elim λm2 h=>h.elim λI3 h=>mxP_of (sh:=(.s 1)) (enc:=to6_e) (a:=(to6_x t to_ I0 m0 I1 m1 I2 m2 I3).an) h (by kernel_rfl) (AV.pureB_ok rfl),fnB_ok (by kernel_rfl)⟩
def okN(t:Tpl)(d:List Int)(r q:Int):Bool:=decide (at6 t d q<1073741824) && (W ((prc5 t r q).1+at6 t d q)==at6 t d r)
def stp6(t:Tpl)(d:List Int)(r:Int):List Int:=if at6 t d r=1073741824∨at6 t d r=0 then []else(nea5 t r).filter (okN t d r)
theorem flatIf_len{α β:Type}{p:α→Bool}{g:α→β}:∀{l:List α},(l.flatMap λx=>if p x=true then [g x]else []).length≤l.length
 | []=>by simp
 | x::l=>by
  have:=flatIf_len (p:=p) (g:=g) (l:=l)
  have h1:(if p x=true then [g x]else []).length≤1:=by split<;>simp
  rw[List.flatMap_cons,List.length_append,List.length_cons]
  omega
theorem nea5_len{t:Tpl}{r:Int}:(nea5 t r).length≤t.rs.length:=flatIf_len (p:=λx:Rtr=>(prc5 t r x.id).2) (g:=Rtr.id)
def stp6_a(t:Tpl)(d:(List Int))(from_:Int):Prop:=okL [.agg [.sl 2 (t.rs.map Rtr.v) false,.sl 5 (t.ls.map Lnk.v) false],.sl 1 (d.map AV.int) false,.int from_]
def stp6_n0(t:Tpl)(d:(List Int))(from_:Int)(t0:Bool):NF:=⟨[(1,.k,.sl 1 (d.map AV.int) false),(2,.k,.int from_),(3,.k,.ref 0 0),(7,.k,.sl 0 [] true),(8,.k,.int (at6 t d from_)),(22,.k,.bool t0)],[.box (.agg [.sl 2 (t.rs.map Rtr.v) false,.sl 5 (t.ls.map Lnk.v) false])]⟩
def stp6_n1(t:Tpl)(d:(List Int))(from_:Int)(t1:Int×(List Int)):NF:=⟨[(1,.k,.sl 1 (d.map AV.int) false),(2,.k,.int from_),(3,.k,.ref 0 0),(7,.k,.vec 1),(8,.k,.int (at6 t d from_)),(9,.k,.sl 1 ((nea5 t from_).map AV.int) false),(10,.k,.int t1.1)],[.box (.agg [.sl 2 (t.rs.map Rtr.v) false,.sl 5 (t.ls.map Lnk.v) false]),.vec 1 (t1.2.map AV.int) (pureBL_map (λ_=>rfl) t1.2)]⟩
def stp6_n2(t:Tpl)(d:(List Int))(from_:Int)(t1:Int×(List Int))(t2:Bool):NF:=⟨[(1,.k,.sl 1 (d.map AV.int) false),(2,.k,.int from_),(3,.k,.ref 0 0),(7,.k,.vec 1),(8,.k,.int (at6 t d from_)),(9,.k,.sl 1 ((nea5 t from_).map AV.int) false),(10,.k,.int t1.1),(62,.k,.bool t2)],[.box (.agg [.sl 2 (t.rs.map Rtr.v) false,.sl 5 (t.ls.map Lnk.v) false]),.vec 1 (t1.2.map AV.int) (pureBL_map (λ_=>rfl) t1.2)]⟩
@[reducible] def stp6_s:Nat→Type
 | 0=>Bool
 | 1=>Int×(List Int)
 | 2=>Bool
 | _=>Unit
def stp6_e(r:(List Int)):AV:=.sl 1 (r.map AV.int) false
def stp6_x(t:Tpl)(d:(List Int))(from_:Int)(I0:Bool→Prop)(I1:Bool→(Int×(List Int))→Prop)(m1:Bool→(Int×(List Int))→Nat)(I2:Bool→Int×(List Int)→Int→Bool→Prop):Ax Tryz.prog stp6_s ((List Int)):=
 (.req 96 (okD t d) λh1 =>
(.callP (at6_c t d from_ h1)
(.pass (.join 0 (stp6_n0 t d from_) (λ(t0:Bool)=>I0 t0) (λb0=>(.br 176 ((at6 t d from_)==1073741824) (.bk 0 b0 ((true):Bool) [0])
(.bk 0 b0 (((at6 t d from_)==0):Bool) [0]))) λ(t0:Bool) =>
(.br 1 t0 (.ret ([]))
(.req 33 (t.rs.length≤1000) λh2 =>
(.callP (nea5_c t from_ h2)
(.cmdL (.nilT 7 1) (.loop 1 (stp6_n1 t d from_) (I1 t0) (m1 t0) (0,[]) [0,81] λ(t1:Int×(List Int)) b1 =>
(.br 66 (decide (t1.1<(((nea5 t from_).map AV.int).length:Int))) (.elI 130 AV.int (nea5 t from_) t1.1 λx3 =>
(.callP (prc5_c t from_ x3)
(.join 2 (stp6_n2 t d from_ t1) (λ(t2:Bool)=>I2 t0 t1 x3 t2) (λb2=>(.elI 322 AV.int (nea5 t from_) t1.1 λx4 =>
(.req 354 (okD t d) λh5 =>
(.callP (at6_c t d x4 h5)
(.br 402 (decide ((at6 t d x4)<1073741824)) (.elI 482 AV.int (nea5 t from_) t1.1 λx6 =>
(.req 514 (okD t d) λh7 =>
(.callP (at6_c t d x6 h7)
(.bk 2 b2 (((W (((prc5 t from_ x3).1)+(at6 t d x6)))==(at6 t d from_)):Bool) [0,1]))))
(.bk 2 b2 ((false):Bool) [0,1])))))) λ(t2:Bool) =>
(.br 2 t2 (.elI 50 AV.int (nea5 t from_) t1.1 λx8 =>
(.apX 98 AV.int t1.2 [x8] (t1.2.length+1)
(.bk 1 b1 (W (t1.1+1),t1.2++[x8]) [0,98])))
(.bk 1 b1 (W (t1.1+1),t1.2) [0,1])))))
(.fz 1 AV.int t1.2 (λ_=>rfl) (.ret (t1.2)))))))))))))
def stp6_vc(t:Tpl)(d:(List Int))(from_:Int)(I0:Bool→Prop)(I1:Bool→(Int×(List Int))→Prop)(m1:Bool→(Int×(List Int))→Nat)(I2:Bool→Int×(List Int)→Int→Bool→Prop)(r0:(List Int)):Prop:=(stp6_x t d from_ I0 I1 m1 I2).vp stp6_e r0
theorem stp6_p(t:Tpl)(d:List Int)(r:Int)(h:okD t d)(ok:stp6_a t d r):∃I0 I1 m1 I2,stp6_vc t d r I0 I1 m1 I2 (stp6 t d r):=by
 refine⟨λb=>b=decide (at6 t d r=1073741824∨at6 t d r=0),λ_ s=>ForX (nea5 t r) (λq=>if okN t d r q=true then [q]else []) s.1 s.2,λ_ s=>(nea5 t r).length-s.1.toNat,
  λ_ _ q b=>b=okN t d r q,?_⟩
 dsimp only[stp6_vc,stp6_x,stp6_s,Ax.vp,Ax.vc];simp only[vcU,rfU,List.length_map]
 have hn:=h.2
 have hl:=nea5_len (t:=t) (r:=r)
 refine⟨h,⟨λc=>by simp[eq_of_beq c],λc=>?_⟩,?_⟩
 ·have c:¬at6 t d r=1073741824:=by simpa using c
  rw[Bool.eq_iff_iff];simp[c]
 rintro _ rfl
 refine⟨λc=>by rw[stp6,if_pos (of_decide_eq_true c)],λc=>⟨hn,ForX.zero,?_⟩⟩
 have c:=of_decide_eq_false c
 rintro⟨i,out⟩ g
 simp only at g ⊢
 have hlen:=g.len (b:=1) λx _=>by split<;>simp
 refine⟨λe=>⟨g.idx,e,λx hx=>⟨⟨g.idx,e,λy hy=>⟨h,λe1=>⟨g.idx,e,λz hz=>⟨h,?_⟩⟩,λe1=>?_⟩⟩,?_⟩⟩,λe=>?_⟩
 ·rw[hx]at hy hz;cases hy;cases hz
  rw[okN,decide_eq_true e1];rfl
 ·rw[hx]at hy;cases hy
  rw[okN,decide_eq_false e1];rfl
 ·rintro _ rfl
  refine⟨λe1=>⟨g.idx,e,λz hz=>⟨by omega,?_⟩⟩,λe1=>g.step (by omega) hx (by rw[if_neg (by rw[e1];simp)];simp)⟩
  rw[hx]at hz;cases hz
  exact g.step (by omega) hx (by rw[if_pos e1])
 ·rw[stp6,if_neg c,g.done e,flatMap_if]
def stp6_c(t:Tpl)(d:(List Int))(from_:Int)(h:okD t d):PC Tryz.prog:=⟨131,[(.a [(.s 2),(.s 5)]),(.s 1),.k],[.agg [.sl 2 (t.rs.map Rtr.v) false,.sl 5 (t.ls.map Lnk.v) false],.sl 1 (d.map AV.int) false,.int from_],stp6_e (stp6 t d from_),PSpec.of_ok λok=>(stp6_p t d from_ h ok).elim λI0 h=>h.elim λI1 h=>h.elim λm1 h=>h.elim λI2 h=>mxP_of (sh:=(.s 1)) (enc:=stp6_e) (a:=(stp6_x t d from_ I0 I1 m1 I2).an) h (by kernel_rfl) (AV.pureB_ok rfl),fnB_ok (by kernel_rfl)⟩
theorem prc5_pos{t:Tpl}(h:chk5 t=0){f g:Int}(hp:(prc5 t f g).2=true):1≤(prc5 t f g).1∧(prc5 t f g).1≤1000:=by
 unfold prc5 at hp ⊢
 cases e:t.ls.find? (prcH f g)with
 | none=>rw[e]at hp;cases hp
 | some l =>
  have hl:=chk5_ls h l (List.mem_of_find?_eq_some e)
  have h1:=cst5_iff.mp hl.1
  have h2:=cst5_iff.mp hl.2.1
  simp only
  split<;>omega
theorem at6_nn{t:Tpl}{d:List Int}(h:∀x∈d,0≤x)(r:Int):0≤at6 t d r:=by
 unfold at6
 split
 ·exact getD_nn h _
 ·omega
theorem filter_lt{α:Type}{p q:α→Bool}:∀{l:List α} {x:α},(∀y,p y=true→q y=true)→x∈l→p x=false→q x=true→(l.filter p).length<(l.filter q).length
 | y::l,x,h,hx,h1,h2=>by
  have hle:∀l:List α,(l.filter p).length≤(l.filter q).length:=by
   intro l
   induction l with
   | nil=>simp
   | cons z l ih =>
    rw[List.filter_cons,List.filter_cons]
    by_cases c:p z=true
    ·rw[if_pos c,if_pos (h z c)];simp only[List.length_cons];omega
    ·rw[if_neg c];split
     ·simp only[List.length_cons];omega
     ·exact ih
  rw[List.filter_cons,List.filter_cons]
  rcases List.mem_cons.mp hx with rfl|hx
  ·rw[if_neg (by rw[h1];simp),if_pos h2]
   have:=hle l
   simp only[List.length_cons];omega
  ·have:=filter_lt h hx h1 h2
   by_cases c:p y=true
   ·rw[if_pos c,if_pos (h y c)];simp only[List.length_cons];omega
   ·rw[if_neg c];split
    ·simp only[List.length_cons];omega
    ·exact this
def Edge(t:Tpl)(u v c:Int):Prop:=∃l∈t.ls,(l.a=u∧l.b=v∧l.ca=c)∨(l.b=u∧l.a=v∧l.cb=c)
theorem prc_edge{t:Tpl}(hc:chk5 t=0){u v c:Int}:Edge t u v c↔prc5 t u v=(c,true):=by
 have hO:=chk5_good hc
 have key:∀x∈t.ls,∀y∈t.ls,prcH u v x=true→prcH u v y=true→x=y:=λx hx y hy h1 h2=>by
  obtain⟨i,hi⟩:=List.mem_iff_getElem?.mp hx
  obtain⟨j,hj⟩:=List.mem_iff_getElem?.mp hy
  have a1:=hO.lt x hx
  have a2:=hO.lt y hy
  unfold prcH at h1 h2
  simp only[Bool.or_eq_true,Bool.and_eq_true,beq_iff_eq]at h1 h2
  have hk:¬lnkL x y∧¬lnkL y x:=by unfold lnkL;omega
  rcases Nat.lt_trichotomy i j with h|h|h
  ·exact absurd (lnk_get hO.ord h hi hj) hk.1
  ·subst h;rw[hi]at hj;exact Option.some.inj hj
  ·exact absurd (lnk_get hO.ord h hj hi) hk.2
 constructor
 ·rintro⟨l,hl,h⟩
  have hp:prcH u v l=true:=by
   unfold prcH
   simp only[Bool.or_eq_true,Bool.and_eq_true,beq_iff_eq]
   omega
  have hlt:=hO.lt l hl
  unfold prc5
  cases q:t.ls.find? (prcH u v)with
  | none =>
   have:=List.find?_eq_none.mp q l hl
   exact absurd hp this
  | some y =>
   have:=key y (List.mem_of_find?_eq_some q) l hl (List.find?_some q) hp
   subst this
   simp only
   rcases h with⟨h1,h2,h3⟩|⟨h1,h2,h3⟩
   ·rw[if_pos (by simp[h1,h2]),h3]
   ·rw[if_neg (by simp;omega),h3]
 ·intro h
  unfold prc5 at h
  cases q:t.ls.find? (prcH u v)with
  | none=>rw[q]at h;simp at h
  | some y =>
   rw[q]at h
   have hp:=List.find?_some q
   have hy:=List.mem_of_find?_eq_some q
   simp only[Prod.mk.injEq,and_true]at h
   unfold prcH at hp
   refine⟨y,hy,?_⟩
   by_cases e:(y.a==u && y.b==v)=true
   ·rw[if_pos e]at h
    simp only[Bool.and_eq_true,beq_iff_eq]at e
    exact .inl ⟨e.1,e.2,h⟩
   ·rw[if_neg e]at h
    simp only[Bool.or_eq_true,Bool.and_eq_true,beq_iff_eq]at hp e
    rcases hp with hp|hp
    ·exact absurd hp e
    ·exact .inr ⟨hp.1,hp.2,h⟩
theorem Edge.cost{t:Tpl}(hc:chk5 t=0){u v c:Int}(h:Edge t u v c):1≤c∧c≤1000:=by
 obtain⟨l,hl,h⟩:=h
 have:=(chk5_good hc).lr l hl
 have h1:=cst5_iff.mp this.1
 have h2:=cst5_iff.mp this.2.1
 omega
theorem Edge.has{t:Tpl}(hc:chk5 t=0){u v c:Int}(h:Edge t u v c):has5 t u=true∧has5 t v=true:=by
 obtain⟨l,hl,h⟩:=h
 have:=(chk5_good hc).has l hl
 rcases h with⟨rfl,rfl,_⟩|⟨rfl,rfl,_⟩
 ·exact this
 ·exact⟨this.2,this.1⟩
theorem outS_mem{t:Tpl}(hc:chk5 t=0){x:Int}{s:Stp}:s∈outS t.ls x↔Edge t x s.to s.cost:=by
 have hO:=chk5_good hc
 unfold outS Edge
 rw[List.mem_flatMap]
 constructor
 ·rintro⟨l,hl,h⟩
  refine⟨l,hl,?_⟩
  split at h
  ·rw[List.mem_singleton.mp h];exact .inl ⟨by assumption,rfl,rfl⟩
  ·split at h
   ·rw[List.mem_singleton.mp h];exact .inr ⟨by assumption,rfl,rfl⟩
   ·cases h
 ·rintro⟨l,hl,⟨h1,h2,h3⟩|⟨h1,h2,h3⟩⟩
  ·refine⟨l,hl,?_⟩
   rw[if_pos h1,h2,h3];simp
  ·have:=hO.lt l hl
   refine⟨l,hl,?_⟩
   rw[if_neg (by omega),if_pos h1,h2,h3];simp
theorem inS_mem{t:Tpl}(hc:chk5 t=0){x:Int}{s:Stp}:s∈inS t.ls x↔Edge t s.to x s.cost:=by
 have hO:=chk5_good hc
 unfold inS Edge
 rw[List.mem_flatMap]
 constructor
 ·rintro⟨l,hl,h⟩
  refine⟨l,hl,?_⟩
  split at h
  ·rw[List.mem_singleton.mp h];exact .inl ⟨rfl,by assumption,rfl⟩
  ·split at h
   ·rw[List.mem_singleton.mp h];exact .inr ⟨rfl,by assumption,rfl⟩
   ·cases h
 ·rintro⟨l,hl,⟨h1,h2,h3⟩|⟨h1,h2,h3⟩⟩
  ·refine⟨l,hl,?_⟩
   rw[if_pos h2,h1,h3];simp
  ·have:=hO.lt l hl
   refine⟨l,hl,?_⟩
   rw[if_neg (by omega),if_pos h2,h1,h3];simp
theorem has5_iff{t:Tpl}{x:Int}:has5 t x=true↔∃r∈t.rs,r.id=x:=by
 unfold has5;rw[List.any_eq_true];simp
theorem grh_keys{t:Tpl}(f:Rtr→List Stp):mkeys (t.rs.map λr=>(r.id,f r))=t.rs.map (·.id):=by unfold mkeys;rw[List.map_map];rfl
theorem keys_has{t:Tpl}{x:Int}:x∈t.rs.map (·.id)↔has5 t x=true:=by rw[has5_iff,List.mem_map]
theorem ids_nodup{t:Tpl}(hc:chk5 t=0):(t.rs.map (·.id)).Nodup:=List.Pairwise.map _ (λa b h=>by omega) (chk5_good hc).asc
theorem grh_val{t:Tpl}(hc:chk5 t=0)(f:Int→List Stp)(hf:∀x,has5 t x=false→f x=[])(x:Int):mval (t.rs.map λr=>(r.id,f r.id)) x []=f x:=by
 by_cases h:has5 t x=true
 ·obtain⟨r,hr,rfl⟩:=has5_iff.mp h
  exact mval_eq (by rw[grh_keys (λr=>f r.id)];exact ids_nodup hc) (List.mem_map.mpr ⟨r,hr,rfl⟩)
 ·have h:has5 t x=false:=by simpa using h
  rw[mval_no,hf x h]
  unfold mhas
  rw[grh_keys (λr=>f r.id),decide_eq_false]
  rw[keys_has,h];simp
theorem outS_no{t:Tpl}(hc:chk5 t=0)(x:Int)(h:has5 t x=false):outS t.ls x=[]:=by
 refine List.eq_nil_iff_forall_not_mem.mpr λs hs=>?_
 rw[(((outS_mem hc).mp hs).has hc).1]at h;cases h
theorem inS_no{t:Tpl}(hc:chk5 t=0)(x:Int)(h:has5 t x=false):inS t.ls x=[]:=by
 refine List.eq_nil_iff_forall_not_mem.mpr λs hs=>?_
 rw[(((inS_mem hc).mp hs).has hc).2]at h;cases h
theorem out_val{t:Tpl}(hc:chk5 t=0)(x:Int):mval (outG t) x []=srtS (outS t.ls x):=grh_val hc (λx=>srtS (outS t.ls x)) (λx h=>by rw[outS_no hc x h];simp[srtS]) x
theorem in_val{t:Tpl}(hc:chk5 t=0)(x:Int):mval (inG t) x []=inS t.ls x:=grh_val hc (λx=>inS t.ls x) (λx h=>inS_no hc x h) x
theorem out_mem{t:Tpl}(hc:chk5 t=0){x:Int}{s:Stp}:s∈mval (outG t) x []↔Edge t x s.to s.cost:=by rw[out_val hc,(srtS_perm _).mem_iff,outS_mem hc]
theorem in_mem{t:Tpl}(hc:chk5 t=0){x:Int}{s:Stp}:s∈mval (inG t) x []↔Edge t s.to x s.cost:=by rw[in_val hc,inS_mem hc]
theorem out_ok{t:Tpl}(hc:chk5 t=0):okCst (outG t):=by
 have:=(chk5_good hc).nr
 refine⟨by unfold outG;rw[List.length_map];omega,by unfold outG;rw[grh_keys];exact ids_nodup hc,λx s hs=>?_,λx s hs=>((out_mem hc).mp hs).cost hc⟩
 unfold outG;rw[grh_keys,keys_has];exact(((out_mem hc).mp hs).has hc).2
theorem in_ok{t:Tpl}(hc:chk5 t=0):okCst (inG t):=by
 have:=(chk5_good hc).nr
 refine⟨by unfold inG;rw[List.length_map];omega,by unfold inG;rw[grh_keys];exact ids_nodup hc,λx s hs=>?_,λx s hs=>((in_mem hc).mp hs).cost hc⟩
 unfold inG;rw[grh_keys,keys_has];exact(((in_mem hc).mp hs).has hc).1
inductive Pth (t:Tpl) (g:Int):Nat→Int→Int→Prop
  | nil:Pth t g 0 g 0
  | cons {k:Nat} {u w c n:Int}:Edge t u w c→Pth t g k w n→Pth t g (k+1) u (n+c)
theorem in_path{t:Tpl}(hc:chk5 t=0){g v n:Int}:PathL (inG t) g v n↔∃k,Pth t g k v n:=by
 constructor
 ·intro p
  induction p with
  | nil=>exact⟨0,.nil⟩
  | snoc q hs ih=>obtain⟨k,ih⟩:=ih;exact⟨k+1,.cons ((in_mem hc).mp hs) ih⟩
 ·rintro⟨k,p⟩
  induction p with
  | nil=>exact .nil
  | cons e q ih=>exact .snoc (s:=⟨_,_⟩) ih ((in_mem hc).mpr e)
theorem out_path{t:Tpl}(hc:chk5 t=0){f v n:Int}:PathL (outG t) f v n↔∃k,Pth t v k f n:=by
 have app:∀{k:Nat} {u m w c v:Int},Pth t w k u m→Edge t w v c→Pth t v (k+1) u (m+c):=λ{k u m w c v} p e=>by
  induction p with
  | nil=>exact .cons e .nil
  | cons e' q ih=>have:=Pth.cons e' ih;rwa [Int.add_right_comm]at this
 have pre:∀{f w v c n:Int},Edge t f w c→PathL (outG t) w v n→PathL (outG t) f v (n+c):=λ{f w v c n} e p=>by
  induction p with
  | nil=>exact .snoc (s:=⟨_,_⟩) .nil ((out_mem hc).mpr e)
  | snoc q hs ih=>have:=PathL.snoc ih hs;rwa [Int.add_right_comm]at this
 constructor
 ·intro p
  induction p with
  | nil=>exact⟨0,.nil⟩
  | snoc q hs ih=>obtain⟨k,ih⟩:=ih;exact⟨k+1,app ih ((out_mem hc).mp hs)⟩
 ·rintro⟨k,p⟩
  induction p with
  | nil=>exact .nil
  | cons e q ih=>exact pre e ih
def Lst(t:Tpl)(u v m:Int):Prop:=(∃k,Pth t v k u m)∧∀k n,Pth t v k u n→m≤n
theorem in_least{t:Tpl}(hc:chk5 t=0){g v m:Int}(hg:has5 t g=true):(v,m)∈dijT (inG t) g↔Lst t v g m:=by
 rw[dij_least (in_ok hc) (by unfold inG;rw[grh_keys,keys_has];exact hg),in_path hc]
 exact⟨λ⟨h1,h2⟩=>⟨h1,λk n p=>h2 n ((in_path hc).mpr ⟨k,p⟩)⟩,λ⟨h1,h2⟩=>⟨h1,λn p=>by obtain⟨k,p⟩:=(in_path hc).mp p;exact h2 k n p⟩⟩
theorem out_least{t:Tpl}(hc:chk5 t=0){f v m:Int}(hf:has5 t f=true):(v,m)∈dijT (outG t) f↔Lst t f v m:=by
 rw[dij_least (out_ok hc) (by unfold outG;rw[grh_keys,keys_has];exact hf),out_path hc]
 exact⟨λ⟨h1,h2⟩=>⟨h1,λk n p=>h2 n ((out_path hc).mpr ⟨k,p⟩)⟩,λ⟨h1,h2⟩=>⟨h1,λn p=>by obtain⟨k,p⟩:=(out_path hc).mp p;exact h2 k n p⟩⟩
def far6:Int:=1073741824
theorem plc_at{t:Tpl}(hc:chk5 t=0){i:Nat}{r:Rtr}(h:t.rs[i]?=some r):(plc6 t r.id).toNat=i:=by
 have hh:has5 t r.id=true:=has5_iff.mpr ⟨r,mem_of_get h,rfl⟩
 unfold plc6
 rw[if_pos hh,idxF,if_pos (show t.rs.any (isR r.id)=true from hh)]
 have hlt:t.rs.findIdx (isR r.id)<t.rs.length:=List.findIdx_lt_length.mpr ⟨r,mem_of_get h,by simp[isR]⟩
 have e:=List.findIdx_getElem (w:=hlt)
 have h1:(t.rs.map (·.id))[t.rs.findIdx (isR r.id)]?=some r.id:=by
  rw[List.getElem?_map,List.getElem?_eq_getElem hlt]
  unfold isR at e ⊢
  simp only[beq_iff_eq]at e
  simp[e]
 have h2:(t.rs.map (·.id))[i]?=some r.id:=by rw[List.getElem?_map,h];rfl
 have:=nodup_get (ids_nodup hc) h1 h2
 rw[Int.toNat_natCast];exact this
theorem at6_plc{t:Tpl}{d:List Int}{u:Int}(h:has5 t u=true):at6 t d u=d.getD (plc6 t u).toNat 0:=by
 unfold at6 plc6;rw[if_pos h,if_pos h]
theorem at6_set{t:Tpl}(hc:chk5 t=0){d:List Int}(hd:d.length=t.rs.length){a u x:Int}(ha:has5 t a=true)(hu:has5 t u=true):at6 t (d.set (plc6 t a).toNat x) u=if u=a then x else at6 t d u:=by
 rw[at6_plc hu,at6_plc hu]
 obtain⟨ra,h1,rfl⟩:=has5_iff.mp ha
 obtain⟨ru,h2,rfl⟩:=has5_iff.mp hu
 obtain⟨i,hi⟩:=List.mem_iff_getElem?.mp h1
 obtain⟨j,hj⟩:=List.mem_iff_getElem?.mp h2
 rw[plc_at hc hi,plc_at hc hj]
 have hil:=lt_of_get hi
 rw[List.getD_eq_getElem?_getD,List.getElem?_set,List.getD_eq_getElem?_getD]
 by_cases e:i=j
 ·subst e
  rw[hi]at hj;cases hj
  rw[if_pos rfl,if_pos (by omega),if_pos rfl];rfl
 ·rw[if_neg e,if_neg]
  intro q
  have h3:(t.rs.map (·.id))[i]?=some ra.id:=by rw[List.getElem?_map,hi];rfl
  have h4:(t.rs.map (·.id))[j]?=some ra.id:=by rw[List.getElem?_map,hj,←q];rfl
  exact e (nodup_get (ids_nodup hc) h3 h4)
theorem rlx1_at{t:Tpl}(hc:chk5 t=0){d:List Int}(hd:d.length=t.rs.length)(hn:∀x∈d,0≤x){a b c u:Int}(h1:1≤c∧c≤1000)(ha:has5 t a=true)(hb:has5 t b=true)(hu:has5 t u=true) :
  at6 t (rlx1 d (plc6 t a).toNat (plc6 t b).toNat c) u=if u=a∧at6 t d b<far6∧c+at6 t d b<at6 t d a then c+at6 t d b else at6 t d u:=by
 have hb0:=at6_nn (t:=t) hn b
 unfold rlx1
 rw[←at6_plc hb,←at6_plc ha]
 by_cases e:at6 t d b<1073741824
 ·rw[if_pos e,at6_set hc hd ha hu,W_eq (by omega)]
  unfold minI far6
  by_cases e1:u=a
  ·subst e1
   rw[if_pos rfl]
   by_cases e2:c+at6 t d b<at6 t d u
   ·rw[if_pos e2,if_pos ⟨rfl,e,e2⟩]
   ·rw[if_neg e2,if_neg (λq=>e2 q.2.2)]
  ·rw[if_neg e1,if_neg (λq=>e1 q.1)]
 ·rw[if_neg e,if_neg (λq=>e q.2.1)]
section
variable {t : Tpl} (hc : chk5 t = 0)
include hc
theorem rlx_all{d:List Int}(hd:d.length=t.rs.length)(hn:∀x∈d,0≤x){l:Lnk}(hl:l∈t.ls) :
  (∀u,has5 t u=true→at6 t (rlx t d l) u≤at6 t d u)∧(at6 t d l.b<far6→at6 t (rlx t d l) l.a≤at6 t d l.b+l.ca)∧(at6 t d l.a<far6→at6 t (rlx t d l) l.b≤at6 t d l.a+l.cb):=by
 have hO:=chk5_good hc
 obtain⟨ha,hb⟩:=hO.has l hl
 have hlr:=hO.lr l hl
 have hlt:=hO.lt l hl
 have c1:=cst5_iff.mp hlr.1
 have c2:=cst5_iff.mp hlr.2.1
 have hd1:(rlx1 d (plc6 t l.a).toNat (plc6 t l.b).toNat l.ca).length=t.rs.length:=by rw[rlx1_len];exact hd
 have hn1:=rlx1_nn (a:=(plc6 t l.a).toNat) (b:=(plc6 t l.b).toNat) hn c1
 have s1:=λu hu=>rlx1_at hc hd hn (u:=u) c1 ha hb hu
 have s2:=λu hu=>rlx1_at hc hd1 hn1 (u:=u) c2 hb ha hu
 unfold rlx
 have sa:=s1 l.a ha
 have sb:=s1 l.b hb
 rw[if_neg (λq=>by have:=q.1;omega)]at sb
 have e1:Edge t l.a l.b l.ca:=⟨l,hl,.inl ⟨rfl,rfl,rfl⟩⟩
 have e2:Edge t l.b l.a l.cb:=⟨l,hl,.inr ⟨rfl,rfl,rfl⟩⟩
 refine⟨λu hu=>?_,λh=>?_,λh=>?_⟩
 ·rw[s2 u hu,s1 u hu]
  by_cases q:u=l.b
  ·subst q;rw[sb,sa];(repeat' split)<;>omega
  ·rw[if_neg (λr=>q r.1)];split
   ·rename_i r;obtain⟨r1,r2,r3⟩:=r;subst r1;omega
   ·omega
 ·rw[s2 l.a ha,if_neg (λr=>by have:=r.1;omega),sa]
  split
  ·omega
  ·rename_i r
   have:¬l.ca+at6 t d l.b<at6 t d l.a:=λq=>r ⟨rfl,h,q⟩
   omega
 ·have ham:at6 t (rlx1 d (plc6 t l.a).toNat (plc6 t l.b).toNat l.ca) l.a≤at6 t d l.a:=by rw[sa];split<;>omega
  rw[s2 l.b hb]
  split
  ·omega
  ·rename_i r
   have:¬l.cb+at6 t (rlx1 d (plc6 t l.a).toNat (plc6 t l.b).toNat l.ca) l.a<at6 t (rlx1 d (plc6 t l.a).toNat (plc6 t l.b).toNat l.ca) l.b:=λq=>r ⟨rfl,by omega,q⟩
   omega
def PV(t:Tpl)(g:Int)(d:List Int):Prop:=∀u,has5 t u=true→at6 t d u≤far6∧(at6 t d u<far6→∃k,Pth t g k u (at6 t d u))
theorem PV.rlx1{g:Int}{d:List Int}(h:PV t g d)(hd:d.length=t.rs.length)(hn:∀x∈d,0≤x){a b c:Int}(e:Edge t a b c):PV t g (rlx1 d (plc6 t a).toNat (plc6 t b).toNat c):=λu hu=>by
 obtain⟨ha,hb⟩:=e.has hc
 rw[rlx1_at hc hd hn (e.cost hc) ha hb hu]
 split
 ·rename_i r
  obtain⟨r1,r2,r3⟩:=r
  subst r1
  have:=(h u hu).1
  refine⟨by omega,λ_=>?_⟩
  obtain⟨k,p⟩:=(h b hb).2 r2
  rw[Int.add_comm]
  exact⟨k+1,.cons e p⟩
 ·exact h u hu
theorem PV.rlx{g:Int}{d:List Int}(h:PV t g d)(hd:d.length=t.rs.length)(hn:∀x∈d,0≤x){l:Lnk}(hl:l∈t.ls):PV t g (rlx t d l):=by
 have c1:=cst5_iff.mp ((chk5_good hc).lr l hl).1
 exact PV.rlx1 hc (PV.rlx1 hc h hd hn ⟨l,hl,.inl ⟨rfl,rfl,rfl⟩⟩) (by rw[rlx1_len];exact hd) (rlx1_nn hn c1) ⟨l,hl,.inr ⟨rfl,rfl,rfl⟩⟩
theorem fold_all{g:Int}:∀{ls:List Lnk} {d:List Int},d.length=t.rs.length→(∀x∈d,0≤x)→PV t g d→(∀l∈ls,l∈t.ls) →
  (ls.foldl (rlx t) d).length=t.rs.length∧(∀x∈ls.foldl (rlx t) d,0≤x)∧PV t g (ls.foldl (rlx t) d)∧(∀u,has5 t u=true→at6 t (ls.foldl (rlx t) d) u≤at6 t d u) ∧
  ∀l∈ls,(at6 t d l.b<far6→at6 t (ls.foldl (rlx t) d) l.a≤at6 t d l.b+l.ca)∧(at6 t d l.a<far6→at6 t (ls.foldl (rlx t) d) l.b≤at6 t d l.a+l.cb)
 | [],d,hd,hn,hp,_=>⟨hd,hn,hp,λu _=>Int.le_refl _,λl hl=>by cases hl⟩
 | l::ls,d,hd,hn,hp,hs=>by
  have hl:=hs l (by simp)
  obtain⟨a1,a2,a3⟩:=rlx_all hc hd hn hl
  obtain⟨b1,b2,b3,b4,b5⟩:=fold_all (g:=g) (ls:=ls) (d:=rlx t d l) (by rw[rlx_len];exact hd) (rlx_nn hn (chk5_ls hc l hl)) (PV.rlx hc hp hd hn hl) λm hm=>hs m (List.mem_cons_of_mem _ hm)
  rw[List.foldl_cons]
  refine⟨b1,b2,b3,λu hu=>Int.le_trans (b4 u hu) (a1 u hu),λm hm=>?_⟩
  rcases List.mem_cons.mp hm with rfl|hm'
  ·obtain⟨ha,hb⟩:=(chk5_good hc).has m hl
   exact⟨λh=>Int.le_trans (b4 _ ha) (a2 h),λh=>Int.le_trans (b4 _ hb) (a3 h)⟩
  ·obtain⟨ha,hb⟩:=(chk5_good hc).has m (hs m hm)
   have h1:=a1 _ ha
   have h2:=a1 _ hb
   exact⟨λh=>by have:=(b5 m hm').1 (by omega);omega,λh=>by have:=(b5 m hm').2 (by omega);omega⟩
theorem to6_rnd{g:Int}(hg:has5 t g=true):∀k:Nat,(rndD t k (to0 t g)).length=t.rs.length∧(∀x∈rndD t k (to0 t g),0≤x)∧PV t g (rndD t k (to0 t g))∧∀j u n,j≤k→Pth t g j u n→n<far6→at6 t (rndD t k (to0 t g)) u≤n
 | 0=>by
  have e:∀u,has5 t u=true→at6 t (to0 t g) u=if u=g then 0 else far6:=λu hu=>by
   rw[at6_plc hu]
   obtain⟨r,hr,rfl⟩:=has5_iff.mp hu
   obtain⟨i,hi⟩:=List.mem_iff_getElem?.mp hr
   rw[plc_at hc hi,to0,List.getD_eq_getElem?_getD,List.getElem?_map,hi]
   simp[isR,far6]
  refine⟨by simp[rndD,to0],λx hx=>?_,λu hu=>?_,λj u n hj p hn=>?_⟩
  ·obtain⟨y,_,rfl⟩:=List.mem_map.mp hx
   split<;>omega
  ·rw[rndD,e u hu]
   split
   ·rename_i q;subst q;exact⟨by decide,λ_=>⟨0,.nil⟩⟩
   ·exact⟨Int.le_refl _,λh=>by omega⟩
  ·obtain rfl:j=0:=by omega
   cases p
   rw[rndD,e g hg,if_pos rfl];exact Int.le_refl _
 | k+1=>by
  obtain⟨h1,h2,h3,h4⟩:=to6_rnd hg k
  obtain⟨b1,b2,b3,b4,b5⟩:=fold_all hc (ls:=t.ls) h1 h2 h3 λl hl=>hl
  refine⟨b1,b2,b3,λj u n hj p hn=>?_⟩
  cases p with
  | nil=>exact Int.le_trans (b4 g hg) (h4 0 g 0 (by omega) .nil hn)
  | cons e q =>
   have hcs:=e.cost hc
   have hw:=h4 _ _ _ (by omega) q (by omega)
   obtain⟨l,hl,⟨rfl,rfl,rfl⟩|⟨rfl,rfl,rfl⟩⟩:=e
   ·have:=(b5 l hl).1 (by omega);show at6 t (t.ls.foldl (rlx t) _) _≤_;omega
   ·have:=(b5 l hl).2 (by omega);show at6 t (t.ls.foldl (rlx t) _) _≤_;omega
theorem fin_short{g:Int}{D:Dis}(h:Fin5 (inG t) g D):∀(N:Nat) {v n:Int},n.toNat≤N→(v,n)∈D→∃k,k≤(D.filter λp=>decide (p.2<n)).length∧Pth t g k v n
 | N,v,n,hN,hx=>by
  by_cases e:v=g
  ·subst e
   have:=mkey_inj h.nd hx h.src
   subst this;exact⟨0,Nat.zero_le _,.nil⟩
  ·obtain⟨⟨u,m⟩,hq,s,hs,h1,h2⟩:=h.tgt _ hx e
   simp only at h1 h2 hs
   have he:=(in_mem hc).mp hs
   have hcs:=he.cost hc
   have hp:=(h.pos _ hq).1
   have hp2:=(h.pos _ hx).1
   simp only at hp hp2
   subst h1;subst h2
   match N with
   | 0=>omega
   | N+1 =>
    obtain⟨k,hk,p⟩:=fin_short h N (by omega) hq
    refine⟨k+1,?_,.cons he p⟩
    have:=filter_lt (l:=D) (x:=(u,m)) (p:=λp=>decide (p.2<m)) (q:=λp=>decide (p.2<m+s.cost)) (λy hy=>by rw[decide_eq_true_eq]at hy ⊢;omega) hq (decide_eq_false (by simp)) (decide_eq_true (by simp;omega))
    omega
theorem dij_len{g:Int}(hg:has5 t g=true):(dijT (inG t) g).length≤t.rs.length:=by
 have h:=dijT_fin (in_ok hc) (f:=g) (by unfold inG;rw[grh_keys,keys_has];exact hg)
 have:=List.Nodup.length_le_of_subset h.nd h.ke
 rw[mkeys_len,mkeys_len,inG,List.length_map]at this
 exact this
theorem to6_dij{g:Int}(hg:has5 t g=true)(u:Int):at6 t (to6 t g) u=if mhas (dijT (inG t) g) u=true then mval (dijT (inG t) g) u 0 else far6:=by
 have h:=dijT_fin (in_ok hc) (f:=g) (by unfold inG;rw[grh_keys,keys_has];exact hg)
 have hlen:=dij_len hc hg
 have hR:=(chk5_good hc).nr
 obtain⟨r1,r2,r3,r4⟩:=to6_rnd hc hg t.rs.length
 change PV t g (to6 t g)at r3
 change ∀j u n,j≤t.rs.length→Pth t g j u n→n<far6→at6 t (to6 t g) u≤n at r4
 have hk:∀x,x∈mkeys (inG t)↔has5 t x=true:=λx=>by unfold inG;rw[grh_keys,keys_has]
 by_cases hu:has5 t u=true
 ·by_cases hm:mhas (dijT (inG t) g) u=true
  ·rw[if_pos hm]
   have hx:=mval_mem (z:=(0:Int)) hm
   generalize mval (dijT (inG t) g) u 0=m at hx ⊢
   obtain⟨k,hk1,p⟩:=fin_short hc h _ (Nat.le_refl _) hx
   have hle:=List.length_filter_le (λp:Int×Int=>decide (p.2<m)) (dijT (inG t) g)
   have hb:=(h.pos _ hx).2
   simp only at hb
   have hup:=r4 k u m (by omega) p (by unfold far6;omega)
   obtain⟨k',p'⟩:=(r3 u hu).2 (by unfold far6;omega)
   have:=((in_least hc hg).mp hx).2 _ _ p'
   omega
  ·rw[if_neg hm]
   refine Classical.byContradiction λq=>?_
   obtain⟨k',p'⟩:=(r3 u hu).2 (by have:=(r3 u hu).1;omega)
   obtain⟨m,_,hx⟩:=h.low ((in_path hc).mpr ⟨k',p'⟩)
   exact hm (mhas_iff.mpr ⟨m,hx⟩)
 ·have e:at6 t (to6 t g) u=far6:=by unfold at6;rw[if_neg hu];rfl
  rw[e,if_neg]
  intro q
  obtain⟨v,hv⟩:=mhas_iff.mp q
  exact hu ((hk u).mp (h.ke _ (mkeys_mem.mpr ⟨v,hv⟩)))
end
section
variable {t : Tpl} (hc : chk5 t = 0)
include hc
theorem nea_mem{f q:Int}:q∈nea5 t f↔(prc5 t f q).2=true:=by
 unfold nea5
 rw[List.mem_flatMap]
 constructor
 ·rintro⟨x,hx,h⟩
  split at h
  ·rw[List.mem_singleton.mp h];assumption
  ·cases h
 ·intro h
  have he:=(prc_edge hc (u:=f) (v:=q) (c:=(prc5 t f q).1)).mpr (Prod.ext rfl h)
  obtain⟨r,hr,rfl⟩:=has5_iff.mp (he.has hc).2
  exact⟨r,hr,by rw[if_pos h];simp⟩
theorem dij_pos{g:Int}(hg:has5 t g=true){x m:Int}(h:(x,m)∈dijT (inG t) g):0≤m∧m≤24000:=by
 have hf:=dijT_fin (in_ok hc) (f:=g) (by unfold inG;rw[grh_keys,keys_has];exact hg)
 have:=hf.pos _ h
 have hl:=dij_len hc hg
 have:=(chk5_good hc).nr
 simp only at *;omega
theorem out_lks:okLks (outG t):=by
 have hk:=out_ok hc
 have e:mkeys (outG t)=t.rs.map (·.id):=by unfold outG;rw[grh_keys]
 refine⟨hk.len,hk.nd,λx hx=>?_,λp hp=>?_⟩
 ·rw[e]at hx
  obtain⟨r,hr,rfl⟩:=List.mem_map.mp hx
  have:=(chk5_good hc).rg r hr;omega
 ·have hm:mval (outG t) p.1 []=p.2:=mval_eq hk.nd hp
  refine⟨?_,λs hs=>hk.to p.1 s (by rw[hm];exact hs)⟩
  rw[←hm,out_val hc,(srtS_perm _).length_eq]
  exact(outS_ok hc _).1
theorem dij_none{g:Int}(hg:has5 t g=false):dijT (inG t) g=[]:=by
 unfold dijT
 rw[if_neg]
 unfold mhas
 rw[decide_eq_true_iff]
 unfold inG;rw[grh_keys,keys_has,hg];simp
end
theorem hs5_iff{t:Tpl}{r:Int}:hs5 t r=true↔chk5 t=0∧has5 t r=true:=by unfold hs5;rw[Bool.and_eq_true,beq_iff_eq]
theorem dij_noneO{t:Tpl}{f:Int}(hf:has5 t f=false):dijT (outG t) f=[]:=by
 unfold dijT
 rw[if_neg]
 unfold mhas
 rw[decide_eq_true_iff]
 unfold outG;rw[grh_keys,keys_has,hf];simp
def nex6(t:Tpl)(f g:Int):List Int:=if hs5 t f=false∨hs5 t g=false then []else stp6 t (to6 t g) f
def nex6_a(t:Tpl)(from_:Int)(to_:Int):Prop:=okL [.agg [.sl 2 (t.rs.map Rtr.v) false,.sl 5 (t.ls.map Lnk.v) false],.int from_,.int to_]
def nex6_n0(t:Tpl)(from_:Int)(to_:Int)(t0:Bool):NF:=⟨[(1,.k,.int from_),(2,.k,.int to_),(3,.k,.ref 0 0),(16,.k,.bool t0)],[.box (.agg [.sl 2 (t.rs.map Rtr.v) false,.sl 5 (t.ls.map Lnk.v) false])]⟩
@[reducible] def nex6_s:Nat→Type
 | 0=>Bool
 | _=>Unit
def nex6_e(r:(List Int)):AV:=.sl 1 (r.map AV.int) false
def nex6_x(t:Tpl)(from_:Int)(to_:Int)(I0:Bool→Prop):Ax Tryz.prog nex6_s ((List Int)):=
 (.pass (.pass (.join 0 (nex6_n0 t from_ to_) (λ(t0:Bool)=>I0 t0) (λb0=>(.callP (hs5_c t from_)
(.br 112 (!(hs5 t from_)) (.bk 0 b0 ((true):Bool) [0])
(.callP (hs5_c t to_)
(.bk 0 b0 ((!(hs5 t to_)):Bool) [0]))))) λ(t0:Bool) =>
(.br 1 t0 (.ret ([]))
(.req 49 (chk5 t=0) λh1 =>
(.callP (to6_c t to_ h1)
(.req 81 (okD t (to6 t to_)) λh2 =>
(.callP (stp6_c t (to6 t to_) from_ h2)
(.ret (stp6 t (to6 t to_) from_))))))))))
def nex6_vc(t:Tpl)(from_:Int)(to_:Int)(I0:Bool→Prop)(r0:(List Int)):Prop:=(nex6_x t from_ to_ I0).vp nex6_e r0
theorem nex6_p(t:Tpl)(f g:Int)(ok:nex6_a t f g):∃I0,nex6_vc t f g I0 (nex6 t f g):=by
  refine⟨λb=>b=decide (hs5 t f=false∨hs5 t g=false),?_⟩
  dsimp only[nex6_vc,nex6_x,nex6_s,Ax.vp,Ax.vc];simp only[vcU,rfU,List.length_map]
  refine ⟨⟨fun c => by have c : hs5 t f = false := by simpa using c
                       simp[c],λc=>?_⟩,?_⟩
  · have c:hs5 t f=true:=by simpa using c
    cases q:hs5 t g<;>simp[c]
  rintro _ rfl
  refine⟨λc=>by rw[nex6,if_pos (of_decide_eq_true c)],λc=>?_⟩
  have c:=of_decide_eq_false c
  have hf:hs5 t f=true:=by
    cases q:hs5 t f
    · exact absurd (.inl q) c
    · rfl
  have hc:=(hs5_iff.mp hf).1
  have:=(chk5_good hc).nr
  exact⟨hc,⟨to6_len,by omega⟩,by rw[nex6,if_neg c]⟩
def nex6_c(t:Tpl)(from_:Int)(to_:Int):PC Tryz.prog:=⟨96,[(.a [(.s 2),(.s 5)]),.k,.k],[.agg [.sl 2 (t.rs.map Rtr.v) false,.sl 5 (t.ls.map Lnk.v) false],.int from_,.int to_],nex6_e (nex6 t from_ to_),PSpec.of_ok λok=>(nex6_p t from_ to_ ok).elim λI0 h=>mxP_of (sh:=(.s 1)) (enc:=nex6_e) (a:=(nex6_x t from_ to_ I0).an) h (by kernel_rfl) (AV.pureB_ok rfl),fnB_ok (by kernel_rfl)⟩
def cos6(t:Tpl)(f g:Int):Int×Bool:=if hs5 t f=false∨hs5 t g=false then(0,false)else if at6 t (to6 t g) f=1073741824 then(0,false)else(at6 t (to6 t g) f,true)
def cos6_a(t:Tpl)(from_:Int)(to_:Int):Prop:=okL [.agg [.sl 2 (t.rs.map Rtr.v) false,.sl 5 (t.ls.map Lnk.v) false],.int from_,.int to_]
def cos6_n0(t:Tpl)(from_:Int)(to_:Int)(t0:Bool):NF:=⟨[(1,.k,.int from_),(2,.k,.int to_),(3,.k,.ref 0 0),(18,.k,.bool t0)],[.box (.agg [.sl 2 (t.rs.map Rtr.v) false,.sl 5 (t.ls.map Lnk.v) false])]⟩
@[reducible] def cos6_s:Nat→Type
 | 0=>Bool
 | _=>Unit
def cos6_e(r:Int×Bool):AV:=.tup [.int r.1,.bool r.2]
def cos6_x(t:Tpl)(from_:Int)(to_:Int)(I0:Bool→Prop):Ax Tryz.prog cos6_s (Int×Bool):=
 (.pass (.pass (.join 0 (cos6_n0 t from_ to_) (λ(t0:Bool)=>I0 t0) (λb0=>(.callP (hs5_c t from_)
(.br 128 (!(hs5 t from_)) (.bk 0 b0 ((true):Bool) [0])
(.callP (hs5_c t to_)
(.bk 0 b0 ((!(hs5 t to_)):Bool) [0]))))) λ(t0:Bool) =>
(.br 1 t0 (.ret (0,false))
(.req 49 (chk5 t=0) λh1 =>
(.callP (to6_c t to_ h1)
(.req 81 (okD t (to6 t to_)) λh2 =>
(.callP (at6_c t (to6 t to_) from_ h2)
(.br 145 ((at6 t (to6 t to_) from_)==1073741824) (.ret (0,false))
(.ret (at6 t (to6 t to_) from_,true)))))))))))
def cos6_vc(t:Tpl)(from_:Int)(to_:Int)(I0:Bool→Prop)(r0:Int×Bool):Prop:=(cos6_x t from_ to_ I0).vp cos6_e r0
theorem cos6_p(t:Tpl)(f g:Int)(ok:cos6_a t f g):∃I0,cos6_vc t f g I0 (cos6 t f g):=by
  refine⟨λb=>b=decide (hs5 t f=false∨hs5 t g=false),?_⟩
  dsimp only[cos6_vc,cos6_x,cos6_s,Ax.vp,Ax.vc];simp only[vcU,rfU,List.length_map]
  refine ⟨⟨fun c => by have c : hs5 t f = false := by simpa using c
                       simp[c],λc=>?_⟩,?_⟩
  · have c:hs5 t f=true:=by simpa using c
    cases q:hs5 t g<;>simp[c]
  rintro _ rfl
  refine⟨λc=>by rw[cos6,if_pos (of_decide_eq_true c)],λc=>?_⟩
  have c:=of_decide_eq_false c
  have hf:hs5 t f=true:=by
    cases q:hs5 t f
    · exact absurd (.inl q) c
    · rfl
  have hc:=(hs5_iff.mp hf).1
  have:=(chk5_good hc).nr
  refine⟨hc,⟨to6_len,by omega⟩,λe=>by rw[cos6,if_neg c,if_pos (eq_of_beq e)],λe=>?_⟩
  rw[cos6,if_neg c,if_neg (by simpa using e)]
def cos6_c(t:Tpl)(from_:Int)(to_:Int):PC Tryz.prog:=⟨130,[(.a [(.s 2),(.s 5)]),.k,.k],[.agg [.sl 2 (t.rs.map Rtr.v) false,.sl 5 (t.ls.map Lnk.v) false],.int from_,.int to_],cos6_e (cos6 t from_ to_),PSpec.of_ok λok=>(cos6_p t from_ to_ ok).elim λI0 h=>mxP_of (sh:=.k) (enc:=cos6_e) (a:=(cos6_x t from_ to_ I0).an) h (by kernel_rfl) (AV.pureB_ok rfl),fnB_ok (by kernel_rfl)⟩
theorem cos_in{t:Tpl}(hc:chk5 t=0)(f g:Int):cos6 t f g=if mhas (dijT (inG t) g) f=true then(mval (dijT (inG t) g) f 0,true)else(0,false):=by
 unfold cos6
 by_cases hg:has5 t g=true
 ·by_cases hf:has5 t f=true
  ·rw[if_neg (by rw[hs5_iff.mpr ⟨hc,hf⟩,hs5_iff.mpr ⟨hc,hg⟩];simp),to6_dij hc hg f]
   by_cases h:mhas (dijT (inG t) g) f=true
   ·have:=dij_pos hc hg (mval_mem (z:=(0:Int)) h)
    rw[if_pos h,if_pos h,if_neg (by omega)]
   ·rw[if_neg h,if_neg h,if_pos (show far6=1073741824 from rfl)]
  ·have e:hs5 t f=false:=by rw[Bool.eq_false_iff];exact λq=>hf (hs5_iff.mp q).2
   rw[if_pos (.inl e),if_neg]
   intro q
   obtain⟨v,hv⟩:=mhas_iff.mp q
   have h:=dijT_fin (in_ok hc) (f:=g) (by unfold inG;rw[grh_keys,keys_has];exact hg)
   have:=h.ke _ (mkeys_mem.mpr ⟨v,hv⟩)
   unfold inG at this;rw[grh_keys,keys_has]at this
   exact hf this
 ·have e:hs5 t g=false:=by rw[Bool.eq_false_iff];exact λq=>hg (hs5_iff.mp q).2
  rw[if_pos (.inr e),dij_none hc (by simpa using hg)];rfl
theorem cos_out{t:Tpl}(hc:chk5 t=0)(f g:Int):cos6 t f g=if mhas (dijT (outG t) f) g=true then(mval (dijT (outG t) f) g 0,true)else(0,false):=by
 rw[cos_in hc]
 by_cases hf:has5 t f=true
 ·by_cases hg:has5 t g=true
  ·have key:∀m,(f,m)∈dijT (inG t) g↔(g,m)∈dijT (outG t) f:=λm=>by rw[in_least hc hg,out_least hc hf]
   have hF:=dijT_fin (in_ok hc) (f:=g) (by unfold inG;rw[grh_keys,keys_has];exact hg)
   by_cases h:mhas (dijT (inG t) g) f=true
   ·have hm:=mval_mem (z:=(0:Int)) h
    have h2:=(key _).mp hm
    have h3:mhas (dijT (outG t) f) g=true:=mhas_iff.mpr ⟨_,h2⟩
    have h4:=(key _).mpr (mval_mem (z:=(0:Int)) h3)
    rw[if_pos h,if_pos h3,mkey_inj hF.nd hm h4]
   ·have h3:¬mhas (dijT (outG t) f) g=true:=λq=>by
     obtain⟨v,hv⟩:=mhas_iff.mp q
     exact h (mhas_iff.mpr ⟨v,(key v).mpr hv⟩)
    rw[if_neg h,if_neg h3]
  ·rw[dij_none hc (by simpa using hg)]
   have h3:¬mhas (dijT (outG t) f) g=true:=λq=>by
    obtain⟨v,hv⟩:=mhas_iff.mp q
    have h:=dijT_fin (out_ok hc) (f:=f) (by unfold outG;rw[grh_keys,keys_has];exact hf)
    have:=h.ke _ (mkeys_mem.mpr ⟨v,hv⟩)
    unfold outG at this;rw[grh_keys,keys_has]at this
    exact hg this
   rw[if_neg h3];rfl
 ·rw[dij_noneO (by simpa using hf)]
  have h3:¬mhas (dijT (inG t) g) f=true:=λq=>by
   obtain⟨v,hv⟩:=mhas_iff.mp q
   by_cases hg:has5 t g=true
   ·have h:=dijT_fin (in_ok hc) (f:=g) (by unfold inG;rw[grh_keys,keys_has];exact hg)
    have:=h.ke _ (mkeys_mem.mpr ⟨v,hv⟩)
    unfold inG at this;rw[grh_keys,keys_has]at this
    exact hf this
   ·rw[dij_none hc (by simpa using hg)]at hv;cases hv
  rw[if_neg h3];rfl
def repR(l:List Int):Bool:=!decide l.Nodup
def cutM_a(x:Int)(n:Int):Prop:=okL [.int x,.int n]
def cutM_e(r:Int):AV:=.int r
def cutM_x(x:Int)(n:Int):Ax Tryz.prog noS (Int):=
 (.br 48 (decide (n<1)) (.ret (0))
(.say (ck (!(n==0))) (.br 144 (decide ((x.tmod n)<0)) (.ret (W ((x.tmod n)+n)))
(.ret (x.tmod n)))))
def cutM_vc(x:Int)(n:Int)(r0:Int):Prop:=(cutM_x x n).vp cutM_e r0
theorem cutM_p(x n:Int)(ok:cutM_a x n):cutM_vc x n (Mod x n):=by
 simp only[cutM_a,okU,Blk.ok,plainV,List.length_map]at ok
 dsimp only[cutM_vc,cutM_x,noS,Ax.vp,Ax.vc];simp only[vcU,rfU,List.length_map]
 refine⟨λh=>by rw[Mod,if_pos h],λh=>⟨by simp;omega,λh2=>?_,λh2=>by rw[Mod,if_neg h,if_neg h2]⟩⟩
 have hb:=Int.tmod_lt_of_pos x (show 0<n by omega)
 have hb':=Int.lt_tmod_of_pos x (show 0<n by omega)
 rw[Mod,if_neg h,if_pos h2,W_eq (by omega)]
def cutM_c(x:Int)(n:Int):PC Tryz.prog:=⟨89,[.k,.k],[.int x,.int n],cutM_e (Mod x n),PSpec.of_ok λok=>mxP_of (sh:=.k) (enc:=cutM_e) (a:=(cutM_x x n).an) (cutM_p x n ok) (by kernel_rfl) (AV.pureB_ok rfl),fnB_ok (by kernel_rfl)⟩
def rawM_a(L:(List Int))(p:Int):Prop:=okL [.ref 0 0]∧(.box (.agg [.sl 1 (L.map AV.int) false,.int p]):Blk).ok
def rawM_e(r:TapI×Int):AV:=.int r.2
def rawM_b(r:TapI×Int):List (Option Blk):=[some (.box (.agg [.sl 1 (r.1.L.map AV.int) false,.int r.1.p]))]
def rawM_x(L:(List Int))(p:Int):Ax Tryz.prog noS (TapI×Int):=
 (.br 177 (decide (((L.map AV.int).length:Int)≤p)) (.retH ((⟨L,p⟩:TapI),0) ⟨[(2,.k,.int 0)],[.box (.agg [.sl 1 (L.map AV.int) false,.int p])]⟩ [0])
(.elI 449 AV.int L (W ((W (p+1))-1)) λx1 =>
(.retH ((⟨L,W (p+1)⟩:TapI),x1) ⟨[(2,.k,.int x1)],[.box (.agg [.sl 1 (L.map AV.int) false,.int (W (p+1))])]⟩ [0])))
def rawM_vc(L:(List Int))(p:Int)(r0:TapI×Int):Prop:=(rawM_x L p).vc rawM_e rawM_b r0
theorem rawM_ok(L:(List Int))(p:Int)(r0:TapI×Int)(h:rawM_vc L p r0):HSpec Tryz.prog 90 [.ref 0 0] [.box (.agg [.sl 1 (L.map AV.int) false,.int p])] (rawM_e r0) (rawM_b r0):=mxH_of (sh:=.k) (hB:=rawM_b) (a:=(rawM_x L p).an) h (by kernel_rfl)
theorem rawM_p(L:List Int)(p:Nat)(ok:rawM_a L p):rawM_vc L p (⟨L,rawP L p⟩,rawV L p):=by
 simp only[rawM_a,okU,Blk.ok,plainV,List.length_map]at ok
 dsimp only[rawM_vc,rawM_x,noS,Ax.vp,Ax.vc];simp only[vcU,rfU,List.length_map]
 refine⟨λh=>?_,λh=>?_⟩
 ·rw[rawP,if_pos (by omega)];simp[rawV,List.getElem?_eq_none (show L.length≤p by omega)]
 ·have e1:W ((p:Int)+1)=p+1:=W_eq (by omega)
  have e2:W ((p:Int)+1-1)=p:=by rw[W_eq (by omega)];omega
  rw[e1,e2]
  refine⟨by omega,by omega,λx hx=>?_⟩
  rw[Int.toNat_natCast]at hx
  rw[rawP,if_neg (by omega)];simp[rawV,hx]
theorem rawM_spec(L:List Int)(p:Nat):HSpec Tryz.prog 90 [.ref 0 0] [.box (Tap.v ⟨L,p⟩)] (.int (rawV L p)) [some (.box (Tap.v ⟨L,rawP L p⟩))]:=
 HSpec.of_okh λok ok2=>rawM_ok L p _ (rawM_p L p ⟨ok,ok2 _ (List.mem_singleton.mpr rfl)⟩)
def rawM_h(L:List Int)(p:Nat):HC Tryz.prog:=⟨90,[],[.ref 0 0],[.box (Tap.v ⟨L,p⟩)],.int (rawV L p),[some (.box (Tap.v ⟨L,rawP L p⟩))],rawM_spec L p,fnB_ok (by kernel_rfl),HcOk.of rfl⟩
def nxtM_a(L:(List Int))(p:Nat)(n:Int):Prop:=okL [.ref 0 0,.int n]∧(.box (.agg [.sl 1 (L.map AV.int) false,.int ((p:Nat):Int)]):Blk).ok
def nxtM_e(r:Tap×Int):AV:=.int r.2
def nxtM_b(r:Tap×Int):List (Option Blk):=[some (.box (.agg [.sl 1 (r.1.L.map AV.int) false,.int ((r.1.p:Nat):Int)]))]
def nxtM_x(L:(List Int))(p:Nat)(n:Int):Ax Tryz.prog noS (Tap×Int):=
 (.callH [0] (rawM_h L p) 33
(.callP (cutM_c (rawV L p) n)
(.retH ((⟨L,rawP L p⟩:Tap),Mod (rawV L p) n) ⟨[(4,.k,.int (Mod (rawV L p) n))],[.box (.agg [.sl 1 (L.map AV.int) false,.int (((rawP L p):Nat):Int)])]⟩ [0])))
def nxtM_vc(L:(List Int))(p:Nat)(n:Int)(r0:Tap×Int):Prop:=(nxtM_x L p n).vc nxtM_e nxtM_b r0
theorem nxtM_p(L:List Int)(p:Nat)(n:Int)(ok:nxtM_a L p n):nxtM_vc L p n (⟨L,rawP L p⟩,Mod (rawV L p) n):=by
 dsimp only[nxtM_vc,nxtM_x,noS,Ax.vp,Ax.vc];simp only[vcU,rfU,List.length_map]
def nxtM_h(L:(List Int))(p:Nat)(n:Int):HC Tryz.prog:=⟨44,[.k,.k],[.ref 0 0,.int n],[.box (.agg [.sl 1 (L.map AV.int) false,.int ((p:Nat):Int)])],nxtM_e ((⟨L,rawP L p⟩,Mod (rawV L p) n):Tap×Int),nxtM_b ((⟨L,rawP L p⟩,Mod (rawV L p) n):Tap×Int),HSpec.of_okh λok ok2=>have ok:nxtM_a L p n:=⟨ok,ok2 _ (by simp)⟩;mxH_of (sh:=.k) (enc:=nxtM_e) (hB:=nxtM_b) (a:=(nxtM_x L p n).an) (nxtM_p L p n ok) (by kernel_rfl),fnB_ok (by kernel_rfl),HcOk.of (by simp[hcB,belBL,AV.belB,allB,okBk,okBkO,nxtM_e,nxtM_b,pureBL_map (v:=AV.int) (λ_=>rfl)])⟩
def rngM_a(L:(List Int))(p:Nat)(low:Int)(high:Int):Prop:=okL [.ref 0 0,.int low,.int high]∧(.box (.agg [.sl 1 (L.map AV.int) false,.int ((p:Nat):Int)]):Blk).ok
def rngM_e(r:Tap×Int):AV:=.int r.2
def rngM_b(r:Tap×Int):List (Option Blk):=[some (.box (.agg [.sl 1 (r.1.L.map AV.int) false,.int ((r.1.p:Nat):Int)]))]
def rngM_x(L:(List Int))(p:Nat)(low:Int)(high:Int):Ax Tryz.prog noS (Tap×Int):=
 (.callH [0] (nxtM_h L p (W ((W (high-low))+1))) 113
(.retH ((⟨L,rawP L p⟩:Tap),W (low+(Mod (rawV L p) (W ((W (high-low))+1))))) ⟨[(6,.k,.int (W (low+(Mod (rawV L p) (W ((W (high-low))+1))))))],[.box (.agg [.sl 1 (L.map AV.int) false,.int (((rawP L p):Nat):Int)])]⟩ [0]))
def rngM_vc(L:(List Int))(p:Nat)(low:Int)(high:Int)(r0:Tap×Int):Prop:=(rngM_x L p low high).vc rngM_e rngM_b r0
theorem rngM_p(L:List Int)(p:Nat)(lo hi:Int)(ok:rngM_a L p lo hi):rngM_vc L p lo hi (⟨L,rawP L p⟩,rng L p lo hi):=by
 dsimp only[rngM_vc,rngM_x,noS,Ax.vp,Ax.vc];simp only[vcU,rfU,List.length_map]
 rfl
def rngM_h(L:(List Int))(p:Nat)(low:Int)(high:Int):HC Tryz.prog:=⟨20,[.k,.k,.k],[.ref 0 0,.int low,.int high],[.box (.agg [.sl 1 (L.map AV.int) false,.int ((p:Nat):Int)])],rngM_e ((⟨L,rawP L p⟩,rng L p low high):Tap×Int),rngM_b ((⟨L,rawP L p⟩,rng L p low high):Tap×Int),HSpec.of_okh λok ok2=>have ok:rngM_a L p low high:=⟨ok,ok2 _ (by simp)⟩;mxH_of (sh:=.k) (enc:=rngM_e) (hB:=rngM_b) (a:=(rngM_x L p low high).an) (rngM_p L p low high ok) (by kernel_rfl),fnB_ok (by kernel_rfl),HcOk.of (by simp[hcB,belBL,AV.belB,allB,okBk,okBkO,rngM_e,rngM_b,pureBL_map (v:=AV.int) (λ_=>rfl)])⟩
def pckM_a(L:(List Int))(p:Nat)(l:(List Int)):Prop:=okL [.ref 0 0,.sl 1 (l.map AV.int) false]∧(.box (.agg [.sl 1 (L.map AV.int) false,.int ((p:Nat):Int)]):Blk).ok
def pckM_e(r:Tap×Int):AV:=.int r.2
def pckM_b(r:Tap×Int):List (Option Blk):=[some (.box (.agg [.sl 1 (r.1.L.map AV.int) false,.int ((r.1.p:Nat):Int)]))]
def pckM_x(L:(List Int))(p:Nat)(l:(List Int)):Ax Tryz.prog noS (Tap×Int):=
 (.callH [0] (nxtM_h L p ((l.map AV.int).length:Int)) 81
(.elI 97 AV.int l (Mod (rawV L p) ((l.map AV.int).length:Int)) λx1 =>
(.retH ((⟨L,rawP L p⟩:Tap),x1) ⟨[(4,.k,.int x1)],[.box (.agg [.sl 1 (L.map AV.int) false,.int (((rawP L p):Nat):Int)])]⟩ [0])))
def pckM_vc(L:(List Int))(p:Nat)(l:(List Int))(r0:Tap×Int):Prop:=(pckM_x L p l).vc pckM_e pckM_b r0
theorem pckM_p(L:List Int)(p:Nat)(l:List Int)(hl:l≠[])(ok:pckM_a L p l):pckM_vc L p l (⟨L,rawP L p⟩,pickI l (rawV L p)):=by
 have hl:0<l.length:=List.length_pos_iff.mpr hl
 have hm:=Mod_range (x:=rawV L p) (show 1≤(l.length:Int) by omega)
 dsimp only[pckM_vc,pckM_x,noS,Ax.vp,Ax.vc];simp only[vcU,rfU,List.length_map]
 refine⟨by omega,by omega,λx hx=>?_⟩
 rw[pickI,List.getD_eq_getElem?_getD,hx];rfl
def pckM_h(L:(List Int))(p:Nat)(l:(List Int))(hl:l≠[]):HC Tryz.prog:=⟨43,[.k,(.s 1)],[.ref 0 0,.sl 1 (l.map AV.int) false],[.box (.agg [.sl 1 (L.map AV.int) false,.int ((p:Nat):Int)])],pckM_e ((⟨L,rawP L p⟩,pickI l (rawV L p)):Tap×Int),pckM_b ((⟨L,rawP L p⟩,pickI l (rawV L p)):Tap×Int),HSpec.of_okh λok ok2=>have ok:pckM_a L p l:=⟨ok,ok2 _ (by simp)⟩;mxH_of (sh:=.k) (enc:=pckM_e) (hB:=pckM_b) (a:=(pckM_x L p l).an) (pckM_p L p l hl ok) (by kernel_rfl),fnB_ok (by kernel_rfl),HcOk.of (by simp[hcB,belBL,AV.belB,allB,okBk,okBkO,pckM_e,pckM_b,pureBL_map (v:=AV.int) (λ_=>rfl)])⟩
def oneT(L:List Int)(p:Nat)(n:Int):Bool:=Mod (rawV L p) n==W (n-1)
def oneM_a(L:(List Int))(p:Nat)(n:Int):Prop:=okL [.ref 0 0,.int n]∧(.box (.agg [.sl 1 (L.map AV.int) false,.int ((p:Nat):Int)]):Blk).ok
def oneM_e(r:Tap×Bool):AV:=.bool r.2
def oneM_b(r:Tap×Bool):List (Option Blk):=[some (.box (.agg [.sl 1 (r.1.L.map AV.int) false,.int ((r.1.p:Nat):Int)]))]
def oneM_x(L:(List Int))(p:Nat)(n:Int):Ax Tryz.prog noS (Tap×Bool):=
 (.callH [0] (nxtM_h L p n) 49
(.retH ((⟨L,rawP L p⟩:Tap),(Mod (rawV L p) n)==(W (n-1))) ⟨[(4,.k,.bool ((Mod (rawV L p) n)==(W (n-1))))],[.box (.agg [.sl 1 (L.map AV.int) false,.int (((rawP L p):Nat):Int)])]⟩ [0]))
def oneM_vc(L:(List Int))(p:Nat)(n:Int)(r0:Tap×Bool):Prop:=(oneM_x L p n).vc oneM_e oneM_b r0
theorem oneM_p(L:List Int)(p:Nat)(n:Int)(ok:oneM_a L p n):oneM_vc L p n (⟨L,rawP L p⟩,oneT L p n):=by
 dsimp only[oneM_vc,oneM_x,noS,Ax.vp,Ax.vc];simp only[vcU,rfU,List.length_map]
 rfl
def oneM_h(L:(List Int))(p:Nat)(n:Int):HC Tryz.prog:=⟨33,[.k,.k],[.ref 0 0,.int n],[.box (.agg [.sl 1 (L.map AV.int) false,.int ((p:Nat):Int)])],oneM_e ((⟨L,rawP L p⟩,oneT L p n):Tap×Bool),oneM_b ((⟨L,rawP L p⟩,oneT L p n):Tap×Bool),HSpec.of_okh λok ok2=>have ok:oneM_a L p n:=⟨ok,ok2 _ (by simp)⟩;mxH_of (sh:=.k) (enc:=oneM_e) (hB:=oneM_b) (a:=(oneM_x L p n).an) (oneM_p L p n ok) (by kernel_rfl),fnB_ok (by kernel_rfl),HcOk.of (by simp[hcB,belBL,AV.belB,allB,okBk,okBkO,oneM_e,oneM_b,pureBL_map (v:=AV.int) (λ_=>rfl)])⟩
def wldL:List Int:=[-1,0,1,7,8,23,24,31,32,63,64,99,100,255,256,257,1000,1001,1023,1024,1000000,1000001,1099511627776,9223372036854775807,-9223372036854775808]
def wldT(L:List Int)(p:Nat):Int:=pickI wldL (rawV L p)
def wldM_a(L:(List Int))(p:Nat):Prop:=okL [.ref 0 0]∧(.box (.agg [.sl 1 (L.map AV.int) false,.int ((p:Nat):Int)]):Blk).ok
def wldM_e(r:Tap×Int):AV:=.int r.2
def wldM_b(r:Tap×Int):List (Option Blk):=[some (.box (.agg [.sl 1 (r.1.L.map AV.int) false,.int ((r.1.p:Nat):Int)]))]
def wldM_x(L:(List Int))(p:Nat):Ax Tryz.prog noS (Tap×Int):=
 (.req 49 ([-1,0,1,7,8,23,24,31,32,63,64,99,100,255,256,257,1000,1001,1023,1024,1000000,1000001,1099511627776,9223372036854775807,-9223372036854775808]≠[]) λh1 =>
(.callH [0] (pckM_h L p [-1,0,1,7,8,23,24,31,32,63,64,99,100,255,256,257,1000,1001,1023,1024,1000000,1000001,1099511627776,9223372036854775807,-9223372036854775808] h1) 49
(.retH ((⟨L,rawP L p⟩:Tap),pickI [-1,0,1,7,8,23,24,31,32,63,64,99,100,255,256,257,1000,1001,1023,1024,1000000,1000001,1099511627776,9223372036854775807,-9223372036854775808] (rawV L p)) ⟨[(2,.k,.int (pickI [-1,0,1,7,8,23,24,31,32,63,64,99,100,255,256,257,1000,1001,1023,1024,1000000,1000001,1099511627776,9223372036854775807,-9223372036854775808] (rawV L p)))],[.box (.agg [.sl 1 (L.map AV.int) false,.int (((rawP L p):Nat):Int)])]⟩ [0])))
def wldM_vc(L:(List Int))(p:Nat)(r0:Tap×Int):Prop:=(wldM_x L p).vc wldM_e wldM_b r0
theorem wldM_p(L:List Int)(p:Nat)(ok:wldM_a L p):wldM_vc L p (⟨L,rawP L p⟩,wldT L p):=by
 dsimp only[wldM_vc,wldM_x,noS,Ax.vp,Ax.vc];simp only[vcU,rfU,List.length_map]
 exact⟨by simp,rfl⟩
def wldM_h(L:(List Int))(p:Nat):HC Tryz.prog:=⟨46,[.k],[.ref 0 0],[.box (.agg [.sl 1 (L.map AV.int) false,.int ((p:Nat):Int)])],wldM_e ((⟨L,rawP L p⟩,wldT L p):Tap×Int),wldM_b ((⟨L,rawP L p⟩,wldT L p):Tap×Int),HSpec.of_okh λok ok2=>have ok:wldM_a L p:=⟨ok,ok2 _ (by simp)⟩;mxH_of (sh:=.k) (enc:=wldM_e) (hB:=wldM_b) (a:=(wldM_x L p).an) (wldM_p L p ok) (by kernel_rfl),fnB_ok (by kernel_rfl),HcOk.of (by simp[hcB,belBL,AV.belB,allB,okBk,okBkO,wldM_e,wldM_b,pureBL_map (v:=AV.int) (λ_=>rfl)])⟩
def newM_a(l:(List Int)):Prop:=okL [.sl 1 (l.map AV.int) false]
def newM_e(r:Tap):AV:=.ref 0 0
def newM_b(r:Tap):List (Option Blk):=[some (.box (.agg [.sl 1 (r.L.map AV.int) false,.int ((r.p:Nat):Int)]))]
def newM_x(l:(List Int)):Ax Tryz.prog noS (Tap):=
 (.br 64 (decide (600<((l.map AV.int).length:Int))) (.say (λR=>Rf (α:=List AV) (l.map AV.int) (ck (bndB l.length 0 600 (l.length:Int))
R)) (.sub 80 AV.int l false
(.retH (⟨(l.take 600).drop 0,0⟩:Tap) ⟨[(2,.k,.ref 0 0)],[.box (.agg [.sl 1 (((l.take 600).drop 0).map AV.int) false,.int 0])]⟩ [144])))
(.retH (⟨l,0⟩:Tap) ⟨[(2,.k,.ref 0 0)],[.box (.agg [.sl 1 (l.map AV.int) false,.int 0])]⟩ [96]))
def newM_vc(l:(List Int))(r0:Tap):Prop:=(newM_x l).vc newM_e newM_b r0
theorem newM_p(t:List Int)(ok:newM_a t):newM_vc t ⟨t.take 600,0⟩:=by
 simp only[newM_a,okU,Blk.ok,plainV,List.length_map]at ok
 dsimp only[newM_vc,newM_x,noS,Ax.vp,Ax.vc];simp only[vcU,rfU,List.length_map]
 refine⟨λh=>⟨by simp[bndB];omega,by rw[List.drop_zero]⟩,λh=>by rw[List.take_of_length_le (by omega)]⟩
def newM_h(l:(List Int)):HC Tryz.prog:=⟨7,[(.s 1)],[.sl 1 (l.map AV.int) false],[],newM_e (⟨l.take 600,0⟩:Tap),newM_b (⟨l.take 600,0⟩:Tap),HSpec.of_okh λok _=>mxH_of (sh:=.k) (enc:=newM_e) (hB:=newM_b) (a:=(newM_x l).an) (newM_p l ok) (by kernel_rfl),fnB_ok (by kernel_rfl),HcOk.of (by simp[hcB,belBL,AV.belB,allB,okBk,okBkO,newM_e,newM_b,pureBL_map (v:=AV.int) (λ_=>rfl)])⟩
theorem insAt_len{α:Type}(l:List α)(k:Nat)(x:α)(h:k≤l.length):(insAt l k x).length=l.length+1:=by
 unfold insAt;simp;omega
theorem insAt_eqH{α:Type}{l:List α}{k:Nat}{x:α}:(((l.take k).drop 0)++[x])++((l.take ((l.length:Int).toNat)).drop k)=insAt l k x:=by rw[List.append_assoc,insAt_eqG]
def posK(out:List Lnk)(x:Lnk):Nat:=out.findIdx λy=>!decide (lnkL y x)
def ordK:List Lnk→List Lnk→List Lnk
 | [],out=>out
 | x::l,out=>ordK l (insAt out (posK out x) x)
def orlM_a(l:(List Lnk)):Prop:=okL [.sl 5 (l.map Lnk.v) false]
def orlM_n0(l:(List Lnk))(t0:Int×(List Lnk)):NF:=⟨[(0,.k,.sl 5 (l.map Lnk.v) false),(3,.k,.vec 0),(4,.k,.int t0.1)],[.vec 5 (t0.2.map Lnk.v) (pureBL_map (λ_=>rfl) t0.2)]⟩
def orlM_n1(l:(List Lnk))(t0:Int×(List Lnk))(t1:Int):NF:=⟨[(0,.k,.sl 5 (l.map Lnk.v) false),(3,.k,.vec 0),(4,.k,.int t0.1),(5,.k,.int t1)],[.vec 5 (t0.2.map Lnk.v) (pureBL_map (λ_=>rfl) t0.2)]⟩
def orlM_n2(l:(List Lnk))(t0:Int×(List Lnk))(t1:Int)(t2:Bool):NF:=⟨[(0,.k,.sl 5 (l.map Lnk.v) false),(3,.k,.vec 0),(4,.k,.int t0.1),(5,.k,.int t1),(55,.k,.bool t2)],[.vec 5 (t0.2.map Lnk.v) (pureBL_map (λ_=>rfl) t0.2)]⟩
@[reducible] def orlM_s:Nat→Type
 | 0=>Int×(List Lnk)
 | 1=>Int
 | 2=>Bool
 | _=>Unit
def orlM_e(r:(List Lnk)):AV:=.vec 0
def orlM_b(r:(List Lnk)):List (Option Blk):=[some (.vec 5 (r.map Lnk.v))]
def orlM_x(l:(List Lnk))(I0:(Int×(List Lnk))→Prop)(m0:(Int×(List Lnk))→Nat)(I1:Int×(List Lnk)→Int→Prop)(m1:Int×(List Lnk)→Int→Nat)(I2:Int×(List Lnk)→Int→Bool→Prop):Ax Tryz.prog orlM_s ((List Lnk)):=
 (.cmdL (.nilT 3 5) (.loop 0 (orlM_n0 l) I0 m0 (0,[]) [48] λ(t0:Int×(List Lnk)) b0 =>
(.br 65 (decide (t0.1<((l.map Lnk.v).length:Int))) (.loop 1 (orlM_n1 l t0) (I1 t0) (m1 t0) ((0):Int) [0] λ(t1:Int) b1 =>
(.pass (.join 2 (orlM_n2 l t0 t1) (λ(t2:Bool)=>I2 t0 t1 t2) (λb2=>(.br 81 (decide (t1<((t0.2.map Lnk.v).length:Int))) (.elJ 145 Lnk.v t0.2 t1 λx1 =>
(.elI 193 Lnk.v l t0.1 λx2 =>
(.br 273 (decide (x1.a<x2.a)) (.bk 2 b2 ((true):Bool) [0])
(.elJ 337 Lnk.v t0.2 t1 λx3 =>
(.elI 385 Lnk.v l t0.1 λx4 =>
(.br 465 (x3.a==x4.a) (.elJ 529 Lnk.v t0.2 t1 λx5 =>
(.elI 577 Lnk.v l t0.1 λx6 =>
(.bk 2 b2 ((decide (x5.b<x6.b)):Bool) [0])))
(.bk 2 b2 ((false):Bool) [0])))))))
(.bk 2 b2 ((false):Bool) [0]))) λ(t2:Bool) =>
(.br 1 t2 (.bk 1 b1 ((W (t1+1)):Int) [0])
(.wait (.say (Rf (t0.2.map Lnk.v)) (.cmd (.frzE 0 (t0.2.map Lnk.v) (pureBL_map (λ_=>rfl) t0.2)) (.say (λR=>Rf (α:=List AV) (t0.2.map Lnk.v) (ck (bndB t0.2.length 0 t1 (t0.2.length:Int))
R)) (.sub 65 Lnk.v t0.2 false
(.apX 81 Lnk.v [] ((t0.2.take t1.toNat).drop 0) (0+((t0.2.take t1.toNat).drop 0).length)
(.elI 161 Lnk.v l t0.1 λx7 =>
(.own 193 (.apX 209 Lnk.v ((t0.2.take t1.toNat).drop 0) [x7] (((t0.2.take t1.toNat).drop 0).length+1)
(.say (λR=>Rf (α:=List AV) (t0.2.map Lnk.v) (ck (bndB t0.2.length t1 (t0.2.length:Int) (t0.2.length:Int))
R)) (.sub 289 Lnk.v t0.2 false
(.apX 305 Lnk.v (((t0.2.take t1.toNat).drop 0)++[x7]) ((t0.2.take ((t0.2.length:Int).toNat)).drop t1.toNat) ((((t0.2.take t1.toNat).drop 0)++[x7]).length+((t0.2.take ((t0.2.length:Int).toNat)).drop t1.toNat).length)
(.bk 0 b0 (W (t0.1+1),(((t0.2.take t1.toNat).drop 0)++[x7])++((t0.2.take ((t0.2.length:Int).toNat)).drop t1.toNat)) [305])))))))))))))))))
(.retH t0.2 ⟨[(2,.k,.vec 0)],[.vec 5 (t0.2.map Lnk.v) (pureBL_map (λ_=>rfl) t0.2)]⟩ [0]))))
def orlM_vc(l:(List Lnk))(I0:(Int×(List Lnk))→Prop)(m0:(Int×(List Lnk))→Nat)(I1:Int×(List Lnk)→Int→Prop)(m1:Int×(List Lnk)→Int→Nat)(I2:Int×(List Lnk)→Int→Bool→Prop)(r0:(List Lnk)):Prop:=(orlM_x l I0 m0 I1 m1 I2).vc orlM_e orlM_b r0
theorem posK_eq{out:List Lnk}{x:Lnk}{j:Nat}(hj:j≤out.length)(h1:∀y∈out.take j,lnkL y x)(h2:∀y,out[j]?=some y→¬lnkL y x):posK out x=j:=by
 unfold posK
 by_cases e:j=out.length
 ·subst e
  rw[List.take_length]at h1
  rw[List.findIdx_eq_length]
  intro y hy
  simp[h1 y hy]
 ·rw[List.findIdx_eq (by omega)]
  refine⟨?_,λi hi=>?_⟩
  ·have:=h2 _ (List.getElem?_eq_getElem (by omega))
   simp[this]
  ·have:=h1 (out[i]'(by omega)) (List.mem_take_iff_getElem.mpr ⟨i,by omega,rfl⟩)
   simp[this]
theorem orlM_p(l:List Lnk)(h:l.length≤1000)(ok:orlM_a l):∃I0 m0 I1 m1 I2,orlM_vc l I0 m0 I1 m1 I2 (ordK l []):=by
 refine⟨λs=>∃k:Nat,s.1=k∧k≤l.length∧s.2.length=k∧ordK (l.drop k) s.2=ordK l [],λs=>l.length-s.1.toNat,
  λs t=>ForI s.2 (λy=>∀x,l[s.1.toNat]?=some x→lnkL y x) t,λs t=>s.2.length-t.toNat,λs t b=>b=true↔t<s.2.length∧∀x y,l[s.1.toNat]?=some x→s.2[t.toNat]?=some y→lnkL y x,?_⟩
 dsimp only[orlM_vc,orlM_x,orlM_s,Ax.vp,Ax.vc];simp only[vcU,rfU,List.length_map]
 refine⟨⟨0,rfl,by omega,rfl,by simp⟩,?_⟩
 rintro⟨i,out⟩ ⟨k,hi,hk,hl,hr⟩
 simp only at hi hl hr ⊢
 subst hi;subst hl
 simp only[Int.toNat_natCast]
 refine⟨λc=>?_,λc=>?_⟩
 ·have hx:=List.getElem?_eq_getElem (show out.length<l.length by omega)
  generalize l[out.length]=x at hx
  refine⟨ForI.zero,λt hI=>?_⟩
  obtain⟨j,rfl,hj,ha⟩:=hI
  have ha':∀y∈out.take j,lnkL y x:=λy hy=>ha y hy x hx
  have hI:ForI out (λy=>∀x,l[out.length]?=some x→lnkL y x) ((j:Nat):Int):=⟨j,rfl,hj,ha⟩
  simp only[Int.toNat_natCast]
  refine⟨⟨λd=>?_,λd=>⟨nofun,λq=>absurd q.1 d⟩⟩,λb hb=>?_⟩
  ·have hy:=List.getElem?_eq_getElem (show j<out.length by omega)
   generalize out[j]=y at hy
   have rg:(bif decide (0≤((j:Nat):Int))then decide (((j:Nat):Int)<out.length)else false)=true:=range2 (by omega) d
   refine⟨rg,by omega,λx1 h1=>⟨by omega,c,λx2 h2=>?_⟩⟩
   rw[hy]at h1;cases h1;rw[hx]at h2;cases h2
   refine⟨λe=>⟨λ_=>⟨d,λx' y' hx' hy'=>?_⟩,λ_=>trivial⟩,λe=>⟨rg,by omega,λx3 h3=>⟨by omega,c,λx4 h4=>?_⟩⟩⟩
   ·rw[hx]at hx';cases hx';rw[hy]at hy';cases hy';exact .inl e
   rw[hy]at h3;cases h3;rw[hx]at h4;cases h4
   refine⟨λe2=>⟨rg,by omega,λx5 h5=>⟨by omega,c,λx6 h6=>?_⟩⟩,λe2=>⟨nofun,λq=>?_⟩⟩
   ·rw[hy]at h5;cases h5;rw[hx]at h6;cases h6
    have e2:=eq_of_beq e2
    refine⟨λe3=>⟨d,λx' y' hx' hy'=>?_⟩,λq=>?_⟩
    ·rw[hx]at hx';cases hx';rw[hy]at hy';cases hy';exact .inr ⟨e2,e3⟩
    ·have:=q.2 x y hx hy;unfold lnkL at this;omega
   ·have:=q.2 x y hx hy
    have e2:¬y.a=x.a:=by simpa using e2
    unfold lnkL at this;omega
  ·refine⟨λe=>?_,λe=>?_⟩
   ·obtain⟨d,hd⟩:=hb.mp e
    have hy:=List.getElem?_eq_getElem (show j<out.length by omega)
    exact hI.step (by omega) (by rw[Int.toNat_natCast];exact hy) λx' hx'=>hd x' _ hx' hy
   ·have hp:posK out x=j:=posK_eq hj ha' λy hy q=>by
     have:=hb.mpr ⟨by have:=lt_of_get hy;omega,λx' y' hx' hy'=>by rw[hx]at hx';cases hx';rw[hy]at hy';cases hy';exact q⟩
     rw[e]at this;cases this
    refine⟨by simp[bndB];omega,by simp;omega,by omega,c,λx7 h7=>?_⟩
    rw[hx]at h7;cases h7
    have hi:(((out.take j).drop 0)++[x])++((out.take out.length).drop j)=insAt out j x:=by have:=insAt_eqH (l:=out) (k:=j) (x:=x);rwa [Int.toNat_natCast]at this
    rw[hi,W_succ (n:=l.length) (by omega) (by omega)]
    refine⟨by simp;omega,by simp[bndB];omega,by simp;omega,⟨out.length+1,rfl,by omega,insAt_len _ _ _ hj,?_⟩,by omega⟩
    rw[List.drop_eq_getElem_cons (by omega),ordK]at hr
    have:l[out.length]'(by omega)=x:=by rw[List.getElem?_eq_getElem (by omega)]at hx;exact Option.some.inj hx
    rw[this,hp]at hr
    exact hr
 ·have:out.length=l.length:=by omega
  rw[this,List.drop_length,ordK]at hr
  exact hr
def orlM_h(l:(List Lnk))(h:l.length≤1000):HC Tryz.prog:=⟨45,[(.s 5)],[.sl 5 (l.map Lnk.v) false],[],orlM_e (ordK l []),orlM_b (ordK l []),HSpec.of_okh λok _=>(orlM_p l h ok).elim λI0 h=>h.elim λm0 h=>h.elim λI1 h=>h.elim λm1 h=>h.elim λI2 h=>mxH_of (sh:=.k) (enc:=orlM_e) (hB:=orlM_b) (a:=(orlM_x l I0 m0 I1 m1 I2).an) h (by kernel_rfl),fnB_ok (by kernel_rfl),HcOk.of (by simp[hcB,belBL,AV.belB,allB,okBk,okBkO,orlM_e,orlM_b,pureBL_map (v:=Lnk.v) (λ_=>rfl)])⟩
def rtsM(k:Nat):List Rtr:=(List.range k).map λi=>⟨((i+1:Nat):Int),true⟩
def cnM(L:List Int)(a tree:Int)(skip:Bool)(p:Nat):Bool×Nat:=if(a==tree)=true∧skip=false then(true,p)else(oneT L p 3,rawP L p)
def lkM1(L:List Int)(cost a b:Int)(p:Nat):Lnk:=⟨a,b,rng L p 1 cost,rng L (rawP L p) 1 cost,Mod (rawV L (rawP L (rawP L p))) 4⟩
def inM(L:List Int)(cost b tree:Int)(skip:Bool):Nat→Int→List Lnk→Nat→List Lnk×Nat
 | 0,_,ls,p=>(ls,p)
 | f+1,a,ls,p=>if(cnM L a tree skip p).1=true then inM L cost b tree skip f (a+1) (ls++[lkM1 L cost a b (cnM L a tree skip p).2]) (rawP L (rawP L (rawP L (cnM L a tree skip p).2)))
  else inM L cost b tree skip f (a+1) ls (cnM L a tree skip p).2
def inR(L:List Int)(cost b:Int)(ls:List Lnk)(p:Nat):List Lnk×Nat:=inM L cost b (rng L p 1 (W (b-1))) (oneT L (rawP L p) 9) (b-1).toNat 1 ls (rawP L (rawP L p))
def ouM(L:List Int)(cost:Int):Nat→Int→List Lnk→Nat→List Lnk×Nat
 | 0,_,ls,p=>(ls,p)
 | f+1,b,ls,p=>ouM L cost f (b+1) (inR L cost b ls p).1 (inR L cost b ls p).2
def farM(j:Nat):List Rtr:=(List.range j).map λi=>⟨((50+i:Nat):Int),false⟩
def ixM(L:List Int)(p:Nat)(g:Tpl):Nat:=(Mod (rawV L p) g.ls.length).toNat
def spoM(L:List Int)(p:Nat)(g:Tpl):Tpl×Nat:=
 if Mod (rawV L p) 7=0 then(⟨g.rs++[⟨pickI [0,1,99,100,-1] (rawV L (rawP L p)),false⟩],g.ls⟩,rawP L (rawP L p))
 else if Mod (rawV L p) 7=1 then(⟨g.rs,g.ls++[⟨Mod (rawV L (rawP L p)) 4,Mod (rawV L (rawP L (rawP L p))) 4,1,1,0⟩]⟩,rawP L (rawP L (rawP L p)))
 else if Mod (rawV L p) 7=2 then(match g.ls[ixM L (rawP L p) g]? with
  | some y=>(⟨g.rs,g.ls.set (ixM L (rawP L p) g) ⟨y.a,y.b,wldT L (rawP L (rawP L p)),y.cb,y.w⟩⟩,rawP L (rawP L (rawP L p)))
  | none=>(g,rawP L p))
 else if Mod (rawV L p) 7=3 then(match g.ls[ixM L (rawP L p) g]? with
  | some y=>(⟨g.rs,g.ls.set (ixM L (rawP L p) g) ⟨y.a,y.b,y.ca,wldT L (rawP L (rawP L p)),y.w⟩⟩,rawP L (rawP L (rawP L p)))
  | none=>(g,rawP L p))
 else if Mod (rawV L p) 7=4 then(match g.ls[ixM L (rawP L p) g]? with
  | some y=>(⟨g.rs,g.ls.set (ixM L (rawP L p) g) ⟨y.a,y.b,y.ca,y.cb,wldT L (rawP L (rawP L p))⟩⟩,rawP L (rawP L (rawP L p)))
  | none=>(g,rawP L p))
 else if Mod (rawV L p) 7=5 then(match g.ls[ixM L (rawP L p) g]? with
  | some y=>(⟨g.rs,g.ls++[y]⟩,rawP L (rawP L p))
  | none=>(g,rawP L p))
 else(⟨g.rs++farM 25,g.ls⟩,rawP L p)
def cstM(L:List Int)(p:Nat):Int:=pickI [1,2,2,5] (rawV L (rawP L p))
def topO(L:List Int)(p:Nat)(most:Int):List Lnk×Nat:=ouM L (cstM L p) ((rng L p 1 most)-1).toNat 2 [] (rawP L (rawP L p))
def topB(L:List Int)(p:Nat)(most:Int):Tpl:=⟨rtsM (rng L p 1 most).toNat,ordK (topO L p most).1 []⟩
def topM(L:List Int)(p:Nat)(most n:Int):Tpl×Nat:=
 if 0<n∧oneT L (topO L p most).2 n=true then spoM L (rawP L (topO L p most).2) (topB L p most)else(topB L p most,if 0<n then rawP L (topO L p most).2 else(topO L p most).2)
theorem posK_le(out:List Lnk)(x:Lnk):posK out x≤out.length:=List.findIdx_le_length
theorem ordK_len:∀(l out:List Lnk),(ordK l out).length=l.length+out.length
 | [],out=>by simp[ordK]
 | x::l,out=>by rw[ordK,ordK_len l,insAt_len _ _ _ (posK_le _ _),List.length_cons];omega
theorem rtsM_len(k:Nat):(rtsM k).length=k:=by simp[rtsM]
theorem rtsM_succ(k:Nat):rtsM (k+1)=rtsM k++[⟨((k+1:Nat):Int),true⟩]:=by simp[rtsM,List.range_succ]
theorem farM_succ(k:Nat):farM (k+1)=farM k++[⟨((50+k:Nat):Int),false⟩]:=by simp[farM,List.range_succ]
theorem farM_len(k:Nat):(farM k).length=k:=by simp[farM]
theorem rng_1{L:List Int}{p:Nat}{m:Int}(h:1≤m∧m≤1000):1≤rng L p 1 m∧rng L p 1 m≤m:=by
 have hm:=Mod_range (x:=rawV L p) h.1
 unfold rng
 rw[W_eq (n:=m-1) (by omega),W_eq (n:=m-1+1) (by omega),show m-1+1=m by omega,W_eq (by omega)]
 omega
def topM_a(L:(List Int))(p:Nat)(most:Int)(n:Int):Prop:=okL [.ref 0 0,.int most,.int n]∧(.box (.agg [.sl 1 (L.map AV.int) false,.int ((p:Nat):Int)]):Blk).ok
def topM_n0(L:(List Int))(p:Nat)(most:Int)(n:Int)(t0:Int×(List Rtr)):NF:=⟨[(0,.k,.ref 0 0),(2,.k,.int n),(6,.k,.ref 1 0),(7,.k,.ref 2 0),(8,.k,.int (rng L p 1 most)),(9,.k,.int t0.1)],[.box (.agg [.sl 1 (L.map AV.int) false,.int (((rawP L p):Nat):Int)]),.box (.agg [.sl 0 [] true,.sl 0 [] true]),.box (.agg [.vec 3,.sl 0 [] true]),.vec 2 (t0.2.map Rtr.v) (pureBL_map (λ_=>rfl) t0.2)]⟩
def topM_n1(L:(List Int))(p:Nat)(most:Int)(n:Int)(t0:Int×(List Rtr))(t1:Int×Nat×(List Lnk)):NF:=⟨[(0,.k,.ref 0 0),(2,.k,.int n),(6,.k,.ref 1 0),(7,.k,.ref 2 0),(8,.k,.int (rng L p 1 most)),(10,.k,.int (pickI [1,2,2,5] (rawV L (rawP L p)))),(11,.k,.int t1.1)],[.box (.agg [.sl 1 (L.map AV.int) false,.int ((t1.2.1:Nat):Int)]),.box (.agg [.sl 0 [] true,.sl 0 [] true]),.box (.agg [.vec 3,.vec 4]),.vec 2 (t0.2.map Rtr.v) (pureBL_map (λ_=>rfl) t0.2),.vec 5 (t1.2.2.map Lnk.v) (pureBL_map (λ_=>rfl) t1.2.2)]⟩
def topM_n2(L:(List Int))(p:Nat)(most:Int)(n:Int)(t0:Int×(List Rtr))(t1:Int×Nat×(List Lnk))(t2:Int×(List Lnk)×Nat):NF:=⟨[(0,.k,.ref 0 0),(2,.k,.int n),(6,.k,.ref 1 0),(7,.k,.ref 2 0),(8,.k,.int (rng L p 1 most)),(10,.k,.int (pickI [1,2,2,5] (rawV L (rawP L p)))),(11,.k,.int t1.1),(12,.k,.int (rng L t1.2.1 1 (W (t1.1-1)))),(13,.k,.bool (oneT L (rawP L t1.2.1) 9)),(14,.k,.int t2.1)],[.box (.agg [.sl 1 (L.map AV.int) false,.int ((t2.2.2:Nat):Int)]),.box (.agg [.sl 0 [] true,.sl 0 [] true]),.box (.agg [.vec 3,.vec 4]),.vec 2 (t0.2.map Rtr.v) (pureBL_map (λ_=>rfl) t0.2),.vec 5 (t2.2.1.map Lnk.v) (pureBL_map (λ_=>rfl) t2.2.1)]⟩
def topM_n3(L:(List Int))(p:Nat)(most:Int)(n:Int)(t0:Int×(List Rtr))(t1:Int×Nat×(List Lnk))(t2:Int×(List Lnk)×Nat)(t3:Bool×Nat):NF:=⟨[(0,.k,.ref 0 0),(2,.k,.int n),(6,.k,.ref 1 0),(7,.k,.ref 2 0),(8,.k,.int (rng L p 1 most)),(10,.k,.int (pickI [1,2,2,5] (rawV L (rawP L p)))),(11,.k,.int t1.1),(12,.k,.int (rng L t1.2.1 1 (W (t1.1-1)))),(13,.k,.bool (oneT L (rawP L t1.2.1) 9)),(14,.k,.int t2.1),(60,.k,.bool t3.1)],[.box (.agg [.sl 1 (L.map AV.int) false,.int ((t3.2:Nat):Int)]),.box (.agg [.sl 0 [] true,.sl 0 [] true]),.box (.agg [.vec 3,.vec 4]),.vec 2 (t0.2.map Rtr.v) (pureBL_map (λ_=>rfl) t0.2),.vec 5 (t2.2.1.map Lnk.v) (pureBL_map (λ_=>rfl) t2.2.1)]⟩
def topM_n4(L:(List Int))(t0:Int×(List Rtr))(t1:Int×Nat×(List Lnk))(t4:Bool×Nat):NF:=⟨[(0,.k,.ref 0 0),(6,.k,.ref 1 0),(7,.k,.ref 2 0),(87,.k,.bool t4.1)],[.box (.agg [.sl 1 (L.map AV.int) false,.int ((t4.2:Nat):Int)]),.box (.agg [.sl 0 [] true,.sl 0 [] true]),.box (.agg [.vec 3,.vec 4]),.vec 2 (t0.2.map Rtr.v) (pureBL_map (λ_=>rfl) t0.2),.vec 5 ((ordK t1.2.2 []).map Lnk.v) (pureBL_map (λ_=>rfl) (ordK t1.2.2 []))]⟩
def topM_n5(L:(List Int))(t1:Int×Nat×(List Lnk))(t4:Bool×Nat)(t5:Int×(List Rtr)):NF:=⟨[(6,.k,.ref 1 0),(7,.k,.ref 2 0),(15,.k,.int t5.1)],[.box (.agg [.sl 1 (L.map AV.int) false,.int (((rawP L t4.2):Nat):Int)]),.box (.agg [.sl 0 [] true,.sl 0 [] true]),.box (.agg [.vec 3,.vec 4]),.vec 2 (t5.2.map Rtr.v) (pureBL_map (λ_=>rfl) t5.2),.vec 5 ((ordK t1.2.2 []).map Lnk.v) (pureBL_map (λ_=>rfl) (ordK t1.2.2 []))]⟩
@[reducible] def topM_s:Nat→Type
 | 0=>Int×(List Rtr)
 | 1=>Int×Nat×(List Lnk)
 | 2=>Int×(List Lnk)×Nat
 | 3=>Bool×Nat
 | 4=>Bool×Nat
 | 5=>Int×(List Rtr)
 | _=>Unit
def topM_e(r:Tap×Tpl):AV:=.agg [.vec 1,.vec 2]
def topM_b(r:Tap×Tpl):List (Option Blk):=[some (.box (.agg [.sl 1 (r.1.L.map AV.int) false,.int ((r.1.p:Nat):Int)])),some (.vec 2 (r.2.rs.map Rtr.v)),some (.vec 5 (r.2.ls.map Lnk.v))]
def topM_x(L:(List Int))(p:Nat)(most:Int)(n:Int)(I0:(Int×(List Rtr))→Prop)(m0:(Int×(List Rtr))→Nat)(I1:Int×(List Rtr)→(Int×Nat×(List Lnk))→Prop)(m1:Int×(List Rtr)→(Int×Nat×(List Lnk))→Nat)(I2:Int×(List Rtr)→Int×Nat×(List Lnk)→(Int×(List Lnk)×Nat)→Prop)(m2:Int×(List Rtr)→Int×Nat×(List Lnk)→(Int×(List Lnk)×Nat)→Nat)(I3:Int×(List Rtr)→Int×Nat×(List Lnk)→Int×(List Lnk)×Nat→(Bool×Nat)→Prop)(I4:Int×(List Rtr)→Int×Nat×(List Lnk)→(Bool×Nat)→Prop)(I5:Int×(List Rtr)→Int×Nat×(List Lnk)→Bool×Nat→(Int×(List Rtr))→Prop)(m5:Int×(List Rtr)→Int×Nat×(List Lnk)→Bool×Nat→(Int×(List Rtr))→Nat):Ax Tryz.prog topM_s (Tap×Tpl):=
 (.callH [0] (rngM_h L p 1 most) 65
(.cmdL (.nilB 17 0 2) (.loop 0 (topM_n0 L p most n) I0 m0 (1,[]) [0,1,17,113] λ(t0:Int×(List Rtr)) b0 =>
(.br 52 (decide (t0.1≤(rng L p 1 most))) (.apX 132 Rtr.v t0.2 [(⟨t0.1,true⟩:Rtr)] (t0.2.length+1)
(.bk 0 b0 (W (t0.1+1),t0.2++[(⟨t0.1,true⟩:Rtr)]) [0,1,2,132]))
(.req 84 ([1,2,2,5]≠[]) λh1 =>
(.callH [0] (pckM_h L (rawP L p) [1,2,2,5] h1) 84
(.cmdL (.nilB 2 1 5) (.loop 1 (topM_n1 L p most n t0) (I1 t0) (m1 t0) (2,rawP L (rawP L p),[]) [0,1,2,3,132] λ(t1:Int×Nat×(List Lnk)) b1 =>
(.br 53 (decide (t1.1≤(rng L p 1 most))) (.callH [0] (rngM_h L t1.2.1 1 (W (t1.1-1))) 101
(.callH [0] (oneM_h L (rawP L t1.2.1) 9) 149
(.loop 2 (topM_n2 L p most n t0 t1) (I2 t0 t1) (m2 t0 t1) (1,t1.2.2,rawP L (rawP L t1.2.1)) [0,1,2,3,4] λ(t2:Int×(List Lnk)×Nat) b2 =>
(.br 53 (decide (t2.1<t1.1)) (.pass (.join 3 (topM_n3 L p most n t0 t1 t2) (λ(t3:Bool×Nat)=>I3 t0 t1 t2 t3) (λb3=>(.br 117 (t2.1==(rng L t1.2.1 1 (W (t1.1-1)))) (.br 181 (!(oneT L (rawP L t1.2.1) 9)) (.bk 3 b3 (true,t2.2.2) [0,1,2,3,4])
(.callH [0] (oneM_h L t2.2.2 3) 197
(.bk 3 b3 (oneT L t2.2.2 3,rawP L t2.2.2) [0,1,2,3,4])))
(.callH [0] (oneM_h L t2.2.2 3) 197
(.bk 3 b3 (oneT L t2.2.2 3,rawP L t2.2.2) [0,1,2,3,4])))) λ(t3:Bool×Nat) =>
(.br 5 t3.1 (.callH [0] (rngM_h L t3.2 1 (pickI [1,2,2,5] (rawV L (rawP L p)))) 101
(.callH [0] (rngM_h L (rawP L t3.2) 1 (pickI [1,2,2,5] (rawV L (rawP L p)))) 149
(.callH [0] (nxtM_h L (rawP L (rawP L t3.2)) 4) 181
(.apX 229 Lnk.v t2.2.1 [(⟨t2.1,t1.1,rng L t3.2 1 (pickI [1,2,2,5] (rawV L (rawP L p))),rng L (rawP L t3.2) 1 (pickI [1,2,2,5] (rawV L (rawP L p))),Mod (rawV L (rawP L (rawP L t3.2))) 4⟩:Lnk)] (t2.2.1.length+1)
(.bk 2 b2 (W (t2.1+1),t2.2.1++[(⟨t2.1,t1.1,rng L t3.2 1 (pickI [1,2,2,5] (rawV L (rawP L p))),rng L (rawP L t3.2) 1 (pickI [1,2,2,5] (rawV L (rawP L p))),Mod (rawV L (rawP L (rawP L t3.2))) 4⟩:Lnk)],rawP L (rawP L (rawP L t3.2))) [0,1,2,3,229])))))
(.bk 2 b2 (W (t2.1+1),t2.2.1,t3.2) [0,1,2,3,4]))))
(.bk 1 b1 (W (t1.1+1),t2.2.2,t2.2.1) [0,1,2,3,4])))))
(.say (Rf (t1.2.2.map Lnk.v)) (.cmd (.frzE 4 (t1.2.2.map Lnk.v) (pureBL_map (λ_=>rfl) t1.2.2)) (.req 85 (t1.2.2.length≤1000) λh2 =>
(.callH [] (orlM_h t1.2.2 h2) 85
(.pass (.join 4 (topM_n4 L t0 t1) (λ(t4:Bool×Nat)=>I4 t0 t1 t4) (λb4=>(.br 181 (decide (0<n)) (.callH [0] (oneM_h L t1.2.1 n) 213
(.bk 4 b4 (oneT L t1.2.1 n,rawP L t1.2.1) [0,1,2,3,85]))
(.bk 4 b4 (false,t1.2.1) [0,1,2,3,85]))) λ(t4:Bool×Nat) =>
(.br 5 t4.1 (.callH [0] (nxtM_h L t4.2 7) 21
(.br 69 ((Mod (rawV L t4.2) 7)==0) (.req 133 ([0,1,99,100,-1]≠[]) λh3 =>
(.callH [0] (pckM_h L (rawP L t4.2) [0,1,99,100,-1] h3) 133
(.apX 181 Rtr.v t0.2 [(⟨pickI [0,1,99,100,-1] (rawV L (rawP L t4.2)),false⟩:Rtr)] (t0.2.length+1)
(.retH ((⟨L,rawP L (rawP L t4.2)⟩:Tap),(⟨t0.2++[(⟨pickI [0,1,99,100,-1] (rawV L (rawP L t4.2)),false⟩:Rtr)],ordK t1.2.2 []⟩:Tpl)) ⟨[(6,.k,.ref 3 0)],[.box (.agg [.sl 1 (L.map AV.int) false,.int (((rawP L (rawP L t4.2)):Nat):Int)]),.vec 2 ((t0.2++[(⟨pickI [0,1,99,100,-1] (rawV L (rawP L t4.2)),false⟩:Rtr)]).map Rtr.v) (pureBL_map (λ_=>rfl) (t0.2++[(⟨pickI [0,1,99,100,-1] (rawV L (rawP L t4.2)),false⟩:Rtr)])),.vec 5 ((ordK t1.2.2 []).map Lnk.v) (pureBL_map (λ_=>rfl) (ordK t1.2.2 [])),.box (.agg [.vec 1,.vec 2])]⟩ [0,181,4,1]))))
(.br 101 ((Mod (rawV L t4.2) 7)==1) (.callH [0] (nxtM_h L (rawP L t4.2) 4) 149
(.callH [0] (nxtM_h L (rawP L (rawP L t4.2)) 4) 181
(.apX 229 Lnk.v (ordK t1.2.2 []) [(⟨Mod (rawV L (rawP L t4.2)) 4,Mod (rawV L (rawP L (rawP L t4.2))) 4,1,1,0⟩:Lnk)] ((ordK t1.2.2 []).length+1)
(.retH ((⟨L,rawP L (rawP L (rawP L t4.2))⟩:Tap),(⟨t0.2,(ordK t1.2.2 [])++[(⟨Mod (rawV L (rawP L t4.2)) 4,Mod (rawV L (rawP L (rawP L t4.2))) 4,1,1,0⟩:Lnk)]⟩:Tpl)) ⟨[(6,.k,.ref 3 0)],[.box (.agg [.sl 1 (L.map AV.int) false,.int (((rawP L (rawP L (rawP L t4.2))):Nat):Int)]),.vec 2 (t0.2.map Rtr.v) (pureBL_map (λ_=>rfl) t0.2),.vec 5 (((ordK t1.2.2 [])++[(⟨Mod (rawV L (rawP L t4.2)) 4,Mod (rawV L (rawP L (rawP L t4.2))) 4,1,1,0⟩:Lnk)]).map Lnk.v) (pureBL_map (λ_=>rfl) ((ordK t1.2.2 [])++[(⟨Mod (rawV L (rawP L t4.2)) 4,Mod (rawV L (rawP L (rawP L t4.2))) 4,1,1,0⟩:Lnk)])),.box (.agg [.vec 1,.vec 2])]⟩ [0,3,229,1]))))
(.br 133 ((Mod (rawV L t4.2) 7)==2) (.br 197 (decide (0<(((ordK t1.2.2 []).map Lnk.v).length:Int))) (.callH [0] (nxtM_h L (rawP L t4.2) (((ordK t1.2.2 []).map Lnk.v).length:Int)) 293
(.callH [0] (wldM_h L (rawP L (rawP L t4.2))) 325
(.stJ 373 Lnk.v (ordK t1.2.2 []) (Mod (rawV L (rawP L t4.2)) (((ordK t1.2.2 []).map Lnk.v).length:Int)) (λy4=>(⟨y4.a,y4.b,wldT L (rawP L (rawP L t4.2)),y4.cb,y4.w⟩:Lnk)) λy4 =>
(.retH ((⟨L,rawP L (rawP L (rawP L t4.2))⟩:Tap),(⟨t0.2,(ordK t1.2.2 []).set ((Mod (rawV L (rawP L t4.2)) (((ordK t1.2.2 []).map Lnk.v).length:Int)).toNat) (⟨y4.a,y4.b,wldT L (rawP L (rawP L t4.2)),y4.cb,y4.w⟩:Lnk)⟩:Tpl)) ⟨[(6,.k,.ref 3 0)],[.box (.agg [.sl 1 (L.map AV.int) false,.int (((rawP L (rawP L (rawP L t4.2))):Nat):Int)]),.vec 2 (t0.2.map Rtr.v) (pureBL_map (λ_=>rfl) t0.2),.vec 5 (((ordK t1.2.2 []).set ((Mod (rawV L (rawP L t4.2)) (((ordK t1.2.2 []).map Lnk.v).length:Int)).toNat) (⟨y4.a,y4.b,wldT L (rawP L (rawP L t4.2)),y4.cb,y4.w⟩:Lnk)).map Lnk.v) (pureBL_map (λ_=>rfl) ((ordK t1.2.2 []).set ((Mod (rawV L (rawP L t4.2)) (((ordK t1.2.2 []).map Lnk.v).length:Int)).toNat) (⟨y4.a,y4.b,wldT L (rawP L (rawP L t4.2)),y4.cb,y4.w⟩:Lnk))),.box (.agg [.vec 1,.vec 2])]⟩ [0,3,4,1]))))
(.retH ((⟨L,rawP L t4.2⟩:Tap),(⟨t0.2,ordK t1.2.2 []⟩:Tpl)) ⟨[(6,.k,.ref 3 0)],[.box (.agg [.sl 1 (L.map AV.int) false,.int (((rawP L t4.2):Nat):Int)]),.vec 2 (t0.2.map Rtr.v) (pureBL_map (λ_=>rfl) t0.2),.vec 5 ((ordK t1.2.2 []).map Lnk.v) (pureBL_map (λ_=>rfl) (ordK t1.2.2 [])),.box (.agg [.vec 1,.vec 2])]⟩ [0,3,4,1]))
(.br 165 ((Mod (rawV L t4.2) 7)==3) (.br 229 (decide (0<(((ordK t1.2.2 []).map Lnk.v).length:Int))) (.callH [0] (nxtM_h L (rawP L t4.2) (((ordK t1.2.2 []).map Lnk.v).length:Int)) 325
(.callH [0] (wldM_h L (rawP L (rawP L t4.2))) 357
(.stJ 405 Lnk.v (ordK t1.2.2 []) (Mod (rawV L (rawP L t4.2)) (((ordK t1.2.2 []).map Lnk.v).length:Int)) (λy5=>(⟨y5.a,y5.b,y5.ca,wldT L (rawP L (rawP L t4.2)),y5.w⟩:Lnk)) λy5 =>
(.retH ((⟨L,rawP L (rawP L (rawP L t4.2))⟩:Tap),(⟨t0.2,(ordK t1.2.2 []).set ((Mod (rawV L (rawP L t4.2)) (((ordK t1.2.2 []).map Lnk.v).length:Int)).toNat) (⟨y5.a,y5.b,y5.ca,wldT L (rawP L (rawP L t4.2)),y5.w⟩:Lnk)⟩:Tpl)) ⟨[(6,.k,.ref 3 0)],[.box (.agg [.sl 1 (L.map AV.int) false,.int (((rawP L (rawP L (rawP L t4.2))):Nat):Int)]),.vec 2 (t0.2.map Rtr.v) (pureBL_map (λ_=>rfl) t0.2),.vec 5 (((ordK t1.2.2 []).set ((Mod (rawV L (rawP L t4.2)) (((ordK t1.2.2 []).map Lnk.v).length:Int)).toNat) (⟨y5.a,y5.b,y5.ca,wldT L (rawP L (rawP L t4.2)),y5.w⟩:Lnk)).map Lnk.v) (pureBL_map (λ_=>rfl) ((ordK t1.2.2 []).set ((Mod (rawV L (rawP L t4.2)) (((ordK t1.2.2 []).map Lnk.v).length:Int)).toNat) (⟨y5.a,y5.b,y5.ca,wldT L (rawP L (rawP L t4.2)),y5.w⟩:Lnk))),.box (.agg [.vec 1,.vec 2])]⟩ [0,3,4,1]))))
(.retH ((⟨L,rawP L t4.2⟩:Tap),(⟨t0.2,ordK t1.2.2 []⟩:Tpl)) ⟨[(6,.k,.ref 3 0)],[.box (.agg [.sl 1 (L.map AV.int) false,.int (((rawP L t4.2):Nat):Int)]),.vec 2 (t0.2.map Rtr.v) (pureBL_map (λ_=>rfl) t0.2),.vec 5 ((ordK t1.2.2 []).map Lnk.v) (pureBL_map (λ_=>rfl) (ordK t1.2.2 [])),.box (.agg [.vec 1,.vec 2])]⟩ [0,3,4,1]))
(.br 197 ((Mod (rawV L t4.2) 7)==4) (.br 261 (decide (0<(((ordK t1.2.2 []).map Lnk.v).length:Int))) (.callH [0] (nxtM_h L (rawP L t4.2) (((ordK t1.2.2 []).map Lnk.v).length:Int)) 357
(.callH [0] (wldM_h L (rawP L (rawP L t4.2))) 389
(.stJ 437 Lnk.v (ordK t1.2.2 []) (Mod (rawV L (rawP L t4.2)) (((ordK t1.2.2 []).map Lnk.v).length:Int)) (λy6=>(⟨y6.a,y6.b,y6.ca,y6.cb,wldT L (rawP L (rawP L t4.2))⟩:Lnk)) λy6 =>
(.retH ((⟨L,rawP L (rawP L (rawP L t4.2))⟩:Tap),(⟨t0.2,(ordK t1.2.2 []).set ((Mod (rawV L (rawP L t4.2)) (((ordK t1.2.2 []).map Lnk.v).length:Int)).toNat) (⟨y6.a,y6.b,y6.ca,y6.cb,wldT L (rawP L (rawP L t4.2))⟩:Lnk)⟩:Tpl)) ⟨[(6,.k,.ref 3 0)],[.box (.agg [.sl 1 (L.map AV.int) false,.int (((rawP L (rawP L (rawP L t4.2))):Nat):Int)]),.vec 2 (t0.2.map Rtr.v) (pureBL_map (λ_=>rfl) t0.2),.vec 5 (((ordK t1.2.2 []).set ((Mod (rawV L (rawP L t4.2)) (((ordK t1.2.2 []).map Lnk.v).length:Int)).toNat) (⟨y6.a,y6.b,y6.ca,y6.cb,wldT L (rawP L (rawP L t4.2))⟩:Lnk)).map Lnk.v) (pureBL_map (λ_=>rfl) ((ordK t1.2.2 []).set ((Mod (rawV L (rawP L t4.2)) (((ordK t1.2.2 []).map Lnk.v).length:Int)).toNat) (⟨y6.a,y6.b,y6.ca,y6.cb,wldT L (rawP L (rawP L t4.2))⟩:Lnk))),.box (.agg [.vec 1,.vec 2])]⟩ [0,3,4,1]))))
(.retH ((⟨L,rawP L t4.2⟩:Tap),(⟨t0.2,ordK t1.2.2 []⟩:Tpl)) ⟨[(6,.k,.ref 3 0)],[.box (.agg [.sl 1 (L.map AV.int) false,.int (((rawP L t4.2):Nat):Int)]),.vec 2 (t0.2.map Rtr.v) (pureBL_map (λ_=>rfl) t0.2),.vec 5 ((ordK t1.2.2 []).map Lnk.v) (pureBL_map (λ_=>rfl) (ordK t1.2.2 [])),.box (.agg [.vec 1,.vec 2])]⟩ [0,3,4,1]))
(.br 229 ((Mod (rawV L t4.2) 7)==5) (.br 293 (decide (0<(((ordK t1.2.2 []).map Lnk.v).length:Int))) (.callH [0] (nxtM_h L (rawP L t4.2) (((ordK t1.2.2 []).map Lnk.v).length:Int)) 421
(.elJ 453 Lnk.v (ordK t1.2.2 []) (Mod (rawV L (rawP L t4.2)) (((ordK t1.2.2 []).map Lnk.v).length:Int)) λx7 =>
(.apX 485 Lnk.v (ordK t1.2.2 []) [x7] ((ordK t1.2.2 []).length+1)
(.retH ((⟨L,rawP L (rawP L t4.2)⟩:Tap),(⟨t0.2,(ordK t1.2.2 [])++[x7]⟩:Tpl)) ⟨[(6,.k,.ref 3 0)],[.box (.agg [.sl 1 (L.map AV.int) false,.int (((rawP L (rawP L t4.2)):Nat):Int)]),.vec 2 (t0.2.map Rtr.v) (pureBL_map (λ_=>rfl) t0.2),.vec 5 (((ordK t1.2.2 [])++[x7]).map Lnk.v) (pureBL_map (λ_=>rfl) ((ordK t1.2.2 [])++[x7])),.box (.agg [.vec 1,.vec 2])]⟩ [0,3,485,1]))))
(.retH ((⟨L,rawP L t4.2⟩:Tap),(⟨t0.2,ordK t1.2.2 []⟩:Tpl)) ⟨[(6,.k,.ref 3 0)],[.box (.agg [.sl 1 (L.map AV.int) false,.int (((rawP L t4.2):Nat):Int)]),.vec 2 (t0.2.map Rtr.v) (pureBL_map (λ_=>rfl) t0.2),.vec 5 ((ordK t1.2.2 []).map Lnk.v) (pureBL_map (λ_=>rfl) (ordK t1.2.2 [])),.box (.agg [.vec 1,.vec 2])]⟩ [0,3,4,1]))
(.loop 5 (topM_n5 L t1 t4) (I5 t0 t1 t4) (m5 t0 t1 t4) (50,t0.2) [0,1,2,3,4] λ(t5:Int×(List Rtr)) b5 =>
(.br 37 (decide (t5.1<75)) (.apX 117 Rtr.v t5.2 [(⟨t5.1,false⟩:Rtr)] (t5.2.length+1)
(.bk 5 b5 (W (t5.1+1),t5.2++[(⟨t5.1,false⟩:Rtr)]) [0,1,2,117,4]))
(.retH ((⟨L,rawP L t4.2⟩:Tap),(⟨t5.2,ordK t1.2.2 []⟩:Tpl)) ⟨[(6,.k,.ref 3 0)],[.box (.agg [.sl 1 (L.map AV.int) false,.int (((rawP L t4.2):Nat):Int)]),.vec 2 (t5.2.map Rtr.v) (pureBL_map (λ_=>rfl) t5.2),.vec 5 ((ordK t1.2.2 []).map Lnk.v) (pureBL_map (λ_=>rfl) (ordK t1.2.2 [])),.box (.agg [.vec 1,.vec 2])]⟩ [0,3,4,1]))))))))))
(.retH ((⟨L,t4.2⟩:Tap),(⟨t0.2,ordK t1.2.2 []⟩:Tpl)) ⟨[(6,.k,.ref 3 0)],[.box (.agg [.sl 1 (L.map AV.int) false,.int ((t4.2:Nat):Int)]),.vec 2 (t0.2.map Rtr.v) (pureBL_map (λ_=>rfl) t0.2),.vec 5 ((ordK t1.2.2 []).map Lnk.v) (pureBL_map (λ_=>rfl) (ordK t1.2.2 [])),.box (.agg [.vec 1,.vec 2])]⟩ [0,3,4,1])))))))))))))))))
def topM_vc(L:(List Int))(p:Nat)(most:Int)(n:Int)(I0:(Int×(List Rtr))→Prop)(m0:(Int×(List Rtr))→Nat)(I1:Int×(List Rtr)→(Int×Nat×(List Lnk))→Prop)(m1:Int×(List Rtr)→(Int×Nat×(List Lnk))→Nat)(I2:Int×(List Rtr)→Int×Nat×(List Lnk)→(Int×(List Lnk)×Nat)→Prop)(m2:Int×(List Rtr)→Int×Nat×(List Lnk)→(Int×(List Lnk)×Nat)→Nat)(I3:Int×(List Rtr)→Int×Nat×(List Lnk)→Int×(List Lnk)×Nat→(Bool×Nat)→Prop)(I4:Int×(List Rtr)→Int×Nat×(List Lnk)→(Bool×Nat)→Prop)(I5:Int×(List Rtr)→Int×Nat×(List Lnk)→Bool×Nat→(Int×(List Rtr))→Prop)(m5:Int×(List Rtr)→Int×Nat×(List Lnk)→Bool×Nat→(Int×(List Rtr))→Nat)(r0:Tap×Tpl):Prop:=(topM_x L p most n I0 m0 I1 m1 I2 m2 I3 I4 I5 m5).vc topM_e topM_b r0
theorem topM_p(L:List Int)(p:Nat)(most n:Int)(h:1≤most∧most≤20)(ok:topM_a L p most n):∃I0 m0 I1 m1 I2 m2 I3 I4 I5 m5,topM_vc L p most n I0 m0 I1 m1 I2 m2 I3 I4 I5 m5 ((⟨L,(topM L p most n).2⟩:Tap),(topM L p most n).1):=by
 have hk:=rng_1 (L:=L) (p:=p) (m:=most) (by omega)
 refine⟨λs=>∃j:Nat,s.1=((j+1:Nat):Int)∧j≤(rng L p 1 most).toNat∧s.2=rtsM j,λs=>(rng L p 1 most).toNat+1-s.1.toNat,
  λ_ s=>∃j:Nat,s.1=((j+2:Nat):Int)∧j≤(rng L p 1 most-1).toNat∧s.2.2.length≤20 * j∧ouM L (cstM L p) ((rng L p 1 most-1).toNat-j) s.1 s.2.2 s.2.1=topO L p most,λ_ s=>(rng L p 1 most).toNat+1-s.1.toNat,
  λ_ s1 s=>∃j:Nat,s.1=((j+1:Nat):Int)∧j≤(s1.1-1).toNat∧s.2.1.length≤s1.2.2.length+j∧inM L (cstM L p) s1.1 (rng L s1.2.1 1 (W (s1.1-1))) (oneT L (rawP L s1.2.1) 9) ((s1.1-1).toNat-j) s.1 s.2.1 s.2.2=inR L (cstM L p) s1.1 s1.2.2 s1.2.1,λ_ s1 s=>s1.1.toNat-s.1.toNat,
  λ_ s1 s2 s=>s=cnM L s2.1 (rng L s1.2.1 1 (W (s1.1-1))) (oneT L (rawP L s1.2.1) 9) s2.2.2,
  λ_ s1 s=>s=(decide (0<n∧oneT L s1.2.1 n=true),if 0<n then rawP L s1.2.1 else s1.2.1),
  λ_ _ _ s=>∃j:Nat,s.1=((50+j:Nat):Int)∧j≤25∧s.2=rtsM (rng L p 1 most).toNat++farM j,λ_ _ _ s=>75-s.1.toNat,?_⟩
 dsimp only[topM_vc,topM_x,topM_s,Ax.vp,Ax.vc];simp only[vcU,rfU,List.length_map]
 generalize hK:rng L p 1 most=K at hk ⊢
 have hK0:topB L p most=⟨rtsM K.toNat,ordK (topO L p most).1 []⟩:=by unfold topB;rw[hK]
 refine⟨⟨0,rfl,Nat.zero_le _,rfl⟩,?_⟩
 rintro⟨i,rs⟩ ⟨j,hi,hj,hr⟩
 simp only at hi hr ⊢
 subst hi;subst hr
 rw[rtsM_len]
 refine⟨λc=>⟨by omega,⟨j+1,by rw[W_eq (by omega)];omega,by omega,(rtsM_succ j).symm⟩,by rw[W_eq (by omega)];omega⟩,λc=>⟨by simp,?_⟩⟩
 obtain rfl:j=K.toNat:=by omega
 refine⟨⟨0,rfl,Nat.zero_le _,by simp,by rw[topO,hK];rfl⟩,?_⟩
 rintro⟨b,q,ls⟩ ⟨jb,hb,hjb,hlb,hob⟩
 simp only at hb hlb hob ⊢
 refine⟨λc1=>?_,λc1=>?_⟩
 ·refine⟨⟨0,rfl,Nat.zero_le _,by simp,by rw[Nat.sub_zero];rfl⟩,?_⟩
  rintro⟨a,l2,p2⟩ ⟨ja,ha,hja,hla,hoa⟩
  simp only at ha hla hoa ⊢
  refine⟨λc2=>⟨⟨λe=>⟨λe2=>?_,λe2=>?_⟩,λe=>?_⟩,?_⟩,λc2=>?_⟩
  ·rw[cnM,if_pos ⟨e,by simpa using e2⟩]
  ·rw[cnM,if_neg (λq=>by rw[q.2]at e2;cases e2)]
  ·rw[cnM,if_neg (λq=>by rw[q.1]at e;cases e)]
  ·rintro _ rfl
   have hst:(b-1).toNat-ja=((b-1).toNat-(ja+1))+1:=by omega
   rw[hst,inM]at hoa
   have hw:W (a+1)=((ja+1+1:Nat):Int):=by rw[W_eq (by omega)];omega
   refine⟨λe=>?_,λe=>?_⟩
   ·rw[if_pos e]at hoa
    refine⟨by omega,⟨ja+1,hw,by omega,by simp;omega,?_⟩,by rw[hw];omega⟩
    rw[hw,show((ja+1+1:Nat):Int)=a+1 by omega]
    exact hoa
   ·rw[if_neg (by rw[e];simp)]at hoa
    refine⟨⟨ja+1,hw,by omega,by omega,?_⟩,by rw[hw];omega⟩
    rw[hw,show((ja+1+1:Nat):Int)=a+1 by omega]
    exact hoa
  ·have e1:(b-1).toNat-ja=0:=by omega
   rw[e1,inM]at hoa
   have e2:(K-1).toNat-jb=((K-1).toNat-(jb+1))+1:=by omega
   rw[e2,ouM,←hoa]at hob
   have hw:W (b+1)=((jb+1+2:Nat):Int):=by rw[W_eq (by omega)];omega
   refine⟨⟨jb+1,hw,by omega,by omega,?_⟩,by rw[hw];omega⟩
   rw[hw,show((jb+1+2:Nat):Int)=b+1 by omega]
   exact hob
 ·have e1:(K-1).toNat-jb=0:=by omega
  rw[e1,ouM]at hob
  have hT:topM L p most n=if 0<n∧oneT L q n=true then spoM L (rawP L q) ⟨rtsM K.toNat,ordK ls []⟩else(⟨rtsM K.toNat,ordK ls []⟩,if 0<n then rawP L q else q):=by
   unfold topM;rw[hK0,←hob]
  have hol:(ordK ls []).length≤400:=by rw[ordK_len];simp;omega
  generalize ordK ls []=ol at hT hol ⊢
  refine⟨by omega,⟨λc2=>?_,λc2=>?_⟩,?_⟩
  ·rw[if_pos c2]
   refine Prod.ext ?_ rfl
   rw[Bool.eq_iff_iff];simp[c2]
  ·rw[if_neg c2]
   refine Prod.ext ?_ rfl
   rw[Bool.eq_iff_iff];simp[c2]
  rintro _ rfl
  simp only
  refine⟨λe=>?_,λe=>by rw[hT,if_neg (of_decide_eq_false e)]⟩
  have e:=of_decide_eq_true e
  rw[hT,if_pos e,if_pos e.1]
  generalize rawP L q=q1
  have hix:∀{m:Nat},0<(m:Int)→(bif decide (0≤Mod (rawV L (rawP L q1)) m)then decide (Mod (rawV L (rawP L q1)) m<m)else false)=true∧(Mod (rawV L (rawP L q1)) m).toNat<m:=λ{m} hm=>by
   have:=Mod_range (x:=rawV L (rawP L q1)) (show 1≤(m:Int) by omega)
   exact⟨range2 this.1 this.2,by omega⟩
  have hno:¬0<(ol.length:Int)→∀i:Nat,ol[i]?=none:=λh i=>List.getElem?_eq_none (by omega)
  unfold spoM ixM
  simp only
  refine⟨λs0=>?_,λs0=>⟨λs1=>?_,λs1=>⟨λs2=>?_,λs2=>⟨λs3=>?_,λs3=>⟨λs4=>?_,λs4=>⟨λs5=>?_,λs5=>?_⟩⟩⟩⟩⟩⟩
  ·rw[if_pos (eq_of_beq s0)]
   exact⟨by simp,by omega,rfl⟩
  all_goals
   have s0:¬Mod (rawV L q1) 7=0:=by simpa using s0
   rw[if_neg s0]
  ·rw[if_pos (eq_of_beq s1)]
   exact⟨by omega,rfl⟩
  all_goals
   have s1:¬Mod (rawV L q1) 7=1:=by simpa using s1
   rw[if_neg s1]
  ·rw[if_pos (eq_of_beq s2)]
   exact⟨λh=>⟨(hix h).1,(hix h).2,λy hy=>by rw[hy]⟩,λh=>by rw[hno h]⟩
  all_goals
   have s2:¬Mod (rawV L q1) 7=2:=by simpa using s2
   rw[if_neg s2]
  ·rw[if_pos (eq_of_beq s3)]
   exact⟨λh=>⟨(hix h).1,(hix h).2,λy hy=>by rw[hy]⟩,λh=>by rw[hno h]⟩
  all_goals
   have s3:¬Mod (rawV L q1) 7=3:=by simpa using s3
   rw[if_neg s3]
  ·rw[if_pos (eq_of_beq s4)]
   exact⟨λh=>⟨(hix h).1,(hix h).2,λy hy=>by rw[hy]⟩,λh=>by rw[hno h]⟩
  all_goals
   have s4:¬Mod (rawV L q1) 7=4:=by simpa using s4
   rw[if_neg s4]
  ·rw[if_pos (eq_of_beq s5)]
   exact⟨λh=>⟨(hix h).1,(hix h).2,λy hy=>by rw[hy];exact⟨by omega,rfl⟩⟩,λh=>by rw[hno h]⟩
  have s5:¬Mod (rawV L q1) 7=5:=by simpa using s5
  rw[if_neg s5]
  refine⟨⟨0,rfl,by omega,by simp[farM]⟩,?_⟩
  rintro⟨i,rs⟩ ⟨j,hi,hj,hr⟩
  simp only at hi hr ⊢
  subst hi;subst hr
  refine⟨λf=>⟨by rw[List.length_append,rtsM_len,farM_len];omega,⟨j+1,by rw[W_eq (by omega)];omega,by omega,by rw[farM_succ,List.append_assoc]⟩,by rw[W_eq (by omega)];omega⟩,λf=>?_⟩
  obtain rfl:j=25:=by omega
  rfl
def topM_h(L:(List Int))(p:Nat)(most:Int)(n:Int)(h:1≤most∧most≤20):HC Tryz.prog:=⟨8,[.k,.k,.k],[.ref 0 0,.int most,.int n],[.box (.agg [.sl 1 (L.map AV.int) false,.int ((p:Nat):Int)])],topM_e ((⟨L,(topM L p most n).2⟩:Tap),(topM L p most n).1),topM_b ((⟨L,(topM L p most n).2⟩:Tap),(topM L p most n).1),HSpec.of_okh λok ok2=>have ok:topM_a L p most n:=⟨ok,ok2 _ (by simp)⟩;(topM_p L p most n h ok).elim λI0 h=>h.elim λm0 h=>h.elim λI1 h=>h.elim λm1 h=>h.elim λI2 h=>h.elim λm2 h=>h.elim λI3 h=>h.elim λI4 h=>h.elim λI5 h=>h.elim λm5 h=>mxH_of (sh:=.k) (enc:=topM_e) (hB:=topM_b) (a:=(topM_x L p most n I0 m0 I1 m1 I2 m2 I3 I4 I5 m5).an) h (by kernel_rfl),fnB_ok (by kernel_rfl),HcOk.of (by simp[hcB,belBL,AV.belB,allB,okBk,okBkO,topM_e,topM_b,pureBL_map (v:=AV.int) (λ_=>rfl),pureBL_map (v:=Lnk.v) (λ_=>rfl),pureBL_map (v:=Rtr.v) (λ_=>rfl)])⟩
end Go.Proofs.YtdoacjojljgdcaaGreat
