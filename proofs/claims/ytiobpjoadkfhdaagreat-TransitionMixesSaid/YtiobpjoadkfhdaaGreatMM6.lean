/- Texts joined: SO FM2 RD4 RD5 RD6 RD7 TC5 TC6 SR1 DT1 P1 DT2 DT3 DT4 PL KM1 KM2. -/
import Derived.Test.YtiobpjoadkfhdaaGreatSh
import Derived.Test.YtiobpjoadkfhdaaGreatChecked
import Derived.Test.YtiobpjoadkfhdaaGreatMM5
set_option linter.unusedVariables false
set_option linter.unusedSimpArgs false
set_option linter.unusedSectionVars false
namespace Go.Proofs.YtiobpjoadkfhdaaGreat
open Go Go.Am
open Go.Shelf Go.RowKit Go.Lib Go.Sort in
theorem w4(a b:Int)(x1 y1:Value)(w:World)(hx:x1.oneCell'=true)(hy:y1.oneCell'=true) :
  Calls Tryz.prog 210 #[.agg #[.int .i64 a,x1],.agg #[.int .i64 b,y1]] w λe w'=>e=.returned (.int .i64 (Lib.compareInt a b))∧∃q os',w'=grow (w.drewN q) os':=by
 have hcon:=λW'=>AnyG.cmp_Compare_int Tryz.cmpI a b W'
 change ∀W',Calls Tryz.prog 179 _ _ _ at hcon
 generalize Lib.compareInt a b=r at hcon ⊢
 go_enter Tryz.func210,Tryz.ntmps210
 go_wp2_with (go_at_call 179;refine(hcon _).mono ?_;rintro e w' ⟨rfl,rfl⟩)
 go_ret
 exact⟨rfl,0,_,by rw[alloc_eq_grow,alloc_eq_grow,grow_grow];rfl⟩
def Dt(l:List Stp):Prop:=l.length≤1000000∧l.Pairwise λa b=>a.to≠b.to
def j9(l:List Stp):List Stp:=l.mergeSort λa b=>decide (a.to≤b.to)
theorem jt(l:List Stp):(j9 l).Perm l:=List.mergeSort_perm _ _
theorem BU{l:List Stp}(h:Dt l):(j9 l).Pairwise λa b=>a.to<b.to:=by
 have h1:(j9 l).Pairwise λa b=>decide (a.to≤b.to)=true:=List.pairwise_mergeSort (λa b c h1 h2=>by simp at *;omega) (λa b=>by simp;omega) l;have h2:(j9 l).Pairwise λa b=>a.to≠b.to:=(List.Perm.pairwise_iff (λh=>Ne.symm h) (jt l)).mpr h.2;exact(h1.and h2).imp λ⟨h1,h2⟩=>by simp at h1;omega
open Go.Shelf Go.RowKit Go.Lib Go.Sort in
theorem um(l:List Stp)(h:Dt l):aF Tryz.prog 209 [.vec 0,.func 210 []] [.vec 2 (l.map Stp.v)] (.tup []) [some (.vec 2 ((j9 l).map Stp.v))]:=by
 refine ul Tryz.sortW Stp.v Stp.to 2 (by omega) (λ_=>by kernel_rfl) (λ_=>by kernel_rfl) (λx=>⟨_,rfl⟩) 210 (enters_of Tryz.func210 (by kernel_rfl) rfl) ?_ l (j9 l) (jt l) (BU h) h.1;intro a b xs ys w hx hy ox oy
 match xs,hx with
 | [x1],_ =>
 match ys,hy with
 | [y1],_=>exact w4 a b x1 y1 w (ox x1 (by simp)) (oy y1 (by simp))
theorem ao.give3{k n:Nat}{s s':S3}(b:Nat)(hnx:s'.nx=s.nx)(h1:s'.tm=s.tm)
  (h2:∀b' x,s'.hp b'=some x→b'≠b∧(s.hp b'=some x∨∃kk ks es es',s.hp b'=some (.map kk ks es)∧x=.map kk ks es'∧cM b s.hp es es'∧((∀z∈es,z.solid=true)→∀z∈es',z.solid=true))) (hb:s.hp b≠none):ao k n s s':=by
 rintro P c a w ⟨h0,A,μ,H⟩;have hle:∀k,A k→A k∨∃hd,μ b=some hd∧hd.emp=none∧hd.blk=k:=λ_ h=>.inl h;have hlive:∃x hd,s.hp b=some x∧μ b=some hd∧(hd.emp=none→¬A hd.blk∧hd.blk<w.heap.size∧(c.own hd.blk∨c.w.heap.size≤hd.blk)):=by
  cases hx:s.hp b with
  | none=>exact absurd hx hb
  | some x=>obtain⟨hd,e1,_,e3⟩:=H.blk b x hx;exact⟨x,hd,rfl,e1,e3⟩
 obtain⟨xb,hdb,hxb,hmb,hpb⟩:=hlive;have hsub:∀b' x,s'.hp b'=some x→b'≠b∧∃y,s.hp b'=some y:=by
  intro b' x hx
  obtain⟨e1,e2|⟨kk,ks,es,es',e2,_⟩⟩:=h2 b' x hx
  ·exact⟨e1,_,e2⟩
  ·exact⟨e1,_,e2⟩
 refine⟨h0,λk=>A k∨∃hd,μ b=some hd∧hd.emp=none∧hd.blk=k,μ,λt=>?_,H.n,H.df,λb' x hx=>?_,λb1 b2 x x' hd hd' hx hx'=>?_,?_,λb' hb'=>?_,H.keep,λb' hb'=>.inl (H.A0 b' hb'),?_,H.mu⟩
 ·rw[h1];exact(H.tm t).mono (cK.refl A w) hle _ (bu.refl _)
 ·obtain⟨hne,y,hy⟩:=hsub b' x hx;obtain⟨hd,g1,g2,g3⟩:=H.blk b' y hy
  refine⟨hd,g1,?_,λhe=>⟨?_,(g3 he).2⟩⟩
  ·rcases(h2 b' x hx).2 with e|⟨kk,ks,es,es',e1,e2,e4,e5⟩
   ·rw[hy]at e;cases e;exact g2.mono (cK.refl A w) hle (bu.refl _) (λ_=>rfl)
   ·rw[hy]at e1;cases e1;subst e2;obtain⟨q1,ents,ck,r1,r2,r3,r4⟩:=g2;exact⟨q1,ents,ck,r1,r2,e4.rvl H r3,e5 r4⟩
  ·rintro(h|⟨hd2,k1,k2,k3⟩)
   ·exact(g3 he).1 h
   ·exact hne (H.inj _ _ _ _ _ _ hy hxb g1 k1 he k2 k3.symm)
 ·obtain⟨_,y,hy⟩:=hsub b1 x hx;obtain⟨_,y',hy'⟩:=hsub b2 x' hx';exact H.inj _ _ _ _ _ _ hy hy'
 ·refine H.lt.mono (cK.refl A w) hle ?_
  rintro k (h|⟨hd,k1,k2,rfl⟩)
  ·exact H.lt k h
  ·rw[hmb]at k1;cases k1;exact(hpb k2).2.1
 ·rw[hnx]at hb';obtain⟨q1,q2⟩:=H.fr b' hb';refine⟨q1,?_⟩;cases hx:s'.hp b' with
  | none=>rfl
  | some x=>obtain⟨_,y,hy⟩:=hsub b' x hx;rw[q2]at hy;cases hy
 ·rintro k (h|⟨hd,k1,k2,rfl⟩)
  ·exact H.A1 k h
  ·rw[hmb]at k1;cases k1;exact .inr (hpb k2).2.2
theorem ao.giveM{k n:Nat}{tm:Nat→AV}{hp:Hp}{nx kk:Nat}{kq:Option Nat}{ks:List MK}{vs es:List AV}(b0 i b:Nat)(h0:hp b0=some (.map kq ks vs))(hi:vs[i]?=some (.vec b))(hb:hp b=some (.vec kk es))(hx:aD es) :
  ao k n ⟨tm,hp,nx⟩ ⟨tm,upd (upd hp b none) b0 (some (.map kq ks (vs.set i (.sl kk es false)))),nx⟩:=by
 have hne:b0≠b:=λe=>by subst e;rw[h0]at hb;cases hb
 refine ao.give3 b rfl rfl (λb' x hx'=>?_) (by show hp b≠none;rw[hb];simp);have hx':upd (upd hp b none) b0 (some (.map kq ks (vs.set i (.sl kk es false)))) b'=some x:=hx'
 by_cases e:b'=b0
 ·subst e;rw[ak]at hx';cases hx';exact⟨hne,.inr ⟨kq,ks,vs,_,h0,rfl,cM.set hi (aZ.vec hb hx),λh z hz=>by
   rcases ap' hz with hz|rfl
   ·exact h z hz
   ·rfl⟩⟩
 ·rw[ai _ _ e]at hx'
  by_cases e2:b'=b
  ·subst e2;rw[ak]at hx';cases hx'
  ·rw[ai _ _ e2]at hx';exact⟨e2,.inl hx'⟩
theorem ao.giveRows{k n:Nat}{tm:Nat→AV}{nx kk:Nat}{kq:Option Nat}{ks:List MK}{vs:List AV}{hp:Hp}(b0:Nat)(f:Nat→Nat)(es:Nat→List AV)(he:∀i,aD (es i))(hf:∀i j,f i=f j→i=j)(hf0:∀i,f i≠b0)(h0:hp b0=some (.map kq ks vs)):∀m:Nat,
  (∀i,i<m→vs[i]?=some (.vec (f i))∧hp (f i)=some (.vec kk (es i))) →
  ∃hp' vs',ao k n ⟨tm,hp,nx⟩ ⟨tm,hp',nx⟩∧hp' b0=some (.map kq ks vs')∧vs'.length=vs.length∧(∀i,i<m→vs'[i]?=some (.sl kk (es i) false))∧(∀i,m≤i→vs'[i]?=vs[i]?)∧∀b,b≠b0→(∀i,i<m→b≠f i)→hp' b=hp b
 | 0,_=>⟨hp,vs,ao.refl,h0,rfl,λi h=>absurd h (by omega),λ_ _=>rfl,λ_ _ _=>rfl⟩
 | m+1,h=>by
  obtain⟨hp1,vs1,w,a1,a2,a3,a4,a5⟩:=ao.giveRows b0 f es he hf hf0 h0 m λi hi=>h i (by omega);obtain⟨g1,g2⟩:=h m (by omega);have hl:m<vs1.length:=by rw[a2];exact(P'.mp g1).1
  refine⟨_,_,w.trans (ao.giveM b0 m (f m) a1 (by rw[a4 m (X' _)];exact g1) (by rw[a5 (f m) (hf0 m) λi hi e=>by have:=hf _ _ e;omega];exact g2) (he m)),ak _ _ _,by rw[aX',a2],λi hi=>?_,λi hi=>?_,λb hb hb'=>?_⟩
  ·rw[ak']
   by_cases e:m=i
   ·subst e;rw[F' rfl,F' hl]
   ·rw[E' e];exact a3 i (by omega)
  ·rw[ak',E' (by omega)];exact a4 i (by omega)
  ·rw[ai _ _ hb,ai _ _ (hb' m (by omega))];exact a5 b hb λi hi=>hb' i (by omega)
theorem ao.giveBM{k n:Nat}{tm:Nat→AV}{hp:Hp}{nx:Nat}{kq:Option Nat}{ks:List MK}{vs cs:List AV}(b0 i b:Nat)(h0:hp b0=some (.box (.agg cs)))(hi:cs[i]?=some (.mref b))(hb:hp b=some (.map kq ks vs))(hx:aD vs)(hs':(AV.agg (cs.set i (.mp kq ks vs))).solid=true) :
  ao k n ⟨tm,hp,nx⟩ ⟨tm,upd (upd hp b none) b0 (some (.box (.agg (cs.set i (.mp kq ks vs))))),nx⟩:=by
 have hne:b0≠b:=λe=>by subst e;rw[h0]at hb;cases hb
 refine ao.give b rfl (λu=>.inr aZ.refl) (λb' x hx'=>?_) (by show hp b≠none;rw[hb];simp);have hx':upd (upd hp b none) b0 (some (.box (.agg (cs.set i (.mp kq ks vs))))) b'=some x:=hx'
 by_cases e:b'=b0
 ·subst e;rw[ak]at hx';cases hx';exact⟨hne,.inr ⟨_,_,h0,rfl,hs',aZ.agg (cM.set hi (aZ.map hb hx))⟩⟩
 ·rw[ai _ _ e]at hx'
  by_cases e2:b'=b
  ·subst e2;rw[ak]at hx';cases hx'
  ·rw[ai _ _ e2]at hx';exact⟨e2,.inl hx'⟩
theorem aN.ownV{P:Program}{fid:FuncId}{n:Nat}{hp:Hp}{es es' args:List AV}{kk b f:Nat}{r:AV}(hs:aF P fid (.vec 0::args) [.vec kk es] r [some (.vec kk es')])(hf:iK P fid)
  (h0:aD args) (h1:aD es) (h2:aD es') (h3:r.pure) (hb:hp b=some (.vec kk es)):aN P n fid (.vec b::args) f hp [b] r (dT [(b,some (.vec kk es'))]):=by
 have key:=aN.hand (n:=n) (f:=f) (hp:=hp) hf hs [b] rfl (by simp) ⟨show(0:Nat)<1 by omega,aG h0⟩ (λi b' x e1 e2=>by
  match i with
  | 0=>simp at e1 e2;subst e1;subst e2;exact⟨aG h1,by rw[hb];simp only[Blk.ren,aK _ h1]⟩
  | i+1=>simp at e1) (by simp) (by simp) (AV.bel_pure h3) (λy hy=>by simp at hy;subst hy;exact aG h2)
 have e0:aI [b] f 0=b:=by simp[aI]
 have e3:bI [b] f [some (Blk.vec kk es')]=dT [(b,some (.vec kk es'))]:=by simp[bI,List.zipIdx,e0,Blk.ren,aK _ h2]
 rw[e3]at key;simpa only[cG,aK _ h0,AV.ren,AV.ren_pure _ h3,e0]using key
theorem Fy{P:Program}{n:Nat}{tm:Nat→AV}{hp:Hp}{fid:FuncId}{d:Option Nat}{g:AO}{xs:List AO}{os:List aA}{f:Nat}{K:S2→Nat→Prop}{es es' args:List AV}{r:AV}{kk b:Nat}
  (hs:aF P fid (.vec 0::args) [.vec kk es] r [some (.vec kk es')]) (hf:iK P fid) (h0:aD args) (h1:aD es) (h2:aD es') (h3:r.pure) (hg:evO tm g=.func fid [])
  (hx:xs.map (evO tm)=.vec b::args) (hb:hp b=some (.vec kk es)) (hK:evT P n os (f+16) ⟨aH d r tm,upd hp b (some (.vec kk es'))⟩ K):evT P n (⟨d,.call g xs,none⟩::os) f ⟨tm,hp⟩ K:=
 dz hg (by simpa using hx) (aN.ownV hs hf h0 h1 h2 h3 hb) (by rw[gL];exact hK)
def gD(ls:List Lnk)(x:Int):List Stp:=ls.flatMap λl=>if l.a=x then [⟨l.b,l.ca⟩]else if l.b=x then [⟨l.a,l.cb⟩]else []
def inS(ls:List Lnk)(x:Int):List Stp:=ls.flatMap λl=>if l.b=x then [⟨l.a,l.ca⟩]else if l.a=x then [⟨l.b,l.cb⟩]else []
theorem gf{M:List (List Stp)}{x j:Nat}{s:Stp}{r:List Stp}(h:M[j]?=some r):(apR M x s)[j]?=some (if x=j then r++[s]else r):=by
 unfold apR;rw[ak']
 by_cases e:x=j
 ·subst e;rw[F' rfl,F' (am h),F' rfl,H',h];rfl
 ·rw[E' e,E' e,h]
theorem yS{t:Tpl}(hnd:(t.rs.map (·.id)).Nodup){i:Nat}{r:Rtr}(h:t.rs[i]?=some r){a:Int}(ha:aJ t a=true):ix5 t a=i↔a=r.id:=by
 have h1:(t.rs.map (·.id))[i]?=some r.id:=by rw[I',h];rfl
 have h2:=pV ha
 constructor
 ·intro e;rw[e,h1]at h2;exact(Z' h2).symm
 ·intro e;subst e;exact(ef hnd h1 h2).symm
theorem nv{t:Tpl}(hnd:(t.rs.map (·.id)).Nodup):∀(m:Nat) (ls:List Lnk),ls.length=m→(∀l∈ls,(aJ t l.a=true∧aJ t l.b=true)∧l.a<l.b)→∀i r,t.rs[i]?=some r →
  (eo t ls)[2 * i]?=some (gD ls r.id)∧(eo t ls)[2 * i+1]?=some (inS ls r.id)
 | 0,ls,hm,hl,i,r,h=>by
  obtain rfl:=bh'.mp hm;have:=am h;unfold eo;rw[List.foldl_nil,aY',aY',F' (by omega),F' (by omega)];exact⟨rfl,rfl⟩
 | m+1,ls,hm,hl,i,r,h=>by
  obtain⟨ls',l,rfl⟩:∃ls' l,ls=ls'++[l]:=⟨ls.dropLast,ls.getLast (by intro e;subst e;cases hm),(List.dropLast_concat_getLast _).symm⟩
  have hm':ls'.length=m:=by simpa using hm
  obtain⟨g1,g2⟩:=nv hnd m ls' hm' (λx hx=>hl x (by simp[hx])) i r h;obtain⟨⟨ha,hb⟩,hab⟩:=hl l (by simp);have e:eo t (ls'++[l])=pR t (eo t ls') l:=by unfold eo;rw[be'];rfl
  have ea:=yS hnd h ha;have eb:=yS hnd h hb;rw[e];unfold pR;rw[gf (gf (gf (gf g1))),gf (gf (gf (gf g2)))];have o1:gD (ls'++[l]) r.id=gD ls' r.id++(if l.a=r.id then [⟨l.b,l.ca⟩]else if l.b=r.id then [⟨l.a,l.cb⟩]else []):=by unfold gD;rw[bt'];simp
  have o2:inS (ls'++[l]) r.id=inS ls' r.id++(if l.b=r.id then [⟨l.a,l.ca⟩]else if l.a=r.id then [⟨l.b,l.cb⟩]else []):=by unfold inS;rw[bt'];simp
  rw[o1,o2];have f1:∀q:Nat,¬(2 * q+1=2 * i):=λq=>by omega
  have f2:∀q:Nat,¬(2 * q=2 * i+1):=λq=>by omega
  have f3:∀q:Nat,(2 * q=2 * i)=(q=i):=λq=>propext ⟨λ_=>by omega,λ_=>by omega⟩;have f4:∀q:Nat,(2 * q+1=2 * i+1)=(q=i):=λq=>propext ⟨λ_=>by omega,λ_=>by omega⟩;simp only[f1,f2,f3,f4,ea,eb,if_false]
  by_cases h1:l.a=r.id
  ·have h2:¬l.b=r.id:=by omega
   simp[h1,h2]
  ·by_cases h2:l.b=r.id
   ·simp[h1,h2]
   ·simp[h1,h2]
theorem ye{t:Tpl}(hc:aC t=0)(x:Int):Dt (gD t.ls x):=by
 have hO:=ax hc
 constructor
 ·have:∀ls:List Lnk,(gD ls x).length≤ls.length:=λls=>by
   induction ls with
   | nil=>exact X' _
   | cons l ls ih =>
    have e:gD (l::ls) x=(if l.a=x then [⟨l.b,l.ca⟩]else if l.b=x then [⟨l.a,l.cb⟩]else [])++gD ls x:=rfl;rw[e,List.length_append];have:(if l.a=x then [(⟨l.b,l.ca⟩:Stp)]else if l.b=x then [⟨l.a,l.cb⟩]else []).length≤1:=by split<;>(try split)<;>simp
    simp only[Y'];omega
  have:=this t.ls;have:=hO.nl;omega
 ·unfold gD;rw[List.pairwise_flatMap];refine⟨λl hl=>by split<;>(try split)<;>simp,?_⟩;have hlt:=hO.lt;refine List.Pairwise.imp_of_mem (λ{l1 l2} m1 m2 h s1 h1 s2 h2=>?_) hO.ord;have a1:=hlt l1 m1;have a2:=hlt l2 m2;unfold bC at h
  (repeat' split at h1)<;>(repeat' split at h2)<;>simp at h1 h2<;>subst h1<;>subst h2<;>simp only[ne_eq]<;>omega
def iB(st seen:List Nat)(M:List (List Stp)):List (List Stp):=M.mapIdx λj r=>if j % 2=0∧st.getD (j / 2) 0∈seen then j9 r else r
theorem eX(st seen:List Nat)(M:List (List Stp)):(iB st seen M).length=M.length:=by simp[iB]
theorem BV(st:List Nat)(M:List (List Stp)):iB st [] M=M:=by
 refine aJ' λi=>?_;simp only[iB,bW'];simp
theorem BW{st seen:List Nat}{M:List (List Stp)}{i s0:Nat}{r:List Stp}(h:M[2 * i]?=some r)(hs:st[i]?=some s0)(h0:s0 ∉ seen):(iB st seen M)[2 * i]?=some r:=by
 have e:st.getD i 0=s0:=by rw[H',hs];rfl
 simp only[iB,bW',h,ai',show 2 * i / 2=i by omega,e];rw[E' (λh=>h0 h.2)]
theorem Al{st seen:List Nat}{M:List (List Stp)}{i s0:Nat}{r:List Stp}(h:M[2 * i]?=some r)(hs:st[i]?=some s0)(hn:st.Nodup)(hM:M.length=2 * st.length):iB st (seen++[s0]) M=(iB st seen M).set (2 * i) (j9 r):=by
 have hil:=am hs;refine aJ' λj=>?_;rw[ak']
 by_cases e:2 * i=j
 ·subst e;have e:st.getD i 0=s0:=by rw[H',hs];rfl
  rw[F' rfl,F' (by rw[eX];omega)];simp only[iB,bW',h,ai',show 2 * i / 2=i by omega,e];rw[F' ⟨by omega,by simp⟩]
 ·rw[E' e];simp only[iB,bW'];cases hj:M[j]? with
  | none=>rfl
  | some q =>
   have hjl:=am hj;simp only[ai']
   congr 1
   by_cases h2:j % 2=0
   ·have hk:j / 2<st.length:=by omega
    have hne:st.getD (j / 2) 0≠s0:=λe'=>by
     rw[H',f' hk]at e';have e':st[j / 2]?=some s0:=by rw[f' hk];exact congrArg some e'
     have:=ef hn e' hs;omega
    have e3:(st.getD (j / 2) 0∈seen++[s0])=(st.getD (j / 2) 0∈seen):=propext ⟨λh=>(ab'.mp h).elim id λh=>absurd (L'.mp h) hne,λh=>List.mem_append_left _ h⟩;simp only[e3]
   ·simp[h2]
def da(t:Tpl):Lks:=t.rs.map λr=>(r.id,j9 (gD t.ls r.id))
def inG(t:Tpl):Lks:=t.rs.map λr=>(r.id,inS t.ls r.id)
theorem BX{t:Tpl}(hc:aC t=0){st seen:List Nat}(h:∀s∈st,s∈seen)(hs:st.length=t.rs.length){i:Nat}{r:Rtr}(hr:t.rs[i]?=some r) :
  (iB st seen (eo t t.ls))[2 * i]?=some (j9 (gD t.ls r.id))∧(iB st seen (eo t t.ls))[2 * i+1]?=some (inS t.ls r.id):=by
 have hO:=ax hc;have hnd:(t.rs.map (·.id)).Nodup:=List.Pairwise.map _ (λa b h=>by omega) hO.asc;obtain⟨g1,g2⟩:=nv hnd _ t.ls rfl (λl hl=>⟨hO.has l hl,hO.lt l hl⟩) i r hr;have hi:i<st.length:=by rw[hs];exact am hr
 have e:st.getD i 0∈seen:=by rw[H',f' hi];exact h _ (aR' _)
 simp only[iB,bW',g1,g2,ai',show 2 * i / 2=i by omega];rw[F' ⟨by omega,e⟩,E' (by omega)];exact⟨rfl,rfl⟩
def rdE(t:Tpl):NF:=
 ⟨[(2,.k,.ref 1 0),(3,.k,.ref 2 0)],[.box (Tpl.v t),.box (.agg [.val (.map none),.val (.map none)]),.box (.agg [iY (da t),iY (inG t)])]⟩
theorem jv(r:List Stp):aD (r.map Stp.v):=au (ae c8 r)
theorem sj(L:Lks):aD (L.map λp=>AV.sl 2 (p.2.map Stp.v) false):=au (ae (v:=λp:Int×List Stp=>AV.sl 2 (p.2.map Stp.v) false) (λ_=>rfl) L)
theorem Oy(t:Tpl){k nx:Nat}{tm:Nat→AV}{hp:Hp}(t2:tm 2=.ref 1 0)(t3:tm 3=.ref 2 0)(h0:hp 0=some (.box (Tpl.v t)))(h1:hp 1=some (.box (.agg [.val (.map none),.val (.map none)])))(h2:hp 2=some (.box (.agg [.mref 3,.mref 4])))
  (h3:hp 3=some (.map none (kyN (t.rs.map (·.id))) (evN t.rs.length))) (h4:hp 4=some (.map none (kyN (t.rs.map (·.id))) (odN t.rs.length)))
  (hF:∀i r,t.rs[i]?=some r→hp (Fr (2 * i))=some (.vec 2 ((j9 (gD t.ls r.id)).map Stp.v))∧hp (Fr (2 * i+1))=some (.vec 2 ((inS t.ls r.id).map Stp.v))):ao 0 k ⟨tm,hp,nx⟩ (rdE t).st:=by
 have key:∀(f:Rtr→List Stp) (vs':List AV),vs'.length=t.rs.length→(∀i,i<t.rs.length→vs'[i]?=some (.sl 2 (((t.rs[i]?).elim [] f).map Stp.v) false))→vs'=(t.rs.map λr=>(r.id,f r)).map λp=>AV.sl 2 (p.2.map Stp.v) false:=λf vs' e1 e2=>by
  refine aJ' λi=>?_
  by_cases hi:i<t.rs.length
  ·rw[e2 i hi,I',I',f' hi];rfl
  ·rw[af' (by omega),af' (by simp;omega)]
 have ks:∀f:Rtr→List Stp,kyN (t.rs.map (·.id))=(t.rs.map λr=>(r.id,f r)).map λp=>MK.n p.1:=λf=>by unfold kyN;rw[aZ',aZ'];rfl
 obtain⟨hp1,v1,w1,a1,a2,a3,_,a5⟩:=ao.giveRows (k:=0) (n:=k) (tm:=tm) (nx:=nx) (kk:=2) 3 (λi=>Fr (2 * i)) (λi=>((t.rs[i]?).elim [] λr=>j9 (gD t.ls r.id)).map Stp.v) (λi=>jv _) (λi j h=>by unfold Fr at h;omega) (λi=>by unfold Fr;omega) h3 t.rs.length
  (λi hi=>⟨by rw[evN,I',bP' hi];rfl,by rw[f' hi];exact(hF i _ (f' hi)).1⟩)
 have b4:hp1 4=some (.map none (kyN (t.rs.map (·.id))) (odN t.rs.length)):=by rw[a5 4 (by decide) (λi _=>by unfold Fr;omega)];exact h4
 obtain⟨hp2,v2,w2,c1,c2,c3,_,c5⟩:=ao.giveRows (k:=0) (n:=k) (tm:=tm) (nx:=nx) (kk:=2) 4 (λi=>Fr (2 * i+1)) (λi=>((t.rs[i]?).elim [] λr=>inS t.ls r.id).map Stp.v) (λi=>jv _) (λi j h=>by unfold Fr at h;omega) (λi=>by unfold Fr;omega) b4 t.rs.length
  (λi hi=>⟨by rw[odN,I',bP' hi];rfl,by
   rw[f' hi,a5 _ (by unfold Fr;omega) (λj _=>by unfold Fr;omega)];exact(hF i _ (f' hi)).2⟩)
 have e1:=key (λr=>j9 (gD t.ls r.id)) v1 (by rw[a2,kS]) a3;have e2:=key (λr=>inS t.ls r.id) v2 (by rw[c2,kE]) c3;have lo:∀b,b<3→hp2 b=hp b:=λb hb=>by
  rw[c5 b (by omega) (λi _=>by unfold Fr;omega),a5 b (by omega) (λi _=>by unfold Fr;omega)]
 have m3:hp2 3=some (.map none (kyN (t.rs.map (·.id))) v1):=by rw[c5 3 (by decide) (λi _=>by unfold Fr;omega)];exact a1
 have z3:hp2 3=some (.map none ((da t).map λp=>MK.n p.1) ((da t).map λp=>AV.sl 2 (p.2.map Stp.v) false)):=by rw[m3,e1,ks];rfl
 have z4:hp2 4=some (.map none ((inG t).map λp=>MK.n p.1) ((inG t).map λp=>AV.sl 2 (p.2.map Stp.v) false)):=by rw[c1,e2,ks];rfl
 have hp1:(AV.agg [iY (da t),iY (inG t)]).pure:=⟨trivial,trivial,trivial⟩
 have hr:=λπ=>AV.ren_pure π hp1;have hb:=λk=>AV.bel_pure (k:=k) hp1;have z5:upd (upd hp2 3 none) 2 (some (.box (.agg [iY (da t),.mref 4]))) 4=some (.map none ((inG t).map λp=>MK.n p.1) ((inG t).map λp=>AV.sl 2 (p.2.map Stp.v) false)):=by
  rw[ai _ _ (by decide),ai _ _ (by decide)];exact z4
 refine w1.trans (w2.trans ((ao.giveBM 2 0 3 (by rw[lo 2 (by decide)];exact h2) rfl z3 (sj _) rfl).trans ((ao.giveBM 2 1 4 (cs:=[iY (da t),.mref 4]) (ak _ _ _) rfl z5 (sj _) rfl).trans ?_)));show ao 0 k _ ⟨cD [(2,.ref 1 0),(3,.ref 2 0)],hpL 0 [some (.box (Tpl.v t)),some (.box (.agg [.val (.map none),.val (.map none)])),some (.box (.agg [iY (da t),iY (inG t)]))],3⟩;have u:∀{b},b<2→∀x,upd (upd (upd (upd hp2 3 none) 2 (some (Blk.box (AV.agg [iY (da t),AV.mref 4])))) 4 none) 2 x b=hp b:=λ{b} hb x=>by
  rw[ai _ _ (by omega),ai _ _ (by omega),ai _ _ (by omega),ai _ _ (by omega),lo b (by omega)]
 refine ao.nf [0,1,2] [(2,.ref 1 0),(3,.ref 2 0)] [some (.box (Tpl.v t)),some (.box (.agg [.val (.map none),.val (.map none)])),some (.box (.agg [iY (da t),iY (inG t)]))] ?_ ?_ ⟨rfl,rfl⟩ (by decide) (by decide) (by decide)
 ·exact⟨⟨t2,show 1<3 by decide⟩,⟨t3,show 2<3 by decide⟩,trivial⟩
 ·refine⟨⟨(u (by decide) _).trans (h0.trans ?_),trivial,trivial,trivial⟩,⟨(u (by decide) _).trans (h1.trans ?_),trivial,trivial,trivial⟩,⟨(ak _ _ _).trans ?_,?_⟩,trivial⟩
  ·rfl
  ·rfl
  ·show _=some (Blk.box (AV.ren _ _));rw[hr];rfl
  ·exact hb _
def CM:AC:=.seq (.reg [⟨(some 100),.faddr 0 (.t 3),none⟩,⟨(some 101),.load false 1 (.t 100),none⟩,⟨(some 102),.rng (.t 101),none⟩])
 (.block 4 (.loop (.seq (.reg [⟨(some 103),.nxt (.t 102),none⟩,⟨(some 104),.ext 0 (.t 103),none⟩])
 (.seq (.cond (.t 104) (.skip) (.exit 4))
 (.block 5 (.seq (.reg [⟨(some 105),.ent (.t 102),none⟩,⟨(some 106),.ext 0 (.t 105),none⟩,⟨(some 8),.move (.t 106),none⟩])
 (.reg [⟨(some 107),.faddr 0 (.t 3),none⟩,⟨(some 108),.load false 1 (.t 107),none⟩,⟨(some 109),.move (.t 8),none⟩,⟨(some 110),.mget none ((.sl 0 [] true)) false (.t 108) (.t 109),none⟩,⟨(some 111),.call (.c (.func 209 [])) [(.t 110),(.c (.func 210 []))],none⟩])))))))
def rdQ(t:Tpl)(ids:List Int)(a b:List AV)(st:List Nat)(ck:Nat)(seen:List Nat):List (Option Blk):=
 [some (.box (Tpl.v t)),some (.box (.agg [.val (.map none),.val (.map none)])),some (.box (.agg [.mref 3,.mref 4])),some (.mst none (kyN ids) a st ck),some (.map none (kyN ids) b),some (.itr 3 st ck seen)]
def rdR(t:Tpl)(M:List (List Stp))(st:List Nat)(ck:Nat)(seen:List Nat):S3:=
 ⟨cD [(2,.ref 1 0),(3,.ref 2 0),(102,.ref 5 0)],GS M (hpL 0 (rdQ t (t.rs.map (·.id)) (evN t.rs.length) (odN t.rs.length) st ck seen)),2000⟩
theorem Nl{t:Tpl}{ids:List Int}{n:Nat}{hp:Hp}{bs fs:Nat→Nat}{a b:List AV}{st seen:List Nat}{ck:Nat}(hbs:bs 0=0∧bs 1=1∧bs 2=2∧bs 3=3∧bs 4=4)(hn:n≤400)(h0:hp 0=some (.box (Tpl.v t)))(h1:hp 1=some (.box (.agg [.val (.map none),.val (.map none)])))(h2:hp 2=some (.box (.agg [.mref 3,.mref 4])))
  (h3:hp 3=some (.mst none (kyN ids) a st ck)) (h4:hp 4=some (.map none (kyN ids) b)) (h5:hp (bs 5)=some (.itr 3 st ck seen)) (ha:a=(List.range n).map λi=>.vec (fs (2 * i))) (hb:b=(List.range n).map λi=>.vec (fs (2 * i+1))) :
  ∀i x,(rdQ t ids (evN n) (odN n) st ck seen)[i]?=some (some x)→hp (bs i)=some (x.ren (ft bs fs))∧x.bel 2000:=by
 obtain⟨b0,b1,b2,b3,b4⟩:=hbs;have e3:ft bs fs 3=3:=by rw[eT (by omega),b3]
 have e4:ft bs fs 4=4:=by rw[eT (by omega),b4]
 intro i x h
 rcases i with _|_|_|_|_|_|i
 ·cases h;exact⟨by rw[b0];exact h0,⟨trivial,trivial,trivial⟩⟩
 ·cases h;exact⟨by rw[b1];exact h1,⟨trivial,trivial,trivial⟩⟩
 ·cases h;exact⟨by rw[b2,h2];show _=some (Blk.box (.agg [.mref (ft bs fs 3),.mref (ft bs fs 4)]));rw[e3,e4],⟨show 3<2000 by omega,show 4<2000 by omega,trivial⟩⟩
 ·cases h;exact⟨by show hp (bs 3)=_;rw[b3,h3,Blk.ren,qk hn,ha],qm hn⟩
 ·cases h;exact⟨by show hp (bs 4)=_;rw[b4,h4,Blk.ren,pJ hn,hb],pK hn⟩
 ·cases h;exact⟨by show hp (bs 5)=some (.itr (ft bs fs 3) st ck seen);rw[e3];exact h5,show 3<2000 by omega⟩
 ·simp[rdQ]at h
theorem rd_h3(t:Tpl)(hc:aC t=0)(k:Nat):dL Tryz.prog 0 k CM (rdS t (eo t t.ls)) (rdE t).st:=by
 unfold dL CM rdS;have hO:=ax hc;have hR:=hO.nr;have hml:=aU;have hM:=dx t t.ls;have hnd:(t.rs.map (·.id)).Nodup:=List.Pairwise.map _ (λa b h=>by omega) hO.asc;have hkO:∀q∈kyN (t.rs.map (·.id)),kOk q:=λq hq=>by
  obtain⟨x,hx,rfl⟩:=aa'.mp hq;obtain⟨r,hr,rfl⟩:=aa'.mp hx;have:=hO.rg r hr;show inK .i64 r.id;rw[EH];omega
 have hG0:∀b,b<1000→GS (eo t t.ls) (hpL 0 (rdH t (t.rs.map (·.id)) (evN t.rs.length) (odN t.rs.length))) b=hpL 0 (rdH t (t.rs.map (·.id)) (evN t.rs.length) (odN t.rs.length)) b:=λb hb=>lY hb;refine AWP.open 3 (hG0 3 (by decide)) λst ck hs1 hs2 hn hv=>?_;rw[kyN,u',u']at hs2;have g2:GS (eo t t.ls) (hpL 0 (rdH t (t.rs.map (·.id)) (evN t.rs.length) (odN t.rs.length))) 2=some (.box (.agg [.mref 3,.mref 4])):=hG0 2 (by decide);refine AWP.seq' ?_;refine AWP.reg' λK hK=>?_
 try simp only[ag,seval,g2]
 refine qh rfl (ak _ _ _) ?_
 try simp only[ag,seval]
 refine hK _ _ _ ?_;clear hK K;refine AWP.block ?_
 refine AWP.loopS (λseen:List Nat=>rdR t (iB st seen (eo t t.ls)) st ck seen) (λseen=>seen.Nodup∧∀s∈seen,s∈st) (λseen=>st.length-seen.length) (i0:=[]) ⟨by simp,by simp⟩ ?_ ?_
 ·rw[BV]
  refine ao.nfR c8 _ _ _ (λb=>if b=5 then 2032 else b) Fr ?_ (Nl ⟨rfl,rfl,rfl,rfl,rfl⟩ (by omega) ?_ ?_ ?_ ?_ ?_ ?_ rfl rfl) (by simp[rdQ]) (by omega) ?_ ?_ (λi j _ _ h=>by unfold Fr at h;omega) ?_ (λb hb=>by omega) (by decide)
  ·simp only[aM',aB',false_implies,implies_true,and_true];exact⟨⟨rfl,show 1<2000 by omega⟩,⟨rfl,show 2<2000 by omega⟩,rfl,show 5<2000 by omega⟩
  ·rw[ai _ _ (by decide),ai _ _ (by decide)];exact hG0 0 (by decide)
  ·rw[ai _ _ (by decide),ai _ _ (by decide)];exact hG0 1 (by decide)
  ·rw[ai _ _ (by decide),ai _ _ (by decide)];exact hG0 2 (by decide)
  ·rw[ai _ _ (by decide),ak];rfl
  ·rw[ai _ _ (by decide),ai _ _ (by decide)];exact hG0 4 (by decide)
  ·rfl
  ·intro j r hr;have hj:=am hr;rw[ai _ _ (by unfold Fr;omega),ai _ _ (by unfold Fr;omega)];exact it hr (by omega)
  ·intro a b ha hb he;simp only[rdQ,Y',al']at ha hb
   (repeat' split at he)<;>omega
  ·intro a b ha hb he;simp only[rdQ,Y',al']at ha;unfold Fr at he
   (repeat' split at he)<;>omega
 ·rintro seen ⟨hnd',hsub⟩;unfold rdR;have hS0:∀b,b<1000→GS (iB st seen (eo t t.ls)) (hpL 0 (rdQ t (t.rs.map (·.id)) (evN t.rs.length) (odN t.rs.length) st ck seen)) b=hpL 0 (rdQ t (t.rs.map (·.id)) (evN t.rs.length) (odN t.rs.length) st ck seen) b:=λb hb=>lY hb;refine AWP.seq' ?_;refine AWP.reg' λK hK=>?_
  try simp only[ag,seval]
  refine qi rfl (hS0 5 (by decide)) (hS0 3 (by decide)) hkO (λhs=>?_) (λi q v s0 e1 e2 e3 e4=>?_)
  ·try simp only[ag,seval]
   refine hK _ _ _ ?_;clear hK K;refine AWP.seq' (AWP.cond (b:=false) rfl (λh=>by cases h) (λ_=>AWP.exit ?_));refine(show ao 0 k _ _ from ?_)
   refine ao.trans (ao.close 3 (hS0 3 (by decide))) (Oy t rfl rfl ?_ ?_ ?_ ?_ ?_ ?_)
   ·rw[ai _ _ (by decide)];exact hS0 0 (by decide)
   ·rw[ai _ _ (by decide)];exact hS0 1 (by decide)
   ·rw[ai _ _ (by decide)];exact hS0 2 (by decide)
   ·rw[ak]
   ·rw[ai _ _ (by decide)];exact hS0 4 (by decide)
   ·intro i r hr;obtain⟨q1,q2⟩:=BX hc hs hs2 hr;rw[ai _ _ (by unfold Fr;omega),ai _ _ (by unfold Fr;omega)];exact⟨it q1 (by rw[eX];omega),it q2 (by rw[eX];omega)⟩
  ·have hi:i<t.rs.length:=by have:=am e3;omega
   have hr:t.rs[i]?=some t.rs[i]:=f' hi;generalize t.rs[i]=r at hr;have e1':(kyN (t.rs.map (·.id)))[i]?=some (MK.n r.id):=by rw[kyN,I',I',hr];rfl
   rw[e1']at e1;cases e1;have e2':(evN t.rs.length)[i]?=some (.vec (Fr (2 * i))):=by rw[evN,I',bP' hi];rfl
   rw[e2']at e2;cases e2
   try simp only[ag,seval]
   refine hK _ _ _ ?_;clear hK K;refine AWP.seq' (AWP.cond (b:=true) rfl (λ_=>?_) (λh=>by cases h));refine AWP.skip ?_;refine AWP.block (AWP.seq' ?_);refine AWP.reg' λK hK=>?_
   try simp only[ag,seval]
   refine qj (m:=3) rfl (ak _ _ _) ((ai _ _ (by decide)).trans ((ai _ _ (by decide)).trans (hS0 3 (by decide)))) e3 e1' e2' (hkO _ (J' e1')) ?_
   try simp only[ag,seval,kAV]
   refine hK _ _ _ ?_;clear hK K;refine(show AWP _ _ _ _ _ _ from ?_);obtain⟨hk1,hk2⟩:=kM hnd (show(t.rs.map (·.id))[i]?=some r.id by rw[I',hr];rfl);have hmg:cR (kyN (t.rs.map (·.id))) (evN t.rs.length) (MK.n r.id) (.sl 0 [] true) false=.vec (Fr (2 * i)):=by
    unfold cR;rw[F' hk1,hk2,ql hi];rfl
   obtain⟨q1,q2⟩:=nv hnd _ t.ls rfl (λl hl=>⟨hO.has l hl,hO.lt l hl⟩) i r hr;have q3:=BW (seen:=seen) q1 e3 e4;have gF:GS (iB st seen (eo t t.ls)) (hpL 0 (rdQ t (t.rs.map (·.id)) (evN t.rs.length) (odN t.rs.length) st ck seen)) (Fr (2 * i))=some (.vec 2 ((gD t.ls r.id).map Stp.v)):=it q3 (by rw[eX];omega);have g2':GS (iB st seen (eo t t.ls)) (hpL 0 (rdQ t (t.rs.map (·.id)) (evN t.rs.length) (odN t.rs.length) st ck seen)) 2=some (.box (.agg [.mref 3,.mref 4])):=hS0 2 (by decide);have g3':GS (iB st seen (eo t t.ls)) (hpL 0 (rdQ t (t.rs.map (·.id)) (evN t.rs.length) (odN t.rs.length) st ck seen)) 3=some (.mst none (kyN (t.rs.map (·.id))) (evN t.rs.length) st ck):=hS0 3 (by decide);refine AWP.reg' λK hK=>?_
   try simp only[ag,seval,g2',g3',bj,dI,AV.key,hmg]
   refine⟨trivial,Fy (um _ (ye hc r.id)) ⟨_,Tryz.func209,by kernel_rfl,by kernel_rfl⟩ ⟨trivial,trivial⟩ (jv _) (jv _) trivial rfl rfl ((ai _ _ (by unfold Fr;omega)).trans ((ai _ _ (by unfold Fr;omega)).trans gF)) ?_⟩
   try simp only[ag,seval]
   refine hK _ _ _ ?_;clear hK K;have hN:(seen++[s0]).Nodup:=bg'.mpr ⟨hnd',by simp,λa ha b hb=>by rw[L'.mp hb];rintro rfl;exact e4 ha⟩;have hS:∀s∈seen++[s0],s∈st:=λs hs=>by
    rcases ab'.mp hs with hs|hs
    ·exact hsub s hs
    ·rw[L'.mp hs];exact J' e3
   have hL:st.length-(seen++[s0]).length<st.length-seen.length:=by
    have:=List.Nodup.length_le_of_subset hN hS;rw[List.length_append,List.length_singleton]at this ⊢;omega
   refine⟨seen++[s0],⟨hN,hS⟩,hL,?_⟩;rw[Al q1 e3 hs1 (by rw[hM,hs2])];have h5:∀i:Nat,¬5=Fr i:=λi=>by unfold Fr;omega
   refine ao.nfR c8 _ _ _ (λb=>b) Fr ?_ (Nl ⟨rfl,rfl,rfl,rfl,rfl⟩ (by omega) ?_ ?_ ?_ ?_ ?_ ?_ rfl rfl) (by simp[rdQ]) (by rw[aX',eX];omega) ?_ (λi j _ _ h=>h) (λi j _ _ h=>by unfold Fr at h;omega) (λi j h1 h2 h=>by simp[rdQ]at h1;unfold Fr at h;omega) (λb _=>rfl) (by decide)
   ·simp only[aM',aB',false_implies,implies_true,and_true];exact⟨⟨rfl,show 1<2000 by omega⟩,⟨rfl,show 2<2000 by omega⟩,rfl,show 5<2000 by omega⟩
   ·rw[ai _ _ (by unfold Fr;omega),ai _ _ (by decide),ai _ _ (by decide)];exact hS0 0 (by decide)
   ·rw[ai _ _ (by unfold Fr;omega),ai _ _ (by decide),ai _ _ (by decide)];exact hS0 1 (by decide)
   ·rw[ai _ _ (by unfold Fr;omega),ai _ _ (by decide),ai _ _ (by decide)];exact hS0 2 (by decide)
   ·rw[ai _ _ (by unfold Fr;omega),ai _ _ (by decide),ai _ _ (by decide)];exact hS0 3 (by decide)
   ·rw[ai _ _ (by unfold Fr;omega),ai _ _ (by decide),ai _ _ (by decide)];exact hS0 4 (by decide)
   ·rw[ai _ _ (h5 _),ak]
   ·intro j q hj;have hjl:=am hj;rw[aX',eX]at hjl;rw[ak']at hj
    by_cases e:2 * i=j
    ·subst e;rw[F' rfl,F' (by rw[eX];omega)]at hj;cases hj;rw[ak]
    ·rw[E' e]at hj;rw[ai _ _ (by unfold Fr;omega),ai _ _ (by unfold Fr;omega),ai _ _ (by unfold Fr;omega)];exact it hj (by rw[eX];omega)
structure Grh where
  out:Lks
  inn:Lks
def Grh.v(x:Grh):AV:=.agg [iY x.out,iY x.inn]
def mg(t:Tpl):Grh:=⟨da t,inG t⟩
def Ff(r:Grh):AV:=Grh.v r
def vR(t:Tpl)(hc:aC t=0):Ax Tryz.prog noS (Grh):=
 (.pass (.pass (.hand 0 [] (rd_m t) [0,16,80,32,48] (rdS t (List.replicate (2 * (t).rs.length) [])) CO (rd_h1 t hc)
(.hand2 0 (rdS t (List.replicate (2 * (t).rs.length) [])) (rdS t (eo t (t).ls)) CN (rd_h2 t hc)
(.hand2 0 (rdS t (eo t (t).ls)) ((rdE t).st) CM (rd_h3 t hc)
(.ret (mg t)))))))
theorem P7(t:Tpl)(hc:aC t=0):(vR t hc).vp Ff (mg t):=by
 dsimp only[vR,noS,Ax.vp,Ax.vc];simp only[vcU,rfU,u']
def P8(t:Tpl)(hc:aC t=0):PC Tryz.prog:=pcO 193 [(.a [(.s 2),(.s 5)])] [Tpl.v t] .k Ff (mg t) (λ_=>⟨(vR t hc),P7 t hc,by kernel_rfl⟩) rfl (by kernel_rfl)
theorem fX{l:List Lnk}(h:l.Pairwise bC){i j:Nat}(hij:i<j){x y:Lnk}(hx:l[i]?=some x)(hy:l[j]?=some y):bC x y:=by
 have hi:=am hx;have hj:=am hy;rw[f' hi]at hx;rw[f' hj]at hy;have:=at'.mp h i j hi hj hij;rw[Z' hx,Z' hy]at this;exact this
theorem ES{l:List Lnk}(h:l.Pairwise bC)(k:Lnk):(cN l k=l.any (je k))∧∀x∈l,je k x=true→l[aV l k]?=some x:=by
 refine zL (λa b x y hab hx hy e=>?_) (λx e=>?_) λa b x y hab hx hy e=>?_
 ·have:=fX h hab hx hy;simp[lw]at e ⊢;unfold bC at *;omega
 ·simp[je]at e;simp[lw];unfold bC;omega
 ·have:=fX h hab hx hy;simp[je]at e;simp[lw];unfold bC at *;omega
def o0(f g:Int):Lnk:=⟨eA f g,dP f g,0,0,0⟩
theorem yc{t:Tpl}(hc:aC t=0)(f g:Int):cN t.ls (o0 f g)=(dG t f g).2∧∀x,cN t.ls (o0 f g)=true→t.ls[aV t.ls (o0 f g)]?=some x→(dG t f g)=(if f<g then x.ca else x.cb,true):=by
 have hO:=ax hc;obtain⟨k1,k2⟩:=ES hO.ord (o0 f g);have key:∀x∈t.ls,gm f g x=je (o0 f g) x:=λx hx=>by
  have:=hO.lt x hx;unfold gm je o0;rw[ag',R'];simp only[bi',ae',aV'];unfold eA dP
  constructor
  ·intro h;(repeat' split)<;>omega
  ·intro h;(repeat' split at h)<;>omega
 have hany:t.ls.any (je (o0 f g))=(t.ls.find? (gm f g)).isSome:=by
  rw[ag',aj',List.find?_isSome];exact⟨λ⟨x,hx,e⟩=>⟨x,hx,by rw[key x hx];exact e⟩,λ⟨x,hx,e⟩=>⟨x,hx,by rw[←key x hx];exact e⟩⟩
 refine⟨?_,λx hh hx=>?_⟩
 ·rw[k1,hany];unfold dG;cases q:t.ls.find? (gm f g)with
  | none=>rfl
  | some y=>rfl
 ·rw[k1,hany]at hh;unfold dG;cases q:t.ls.find? (gm f g)with
  | none=>rw[q]at hh;cases hh
  | some y =>
   have hy:=bG' q;have e:=cw' q;have e':=e;rw[key y hy]at e';have:=k2 y hy e';rw[hx]at this;cases this;have hlt:=hO.lt x hy;simp only;unfold gm at e;simp only[bi',ae',aV']at e
   congr 1
   by_cases c:x.a=f∧x.b=g
   ·rw[F' (by simp[c]),F' (by omega)]
   ·rw[E' (by simpa using c),E' (by omega)]
def Gh(r:Int×Bool):AV:=.tup [.int r.1,.bool r.2]
def wu(t:Tpl)(from_:Int)(to_:Int):Ax Tryz.prog noS (Int×Bool):=
 (.callP (uc t)
(.br 96 (!(iM t)) (.ret (0,false))
(.req 240 (t.ls.length≤1000000) λh1 =>
(.callP (N7 t.ls (⟨eA from_ to_,dP from_ to_,0,0,0⟩:Lnk) h1)
(.br 384 (!(cN t.ls (⟨eA from_ to_,dP from_ to_,0,0,0⟩:Lnk))) (.ret (0,false))
(.br 448 (decide (from_<to_)) (.elI 496 Lnk.v t.ls (aV t.ls (⟨eA from_ to_,dP from_ to_,0,0,0⟩:Lnk):Int) λx2 =>
(.ret (x2.ca,true)))
(.elI 496 Lnk.v t.ls (aV t.ls (⟨eA from_ to_,dP from_ to_,0,0,0⟩:Lnk):Int) λx3 =>
(.ret (x3.cb,true)))))))))
theorem Qo(t:Tpl)(f g:Int):(wu t f g).vp Gh (bV t f g):=by
 dsimp only[wu,noS,Ax.vp,Ax.vc];simp only[vcU,rfU,u'];unfold bV iM
 by_cases hc:aC t=0
 ·have hl:=(ax hc).nl;obtain⟨p1,p2⟩:=yc hc f g
  change cN t.ls ⟨eA f g,dP f g,0,0,0⟩=_ at p1
  change ∀x,cN t.ls ⟨eA f g,dP f g,0,0,0⟩=true→t.ls[aV t.ls ⟨eA f g,dP f g,0,0,0⟩]?=some x→_ at p2
  generalize (⟨eA f g,dP f g,0,0,0⟩:Lnk)=kk at p1 p2 ⊢;rw[hc]
  refine⟨λh=>by simp at h,λ_=>⟨by omega,λh=>?_,λh=>?_⟩⟩
  ·have h:cN t.ls kk=false:=by simpa using h
   rw[E' (by simp)];rw[h]at p1;unfold dG at p1 ⊢;cases q:t.ls.find? (gm f g)with
   | none=>rfl
   | some y=>rw[q]at p1;cases p1
  ·have h:cN t.ls kk=true:=by simpa using h
   have hp:aV t.ls kk<t.ls.length:=by
    refine U' λq=>?_;unfold cN bsH at h;rw[af' (by unfold aV at q;omega)]at h;cases h
   rw[E' (by simp)]
   refine⟨λc=>⟨by omega,by omega,λx hx=>?_⟩,λc=>⟨by omega,by omega,λx hx=>?_⟩⟩
   ·rw[p2 x h (by rw[Int.toNat_natCast]at hx;exact hx),F' c]
   ·rw[p2 x h (by rw[Int.toNat_natCast]at hx;exact hx),E' c]
 ·rw[F' hc];refine⟨λ_=>rfl,λh=>?_⟩;simp[hc]at h
def ob(t:Tpl)(from_:Int)(to_:Int):PC Tryz.prog:=pcO 120 [(.a [(.s 2),(.s 5)]),.k,.k] [Tpl.v t,.int from_,.int to_] .k Gh (bV t from_ to_) (λ_=>⟨(wu t from_ to_),Qo t from_ to_,by kernel_rfl⟩) rfl (by kernel_rfl)
theorem oz{α:Type}{l:List α}{k:Nat}{x:α}(hx:l[k]?=some x){P:α→Prop}:(∀y∈l.take (k+1),P y)↔(∀y∈l.take k,P y)∧P x:=by
 rw[aB hx]
 constructor
 ·intro h;exact⟨λy hy=>h y (List.mem_append_left _ hy),h x (by simp)⟩
 ·rintro⟨h1,h2⟩ y hy
  rcases ab'.mp hy with hy|hy
  ·exact h1 y hy
  ·rw[L'.mp hy];exact h2
def iJ{α:Type}(l:List α)(p:α→Bool)(t:Int)(a:List α):Prop:=∃k:Nat,t=k∧k≤l.length∧a=(l.take k).filter p
section
variable {α : Type} {l a : List α} {p : α → Bool} {t : Int} {x : α}
theorem iJ.zero:iJ l p 0 []:=⟨0,rfl,by omega,by simp⟩
theorem iJ.idx(h:iJ l p t a):0≤t:=by obtain⟨k,rfl,_,_⟩:=h;omega
theorem iJ.len(h:iJ l p t a):a.length≤l.length:=by
 obtain⟨k,rfl,_,rfl⟩:=h;exact aF' (bU' _ _) (by rw[ar'];omega)
theorem iJ.keep(h:iJ l p t a)(hl:l.length≤9223372036854775807)(hx:l[t.toNat]?=some x)(e:p x=true):iJ l p (W (t+1)) (a++[x])∧l.length-(W (t+1)).toNat<l.length-t.toNat:=by
 obtain⟨k,rfl,hk,rfl⟩:=h;rw[Int.toNat_natCast]at hx;have hlt:=am hx;rw[aQ (n:=l.length) hlt hl];exact⟨⟨k+1,rfl,by omega,by rw[aB hx,cf'];simp[e]⟩,by omega⟩
theorem iJ.drop(h:iJ l p t a)(hl:l.length≤9223372036854775807)(hx:l[t.toNat]?=some x)(e:p x=false):iJ l p (W (t+1)) a∧l.length-(W (t+1)).toNat<l.length-t.toNat:=by
 obtain⟨k,rfl,hk,rfl⟩:=h;rw[Int.toNat_natCast]at hx;have hlt:=am hx;rw[aQ (n:=l.length) hlt hl];exact⟨⟨k+1,rfl,by omega,by rw[aB hx,cf'];simp[e]⟩,by omega⟩
theorem iJ.done(h:iJ l p t a)(c:¬t<l.length):a=l.filter p:=by
 obtain⟨k,rfl,hk,rfl⟩:=h;rw[V' (by omega)]
end
def ig(l:List Int)(v:Int):Int:=match l.findIdx? λx=>decide (v=x)with
 | some i=>i
 | none=>-1
theorem s9{l:List Int}{r:Int}{i:Nat}(hx:l[i]?=some r)(hb:∀y∈l.take i,r≠y):ig l r=i:=by
 obtain⟨hi,hxi⟩:=P'.mp hx;have:l.findIdx? (λp=>decide (r=p))=some i:=by
  rw[List.findIdx?_eq_some_iff_getElem];refine⟨hi,by rw[hxi];simp,λj hj=>?_⟩;have:=hb l[j] (J' (i:=j) (by rw[aw',F' hj,f' (by omega)]));simpa using this
 unfold ig;rw[this]
theorem sB{l:List Int}{r:Int}(hb:∀y∈l,r≠y):ig l r=-1:=by
 have:l.findIdx? (λp=>decide (r=p))=none:=by
  rw[List.findIdx?_eq_none_iff];intro x hx;simpa using hb x hx
 unfold ig;rw[this]
def sD(s:List Int)(v:Int):=okL [.sl 1 (s.map AV.int) false,.int v]
def AE(s:List Int)(v:Int)(t0:Int):NF:=⟨[(0,.k,.sl 1 (s.map AV.int) false),rI 1 v,rI 7 ((s.map AV.int).length:Int),rI 8 t0],[]⟩
@[reducible] def sA:Nat→Type
 | 0=>Int
 | _=>Unit
def sC(r:Int):AV:=.int r
def sy(s:List Int)(v:Int)(I0:Int→Prop)(m0:Int→Nat):Ax Tryz.prog sA (Int):=
 (.loop 0 (AE s v) I0 m0 ((0):Int) [] λ(t0:Int) b0 =>
(.br 16 (decide (t0<((s.map AV.int).length:Int))) (.elI 96 AV.int s t0 λx1 =>
(.br 144 (v==x1) (.ret (t0))
(.bk 0 b0 ((W (t0+1)):Int) [])))
(.ret (-1))))
theorem EC(l:List Int)(v:Int)(ok:sD l v):∃I m,(sy l v I m).vp sC (ig l v):=by
 simp only[sD,okU,Blk.ok,az,u']at ok;refine⟨λt=>∃k:Nat,t=k∧k≤l.length∧∀x∈l.take k,v≠x,λt=>l.length-t.toNat,?_⟩;dsimp only[sy,sA,Ax.vp,Ax.vc];simp only[vcU,rfU,u'];have hle:l.length≤9223372036854775807:=ok.1.1;refine⟨⟨0,rfl,by omega,by simp⟩,?_⟩;rintro _ ⟨k,rfl,hk,hI⟩;simp only[Int.toNat_natCast]
 refine⟨λh1=>⟨by omega,by omega,λx hx=>⟨λe=>?_,λe=>?_⟩⟩,λh1=>?_⟩
 ·have e:v=x:=by simpa using e
  subst e;rw[s9 hx hI]
 ·rw[aQ (n:=l.length) (by omega) (by omega)];exact⟨⟨k+1,rfl,by omega,(oz hx).mpr ⟨hI,by simpa using e⟩⟩,by omega⟩
 ·rw[V' (by omega)]at hI;rw[sB hI]
def ED(s:List Int)(v:Int):PC Tryz.prog:=pcO 91 [(.s 1),.k] [.sl 1 (s.map AV.int) false,.int v] .k sC (ig s v) (λok=>let ⟨I0,m0,h⟩:=EC s v ok;⟨_,h,by kernel_rfl⟩) rfl (by kernel_rfl)
theorem AD{l:List Int}{v:Int}:0≤ig l v↔v∈l:=by
 unfold ig;cases e:l.findIdx? (λp=>decide (v=p))with
 | none =>
  rw[List.findIdx?_eq_none_iff]at e;simp only;refine⟨λh=>by omega,λh=>by have:=e v h;simp at this⟩
 | some i =>
  rw[List.findIdx?_eq_some_iff_getElem]at e;obtain⟨h1,h2,_⟩:=e;simp only;refine⟨λ_=>?_,λ_=>by omega⟩;have:v=l[i]:=by simpa using h2
  rw[this];exact aR' h1
def z7(r:Bool):AV:=.bool r
def qz(s:List Int)(v:Int):Ax Tryz.prog noS (Bool):=
 (.callP (ED s v)
(.ret (decide (0≤(ig s v)))))
theorem Lt(l:List Int)(v:Int):(qz l v).vp z7 (decide (v∈l)):=by
 dsimp only[qz,noS,Ax.vp,Ax.vc];simp only[vcU,rfU,u'];exact decide_eq_decide.mpr AD
def eU(s:List Int)(v:Int):PC Tryz.prog:=pcO 49 [(.s 1),.k] [.sl 1 (s.map AV.int) false,.int v] .k z7 (decide (v∈s)) (λ_=>⟨(qz s v),Lt s v,by kernel_rfl⟩) rfl (by kernel_rfl)
structure Hop where
  a:Int
  b:Int
  deriving DecidableEq
def Hop.v(h:Hop):AV:=.agg [.int h.a,.int h.b]
structure Flr where
  ls:List Hop
  rs:List Int
def Flr.v(f:Flr):AV:=.agg [.sl 2 (f.ls.map Hop.v) false,.sl 1 (f.rs.map AV.int) false]
def nmd(l:List Hop)(a b:Int):Bool:=decide (⟨a,b⟩∈l) || decide (⟨b,a⟩∈l)
def gone(f:Flr)(l:Lnk):Bool:=decide (l.a∈f.rs) || (decide (l.b∈f.rs) || nmd f.ls l.a l.b)
def Ah(t:Tpl)(f:Flr):Tpl:=if aC t=0 then⟨t.rs.filter λr=>!decide (r.id∈f.rs),t.ls.filter λl=>!gone f l⟩else⟨[],[]⟩
def EY(l:List Int)(n:Int):=okL [.sl 1 (l.map AV.int) false,.int n]
def KG(l:List Int)(n:Int)(t0:Int):NF:=⟨[(0,.k,.sl 1 (l.map AV.int) false),rI 1 n,rI 5 t0],[]⟩
@[reducible] def EW:Nat→Type
 | 0=>Int
 | _=>Unit
def EX(r:Bool):AV:=.bool r
def EV(l:List Int)(n:Int)(I0:Int→Prop)(m0:Int→Nat):Ax Tryz.prog EW (Bool):=
 (.loop 0 (KG l n) I0 m0 ((0):Int) [] λ(t0:Int) b0 =>
(.br 64 (decide (t0<((l.map AV.int).length:Int))) (.elI 96 AV.int l t0 λx1 =>
(.br 160 (x1==n) (.ret (true))
(.bk 0 b0 ((W (t0+1)):Int) [])))
(.ret (false))))
theorem P5(l:List Int)(n:Int)(ok:EY l n):∃I m,(EV l n I m).vp EX (decide (n∈l)):=by
 refine⟨λt=>aM l (λy=>y≠n) t,λt=>l.length-t.toNat,?_⟩;simp only[EY,okU,Blk.ok,az,u']at ok;dsimp only[EV,EW,Ax.vp,Ax.vc];simp only[vcU,rfU,u']
 refine⟨aM.zero,λt h=>⟨λc=>⟨h.idx,c,λx hx=>⟨λq=>?_,λq=>h.step (by omega) hx (by simpa using q)⟩⟩,λc=>?_⟩⟩
 ·have q:=eq_of_beq q;subst q;exact(decide_eq_true (bn hx)).symm
 ·exact(decide_eq_false λq=>h.done c n q rfl).symm
def l7(l:List Int)(n:Int):PC Tryz.prog:=pcO 52 [(.s 1),.k] [.sl 1 (l.map AV.int) false,.int n] .k EX (decide (n∈l)) (λok=>let ⟨I0,m0,h⟩:=P5 l n ok;⟨_,h,by kernel_rfl⟩) rfl (by kernel_rfl)
def nm1(a b:Int)(x:Hop):Bool:=(x.a==a && x.b==b) || (x.a==b && x.b==a)
def D2(l:List Hop)(a:Int)(b:Int):=okL [.sl 2 (l.map Hop.v) false,.int a,.int b]
def JS(l:List Hop)(a:Int)(b:Int)(t0:Int):NF:=⟨[(0,.k,.sl 2 (l.map Hop.v) false),rI 1 a,rI 2 b,rI 7 t0],[]⟩
def JR(l:List Hop)(a:Int)(b:Int)(t0:Int)(t1:Bool):NF:=⟨[(0,.k,.sl 2 (l.map Hop.v) false),rI 1 a,rI 2 b,rI 7 t0,rB 47 t1],[]⟩
@[reducible] def D0:Nat→Type
 | 0=>Int
 | 1=>Bool
 | _=>Unit
def D1(r:Bool):AV:=.bool r
def Dz(l:List Hop)(a:Int)(b:Int)(I0:Int→Prop)(m0:Int→Nat)(I1:Int→Bool→Prop):Ax Tryz.prog D0 (Bool):=
 (.loop 0 (JS l a b) I0 m0 ((0):Int) [] λ(t0:Int) b0 =>
(.br 64 (decide (t0<((l.map Hop.v).length:Int))) (.pass (.join 1 (JR l a b t0) (λ(t1:Bool)=>I1 t0 t1) (λb1=>(.elI 96 Hop.v l t0 λx1 =>
(.br 192 (x1.a==a) (.elI 224 Hop.v l t0 λx2 =>
(.br 336 (x2.b==b) (.bk 1 b1 ((true):Bool) [])
(.elI 368 Hop.v l t0 λx3 =>
(.br 464 (x3.a==b) (.elI 496 Hop.v l t0 λx4 =>
(.bk 1 b1 ((x4.b==a):Bool) []))
(.bk 1 b1 ((false):Bool) [])))))
(.elI 368 Hop.v l t0 λx5 =>
(.br 464 (x5.a==b) (.elI 496 Hop.v l t0 λx6 =>
(.bk 1 b1 ((x6.b==a):Bool) []))
(.bk 1 b1 ((false):Bool) [])))))) λ(t1:Bool) =>
(.br 0 t1 (.ret (true))
(.bk 0 b0 ((W (t0+1)):Int) []))))
(.ret (false))))
theorem OL(l:List Hop)(a b:Int)(ok:D2 l a b):∃I0 m0 I1,(Dz l a b I0 m0 I1).vp D1 (nmd l a b):=by
 refine⟨λt=>aM l (λy=>nm1 a b y=false) t,λt=>l.length-t.toNat,λt r=>∀x,l[t.toNat]?=some x→r=nm1 a b x,?_⟩;simp only[D2,Hop.v,okU,Blk.ok,az,u']at ok;dsimp only[Dz,D0,Ax.vp,Ax.vc];simp only[vcU,rfU,u'];have e0:nmd l a b=l.any (nm1 a b):=by
  unfold nmd nm1;rw[ag',aj',bi',R',R'];simp only[bi',ae',aV']
  constructor
  ·rintro(h|h)
   ·exact⟨_,h,.inl ⟨rfl,rfl⟩⟩
   ·exact⟨_,h,.inr ⟨rfl,rfl⟩⟩
  ·rintro⟨⟨u,v⟩,h,⟨rfl,rfl⟩|⟨rfl,rfl⟩⟩
   ·exact .inl h
   ·exact .inr h
 rw[e0]
 refine⟨aM.zero,λi h=>⟨λc=>⟨⟨h.idx,c,λx hx=>⟨λq=>⟨h.idx,c,λx2 hx2=>⟨λq2 x3 hx3=>?_,λq2=>⟨h.idx,c,λx3 hx3=>⟨λq3=>⟨h.idx,c,λx4 hx4 x5 hx5=>?_⟩,λq3 x4 hx4=>?_⟩⟩⟩⟩,λq=>⟨h.idx,c,λx3 hx3=>⟨λq3=>⟨h.idx,c,λx4 hx4 x5 hx5=>?_⟩,λq3 x4 hx4=>?_⟩⟩⟩⟩,?_⟩,λc=>?_⟩⟩
 ·rw[hx]at hx2 hx3;cases hx2;cases hx3;simp[nm1,q,q2]
 ·rw[hx]at hx2 hx3 hx4 hx5;cases hx2;cases hx3;cases hx4;cases hx5;simp[nm1,q2,q3]
 ·rw[hx]at hx2 hx3 hx4;cases hx2;cases hx3;cases hx4;simp[nm1,q2,q3]
 ·rw[hx]at hx3 hx4 hx5;cases hx3;cases hx4;cases hx5;simp[nm1,q,q3]
 ·rw[hx]at hx3 hx4;cases hx3;cases hx4;simp[nm1,q,q3]
 ·intro r hr;have hx:=f' (show i.toNat<l.length by have:=h.idx;omega);have hr:=hr _ hx;subst hr;exact⟨λq=>(aj'.mpr ⟨_,bn hx,q⟩).symm,λq=>h.step (by omega) hx q⟩
 ·symm
  rw[Bool.eq_false_iff];intro q;obtain⟨x,hx,e⟩:=aj'.mp q;rw[h.done c x hx]at e;cases e
def OM(l:List Hop)(a:Int)(b:Int):PC Tryz.prog:=pcO 68 [(.s 2),.k,.k] [.sl 2 (l.map Hop.v) false,.int a,.int b] .k D1 (nmd l a b) (λok=>let ⟨I0,m0,I1,h⟩:=OL l a b ok;⟨_,h,by kernel_rfl⟩) rfl (by kernel_rfl)
def E4(a:List Int)(b:List Int):=okL [.sl 1 (a.map AV.int) false,.sl 1 (b.map AV.int) false]
def K4(a:List Int)(b:List Int)(t0:Int):NF:=⟨[(0,.k,.sl 1 (a.map AV.int) false),(1,.k,.sl 1 (b.map AV.int) false),rI 5 t0],[]⟩
@[reducible] def E2:Nat→Type
 | 0=>Int
 | _=>Unit
def E3(r:Bool):AV:=.bool r
def E1(a:List Int)(b:List Int)(I0:Int→Prop)(m0:Int→Nat):Ax Tryz.prog E2 (Bool):=
 (.br 96 (((a.map AV.int).length:Int) != ((b.map AV.int).length:Int)) (.ret (false))
(.loop 0 (K4 a b) I0 m0 ((0):Int) [] λ(t0:Int) b0 =>
(.br 64 (decide (t0<((a.map AV.int).length:Int))) (.elI 96 AV.int a t0 λx1 =>
(.elI 160 AV.int b t0 λx2 =>
(.br 208 (x1 != x2) (.ret (false))
(.bk 0 b0 ((W (t0+1)):Int) []))))
(.ret (true)))))
theorem Pn(a b:List Int)(ok:E4 a b):∃I m,(E1 a b I m).vp E3 (decide (a=b)):=by
  refine⟨λi=>∃k:Nat,i=k∧k≤a.length∧a.take k=b.take k,λi=>a.length-i.toNat,?_⟩;simp only[E4,okU,Blk.ok,az,u']at ok;dsimp only[E1,E2,Ax.vp,Ax.vc];simp only[vcU,rfU,u'];refine⟨λc=>(decide_eq_false λe=>by subst e;simp at c).symm,λc=>?_⟩
  have c : a.length = b.length := by have c : (a.length : Int) = b.length := by simpa using c
                                     omega
  refine⟨⟨0,rfl,by omega,rfl⟩,?_⟩;rintro _ ⟨k,rfl,hk,h⟩
  refine⟨λd=>⟨by omega,d,λx hx=>⟨by omega,by omega,λy hy=>⟨λe=>?_,λe=>?_⟩⟩⟩,λd=>?_⟩
  · refine(decide_eq_false λq=>?_).symm
    subst q;rw[hx]at hy;cases hy;simp at e
  · rw[Int.toNat_natCast]at hx hy
    have e:x=y:=by simpa using e
    subst e;rw[aQ (n:=a.length) (by omega) (by omega)];exact⟨⟨k+1,rfl,by omega,by rw[aB hx,aB hy,h]⟩,by omega⟩
  · rw[V' (by omega),V' (by omega)]at h
    exact(decide_eq_true h).symm
def n9(a:List Int)(b:List Int):PC Tryz.prog:=pcO 21 [(.s 1),(.s 1)] [.sl 1 (a.map AV.int) false,.sl 1 (b.map AV.int) false] .k E3 (decide (a=b)) (λok=>let ⟨I0,m0,h⟩:=Pn a b ok;⟨_,h,by kernel_rfl⟩) rfl (by kernel_rfl)
def B3(t:Tpl)(f:Flr):=okL [Tpl.v t,Flr.v f]
def Ij(t:Tpl)(f:Flr)(t0:Int×List Rtr):NF:=⟨[rR 2 0,rR 3 1,rR 4 2,rR 5 3,rI 6 t0.1],[.box (Tpl.v t),.box (Flr.v f),.box (.agg [.sl 0 [] true,.sl 0 [] true]),.box (.agg [.vec 4,.sl 0 [] true]),vB 2 Rtr.v t0.2 (λ_=>rfl)]⟩
def Ii(t:Tpl)(f:Flr)(t0:Int×List Rtr)(t1:Int×List Lnk):NF:=⟨[rR 2 0,rR 3 1,rR 4 2,rR 5 3,rI 7 t1.1],[.box (Tpl.v t),.box (Flr.v f),.box (.agg [.sl 0 [] true,.sl 0 [] true]),.box (.agg [.vec 4,.vec 5]),vB 2 Rtr.v t0.2 (λ_=>rfl),vB 5 Lnk.v t1.2 (λ_=>rfl)]⟩
def Ih(t:Tpl)(f:Flr)(t0:Int×List Rtr)(t1:Int×List Lnk)(x3:Lnk)(t2:Bool):NF:=⟨[rR 2 0,rR 3 1,rR 4 2,rR 5 3,rI 7 t1.1,rR 8 6,rB 75 t2],[.box (Tpl.v t),.box (Flr.v f),.box (.agg [.sl 0 [] true,.sl 0 [] true]),.box (.agg [.vec 4,.vec 5]),vB 2 Rtr.v t0.2 (λ_=>rfl),vB 5 Lnk.v t1.2 (λ_=>rfl),.box (Lnk.v x3)]⟩
@[reducible] def B1:Nat→Type
 | 0=>Int×List Rtr
 | 1=>Int×List Lnk
 | 2=>Bool
 | _=>Unit
def B2(r:Tpl):AV:=Tpl.v r
def B0(t:Tpl)(f:Flr)(I0:(Int×List Rtr)→Prop)(m0:(Int×List Rtr)→Nat)(I1:Int×List Rtr→(Int×List Lnk)→Prop)(m1:Int×List Rtr→(Int×List Lnk)→Nat)(I2:Int×List Rtr→Int×List Lnk→Lnk→Bool→Prop):Ax Tryz.prog B1 (Tpl):=
 (.callP (lD t)
(.br 96 ((aC t) != 0) (.ret ((⟨[],[]⟩:Tpl)))
(.cmdL (.nilB 96 0 2) (.loop 0 (Ij t f) I0 m0 (0,[]) [0,16,32,96,128] λ(t0:Int×List Rtr) b0 =>
(.br 85 (decide (t0.1<((t.rs.map Rtr.v).length:Int))) (.elI 165 Rtr.v t.rs t0.1 λx1 =>
(.callP (l7 f.rs x1.id)
(.br 245 (!(decide (x1.id∈f.rs))) (.elI 325 Rtr.v t.rs t0.1 λx2 =>
(.apX 373 Rtr.v t0.2 [x2] (t0.2.length+1)
(.bk 0 b0 (W (t0.1+1),t0.2++[x2]) [0,1,2,3,373])))
(.bk 0 b0 (W (t0.1+1),t0.2) [0,1,2,3,4]))))
(.cmdL (.nilB 3 1 5) (.loop 1 (Ii t f t0) (I1 t0) (m1 t0) (0,[]) [0,1,2,3,4,101] λ(t1:Int×List Lnk) b1 =>
(.br 86 (decide (t1.1<((t.ls.map Lnk.v).length:Int))) (.elI 134 Lnk.v t.ls t1.1 λx3 =>
(.join 2 (Ih t f t0 t1 x3) (λ(t2:Bool)=>I2 t0 t1 x3 t2) (λb2=>(.callP (l7 f.rs x3.a)
(.br 310 (!(decide (x3.a∈f.rs))) (.callP (l7 f.rs x3.b)
(.br 438 (!(decide (x3.b∈f.rs))) (.callP (OM f.ls x3.a x3.b)
(.bk 2 b2 ((!(nmd f.ls x3.a x3.b)):Bool) [0,1,2,3,4,5,166]))
(.bk 2 b2 ((false):Bool) [0,1,2,3,4,5,166])))
(.bk 2 b2 ((false):Bool) [0,1,2,3,4,5,166])))) λ(t2:Bool) =>
(.br 7 t2 (.apX 71 Lnk.v t1.2 [x3] (t1.2.length+1)
(.bk 1 b1 (W (t1.1+1),t1.2++[x3]) [0,1,2,3,4,71]))
(.bk 1 b1 (W (t1.1+1),t1.2) [0,1,2,3,4,5]))))
(.fz 5 Lnk.v t1.2 (λ_=>rfl) (.fz 4 Rtr.v t0.2 (λ_=>rfl) (.ret ((⟨t0.2,t1.2⟩:Tpl)))))))))))))
theorem NI(t:Tpl)(f:Flr)(ok:B3 t f):∃I0 m0 I1 m1 I2,(B0 t f I0 m0 I1 m1 I2).vp B2 (Ah t f):=by
 refine⟨λq=>iJ t.rs (λr=>!decide (r.id∈f.rs)) q.1 q.2,λq=>t.rs.length-q.1.toNat,λ_ q=>iJ t.ls (λl=>!gone f l) q.1 q.2,λ_ q=>t.ls.length-q.1.toNat,λ_ q l b=>b=!gone f l,?_⟩;simp only[B3,Flr.v,Tpl.v,okU,Blk.ok,az,u']at ok;dsimp only[B0,B1,Ax.vp,Ax.vc];simp only[vcU,rfU,u'];unfold Ah;by_cases hc:aC t=0
 case neg=>exact⟨λ_=>by rw[E' hc],λh=>by simp[hc]at h⟩
 have h1:=(ax hc).nr;have h2:=(ax hc).nl;rw[F' hc];refine⟨λh=>by simp[hc]at h,λ_=>⟨iJ.zero,?_⟩⟩;rintro⟨i,rs⟩ hF;simp only at hF ⊢
 refine⟨λc=>⟨hF.idx,c,λx hx=>⟨λe=>⟨hF.idx,c,λy hy=>?_⟩,λe=>hF.drop (by omega) hx e⟩⟩,λc=>⟨iJ.zero,?_⟩⟩
 ·rw[hx]at hy;cases hy;exact⟨by have:=hF.len;omega,hF.keep (by omega) hx e⟩
 rintro⟨j,ls⟩ hG;simp only at hG ⊢
 refine⟨λd=>⟨hG.idx,d,λx hx=>⟨⟨λe=>⟨λe2=>?_,λe2=>?_⟩,λe=>?_⟩,?_⟩⟩,λd=>?_⟩
 ·have e:¬x.a∈f.rs:=by simpa using e
  have e2:¬x.b∈f.rs:=by simpa using e2
  simp[gone,e,e2]
 ·have e2:x.b∈f.rs:=by simpa using e2
  simp[gone,e2]
 ·have e:x.a∈f.rs:=by simpa using e
  simp[gone,e]
 ·rintro _ rfl;exact⟨λe=>⟨by have:=hG.len;omega,hG.keep (by omega) hx e⟩,λe=>hG.drop (by omega) hx e⟩
 ·rw[hF.done c,hG.done d]
def NJ(t:Tpl)(f:Flr):PC Tryz.prog:=pcO 28 [(.a [(.s 2),(.s 5)]),(.a [(.s 2),(.s 1)])] [Tpl.v t,Flr.v f] (.a [(.s 2),(.s 5)]) B2 (Ah t f) (λok=>let ⟨I0,m0,I1,m1,I2,h⟩:=NI t f ok;⟨_,h,by kernel_rfl⟩) rfl (by kernel_rfl)
def xg(r:Bool):AV:=.bool r
def pm(t:Tpl):Ax Tryz.prog noS (Bool):=
 (.callP (Gw t)
(.ret ((aC t)==0)))
theorem Io(t:Tpl):(pm t).vp xg (iM t):=by
 dsimp only[pm,noS,Ax.vp,Ax.vc];simp only[vcU,rfU,u'];rfl
def Ip(t:Tpl):PC Tryz.prog:=pcO 191 [(.a [(.s 2),(.s 5)])] [Tpl.v t] .k xg (iM t) (λ_=>⟨(pm t),Io t,by kernel_rfl⟩) rfl (by kernel_rfl)
structure lP (L:Lks):Prop where
  len:L.length≤1000000
  nd:(ap L).Nodup
  to:∀x,∀s∈av L x [],s.to∈ap L
  cost:∀x,∀s∈av L x [],1≤s.cost∧s.cost≤1000
structure DJ (L:Lks) (f:Int) (out op:Dis):Prop where
  di:kg L out op
  src:(f,0)∈out∨(f,0)∈op
  tgt:∀p,p∈out∨p∈op→p.1≠f→∃q∈out,∃s∈av L q.1 [],s.to=p.1∧p.2=q.2+s.cost
  mon:∀p∈out,∀q∈op,p.2≤q.2
  bnd:∀p,p∈out∨p∈op→0≤p.2∧p.2≤1000 * out.length
theorem DJ.relx{L:Lks}{f:Int}{out op:Dis}{b c:Int}(hL:lP L)(h:DJ L f out op)(hb:(b,c)∈out)(ht:∀p∈out,p.2≤c)(hc:c+1000≤1000 * out.length){s:Stp}(hs:s∈av L b []) :
  DJ L f out (relx c out op s)∧(∀x n,(x,n)∈op→∃m,m≤n∧(x,m)∈Go.Proofs.YtiobpjoadkfhdaaGreat.relx c out op s)∧∃n,n≤c+s.cost∧((s.to,n)∈out∨(s.to,n)∈Go.Proofs.YtiobpjoadkfhdaaGreat.relx c out op s):=by
 obtain⟨c1,c2⟩:=hL.cost b s hs;have c0:=(h.bnd _ (.inl hb)).1;have hDi:=h.di.relx (c:=c) (hL.to b s hs);have hlen:=h.di.len1;have hll:=hL.len;have hW:W (c+s.cost)=c+s.cost:=eF ⟨by omega,by omega⟩
 revert hDi
 unfold Go.Proofs.YtiobpjoadkfhdaaGreat.relx;rw[hW]
 by_cases e1:aT out s.to=true
 ·rw[F' e1];intro hDi;refine⟨h,λx n hx=>⟨n,bC' _,hx⟩,?_⟩;obtain⟨n,hn⟩:=bW.mp e1
  grind
 rw[E' e1]
 by_cases e2:aT op s.to=false∨c+s.cost<av op s.to 0
 ·rw[F' e2];intro hDi;have hm:=λp=>bM (l:=op) (p:=p) (x:=s.to) (v:=c+s.cost) h.di.np
  refine⟨⟨hDi,?_,?_,?_,?_⟩,λx n hx=>?_,⟨c+s.cost,bC' _,.inr ((hm _).mpr (.inl rfl))⟩⟩
  ·rcases h.src with q|q
   ·exact .inl q
   ·refine .inr ((hm _).mpr (.inr ⟨q,?_⟩));rintro rfl
    rcases e2 with e2|e2
    ·exact yC.mp e2 _ q
    ·rw[dC h.di.np q]at e2;omega
  ·rintro p (hp|hp) hpf
   ·exact h.tgt p (.inl hp) hpf
   ·rcases(hm _).mp hp with rfl|⟨hp,_⟩
    ·grind
    ·exact h.tgt p (.inr hp) hpf
  ·intro p hp q hq
   rcases(hm _).mp hq with rfl|⟨hq,_⟩
   ·grind
   ·exact h.mon p hp q hq
  ·rintro p (hp|hp)
   ·exact h.bnd p (.inl hp)
   ·rcases(hm _).mp hp with rfl|⟨hp,_⟩
    ·omega
    ·exact h.bnd p (.inr hp)
  ·by_cases ex:x=s.to
   ·subst ex;refine⟨c+s.cost,?_,(hm _).mpr (.inl rfl)⟩
    rcases e2 with e2|e2
    ·exact absurd hx (yC.mp e2 _)
    ·rw[dC h.di.np hx]at e2;omega
   ·grind
 ·rw[E' e2];intro hDi;refine⟨h,λx n hx=>⟨n,bC' _,hx⟩,?_⟩
  grind [aT,av,bF]
theorem DJ.fold{L:Lks}{f:Int}{out:Dis}{b c:Int}(hL:lP L)(hb:(b,c)∈out)(ht:∀p∈out,p.2≤c)(hc:c+1000≤1000 * out.length):∀{l:List Stp} {op:Dis},DJ L f out op→(∀s∈l,s∈av L b []) →
  DJ L f out (l.foldl (Go.Proofs.YtiobpjoadkfhdaaGreat.relx c out) op)∧(∀x n,(x,n)∈op→∃m,m≤n∧(x,m)∈l.foldl (Go.Proofs.YtiobpjoadkfhdaaGreat.relx c out) op)∧∀s∈l,∃n,n≤c+s.cost∧((s.to,n)∈out∨(s.to,n)∈l.foldl (Go.Proofs.YtiobpjoadkfhdaaGreat.relx c out) op)
 | [],op,h,_=>⟨h,λx n hx=>⟨n,bC' _,hx⟩,λs hs=>by cases hs⟩
 | s::l,op,h,hs=>by
  obtain⟨h1,h2,h3⟩:=h.relx hL hb ht hc (hs s (by simp));obtain⟨g1,g2,g3⟩:=DJ.fold hL hb ht hc h1 λx hx=>hs x (bb' _ hx)
  grind
structure tT (L:Lks) (f:Int) (D:Dis):Prop where
  nd:(ap D).Nodup
  ke:∀x∈ap D,x∈ap L
  src:(f,0)∈D
  rlx:∀p∈D,∀s∈av L p.1 [],∃n,n≤p.2+s.cost∧(s.to,n)∈D
  tgt:∀p∈D,p.1≠f→∃q∈D,∃s∈av L q.1 [],s.to=p.1∧p.2=q.2+s.cost
  pos:∀p∈D,0≤p.2∧p.2≤1000 * D.length
theorem Kn{l m:List Int}(hl:l.Nodup)(hm:m.Nodup)(hs:∀x∈l,x∈m)(e:l.length=m.length):∀x∈m,x∈l:=λx hx=>by
 refine U' λq=>?_;have h2:(x::l).Nodup:=cv'.mpr ⟨q,hl⟩;have:=List.Nodup.length_le_of_subset h2 (l₂:=m) λy hy=>by grind
 simp at this;omega
theorem zj{L:Lks}{f:Int}(hL:lP L):∀(n:Nat) (out op:Dis),DJ L f out op→(∀p∈out,∀s∈av L p.1 [],∃n,n≤p.2+s.cost∧((s.to,n)∈out∨(s.to,n)∈op))→n=L.length-out.length→out.length<L.length→tT L f (Bi L n out op)
 | 0,out,op,h,hr,hn,hl=>by omega
 | n+1,out,op,h,hr,hn,hl=>by
  rw[Bi]
  by_cases e:op=[]
  ·rw[F' e];subst e
   refine⟨h.di.no,h.di.ko,?_,λp hp s hs=>?_,λp hp hf=>h.tgt p (.inl hp) hf,λp hp=>h.bnd p (.inl hp)⟩
   ·rcases h.src with q|q
    ·exact q
    ·cases q
   ·grind
  rw[E' e];obtain⟨c,hc,hmin⟩:=Hb e;rw[dC h.di.np hc];generalize bst op=b at hc hmin ⊢;have hbk:b∈ap op:=aP.mpr ⟨c,hc⟩;have hbo:=h.di.di b hbk;obtain⟨hD,hlen⟩:=h.di.pop (c:=c) hbk;have hmo:=λp=>bM (l:=out) (p:=p) (x:=b) (v:=c) h.di.no;have hmd:=λp=>pN (l:=op) (p:=p) (x:=b) h.di.np;have hout:∀p∈out,p∈ba out b c:=λp hp=>(hmo p).mpr (.inr ⟨hp,λe=>hbo (aP.mpr ⟨p.2,by rw[←e];exact hp⟩)⟩);have htop:∀p∈ba out b c,p.2≤c:=λp hp=>by
   rcases(hmo p).mp hp with rfl|⟨hp,_⟩
   ·omega
   ·exact h.mon p hp _ hc
  have hmv:∀p,p∈op→p∈ba out b c∨p∈mdl op b:=λp hp=>by
   by_cases e:p.1=b
   ·refine .inl ((hmo p).mpr (.inl ?_));have:p.2=c:=gE h.di.np (x:=b) (by rw[←e];exact hp) hc;exact Prod.ext e this
   ·simp_all
  have hback:∀p,p∈ba out b c∨p∈mdl op b→p∈out∨p∈op:=λp hp=>by grind
  have hJ:DJ L f (ba out b c) (mdl op b):=by
   refine⟨hD,?_,λp hp hf=>?_,λp hp q hq=>?_,λp hp=>?_⟩
   ·rcases h.src with q|q
    ·simp_all
    ·exact hmv _ q
   ·obtain⟨q,hq,s,hs,h1,h2⟩:=h.tgt p (hback p hp) hf;exact⟨q,hout q hq,s,hs,h1,h2⟩
   ·grind [bfr]
   ·have:=h.bnd p (hback p hp);rw[hlen];omega
  have hcb:=h.bnd _ (.inr hc);simp only at hcb;have hbm:(b,c)∈ba out b c:=(hmo _).mpr (.inl rfl);have hold:∀p∈out,∀s∈av L p.1 [],∃n,n≤p.2+s.cost∧((s.to,n)∈ba out b c∨(s.to,n)∈mdl op b):=λp hp s hs=>by grind
  by_cases e2:(ba out b c).length=L.length
  ·rw[F' e2];have hall:=Kn hD.no hL.nd hD.ko (by rw[cH,cH,e2]);have hemp:∀p,p ∉ mdl op b:=λp hp=>by
    have hk:p.1∈ap (mdl op b):=aP.mpr ⟨p.2,hp⟩;exact hD.di _ hk (hall _ (hD.kp _ hk))
   refine⟨hD.no,hD.ko,?_,λp hp s hs=>?_,λp hp hf=>hJ.tgt p (.inl hp) hf,λp hp=>hJ.bnd p (.inl hp)⟩
   ·rcases hJ.src with q|q
    ·exact q
    ·simp_all
   ·rcases(hmo p).mp hp with rfl|⟨hp',_⟩
    ·obtain⟨n,hn⟩:=aP.mp (hall _ (hL.to _ s hs));have h1:=htop _ hn;have h2:=hL.cost _ s hs
     grind
    ·grind
  ·rw[E' e2];obtain⟨g1,g2,g3⟩:=hJ.fold hL hbm htop (by rw[hlen];omega) (l:=av L b []) λs hs=>hs;refine zj hL n _ _ g1 (λp hp s hs=>?_) (by rw[hlen];omega) (by have:=hD.len1;omega)
   grind
theorem eD{L:Lks}{f:Int}(hL:lP L)(hf:f∈ap L):tT L f (cF L f):=by
 have h0:0<L.length:=by grind [cH,List.length_pos_of_mem]
 have e:ba ([]:Dis) f 0=[(f,0)]:=rfl;rw[cF,F' (show aT L f=true from decide_eq_true hf),e]
 refine zj hL _ _ _ ⟨⟨by simp[ap],by simp[ap],by simp[ap],by simp[ap];simpa[ap]using hf,by simp[ap]⟩,.inr (by simp),λp hp hpf=>?_,by simp,λp hp=>?_⟩ (by simp) (by simp) (by simpa using h0)
 ·simp_all
 ·simp_all
inductive iy (L:Lks) (f:Int):Int→Int→Prop
  | nil:iy L f f 0
  | snoc {u n:Int} {s:Stp}:iy L f u n→s∈av L u []→iy L f s.to (n+s.cost)
theorem tT.low{L:Lks}{f:Int}{D:Dis}(h:tT L f D){v n:Int}(p:iy L f v n):∃m,m≤n∧(v,m)∈D:=by
 induction p with
 | nil=>exact⟨0,bC' _,h.src⟩
 | snoc q hs ih =>
  obtain⟨m,hm,hx⟩:=ih;obtain⟨k,hk,hx⟩:=h.rlx _ hx _ hs;exact⟨k,by simp only at hk;omega,hx⟩
theorem tT.path{L:Lks}{f:Int}{D:Dis}(hL:lP L)(h:tT L f D):∀(k:Nat) {v n:Int},n.toNat≤k→(v,n)∈D→iy L f v n
 | k,v,n,hk,hx=>by
  by_cases e:v=f
  ·subst e;have:=gE h.nd hx h.src;subst this;exact .nil
  ·obtain⟨⟨u,m⟩,hq,s,hs,h1,h2⟩:=h.tgt _ hx e;simp only at h1 h2 hs;have hc:=hL.cost _ s hs;have hp:=(h.pos _ hq).1;have hp2:=(h.pos _ hx).1;simp only at hp hp2;subst h1;subst h2
   match k with
   | 0=>omega
   | k+1=>exact .snoc (tT.path hL h k (by omega) hq) hs
theorem pc{L:Lks}{f:Int}(hL:lP L)(hf:f∈ap L){v m:Int}:(v,m)∈cF L f↔iy L f v m∧∀n,iy L f v n→m≤n:=by
 have h:=eD hL hf
 constructor
 ·intro hx;refine⟨h.path hL _ (X' _) hx,λn p=>?_⟩;obtain⟨k,hk,hx'⟩:=h.low p;rw[gE h.nd hx hx'];exact hk
 ·rintro⟨p,q⟩;obtain⟨k,hk,hx⟩:=h.low p;have:=q k (h.path hL _ (X' _) hx)
  grind
def isR(r:Int)(x:Rtr):Bool:=x.id==r
theorem EI{α:Type}{p:α→Bool}{l:List α}(h:l.any p=true):0≤cE p l∧cE p l<l.length:=by
 rw[cE,F' h];have:l.findIdx p<l.length:=List.findIdx_lt_length.mpr (aj'.mp h);omega
def cq(t:Tpl)(r:Int):Int:=if aJ t r=true then cE (isR r) t.rs else 0
theorem rK{t:Tpl}{r:Int}(h:0<t.rs.length):0≤cq t r∧cq t r<t.rs.length:=by
 unfold cq
 split
 ·rename_i c;exact EI c
 ·omega
def De(t:Tpl)(r:Int):=okL [Tpl.v t,.int r]
def J6(t:Tpl)(r:Int)(t0:Int):NF:=⟨[rI 1 r,rR 2 0,rI 5 t0],[.box (Tpl.v t)]⟩
@[reducible] def Db:Nat→Type
 | 0=>Int
 | _=>Unit
def Dc(r:Int):AV:=.int r
def Da(t:Tpl)(r:Int)(I0:Int→Prop)(m0:Int→Nat):Ax Tryz.prog Db (Int):=
 (.loop 0 (J6 t r) I0 m0 ((0):Int) [0] λ(t0:Int) b0 =>
(.br 81 (decide (t0<((t.rs.map Rtr.v).length:Int))) (.elI 129 Rtr.v t.rs t0 λx1 =>
(.br 209 (x1.id==r) (.ret (t0))
(.bk 0 b0 ((W (t0+1)):Int) [0])))
(.ret (0))))
theorem O3(t:Tpl)(r:Int)(ok:De t r):∃I m,(Da t r I m).vp Dc (cq t r):=by
 refine⟨λi=>aM t.rs (λx=>isR r x=false) i,λi=>t.rs.length-i.toNat,?_⟩;simp only[De,Tpl.v,okU,Blk.ok,az,u']at ok;dsimp only[Da,Db,Ax.vp,Ax.vc];simp only[vcU,rfU,u']
 refine⟨aM.zero,λi h=>⟨λc=>⟨h.idx,c,λx hx=>⟨λq=>?_,λq=>h.step (by omega) hx q⟩⟩,λc=>?_⟩⟩
 ·have:aJ t r=true:=aj'.mpr ⟨x,bn hx,q⟩;rw[cq,F' this];exact h.found hx q
 ·have:¬aJ t r=true:=λq=>by
   obtain⟨x,hx,q⟩:=aj'.mp q;have:=h.done c x hx;rw[isR,q]at this;cases this
  rw[cq,E' this]
def Dd(t:Tpl)(r:Int):PC Tryz.prog:=pcO 166 [(.a [(.s 2),(.s 5)]),.k] [Tpl.v t,.int r] .k Dc (cq t r) (λok=>let ⟨I0,m0,h⟩:=O3 t r ok;⟨_,h,by kernel_rfl⟩) rfl (by kernel_rfl)
def okD(t:Tpl)(d:List Int):Prop:=d.length=t.rs.length∧t.rs.length≤1000
def at6(t:Tpl)(d:List Int)(r:Int):Int:=if aJ t r=true then d.getD (cE (isR r) t.rs).toNat 0 else 1073741824
def QN(t:Tpl)(d:List Int)(r:Int)(t0:Int):NF:=⟨[(1,.k,.sl 1 (d.map AV.int) false),rI 2 r,rR 3 0,rI 7 t0],[.box (Tpl.v t)]⟩
@[reducible] def NB:Nat→Type
 | 0=>Int
 | _=>Unit
def NC(r:Int):AV:=.int r
def NA(t:Tpl)(d:List Int)(r:Int)(I0:Int→Prop)(m0:Int→Nat):Ax Tryz.prog NB (Int):=
 (.loop 0 (QN t d r) I0 m0 ((0):Int) [0] λ(t0:Int) b0 =>
(.br 81 (decide (t0<((t.rs.map Rtr.v).length:Int))) (.elI 129 Rtr.v t.rs t0 λx1 =>
(.br 209 (x1.id==r) (.elI 241 AV.int d t0 λx2 =>
(.ret (x2)))
(.bk 0 b0 ((W (t0+1)):Int) [0])))
(.ret (1073741824))))
theorem at6_p(t:Tpl)(d:List Int)(r:Int)(h:okD t d):∃I m,(NA t d r I m).vp NC (at6 t d r):=by
 refine⟨λi=>aM t.rs (λx=>isR r x=false) i,λi=>t.rs.length-i.toNat,?_⟩;dsimp only[NA,NB,Ax.vp,Ax.vc];simp only[vcU,rfU,u'];obtain⟨hd,hn⟩:=h
 refine⟨aM.zero,λi h=>⟨λc=>⟨h.idx,c,λx hx=>⟨λq=>⟨h.idx,by omega,λy hy=>?_⟩,λq=>h.step (by omega) hx q⟩⟩,λc=>?_⟩⟩
 ·have e:aJ t r=true:=aj'.mpr ⟨x,bn hx,q⟩;rw[at6,F' e,←h.found hx q,H',hy];rfl
 ·have:¬aJ t r=true:=λq=>by
   obtain⟨x,hx,q⟩:=aj'.mp q;have:=h.done c x hx;rw[isR,q]at this;cases this
  rw[at6,E' this]
def Hv(t:Tpl)(d:List Int)(r:Int)(h:okD t d):PC Tryz.prog:=pcO 167 [(.a [(.s 2),(.s 5)]),(.s 1),.k] [Tpl.v t,.sl 1 (d.map AV.int) false,.int r] .k NC (at6 t d r) (λ_=>let ⟨I0,m0,h⟩:=at6_p t d r h;⟨_,h,by kernel_rfl⟩) rfl (by kernel_rfl)
def rlx1(d:List Int)(a b:Nat)(c:Int):List Int:=if d.getD b 0<1073741824 then d.set a (eA (d.getD a 0) (W (c+d.getD b 0)))else d
def rlx(t:Tpl)(d:List Int)(l:Lnk):List Int:=rlx1 (rlx1 d (cq t l.a).toNat (cq t l.b).toNat l.ca) (cq t l.b).toNat (cq t l.a).toNat l.cb
def jN(t:Tpl):Nat→List Int→List Int
 | 0,d=>d
 | n+1,d=>t.ls.foldl (rlx t) (jN t n d)
def to0(t:Tpl)(r:Int):List Int:=t.rs.map λx=>if isR r x=true then 0 else 1073741824
def to6(t:Tpl)(r:Int):List Int:=jN t t.rs.length (to0 t r)
theorem iQ{d:List Int}{a b:Nat}{c:Int}:(rlx1 d a b c).length=d.length:=by unfold rlx1;split<;>simp
theorem xW{t:Tpl}{d:List Int}{l:Lnk}:(rlx t d l).length=d.length:=by rw[rlx,iQ,iQ]
theorem ij{t:Tpl}:∀{ls:List Lnk} {d:List Int},(ls.foldl (rlx t) d).length=d.length
 | [],d=>rfl
 | l::ls,d=>by rw[aN',ij,xW]
theorem mQ{t:Tpl}{d:List Int}:∀{n:Nat},(jN t n d).length=d.length
 | 0=>rfl
 | n+1=>by rw[jN,ij,mQ]
theorem Iz{t:Tpl}{r:Int}:(to6 t r).length=t.rs.length:=by rw[to6,mQ,to0,u']
theorem Km{l:List Int}{k:Nat}{v:Int}{P:Int→Prop}(h:∀x∈l,P x)(hv:P v):∀x∈l.set k v,P x:=λx hx=>by
 rcases ap' hx with q|q
 ·exact h x q
 ·exact q ▸ hv
theorem pZ{d:List Int}(h:∀x∈d,0≤x)(k:Nat):0≤d.getD k 0:=by
 rw[H'];cases e:d[k]? with
 | none=>simp
 | some x=>exact h x (be e)
theorem mj{d:List Int}{a b:Nat}{c:Int}(h:∀x∈d,0≤x)(hc:1≤c∧c≤1000):∀x∈rlx1 d a b c,0≤x:=by
 unfold rlx1
 split
 ·have h1:=pZ h a;have h2:=pZ h b;refine Km h ?_;rw[eF (by omega)];unfold eA;split<;>omega
 ·exact h
theorem eE{n:Int}:fv n=true↔1≤n∧n≤1000:=by unfold fv;simp
theorem C3{t:Tpl}{d:List Int}{l:Lnk}(h:∀x∈d,0≤x)(hl:iD l):∀x∈rlx t d l,0≤x:=mj (mj h (eE.mp hl.1)) (eE.mp hl.2.1)
theorem lT{t:Tpl}:∀{ls:List Lnk} {d:List Int},(∀x∈d,0≤x)→(∀l∈ls,iD l)→∀x∈ls.foldl (rlx t) d,0≤x
 | [],d,h,_=>h
 | l::ls,d,h,hl=>lT (t:=t) (ls:=ls) (d:=rlx t d l) (C3 h (hl l (by simp))) λm hm=>hl m (by simp[hm])
theorem xV{t:Tpl}(hl:∀l∈t.ls,iD l){d:List Int}(h:∀x∈d,0≤x):∀{n:Nat},∀x∈jN t n d,0≤x
 | 0=>h
 | n+1=>lT (xV hl h) hl
theorem qC{t:Tpl}(h:aC t=0):∀l∈t.ls,iD l:=by
 refine U' λq=>?_;unfold aC at h
 by_cases c1:24<t.rs.length∨60<t.ls.length
 ·rw[F' c1]at h;cases h
 rw[E' c1]at h
 by_cases c2:¬∀x∈t.rs,1≤x.id∧x.id≤99
 ·rw[F' c2]at h;cases h
 rw[E' c2]at h
 by_cases c3:¬t.rs.Pairwise (λx y=>x.id<y.id)
 ·rw[F' c3]at h;cases h
 rw[E' c3,F' q]at h;cases h
theorem NR{t:Tpl}(h:aC t=0){r:Int}:∀x∈to6 t r,0≤x:=by
 refine xV (qC h) λx hx=>?_;obtain⟨y,_,rfl⟩:=aa'.mp hx;split<;>omega
theorem xL{α:Type}{A B:List α}{k:Nat}{x v:α}(h:A.length=k):(A++x::B).set k v=A++v::B:=by
 subst h;rw[bw' _ _ (X' _),ba',cb']
theorem getD_of{d:List Int}{k:Nat}{x:Int}(h:d[k]?=some x):d.getD k 0=x:=by rw[H',h];rfl
def NV(t:Tpl)(to_:Int)(t0:Int×List Int):NF:=⟨[rI 1 to_,rR 2 0,rV 5 1,rI 6 t0.1],[.box (Tpl.v t),vB 1 AV.int t0.2 (λ_=>rfl)]⟩
def NU(t:Tpl)(t1:Int×List Int):NF:=⟨[rR 2 0,rV 5 1,rI 7 t1.1],[.box (Tpl.v t),vB 1 AV.int t1.2 (λ_=>rfl)]⟩
def NT(t:Tpl)(t1:Int×List Int)(t2:Int×List Int):NF:=⟨[rR 2 0,rV 5 1,rI 7 t1.1,rI 8 t2.1],[.box (Tpl.v t),vB 1 AV.int t2.2 (λ_=>rfl)]⟩
def NS(t:Tpl)(t1:Int×List Int)(t2:Int×List Int)(x4:Lnk)(t3:List Int):NF:=⟨[rR 2 0,rV 5 1,rI 7 t1.1,rI 8 t2.1,rR 9 2,rI 10 (cq t x4.a),rI 11 (cq t x4.b)],[.box (Tpl.v t),vB 1 AV.int t3 (λ_=>rfl),.box (Lnk.v x4)]⟩
@[reducible] def Ni:Nat→Type
 | 0=>Int×List Int
 | 1=>Int×List Int
 | 2=>Int×List Int
 | 3=>(List Int)
 | _=>Unit
def Nj(r:List Int):AV:=.sl 1 (r.map AV.int) false
def Nh(t:Tpl)(to_:Int)(I0:(Int×List Int)→Prop)(m0:(Int×List Int)→Nat)(I1:Int×List Int→(Int×List Int)→Prop)(m1:Int×List Int→(Int×List Int)→Nat)(I2:Int×List Int→Int×List Int→(Int×List Int)→Prop)(m2:Int×List Int→Int×List Int→(Int×List Int)→Nat)(I3:Int×List Int→Int×List Int→Int×List Int→Lnk→(List Int)→Prop):Ax Tryz.prog Ni ((List Int)):=
 (.say (λR=>Rf (AV.int 0) (ck (cond (decide (0≤((t.rs.map Rtr.v).length:Int))) (cond (decide (((t.rs.map Rtr.v).length:Int)≤((t.rs.map Rtr.v).length:Int))) (decide (((t.rs.map Rtr.v).length:Int)≤1048576)) false) false)
R)) (.rep 80 AV.int 0
(.loop 0 (NV t to_) I0 m0 (0,List.replicate (((t.rs.map Rtr.v).length:Int).toNat) 0) [0,80] λ(t0:Int×List Int) b0 =>
(.br 66 (decide (t0.1<((t0.2.map AV.int).length:Int))) (.stJ 114 AV.int t0.2 t0.1 (λy1=>1073741824) λy1 =>
(.elI 178 Rtr.v t.rs t0.1 λx2 =>
(.br 258 (x2.id==to_) (.stJ 306 AV.int (t0.2.set t0.1.toNat 1073741824) t0.1 (λy3=>0) λy3 =>
(.bk 0 b0 (W (t0.1+1),(t0.2.set t0.1.toNat 1073741824).set t0.1.toNat 0) [0,1]))
(.bk 0 b0 (W (t0.1+1),t0.2.set t0.1.toNat 1073741824) [0,1]))))
(.loop 1 (NU t) (I1 t0) (m1 t0) (0,t0.2) [0,1] λ(t1:Int×List Int) b1 =>
(.br 66 (decide (t1.1<((t1.2.map AV.int).length:Int))) (.loop 2 (NT t t1) (I2 t0 t1) (m2 t0 t1) (0,t1.2) [0,1] λ(t2:Int×List Int) b2 =>
(.br 82 (decide (t2.1<((t.ls.map Lnk.v).length:Int))) (.elI 130 Lnk.v t.ls t2.1 λx4 =>
(.callP (Dd t x4.a)
(.callP (Dd t x4.b)
(.join 3 (NS t t1 t2 x4) (λ(t3:List Int)=>I3 t0 t1 t2 x4 t3) (λb3=>(.elJ 402 AV.int t2.2 (cq t x4.b) λx5 =>
(.br 434 (decide (x5<1073741824)) (.elJ 514 AV.int t2.2 (cq t x4.a) λx6 =>
(.elJ 610 AV.int t2.2 (cq t x4.b) λx7 =>
(.stJ 674 AV.int t2.2 (cq t x4.a) (λy8=>(eA x6 (W (x4.ca+x7)))) λy8 =>
(.bk 3 b3 ((t2.2.set ((cq t x4.a).toNat) (eA x6 (W (x4.ca+x7)))):(List Int)) [0,1,162]))))
(.bk 3 b3 ((t2.2):(List Int)) [0,1,162])))) λ(t3:List Int) =>
(.elJ 51 AV.int t3 (cq t x4.a) λx9 =>
(.br 83 (decide (x9<1073741824)) (.elJ 163 AV.int t3 (cq t x4.b) λx10 =>
(.elJ 259 AV.int t3 (cq t x4.a) λx11 =>
(.stJ 323 AV.int t3 (cq t x4.b) (λy12=>(eA x10 (W (x4.cb+x11)))) λy12 =>
(.bk 2 b2 (W (t2.1+1),t3.set ((cq t x4.b).toNat) (eA x10 (W (x4.cb+x11)))) [0,1]))))
(.bk 2 b2 (W (t2.1+1),t3) [0,1])))))))
(.bk 1 b1 (W (t1.1+1),t2.2) [0,1])))
(.fz 1 AV.int t1.2 (λ_=>rfl) (.ret (t1.2)))))))))
theorem to6_p(t:Tpl)(r:Int)(h:aC t=0):∃I0 m0 I1 m1 I2 m2 I3,(Nh t r I0 m0 I1 m1 I2 m2 I3).vp Nj (to6 t r):=by
 refine⟨λs=>∃k:Nat,s.1=k∧k≤t.rs.length∧s.2=(to0 t r).take k++List.replicate (t.rs.length-k) 0,λs=>t.rs.length-s.1.toNat,
  λ_ s=>∃k:Nat,s.1=k∧k≤t.rs.length∧s.2=jN t k (to0 t r),λ_ s=>t.rs.length-s.1.toNat,
  λ_ u s=>lJ t.ls (rlx t) u.2 s.1 s.2,λ_ _ s=>t.ls.length-s.1.toNat,λ_ u s l d=>d=rlx1 s.2 (cq t l.a).toNat (cq t l.b).toNat l.ca,?_⟩
 dsimp only[Nh,Ni,Ax.vp,Ax.vc];simp only[vcU,rfU,u'];have hn:=(cJ h).1;have h0:(to0 t r).length=t.rs.length:=by rw[to0,u']
 refine⟨by simp;omega,⟨0,rfl,by omega,by simp⟩,?_⟩;rintro⟨_,_⟩ ⟨k,rfl,hk,rfl⟩;simp only;have hlen:((to0 t r).take k++List.replicate (t.rs.length-k) (0:Int)).length=t.rs.length:=by simp[h0];omega
 rw[hlen]
 refine⟨λc=>⟨cY (by omega) c,by omega,λy hy=>⟨by omega,c,λx hx=>?_⟩⟩,λc=>?_⟩
 ·rw[Int.toNat_natCast]at hx ⊢;have hkl:k<t.rs.length:=am hx;have e0:t.rs.length-k=(t.rs.length-(k+1))+1:=by omega
  have hA:((to0 t r).take k).length=k:=by rw[ar',h0];omega
  have hg:(to0 t r)[k]?=some (if isR r x=true then 0 else 1073741824):=by rw[to0,I',hx];rfl
  rw[e0,List.replicate_succ,xL hA,xL hA,aQ (n:=t.rs.length) hkl (by omega)]
  refine⟨λe=>⟨cY (by omega) (by simp[h0];omega),by simp[h0];omega,λy hy=>⟨⟨k+1,rfl,by omega,?_⟩,by omega⟩⟩,λe=>⟨⟨k+1,rfl,by omega,?_⟩,by omega⟩⟩
  ·rw[aB hg,F' (show isR r x=true from e)];simp
  ·have e:¬isR r x=true:=λq=>by rw[isR,e]at q;cases q
   rw[aB hg,E' e];simp
 have:k=t.rs.length:=by omega
 subst this;have e1:(to0 t r).take t.rs.length++List.replicate (t.rs.length-t.rs.length) (0:Int)=to0 t r:=by
  rw[ba',cq',bc',←h0,List.take_length]
 rw[e1];refine⟨⟨0,rfl,by omega,rfl⟩,?_⟩;rintro⟨_,_⟩ ⟨k,rfl,hk,rfl⟩;simp only;have hlen2:(jN t k (to0 t r)).length=t.rs.length:=by rw[mQ,h0]
 rw[hlen2]
 refine⟨λc2=>⟨lJ.zero,?_⟩,λc2=>?_⟩
 ·rintro⟨j,d⟩ g;simp only at g ⊢;have hpos:0<t.rs.length:=by omega
  have hdl:d.length=t.rs.length:=by
   obtain⟨m,_,_,e⟩:=g;rw[e,ij,hlen2]
  have hll:=(cJ h).2
  refine⟨λc3=>⟨g.idx,c3,λl hl=>?_⟩,λc3=>?_⟩
  ·obtain⟨a1,a2⟩:=rK (r:=l.a) hpos;obtain⟨b1,b2⟩:=rK (r:=l.b) hpos;generalize hea:cq t l.a=pa at a1 a2 ⊢;generalize heb:cq t l.b=pb at b1 b2 ⊢
   refine⟨⟨cY b1 (by omega),by omega,λx5 h5=>⟨λe=>⟨cY a1 (by omega),by omega,λx6 h6=>⟨cY b1 (by omega),by omega,λx7 h7=>⟨cY a1 (by omega),by omega,λy8 h8=>?_⟩⟩⟩,λe=>?_⟩⟩,?_⟩
   ·rw[rlx1,getD_of h5,getD_of h6,F' e];rw[h5]at h7;cases h7;rfl
   ·rw[rlx1,getD_of h5,E' e]
   rintro d4 hd4;have hl4:d4.length=t.rs.length:=by rw[hd4,iQ];exact hdl
   refine⟨cY a1 (by omega),by omega,λx9 h9=>⟨λe=>⟨cY b1 (by omega),by omega,λx10 h10=>⟨cY a1 (by omega),by omega,λx11 h11=>⟨cY b1 (by omega),by omega,λy12 h12=>g.step (by omega) hl ?_⟩⟩⟩,λe=>g.step (by omega) hl ?_⟩⟩
   ·rw[rlx,hea,heb,←hd4,rlx1,getD_of h9,getD_of h10,F' e];rw[h9]at h11;cases h11;rfl
   ·rw[rlx,hea,heb,←hd4,rlx1,getD_of h9,E' e]
  ·rw[aQ (n:=t.rs.length) (by omega) (by omega)];exact⟨⟨k+1,rfl,by omega,by rw[jN];exact g.done c3⟩,by omega⟩
 ·have:k=t.rs.length:=by omega
  subst this;rfl
def to6_c(t:Tpl)(to_:Int)(h:aC t=0):PC Tryz.prog:=pcO 124 [(.a [(.s 2),(.s 5)]),.k] [Tpl.v t,.int to_] (.s 1) Nj (to6 t to_) (λ_=>let ⟨I0,m0,I1,m1,I2,m2,I3,h⟩:=to6_p t to_ h;⟨_,h,by kernel_rfl⟩) rfl (by kernel_rfl)
def okN(t:Tpl)(d:List Int)(r q:Int):Bool:=decide (at6 t d q<1073741824) && (W ((dG t r q).1+at6 t d q)==at6 t d r)
def eW(t:Tpl)(d:List Int)(r:Int):List Int:=if at6 t d r=1073741824∨at6 t d r=0 then []else(lu t r).filter (okN t d r)
theorem nS{α β:Type}{p:α→Bool}{g:α→β}:∀{l:List α},(l.flatMap λx=>if p x=true then [g x]else []).length≤l.length
 | []=>by simp
 | x::l=>by
  have:=nS (p:=p) (g:=g) (l:=l);have h1:(if p x=true then [g x]else []).length≤1:=by split<;>simp
  rw[aq',List.length_append,Y'];omega
theorem rZ{t:Tpl}{r:Int}:(lu t r).length≤t.rs.length:=nS (p:=λx:Rtr=>(dG t r x.id).2) (g:=Rtr.id)
def IH(t:Tpl)(d:List Int)(from_:Int)(t0:Bool):NF:=⟨[(1,.k,.sl 1 (d.map AV.int) false),rI 2 from_,rR 3 0,(7,.k,.sl 0 [] true),rI 8 (at6 t d from_),rB 22 t0],[.box (Tpl.v t)]⟩
def IG(t:Tpl)(d:List Int)(from_:Int)(t1:Int×List Int):NF:=⟨[(1,.k,.sl 1 (d.map AV.int) false),rI 2 from_,rR 3 0,rV 7 1,rI 8 (at6 t d from_),(9,.k,.sl 1 ((lu t from_).map AV.int) false),rI 10 t1.1],[.box (Tpl.v t),vB 1 AV.int t1.2 (λ_=>rfl)]⟩
def IF(t:Tpl)(d:List Int)(from_:Int)(t1:Int×List Int)(t2:Bool):NF:=⟨[(1,.k,.sl 1 (d.map AV.int) false),rI 2 from_,rR 3 0,rV 7 1,rI 8 (at6 t d from_),(9,.k,.sl 1 ((lu t from_).map AV.int) false),rI 10 t1.1,rB 62 t2],[.box (Tpl.v t),vB 1 AV.int t1.2 (λ_=>rfl)]⟩
@[reducible] def BP:Nat→Type
 | 0=>Bool
 | 1=>Int×List Int
 | 2=>Bool
 | _=>Unit
def BR(r:List Int):AV:=.sl 1 (r.map AV.int) false
def BO(t:Tpl)(d:List Int)(from_:Int)(I0:Bool→Prop)(I1:Bool→(Int×List Int)→Prop)(m1:Bool→(Int×List Int)→Nat)(I2:Bool→Int×List Int→Int→Bool→Prop):Ax Tryz.prog BP ((List Int)):=
 (.req 96 (okD t d) λh1 =>
(.callP (Hv t d from_ h1)
(.pass (.join 0 (IH t d from_) (λ(t0:Bool)=>I0 t0) (λb0=>(.br 176 ((at6 t d from_)==1073741824) (.bk 0 b0 ((true):Bool) [0])
(.bk 0 b0 (((at6 t d from_)==0):Bool) [0]))) λ(t0:Bool) =>
(.br 1 t0 (.ret ([]))
(.req 33 (t.rs.length≤1000) λh2 =>
(.callP (OR t from_ h2)
(.cmdL (.nilT 7 1) (.loop 1 (IG t d from_) (I1 t0) (m1 t0) (0,[]) [0,81] λ(t1:Int×List Int) b1 =>
(.br 66 (decide (t1.1<(((lu t from_).map AV.int).length:Int))) (.elI 130 AV.int (lu t from_) t1.1 λx3 =>
(.callP (uE t from_ x3)
(.join 2 (IF t d from_ t1) (λ(t2:Bool)=>I2 t0 t1 x3 t2) (λb2=>(.elI 322 AV.int (lu t from_) t1.1 λx4 =>
(.req 354 (okD t d) λh5 =>
(.callP (Hv t d x4 h5)
(.br 402 (decide ((at6 t d x4)<1073741824)) (.elI 482 AV.int (lu t from_) t1.1 λx6 =>
(.req 514 (okD t d) λh7 =>
(.callP (Hv t d x6 h7)
(.bk 2 b2 (((W (((dG t from_ x3).1)+(at6 t d x6)))==(at6 t d from_)):Bool) [0,1]))))
(.bk 2 b2 ((false):Bool) [0,1])))))) λ(t2:Bool) =>
(.br 2 t2 (.elI 50 AV.int (lu t from_) t1.1 λx8 =>
(.apX 98 AV.int t1.2 [x8] (t1.2.length+1)
(.bk 1 b1 (W (t1.1+1),t1.2++[x8]) [0,98])))
(.bk 1 b1 (W (t1.1+1),t1.2) [0,1])))))
(.fz 1 AV.int t1.2 (λ_=>rfl) (.ret (t1.2)))))))))))))
theorem Oa(t:Tpl)(d:List Int)(r:Int)(h:okD t d):∃I0 I1 m1 I2,(BO t d r I0 I1 m1 I2).vp BR (eW t d r):=by
 refine⟨λb=>b=decide (at6 t d r=1073741824∨at6 t d r=0),λ_ s=>dY (lu t r) (λq=>if okN t d r q=true then [q]else []) s.1 s.2,λ_ s=>(lu t r).length-s.1.toNat,
  λ_ _ q b=>b=okN t d r q,?_⟩
 dsimp only[BO,BP,Ax.vp,Ax.vc];simp only[vcU,rfU,u'];have hn:=h.2;have hl:=rZ (t:=t) (r:=r)
 refine⟨h,⟨λc=>by simp[eq_of_beq c],λc=>?_⟩,?_⟩
 ·have c:¬at6 t d r=1073741824:=by simpa using c
  rw[ag'];simp[c]
 rintro _ rfl;refine⟨λc=>by rw[eW,F' (G' c)],λc=>⟨hn,dY.zero,?_⟩⟩;have c:=S' c;rintro⟨i,out⟩ g;simp only at g ⊢;have hlen:=g.len (b:=1) λx _=>by split<;>simp
 refine⟨λe=>⟨g.idx,e,λx hx=>⟨⟨g.idx,e,λy hy=>⟨h,λe1=>⟨g.idx,e,λz hz=>⟨h,?_⟩⟩,λe1=>?_⟩⟩,?_⟩⟩,λe=>?_⟩
 ·rw[hx]at hy hz;cases hy;cases hz;rw[okN,decide_eq_true e1];rfl
 ·rw[hx]at hy;cases hy;rw[okN,decide_eq_false e1];rfl
 ·rintro _ rfl;refine⟨λe1=>⟨g.idx,e,λz hz=>⟨by omega,?_⟩⟩,λe1=>g.step (by omega) hx (by rw[E' (by rw[e1];simp)];simp)⟩;rw[hx]at hz;cases hz;exact g.step (by omega) hx (by rw[F' e1])
 ·rw[eW,E' c,g.done e,vU]
def Ob(t:Tpl)(d:List Int)(from_:Int)(h:okD t d):PC Tryz.prog:=pcO 125 [(.a [(.s 2),(.s 5)]),(.s 1),.k] [Tpl.v t,.sl 1 (d.map AV.int) false,.int from_] (.s 1) BR (eW t d from_) (λ_=>let ⟨I0,I1,m1,I2,h⟩:=Oa t d from_ h;⟨_,h,by kernel_rfl⟩) rfl (by kernel_rfl)
theorem CW{t:Tpl}(h:aC t=0){f g:Int}(hp:(dG t f g).2=true):1≤(dG t f g).1∧(dG t f g).1≤1000:=by
 unfold dG at hp ⊢;cases e:t.ls.find? (gm f g)with
 | none=>rw[e]at hp;cases hp
 | some l =>
  have hl:=qC h l (bG' e);have h1:=eE.mp hl.1;have h2:=eE.mp hl.2.1;simp only;split<;>omega
theorem Hu{t:Tpl}{d:List Int}(h:∀x∈d,0≤x)(r:Int):0≤at6 t d r:=by
 unfold at6
 split
 ·exact pZ h _
 ·omega
theorem II{t:Tpl}(h:aC t=0){d:List Int}(hd:∀x∈d,0≤x){f q:Int}(hq:q∈eW t d f):at6 t d q<at6 t d f∧∃x∈t.rs,x.id=q:=by
 unfold eW at hq
 split at hq
 ·cases hq
 obtain⟨h1,h2⟩:=ca'.mp hq;obtain⟨x,hx,hx2⟩:=bn'.mp h1;have hp:(dG t f x.id).2=true∧q=x.id:=by
  by_cases c:(dG t f x.id).2=true
  ·rw[F' c,L']at hx2;exact⟨c,hx2⟩
  ·rw[E' c]at hx2;cases hx2
 obtain⟨hp,rfl⟩:=hp;obtain⟨p1,p2⟩:=CW h hp;rw[okN,ae',decide_eq_true_eq,aV']at h2;have h0:=Hu (t:=t) hd x.id;have:=h2.2;rw[eF (by omega)]at this;exact⟨by omega,x,hx,rfl⟩
theorem oV{α:Type}{p q:α→Bool}:∀{l:List α} {x:α},(∀y,p y=true→q y=true)→x∈l→p x=false→q x=true→(l.filter p).length<(l.filter q).length
 | y::l,x,h,hx,h1,h2=>by
  have hle:∀l:List α,(l.filter p).length≤(l.filter q).length:=by
   intro l
   induction l with
   | nil=>simp
   | cons z l ih =>
    rw[bZ',bZ']
    by_cases c:p z=true
    ·rw[F' c,F' (h z c)];simp only[Y'];omega
    ·rw[E' c];split
     ·simp only[Y'];omega
     ·exact ih
  rw[bZ',bZ']
  rcases ah'.mp hx with rfl|hx
  ·rw[E' (by rw[h1];simp),F' h2];have:=hle l;simp only[Y'];omega
  ·have:=oV h hx h1 h2
   by_cases c:p y=true
   ·rw[F' c,F' (h y c)];simp only[Y'];omega
   ·rw[E' c];split
    ·simp only[Y'];omega
    ·exact this
def fA(t:Tpl)(u v c:Int):Prop:=∃l∈t.ls,(l.a=u∧l.b=v∧l.ca=c)∨(l.b=u∧l.a=v∧l.cb=c)
theorem CT{t:Tpl}(hc:aC t=0){u v c:Int}:fA t u v c↔dG t u v=(c,true):=by
 have hO:=ax hc;have key:∀x∈t.ls,∀y∈t.ls,gm u v x=true→gm u v y=true→x=y:=λx hx y hy h1 h2=>by
  obtain⟨i,hi⟩:=ac'.mp hx;obtain⟨j,hj⟩:=ac'.mp hy;have a1:=hO.lt x hx;have a2:=hO.lt y hy;unfold gm at h1 h2;simp only[bi',ae',aV']at h1 h2;have hk:¬bC x y∧¬bC y x:=by unfold bC;omega
  rcases Nat.lt_trichotomy i j with h|h|h
  ·exact absurd (fX hO.ord h hi hj) hk.1
  ·subst h;rw[hi]at hj;exact Z' hj
  ·exact absurd (fX hO.ord h hj hi) hk.2
 constructor
 ·rintro⟨l,hl,h⟩;have hp:gm u v l=true:=by
   unfold gm;simp only[bi',ae',aV'];omega
  have hlt:=hO.lt l hl;unfold dG;cases q:t.ls.find? (gm u v)with
  | none =>
   have:=bR'.mp q l hl;exact absurd hp this
  | some y =>
   have:=key y (bG' q) l hl (cw' q) hp;subst this;simp only
   rcases h with⟨h1,h2,h3⟩|⟨h1,h2,h3⟩
   ·rw[F' (by simp[h1,h2]),h3]
   ·rw[E' (by simp;omega),h3]
 ·intro h;unfold dG at h;cases q:t.ls.find? (gm u v)with
  | none=>rw[q]at h;simp at h
  | some y =>
   rw[q]at h;have hp:=cw' q;have hy:=bG' q;simp only[Prod.mk.injEq,and_true]at h;unfold gm at hp;refine⟨y,hy,?_⟩
   by_cases e:(y.a==u && y.b==v)=true
   ·rw[F' e]at h;simp only[ae',aV']at e;exact .inl ⟨e.1,e.2,h⟩
   ·rw[E' e]at h;simp only[bi',ae',aV']at hp e
    rcases hp with hp|hp
    ·exact absurd hp e
    ·exact .inr ⟨hp.1,hp.2,h⟩
theorem fA.cost{t:Tpl}(hc:aC t=0){u v c:Int}(h:fA t u v c):1≤c∧c≤1000:=by
 obtain⟨l,hl,h⟩:=h;have:=(ax hc).lr l hl;have h1:=eE.mp this.1;have h2:=eE.mp this.2.1;omega
theorem fA.has{t:Tpl}(hc:aC t=0){u v c:Int}(h:fA t u v c):aJ t u=true∧aJ t v=true:=by
 obtain⟨l,hl,h⟩:=h;have:=(ax hc).has l hl
 rcases h with⟨rfl,rfl,_⟩|⟨rfl,rfl,_⟩
 ·exact this
 ·exact⟨this.2,this.1⟩
theorem rQ{t:Tpl}(hc:aC t=0){x:Int}{s:Stp}:s∈gD t.ls x↔fA t x s.to s.cost:=by
 have hO:=ax hc;unfold gD fA;rw[bn']
 constructor
 ·rintro⟨l,hl,h⟩;refine⟨l,hl,?_⟩
  split at h
  ·rw[L'.mp h];exact .inl ⟨by assumption,rfl,rfl⟩
  ·split at h
   ·rw[L'.mp h];exact .inr ⟨by assumption,rfl,rfl⟩
   ·cases h
 ·rintro⟨l,hl,⟨h1,h2,h3⟩|⟨h1,h2,h3⟩⟩
  ·refine⟨l,hl,?_⟩;rw[F' h1,h2,h3];simp
  ·have:=hO.lt l hl;refine⟨l,hl,?_⟩;rw[E' (by omega),F' h1,h2,h3];simp
theorem yW{t:Tpl}(hc:aC t=0){x:Int}{s:Stp}:s∈inS t.ls x↔fA t s.to x s.cost:=by
 have hO:=ax hc;unfold inS fA;rw[bn']
 constructor
 ·rintro⟨l,hl,h⟩;refine⟨l,hl,?_⟩
  split at h
  ·rw[L'.mp h];exact .inl ⟨rfl,by assumption,rfl⟩
  ·split at h
   ·rw[L'.mp h];exact .inr ⟨rfl,by assumption,rfl⟩
   ·cases h
 ·rintro⟨l,hl,⟨h1,h2,h3⟩|⟨h1,h2,h3⟩⟩
  ·refine⟨l,hl,?_⟩;rw[F' h2,h1,h3];simp
  ·have:=hO.lt l hl;refine⟨l,hl,?_⟩;rw[E' (by omega),F' h2,h1,h3];simp
theorem fc{t:Tpl}{x:Int}:aJ t x=true↔∃r∈t.rs,r.id=x:=by
 unfold aJ;rw[aj'];simp
theorem bf{t:Tpl}(f:Rtr→List Stp):ap (t.rs.map λr=>(r.id,f r))=t.rs.map (·.id):=by unfold ap;rw[aZ'];rfl
theorem bz{t:Tpl}{x:Int}:x∈t.rs.map (·.id)↔aJ t x=true:=by rw[fc,aa']
theorem gK{t:Tpl}(hc:aC t=0):(t.rs.map (·.id)).Nodup:=List.Pairwise.map _ (λa b h=>by omega) (ax hc).asc
theorem yZ{t:Tpl}(hc:aC t=0)(f:Int→List Stp)(hf:∀x,aJ t x=false→f x=[])(x:Int):av (t.rs.map λr=>(r.id,f r.id)) x []=f x:=by
 by_cases h:aJ t x=true
 ·obtain⟨r,hr,rfl⟩:=fc.mp h;exact dC (by rw[bf (λr=>f r.id)];exact gK hc) (aa'.mpr ⟨r,hr,rfl⟩)
 ·have h:aJ t x=false:=by simpa using h
  rw[cd,hf x h];unfold aT;rw[bf (λr=>f r.id),decide_eq_false];rw[bz,h];simp
theorem JB{t:Tpl}(hc:aC t=0)(x:Int)(h:aJ t x=false):gD t.ls x=[]:=by
 refine cd'.mpr λs hs=>?_;rw[(((rQ hc).mp hs).has hc).1]at h;cases h
theorem Pt{t:Tpl}(hc:aC t=0)(x:Int)(h:aJ t x=false):inS t.ls x=[]:=by
 refine cd'.mpr λs hs=>?_;rw[(((yW hc).mp hs).has hc).2]at h;cases h
theorem yd{t:Tpl}(hc:aC t=0)(x:Int):av (da t) x []=j9 (gD t.ls x):=yZ hc (λx=>j9 (gD t.ls x)) (λx h=>by rw[JB hc x h];simp[j9]) x
theorem Pr{t:Tpl}(hc:aC t=0)(x:Int):av (inG t) x []=inS t.ls x:=yZ hc (λx=>inS t.ls x) (λx h=>Pt hc x h) x
theorem ml{t:Tpl}(hc:aC t=0){x:Int}{s:Stp}:s∈av (da t) x []↔fA t x s.to s.cost:=by rw[yd hc,(jt _).mem_iff,rQ hc]
theorem nD{t:Tpl}(hc:aC t=0){x:Int}{s:Stp}:s∈av (inG t) x []↔fA t s.to x s.cost:=by rw[Pr hc,yW hc]
theorem uQ{t:Tpl}(hc:aC t=0):lP (da t):=by
 have:=(ax hc).nr;refine⟨by unfold da;rw[u'];omega,by unfold da;rw[bf];exact gK hc,λx s hs=>?_,λx s hs=>((ml hc).mp hs).cost hc⟩;unfold da;rw[bf,bz];exact(((ml hc).mp hs).has hc).2
theorem lS{t:Tpl}(hc:aC t=0):lP (inG t):=by
 have:=(ax hc).nr;refine⟨by unfold inG;rw[u'];omega,by unfold inG;rw[bf];exact gK hc,λx s hs=>?_,λx s hs=>((nD hc).mp hs).cost hc⟩;unfold inG;rw[bf,bz];exact(((nD hc).mp hs).has hc).1
inductive Pth (t:Tpl) (g:Int):Nat→Int→Int→Prop
  | nil:Pth t g 0 g 0
  | cons {k:Nat} {u w c n:Int}:fA t u w c→Pth t g k w n→Pth t g (k+1) u (n+c)
theorem kO{t:Tpl}(hc:aC t=0){g v n:Int}:iy (inG t) g v n↔∃k,Pth t g k v n:=by
 constructor
 ·intro p
  induction p with
  | nil=>exact⟨0,.nil⟩
  | snoc q hs ih=>obtain⟨k,ih⟩:=ih;exact⟨k+1,.cons ((nD hc).mp hs) ih⟩
 ·rintro⟨k,p⟩
  induction p with
  | nil=>exact .nil
  | cons e q ih=>exact .snoc (s:=⟨_,_⟩) ih ((nD hc).mpr e)
theorem ng{t:Tpl}(hc:aC t=0){f v n:Int}:iy (da t) f v n↔∃k,Pth t v k f n:=by
 have app:∀{k:Nat} {u m w c v:Int},Pth t w k u m→fA t w v c→Pth t v (k+1) u (m+c):=λ{k u m w c v} p e=>by
  induction p with
  | nil=>exact .cons e .nil
  | cons e' q ih=>have:=Pth.cons e' ih;rwa [Int.add_right_comm]at this
 have pre:∀{f w v c n:Int},fA t f w c→iy (da t) w v n→iy (da t) f v (n+c):=λ{f w v c n} e p=>by
  induction p with
  | nil=>exact .snoc (s:=⟨_,_⟩) .nil ((ml hc).mpr e)
  | snoc q hs ih=>have:=iy.snoc ih hs;rwa [Int.add_right_comm]at this
 constructor
 ·intro p
  induction p with
  | nil=>exact⟨0,.nil⟩
  | snoc q hs ih=>obtain⟨k,ih⟩:=ih;exact⟨k+1,app ih ((ml hc).mp hs)⟩
 ·rintro⟨k,p⟩
  induction p with
  | nil=>exact .nil
  | cons e q ih=>exact pre e ih
def Lst(t:Tpl)(u v m:Int):Prop:=(∃k,Pth t v k u m)∧∀k n,Pth t v k u n→m≤n
theorem nE{t:Tpl}(hc:aC t=0){g v m:Int}(hg:aJ t g=true):(v,m)∈cF (inG t) g↔Lst t v g m:=by
 rw[pc (lS hc) (by unfold inG;rw[bf,bz];exact hg),kO hc];exact⟨λ⟨h1,h2⟩=>⟨h1,λk n p=>h2 n ((kO hc).mpr ⟨k,p⟩)⟩,λ⟨h1,h2⟩=>⟨h1,λn p=>by obtain⟨k,p⟩:=(kO hc).mp p;exact h2 k n p⟩⟩
theorem A3{t:Tpl}(hc:aC t=0){f v m:Int}(hf:aJ t f=true):(v,m)∈cF (da t) f↔Lst t f v m:=by
 rw[pc (uQ hc) (by unfold da;rw[bf,bz];exact hf),ng hc];exact⟨λ⟨h1,h2⟩=>⟨h1,λk n p=>h2 n ((ng hc).mpr ⟨k,p⟩)⟩,λ⟨h1,h2⟩=>⟨h1,λn p=>by obtain⟨k,p⟩:=(ng hc).mp p;exact h2 k n p⟩⟩
def jd:Int:=1073741824
theorem uG{t:Tpl}(hc:aC t=0){i:Nat}{r:Rtr}(h:t.rs[i]?=some r):(cq t r.id).toNat=i:=by
 have hh:aJ t r.id=true:=fc.mpr ⟨r,be h,rfl⟩;unfold cq;rw[F' hh,cE,F' (show t.rs.any (isR r.id)=true from hh)];have hlt:t.rs.findIdx (isR r.id)<t.rs.length:=List.findIdx_lt_length.mpr ⟨r,be h,by simp[isR]⟩;have e:=List.findIdx_getElem (w:=hlt);have h1:(t.rs.map (·.id))[t.rs.findIdx (isR r.id)]?=some r.id:=by
  rw[I',f' hlt];unfold isR at e ⊢;simp only[aV']at e;simp[e]
 have h2:(t.rs.map (·.id))[i]?=some r.id:=by rw[I',h];rfl
 have:=ef (gK hc) h1 h2;rw[Int.toNat_natCast];exact this
theorem la{t:Tpl}{d:List Int}{u:Int}(h:aJ t u=true):at6 t d u=d.getD (cq t u).toNat 0:=by
 unfold at6 cq;rw[F' h,F' h]
theorem My{t:Tpl}(hc:aC t=0){d:List Int}(hd:d.length=t.rs.length){a u x:Int}(ha:aJ t a=true)(hu:aJ t u=true):at6 t (d.set (cq t a).toNat x) u=if u=a then x else at6 t d u:=by
 rw[la hu,la hu];obtain⟨ra,h1,rfl⟩:=fc.mp ha;obtain⟨ru,h2,rfl⟩:=fc.mp hu;obtain⟨i,hi⟩:=ac'.mp h1;obtain⟨j,hj⟩:=ac'.mp h2;rw[uG hc hi,uG hc hj];have hil:=am hi;rw[H',ak',H']
 by_cases e:i=j
 ·subst e;rw[hi]at hj;cases hj;rw[F' rfl,F' (by omega),F' rfl];rfl
 ·rw[E' e,E'];intro q;have h3:(t.rs.map (·.id))[i]?=some ra.id:=by rw[I',hi];rfl
  have h4:(t.rs.map (·.id))[j]?=some ra.id:=by rw[I',hj,←q];rfl
  exact e (ef (gK hc) h3 h4)
theorem py{t:Tpl}(hc:aC t=0){d:List Int}(hd:d.length=t.rs.length)(hn:∀x∈d,0≤x){a b c u:Int}(h1:1≤c∧c≤1000)(ha:aJ t a=true)(hb:aJ t b=true)(hu:aJ t u=true) :
  at6 t (rlx1 d (cq t a).toNat (cq t b).toNat c) u=if u=a∧at6 t d b<jd∧c+at6 t d b<at6 t d a then c+at6 t d b else at6 t d u:=by
 have hb0:=Hu (t:=t) hn b;unfold rlx1;rw[←la hb,←la ha]
 by_cases e:at6 t d b<1073741824
 ·rw[F' e,My hc hd ha hu,eF (by omega)];unfold eA jd
  by_cases e1:u=a
  ·subst e1;rw[F' rfl]
   by_cases e2:c+at6 t d b<at6 t d u
   ·rw[F' e2,F' ⟨rfl,e,e2⟩]
   ·rw[E' e2,E' (λq=>e2 q.2.2)]
  ·rw[E' e1,E' (λq=>e1 q.1)]
 ·rw[E' e,E' (λq=>e q.2.1)]
section
variable {t : Tpl} (hc : aC t = 0)
include hc
theorem Jj{d:List Int}(hd:d.length=t.rs.length)(hn:∀x∈d,0≤x){l:Lnk}(hl:l∈t.ls) :
  (∀u,aJ t u=true→at6 t (rlx t d l) u≤at6 t d u)∧(at6 t d l.b<jd→at6 t (rlx t d l) l.a≤at6 t d l.b+l.ca)∧(at6 t d l.a<jd→at6 t (rlx t d l) l.b≤at6 t d l.a+l.cb):=by
 have hO:=ax hc;obtain⟨ha,hb⟩:=hO.has l hl;have hlr:=hO.lr l hl;have hlt:=hO.lt l hl;have c1:=eE.mp hlr.1;have c2:=eE.mp hlr.2.1;have hd1:(rlx1 d (cq t l.a).toNat (cq t l.b).toNat l.ca).length=t.rs.length:=by rw[iQ];exact hd
 have hn1:=mj (a:=(cq t l.a).toNat) (b:=(cq t l.b).toNat) hn c1;have s1:=λu hu=>py hc hd hn (u:=u) c1 ha hb hu;have s2:=λu hu=>py hc hd1 hn1 (u:=u) c2 hb ha hu;unfold rlx;have sa:=s1 l.a ha;have sb:=s1 l.b hb;rw[E' (λq=>by have:=q.1;omega)]at sb;have e1:fA t l.a l.b l.ca:=⟨l,hl,.inl ⟨rfl,rfl,rfl⟩⟩
 have e2:fA t l.b l.a l.cb:=⟨l,hl,.inr ⟨rfl,rfl,rfl⟩⟩
 refine⟨λu hu=>?_,λh=>?_,λh=>?_⟩
 ·rw[s2 u hu,s1 u hu]
  by_cases q:u=l.b
  ·subst q;rw[sb,sa];(repeat' split)<;>omega
  ·rw[E' (λr=>q r.1)];split
   ·rename_i r;obtain⟨r1,r2,r3⟩:=r;subst r1;omega
   ·omega
 ·rw[s2 l.a ha,E' (λr=>by have:=r.1;omega),sa]
  split
  ·omega
  ·rename_i r;have:¬l.ca+at6 t d l.b<at6 t d l.a:=λq=>r ⟨rfl,h,q⟩;omega
 ·have ham:at6 t (rlx1 d (cq t l.a).toNat (cq t l.b).toNat l.ca) l.a≤at6 t d l.a:=by rw[sa];split<;>omega
  rw[s2 l.b hb]
  split
  ·omega
  ·rename_i r;have:¬l.cb+at6 t (rlx1 d (cq t l.a).toNat (cq t l.b).toNat l.ca) l.a<at6 t (rlx1 d (cq t l.a).toNat (cq t l.b).toNat l.ca) l.b:=λq=>r ⟨rfl,by omega,q⟩;omega
def PV(t:Tpl)(g:Int)(d:List Int):Prop:=∀u,aJ t u=true→at6 t d u≤jd∧(at6 t d u<jd→∃k,Pth t g k u (at6 t d u))
theorem PV.rlx1{g:Int}{d:List Int}(h:PV t g d)(hd:d.length=t.rs.length)(hn:∀x∈d,0≤x){a b c:Int}(e:fA t a b c):PV t g (rlx1 d (cq t a).toNat (cq t b).toNat c):=λu hu=>by
 obtain⟨ha,hb⟩:=e.has hc;rw[py hc hd hn (e.cost hc) ha hb hu]
 split
 ·rename_i r;obtain⟨r1,r2,r3⟩:=r;subst r1;have:=(h u hu).1;refine⟨by omega,λ_=>?_⟩;obtain⟨k,p⟩:=(h b hb).2 r2;rw[Int.add_comm];exact⟨k+1,.cons e p⟩
 ·exact h u hu
theorem PV.rlx{g:Int}{d:List Int}(h:PV t g d)(hd:d.length=t.rs.length)(hn:∀x∈d,0≤x){l:Lnk}(hl:l∈t.ls):PV t g (rlx t d l):=by
 have c1:=eE.mp ((ax hc).lr l hl).1;exact PV.rlx1 hc (PV.rlx1 hc h hd hn ⟨l,hl,.inl ⟨rfl,rfl,rfl⟩⟩) (by rw[iQ];exact hd) (mj hn c1) ⟨l,hl,.inr ⟨rfl,rfl,rfl⟩⟩
theorem sO{g:Int}:∀{ls:List Lnk} {d:List Int},d.length=t.rs.length→(∀x∈d,0≤x)→PV t g d→(∀l∈ls,l∈t.ls) →
  (ls.foldl (rlx t) d).length=t.rs.length∧(∀x∈ls.foldl (rlx t) d,0≤x)∧PV t g (ls.foldl (rlx t) d)∧(∀u,aJ t u=true→at6 t (ls.foldl (rlx t) d) u≤at6 t d u) ∧
  ∀l∈ls,(at6 t d l.b<jd→at6 t (ls.foldl (rlx t) d) l.a≤at6 t d l.b+l.ca)∧(at6 t d l.a<jd→at6 t (ls.foldl (rlx t) d) l.b≤at6 t d l.a+l.cb)
 | [],d,hd,hn,hp,_=>⟨hd,hn,hp,λu _=>bC' _,λl hl=>by cases hl⟩
 | l::ls,d,hd,hn,hp,hs=>by
  have hl:=hs l (by simp);obtain⟨a1,a2,a3⟩:=Jj hc hd hn hl;obtain⟨b1,b2,b3,b4,b5⟩:=sO (g:=g) (ls:=ls) (d:=rlx t d l) (by rw[xW];exact hd) (C3 hn (qC hc l hl)) (PV.rlx hc hp hd hn hl) λm hm=>hs m (bb' _ hm);rw[aN'];refine⟨b1,b2,b3,λu hu=>Int.le_trans (b4 u hu) (a1 u hu),λm hm=>?_⟩
  rcases ah'.mp hm with rfl|hm'
  ·obtain⟨ha,hb⟩:=(ax hc).has m hl;exact⟨λh=>Int.le_trans (b4 _ ha) (a2 h),λh=>Int.le_trans (b4 _ hb) (a3 h)⟩
  ·obtain⟨ha,hb⟩:=(ax hc).has m (hs m hm);have h1:=a1 _ ha;have h2:=a1 _ hb;exact⟨λh=>by have:=(b5 m hm').1 (by omega);omega,λh=>by have:=(b5 m hm').2 (by omega);omega⟩
theorem xp{g:Int}(hg:aJ t g=true):∀k:Nat,(jN t k (to0 t g)).length=t.rs.length∧(∀x∈jN t k (to0 t g),0≤x)∧PV t g (jN t k (to0 t g))∧∀j u n,j≤k→Pth t g j u n→n<jd→at6 t (jN t k (to0 t g)) u≤n
 | 0=>by
  have e:∀u,aJ t u=true→at6 t (to0 t g) u=if u=g then 0 else jd:=λu hu=>by
   rw[la hu];obtain⟨r,hr,rfl⟩:=fc.mp hu;obtain⟨i,hi⟩:=ac'.mp hr;rw[uG hc hi,to0,H',I',hi];simp[isR,jd]
  refine⟨by simp[jN,to0],λx hx=>?_,λu hu=>?_,λj u n hj p hn=>?_⟩
  ·obtain⟨y,_,rfl⟩:=aa'.mp hx;split<;>omega
  ·rw[jN,e u hu]
   split
   ·rename_i q;subst q;exact⟨by decide,λ_=>⟨0,.nil⟩⟩
   ·exact⟨bC' _,λh=>by omega⟩
  ·obtain rfl:j=0:=by omega
   cases p;rw[jN,e g hg,F' rfl];exact bC' _
 | k+1=>by
  obtain⟨h1,h2,h3,h4⟩:=xp hg k;obtain⟨b1,b2,b3,b4,b5⟩:=sO hc (ls:=t.ls) h1 h2 h3 λl hl=>hl;refine⟨b1,b2,b3,λj u n hj p hn=>?_⟩;cases p with
  | nil=>exact Int.le_trans (b4 g hg) (h4 0 g 0 (by omega) .nil hn)
  | cons e q =>
   have hcs:=e.cost hc;have hw:=h4 _ _ _ (by omega) q (by omega)
   obtain⟨l,hl,⟨rfl,rfl,rfl⟩|⟨rfl,rfl,rfl⟩⟩:=e
   ·have:=(b5 l hl).1 (by omega);show at6 t (t.ls.foldl (rlx t) _) _≤_;omega
   ·have:=(b5 l hl).2 (by omega);show at6 t (t.ls.foldl (rlx t) _) _≤_;omega
theorem oU{g:Int}{D:Dis}(h:tT (inG t) g D):∀(N:Nat) {v n:Int},n.toNat≤N→(v,n)∈D→∃k,k≤(D.filter λp=>decide (p.2<n)).length∧Pth t g k v n
 | N,v,n,hN,hx=>by
  by_cases e:v=g
  ·subst e;have:=gE h.nd hx h.src;subst this;exact⟨0,am' _,.nil⟩
  ·obtain⟨⟨u,m⟩,hq,s,hs,h1,h2⟩:=h.tgt _ hx e;simp only at h1 h2 hs;have he:=(nD hc).mp hs;have hcs:=he.cost hc;have hp:=(h.pos _ hq).1;have hp2:=(h.pos _ hx).1;simp only at hp hp2;subst h1;subst h2
   match N with
   | 0=>omega
   | N+1 =>
    obtain⟨k,hk,p⟩:=oU h N (by omega) hq;refine⟨k+1,?_,.cons he p⟩;have:=oV (l:=D) (x:=(u,m)) (p:=λp=>decide (p.2<m)) (q:=λp=>decide (p.2<m+s.cost)) (λy hy=>by rw[decide_eq_true_eq]at hy ⊢;omega) hq (decide_eq_false (by simp)) (decide_eq_true (by simp;omega));omega
theorem zi{g:Int}(hg:aJ t g=true):(cF (inG t) g).length≤t.rs.length:=by
 have h:=eD (lS hc) (f:=g) (by unfold inG;rw[bf,bz];exact hg);have:=List.Nodup.length_le_of_subset h.nd h.ke;rw[cH,cH,inG,u']at this;exact this
theorem IA{g:Int}(hg:aJ t g=true)(u:Int):at6 t (to6 t g) u=if aT (cF (inG t) g) u=true then av (cF (inG t) g) u 0 else jd:=by
 have h:=eD (lS hc) (f:=g) (by unfold inG;rw[bf,bz];exact hg);have hlen:=zi hc hg;have hR:=(ax hc).nr;obtain⟨r1,r2,r3,r4⟩:=xp hc hg t.rs.length
 change PV t g (to6 t g)at r3
 change ∀j u n,j≤t.rs.length→Pth t g j u n→n<jd→at6 t (to6 t g) u≤n at r4
 have hk:∀x,x∈ap (inG t)↔aJ t x=true:=λx=>by unfold inG;rw[bf,bz]
 by_cases hu:aJ t u=true
 ·by_cases hm:aT (cF (inG t) g) u=true
  ·rw[F' hm];have hx:=bF (z:=(0:Int)) hm;generalize av (cF (inG t) g) u 0=m at hx ⊢;obtain⟨k,hk1,p⟩:=oU hc h _ (X' _) hx;have hle:=bU' (λp:Int×Int=>decide (p.2<m)) (cF (inG t) g);have hb:=(h.pos _ hx).2;simp only at hb;have hup:=r4 k u m (by omega) p (by unfold jd;omega);obtain⟨k',p'⟩:=(r3 u hu).2 (by unfold jd;omega);have:=((nE hc hg).mp hx).2 _ _ p';omega
  ·rw[E' hm];refine U' λq=>?_;obtain⟨k',p'⟩:=(r3 u hu).2 (by have:=(r3 u hu).1;omega);obtain⟨m,_,hx⟩:=h.low ((kO hc).mpr ⟨k',p'⟩);exact hm (bW.mpr ⟨m,hx⟩)
 ·have e:at6 t (to6 t g) u=jd:=by unfold at6;rw[E' hu];rfl
  rw[e,E'];intro q;obtain⟨v,hv⟩:=bW.mp q;exact hu ((hk u).mp (h.ke _ (aP.mpr ⟨v,hv⟩)))
end
section
variable {t : Tpl} (hc : aC t = 0)
include hc
theorem zh{g:Int}(hg:aJ t g=true){x m:Int}(h:(x,m)∈cF (inG t) g):0≤m∧m≤24000:=by
 have hf:=eD (lS hc) (f:=g) (by unfold inG;rw[bf,bz];exact hg);have:=hf.pos _ h;have hl:=zi hc hg;have:=(ax hc).nr;simp only at *;omega
theorem JA:yq (da t):=by
 have hk:=uQ hc;have e:ap (da t)=t.rs.map (·.id):=by unfold da;rw[bf]
 refine⟨hk.len,hk.nd,λx hx=>?_,λp hp=>?_⟩
 ·rw[e]at hx;obtain⟨r,hr,rfl⟩:=aa'.mp hx;have:=(ax hc).rg r hr;omega
 ·have hm:av (da t) p.1 []=p.2:=dC hk.nd hp;refine⟨?_,λs hs=>hk.to p.1 s (by rw[hm];exact hs)⟩;rw[←hm,yd hc,(jt _).length_eq];exact(ye hc _).1
theorem nZ{g:Int}(hg:aJ t g=false):cF (inG t) g=[]:=by
 unfold cF;rw[E'];unfold aT;rw[R'];unfold inG;rw[bf,bz,hg];simp
end
theorem fE{t:Tpl}{r:Int}:hs5 t r=true↔aC t=0∧aJ t r=true:=by unfold hs5;rw[ae',aV']
theorem Bh{t:Tpl}{f:Int}(hf:aJ t f=false):cF (da t) f=[]:=by
 unfold cF;rw[E'];unfold aT;rw[R'];unfold da;rw[bf,bz,hf];simp
def nex6(t:Tpl)(f g:Int):List Int:=if hs5 t f=false∨hs5 t g=false then []else eW t (to6 t g) f
def aX(t:Tpl)(f g:Int):Int×Bool:=if hs5 t f=false∨hs5 t g=false then(0,false)else if at6 t (to6 t g) f=1073741824 then(0,false)else(at6 t (to6 t g) f,true)
theorem ws{t:Tpl}(hc:aC t=0)(f g:Int):aX t f g=if aT (cF (inG t) g) f=true then(av (cF (inG t) g) f 0,true)else(0,false):=by
 unfold aX
 by_cases hg:aJ t g=true
 ·by_cases hf:aJ t f=true
  ·rw[E' (by rw[fE.mpr ⟨hc,hf⟩,fE.mpr ⟨hc,hg⟩];simp),IA hc hg f]
   by_cases h:aT (cF (inG t) g) f=true
   ·have:=zh hc hg (bF (z:=(0:Int)) h);rw[F' h,F' h,E' (by omega)]
   ·rw[E' h,E' h,F' (show jd=1073741824 from rfl)]
  ·have e:hs5 t f=false:=by rw[Bool.eq_false_iff];exact λq=>hf (fE.mp q).2
   rw[F' (.inl e),E'];intro q;obtain⟨v,hv⟩:=bW.mp q;have h:=eD (lS hc) (f:=g) (by unfold inG;rw[bf,bz];exact hg);have:=h.ke _ (aP.mpr ⟨v,hv⟩);unfold inG at this;rw[bf,bz]at this;exact hf this
 ·have e:hs5 t g=false:=by rw[Bool.eq_false_iff];exact λq=>hg (fE.mp q).2
  rw[F' (.inr e),nZ hc (by simpa using hg)];rfl
theorem zx{t:Tpl}(hc:aC t=0)(f g:Int):aX t f g=if aT (cF (da t) f) g=true then(av (cF (da t) f) g 0,true)else(0,false):=by
 rw[ws hc]
 by_cases hf:aJ t f=true
 ·by_cases hg:aJ t g=true
  ·have key:∀m,(f,m)∈cF (inG t) g↔(g,m)∈cF (da t) f:=λm=>by rw[nE hc hg,A3 hc hf]
   have hF:=eD (lS hc) (f:=g) (by unfold inG;rw[bf,bz];exact hg)
   by_cases h:aT (cF (inG t) g) f=true
   ·have hm:=bF (z:=(0:Int)) h;have h2:=(key _).mp hm;have h3:aT (cF (da t) f) g=true:=bW.mpr ⟨_,h2⟩;have h4:=(key _).mpr (bF (z:=(0:Int)) h3);rw[F' h,F' h3,gE hF.nd hm h4]
   ·have h3:¬aT (cF (da t) f) g=true:=λq=>by
     obtain⟨v,hv⟩:=bW.mp q;exact h (bW.mpr ⟨v,(key v).mpr hv⟩)
    rw[E' h,E' h3]
  ·rw[nZ hc (by simpa using hg)];have h3:¬aT (cF (da t) f) g=true:=λq=>by
    obtain⟨v,hv⟩:=bW.mp q;have h:=eD (uQ hc) (f:=f) (by unfold da;rw[bf,bz];exact hf);have:=h.ke _ (aP.mpr ⟨v,hv⟩);unfold da at this;rw[bf,bz]at this;exact hg this
   rw[E' h3];rfl
 ·rw[Bh (by simpa using hf)];have h3:¬aT (cF (inG t) g) f=true:=λq=>by
   obtain⟨v,hv⟩:=bW.mp q
   by_cases hg:aJ t g=true
   ·have h:=eD (lS hc) (f:=g) (by unfold inG;rw[bf,bz];exact hg);have:=h.ke _ (aP.mpr ⟨v,hv⟩);unfold inG at this;rw[bf,bz]at this;exact hf this
   ·rw[nZ hc (by simpa using hg)]at hv;cases hv
  rw[E' h3];rfl
structure Edg where
  router:Int
  id:Int
  deriving DecidableEq
structure Pln where
  sub:Int
  len:Int
  es:List Edg
  deriving DecidableEq
def Edg.v(x:Edg):AV:=.agg [.int x.router,.int x.id]
def Pln.v(x:Pln):AV:=.agg [.int x.sub,.int x.len,.sl 2 (x.es.map Edg.v) false]
theorem iS{es:List AV}(h:bv es=true):dB [es]=true:=by rw[dB,h];rfl
theorem aM.find{α:Type}{l:List α}{t:Int}{x:α}{p:α→Bool}(h:aM l (λy=>p y=false) t)(hx:l[t.toNat]?=some x)(hp:p x=true):l.find? p=some x:=by
 obtain⟨k,rfl,hk,ha⟩:=h;rw[Int.toNat_natCast]at hx;rw[cc'];have hlt:=am hx;refine⟨hp,k,hlt,by rw[f' hlt]at hx;exact Z' hx,λj hj=>?_⟩;rw[ha _ (aD'.mpr ⟨j,by omega,rfl⟩)];rfl
theorem aM.nofind{α:Type}{l:List α}{t:Int}{p:α→Bool}(h:aM l (λy=>p y=false) t)(c:¬t<l.length):l.find? p=none:=by
 rw[bR'];exact λx hx=>by rw[h.done c x hx];simp
def inP(n a b:Int):Bool:=decide (a≤n) && decide (n≤b)
theorem EG{n a b:Int}:(!inP n a b)=true↔¬(a≤n∧n≤b):=by
 unfold inP;by_cases h1:a≤n<;>by_cases h2:n≤b<;>simp[h1,h2]
theorem nF{n a b:Int}:(!inP n a b)=false↔a≤n∧n≤b:=by
 unfold inP;by_cases h1:a≤n<;>by_cases h2:n≤b<;>simp[h1,h2]
def db(n:Int):Bool:=decide (n=8∨n=16∨n=32∨n=64)
def xe(r:Bool):AV:=.bool r
def pk(n:Int):Ax Tryz.prog noS (Bool):=
 (.br 64 (n==8) (.ret (true))
(.br 128 (n==16) (.ret (true))
(.br 192 (n==32) (.ret (true))
(.ret (n==64)))))
theorem Im(n:Int):(pk n).vp xe (db n):=by
 dsimp only[pk,noS,Ax.vp,Ax.vc];simp only[vcU,rfU,u']
 refine⟨λc=>?_,λc=>⟨λd=>?_,λd=>⟨λe=>?_,λe=>?_⟩⟩⟩
 ·rw[db,decide_eq_true (.inl (eq_of_beq c))]
 ·rw[db,decide_eq_true (.inr (.inl (eq_of_beq d)))]
 ·rw[db,decide_eq_true (.inr (.inr (.inl (eq_of_beq e))))]
 ·have c:¬n=8:=by simpa using c
  have d:¬n=16:=by simpa using d
  have e:¬n=32:=by simpa using e
  rw[db,ag',aV',decide_eq_true_eq];simp[c,d,e]
def xf(n:Int):PC Tryz.prog:=pcO 110 [.k] [.int n] .k xe (db n) (λ_=>⟨(pk n),Im n,by kernel_rfl⟩) rfl (by kernel_rfl)
def PP(y x:Edg):Bool:=y.router==x.router
def F4(e:Edg):Prop:=(1≤e.id∧e.id≤256)∧1≤e.router∧e.router≤99
instance (e:Edg):Decidable (F4 e):=by unfold F4;infer_instance
def pC(p:Pln):Prop:=(0≤p.sub∧p.sub≤7)∧(db p.len=true∨p.len=0∧p.es=[])∧p.es.length≤24
instance (p:Pln):Decidable (pC p):=by unfold pC;infer_instance
def uF(es:List Edg):Prop:=(∀e∈es,F4 e)∧(es.map Edg.router).Nodup∧(es.map Edg.id).Pairwise (·<·)
instance (es:List Edg):Decidable (uF es):=by unfold uF;infer_instance
def bZ(p:Pln):Bool:=decide (pC p) && decide (uF p.es)
def edgG(es:List Edg)(j:Nat)(e:Edg):Prop:=F4 e∧((es.take j).any λy=>PP y e)=false∧∀e',0<j→es[j-1]?=some e'→e'.id<e.id
theorem rJ{es:List Edg}:uF es↔∀j e,es[j]?=some e→edgG es j e:=by
 constructor
 ·rintro⟨h1,h2,h3⟩ j e he;have hj:=am he;rw[f' hj]at he;have he:=Z' he;rw[co',bL',at']at h2;rw[bL',at']at h3
  refine⟨h1 e (he ▸ aR' hj),?_,λe' h0 he'=>?_⟩
  ·rw[bK'];intro y hy;obtain⟨i,hi,rfl⟩:=cu' hy;have hi':i<j:=by simp at hi;omega
   rw[List.getElem_take];have:=h2 i j (by omega) hj hi';rw[he]at this;simpa[PP]using this
  ·rw[f' (by omega)]at he';have:=h3 (j-1) j (by omega) hj (by omega);rw[he,Z' he']at this;exact this
 ·intro h
  refine⟨λe he=>?_,?_,?_⟩
  ·obtain⟨j,hj⟩:=cl' he;exact(h j e hj).1
  ·rw[co',bL',at'];intro i j hi hj hij;have:=(h j _ (f' hj)).2.1;rw[bK']at this;have:=this es[i] (aD'.mpr ⟨i,by omega,rfl⟩);simpa[PP]using this
  ·rw[bL'];refine gu.done (l:=es) (R:=λa b=>a.id<b.id) (t:=((es.length+1:Nat):Int)) ⟨es.length+1,rfl,by omega,by omega,λj x y hj hx hy=>?_⟩ (by omega) λx y z q r=>bJ' q r;exact(h (j+1) y hy).2.2 x (by omega) (by simpa using hx)
abbrev rb:=db
def xc(r:Bool):AV:=.bool r
def pj(n:Int):Ax Tryz.prog noS (Bool):=
 (.br 64 (n==8) (.ret (true))
(.br 128 (n==16) (.ret (true))
(.br 192 (n==32) (.ret (true))
(.ret (n==64)))))
theorem Il(n:Int):(pj n).vp xc (rb n):=by
 dsimp only[pj,noS,Ax.vp,Ax.vc];simp only[vcU,rfU,u']
 refine⟨λc=>?_,λc=>⟨λd=>?_,λd=>⟨λe=>?_,λe=>?_⟩⟩⟩
 ·rw[rb,db,decide_eq_true (.inl (eq_of_beq c))]
 ·rw[rb,db,decide_eq_true (.inr (.inl (eq_of_beq d)))]
 ·rw[rb,db,decide_eq_true (.inr (.inr (.inl (eq_of_beq e))))]
 ·have c:¬n=8:=by simpa using c
  have d:¬n=16:=by simpa using d
  have e:¬n=32:=by simpa using e
  rw[rb,db,ag',aV',decide_eq_true_eq];simp[c,d,e]
def xd(n:Int):PC Tryz.prog:=pcO 86 [.k] [.int n] .k xc (db n) (λ_=>⟨(pj n),Il n,by kernel_rfl⟩) rfl (by kernel_rfl)
abbrev insR:=inP
def E7(r:Bool):AV:=.bool r
def vH(n:Int)(low:Int)(high:Int):Ax Tryz.prog noS (Bool):=
 (.br 80 (decide (low≤n)) (.ret (decide (n≤high)))
(.ret (false)))
theorem Po(n a b:Int):(vH n a b).vp E7 (insR n a b):=by
 dsimp only[vH,noS,Ax.vp,Ax.vc];simp only[vcU,rfU,u'];refine⟨λc=>?_,λc=>?_⟩<;>simp[insR,inP,c]
def vI(n:Int)(low:Int)(high:Int):PC Tryz.prog:=pcO 85 [.k,.k,.k] [.int n,.int low,.int high] .k E7 (inP n low high) (λ_=>⟨(vH n low high),Po n low high,by kernel_rfl⟩) rfl (by kernel_rfl)
def repR(l:List Int):Bool:=!decide l.Nodup
theorem xr{α:Type}{l:List α}{k:Nat}{y:α}(hy:l[k]?=some y):(l.take (k+1)).Nodup↔(l.take k).Nodup∧∀x∈l.take k,x≠y:=by
 rw[aB hy,bg'];simp
def CC(l:List Int):=okL [.sl 1 (l.map AV.int) false]
def Jp(l:List Int)(t0:Int):NF:=⟨[(0,.k,.sl 1 (l.map AV.int) false),rI 3 t0],[]⟩
def Jo(l:List Int)(t0:Int)(t1:Int):NF:=⟨[(0,.k,.sl 1 (l.map AV.int) false),rI 3 t0,rI 4 t1],[]⟩
@[reducible] def CA:Nat→Type
 | 0=>Int
 | 1=>Int
 | _=>Unit
def CB(r:Bool):AV:=.bool r
def C9(l:List Int)(I0:Int→Prop)(m0:Int→Nat)(I1:Int→Int→Prop)(m1:Int→Int→Nat):Ax Tryz.prog CA (Bool):=
 (.loop 0 (Jp l) I0 m0 ((0):Int) [] λ(t0:Int) b0 =>
(.br 64 (decide (t0<((l.map AV.int).length:Int))) (.loop 1 (Jo l t0) (I1 t0) (m1 t0) ((0):Int) [] λ(t1:Int) b1 =>
(.br 48 (decide (t1<t0)) (.elI 80 AV.int l t0 λx1 =>
(.elI 144 AV.int l t1 λx2 =>
(.br 192 (x1==x2) (.ret (true))
(.bk 1 b1 ((W (t1+1)):Int) []))))
(.bk 0 b0 ((W (t0+1)):Int) [])))
(.ret (false))))
theorem Ov(l:List Int)(ok:CC l):∃I0 m0 I1 m1,(C9 l I0 m0 I1 m1).vp CB (repR l):=by
 refine⟨λt=>∃k:Nat,t=k∧k≤l.length∧(l.take k).Nodup,λt=>l.length-t.toNat,λs t=>∃j:Nat,t=j∧t≤s∧∀y,l[s.toNat]?=some y→∀x∈l.take j,x≠y,λs t=>s.toNat-t.toNat,?_⟩;simp only[CC,okU,Blk.ok,az,u']at ok;dsimp only[C9,CA,Ax.vp,Ax.vc];simp only[vcU,rfU,u'];refine⟨⟨0,rfl,by omega,by simp⟩,?_⟩;rintro _ ⟨k,rfl,hk,h⟩
 refine⟨λc=>⟨⟨0,rfl,by omega,by simp⟩,?_⟩,λc=>?_⟩
 ·rintro _ ⟨j,rfl,hj,g⟩;have hy:=f' (show k<l.length by omega);simp only[Int.toNat_natCast]at g ⊢
  refine⟨λd=>⟨by omega,by omega,λy hy'=>⟨by omega,by omega,λx hx=>⟨λe=>?_,λe=>?_⟩⟩⟩,λd=>?_⟩
  ·have e:=eq_of_beq e;have:¬l.Nodup:=λq=>by
    have:=(xr hy').mp (q.sublist (List.take_sublist _ _));exact this.2 x (aD'.mpr ⟨j,by omega,by rw[f' (by omega)]at hx;exact Z' hx⟩) e.symm
   rw[repR,decide_eq_false this];rfl
  ·rw[aQ (n:=l.length) (by omega) (by omega)];refine⟨⟨j+1,rfl,by omega,λz hz w hw=>?_⟩,by omega⟩;rw[aB hx]at hw
   rcases ab'.mp hw with hw|hw
   ·exact g z hz w hw
   ·rw[L']at hw;rw[hy']at hz;cases hz;subst hw;exact λq=>by rw[q]at e;simp at e
  ·have:j=k:=by omega
   subst this;rw[aQ (n:=l.length) (by omega) (by omega)];exact⟨⟨j+1,rfl,by omega,(xr hy).mpr ⟨h,g _ hy⟩⟩,by omega⟩
 ·rw[V' (by omega)]at h;rw[repR,decide_eq_true h];rfl
def Ow(l:List Int):PC Tryz.prog:=pcO 87 [(.s 1)] [.sl 1 (l.map AV.int) false] .k CB (repR l) (λok=>let ⟨I0,m0,I1,m1,h⟩:=Ov l ok;⟨_,h,by kernel_rfl⟩) rfl (by kernel_rfl)
def wZ(p:Pln):=okL [Pln.v p]
def B7(p:Pln)(t0:Bool):NF:=⟨[rR 1 0,rB 32 t0],[.box (Pln.v p)]⟩
def B6(p:Pln)(t1:Int×List Int):NF:=⟨[rR 1 0,rV 3 1,rI 4 t1.1],[.box (Pln.v p),vB 1 AV.int t1.2 (λ_=>rfl)]⟩
def B5(p:Pln)(t1:Int×List Int)(x1:Edg)(t2:Bool):NF:=⟨[rR 1 0,rV 3 1,rI 4 t1.1,rR 5 2,rB 70 t2],[.box (Pln.v p),vB 1 AV.int t1.2 (λ_=>rfl),.box (Edg.v x1)]⟩
@[reducible] def wW:Nat→Type
 | 0=>Bool
 | 1=>Int×List Int
 | 2=>Bool
 | _=>Unit
def wX(r:Bool):AV:=.bool r
def wV(p:Pln)(I0:Bool→Prop)(I1:Bool→(Int×List Int)→Prop)(m1:Bool→(Int×List Int)→Nat)(I2:Bool→Int×List Int→Edg→Bool→Prop):Ax Tryz.prog wW (Bool):=
 (.pass (.pass (.join 0 (B7 p) (λ(t0:Bool)=>I0 t0) (λb0=>(.callP (vI p.sub 0 7)
(.br 112 (!(inP p.sub 0 7)) (.bk 0 b0 ((true):Bool) [0])
(.callP (xd p.len)
(.br 192 (!(db p.len)) (.br 256 (p.len != 0) (.bk 0 b0 ((true):Bool) [0])
(.br 384 (decide (0<((p.es.map Edg.v).length:Int))) (.bk 0 b0 ((true):Bool) [0])
(.bk 0 b0 ((decide (24<((p.es.map Edg.v).length:Int))):Bool) [0])))
(.bk 0 b0 ((decide (24<((p.es.map Edg.v).length:Int))):Bool) [0])))))) λ(t0:Bool) =>
(.br 1 t0 (.ret (false))
(.cmdL (.nilT 3 1) (.loop 1 (B6 p) (I1 t0) (m1 t0) (0,[]) [0,33] λ(t1:Int×List Int) b1 =>
(.br 82 (decide (t1.1<((p.es.map Edg.v).length:Int))) (.elI 130 Edg.v p.es t1.1 λx1 =>
(.pass (.join 2 (B5 p t1 x1) (λ(t2:Bool)=>I2 t0 t1 x1 t2) (λb2=>(.callP (vI x1.id 1 256)
(.br 274 (!(inP x1.id 1 256)) (.bk 2 b2 ((true):Bool) [0,1,162])
(.callP (vI x1.router 1 99)
(.br 370 (!(inP x1.router 1 99)) (.bk 2 b2 ((true):Bool) [0,1,162])
(.br 418 (decide (0<t1.1)) (.elI 482 Edg.v p.es (W (t1.1-1)) λx2 =>
(.bk 2 b2 ((decide (x1.id≤x2.id)):Bool) [0,1,162]))
(.bk 2 b2 ((false):Bool) [0,1,162]))))))) λ(t2:Bool) =>
(.br 3 t2 (.ret (false))
(.apX 67 AV.int t1.2 [x1.router] (t1.2.length+1)
(.bk 1 b1 (W (t1.1+1),t1.2++[x1.router]) [0,67]))))))
(.callP (Ow t1.2)
(.say (ck (dB [(t1.2.map AV.int)])) (.ret (!(repR t1.2))))))))))))
def KZ(es:List Edg)(j:Nat)(e:Edg):Prop:=F4 e∧∀e',0<j→es[j-1]?=some e'→e'.id<e.id
theorem oH{es:List Edg}:uF es↔(∀j e,es[j]?=some e→KZ es j e)∧(es.map Edg.router).Nodup:=by
 constructor
 ·exact λh=>⟨λj e he=>⟨(rJ.mp h j e he).1,(rJ.mp h j e he).2.2⟩,h.2.1⟩
 ·intro h
  refine⟨λe he=>?_,h.2,?_⟩
  ·obtain⟨j,hj⟩:=cl' he;exact(h.1 j e hj).1
  ·rw[bL'];refine gu.done (l:=es) (R:=λa b=>a.id<b.id) (t:=((es.length+1:Nat):Int)) ⟨es.length+1,rfl,by omega,by omega,λj x y hj hx hy=>?_⟩ (by omega) λx y z q r=>bJ' q r;exact(h.1 (j+1) y hy).2 x (by omega) (by simpa using hx)
theorem Ik(p:Pln)(ok:wZ p):∃I0 I1 m1 I2,(wV p I0 I1 m1 I2).vp wX (bZ p):=by
 refine⟨λb=>b=decide (¬pC p),λ_ t=>dY p.es (λe=>[e.router]) t.1 t.2∧∃k:Nat,t.1=k∧∀j e,j<k→p.es[j]?=some e→KZ p.es j e,λ_ t=>p.es.length-t.1.toNat,λ_ t x b=>b=true↔¬KZ p.es t.1.toNat x,?_⟩;simp only[wZ,Pln.v,okU,Blk.ok,az,u']at ok;dsimp only[wV,wW,Ax.vp,Ax.vc];simp only[vcU,rfU,u'];have hes:p.es=[]↔¬0<(p.es.length:Int):=by rw[←bh'];omega
 refine⟨⟨λc=>?_,λc=>⟨λd=>⟨λe=>?_,λe=>⟨λg=>?_,λg=>?_⟩⟩,λd=>?_⟩⟩,?_⟩
 ·have c:¬(0≤p.sub∧p.sub≤7):=EG.mp c;exact(decide_eq_true (show ¬pC p from λq=>c q.1)).symm
 ·have d:db p.len=false:=by simpa using d
  have e:p.len≠0:=by simpa using e
  exact(decide_eq_true (show ¬pC p from λq=>by
   rcases q.2.1 with r|r
   ·rw[d]at r;cases r
   ·exact e r.1)).symm
 ·have d:db p.len=false:=by simpa using d
  exact(decide_eq_true (show ¬pC p from λq=>by
   rcases q.2.1 with r|r
   ·rw[d]at r;cases r
   ·exact hes.mp r.2 g)).symm
 ·have c:0≤p.sub∧p.sub≤7:=nF.mp c;have e:p.len=0:=by simpa using e
  rw[decide_eq_decide];unfold pC;rw[and_iff_right c,and_iff_right (.inr ⟨e,hes.mpr g⟩)];omega
 ·have c:0≤p.sub∧p.sub≤7:=nF.mp c;have d:db p.len=true:=by simpa using d
  rw[decide_eq_decide];unfold pC;rw[and_iff_right c,and_iff_right (.inl d)];omega
 rintro _ rfl
 refine⟨λc=>?_,λc=>⟨⟨dY.zero,0,rfl,λj e h=>by omega⟩,?_⟩⟩
 ·rw[bZ,decide_eq_false (G' c)];rfl
 have c:=bf'.mp (S' c);have hl:=c.2.2;rintro⟨i,out⟩ ⟨hx0,k,hi,h⟩;simp only at hi hx0 ⊢;have hlen:=hx0.len (b:=1) (by simp);have h0:=hx0.idx
 refine⟨λd=>⟨h0,d,λx hx=>⟨?_,?_⟩⟩,λd=>?_⟩
 ·refine⟨λe1=>?_,λe1=>⟨λe2=>?_,λe2=>⟨λe4=>?_,λe4=>?_⟩⟩⟩
  ·have e1:¬(1≤x.id∧x.id≤256):=EG.mp e1;exact iff_of_true trivial λq=>e1 q.1.1
  ·have e2:¬(1≤x.router∧x.router≤99):=EG.mp e2;exact iff_of_true trivial λq=>e2 q.1.2
  ·have e1:1≤x.id∧x.id≤256:=nF.mp e1;have e2:1≤x.router∧x.router≤99:=nF.mp e2;subst hi;rw[ka (by omega) (by omega)];refine⟨by omega,by omega,λy hy=>?_⟩;rw[Int.toNat_natCast]at hy;simp only[Int.toNat_natCast,decide_eq_true_eq]
   constructor
   ·exact λq r=>by have:=r.2 y (by omega) hy;omega
   ·intro q;refine U' λr=>q ⟨⟨e1,e2⟩,λy' _ hy'=>?_⟩;rw[hy]at hy';cases hy';omega
  ·have e1:1≤x.id∧x.id≤256:=nF.mp e1;have e2:1≤x.router∧x.router≤99:=nF.mp e2;exact iff_of_false Bool.false_ne_true λq=>q ⟨⟨e1,e2⟩,λy' h0 _=>by omega⟩
 ·intro b hb
  refine⟨λe=>?_,λe=>?_⟩
  ·have:¬uF p.es:=λq=>hb.mp e ((oH.mp q).1 i.toNat x hx);rw[bZ,decide_eq_false this,Bool.and_false]
  ·have hg:KZ p.es i.toNat x:=bf'.mp λq=>by rw[hb.mpr q]at e;cases e
   obtain⟨a1,a2⟩:=hx0.step (out':=out++[x.router]) (by omega) hx rfl
   refine⟨by omega,⟨a1,k+1,?_,λj y hj hy=>?_⟩,a2⟩
   ·rw[eF (by omega)];omega
   ·by_cases e':j=k
    ·subst e';subst hi;rw[Int.toNat_natCast]at hx hg;rw[hx]at hy;cases hy;exact hg
    ·exact h j y (by omega) hy
 ·have hd:=hx0.done d;rw[sQ]at hd;have:uF p.es↔(p.es.map Edg.router).Nodup:=by
   rw[oH];exact⟨λq=>q.2,λq=>⟨λj e he=>h j e (by have:=am he;omega) he,q⟩⟩
  refine⟨iS (ae (λ_=>rfl) _),?_⟩;rw[bZ,decide_eq_true c,decide_eq_decide.mpr this,hd,repR,Bool.not_not];rfl
def wY(p:Pln):PC Tryz.prog:=pcO 43 [(.a [.k,.k,(.s 2)])] [Pln.v p] .k wX (bZ p) (λok=>let ⟨I0,I1,m1,I2,h⟩:=Ik p ok;⟨_,h,by kernel_rfl⟩) rfl (by kernel_rfl)
def FT(x:Int)(n:Int):=okL [.int x,.int n]
def FS(r:Int):AV:=.int r
def wk(x:Int)(n:Int):Ax Tryz.prog noS (Int):=
 (.br 48 (decide (n<1)) (.ret (0))
(.say (ck (!(n==0))) (.br 144 (decide ((x.tmod n)<0)) (.ret (W ((x.tmod n)+n)))
(.ret (x.tmod n)))))
theorem Qg(x n:Int)(ok:FT x n):(wk x n).vp FS (Mod x n):=by
 simp only[FT,okU,Blk.ok,az,u']at ok;dsimp only[wk,noS,Ax.vp,Ax.vc];simp only[vcU,rfU,u'];refine⟨λh=>by rw[Mod,F' h],λh=>⟨by simp;omega,λh2=>?_,λh2=>by rw[Mod,E' h,E' h2]⟩⟩;have hb:=Int.tmod_lt_of_pos x (show 0<n by omega);have hb':=Int.lt_tmod_of_pos x (show 0<n by omega);rw[Mod,E' h,F' h2,eF (by omega)]
def Qh(x:Int)(n:Int):PC Tryz.prog:=pcO 83 [.k,.k] [.int x,.int n] .k FS (Mod x n) (λok=>⟨(wk x n),Qg x n ok,by kernel_rfl⟩) rfl (by kernel_rfl)
def CP(L:List Int)(p:Int):=okL [.ref 0 0]∧(.box (.agg [.sl 1 (L.map AV.int) false,.int p]):Blk).ok
def uB(r:qQ×Int):AV:=.int r.2
def p9(r:qQ×Int):List (Option Blk):=[some (.box (qQ.v r.1))]
def p8(L:List Int)(p:Int):Ax Tryz.prog noS (qQ×Int):=
 (.br 177 (decide (((L.map AV.int).length:Int)≤p)) (.retH ((⟨L,p⟩:qQ),0) ⟨[rI 2 0],[.box (.agg [.sl 1 (L.map AV.int) false,.int p])]⟩ [0])
(.elI 449 AV.int L (W ((W (p+1))-1)) λx1 =>
(.retH ((⟨L,W (p+1)⟩:qQ),x1) ⟨[rI 2 x1],[.box (.agg [.sl 1 (L.map AV.int) false,.int (W (p+1))])]⟩ [0])))
theorem Jv(L:List Int)(p:Int)(r0:qQ×Int)(h:(p8 L p).vc uB p9 r0):aF Tryz.prog 84 [.ref 0 0] [.box (.agg [.sl 1 (L.map AV.int) false,.int p])] (uB r0) (p9 r0):=D8 (sh:=.k) (hB:=p9) (a:=(p8 L p).an) h (by kernel_rfl)
theorem O0(L:List Int)(p:Nat)(ok:CP L p):(p8 L p).vc uB p9 (⟨L,ab L p⟩,al L p):=by
 simp only[CP,okU,Blk.ok,az,u']at ok;dsimp only[p8,noS,Ax.vp,Ax.vc];simp only[vcU,rfU,u']
 refine⟨λh=>?_,λh=>?_⟩
 ·rw[ab,F' (by omega)];simp[al,af' (show L.length≤p by omega)]
 ·have e1:W ((p:Int)+1)=p+1:=eF (by omega);have e2:W ((p:Int)+1-1)=p:=by rw[eF (by omega)];omega
  rw[e1,e2];refine⟨by omega,by omega,λx hx=>?_⟩;rw[Int.toNat_natCast]at hx;rw[ab,E' (by omega)];simp[al,hx]
theorem As(L:List Int)(p:Nat):aF Tryz.prog 84 [.ref 0 0] [.box (Tap.v ⟨L,p⟩)] (.int (al L p)) [some (.box (Tap.v ⟨L,ab L p⟩))]:=
 aF.of_okh λok ok2=>Jv L p _ (O0 L p ⟨ok,ok2 _ (L'.mpr rfl)⟩)
def O1(L:List Int)(p:Nat):HC Tryz.prog:=⟨84,[],[.ref 0 0],[.box (Tap.v ⟨L,p⟩)],.int (al L p),[some (.box (Tap.v ⟨L,ab L p⟩))],As L p,bx (by kernel_rfl),qT.of rfl⟩
def vj(r:Tap×Int):AV:=.int r.2
def vk(r:Tap×Int):List (Option Blk):=[some (.box (Tap.v r.1))]
def vh(L:List Int)(p:Nat)(n:Int):Ax Tryz.prog noS (Tap×Int):=
 (.callH [0] (O1 L p) 33
(.callP (Qh (al L p) n)
(.retH ((⟨L,ab L p⟩:Tap),Mod (al L p) n) ⟨[rI 4 (Mod (al L p) n)],[.box (.agg [.sl 1 (L.map AV.int) false,.int (ab L p)])]⟩ [0])))
theorem OK(L:List Int)(p:Nat)(n:Int):(vh L p n).vc vj vk (⟨L,ab L p⟩,Mod (al L p) n):=by
 dsimp only[vh,noS,Ax.vp,Ax.vc];simp only[vcU,rfU,u']
def bB(L:List Int)(p:Nat)(n:Int):HC Tryz.prog:=hcO 41 [.k,.k] [.ref 0 0,.int n] [.box (.agg [.sl 1 (L.map AV.int) false,.int p])] .k vj vk ((⟨L,ab L p⟩,Mod (al L p) n):Tap×Int) (λ_ _=>⟨(vh L p n),OK L p n,by kernel_rfl⟩) (by kernel_rfl) (by simp[hcB,cC,AV.belB,allB,ez,dv,vj,vk,Tap.v,ae (v:=AV.int) (λ_=>rfl)])
def uw(r:Tap×Int):AV:=.int r.2
def ux(r:Tap×Int):List (Option Blk):=[some (.box (Tap.v r.1))]
def uv(L:List Int)(p:Nat)(low:Int)(high:Int):Ax Tryz.prog noS (Tap×Int):=
 (.callH [0] (bB L p (W ((W (high-low))+1))) 113
(.retH ((⟨L,ab L p⟩:Tap),W (low+(Mod (al L p) (W ((W (high-low))+1))))) ⟨[rI 6 (W (low+(Mod (al L p) (W ((W (high-low))+1)))))],[.box (.agg [.sl 1 (L.map AV.int) false,.int (ab L p)])]⟩ [0]))
theorem Oo(L:List Int)(p:Nat)(lo hi:Int):(uv L p lo hi).vc uw ux (⟨L,ab L p⟩,rng L p lo hi):=by
 dsimp only[uv,noS,Ax.vp,Ax.vc];simp only[vcU,rfU,u'];rfl
def dX(L:List Int)(p:Nat)(low:Int)(high:Int):HC Tryz.prog:=hcO 20 [.k,.k,.k] [.ref 0 0,.int low,.int high] [.box (.agg [.sl 1 (L.map AV.int) false,.int p])] .k uw ux ((⟨L,ab L p⟩,rng L p low high):Tap×Int) (λ_ _=>⟨(uv L p low high),Oo L p low high,by kernel_rfl⟩) (by kernel_rfl) (by simp[hcB,cC,AV.belB,allB,ez,dv,uw,ux,Tap.v,ae (v:=AV.int) (λ_=>rfl)])
def uO(r:Tap×Int):AV:=.int r.2
def uP(r:Tap×Int):List (Option Blk):=[some (.box (Tap.v r.1))]
def uN(L:List Int)(p:Nat)(l:List Int):Ax Tryz.prog noS (Tap×Int):=
 (.callH [0] (bB L p ((l.map AV.int).length:Int)) 81
(.elI 97 AV.int l (Mod (al L p) ((l.map AV.int).length:Int)) λx1 =>
(.retH ((⟨L,ab L p⟩:Tap),x1) ⟨[rI 4 x1],[.box (.agg [.sl 1 (L.map AV.int) false,.int (ab L p)])]⟩ [0])))
theorem O5(L:List Int)(p:Nat)(l:List Int)(hl:l≠[]):(uN L p l).vc uO uP (⟨L,ab L p⟩,aR l (al L p)):=by
 have hl:0<l.length:=cr'.mpr hl;have hm:=dF (x:=al L p) (show 1≤(l.length:Int) by omega);dsimp only[uN,noS,Ax.vp,Ax.vc];simp only[vcU,rfU,u'];refine⟨by omega,by omega,λx hx=>?_⟩;rw[aR,H',hx];rfl
def ib(L:List Int)(p:Nat)(l:List Int)(hl:l≠[]):HC Tryz.prog:=hcO 79 [.k,(.s 1)] [.ref 0 0,.sl 1 (l.map AV.int) false] [.box (.agg [.sl 1 (L.map AV.int) false,.int p])] .k uO uP ((⟨L,ab L p⟩,aR l (al L p)):Tap×Int) (λ_ _=>⟨(uN L p l),O5 L p l hl,by kernel_rfl⟩) (by kernel_rfl) (by simp[hcB,cC,AV.belB,allB,ez,dv,uO,uP,Tap.v,ae (v:=AV.int) (λ_=>rfl)])
def dl(L:List Int)(p:Nat)(n:Int):Bool:=Mod (al L p) n==W (n-1)
def vd(r:Tap×Bool):AV:=.bool r.2
def ve(r:Tap×Bool):List (Option Blk):=[some (.box (Tap.v r.1))]
def vb(L:List Int)(p:Nat)(n:Int):Ax Tryz.prog noS (Tap×Bool):=
 (.callH [0] (bB L p n) 49
(.retH ((⟨L,ab L p⟩:Tap),(Mod (al L p) n)==(W (n-1))) ⟨[rB 4 ((Mod (al L p) n)==(W (n-1)))],[.box (.agg [.sl 1 (L.map AV.int) false,.int (ab L p)])]⟩ [0]))
theorem OG(L:List Int)(p:Nat)(n:Int):(vb L p n).vc vd ve (⟨L,ab L p⟩,dl L p n):=by
 dsimp only[vb,noS,Ax.vp,Ax.vc];simp only[vcU,rfU,u'];rfl
def fp(L:List Int)(p:Nat)(n:Int):HC Tryz.prog:=hcO 11 [.k,.k] [.ref 0 0,.int n] [.box (.agg [.sl 1 (L.map AV.int) false,.int p])] .k vd ve ((⟨L,ab L p⟩,dl L p n):Tap×Bool) (λ_ _=>⟨(vb L p n),OG L p n,by kernel_rfl⟩) (by kernel_rfl) (by simp[hcB,cC,AV.belB,allB,ez,dv,vd,ve,Tap.v,ae (v:=AV.int) (λ_=>rfl)])
def wldL:List Int:=[-1,0,1,7,8,23,24,31,32,63,64,99,100,255,256,257,1000,1001,1023,1024,1000000,1000001,1099511627776,9223372036854775807,-9223372036854775808]
def eJ(L:List Int)(p:Nat):Int:=aR wldL (al L p)
def tY(r:Tap×Int):AV:=.int r.2
def tZ(r:Tap×Int):List (Option Blk):=[some (.box (Tap.v r.1))]
def tX(L:List Int)(p:Nat):Ax Tryz.prog noS (Tap×Int):=
 (.req 49 ([-1,0,1,7,8,23,24,31,32,63,64,99,100,255,256,257,1000,1001,1023,1024,1000000,1000001,1099511627776,9223372036854775807,-9223372036854775808]≠[]) λh1 =>
(.callH [0] (ib L p [-1,0,1,7,8,23,24,31,32,63,64,99,100,255,256,257,1000,1001,1023,1024,1000000,1000001,1099511627776,9223372036854775807,-9223372036854775808] h1) 49
(.retH ((⟨L,ab L p⟩:Tap),aR [-1,0,1,7,8,23,24,31,32,63,64,99,100,255,256,257,1000,1001,1023,1024,1000000,1000001,1099511627776,9223372036854775807,-9223372036854775808] (al L p)) ⟨[rI 2 (aR [-1,0,1,7,8,23,24,31,32,63,64,99,100,255,256,257,1000,1001,1023,1024,1000000,1000001,1099511627776,9223372036854775807,-9223372036854775808] (al L p))],[.box (.agg [.sl 1 (L.map AV.int) false,.int (ab L p)])]⟩ [0])))
theorem NH(L:List Int)(p:Nat):(tX L p).vc tY tZ (⟨L,ab L p⟩,eJ L p):=by
 dsimp only[tX,noS,Ax.vp,Ax.vc];simp only[vcU,rfU,u'];exact⟨by simp,rfl⟩
def jL(L:List Int)(p:Nat):HC Tryz.prog:=hcO 42 [.k] [.ref 0 0] [.box (.agg [.sl 1 (L.map AV.int) false,.int p])] .k tY tZ ((⟨L,ab L p⟩,eJ L p):Tap×Int) (λ_ _=>⟨(tX L p),NH L p,by kernel_rfl⟩) (by kernel_rfl) (by simp[hcB,cC,AV.belB,allB,ez,dv,tY,tZ,Tap.v,ae (v:=AV.int) (λ_=>rfl)])
def lenL:List Int:=[8,8,16,32,64]
def eL(L:List Int)(p:Nat):Int:=aR lenL (al L p)
def vA(r:Tap×Int):AV:=.int r.2
def vC(r:Tap×Int):List (Option Blk):=[some (.box (Tap.v r.1))]
def v8(L:List Int)(p:Nat):Ax Tryz.prog noS (Tap×Int):=
 (.req 49 ([8,8,16,32,64]≠[]) λh1 =>
(.callH [0] (ib L p [8,8,16,32,64] h1) 49
(.retH ((⟨L,ab L p⟩:Tap),aR [8,8,16,32,64] (al L p)) ⟨[rI 2 (aR [8,8,16,32,64] (al L p))],[.box (.agg [.sl 1 (L.map AV.int) false,.int (ab L p)])]⟩ [0])))
theorem Pj(L:List Int)(p:Nat):(v8 L p).vc vA vC (⟨L,ab L p⟩,eL L p):=by
 dsimp only[v8,noS,Ax.vp,Ax.vc];simp only[vcU,rfU,u'];exact⟨by simp,rfl⟩
def Pk(L:List Int)(p:Nat):HC Tryz.prog:=hcO 81 [.k] [.ref 0 0] [.box (.agg [.sl 1 (L.map AV.int) false,.int p])] .k vA vC ((⟨L,ab L p⟩,eL L p):Tap×Int) (λ_ _=>⟨(v8 L p),Pj L p,by kernel_rfl⟩) (by kernel_rfl) (by simp[hcB,cC,AV.belB,allB,ez,dv,vA,vC,Tap.v,ae (v:=AV.int) (λ_=>rfl)])
def D3(l:List Int):=okL [.sl 1 (l.map AV.int) false]
def vn(r:Tap):AV:=.ref 0 0
def vo(r:Tap):List (Option Blk):=[some (.box (Tap.v r))]
def vm(l:List Int):Ax Tryz.prog noS (Tap):=
 (.br 64 (decide (600<((l.map AV.int).length:Int))) (.say (λR=>Rf (α:=List AV) (l.map AV.int) (ck (gV l.length 0 600 (l.length:Int))
R)) (.sub 80 AV.int l false
(.retH (⟨(l.take 600).drop 0,0⟩:Tap) ⟨[rR 2 0],[.box (.agg [.sl 1 (((l.take 600).drop 0).map AV.int) false,.int 0])]⟩ [144])))
(.retH (⟨l,0⟩:Tap) ⟨[rR 2 0],[.box (.agg [.sl 1 (l.map AV.int) false,.int 0])]⟩ [96]))
theorem OO(t:List Int)(ok:D3 t):(vm t).vc vn vo ⟨t.take 600,0⟩:=by
 simp only[D3,okU,Blk.ok,az,u']at ok;dsimp only[vm,noS,Ax.vp,Ax.vc];simp only[vcU,rfU,u'];refine⟨λh=>⟨by simp[gV];omega,by rw[bX']⟩,λh=>by rw[V' (by omega)]⟩
def OP(l:List Int):HC Tryz.prog:=hcO 6 [(.s 1)] [.sl 1 (l.map AV.int) false] [] .k vn vo (⟨l.take 600,0⟩:Tap) (λok _=>⟨(vm l),OO l ok,by kernel_rfl⟩) (by kernel_rfl) (by simp[hcB,cC,AV.belB,allB,ez,dv,vn,vo,Tap.v,ae (v:=AV.int) (λ_=>rfl)])
def ow(L:List Int):Nat→Int→List Int→Nat→List Int×Nat
 | 0,_,out,p=>(out,p)
 | n+1,i,out,p=>ow L n (i+1) (bO out (Mod (al L p) (out.length+1)).toNat i) (ab L p)
def ic(L:List Int)(n:Int)(p:Nat):List Int×Nat:=ow L n.toNat 0 [] p
theorem gJ{α:Type}(l:List α)(k:Nat)(x:α)(h:k≤l.length):(bO l k x).length=l.length+1:=by
 unfold bO;simp;omega
theorem vJ{α:Type}(l:List α)(k:Nat)(x:α):(bO l k x).Perm (x::l):=by
 unfold bO;have:=(List.perm_middle (a:=x) (l₁:=l.take k) (l₂:=l.drop k))
 rw[bV']at this;simpa[bl']using this
theorem yp{L:List Int}:∀{n:Nat} {i:Int} {out:List Int} {p:Nat},out.Nodup→(∀x∈out,0≤x∧x<i)→0≤i →
  (ow L n i out p).1.Nodup∧∀x∈(ow L n i out p).1,0≤x∧x<i+n
 | 0,i,out,p,h1,h2,h0=>⟨h1,λx hx=>by have:=h2 x hx;omega⟩
 | n+1,i,out,p,h1,h2,h0=>by
  rw[ow];have hp:=vJ out (Mod (al L p) (out.length+1)).toNat i
  obtain⟨a,b⟩:=yp (L:=L) (n:=n) (i:=i+1) (out:=bO out (Mod (al L p) (out.length+1)).toNat i) (p:=ab L p)
   (hp.nodup_iff.mpr (cv'.mpr ⟨λhi=>by have:=h2 i hi;omega,h1⟩))
   (λx hx=>by
    rcases ah'.mp (hp.mem_iff.mp hx)with rfl|hx
    ·omega
    ·have:=h2 x hx;omega) (by omega)
  exact⟨a,λx hx=>by have:=b x hx;omega⟩
theorem uV{L:List Int}{n:Int}{p:Nat}(h:0≤n):(ic L n p).1.Nodup∧∀x∈(ic L n p).1,0≤x∧x<n:=by
 obtain⟨a,b⟩:=yp (L:=L) (n:=n.toNat) (i:=0) (out:=[]) (p:=p) aW' (by simp) (by omega);exact⟨a,λx hx=>by have:=b x hx;omega⟩
theorem l4{α:Type}{l:List α}{k:Nat}{x:α}:(((l.take k).drop 0)++[x])++((l.take ((l.length:Int).toNat)).drop k)=bO l k x:=by rw[bl',AA]
def JM(L:List Int)(n:Int)(t0:Int×Nat×List Int):NF:=⟨[rR 0 0,rI 1 n,rV 5 1,rI 6 t0.1],[.box (.agg [.sl 1 (L.map AV.int) false,.int t0.2.1]),vB 1 AV.int t0.2.2 (λ_=>rfl)]⟩
@[reducible] def Ds:Nat→Type
 | 0=>Int×Nat×List Int
 | _=>Unit
def uX(r:Tap×List Int):AV:=.sl 1 (r.2.map AV.int) false
def uY(r:Tap×List Int):List (Option Blk):=[some (.box (Tap.v r.1))]
def Dr(L:List Int)(p:Nat)(n:Int)(I0:(Int×Nat×List Int)→Prop)(m0:(Int×Nat×List Int)→Nat):Ax Tryz.prog Ds (Tap×List Int):=
 (.cmdL (.nilT 5 1) (.loop 0 (JM L n) I0 m0 (0,p,[]) [0,49] λ(t0:Int×Nat×List Int) b0 =>
(.br 50 (decide (t0.1<n)) (.callH [0] (bB L t0.2.1 (W (t0.1+1))) 98
(.wait (.say (Rf (t0.2.2.map AV.int)) (.cmd (.frzE 1 (t0.2.2.map AV.int) (ae (λ_=>rfl) t0.2.2)) (.say (λR=>Rf (α:=List AV) (t0.2.2.map AV.int) (ck (gV t0.2.2.length 0 (Mod (al L t0.2.1) (W (t0.1+1))) (t0.2.2.length:Int))
R)) (.sub 194 AV.int t0.2.2 false
(.apX 210 AV.int [] ((t0.2.2.take ((Mod (al L t0.2.1) (W (t0.1+1))).toNat)).drop 0) (0+((t0.2.2.take ((Mod (al L t0.2.1) (W (t0.1+1))).toNat)).drop 0).length)
(.own 274 (.apX 290 AV.int ((t0.2.2.take ((Mod (al L t0.2.1) (W (t0.1+1))).toNat)).drop 0) [t0.1] (((t0.2.2.take ((Mod (al L t0.2.1) (W (t0.1+1))).toNat)).drop 0).length+1)
(.say (λR=>Rf (α:=List AV) (t0.2.2.map AV.int) (ck (gV t0.2.2.length (Mod (al L t0.2.1) (W (t0.1+1))) (t0.2.2.length:Int) (t0.2.2.length:Int))
R)) (.sub 370 AV.int t0.2.2 false
(.apX 386 AV.int (((t0.2.2.take ((Mod (al L t0.2.1) (W (t0.1+1))).toNat)).drop 0)++[t0.1]) ((t0.2.2.take ((t0.2.2.length:Int).toNat)).drop ((Mod (al L t0.2.1) (W (t0.1+1))).toNat)) ((((t0.2.2.take ((Mod (al L t0.2.1) (W (t0.1+1))).toNat)).drop 0)++[t0.1]).length+((t0.2.2.take ((t0.2.2.length:Int).toNat)).drop ((Mod (al L t0.2.1) (W (t0.1+1))).toNat)).length)
(.bk 0 b0 (W (t0.1+1),ab L t0.2.1,(((t0.2.2.take ((Mod (al L t0.2.1) (W (t0.1+1))).toNat)).drop 0)++[t0.1])++((t0.2.2.take ((t0.2.2.length:Int).toNat)).drop ((Mod (al L t0.2.1) (W (t0.1+1))).toNat))) [0,386])))))))))))))
(.fz 1 AV.int t0.2.2 (λ_=>rfl) (.retH ((⟨L,t0.2.1⟩:Tap),t0.2.2) ⟨[(4,.k,.sl 1 (t0.2.2.map AV.int) false)],[.box (.agg [.sl 1 (L.map AV.int) false,.int t0.2.1])]⟩ [0])))))
theorem OC(L:List Int)(p:Nat)(n:Int)(h:n≤1000):∃I m,(Dr L p n I m).vc uX uY ((⟨L,(ic L n p).2⟩:Tap),(ic L n p).1):=by
 have hm:=λ(l:Nat) (q:Nat)=>dF (x:=al L q) (show 1≤(l:Int)+1 by omega);refine⟨λt=>∃k:Nat,t.1=k∧k≤n.toNat∧t.2.2.length=k∧ow L (n.toNat-k) t.1 t.2.2 t.2.1=ic L n p,λt=>n.toNat-t.1.toNat,?_⟩;dsimp only[Dr,Ds,Ax.vp,Ax.vc];simp only[vcU,rfU,u'];refine⟨⟨0,rfl,by omega,rfl,rfl⟩,?_⟩;rintro⟨i,q,out⟩ ⟨k,hi,hk,hl,hr⟩;simp only at hi hl hr ⊢;subst hi;subst hl;have w1:W ((out.length:Int)+1)=(out.length:Int)+1:=eF (by omega);have hq:=hm out.length q;rw[w1,l4]
 refine⟨λc=>?_,λc=>?_⟩
 ·have c:out.length<n.toNat:=by omega
  refine⟨by simp[gV];omega,by simp;omega,by simp;omega,by simp[gV];omega,by simp;omega,⟨out.length+1,by omega,by omega,by rw[gJ _ _ _ (by omega)],?_⟩,by omega⟩;rw[show n.toNat-out.length=(n.toNat-(out.length+1))+1 by omega,ow]at hr;exact hr
 ·have:out.length=n.toNat:=by omega
  rw[this,ba',ow]at hr;rw[←hr]
def OD(L:List Int)(p:Nat)(n:Int)(h:n≤1000):HC Tryz.prog:=hcO 82 [.k,.k] [.ref 0 0,.int n] [.box (.agg [.sl 1 (L.map AV.int) false,.int p])] (.s 1) uX uY ((⟨L,(ic L n p).2⟩:Tap),(ic L n p).1) (λ_ _=>let ⟨I0,m0,h⟩:=OC L p n h;⟨_,h,by kernel_rfl⟩) (by kernel_rfl) (by simp[hcB,cC,AV.belB,allB,ez,dv,uX,uY,Tap.v,ae (v:=AV.int) (λ_=>rfl)])
def CZ(out:List Lnk)(x:Lnk):Nat:=out.findIdx λy=>!decide (bC y x)
def bg:List Lnk→List Lnk→List Lnk
 | [],out=>out
 | x::l,out=>bg l (bO out (CZ out x) x)
def JL(l:List Lnk)(t0:Int×List Lnk):NF:=⟨[(0,.k,.sl 5 (l.map Lnk.v) false),rV 3 0,rI 4 t0.1],[vB 5 Lnk.v t0.2 (λ_=>rfl)]⟩
def JK(l:List Lnk)(t0:Int×List Lnk)(t1:Int):NF:=⟨[(0,.k,.sl 5 (l.map Lnk.v) false),rV 3 0,rI 4 t0.1,rI 5 t1],[vB 5 Lnk.v t0.2 (λ_=>rfl)]⟩
def JJ(l:List Lnk)(t0:Int×List Lnk)(t1:Int)(t2:Bool):NF:=⟨[(0,.k,.sl 5 (l.map Lnk.v) false),rV 3 0,rI 4 t0.1,rI 5 t1,rB 55 t2],[vB 5 Lnk.v t0.2 (λ_=>rfl)]⟩
@[reducible] def Dq:Nat→Type
 | 0=>Int×List Lnk
 | 1=>Int
 | 2=>Bool
 | _=>Unit
def uT(r:List Lnk):AV:=.vec 0
def uU(r:List Lnk):List (Option Blk):=[some (.vec 5 (r.map Lnk.v))]
def Dp(l:List Lnk)(I0:(Int×List Lnk)→Prop)(m0:(Int×List Lnk)→Nat)(I1:Int×List Lnk→Int→Prop)(m1:Int×List Lnk→Int→Nat)(I2:Int×List Lnk→Int→Bool→Prop):Ax Tryz.prog Dq ((List Lnk)):=
 (.cmdL (.nilT 3 5) (.loop 0 (JL l) I0 m0 (0,[]) [48] λ(t0:Int×List Lnk) b0 =>
(.br 65 (decide (t0.1<((l.map Lnk.v).length:Int))) (.loop 1 (JK l t0) (I1 t0) (m1 t0) ((0):Int) [0] λ(t1:Int) b1 =>
(.pass (.join 2 (JJ l t0 t1) (λ(t2:Bool)=>I2 t0 t1 t2) (λb2=>(.br 81 (decide (t1<((t0.2.map Lnk.v).length:Int))) (.elJ 145 Lnk.v t0.2 t1 λx1 =>
(.elI 193 Lnk.v l t0.1 λx2 =>
(.br 273 (decide (x1.a<x2.a)) (.bk 2 b2 ((true):Bool) [0])
(.elJ 337 Lnk.v t0.2 t1 λx3 =>
(.elI 385 Lnk.v l t0.1 λx4 =>
(.br 465 (x3.a==x4.a) (.elJ 529 Lnk.v t0.2 t1 λx5 =>
(.elI 577 Lnk.v l t0.1 λx6 =>
(.bk 2 b2 ((decide (x5.b<x6.b)):Bool) [0])))
(.bk 2 b2 ((false):Bool) [0])))))))
(.bk 2 b2 ((false):Bool) [0]))) λ(t2:Bool) =>
(.br 1 t2 (.bk 1 b1 ((W (t1+1)):Int) [0])
(.wait (.say (Rf (t0.2.map Lnk.v)) (.cmd (.frzE 0 (t0.2.map Lnk.v) (ae (λ_=>rfl) t0.2)) (.say (λR=>Rf (α:=List AV) (t0.2.map Lnk.v) (ck (gV t0.2.length 0 t1 (t0.2.length:Int))
R)) (.sub 65 Lnk.v t0.2 false
(.apX 81 Lnk.v [] ((t0.2.take t1.toNat).drop 0) (0+((t0.2.take t1.toNat).drop 0).length)
(.elI 161 Lnk.v l t0.1 λx7 =>
(.own 193 (.apX 209 Lnk.v ((t0.2.take t1.toNat).drop 0) [x7] (((t0.2.take t1.toNat).drop 0).length+1)
(.say (λR=>Rf (α:=List AV) (t0.2.map Lnk.v) (ck (gV t0.2.length t1 (t0.2.length:Int) (t0.2.length:Int))
R)) (.sub 289 Lnk.v t0.2 false
(.apX 305 Lnk.v (((t0.2.take t1.toNat).drop 0)++[x7]) ((t0.2.take ((t0.2.length:Int).toNat)).drop t1.toNat) ((((t0.2.take t1.toNat).drop 0)++[x7]).length+((t0.2.take ((t0.2.length:Int).toNat)).drop t1.toNat).length)
(.bk 0 b0 (W (t0.1+1),(((t0.2.take t1.toNat).drop 0)++[x7])++((t0.2.take ((t0.2.length:Int).toNat)).drop t1.toNat)) [305])))))))))))))))))
(.retH t0.2 ⟨[rV 2 0],[vB 5 Lnk.v t0.2 (λ_=>rfl)]⟩ [0]))))
theorem J5{out:List Lnk}{x:Lnk}{j:Nat}(hj:j≤out.length)(h1:∀y∈out.take j,bC y x)(h2:∀y,out[j]?=some y→¬bC y x):CZ out x=j:=by
 unfold CZ
 by_cases e:j=out.length
 ·subst e;rw[List.take_length]at h1;rw[List.findIdx_eq_length];intro y hy;simp[h1 y hy]
 ·rw[List.findIdx_eq (by omega)]
  refine⟨?_,λi hi=>?_⟩
  ·have:=h2 _ (f' (by omega));simp[this]
  ·have:=h1 (out[i]'(by omega)) (aD'.mpr ⟨i,by omega,rfl⟩);simp[this]
theorem OA(l:List Lnk)(h:l.length≤1000):∃I0 m0 I1 m1 I2,(Dp l I0 m0 I1 m1 I2).vc uT uU (bg l []):=by
 refine⟨λs=>∃k:Nat,s.1=k∧k≤l.length∧s.2.length=k∧bg (l.drop k) s.2=bg l [],λs=>l.length-s.1.toNat,
  λs t=>aM s.2 (λy=>∀x,l[s.1.toNat]?=some x→bC y x) t,λs t=>s.2.length-t.toNat,λs t b=>b=true↔t<s.2.length∧∀x y,l[s.1.toNat]?=some x→s.2[t.toNat]?=some y→bC y x,?_⟩
 dsimp only[Dp,Dq,Ax.vp,Ax.vc];simp only[vcU,rfU,u'];refine⟨⟨0,rfl,by omega,rfl,by simp⟩,?_⟩;rintro⟨i,out⟩ ⟨k,hi,hk,hl,hr⟩;simp only at hi hl hr ⊢;subst hi;subst hl;simp only[Int.toNat_natCast]
 refine⟨λc=>?_,λc=>?_⟩
 ·have hx:=f' (show out.length<l.length by omega);generalize l[out.length]=x at hx;refine⟨aM.zero,λt hI=>?_⟩;obtain⟨j,rfl,hj,ha⟩:=hI;have ha':∀y∈out.take j,bC y x:=λy hy=>ha y hy x hx;have hI:aM out (λy=>∀x,l[out.length]?=some x→bC y x) ((j:Nat):Int):=⟨j,rfl,hj,ha⟩
  simp only[Int.toNat_natCast]
  refine⟨⟨λd=>?_,λd=>⟨nofun,λq=>absurd q.1 d⟩⟩,λb hb=>?_⟩
  ·have hy:=f' (show j<out.length by omega);generalize out[j]=y at hy;have rg:(bif decide (0≤((j:Nat):Int))then decide (((j:Nat):Int)<out.length)else false)=true:=cY (by omega) d;refine⟨rg,by omega,λx1 h1=>⟨by omega,c,λx2 h2=>?_⟩⟩;rw[hy]at h1;cases h1;rw[hx]at h2;cases h2
   refine⟨λe=>⟨λ_=>⟨d,λx' y' hx' hy'=>?_⟩,λ_=>trivial⟩,λe=>⟨rg,by omega,λx3 h3=>⟨by omega,c,λx4 h4=>?_⟩⟩⟩
   ·rw[hx]at hx';cases hx';rw[hy]at hy';cases hy';exact .inl e
   rw[hy]at h3;cases h3;rw[hx]at h4;cases h4
   refine⟨λe2=>⟨rg,by omega,λx5 h5=>⟨by omega,c,λx6 h6=>?_⟩⟩,λe2=>⟨nofun,λq=>?_⟩⟩
   ·rw[hy]at h5;cases h5;rw[hx]at h6;cases h6;have e2:=eq_of_beq e2
    refine⟨λe3=>⟨d,λx' y' hx' hy'=>?_⟩,λq=>?_⟩
    ·rw[hx]at hx';cases hx';rw[hy]at hy';cases hy';exact .inr ⟨e2,e3⟩
    ·have:=q.2 x y hx hy;unfold bC at this;omega
   ·have:=q.2 x y hx hy;have e2:¬y.a=x.a:=by simpa using e2
    unfold bC at this;omega
  ·refine⟨λe=>?_,λe=>?_⟩
   ·obtain⟨d,hd⟩:=hb.mp e;have hy:=f' (show j<out.length by omega);exact hI.step (by omega) (by rw[Int.toNat_natCast];exact hy) λx' hx'=>hd x' _ hx' hy
   ·have hp:CZ out x=j:=J5 hj ha' λy hy q=>by
     have:=hb.mpr ⟨by have:=am hy;omega,λx' y' hx' hy'=>by rw[hx]at hx';cases hx';rw[hy]at hy';cases hy';exact q⟩;rw[e]at this;cases this
    refine⟨by simp[gV];omega,by simp;omega,by omega,c,λx7 h7=>?_⟩;rw[hx]at h7;cases h7;have hi:(((out.take j).drop 0)++[x])++((out.take out.length).drop j)=bO out j x:=by have:=l4 (l:=out) (k:=j) (x:=x);rwa [Int.toNat_natCast]at this
    rw[hi,aQ (n:=l.length) (by omega) (by omega)];refine⟨by simp;omega,by simp[gV];omega,by simp;omega,⟨out.length+1,rfl,by omega,gJ _ _ _ hj,?_⟩,by omega⟩;rw[aP' (by omega),bg]at hr;have:l[out.length]'(by omega)=x:=by rw[f' (by omega)]at hx;exact Z' hx
    rw[this,hp]at hr;exact hr
 ·have:out.length=l.length:=by omega
  rw[this,cm',bg]at hr;exact hr
def OB(l:List Lnk)(h:l.length≤1000):HC Tryz.prog:=hcO 80 [(.s 5)] [.sl 5 (l.map Lnk.v) false] [] .k uT uU (bg l []) (λ_ _=>let ⟨I0,m0,I1,m1,I2,h⟩:=OA l h;⟨_,h,by kernel_rfl⟩) (by kernel_rfl) (by simp[hcB,cC,AV.belB,allB,ez,dv,uT,uU,ae (v:=Lnk.v) (λ_=>rfl)])
end Go.Proofs.YtiobpjoadkfhdaaGreat
