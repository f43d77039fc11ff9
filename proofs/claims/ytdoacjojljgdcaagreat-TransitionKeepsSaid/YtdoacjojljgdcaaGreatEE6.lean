/- Texts joined: SO FM2 RD4 RD5 RD6 RD7 TC5 TC6 SR1 DT1 P1 DT2 DT3 DT4 PL KM1 KM2. -/
import Derived.Test.YtdoacjojljgdcaaGreatSh
import Derived.Test.YtdoacjojljgdcaaGreatChecked
import Derived.Test.YtdoacjojljgdcaaGreatEE5
set_option linter.unusedVariables false
set_option linter.unusedSimpArgs false
set_option linter.unusedSectionVars false
namespace Go.Proofs.YtdoacjojljgdcaaGreat
open Go Go.Am
open Go.Shelf Go.RowKit Go.Lib Go.Sort in
theorem xH(a b:Int)(x1 y1:Value)(w:World)(hx:x1.oneCell'=true)(hy:y1.oneCell'=true) :
  Calls Tryz.prog 175 #[.agg #[.int .i64 a,x1],.agg #[.int .i64 b,y1]] w λe w'=>e=.returned (.int .i64 (Lib.compareInt a b))∧∃q os',w'=grow (w.drewN q) os':=by
 have hcon:=λW'=>AnyG.cmp_Compare_int Tryz.cmpI a b W'
 change ∀W',Calls Tryz.prog 151 _ _ _ at hcon
 generalize Lib.compareInt a b=r at hcon ⊢
 go_enter Tryz.func175,Tryz.ntmps175
 go_wp2_with (go_at_call 151;refine(hcon _).mono ?_;rintro e w' ⟨rfl,rfl⟩)
 go_ret
 exact⟨rfl,0,_,by rw[alloc_eq_grow,alloc_eq_grow,grow_grow];rfl⟩
def DQ(l:List Stp):Prop:=l.length≤1000000∧l.Pairwise λa b=>a.to≠b.to
def jV(l:List Stp):List Stp:=l.mergeSort λa b=>decide (a.to≤b.to)
theorem jG(l:List Stp):(jV l).Perm l:=List.mergeSort_perm _ _
theorem C9{l:List Stp}(h:DQ l):(jV l).Pairwise λa b=>a.to<b.to:=by
 have h1:(jV l).Pairwise λa b=>decide (a.to≤b.to)=true:=List.pairwise_mergeSort (λa b c h1 h2=>by simp at *;omega) (λa b=>by simp;omega) l;have h2:(jV l).Pairwise λa b=>a.to≠b.to:=(List.Perm.pairwise_iff (λh=>Ne.symm h) (jG l)).mpr h.2;exact(h1.and h2).imp λ⟨h1,h2⟩=>by simp at h1;omega
open Go.Shelf Go.RowKit Go.Lib Go.Sort in
theorem vF(l:List Stp)(h:DQ l):aZ Tryz.prog 174 [.vec 0,.func 175 []] [.vec 2 (l.map Stp.v)] (.tup []) [some (.vec 2 ((jV l).map Stp.v))]:=by
 refine vE Tryz.sortW Stp.v Stp.to 2 (by omega) (λ_=>by kernel_rfl) (λ_=>by kernel_rfl) (λx=>⟨_,rfl⟩) 175 (enters_of Tryz.func175 (by kernel_rfl) rfl) ?_ l (jV l) (jG l) (C9 h) h.1;intro a b xs ys w hx hy ox oy
 match xs,hx with
 | [x1],_ =>
 match ys,hy with
 | [y1],_=>exact xH a b x1 y1 w (ox x1 (by simp)) (oy y1 (by simp))
theorem au.give3{k n:Nat}{s s':S3}(b:Nat)(hnx:s'.nx=s.nx)(h1:s'.tm=s.tm)
  (h2:∀b' x,s'.hp b'=some x→b'≠b∧(s.hp b'=some x∨∃kk ks es es',s.hp b'=some (.map kk ks es)∧x=.map kk ks es'∧dB b s.hp es es'∧((∀z∈es,z.solid=true)→∀z∈es',z.solid=true))) (hb:s.hp b≠none):au k n s s':=by
 rintro P c a w ⟨h0,A,μ,H⟩;have hle:∀k,A k→A k∨∃hd,μ b=some hd∧hd.emp=none∧hd.blk=k:=λ_ h=>.inl h;have hlive:∃x hd,s.hp b=some x∧μ b=some hd∧(hd.emp=none→¬A hd.blk∧hd.blk<w.heap.size∧(c.own hd.blk∨c.w.heap.size≤hd.blk)):=by
  cases hx:s.hp b with
  | none=>exact absurd hx hb
  | some x=>obtain⟨hd,e1,_,e3⟩:=H.blk b x hx;exact⟨x,hd,rfl,e1,e3⟩
 obtain⟨xb,hdb,hxb,hmb,hpb⟩:=hlive;have hsub:∀b' x,s'.hp b'=some x→b'≠b∧∃y,s.hp b'=some y:=by
  intro b' x hx
  obtain⟨e1,e2|⟨kk,ks,es,es',e2,_⟩⟩:=h2 b' x hx
  ·exact⟨e1,_,e2⟩
  ·exact⟨e1,_,e2⟩
 refine⟨h0,λk=>A k∨∃hd,μ b=some hd∧hd.emp=none∧hd.blk=k,μ,λt=>?_,H.n,H.df,λb' x hx=>?_,λb1 b2 x x' hd hd' hx hx'=>?_,?_,λb' hb'=>?_,H.keep,λb' hb'=>.inl (H.A0 b' hb'),?_,H.mu⟩
 ·rw[h1];exact(H.tm t).mono (cZ.refl A w) hle _ (bG.refl _)
 ·obtain⟨hne,y,hy⟩:=hsub b' x hx;obtain⟨hd,g1,g2,g3⟩:=H.blk b' y hy
  refine⟨hd,g1,?_,λhe=>⟨?_,(g3 he).2⟩⟩
  ·rcases(h2 b' x hx).2 with e|⟨kk,ks,es,es',e1,e2,e4,e5⟩
   ·rw[hy]at e;cases e;exact g2.mono (cZ.refl A w) hle (bG.refl _) (λ_=>rfl)
   ·rw[hy]at e1;cases e1;subst e2;obtain⟨q1,ents,ck,r1,r2,r3,r4⟩:=g2;exact⟨q1,ents,ck,r1,r2,e4.rvl H r3,e5 r4⟩
  ·rintro(h|⟨hd2,k1,k2,k3⟩)
   ·exact(g3 he).1 h
   ·exact hne (H.inj _ _ _ _ _ _ hy hxb g1 k1 he k2 k3.symm)
 ·obtain⟨_,y,hy⟩:=hsub b1 x hx;obtain⟨_,y',hy'⟩:=hsub b2 x' hx';exact H.inj _ _ _ _ _ _ hy hy'
 ·refine H.lt.mono (cZ.refl A w) hle ?_
  rintro k (h|⟨hd,k1,k2,rfl⟩)
  ·exact H.lt k h
  ·rw[hmb]at k1;cases k1;exact(hpb k2).2.1
 ·rw[hnx]at hb';obtain⟨q1,q2⟩:=H.fr b' hb';refine⟨q1,?_⟩;cases hx:s'.hp b' with
  | none=>rfl
  | some x=>obtain⟨_,y,hy⟩:=hsub b' x hx;rw[q2]at hy;cases hy
 ·rintro k (h|⟨hd,k1,k2,rfl⟩)
  ·exact H.A1 k h
  ·rw[hmb]at k1;cases k1;exact .inr (hpb k2).2.2
theorem au.giveM{k n:Nat}{tm:Nat→AV}{hp:Hp}{nx kk:Nat}{kq:Option Nat}{ks:List MK}{vs es:List AV}(b0 i b:Nat)(h0:hp b0=some (.map kq ks vs))(hi:vs[i]?=some (.vec b))(hb:hp b=some (.vec kk es))(hx:aV es) :
  au k n ⟨tm,hp,nx⟩ ⟨tm,upd (upd hp b none) b0 (some (.map kq ks (vs.set i (.sl kk es false)))),nx⟩:=by
 have hne:b0≠b:=λe=>by subst e;rw[h0]at hb;cases hb
 refine au.give3 b rfl rfl (λb' x hx'=>?_) (by show hp b≠none;rw[hb];simp);have hx':upd (upd hp b none) b0 (some (.map kq ks (vs.set i (.sl kk es false)))) b'=some x:=hx'
 by_cases e:b'=b0
 ·subst e;rw[ai]at hx';cases hx';exact⟨hne,.inr ⟨kq,ks,vs,_,h0,rfl,dB.set hi (bx.vec hb hx),λh z hz=>by
   rcases aC' hz with hz|rfl
   ·exact h z hz
   ·rfl⟩⟩
 ·rw[aj _ _ e]at hx'
  by_cases e2:b'=b
  ·subst e2;rw[ai]at hx';cases hx'
  ·rw[aj _ _ e2]at hx';exact⟨e2,.inl hx'⟩
theorem au.giveRows{k n:Nat}{tm:Nat→AV}{nx kk:Nat}{kq:Option Nat}{ks:List MK}{vs:List AV}{hp:Hp}(b0:Nat)(f:Nat→Nat)(es:Nat→List AV)(he:∀i,aV (es i))(hf:∀i j,f i=f j→i=j)(hf0:∀i,f i≠b0)(h0:hp b0=some (.map kq ks vs)):∀m:Nat,
  (∀i,i<m→vs[i]?=some (.vec (f i))∧hp (f i)=some (.vec kk (es i))) →
  ∃hp' vs',au k n ⟨tm,hp,nx⟩ ⟨tm,hp',nx⟩∧hp' b0=some (.map kq ks vs')∧vs'.length=vs.length∧(∀i,i<m→vs'[i]?=some (.sl kk (es i) false))∧(∀i,m≤i→vs'[i]?=vs[i]?)∧∀b,b≠b0→(∀i,i<m→b≠f i)→hp' b=hp b
 | 0,_=>⟨hp,vs,au.refl,h0,rfl,λi h=>absurd h (by omega),λ_ _=>rfl,λ_ _ _=>rfl⟩
 | m+1,h=>by
  obtain⟨hp1,vs1,w,a1,a2,a3,a4,a5⟩:=au.giveRows b0 f es he hf hf0 h0 m λi hi=>h i (by omega);obtain⟨g1,g2⟩:=h m (by omega);have hl:m<vs1.length:=by rw[a2];exact(Z'.mp g1).1
  refine⟨_,_,w.trans (au.giveM b0 m (f m) a1 (by rw[a4 m (V' _)];exact g1) (by rw[a5 (f m) (hf0 m) λi hi e=>by have:=hf _ _ e;omega];exact g2) (he m)),ai _ _ _,by rw[bG',a2],λi hi=>?_,λi hi=>?_,λb hb hb'=>?_⟩
  ·rw[ao']
   by_cases e:m=i
   ·subst e;rw[G' rfl,G' hl]
   ·rw[F' e];exact a3 i (by omega)
  ·rw[ao',F' (by omega)];exact a4 i (by omega)
  ·rw[aj _ _ hb,aj _ _ (hb' m (by omega))];exact a5 b hb λi hi=>hb' i (by omega)
theorem au.giveBM{k n:Nat}{tm:Nat→AV}{hp:Hp}{nx:Nat}{kq:Option Nat}{ks:List MK}{vs cs:List AV}(b0 i b:Nat)(h0:hp b0=some (.box (.agg cs)))(hi:cs[i]?=some (.mref b))(hb:hp b=some (.map kq ks vs))(hx:aV vs)(hs':(AV.agg (cs.set i (.mp kq ks vs))).solid=true) :
  au k n ⟨tm,hp,nx⟩ ⟨tm,upd (upd hp b none) b0 (some (.box (.agg (cs.set i (.mp kq ks vs))))),nx⟩:=by
 have hne:b0≠b:=λe=>by subst e;rw[h0]at hb;cases hb
 refine au.give b rfl (λu=>.inr bx.refl) (λb' x hx'=>?_) (by show hp b≠none;rw[hb];simp);have hx':upd (upd hp b none) b0 (some (.box (.agg (cs.set i (.mp kq ks vs))))) b'=some x:=hx'
 by_cases e:b'=b0
 ·subst e;rw[ai]at hx';cases hx';exact⟨hne,.inr ⟨_,_,h0,rfl,hs',bx.agg (dB.set hi (bx.map hb hx))⟩⟩
 ·rw[aj _ _ e]at hx'
  by_cases e2:b'=b
  ·subst e2;rw[ai]at hx';cases hx'
  ·rw[aj _ _ e2]at hx';exact⟨e2,.inl hx'⟩
theorem bn.ownV{P:Program}{fid:FuncId}{n:Nat}{hp:Hp}{es es' args:List AV}{kk b f:Nat}{r:AV}(hs:aZ P fid (.vec 0::args) [.vec kk es] r [some (.vec kk es')])(hf:kK P fid)
  (h0:aV args) (h1:aV es) (h2:aV es') (h3:r.pure) (hb:hp b=some (.vec kk es)):bn P n fid (.vec b::args) f hp [b] r (eS [(b,some (.vec kk es'))]):=by
 have key:=bn.hand (n:=n) (f:=f) (hp:=hp) hf hs [b] rfl (by simp) ⟨show(0:Nat)<1 by omega,aT h0⟩ (λi b' x e1 e2=>by
  match i with
  | 0=>simp at e1 e2;subst e1;subst e2;exact⟨aT h1,by rw[hb];simp only[Blk.ren,aX _ h1]⟩
  | i+1=>simp at e1) (by simp) (by simp) (AV.bel_pure h3) (λy hy=>by simp at hy;subst hy;exact aT h2)
 have e0:aW [b] f 0=b:=by simp[aW]
 have e3:cU [b] f [some (Blk.vec kk es')]=eS [(b,some (.vec kk es'))]:=by simp[cU,List.zipIdx,e0,Blk.ren,aX _ h2]
 rw[e3]at key;simpa only[dP,aX _ h0,AV.ren,AV.ren_pure _ h3,e0]using key
theorem Gl{P:Program}{n:Nat}{tm:Nat→AV}{hp:Hp}{fid:FuncId}{d:Option Nat}{g:AO}{xs:List AO}{os:List aG}{f:Nat}{K:S2→Nat→Prop}{es es' args:List AV}{r:AV}{kk b:Nat}
  (hs:aZ P fid (.vec 0::args) [.vec kk es] r [some (.vec kk es')]) (hf:kK P fid) (h0:aV args) (h1:aV es) (h2:aV es') (h3:r.pure) (hg:evO tm g=.func fid [])
  (hx:xs.map (evO tm)=.vec b::args) (hb:hp b=some (.vec kk es)) (hK:evT P n os (f+16) ⟨aH d r tm,upd hp b (some (.vec kk es'))⟩ K):evT P n (⟨d,.call g xs,none⟩::os) f ⟨tm,hp⟩ K:=
 ju hg (by simpa using hx) (bn.ownV hs hf h0 h1 h2 h3 hb) (by rw[my];exact hK)
def gW(ls:List Lnk)(x:Int):List Stp:=ls.flatMap λl=>if l.a=x then [⟨l.b,l.ca⟩]else if l.b=x then [⟨l.a,l.cb⟩]else []
def inS(ls:List Lnk)(x:Int):List Stp:=ls.flatMap λl=>if l.b=x then [⟨l.a,l.ca⟩]else if l.a=x then [⟨l.b,l.cb⟩]else []
theorem gI{M:List (List Stp)}{x j:Nat}{s:Stp}{r:List Stp}(h:M[j]?=some r):(apR M x s)[j]?=some (if x=j then r++[s]else r):=by
 unfold apR;rw[ao']
 by_cases e:x=j
 ·subst e;rw[G' rfl,G' (ao h),G' rfl,I',h];rfl
 ·rw[F' e,F' e,h]
theorem z6{t:Tpl}(hnd:(t.rs.map (·.id)).Nodup){i:Nat}{r:Rtr}(h:t.rs[i]?=some r){a:Int}(ha:az t a=true):ix5 t a=i↔a=r.id:=by
 have h1:(t.rs.map (·.id))[i]?=some r.id:=by rw[J',h];rfl
 have h2:=rJ ha
 constructor
 ·intro e;rw[e,h1]at h2;exact(af' h2).symm
 ·intro e;subst e;exact(dM hnd h1 h2).symm
theorem oB{t:Tpl}(hnd:(t.rs.map (·.id)).Nodup):∀(m:Nat) (ls:List Lnk),ls.length=m→(∀l∈ls,(az t l.a=true∧az t l.b=true)∧l.a<l.b)→∀i r,t.rs[i]?=some r →
  (eD t ls)[2 * i]?=some (gW ls r.id)∧(eD t ls)[2 * i+1]?=some (inS ls r.id)
 | 0,ls,hm,hl,i,r,h=>by
  obtain rfl:=bt'.mp hm;have:=ao h;unfold eD;rw[List.foldl_nil,bj',bj',G' (by omega),G' (by omega)];exact⟨rfl,rfl⟩
 | m+1,ls,hm,hl,i,r,h=>by
  obtain⟨ls',l,rfl⟩:∃ls' l,ls=ls'++[l]:=⟨ls.dropLast,ls.getLast (by intro e;subst e;cases hm),(List.dropLast_concat_getLast _).symm⟩
  have hm':ls'.length=m:=by simpa using hm
  obtain⟨g1,g2⟩:=oB hnd m ls' hm' (λx hx=>hl x (by simp[hx])) i r h;obtain⟨⟨ha,hb⟩,hab⟩:=hl l (by simp);have e:eD t (ls'++[l])=rE t (eD t ls') l:=by unfold eD;rw[aZ'];rfl
  have ea:=z6 hnd h ha;have eb:=z6 hnd h hb;rw[e];unfold rE;rw[gI (gI (gI (gI g1))),gI (gI (gI (gI g2)))];have o1:gW (ls'++[l]) r.id=gW ls' r.id++(if l.a=r.id then [⟨l.b,l.ca⟩]else if l.b=r.id then [⟨l.a,l.cb⟩]else []):=by unfold gW;rw[bF'];simp
  have o2:inS (ls'++[l]) r.id=inS ls' r.id++(if l.b=r.id then [⟨l.a,l.ca⟩]else if l.a=r.id then [⟨l.b,l.cb⟩]else []):=by unfold inS;rw[bF'];simp
  rw[o1,o2];have f1:∀q:Nat,¬(2 * q+1=2 * i):=λq=>by omega
  have f2:∀q:Nat,¬(2 * q=2 * i+1):=λq=>by omega
  have f3:∀q:Nat,(2 * q=2 * i)=(q=i):=λq=>propext ⟨λ_=>by omega,λ_=>by omega⟩;have f4:∀q:Nat,(2 * q+1=2 * i+1)=(q=i):=λq=>propext ⟨λ_=>by omega,λ_=>by omega⟩;simp only[f1,f2,f3,f4,ea,eb,if_false]
  by_cases h1:l.a=r.id
  ·have h2:¬l.b=r.id:=by omega
   simp[h1,h2]
  ·by_cases h2:l.b=r.id
   ·simp[h1,h2]
   ·simp[h1,h2]
theorem zb{t:Tpl}(hc:ay t=0)(x:Int):DQ (gW t.ls x):=by
 have hO:=ax hc
 constructor
 ·have:∀ls:List Lnk,(gW ls x).length≤ls.length:=λls=>by
   induction ls with
   | nil=>exact V' _
   | cons l ls ih =>
    have e:gW (l::ls) x=(if l.a=x then [⟨l.b,l.ca⟩]else if l.b=x then [⟨l.a,l.cb⟩]else [])++gW ls x:=rfl;rw[e,List.length_append];have:(if l.a=x then [(⟨l.b,l.ca⟩:Stp)]else if l.b=x then [⟨l.a,l.cb⟩]else []).length≤1:=by split<;>(try split)<;>simp
    simp only[ab'];omega
  have:=this t.ls;have:=hO.nl;omega
 ·unfold gW;rw[List.pairwise_flatMap];refine⟨λl hl=>by split<;>(try split)<;>simp,?_⟩;have hlt:=hO.lt;refine List.Pairwise.imp_of_mem (λ{l1 l2} m1 m2 h s1 h1 s2 h2=>?_) hO.ord;have a1:=hlt l1 m1;have a2:=hlt l2 m2;unfold aM at h
  (repeat' split at h1)<;>(repeat' split at h2)<;>simp at h1 h2<;>subst h1<;>subst h2<;>simp only[ne_eq]<;>omega
def iS(st seen:List Nat)(M:List (List Stp)):List (List Stp):=M.mapIdx λj r=>if j % 2=0∧st.getD (j / 2) 0∈seen then jV r else r
theorem fp(st seen:List Nat)(M:List (List Stp)):(iS st seen M).length=M.length:=by simp[iS]
theorem CA(st:List Nat)(M:List (List Stp)):iS st [] M=M:=by
 refine aS' λi=>?_;simp only[iS,cm'];simp
theorem CB{st seen:List Nat}{M:List (List Stp)}{i s0:Nat}{r:List Stp}(h:M[2 * i]?=some r)(hs:st[i]?=some s0)(h0:s0 ∉ seen):(iS st seen M)[2 * i]?=some r:=by
 have e:st.getD i 0=s0:=by rw[I',hs];rfl
 simp only[iS,cm',h,ak',show 2 * i / 2=i by omega,e];rw[F' (λh=>h0 h.2)]
theorem AK{st seen:List Nat}{M:List (List Stp)}{i s0:Nat}{r:List Stp}(h:M[2 * i]?=some r)(hs:st[i]?=some s0)(hn:st.Nodup)(hM:M.length=2 * st.length):iS st (seen++[s0]) M=(iS st seen M).set (2 * i) (jV r):=by
 have hil:=ao hs;refine aS' λj=>?_;rw[ao']
 by_cases e:2 * i=j
 ·subst e;have e:st.getD i 0=s0:=by rw[I',hs];rfl
  rw[G' rfl,G' (by rw[fp];omega)];simp only[iS,cm',h,ak',show 2 * i / 2=i by omega,e];rw[G' ⟨by omega,by simp⟩]
 ·rw[F' e];simp only[iS,cm'];cases hj:M[j]? with
  | none=>rfl
  | some q =>
   have hjl:=ao hj;simp only[ak']
   congr 1
   by_cases h2:j % 2=0
   ·have hk:j / 2<st.length:=by omega
    have hne:st.getD (j / 2) 0≠s0:=λe'=>by
     rw[I',u' hk]at e';have e':st[j / 2]?=some s0:=by rw[u' hk];exact congrArg some e'
     have:=dM hn e' hs;omega
    have e3:(st.getD (j / 2) 0∈seen++[s0])=(st.getD (j / 2) 0∈seen):=propext ⟨λh=>(X'.mp h).elim id λh=>absurd (L'.mp h) hne,λh=>cl' _ h⟩;simp only[e3]
   ·simp[h2]
def cW(t:Tpl):Lks:=t.rs.map λr=>(r.id,jV (gW t.ls r.id))
def inG(t:Tpl):Lks:=t.rs.map λr=>(r.id,inS t.ls r.id)
theorem CC{t:Tpl}(hc:ay t=0){st seen:List Nat}(h:∀s∈st,s∈seen)(hs:st.length=t.rs.length){i:Nat}{r:Rtr}(hr:t.rs[i]?=some r) :
  (iS st seen (eD t t.ls))[2 * i]?=some (jV (gW t.ls r.id))∧(iS st seen (eD t t.ls))[2 * i+1]?=some (inS t.ls r.id):=by
 have hO:=ax hc;have hnd:(t.rs.map (·.id)).Nodup:=List.Pairwise.map _ (λa b h=>by omega) hO.asc;obtain⟨g1,g2⟩:=oB hnd _ t.ls rfl (λl hl=>⟨hO.has l hl,hO.lt l hl⟩) i r hr;have hi:i<st.length:=by rw[hs];exact ao hr
 have e:st.getD i 0∈seen:=by rw[I',u' hi];exact h _ (aA' _)
 simp only[iS,cm',g1,g2,ak',show 2 * i / 2=i by omega];rw[G' ⟨by omega,e⟩,F' (by omega)];exact⟨rfl,rfl⟩
def rdE(t:Tpl):NF:=
 ⟨[(2,.k,.ref 1 0),(3,.k,.ref 2 0)],[.box (Tpl.v t),.box (.agg [.val (.map none),.val (.map none)]),.box (.agg [jr (cW t),jr (inG t)])]⟩
theorem jI(r:List Stp):aV (r.map Stp.v):=aB (ah cN r)
theorem tH(L:Lks):aV (L.map λp=>AV.sl 2 (p.2.map Stp.v) false):=aB (ah (v:=λp:Int×List Stp=>AV.sl 2 (p.2.map Stp.v) false) (λ_=>rfl) L)
theorem Pm(t:Tpl){k nx:Nat}{tm:Nat→AV}{hp:Hp}(t2:tm 2=.ref 1 0)(t3:tm 3=.ref 2 0)(h0:hp 0=some (.box (Tpl.v t)))(h1:hp 1=some (.box (.agg [.val (.map none),.val (.map none)])))(h2:hp 2=some (.box (.agg [.mref 3,.mref 4])))
  (h3:hp 3=some (.map none (kyN (t.rs.map (·.id))) (evN t.rs.length))) (h4:hp 4=some (.map none (kyN (t.rs.map (·.id))) (odN t.rs.length)))
  (hF:∀i r,t.rs[i]?=some r→hp (Fr (2 * i))=some (.vec 2 ((jV (gW t.ls r.id)).map Stp.v))∧hp (Fr (2 * i+1))=some (.vec 2 ((inS t.ls r.id).map Stp.v))):au 0 k ⟨tm,hp,nx⟩ (rdE t).st:=by
 have key:∀(f:Rtr→List Stp) (vs':List AV),vs'.length=t.rs.length→(∀i,i<t.rs.length→vs'[i]?=some (.sl 2 (((t.rs[i]?).elim [] f).map Stp.v) false))→vs'=(t.rs.map λr=>(r.id,f r)).map λp=>AV.sl 2 (p.2.map Stp.v) false:=λf vs' e1 e2=>by
  refine aS' λi=>?_
  by_cases hi:i<t.rs.length
  ·rw[e2 i hi,J',J',u' hi];rfl
  ·rw[aj' (by omega),aj' (by simp;omega)]
 have ks:∀f:Rtr→List Stp,kyN (t.rs.map (·.id))=(t.rs.map λr=>(r.id,f r)).map λp=>MK.n p.1:=λf=>by unfold kyN;rw[aV',aV'];rfl
 obtain⟨hp1,v1,w1,a1,a2,a3,_,a5⟩:=au.giveRows (k:=0) (n:=k) (tm:=tm) (nx:=nx) (kk:=2) 3 (λi=>Fr (2 * i)) (λi=>((t.rs[i]?).elim [] λr=>jV (gW t.ls r.id)).map Stp.v) (λi=>jI _) (λi j h=>by unfold Fr at h;omega) (λi=>by unfold Fr;omega) h3 t.rs.length
  (λi hi=>⟨by rw[evN,J',cK' hi];rfl,by rw[u' hi];exact(hF i _ (u' hi)).1⟩)
 have b4:hp1 4=some (.map none (kyN (t.rs.map (·.id))) (odN t.rs.length)):=by rw[a5 4 (by decide) (λi _=>by unfold Fr;omega)];exact h4
 obtain⟨hp2,v2,w2,c1,c2,c3,_,c5⟩:=au.giveRows (k:=0) (n:=k) (tm:=tm) (nx:=nx) (kk:=2) 4 (λi=>Fr (2 * i+1)) (λi=>((t.rs[i]?).elim [] λr=>inS t.ls r.id).map Stp.v) (λi=>jI _) (λi j h=>by unfold Fr at h;omega) (λi=>by unfold Fr;omega) b4 t.rs.length
  (λi hi=>⟨by rw[odN,J',cK' hi];rfl,by
   rw[u' hi,a5 _ (by unfold Fr;omega) (λj _=>by unfold Fr;omega)];exact(hF i _ (u' hi)).2⟩)
 have e1:=key (λr=>jV (gW t.ls r.id)) v1 (by rw[a2,lC]) a3;have e2:=key (λr=>inS t.ls r.id) v2 (by rw[c2,lk]) c3;have lo:∀b,b<3→hp2 b=hp b:=λb hb=>by
  rw[c5 b (by omega) (λi _=>by unfold Fr;omega),a5 b (by omega) (λi _=>by unfold Fr;omega)]
 have m3:hp2 3=some (.map none (kyN (t.rs.map (·.id))) v1):=by rw[c5 3 (by decide) (λi _=>by unfold Fr;omega)];exact a1
 have z3:hp2 3=some (.map none ((cW t).map λp=>MK.n p.1) ((cW t).map λp=>AV.sl 2 (p.2.map Stp.v) false)):=by rw[m3,e1,ks];rfl
 have z4:hp2 4=some (.map none ((inG t).map λp=>MK.n p.1) ((inG t).map λp=>AV.sl 2 (p.2.map Stp.v) false)):=by rw[c1,e2,ks];rfl
 have hp1:(AV.agg [jr (cW t),jr (inG t)]).pure:=⟨trivial,trivial,trivial⟩
 have hr:=λπ=>AV.ren_pure π hp1;have hb:=λk=>AV.bel_pure (k:=k) hp1;have z5:upd (upd hp2 3 none) 2 (some (.box (.agg [jr (cW t),.mref 4]))) 4=some (.map none ((inG t).map λp=>MK.n p.1) ((inG t).map λp=>AV.sl 2 (p.2.map Stp.v) false)):=by
  rw[aj _ _ (by decide),aj _ _ (by decide)];exact z4
 refine w1.trans (w2.trans ((au.giveBM 2 0 3 (by rw[lo 2 (by decide)];exact h2) rfl z3 (tH _) rfl).trans ((au.giveBM 2 1 4 (cs:=[jr (cW t),.mref 4]) (ai _ _ _) rfl z5 (tH _) rfl).trans ?_)));show au 0 k _ ⟨cT [(2,.ref 1 0),(3,.ref 2 0)],hpL 0 [some (.box (Tpl.v t)),some (.box (.agg [.val (.map none),.val (.map none)])),some (.box (.agg [jr (cW t),jr (inG t)]))],3⟩;have u:∀{b},b<2→∀x,upd (upd (upd (upd hp2 3 none) 2 (some (Blk.box (AV.agg [jr (cW t),AV.mref 4])))) 4 none) 2 x b=hp b:=λ{b} hb x=>by
  rw[aj _ _ (by omega),aj _ _ (by omega),aj _ _ (by omega),aj _ _ (by omega),lo b (by omega)]
 refine au.nf [0,1,2] [(2,.ref 1 0),(3,.ref 2 0)] [some (.box (Tpl.v t)),some (.box (.agg [.val (.map none),.val (.map none)])),some (.box (.agg [jr (cW t),jr (inG t)]))] ?_ ?_ ⟨rfl,rfl⟩ (by decide) (by decide) (by decide)
 ·exact⟨⟨t2,show 1<3 by decide⟩,⟨t3,show 2<3 by decide⟩,trivial⟩
 ·refine⟨⟨(u (by decide) _).trans (h0.trans ?_),trivial,trivial,trivial⟩,⟨(u (by decide) _).trans (h1.trans ?_),trivial,trivial,trivial⟩,⟨(ai _ _ _).trans ?_,?_⟩,trivial⟩
  ·rfl
  ·rfl
  ·show _=some (Blk.box (AV.ren _ _));rw[hr];rfl
  ·exact hb _
def Dp:AC:=.seq (.reg [⟨(some 100),.faddr 0 (.t 3),none⟩,⟨(some 101),.load false 1 (.t 100),none⟩,⟨(some 102),.rng (.t 101),none⟩])
 (.block 4 (.loop (.seq (.reg [⟨(some 103),.nxt (.t 102),none⟩,⟨(some 104),.ext 0 (.t 103),none⟩])
 (.seq (.cond (.t 104) (.skip) (.exit 4))
 (.block 5 (.seq (.reg [⟨(some 105),.ent (.t 102),none⟩,⟨(some 106),.ext 0 (.t 105),none⟩,⟨(some 8),.move (.t 106),none⟩])
 (.reg [⟨(some 107),.faddr 0 (.t 3),none⟩,⟨(some 108),.load false 1 (.t 107),none⟩,⟨(some 109),.move (.t 8),none⟩,⟨(some 110),.mget none ((.sl 0 [] true)) false (.t 108) (.t 109),none⟩,⟨(some 111),.call (.c (.func 174 [])) [(.t 110),(.c (.func 175 []))],none⟩])))))))
def rdQ(t:Tpl)(ids:List Int)(a b:List AV)(st:List Nat)(ck:Nat)(seen:List Nat):List (Option Blk):=
 [some (.box (Tpl.v t)),some (.box (.agg [.val (.map none),.val (.map none)])),some (.box (.agg [.mref 3,.mref 4])),some (.mst none (kyN ids) a st ck),some (.map none (kyN ids) b),some (.itr 3 st ck seen)]
def rdR(t:Tpl)(M:List (List Stp))(st:List Nat)(ck:Nat)(seen:List Nat):S3:=
 ⟨cT [(2,.ref 1 0),(3,.ref 2 0),(102,.ref 5 0)],GS M (hpL 0 (rdQ t (t.rs.map (·.id)) (evN t.rs.length) (odN t.rs.length) st ck seen)),2000⟩
theorem NN{t:Tpl}{ids:List Int}{n:Nat}{hp:Hp}{bs fs:Nat→Nat}{a b:List AV}{st seen:List Nat}{ck:Nat}(hbs:bs 0=0∧bs 1=1∧bs 2=2∧bs 3=3∧bs 4=4)(hn:n≤400)(h0:hp 0=some (.box (Tpl.v t)))(h1:hp 1=some (.box (.agg [.val (.map none),.val (.map none)])))(h2:hp 2=some (.box (.agg [.mref 3,.mref 4])))
  (h3:hp 3=some (.mst none (kyN ids) a st ck)) (h4:hp 4=some (.map none (kyN ids) b)) (h5:hp (bs 5)=some (.itr 3 st ck seen)) (ha:a=(List.range n).map λi=>.vec (fs (2 * i))) (hb:b=(List.range n).map λi=>.vec (fs (2 * i+1))) :
  ∀i x,(rdQ t ids (evN n) (odN n) st ck seen)[i]?=some (some x)→hp (bs i)=some (x.ren (fL bs fs))∧x.bel 2000:=by
 obtain⟨b0,b1,b2,b3,b4⟩:=hbs;have e3:fL bs fs 3=3:=by rw[fk (by omega),b3]
 have e4:fL bs fs 4=4:=by rw[fk (by omega),b4]
 intro i x h
 rcases i with _|_|_|_|_|_|i
 ·cases h;exact⟨by rw[b0];exact h0,⟨trivial,trivial,trivial⟩⟩
 ·cases h;exact⟨by rw[b1];exact h1,⟨trivial,trivial,trivial⟩⟩
 ·cases h;exact⟨by rw[b2,h2];show _=some (Blk.box (.agg [.mref (fL bs fs 3),.mref (fL bs fs 4)]));rw[e3,e4],⟨show 3<2000 by omega,show 4<2000 by omega,trivial⟩⟩
 ·cases h;exact⟨by show hp (bs 3)=_;rw[b3,h3,Blk.ren,sj hn,ha],sm hn⟩
 ·cases h;exact⟨by show hp (bs 4)=_;rw[b4,h4,Blk.ren,rj hn,hb],rk hn⟩
 ·cases h;exact⟨by show hp (bs 5)=some (.itr (fL bs fs 3) st ck seen);rw[e3];exact h5,show 3<2000 by omega⟩
 ·simp[rdQ]at h
theorem rd_h3(t:Tpl)(hc:ay t=0)(k:Nat):dU Tryz.prog 0 k Dp (rdS t (eD t t.ls)) (rdE t).st:=by
 unfold dU Dp rdS;have hO:=ax hc;have hR:=hO.nr;have hml:=bv;have hM:=dH t t.ls;have hnd:(t.rs.map (·.id)).Nodup:=List.Pairwise.map _ (λa b h=>by omega) hO.asc;have hkO:∀q∈kyN (t.rs.map (·.id)),kOk q:=λq hq=>by
  obtain⟨x,hx,rfl⟩:=Y'.mp hq;obtain⟨r,hr,rfl⟩:=Y'.mp hx;have:=hO.rg r hr;show inK .i64 r.id;rw[Fl];omega
 have hG0:∀b,b<1000→GS (eD t t.ls) (hpL 0 (rdH t (t.rs.map (·.id)) (evN t.rs.length) (odN t.rs.length))) b=hpL 0 (rdH t (t.rs.map (·.id)) (evN t.rs.length) (odN t.rs.length)) b:=λb hb=>na hb;refine AWP.open 3 (hG0 3 (by decide)) λst ck hs1 hs2 hn hv=>?_;rw[kyN,B',B']at hs2;have g2:GS (eD t t.ls) (hpL 0 (rdH t (t.rs.map (·.id)) (evN t.rs.length) (odN t.rs.length))) 2=some (.box (.agg [.mref 3,.mref 4])):=hG0 2 (by decide);refine AWP.seq' ?_;refine AWP.reg' λK hK=>?_
 try simp only[ak,seval,g2]
 refine se rfl (ai _ _ _) ?_
 try simp only[ak,seval]
 refine hK _ _ _ ?_;clear hK K;refine AWP.block ?_
 refine AWP.loopS (λseen:List Nat=>rdR t (iS st seen (eD t t.ls)) st ck seen) (λseen=>seen.Nodup∧∀s∈seen,s∈st) (λseen=>st.length-seen.length) (i0:=[]) ⟨by simp,by simp⟩ ?_ ?_
 ·rw[CA]
  refine au.nfR cN _ _ _ (λb=>if b=5 then 2032 else b) Fr ?_ (NN ⟨rfl,rfl,rfl,rfl,rfl⟩ (by omega) ?_ ?_ ?_ ?_ ?_ ?_ rfl rfl) (by simp[rdQ]) (by omega) ?_ ?_ (λi j _ _ h=>by unfold Fr at h;omega) ?_ (λb hb=>by omega) (by decide)
  ·simp only[aR',aw',false_implies,implies_true,and_true];exact⟨⟨rfl,show 1<2000 by omega⟩,⟨rfl,show 2<2000 by omega⟩,rfl,show 5<2000 by omega⟩
  ·rw[aj _ _ (by decide),aj _ _ (by decide)];exact hG0 0 (by decide)
  ·rw[aj _ _ (by decide),aj _ _ (by decide)];exact hG0 1 (by decide)
  ·rw[aj _ _ (by decide),aj _ _ (by decide)];exact hG0 2 (by decide)
  ·rw[aj _ _ (by decide),ai];rfl
  ·rw[aj _ _ (by decide),aj _ _ (by decide)];exact hG0 4 (by decide)
  ·rfl
  ·intro j r hr;have hj:=ao hr;rw[aj _ _ (by unfold Fr;omega),aj _ _ (by unfold Fr;omega)];exact iL hr (by omega)
  ·intro a b ha hb he;simp only[rdQ,ab',ap']at ha hb
   (repeat' split at he)<;>omega
  ·intro a b ha hb he;simp only[rdQ,ab',ap']at ha;unfold Fr at he
   (repeat' split at he)<;>omega
 ·rintro seen ⟨hnd',hsub⟩;unfold rdR;have hS0:∀b,b<1000→GS (iS st seen (eD t t.ls)) (hpL 0 (rdQ t (t.rs.map (·.id)) (evN t.rs.length) (odN t.rs.length) st ck seen)) b=hpL 0 (rdQ t (t.rs.map (·.id)) (evN t.rs.length) (odN t.rs.length) st ck seen) b:=λb hb=>na hb;refine AWP.seq' ?_;refine AWP.reg' λK hK=>?_
  try simp only[ak,seval]
  refine sf rfl (hS0 5 (by decide)) (hS0 3 (by decide)) hkO (λhs=>?_) (λi q v s0 e1 e2 e3 e4=>?_)
  ·try simp only[ak,seval]
   refine hK _ _ _ ?_;clear hK K;refine AWP.seq' (AWP.cond (b:=false) rfl (λh=>by cases h) (λ_=>AWP.exit ?_));refine(show au 0 k _ _ from ?_)
   refine au.trans (au.close 3 (hS0 3 (by decide))) (Pm t rfl rfl ?_ ?_ ?_ ?_ ?_ ?_)
   ·rw[aj _ _ (by decide)];exact hS0 0 (by decide)
   ·rw[aj _ _ (by decide)];exact hS0 1 (by decide)
   ·rw[aj _ _ (by decide)];exact hS0 2 (by decide)
   ·rw[ai]
   ·rw[aj _ _ (by decide)];exact hS0 4 (by decide)
   ·intro i r hr;obtain⟨q1,q2⟩:=CC hc hs hs2 hr;rw[aj _ _ (by unfold Fr;omega),aj _ _ (by unfold Fr;omega)];exact⟨iL q1 (by rw[fp];omega),iL q2 (by rw[fp];omega)⟩
  ·have hi:i<t.rs.length:=by have:=ao e3;omega
   have hr:t.rs[i]?=some t.rs[i]:=u' hi;generalize t.rs[i]=r at hr;have e1':(kyN (t.rs.map (·.id)))[i]?=some (MK.n r.id):=by rw[kyN,J',J',hr];rfl
   rw[e1']at e1;cases e1;have e2':(evN t.rs.length)[i]?=some (.vec (Fr (2 * i))):=by rw[evN,J',cK' hi];rfl
   rw[e2']at e2;cases e2
   try simp only[ak,seval]
   refine hK _ _ _ ?_;clear hK K;refine AWP.seq' (AWP.cond (b:=true) rfl (λ_=>?_) (λh=>by cases h));refine AWP.skip ?_;refine AWP.block (AWP.seq' ?_);refine AWP.reg' λK hK=>?_
   try simp only[ak,seval]
   refine si (m:=3) rfl (ai _ _ _) ((aj _ _ (by decide)).trans ((aj _ _ (by decide)).trans (hS0 3 (by decide)))) e3 e1' e2' (hkO _ (O' e1')) ?_
   try simp only[ak,seval,kAV]
   refine hK _ _ _ ?_;clear hK K;refine(show AWP _ _ _ _ _ _ from ?_);obtain⟨hk1,hk2⟩:=lw hnd (show(t.rs.map (·.id))[i]?=some r.id by rw[J',hr];rfl);have hmg:dp (kyN (t.rs.map (·.id))) (evN t.rs.length) (MK.n r.id) (.sl 0 [] true) false=.vec (Fr (2 * i)):=by
    unfold dp;rw[G' hk1,hk2,sk hi];rfl
   obtain⟨q1,q2⟩:=oB hnd _ t.ls rfl (λl hl=>⟨hO.has l hl,hO.lt l hl⟩) i r hr;have q3:=CB (seen:=seen) q1 e3 e4;have gF:GS (iS st seen (eD t t.ls)) (hpL 0 (rdQ t (t.rs.map (·.id)) (evN t.rs.length) (odN t.rs.length) st ck seen)) (Fr (2 * i))=some (.vec 2 ((gW t.ls r.id).map Stp.v)):=iL q3 (by rw[fp];omega);have g2':GS (iS st seen (eD t t.ls)) (hpL 0 (rdQ t (t.rs.map (·.id)) (evN t.rs.length) (odN t.rs.length) st ck seen)) 2=some (.box (.agg [.mref 3,.mref 4])):=hS0 2 (by decide);have g3':GS (iS st seen (eD t t.ls)) (hpL 0 (rdQ t (t.rs.map (·.id)) (evN t.rs.length) (odN t.rs.length) st ck seen)) 3=some (.mst none (kyN (t.rs.map (·.id))) (evN t.rs.length) st ck):=hS0 3 (by decide);refine AWP.reg' λK hK=>?_
   try simp only[ak,seval,g2',g3',bA,dR,AV.key,hmg]
   refine⟨trivial,Gl (vF _ (zb hc r.id)) ⟨_,Tryz.func174,by kernel_rfl,by kernel_rfl⟩ ⟨trivial,trivial⟩ (jI _) (jI _) trivial rfl rfl ((aj _ _ (by unfold Fr;omega)).trans ((aj _ _ (by unfold Fr;omega)).trans gF)) ?_⟩
   try simp only[ak,seval]
   refine hK _ _ _ ?_;clear hK K;have hN:(seen++[s0]).Nodup:=ba'.mpr ⟨hnd',by simp,λa ha b hb=>by rw[L'.mp hb];rintro rfl;exact e4 ha⟩;have hS:∀s∈seen++[s0],s∈st:=λs hs=>by
    rcases X'.mp hs with hs|hs
    ·exact hsub s hs
    ·rw[L'.mp hs];exact O' e3
   have hL:st.length-(seen++[s0]).length<st.length-seen.length:=by
    have:=List.Nodup.length_le_of_subset hN hS;rw[List.length_append,List.length_singleton]at this ⊢;omega
   refine⟨seen++[s0],⟨hN,hS⟩,hL,?_⟩;rw[AK q1 e3 hs1 (by rw[hM,hs2])];have h5:∀i:Nat,¬5=Fr i:=λi=>by unfold Fr;omega
   refine au.nfR cN _ _ _ (λb=>b) Fr ?_ (NN ⟨rfl,rfl,rfl,rfl,rfl⟩ (by omega) ?_ ?_ ?_ ?_ ?_ ?_ rfl rfl) (by simp[rdQ]) (by rw[bG',fp];omega) ?_ (λi j _ _ h=>h) (λi j _ _ h=>by unfold Fr at h;omega) (λi j h1 h2 h=>by simp[rdQ]at h1;unfold Fr at h;omega) (λb _=>rfl) (by decide)
   ·simp only[aR',aw',false_implies,implies_true,and_true];exact⟨⟨rfl,show 1<2000 by omega⟩,⟨rfl,show 2<2000 by omega⟩,rfl,show 5<2000 by omega⟩
   ·rw[aj _ _ (by unfold Fr;omega),aj _ _ (by decide),aj _ _ (by decide)];exact hS0 0 (by decide)
   ·rw[aj _ _ (by unfold Fr;omega),aj _ _ (by decide),aj _ _ (by decide)];exact hS0 1 (by decide)
   ·rw[aj _ _ (by unfold Fr;omega),aj _ _ (by decide),aj _ _ (by decide)];exact hS0 2 (by decide)
   ·rw[aj _ _ (by unfold Fr;omega),aj _ _ (by decide),aj _ _ (by decide)];exact hS0 3 (by decide)
   ·rw[aj _ _ (by unfold Fr;omega),aj _ _ (by decide),aj _ _ (by decide)];exact hS0 4 (by decide)
   ·rw[aj _ _ (h5 _),ai]
   ·intro j q hj;have hjl:=ao hj;rw[bG',fp]at hjl;rw[ao']at hj
    by_cases e:2 * i=j
    ·subst e;rw[G' rfl,G' (by rw[fp];omega)]at hj;cases hj;rw[ai]
    ·rw[F' e]at hj;rw[aj _ _ (by unfold Fr;omega),aj _ _ (by unfold Fr;omega),aj _ _ (by unfold Fr;omega)];exact iL hj (by rw[fp];omega)
structure Grh where
  out:Lks
  inn:Lks
def Grh.v(x:Grh):AV:=.agg [jr x.out,jr x.inn]
def nq(t:Tpl):Grh:=⟨cW t,inG t⟩
def FC(r:Grh):AV:=Grh.v r
def xe(t:Tpl)(hc:ay t=0):Ax Tryz.prog noS (Grh):=
 (.pass (.pass (.hand 0 [] (rd_m t) [0,16,80,32,48] (rdS t (List.replicate (2 * (t).rs.length) [])) Dr (rd_h1 t hc)
(.hand2 0 (rdS t (List.replicate (2 * (t).rs.length) [])) (rdS t (eD t (t).ls)) Dq (rd_h2 t hc)
(.hand2 0 (rdS t (eD t (t).ls)) ((rdE t).st) Dp (rd_h3 t hc)
(.ret (nq t)))))))
theorem QC(t:Tpl)(hc:ay t=0):(xe t hc).vp FC (nq t):=by
 dsimp only[xe,noS,Ax.vp,Ax.vc];simp only[vcU,rfU,B']
def QD(t:Tpl)(hc:ay t=0):PC Tryz.prog:=pcO 157 [(.a [(.s 2),(.s 5)])] [Tpl.v t] .k FC (nq t) (λ_=>⟨(xe t hc),QC t hc,by kernel_rfl⟩) rfl (by kernel_rfl)
theorem fT{l:List Lnk}(h:l.Pairwise aM){i j:Nat}(hij:i<j){x y:Lnk}(hx:l[i]?=some x)(hy:l[j]?=some y):aM x y:=by
 have hi:=ao hx;have hj:=ao hy;rw[u' hi]at hx;rw[u' hj]at hy;have:=ax'.mp h i j hi hj hij;rw[af' hx,af' hy]at this;exact this
theorem Fx{l:List Lnk}(h:l.Pairwise aM)(k:Lnk):(c9 l k=l.any (ik k))∧∀x∈l,ik k x=true→l[aI l k]?=some x:=by
 refine At (λa b x y hab hx hy e=>?_) (λx e=>?_) λa b x y hab hx hy e=>?_
 ·have:=fT h hab hx hy;simp[mj]at e ⊢;unfold aM at *;omega
 ·simp[ik]at e;simp[mj];unfold aM;omega
 ·have:=fT h hab hx hy;simp[ik]at e;simp[mj];unfold aM at *;omega
def pM(f g:Int):Lnk:=⟨eI f g,dZ f g,0,0,0⟩
theorem yW{t:Tpl}(hc:ay t=0)(f g:Int):c9 t.ls (pM f g)=(aU t f g).2∧∀x,c9 t.ls (pM f g)=true→t.ls[aI t.ls (pM f g)]?=some x→(aU t f g)=(if f<g then x.ca else x.cb,true):=by
 have hO:=ax hc;obtain⟨k1,k2⟩:=Fx hO.ord (pM f g);have key:∀x∈t.ls,gK f g x=ik (pM f g) x:=λx hx=>by
  have:=hO.lt x hx;unfold gK ik pM;rw[ae',S'];simp only[aK',R',aL'];unfold eI dZ
  constructor
  ·intro h;(repeat' split)<;>omega
  ·intro h;(repeat' split at h)<;>omega
 have hany:t.ls.any (ik (pM f g))=(t.ls.find? (gK f g)).isSome:=by
  rw[ae',ac',List.find?_isSome];exact⟨λ⟨x,hx,e⟩=>⟨x,hx,by rw[key x hx];exact e⟩,λ⟨x,hx,e⟩=>⟨x,hx,by rw[←key x hx];exact e⟩⟩
 refine⟨?_,λx hh hx=>?_⟩
 ·rw[k1,hany];unfold aU;cases q:t.ls.find? (gK f g)with
  | none=>rfl
  | some y=>rfl
 ·rw[k1,hany]at hh;unfold aU;cases q:t.ls.find? (gK f g)with
  | none=>rw[q]at hh;cases hh
  | some y =>
   have hy:=bl' q;have e:=cv' q;have e':=e;rw[key y hy]at e';have:=k2 y hy e';rw[hx]at this;cases this;have hlt:=hO.lt x hy;simp only;unfold gK at e;simp only[aK',R',aL']at e
   congr 1
   by_cases c:x.a=f∧x.b=g
   ·rw[G' (by simp[c]),G' (by omega)]
   ·rw[F' (by simpa using c),F' (by omega)]
def GY(r:Int×Bool):AV:=.tup [.int r.1,.bool r.2]
def xD(t:Tpl)(from_:Int)(to_:Int):Ax Tryz.prog noS (Int×Bool):=
 (.callP (vq t)
(.br 96 (!(iY t)) (.ret (0,false))
(.req 240 (t.ls.length≤1000000) λh1 =>
(.callP (Om t.ls (⟨eI from_ to_,dZ from_ to_,0,0,0⟩:Lnk) h1)
(.br 384 (!(c9 t.ls (⟨eI from_ to_,dZ from_ to_,0,0,0⟩:Lnk))) (.ret (0,false))
(.br 448 (decide (from_<to_)) (.elI 496 Lnk.v t.ls (aI t.ls (⟨eI from_ to_,dZ from_ to_,0,0,0⟩:Lnk):Int) λx2 =>
(.ret (x2.ca,true)))
(.elI 496 Lnk.v t.ls (aI t.ls (⟨eI from_ to_,dZ from_ to_,0,0,0⟩:Lnk):Int) λx3 =>
(.ret (x3.cb,true)))))))))
theorem R1(t:Tpl)(f g:Int):(xD t f g).vp GY (bC t f g):=by
 dsimp only[xD,noS,Ax.vp,Ax.vc];simp only[vcU,rfU,B'];unfold bC iY
 by_cases hc:ay t=0
 ·have hl:=(ax hc).nl;obtain⟨p1,p2⟩:=yW hc f g
  change c9 t.ls ⟨eI f g,dZ f g,0,0,0⟩=_ at p1
  change ∀x,c9 t.ls ⟨eI f g,dZ f g,0,0,0⟩=true→t.ls[aI t.ls ⟨eI f g,dZ f g,0,0,0⟩]?=some x→_ at p2
  generalize (⟨eI f g,dZ f g,0,0,0⟩:Lnk)=kk at p1 p2 ⊢;rw[hc]
  refine⟨λh=>by simp at h,λ_=>⟨by omega,λh=>?_,λh=>?_⟩⟩
  ·have h:c9 t.ls kk=false:=by simpa using h
   rw[F' (by simp)];rw[h]at p1;unfold aU at p1 ⊢;cases q:t.ls.find? (gK f g)with
   | none=>rfl
   | some y=>rw[q]at p1;cases p1
  ·have h:c9 t.ls kk=true:=by simpa using h
   have hp:aI t.ls kk<t.ls.length:=by
    refine P' λq=>?_;unfold c9 bsH at h;rw[aj' (by unfold aI at q;omega)]at h;cases h
   rw[F' (by simp)]
   refine⟨λc=>⟨by omega,by omega,λx hx=>?_⟩,λc=>⟨by omega,by omega,λx hx=>?_⟩⟩
   ·rw[p2 x h (by rw[Int.toNat_natCast]at hx;exact hx),G' c]
   ·rw[p2 x h (by rw[Int.toNat_natCast]at hx;exact hx),F' c]
 ·rw[G' hc];refine⟨λ_=>rfl,λh=>?_⟩;simp[hc]at h
def pq(t:Tpl)(from_:Int)(to_:Int):PC Tryz.prog:=pcO 92 [(.a [(.s 2),(.s 5)]),.k,.k] [Tpl.v t,.int from_,.int to_] .k GY (bC t from_ to_) (λ_=>⟨(xD t from_ to_),R1 t from_ to_,by kernel_rfl⟩) rfl (by kernel_rfl)
theorem pL{α:Type}{l:List α}{k:Nat}{x:α}(hx:l[k]?=some x){P:α→Prop}:(∀y∈l.take (k+1),P y)↔(∀y∈l.take k,P y)∧P x:=by
 rw[aP hx]
 constructor
 ·intro h;exact⟨λy hy=>h y (cl' _ hy),h x (by simp)⟩
 ·rintro⟨h1,h2⟩ y hy
  rcases X'.mp hy with hy|hy
  ·exact h1 y hy
  ·rw[L'.mp hy];exact h2
def iW{α:Type}(l:List α)(p:α→Bool)(t:Int)(a:List α):Prop:=∃k:Nat,t=k∧k≤l.length∧a=(l.take k).filter p
section
variable {α : Type} {l a : List α} {p : α → Bool} {t : Int} {x : α}
theorem iW.zero:iW l p 0 []:=⟨0,rfl,by omega,by simp⟩
theorem iW.idx(h:iW l p t a):0≤t:=by obtain⟨k,rfl,_,_⟩:=h;omega
theorem iW.len(h:iW l p t a):a.length≤l.length:=by
 obtain⟨k,rfl,_,rfl⟩:=h;exact aI' (bq' _ _) (by rw[ar'];omega)
theorem iW.keep(h:iW l p t a)(hl:l.length≤9223372036854775807)(hx:l[t.toNat]?=some x)(e:p x=true):iW l p (W (t+1)) (a++[x])∧l.length-(W (t+1)).toNat<l.length-t.toNat:=by
 obtain⟨k,rfl,hk,rfl⟩:=h;rw[Int.toNat_natCast]at hx;have hlt:=ao hx;rw[bf (n:=l.length) hlt hl];exact⟨⟨k+1,rfl,by omega,by rw[aP hx,bw'];simp[e]⟩,by omega⟩
theorem iW.drop(h:iW l p t a)(hl:l.length≤9223372036854775807)(hx:l[t.toNat]?=some x)(e:p x=false):iW l p (W (t+1)) a∧l.length-(W (t+1)).toNat<l.length-t.toNat:=by
 obtain⟨k,rfl,hk,rfl⟩:=h;rw[Int.toNat_natCast]at hx;have hlt:=ao hx;rw[bf (n:=l.length) hlt hl];exact⟨⟨k+1,rfl,by omega,by rw[aP hx,bw'];simp[e]⟩,by omega⟩
theorem iW.done(h:iW l p t a)(c:¬t<l.length):a=l.filter p:=by
 obtain⟨k,rfl,hk,rfl⟩:=h;rw[ai' (by omega)]
end
def i9(l:List Int)(v:Int):Int:=match l.findIdx? λx=>decide (v=x)with
 | some i=>i
 | none=>-1
theorem tV{l:List Int}{r:Int}{i:Nat}(hx:l[i]?=some r)(hb:∀y∈l.take i,r≠y):i9 l r=i:=by
 obtain⟨hi,hxi⟩:=Z'.mp hx;have:l.findIdx? (λp=>decide (r=p))=some i:=by
  rw[List.findIdx?_eq_some_iff_getElem];refine⟨hi,by rw[hxi];simp,λj hj=>?_⟩;have:=hb l[j] (O' (i:=j) (by rw[aE',G' hj,u' (by omega)]));simpa using this
 unfold i9;rw[this]
theorem tX{l:List Int}{r:Int}(hb:∀y∈l,r≠y):i9 l r=-1:=by
 have:l.findIdx? (λp=>decide (r=p))=none:=by
  rw[List.findIdx?_eq_none_iff];intro x hx;simpa using hb x hx
 unfold i9;rw[this]
def tZ(s:List Int)(v:Int):=okL [.sl 1 (s.map AV.int) false,.int v]
def Bp(s:List Int)(v:Int)(t0:Int):NF:=⟨[(0,.k,.sl 1 (s.map AV.int) false),rI 1 v,rI 7 ((s.map AV.int).length:Int),rI 8 t0],[]⟩
@[reducible] def tW:Nat→Type
 | 0=>Int
 | _=>Unit
def tY(r:Int):AV:=.int r
def tU(s:List Int)(v:Int)(I0:Int→Prop)(m0:Int→Nat):Ax Tryz.prog tW (Int):=
 (.loop 0 (Bp s v) I0 m0 ((0):Int) [] λ(t0:Int) b0 =>
(.br 16 (decide (t0<((s.map AV.int).length:Int))) (.elI 96 AV.int s t0 λx1 =>
(.br 144 (v==x1) (.ret (t0))
(.bk 0 b0 ((W (t0+1)):Int) [])))
(.ret (-1))))
theorem Fi(l:List Int)(v:Int)(ok:tZ l v):∃I m,(tU l v I m).vp tY (i9 l v):=by
 simp only[tZ,okU,Blk.ok,aJ,B']at ok;refine⟨λt=>∃k:Nat,t=k∧k≤l.length∧∀x∈l.take k,v≠x,λt=>l.length-t.toNat,?_⟩;dsimp only[tU,tW,Ax.vp,Ax.vc];simp only[vcU,rfU,B'];have hle:l.length≤9223372036854775807:=ok.1.1;refine⟨⟨0,rfl,by omega,by simp⟩,?_⟩;rintro _ ⟨k,rfl,hk,hI⟩;simp only[Int.toNat_natCast]
 refine⟨λh1=>⟨by omega,by omega,λx hx=>⟨λe=>?_,λe=>?_⟩⟩,λh1=>?_⟩
 ·have e:v=x:=by simpa using e
  subst e;rw[tV hx hI]
 ·rw[bf (n:=l.length) (by omega) (by omega)];exact⟨⟨k+1,rfl,by omega,(pL hx).mpr ⟨hI,by simpa using e⟩⟩,by omega⟩
 ·rw[ai' (by omega)]at hI;rw[tX hI]
def Fj(s:List Int)(v:Int):PC Tryz.prog:=pcO 109 [(.s 1),.k] [.sl 1 (s.map AV.int) false,.int v] .k tY (i9 s v) (λok=>let ⟨I0,m0,h⟩:=Fi s v ok;⟨_,h,by kernel_rfl⟩) rfl (by kernel_rfl)
theorem Bo{l:List Int}{v:Int}:0≤i9 l v↔v∈l:=by
 unfold i9;cases e:l.findIdx? (λp=>decide (v=p))with
 | none =>
  rw[List.findIdx?_eq_none_iff]at e;simp only;refine⟨λh=>by omega,λh=>by have:=e v h;simp at this⟩
 | some i =>
  rw[List.findIdx?_eq_some_iff_getElem]at e;obtain⟨h1,h2,_⟩:=e;simp only;refine⟨λ_=>?_,λ_=>by omega⟩;have:v=l[i]:=by simpa using h2
  rw[this];exact aA' h1
def Al(r:Bool):AV:=.bool r
def sB(s:List Int)(v:Int):Ax Tryz.prog noS (Bool):=
 (.callP (Fj s v)
(.ret (decide (0≤(i9 s v)))))
theorem Md(l:List Int)(v:Int):(sB l v).vp Al (decide (v∈l)):=by
 dsimp only[sB,noS,Ax.vp,Ax.vc];simp only[vcU,rfU,B'];exact decide_eq_decide.mpr Bo
def fV(s:List Int)(v:Int):PC Tryz.prog:=pcO 69 [(.s 1),.k] [.sl 1 (s.map AV.int) false,.int v] .k Al (decide (v∈s)) (λ_=>⟨(sB s v),Md s v,by kernel_rfl⟩) rfl (by kernel_rfl)
structure Hop where
  a:Int
  b:Int
  deriving DecidableEq
def Hop.v(h:Hop):AV:=.agg [.int h.a,.int h.b]
structure Flr where
  ls:List Hop
  rs:List Int
def Flr.v(f:Flr):AV:=.agg [.sl 2 (f.ls.map Hop.v) false,.sl 1 (f.rs.map AV.int) false]
def nmd(l:List Hop)(a b:Int):Bool:=decide (⟨a,b⟩∈l) || decide (⟨b,a⟩∈l)
def gone(f:Flr)(l:Lnk):Bool:=decide (l.a∈f.rs) || (decide (l.b∈f.rs) || nmd f.ls l.a l.b)
def AG(t:Tpl)(f:Flr):Tpl:=if ay t=0 then⟨t.rs.filter λr=>!decide (r.id∈f.rs),t.ls.filter λl=>!gone f l⟩else⟨[],[]⟩
def F3(l:List Int)(n:Int):=okL [.sl 1 (l.map AV.int) false,.int n]
def Lp(l:List Int)(n:Int)(t0:Int):NF:=⟨[(0,.k,.sl 1 (l.map AV.int) false),rI 1 n,rI 5 t0],[]⟩
@[reducible] def F1:Nat→Type
 | 0=>Int
 | _=>Unit
def F2(r:Bool):AV:=.bool r
def F0(l:List Int)(n:Int)(I0:Int→Prop)(m0:Int→Nat):Ax Tryz.prog F1 (Bool):=
 (.loop 0 (Lp l n) I0 m0 ((0):Int) [] λ(t0:Int) b0 =>
(.br 64 (decide (t0<((l.map AV.int).length:Int))) (.elI 96 AV.int l t0 λx1 =>
(.br 160 (x1==n) (.ret (true))
(.bk 0 b0 ((W (t0+1)):Int) [])))
(.ret (false))))
theorem Q9(l:List Int)(n:Int)(ok:F3 l n):∃I m,(F0 l n I m).vp F2 (decide (n∈l)):=by
 refine⟨λt=>ba l (λy=>y≠n) t,λt=>l.length-t.toNat,?_⟩;simp only[F3,okU,Blk.ok,aJ,B']at ok;dsimp only[F0,F1,Ax.vp,Ax.vc];simp only[vcU,rfU,B']
 refine⟨ba.zero,λt h=>⟨λc=>⟨h.idx,c,λx hx=>⟨λq=>?_,λq=>h.step (by omega) hx (by simpa using q)⟩⟩,λc=>?_⟩⟩
 ·have q:=eq_of_beq q;subst q;exact(decide_eq_true (cd hx)).symm
 ·exact(decide_eq_false λq=>h.done c n q rfl).symm
def kA(l:List Int)(n:Int):PC Tryz.prog:=pcO 75 [(.s 1),.k] [.sl 1 (l.map AV.int) false,.int n] .k F2 (decide (n∈l)) (λok=>let ⟨I0,m0,h⟩:=Q9 l n ok;⟨_,h,by kernel_rfl⟩) rfl (by kernel_rfl)
def nm1(a b:Int)(x:Hop):Bool:=(x.a==a && x.b==b) || (x.a==b && x.b==a)
def Ee(l:List Hop)(a:Int)(b:Int):=okL [.sl 2 (l.map Hop.v) false,.int a,.int b]
def K2(l:List Hop)(a:Int)(b:Int)(t0:Int):NF:=⟨[(0,.k,.sl 2 (l.map Hop.v) false),rI 1 a,rI 2 b,rI 7 t0],[]⟩
def K1(l:List Hop)(a:Int)(b:Int)(t0:Int)(t1:Bool):NF:=⟨[(0,.k,.sl 2 (l.map Hop.v) false),rI 1 a,rI 2 b,rI 7 t0,rB 47 t1],[]⟩
@[reducible] def Ec:Nat→Type
 | 0=>Int
 | 1=>Bool
 | _=>Unit
def Ed(r:Bool):AV:=.bool r
def Eb(l:List Hop)(a:Int)(b:Int)(I0:Int→Prop)(m0:Int→Nat)(I1:Int→Bool→Prop):Ax Tryz.prog Ec (Bool):=
 (.loop 0 (K2 l a b) I0 m0 ((0):Int) [] λ(t0:Int) b0 =>
(.br 64 (decide (t0<((l.map Hop.v).length:Int))) (.pass (.join 1 (K1 l a b t0) (λ(t1:Bool)=>I1 t0 t1) (λb1=>(.elI 96 Hop.v l t0 λx1 =>
(.br 192 (x1.a==a) (.elI 224 Hop.v l t0 λx2 =>
(.br 336 (x2.b==b) (.bk 1 b1 ((true):Bool) [])
(.elI 368 Hop.v l t0 λx3 =>
(.br 464 (x3.a==b) (.elI 496 Hop.v l t0 λx4 =>
(.bk 1 b1 ((x4.b==a):Bool) []))
(.bk 1 b1 ((false):Bool) [])))))
(.elI 368 Hop.v l t0 λx5 =>
(.br 464 (x5.a==b) (.elI 496 Hop.v l t0 λx6 =>
(.bk 1 b1 ((x6.b==a):Bool) []))
(.bk 1 b1 ((false):Bool) [])))))) λ(t1:Bool) =>
(.br 0 t1 (.ret (true))
(.bk 0 b0 ((W (t0+1)):Int) []))))
(.ret (false))))
theorem PT(l:List Hop)(a b:Int)(ok:Ee l a b):∃I0 m0 I1,(Eb l a b I0 m0 I1).vp Ed (nmd l a b):=by
 refine⟨λt=>ba l (λy=>nm1 a b y=false) t,λt=>l.length-t.toNat,λt r=>∀x,l[t.toNat]?=some x→r=nm1 a b x,?_⟩;simp only[Ee,Hop.v,okU,Blk.ok,aJ,B']at ok;dsimp only[Eb,Ec,Ax.vp,Ax.vc];simp only[vcU,rfU,B'];have e0:nmd l a b=l.any (nm1 a b):=by
  unfold nmd nm1;rw[ae',ac',aK',S',S'];simp only[aK',R',aL']
  constructor
  ·rintro(h|h)
   ·exact⟨_,h,.inl ⟨rfl,rfl⟩⟩
   ·exact⟨_,h,.inr ⟨rfl,rfl⟩⟩
  ·rintro⟨⟨u,v⟩,h,⟨rfl,rfl⟩|⟨rfl,rfl⟩⟩
   ·exact .inl h
   ·exact .inr h
 rw[e0]
 refine⟨ba.zero,λi h=>⟨λc=>⟨⟨h.idx,c,λx hx=>⟨λq=>⟨h.idx,c,λx2 hx2=>⟨λq2 x3 hx3=>?_,λq2=>⟨h.idx,c,λx3 hx3=>⟨λq3=>⟨h.idx,c,λx4 hx4 x5 hx5=>?_⟩,λq3 x4 hx4=>?_⟩⟩⟩⟩,λq=>⟨h.idx,c,λx3 hx3=>⟨λq3=>⟨h.idx,c,λx4 hx4 x5 hx5=>?_⟩,λq3 x4 hx4=>?_⟩⟩⟩⟩,?_⟩,λc=>?_⟩⟩
 ·rw[hx]at hx2 hx3;cases hx2;cases hx3;simp[nm1,q,q2]
 ·rw[hx]at hx2 hx3 hx4 hx5;cases hx2;cases hx3;cases hx4;cases hx5;simp[nm1,q2,q3]
 ·rw[hx]at hx2 hx3 hx4;cases hx2;cases hx3;cases hx4;simp[nm1,q2,q3]
 ·rw[hx]at hx3 hx4 hx5;cases hx3;cases hx4;cases hx5;simp[nm1,q,q3]
 ·rw[hx]at hx3 hx4;cases hx3;cases hx4;simp[nm1,q,q3]
 ·intro r hr;have hx:=u' (show i.toNat<l.length by have:=h.idx;omega);have hr:=hr _ hx;subst hr;exact⟨λq=>(ac'.mpr ⟨_,cd hx,q⟩).symm,λq=>h.step (by omega) hx q⟩
 ·symm
  rw[bZ'];intro q;obtain⟨x,hx,e⟩:=ac'.mp q;rw[h.done c x hx]at e;cases e
def PU(l:List Hop)(a:Int)(b:Int):PC Tryz.prog:=pcO 116 [(.s 2),.k,.k] [.sl 2 (l.map Hop.v) false,.int a,.int b] .k Ed (nmd l a b) (λok=>let ⟨I0,m0,I1,h⟩:=PT l a b ok;⟨_,h,by kernel_rfl⟩) rfl (by kernel_rfl)
def j6(t:Tpl):Bool:=!t.rs.any HH
def Ca(t:Tpl)(f:Flr):=okL [Tpl.v t,Flr.v f]
def IX(t:Tpl)(f:Flr)(t0:Int×List Rtr):NF:=⟨[rR 2 0,rR 3 1,rR 4 2,rR 5 3,rI 6 t0.1],[.box (Tpl.v t),.box (Flr.v f),.box (.agg [.sl 0 [] true,.sl 0 [] true]),.box (.agg [.vec 4,.sl 0 [] true]),vB 2 Rtr.v t0.2 (λ_=>rfl)]⟩
def IW(t:Tpl)(f:Flr)(t0:Int×List Rtr)(t1:Int×List Lnk):NF:=⟨[rR 2 0,rR 3 1,rR 4 2,rR 5 3,rI 7 t1.1],[.box (Tpl.v t),.box (Flr.v f),.box (.agg [.sl 0 [] true,.sl 0 [] true]),.box (.agg [.vec 4,.vec 5]),vB 2 Rtr.v t0.2 (λ_=>rfl),vB 5 Lnk.v t1.2 (λ_=>rfl)]⟩
def IV(t:Tpl)(f:Flr)(t0:Int×List Rtr)(t1:Int×List Lnk)(x3:Lnk)(t2:Bool):NF:=⟨[rR 2 0,rR 3 1,rR 4 2,rR 5 3,rI 7 t1.1,rR 8 6,rB 75 t2],[.box (Tpl.v t),.box (Flr.v f),.box (.agg [.sl 0 [] true,.sl 0 [] true]),.box (.agg [.vec 4,.vec 5]),vB 2 Rtr.v t0.2 (λ_=>rfl),vB 5 Lnk.v t1.2 (λ_=>rfl),.box (Lnk.v x3)]⟩
@[reducible] def BY:Nat→Type
 | 0=>Int×List Rtr
 | 1=>Int×List Lnk
 | 2=>Bool
 | _=>Unit
def BZ(r:Tpl):AV:=Tpl.v r
def BX(t:Tpl)(f:Flr)(I0:(Int×List Rtr)→Prop)(m0:(Int×List Rtr)→Nat)(I1:Int×List Rtr→(Int×List Lnk)→Prop)(m1:Int×List Rtr→(Int×List Lnk)→Nat)(I2:Int×List Rtr→Int×List Lnk→Lnk→Bool→Prop):Ax Tryz.prog BY (Tpl):=
 (.callP (px t)
(.br 96 ((ay t) != 0) (.ret ((⟨[],[]⟩:Tpl)))
(.cmdL (.nilB 96 0 2) (.loop 0 (IX t f) I0 m0 (0,[]) [0,16,32,96,128] λ(t0:Int×List Rtr) b0 =>
(.br 85 (decide (t0.1<((t.rs.map Rtr.v).length:Int))) (.elI 165 Rtr.v t.rs t0.1 λx1 =>
(.callP (kA f.rs x1.id)
(.br 245 (!(decide (x1.id∈f.rs))) (.elI 325 Rtr.v t.rs t0.1 λx2 =>
(.apX 373 Rtr.v t0.2 [x2] (t0.2.length+1)
(.bk 0 b0 (W (t0.1+1),t0.2++[x2]) [0,1,2,3,373])))
(.bk 0 b0 (W (t0.1+1),t0.2) [0,1,2,3,4]))))
(.cmdL (.nilB 3 1 5) (.loop 1 (IW t f t0) (I1 t0) (m1 t0) (0,[]) [0,1,2,3,4,101] λ(t1:Int×List Lnk) b1 =>
(.br 86 (decide (t1.1<((t.ls.map Lnk.v).length:Int))) (.elI 134 Lnk.v t.ls t1.1 λx3 =>
(.join 2 (IV t f t0 t1 x3) (λ(t2:Bool)=>I2 t0 t1 x3 t2) (λb2=>(.callP (kA f.rs x3.a)
(.br 310 (!(decide (x3.a∈f.rs))) (.callP (kA f.rs x3.b)
(.br 438 (!(decide (x3.b∈f.rs))) (.callP (PU f.ls x3.a x3.b)
(.bk 2 b2 ((!(nmd f.ls x3.a x3.b)):Bool) [0,1,2,3,4,5,166]))
(.bk 2 b2 ((false):Bool) [0,1,2,3,4,5,166])))
(.bk 2 b2 ((false):Bool) [0,1,2,3,4,5,166])))) λ(t2:Bool) =>
(.br 7 t2 (.apX 71 Lnk.v t1.2 [x3] (t1.2.length+1)
(.bk 1 b1 (W (t1.1+1),t1.2++[x3]) [0,1,2,3,4,71]))
(.bk 1 b1 (W (t1.1+1),t1.2) [0,1,2,3,4,5]))))
(.fz 5 Lnk.v t1.2 (λ_=>rfl) (.fz 4 Rtr.v t0.2 (λ_=>rfl) (.ret ((⟨t0.2,t1.2⟩:Tpl)))))))))))))
theorem O0(t:Tpl)(f:Flr)(ok:Ca t f):∃I0 m0 I1 m1 I2,(BX t f I0 m0 I1 m1 I2).vp BZ (AG t f):=by
 refine⟨λq=>iW t.rs (λr=>!decide (r.id∈f.rs)) q.1 q.2,λq=>t.rs.length-q.1.toNat,λ_ q=>iW t.ls (λl=>!gone f l) q.1 q.2,λ_ q=>t.ls.length-q.1.toNat,λ_ q l b=>b=!gone f l,?_⟩;simp only[Ca,Flr.v,Tpl.v,okU,Blk.ok,aJ,B']at ok;dsimp only[BX,BY,Ax.vp,Ax.vc];simp only[vcU,rfU,B'];unfold AG;by_cases hc:ay t=0
 case neg=>exact⟨λ_=>by rw[F' hc],λh=>by simp[hc]at h⟩
 have h1:=(ax hc).nr;have h2:=(ax hc).nl;rw[G' hc];refine⟨λh=>by simp[hc]at h,λ_=>⟨iW.zero,?_⟩⟩;rintro⟨i,rs⟩ hF;simp only at hF ⊢
 refine⟨λc=>⟨hF.idx,c,λx hx=>⟨λe=>⟨hF.idx,c,λy hy=>?_⟩,λe=>hF.drop (by omega) hx e⟩⟩,λc=>⟨iW.zero,?_⟩⟩
 ·rw[hx]at hy;cases hy;exact⟨by have:=hF.len;omega,hF.keep (by omega) hx e⟩
 rintro⟨j,ls⟩ hG;simp only at hG ⊢
 refine⟨λd=>⟨hG.idx,d,λx hx=>⟨⟨λe=>⟨λe2=>?_,λe2=>?_⟩,λe=>?_⟩,?_⟩⟩,λd=>?_⟩
 ·have e:¬x.a∈f.rs:=by simpa using e
  have e2:¬x.b∈f.rs:=by simpa using e2
  simp[gone,e,e2]
 ·have e2:x.b∈f.rs:=by simpa using e2
  simp[gone,e2]
 ·have e:x.a∈f.rs:=by simpa using e
  simp[gone,e]
 ·rintro _ rfl;exact⟨λe=>⟨by have:=hG.len;omega,hG.keep (by omega) hx e⟩,λe=>hG.drop (by omega) hx e⟩
 ·rw[hF.done c,hG.done d]
def O1(t:Tpl)(f:Flr):PC Tryz.prog:=pcO 81 [(.a [(.s 2),(.s 5)]),(.a [(.s 2),(.s 1)])] [Tpl.v t,Flr.v f] (.a [(.s 2),(.s 5)]) BZ (AG t f) (λok=>let ⟨I0,m0,I1,m1,I2,h⟩:=O0 t f ok;⟨_,h,by kernel_rfl⟩) rfl (by kernel_rfl)
def yn(r:Bool):AV:=.bool r
def qD(t:Tpl):Ax Tryz.prog noS (Bool):=
 (.callP (Hq t)
(.ret ((ay t)==0)))
theorem Jc(t:Tpl):(qD t).vp yn (iY t):=by
 dsimp only[qD,noS,Ax.vp,Ax.vc];simp only[vcU,rfU,B'];rfl
def Jd(t:Tpl):PC Tryz.prog:=pcO 155 [(.a [(.s 2),(.s 5)])] [Tpl.v t] .k yn (iY t) (λ_=>⟨(qD t),Jc t,by kernel_rfl⟩) rfl (by kernel_rfl)
structure mR (L:Lks):Prop where
  len:L.length≤1000000
  nd:(ap L).Nodup
  to:∀x,∀s∈av L x [],s.to∈ap L
  cost:∀x,∀s∈av L x [],1≤s.cost∧s.cost≤1000
structure DJ (L:Lks) (f:Int) (out op:Dis):Prop where
  di:kL L out op
  src:(f,0)∈out∨(f,0)∈op
  tgt:∀p,p∈out∨p∈op→p.1≠f→∃q∈out,∃s∈av L q.1 [],s.to=p.1∧p.2=q.2+s.cost
  mon:∀p∈out,∀q∈op,p.2≤q.2
  bnd:∀p,p∈out∨p∈op→0≤p.2∧p.2≤1000 * out.length
theorem DJ.relx{L:Lks}{f:Int}{out op:Dis}{b c:Int}(hL:mR L)(h:DJ L f out op)(hb:(b,c)∈out)(ht:∀p∈out,p.2≤c)(hc:c+1000≤1000 * out.length){s:Stp}(hs:s∈av L b []) :
  DJ L f out (relx c out op s)∧(∀x n,(x,n)∈op→∃m,m≤n∧(x,m)∈Go.Proofs.YtdoacjojljgdcaaGreat.relx c out op s)∧∃n,n≤c+s.cost∧((s.to,n)∈out∨(s.to,n)∈Go.Proofs.YtdoacjojljgdcaaGreat.relx c out op s):=by
 obtain⟨c1,c2⟩:=hL.cost b s hs;have c0:=(h.bnd _ (.inl hb)).1;have hDi:=h.di.relx (c:=c) (hL.to b s hs);have hlen:=h.di.len1;have hll:=hL.len;have hW:W (c+s.cost)=c+s.cost:=ce ⟨by omega,by omega⟩
 revert hDi
 unfold Go.Proofs.YtdoacjojljgdcaaGreat.relx;rw[hW]
 by_cases e1:aY out s.to=true
 ·rw[G' e1];intro hDi;refine⟨h,λx n hx=>⟨n,bg' _,hx⟩,?_⟩;obtain⟨n,hn⟩:=bV.mp e1;exact⟨n,by have:=ht _ hn;simp at this;omega,.inl hn⟩
 rw[F' e1]
 by_cases e2:aY op s.to=false∨c+s.cost<av op s.to 0
 ·rw[G' e2];intro hDi;have hm:=λp=>cw (l:=op) (p:=p) (x:=s.to) (v:=c+s.cost) h.di.np
  refine⟨⟨hDi,?_,?_,?_,?_⟩,λx n hx=>?_,⟨c+s.cost,bg' _,.inr ((hm _).mpr (.inl rfl))⟩⟩
  ·rcases h.src with q|q
   ·exact .inl q
   ·refine .inr ((hm _).mpr (.inr ⟨q,?_⟩));rintro rfl
    rcases e2 with e2|e2
    ·exact zo.mp e2 _ q
    ·rw[fj h.di.np q]at e2;omega
  ·rintro p (hp|hp) hpf
   ·exact h.tgt p (.inl hp) hpf
   ·rcases(hm _).mp hp with rfl|⟨hp,_⟩
    ·exact⟨_,hb,s,hs,rfl,rfl⟩
    ·exact h.tgt p (.inr hp) hpf
  ·intro p hp q hq
   rcases(hm _).mp hq with rfl|⟨hq,_⟩
   ·have:=ht p hp;simp only;omega
   ·exact h.mon p hp q hq
  ·rintro p (hp|hp)
   ·exact h.bnd p (.inl hp)
   ·rcases(hm _).mp hp with rfl|⟨hp,_⟩
    ·simp only;omega
    ·exact h.bnd p (.inr hp)
  ·by_cases ex:x=s.to
   ·subst ex;refine⟨c+s.cost,?_,(hm _).mpr (.inl rfl)⟩
    rcases e2 with e2|e2
    ·exact absurd hx (zo.mp e2 _)
    ·rw[fj h.di.np hx]at e2;omega
   ·exact⟨n,bg' _,(hm _).mpr (.inr ⟨hx,ex⟩)⟩
 ·rw[F' e2];intro hDi;refine⟨h,λx n hx=>⟨n,bg' _,hx⟩,?_⟩;have e3:aY op s.to=true:=by
   cases q:aY op s.to
   ·exact absurd (.inl q) e2
   ·rfl
  have e4:¬c+s.cost<av op s.to 0:=λq=>e2 (.inr q);exact⟨av op s.to 0,by omega,.inr (bU e3)⟩
theorem DJ.fold{L:Lks}{f:Int}{out:Dis}{b c:Int}(hL:mR L)(hb:(b,c)∈out)(ht:∀p∈out,p.2≤c)(hc:c+1000≤1000 * out.length):∀{l:List Stp} {op:Dis},DJ L f out op→(∀s∈l,s∈av L b []) →
  DJ L f out (l.foldl (Go.Proofs.YtdoacjojljgdcaaGreat.relx c out) op)∧(∀x n,(x,n)∈op→∃m,m≤n∧(x,m)∈l.foldl (Go.Proofs.YtdoacjojljgdcaaGreat.relx c out) op)∧∀s∈l,∃n,n≤c+s.cost∧((s.to,n)∈out∨(s.to,n)∈l.foldl (Go.Proofs.YtdoacjojljgdcaaGreat.relx c out) op)
 | [],op,h,_=>⟨h,λx n hx=>⟨n,bg' _,hx⟩,λs hs=>by cases hs⟩
 | s::l,op,h,hs=>by
  obtain⟨h1,h2,h3⟩:=h.relx hL hb ht hc (hs s (by simp));obtain⟨g1,g2,g3⟩:=DJ.fold hL hb ht hc h1 λx hx=>hs x (bh' _ hx);rw[at']
  refine⟨g1,λx n hx=>?_,λq hq=>?_⟩
  ·obtain⟨m,hm,hx⟩:=h2 x n hx;obtain⟨m',hm',hx⟩:=g2 x m hx;exact⟨m',by omega,hx⟩
  ·rcases ad'.mp hq with rfl|hq
   ·obtain⟨n,hn,hx|hx⟩:=h3
    ·exact⟨n,hn,.inl hx⟩
    ·obtain⟨m',hm',hx⟩:=g2 _ n hx;exact⟨m',by omega,.inr hx⟩
   ·exact g3 q hq
structure ve (L:Lks) (f:Int) (D:Dis):Prop where
  nd:(ap D).Nodup
  ke:∀x∈ap D,x∈ap L
  src:(f,0)∈D
  rlx:∀p∈D,∀s∈av L p.1 [],∃n,n≤p.2+s.cost∧(s.to,n)∈D
  tgt:∀p∈D,p.1≠f→∃q∈D,∃s∈av L q.1 [],s.to=p.1∧p.2=q.2+s.cost
  pos:∀p∈D,0≤p.2∧p.2≤1000 * D.length
theorem KH{l m:List Int}(hl:l.Nodup)(hm:m.Nodup)(hs:∀x∈l,x∈m)(e:l.length=m.length):∀x∈m,x∈l:=λx hx=>by
 refine P' λq=>?_;have h2:(x::l).Nodup:=cp'.mpr ⟨q,hl⟩;have:=List.Nodup.length_le_of_subset h2 (l₂:=m) λy hy=>by
  rcases ad'.mp hy with rfl|hy
  ·exact hx
  ·exact hs y hy
 simp at this;omega
theorem Ab{L:Lks}{f:Int}(hL:mR L):∀(n:Nat) (out op:Dis),DJ L f out op→(∀p∈out,∀s∈av L p.1 [],∃n,n≤p.2+s.cost∧((s.to,n)∈out∨(s.to,n)∈op))→n=L.length-out.length→out.length<L.length→ve L f (BG L n out op)
 | 0,out,op,h,hr,hn,hl=>by omega
 | n+1,out,op,h,hr,hn,hl=>by
  rw[BG]
  by_cases e:op=[]
  ·rw[G' e];subst e
   refine⟨h.di.no,h.di.ko,?_,λp hp s hs=>?_,λp hp hf=>h.tgt p (.inl hp) hf,λp hp=>h.bnd p (.inl hp)⟩
   ·rcases h.src with q|q
    ·exact q
    ·cases q
   ·obtain⟨n,hn,hx|hx⟩:=hr p hp s hs
    ·exact⟨n,hn,hx⟩
    ·cases hx
  rw[F' e];obtain⟨c,hc,hmin⟩:=HP e;rw[fj h.di.np hc];generalize bst op=b at hc hmin ⊢;have hbk:b∈ap op:=aS.mpr ⟨c,hc⟩;have hbo:=h.di.di b hbk;obtain⟨hD,hlen⟩:=h.di.pop (c:=c) hbk;have hmo:=λp=>cw (l:=out) (p:=p) (x:=b) (v:=c) h.di.no;have hmd:=λp=>rt (l:=op) (p:=p) (x:=b) h.di.np;have hout:∀p∈out,p∈bB out b c:=λp hp=>(hmo p).mpr (.inr ⟨hp,λe=>hbo (aS.mpr ⟨p.2,by rw[←e];exact hp⟩)⟩);have htop:∀p∈bB out b c,p.2≤c:=λp hp=>by
   rcases(hmo p).mp hp with rfl|⟨hp,_⟩
   ·exact bg' _
   ·exact h.mon p hp _ hc
  have hmv:∀p,p∈op→p∈bB out b c∨p∈mdl op b:=λp hp=>by
   by_cases e:p.1=b
   ·refine .inl ((hmo p).mpr (.inl ?_));have:p.2=c:=gX h.di.np (x:=b) (by rw[←e];exact hp) hc;exact Prod.ext e this
   ·exact .inr ((hmd p).mpr ⟨hp,e⟩)
  have hback:∀p,p∈bB out b c∨p∈mdl op b→p∈out∨p∈op:=λp hp=>by
   rcases hp with hp|hp
   ·rcases(hmo p).mp hp with rfl|⟨hp,_⟩
    ·exact .inr hc
    ·exact .inl hp
   ·exact .inr ((hmd p).mp hp).1
  have hJ:DJ L f (bB out b c) (mdl op b):=by
   refine⟨hD,?_,λp hp hf=>?_,λp hp q hq=>?_,λp hp=>?_⟩
   ·rcases h.src with q|q
    ·exact .inl (hout _ q)
    ·exact hmv _ q
   ·obtain⟨q,hq,s,hs,h1,h2⟩:=h.tgt p (hback p hp) hf;exact⟨q,hout q hq,s,hs,h1,h2⟩
   ·have h1:=htop p hp;have h2:=hmin q ((hmd q).mp hq).1;unfold bfr at h2;simp only at h2;omega
   ·have:=h.bnd p (hback p hp);rw[hlen];omega
  have hcb:=h.bnd _ (.inr hc);simp only at hcb;have hbm:(b,c)∈bB out b c:=(hmo _).mpr (.inl rfl);have hold:∀p∈out,∀s∈av L p.1 [],∃n,n≤p.2+s.cost∧((s.to,n)∈bB out b c∨(s.to,n)∈mdl op b):=λp hp s hs=>by
   obtain⟨n,hn,hx|hx⟩:=hr p hp s hs
   ·exact⟨n,hn,.inl (hout _ hx)⟩
   ·exact⟨n,hn,hmv _ hx⟩
  by_cases e2:(bB out b c).length=L.length
  ·rw[G' e2];have hall:=KH hD.no hL.nd hD.ko (by rw[cY,cY,e2]);have hemp:∀p,p ∉ mdl op b:=λp hp=>by
    have hk:p.1∈ap (mdl op b):=aS.mpr ⟨p.2,hp⟩;exact hD.di _ hk (hall _ (hD.kp _ hk))
   refine⟨hD.no,hD.ko,?_,λp hp s hs=>?_,λp hp hf=>hJ.tgt p (.inl hp) hf,λp hp=>hJ.bnd p (.inl hp)⟩
   ·rcases hJ.src with q|q
    ·exact q
    ·exact absurd q (hemp _)
   ·rcases(hmo p).mp hp with rfl|⟨hp',_⟩
    ·obtain⟨n,hn⟩:=aS.mp (hall _ (hL.to _ s hs));have h1:=htop _ hn;have h2:=hL.cost _ s hs;exact⟨n,by simp only at h1 ⊢;omega,hn⟩
    ·obtain⟨n,hn,hx|hx⟩:=hold p hp' s hs
     ·exact⟨n,hn,hx⟩
     ·exact absurd hx (hemp _)
  ·rw[F' e2];obtain⟨g1,g2,g3⟩:=hJ.fold hL hbm htop (by rw[hlen];omega) (l:=av L b []) λs hs=>hs;refine Ab hL n _ _ g1 (λp hp s hs=>?_) (by rw[hlen];omega) (by have:=hD.len1;omega)
   rcases(hmo p).mp hp with rfl|⟨hp',_⟩
   ·exact g3 s hs
   ·obtain⟨n,hn,hx|hx⟩:=hold p hp' s hs
    ·exact⟨n,hn,.inl hx⟩
    ·obtain⟨m,hm,hx⟩:=g2 _ _ hx;exact⟨m,by omega,.inr hx⟩
theorem ef{L:Lks}{f:Int}(hL:mR L)(hf:f∈ap L):ve L f (cM L f):=by
 have h0:0<L.length:=by rw[←cY];exact List.length_pos_of_mem hf
 have e:bB ([]:Dis) f 0=[(f,0)]:=rfl;rw[cM,G' (show aY L f=true from decide_eq_true hf),e]
 refine Ab hL _ _ _ ⟨⟨by simp[ap],by simp[ap],by simp[ap],by simp[ap];simpa[ap]using hf,by simp[ap]⟩,.inr (by simp),λp hp hpf=>?_,by simp,λp hp=>?_⟩ (by simp) (by simp) (by simpa using h0)
 ·rcases hp with hp|hp
  ·cases hp
  ·rw[L'.mp hp]at hpf;exact absurd rfl hpf
 ·rcases hp with hp|hp
  ·cases hp
  ·rw[L'.mp hp];simp
inductive fP (L:Lks) (f:Int):Int→Int→Prop
  | nil:fP L f f 0
  | snoc {u n:Int} {s:Stp}:fP L f u n→s∈av L u []→fP L f s.to (n+s.cost)
theorem ve.low{L:Lks}{f:Int}{D:Dis}(h:ve L f D){v n:Int}(p:fP L f v n):∃m,m≤n∧(v,m)∈D:=by
 induction p with
 | nil=>exact⟨0,bg' _,h.src⟩
 | snoc q hs ih =>
  obtain⟨m,hm,hx⟩:=ih;obtain⟨k,hk,hx⟩:=h.rlx _ hx _ hs;exact⟨k,by simp only at hk;omega,hx⟩
theorem ve.path{L:Lks}{f:Int}{D:Dis}(hL:mR L)(h:ve L f D):∀(k:Nat) {v n:Int},n.toNat≤k→(v,n)∈D→fP L f v n
 | k,v,n,hk,hx=>by
  by_cases e:v=f
  ·subst e;have:=gX h.nd hx h.src;subst this;exact .nil
  ·obtain⟨⟨u,m⟩,hq,s,hs,h1,h2⟩:=h.tgt _ hx e;simp only at h1 h2 hs;have hc:=hL.cost _ s hs;have hp:=(h.pos _ hq).1;have hp2:=(h.pos _ hx).1;simp only at hp hp2;subst h1;subst h2
   match k with
   | 0=>omega
   | k+1=>exact .snoc (ve.path hL h k (by omega) hq) hs
theorem qu{L:Lks}{f:Int}(hL:mR L)(hf:f∈ap L){v m:Int}:(v,m)∈cM L f↔fP L f v m∧∀n,fP L f v n→m≤n:=by
 have h:=ef hL hf
 constructor
 ·intro hx;refine⟨h.path hL _ (V' _) hx,λn p=>?_⟩;obtain⟨k,hk,hx'⟩:=h.low p;rw[gX h.nd hx hx'];exact hk
 ·rintro⟨p,q⟩;obtain⟨k,hk,hx⟩:=h.low p;have:=q k (h.path hL _ (V' _) hx);have:k=m:=by omega
  rw[←this];exact hx
def isR(r:Int)(x:Rtr):Bool:=x.id==r
theorem Fm{α:Type}{p:α→Bool}{l:List α}(h:l.any p=true):0≤fU p l∧fU p l<l.length:=by
 rw[fU,G' h];have:l.findIdx p<l.length:=List.findIdx_lt_length.mpr (ac'.mp h);omega
def cF(t:Tpl)(r:Int):Int:=if az t r=true then fU (isR r) t.rs else 0
theorem tj{t:Tpl}{r:Int}(h:0<t.rs.length):0≤cF t r∧cF t r<t.rs.length:=by
 unfold cF
 split
 ·rename_i c;exact Fm c
 ·omega
def DB(t:Tpl)(r:Int):=okL [Tpl.v t,.int r]
def Ke(t:Tpl)(r:Int)(t0:Int):NF:=⟨[rI 1 r,rR 2 0,rI 5 t0],[.box (Tpl.v t)]⟩
@[reducible] def D8:Nat→Type
 | 0=>Int
 | _=>Unit
def D9(r:Int):AV:=.int r
def D7(t:Tpl)(r:Int)(I0:Int→Prop)(m0:Int→Nat):Ax Tryz.prog D8 (Int):=
 (.loop 0 (Ke t r) I0 m0 ((0):Int) [0] λ(t0:Int) b0 =>
(.br 81 (decide (t0<((t.rs.map Rtr.v).length:Int))) (.elI 129 Rtr.v t.rs t0 λx1 =>
(.br 209 (x1.id==r) (.ret (t0))
(.bk 0 b0 ((W (t0+1)):Int) [0])))
(.ret (0))))
theorem Pu(t:Tpl)(r:Int)(ok:DB t r):∃I m,(D7 t r I m).vp D9 (cF t r):=by
 refine⟨λi=>ba t.rs (λx=>isR r x=false) i,λi=>t.rs.length-i.toNat,?_⟩;simp only[DB,Tpl.v,okU,Blk.ok,aJ,B']at ok;dsimp only[D7,D8,Ax.vp,Ax.vc];simp only[vcU,rfU,B']
 refine⟨ba.zero,λi h=>⟨λc=>⟨h.idx,c,λx hx=>⟨λq=>?_,λq=>h.step (by omega) hx q⟩⟩,λc=>?_⟩⟩
 ·have:az t r=true:=ac'.mpr ⟨x,cd hx,q⟩;rw[cF,G' this];exact h.found hx q
 ·have:¬az t r=true:=λq=>by
   obtain⟨x,hx,q⟩:=ac'.mp q;have:=h.done c x hx;rw[isR,q]at this;cases this
  rw[cF,F' this]
def DA(t:Tpl)(r:Int):PC Tryz.prog:=pcO 159 [(.a [(.s 2),(.s 5)]),.k] [Tpl.v t,.int r] .k D9 (cF t r) (λok=>let ⟨I0,m0,h⟩:=Pu t r ok;⟨_,h,by kernel_rfl⟩) rfl (by kernel_rfl)
def okD(t:Tpl)(d:List Int):Prop:=d.length=t.rs.length∧t.rs.length≤1000
def at6(t:Tpl)(d:List Int)(r:Int):Int:=if az t r=true then d.getD (fU (isR r) t.rs).toNat 0 else 1073741824
def Sm(t:Tpl)(d:List Int)(r:Int)(t0:Int):NF:=⟨[(1,.k,.sl 1 (d.map AV.int) false),rI 2 r,rR 3 0,rI 7 t0],[.box (Tpl.v t)]⟩
@[reducible] def Ow:Nat→Type
 | 0=>Int
 | _=>Unit
def Ox(r:Int):AV:=.int r
def Ov(t:Tpl)(d:List Int)(r:Int)(I0:Int→Prop)(m0:Int→Nat):Ax Tryz.prog Ow (Int):=
 (.loop 0 (Sm t d r) I0 m0 ((0):Int) [0] λ(t0:Int) b0 =>
(.br 81 (decide (t0<((t.rs.map Rtr.v).length:Int))) (.elI 129 Rtr.v t.rs t0 λx1 =>
(.br 209 (x1.id==r) (.elI 241 AV.int d t0 λx2 =>
(.ret (x2)))
(.bk 0 b0 ((W (t0+1)):Int) [0])))
(.ret (1073741824))))
theorem at6_p(t:Tpl)(d:List Int)(r:Int)(h:okD t d):∃I m,(Ov t d r I m).vp Ox (at6 t d r):=by
 refine⟨λi=>ba t.rs (λx=>isR r x=false) i,λi=>t.rs.length-i.toNat,?_⟩;dsimp only[Ov,Ow,Ax.vp,Ax.vc];simp only[vcU,rfU,B'];obtain⟨hd,hn⟩:=h
 refine⟨ba.zero,λi h=>⟨λc=>⟨h.idx,c,λx hx=>⟨λq=>⟨h.idx,by omega,λy hy=>?_⟩,λq=>h.step (by omega) hx q⟩⟩,λc=>?_⟩⟩
 ·have e:az t r=true:=ac'.mpr ⟨x,cd hx,q⟩;rw[at6,G' e,←h.found hx q,I',hy];rfl
 ·have:¬az t r=true:=λq=>by
   obtain⟨x,hx,q⟩:=ac'.mp q;have:=h.done c x hx;rw[isR,q]at this;cases this
  rw[at6,F' this]
def Ii(t:Tpl)(d:List Int)(r:Int)(h:okD t d):PC Tryz.prog:=pcO 158 [(.a [(.s 2),(.s 5)]),(.s 1),.k] [Tpl.v t,.sl 1 (d.map AV.int) false,.int r] .k Ox (at6 t d r) (λ_=>let ⟨I0,m0,h⟩:=at6_p t d r h;⟨_,h,by kernel_rfl⟩) rfl (by kernel_rfl)
def rlx1(d:List Int)(a b:Nat)(c:Int):List Int:=if d.getD b 0<1073741824 then d.set a (eI (d.getD a 0) (W (c+d.getD b 0)))else d
def rlx(t:Tpl)(d:List Int)(l:Lnk):List Int:=rlx1 (rlx1 d (cF t l.a).toNat (cF t l.b).toNat l.ca) (cF t l.b).toNat (cF t l.a).toNat l.cb
def kw(t:Tpl):Nat→List Int→List Int
 | 0,d=>d
 | n+1,d=>t.ls.foldl (rlx t) (kw t n d)
def to0(t:Tpl)(r:Int):List Int:=t.rs.map λx=>if isR r x=true then 0 else 1073741824
def to6(t:Tpl)(r:Int):List Int:=kw t t.rs.length (to0 t r)
theorem jd{d:List Int}{a b:Nat}{c:Int}:(rlx1 d a b c).length=d.length:=by unfold rlx1;split<;>simp
theorem yP{t:Tpl}{d:List Int}{l:Lnk}:(rlx t d l).length=d.length:=by rw[rlx,jd,jd]
theorem iC{t:Tpl}:∀{ls:List Lnk} {d:List Int},(ls.foldl (rlx t) d).length=d.length
 | [],d=>rfl
 | l::ls,d=>by rw[at',iC,yP]
theorem nY{t:Tpl}{d:List Int}:∀{n:Nat},(kw t n d).length=d.length
 | 0=>rfl
 | n+1=>by rw[kw,iC,nY]
theorem Jp{t:Tpl}{r:Int}:(to6 t r).length=t.rs.length:=by rw[to6,nY,to0,B']
theorem KG{l:List Int}{k:Nat}{v:Int}{P:Int→Prop}(h:∀x∈l,P x)(hv:P v):∀x∈l.set k v,P x:=λx hx=>by
 rcases aC' hx with q|q
 ·exact h x q
 ·exact q ▸ hv
theorem rS{d:List Int}(h:∀x∈d,0≤x)(k:Nat):0≤d.getD k 0:=by
 rw[I'];cases e:d[k]? with
 | none=>simp
 | some x=>exact h x (bt e)
theorem ny{d:List Int}{a b:Nat}{c:Int}(h:∀x∈d,0≤x)(hc:1≤c∧c≤1000):∀x∈rlx1 d a b c,0≤x:=by
 unfold rlx1
 split
 ·have h1:=rS h a;have h2:=rS h b;refine KG h ?_;rw[ce (by omega)];unfold eI;split<;>omega
 ·exact h
theorem eL{n:Int}:ei n=true↔1≤n∧n≤1000:=by unfold ei;simp
theorem CV{t:Tpl}{d:List Int}{l:Lnk}(h:∀x∈d,0≤x)(hl:gt l):∀x∈rlx t d l,0≤x:=ny (ny h (eL.mp hl.1)) (eL.mp hl.2.1)
theorem mV{t:Tpl}:∀{ls:List Lnk} {d:List Int},(∀x∈d,0≤x)→(∀l∈ls,gt l)→∀x∈ls.foldl (rlx t) d,0≤x
 | [],d,h,_=>h
 | l::ls,d,h,hl=>mV (t:=t) (ls:=ls) (d:=rlx t d l) (CV h (hl l (by simp))) λm hm=>hl m (by simp[hm])
theorem yO{t:Tpl}(hl:∀l∈t.ls,gt l){d:List Int}(h:∀x∈d,0≤x):∀{n:Nat},∀x∈kw t n d,0≤x
 | 0=>h
 | n+1=>mV (yO hl h) hl
theorem sE{t:Tpl}(h:ay t=0):∀l∈t.ls,gt l:=by
 refine P' λq=>?_;unfold ay at h
 by_cases c1:24<t.rs.length∨60<t.ls.length
 ·rw[G' c1]at h;cases h
 rw[F' c1]at h
 by_cases c2:¬∀x∈t.rs,1≤x.id∧x.id≤99
 ·rw[G' c2]at h;cases h
 rw[F' c2]at h
 by_cases c3:¬t.rs.Pairwise (λx y=>x.id<y.id)
 ·rw[G' c3]at h;cases h
 rw[F' c3,G' q]at h;cases h
theorem OI{t:Tpl}(h:ay t=0){r:Int}:∀x∈to6 t r,0≤x:=by
 refine yO (sE h) λx hx=>?_;obtain⟨y,_,rfl⟩:=Y'.mp hx;split<;>omega
theorem qH{α:Type}{A B:List α}{k:Nat}{x v:α}(h:A.length=k):(A++x::B).set k v=A++v::B:=by
 subst h;rw[ci' _ _ (V' _),bz',List.set_cons_zero]
theorem getD_of{d:List Int}{k:Nat}{x:Int}(h:d[k]?=some x):d.getD k 0=x:=by rw[I',h];rfl
def OM(t:Tpl)(to_:Int)(t0:Int×List Int):NF:=⟨[rI 1 to_,rR 2 0,rV 5 1,rI 6 t0.1],[.box (Tpl.v t),vB 1 AV.int t0.2 (λ_=>rfl)]⟩
def OL(t:Tpl)(t1:Int×List Int):NF:=⟨[rR 2 0,rV 5 1,rI 7 t1.1],[.box (Tpl.v t),vB 1 AV.int t1.2 (λ_=>rfl)]⟩
def OK(t:Tpl)(t1:Int×List Int)(t2:Int×List Int):NF:=⟨[rR 2 0,rV 5 1,rI 7 t1.1,rI 8 t2.1],[.box (Tpl.v t),vB 1 AV.int t2.2 (λ_=>rfl)]⟩
def OJ(t:Tpl)(t1:Int×List Int)(t2:Int×List Int)(x4:Lnk)(t3:List Int):NF:=⟨[rR 2 0,rV 5 1,rI 7 t1.1,rI 8 t2.1,rR 9 2,rI 10 (cF t x4.a),rI 11 (cF t x4.b)],[.box (Tpl.v t),vB 1 AV.int t3 (λ_=>rfl),.box (Lnk.v x4)]⟩
@[reducible] def NJ:Nat→Type
 | 0=>Int×List Int
 | 1=>Int×List Int
 | 2=>Int×List Int
 | 3=>(List Int)
 | _=>Unit
def NK(r:List Int):AV:=.sl 1 (r.map AV.int) false
def NI(t:Tpl)(to_:Int)(I0:(Int×List Int)→Prop)(m0:(Int×List Int)→Nat)(I1:Int×List Int→(Int×List Int)→Prop)(m1:Int×List Int→(Int×List Int)→Nat)(I2:Int×List Int→Int×List Int→(Int×List Int)→Prop)(m2:Int×List Int→Int×List Int→(Int×List Int)→Nat)(I3:Int×List Int→Int×List Int→Int×List Int→Lnk→(List Int)→Prop):Ax Tryz.prog NJ ((List Int)):=
 (.say (λR=>Rf (AV.int 0) (ck (cond (decide (0≤((t.rs.map Rtr.v).length:Int))) (cond (decide (((t.rs.map Rtr.v).length:Int)≤((t.rs.map Rtr.v).length:Int))) (decide (((t.rs.map Rtr.v).length:Int)≤1048576)) false) false)
R)) (.rep 80 AV.int 0
(.loop 0 (OM t to_) I0 m0 (0,List.replicate (((t.rs.map Rtr.v).length:Int).toNat) 0) [0,80] λ(t0:Int×List Int) b0 =>
(.br 66 (decide (t0.1<((t0.2.map AV.int).length:Int))) (.stJ 114 AV.int t0.2 t0.1 (λy1=>1073741824) λy1 =>
(.elI 178 Rtr.v t.rs t0.1 λx2 =>
(.br 258 (x2.id==to_) (.stJ 306 AV.int (t0.2.set t0.1.toNat 1073741824) t0.1 (λy3=>0) λy3 =>
(.bk 0 b0 (W (t0.1+1),(t0.2.set t0.1.toNat 1073741824).set t0.1.toNat 0) [0,1]))
(.bk 0 b0 (W (t0.1+1),t0.2.set t0.1.toNat 1073741824) [0,1]))))
(.loop 1 (OL t) (I1 t0) (m1 t0) (0,t0.2) [0,1] λ(t1:Int×List Int) b1 =>
(.br 66 (decide (t1.1<((t1.2.map AV.int).length:Int))) (.loop 2 (OK t t1) (I2 t0 t1) (m2 t0 t1) (0,t1.2) [0,1] λ(t2:Int×List Int) b2 =>
(.br 82 (decide (t2.1<((t.ls.map Lnk.v).length:Int))) (.elI 130 Lnk.v t.ls t2.1 λx4 =>
(.callP (DA t x4.a)
(.callP (DA t x4.b)
(.join 3 (OJ t t1 t2 x4) (λ(t3:List Int)=>I3 t0 t1 t2 x4 t3) (λb3=>(.elJ 402 AV.int t2.2 (cF t x4.b) λx5 =>
(.br 434 (decide (x5<1073741824)) (.elJ 514 AV.int t2.2 (cF t x4.a) λx6 =>
(.elJ 610 AV.int t2.2 (cF t x4.b) λx7 =>
(.stJ 674 AV.int t2.2 (cF t x4.a) (λy8=>(eI x6 (W (x4.ca+x7)))) λy8 =>
(.bk 3 b3 ((t2.2.set ((cF t x4.a).toNat) (eI x6 (W (x4.ca+x7)))):(List Int)) [0,1,162]))))
(.bk 3 b3 ((t2.2):(List Int)) [0,1,162])))) λ(t3:List Int) =>
(.elJ 51 AV.int t3 (cF t x4.a) λx9 =>
(.br 83 (decide (x9<1073741824)) (.elJ 163 AV.int t3 (cF t x4.b) λx10 =>
(.elJ 259 AV.int t3 (cF t x4.a) λx11 =>
(.stJ 323 AV.int t3 (cF t x4.b) (λy12=>(eI x10 (W (x4.cb+x11)))) λy12 =>
(.bk 2 b2 (W (t2.1+1),t3.set ((cF t x4.b).toNat) (eI x10 (W (x4.cb+x11)))) [0,1]))))
(.bk 2 b2 (W (t2.1+1),t3) [0,1])))))))
(.bk 1 b1 (W (t1.1+1),t2.2) [0,1])))
(.fz 1 AV.int t1.2 (λ_=>rfl) (.ret (t1.2)))))))))
theorem to6_p(t:Tpl)(r:Int)(h:ay t=0):∃I0 m0 I1 m1 I2 m2 I3,(NI t r I0 m0 I1 m1 I2 m2 I3).vp NK (to6 t r):=by
 refine⟨λs=>∃k:Nat,s.1=k∧k≤t.rs.length∧s.2=(to0 t r).take k++List.replicate (t.rs.length-k) 0,λs=>t.rs.length-s.1.toNat,
  λ_ s=>∃k:Nat,s.1=k∧k≤t.rs.length∧s.2=kw t k (to0 t r),λ_ s=>t.rs.length-s.1.toNat,
  λ_ u s=>iM t.ls (rlx t) u.2 s.1 s.2,λ_ _ s=>t.ls.length-s.1.toNat,λ_ u s l d=>d=rlx1 s.2 (cF t l.a).toNat (cF t l.b).toNat l.ca,?_⟩
 dsimp only[NI,NJ,Ax.vp,Ax.vc];simp only[vcU,rfU,B'];have hn:=(cg h).1;have h0:(to0 t r).length=t.rs.length:=by rw[to0,B']
 refine⟨by simp;omega,⟨0,rfl,by omega,by simp⟩,?_⟩;rintro⟨_,_⟩ ⟨k,rfl,hk,rfl⟩;simp only;have hlen:((to0 t r).take k++List.replicate (t.rs.length-k) (0:Int)).length=t.rs.length:=by simp[h0];omega
 rw[hlen]
 refine⟨λc=>⟨eu (by omega) c,by omega,λy hy=>⟨by omega,c,λx hx=>?_⟩⟩,λc=>?_⟩
 ·rw[Int.toNat_natCast]at hx ⊢;have hkl:k<t.rs.length:=ao hx;have e0:t.rs.length-k=(t.rs.length-(k+1))+1:=by omega
  have hA:((to0 t r).take k).length=k:=by rw[ar',h0];omega
  have hg:(to0 t r)[k]?=some (if isR r x=true then 0 else 1073741824):=by rw[to0,J',hx];rfl
  rw[e0,List.replicate_succ,qH hA,qH hA,bf (n:=t.rs.length) hkl (by omega)]
  refine⟨λe=>⟨eu (by omega) (by simp[h0];omega),by simp[h0];omega,λy hy=>⟨⟨k+1,rfl,by omega,?_⟩,by omega⟩⟩,λe=>⟨⟨k+1,rfl,by omega,?_⟩,by omega⟩⟩
  ·rw[aP hg,G' (show isR r x=true from e)];simp
  ·have e:¬isR r x=true:=λq=>by rw[isR,e]at q;cases q
   rw[aP hg,F' e];simp
 have:k=t.rs.length:=by omega
 subst this;have e1:(to0 t r).take t.rs.length++List.replicate (t.rs.length-t.rs.length) (0:Int)=to0 t r:=by
  rw[bz',cL',bo',←h0,List.take_length]
 rw[e1];refine⟨⟨0,rfl,by omega,rfl⟩,?_⟩;rintro⟨_,_⟩ ⟨k,rfl,hk,rfl⟩;simp only;have hlen2:(kw t k (to0 t r)).length=t.rs.length:=by rw[nY,h0]
 rw[hlen2]
 refine⟨λc2=>⟨iM.zero,?_⟩,λc2=>?_⟩
 ·rintro⟨j,d⟩ g;simp only at g ⊢;have hpos:0<t.rs.length:=by omega
  have hdl:d.length=t.rs.length:=by
   obtain⟨m,_,_,e⟩:=g;rw[e,iC,hlen2]
  have hll:=(cg h).2
  refine⟨λc3=>⟨g.idx,c3,λl hl=>?_⟩,λc3=>?_⟩
  ·obtain⟨a1,a2⟩:=tj (r:=l.a) hpos;obtain⟨b1,b2⟩:=tj (r:=l.b) hpos;generalize hea:cF t l.a=pa at a1 a2 ⊢;generalize heb:cF t l.b=pb at b1 b2 ⊢
   refine⟨⟨eu b1 (by omega),by omega,λx5 h5=>⟨λe=>⟨eu a1 (by omega),by omega,λx6 h6=>⟨eu b1 (by omega),by omega,λx7 h7=>⟨eu a1 (by omega),by omega,λy8 h8=>?_⟩⟩⟩,λe=>?_⟩⟩,?_⟩
   ·rw[rlx1,getD_of h5,getD_of h6,G' e];rw[h5]at h7;cases h7;rfl
   ·rw[rlx1,getD_of h5,F' e]
   rintro d4 hd4;have hl4:d4.length=t.rs.length:=by rw[hd4,jd];exact hdl
   refine⟨eu a1 (by omega),by omega,λx9 h9=>⟨λe=>⟨eu b1 (by omega),by omega,λx10 h10=>⟨eu a1 (by omega),by omega,λx11 h11=>⟨eu b1 (by omega),by omega,λy12 h12=>g.step (by omega) hl ?_⟩⟩⟩,λe=>g.step (by omega) hl ?_⟩⟩
   ·rw[rlx,hea,heb,←hd4,rlx1,getD_of h9,getD_of h10,G' e];rw[h9]at h11;cases h11;rfl
   ·rw[rlx,hea,heb,←hd4,rlx1,getD_of h9,F' e]
  ·rw[bf (n:=t.rs.length) (by omega) (by omega)];exact⟨⟨k+1,rfl,by omega,by rw[kw];exact g.done c3⟩,by omega⟩
 ·have:k=t.rs.length:=by omega
  subst this;rfl
def to6_c(t:Tpl)(to_:Int)(h:ay t=0):PC Tryz.prog:=pcO 132 [(.a [(.s 2),(.s 5)]),.k] [Tpl.v t,.int to_] (.s 1) NK (to6 t to_) (λ_=>let ⟨I0,m0,I1,m1,I2,m2,I3,h⟩:=to6_p t to_ h;⟨_,h,by kernel_rfl⟩) rfl (by kernel_rfl)
def okN(t:Tpl)(d:List Int)(r q:Int):Bool:=decide (at6 t d q<1073741824) && (W ((aU t r q).1+at6 t d q)==at6 t d r)
def dW(t:Tpl)(d:List Int)(r:Int):List Int:=if at6 t d r=1073741824∨at6 t d r=0 then []else(eX t r).filter (okN t d r)
theorem oW{α β:Type}{p:α→Bool}{g:α→β}:∀{l:List α},(l.flatMap λx=>if p x=true then [g x]else []).length≤l.length
 | []=>by simp
 | x::l=>by
  have:=oW (p:=p) (g:=g) (l:=l);have h1:(if p x=true then [g x]else []).length≤1:=by split<;>simp
  rw[au',List.length_append,ab'];omega
theorem o0{t:Tpl}{r:Int}:(eX t r).length≤t.rs.length:=oW (p:=λx:Rtr=>(aU t r x.id).2) (g:=Rtr.id)
def Jv(t:Tpl)(d:List Int)(from_:Int)(t0:Bool):NF:=⟨[(1,.k,.sl 1 (d.map AV.int) false),rI 2 from_,rR 3 0,(7,.k,.sl 0 [] true),rI 8 (at6 t d from_),rB 22 t0],[.box (Tpl.v t)]⟩
def Ju(t:Tpl)(d:List Int)(from_:Int)(t1:Int×List Int):NF:=⟨[(1,.k,.sl 1 (d.map AV.int) false),rI 2 from_,rR 3 0,rV 7 1,rI 8 (at6 t d from_),(9,.k,.sl 1 ((eX t from_).map AV.int) false),rI 10 t1.1],[.box (Tpl.v t),vB 1 AV.int t1.2 (λ_=>rfl)]⟩
def Jt(t:Tpl)(d:List Int)(from_:Int)(t1:Int×List Int)(t2:Bool):NF:=⟨[(1,.k,.sl 1 (d.map AV.int) false),rI 2 from_,rR 3 0,rV 7 1,rI 8 (at6 t d from_),(9,.k,.sl 1 ((eX t from_).map AV.int) false),rI 10 t1.1,rB 62 t2],[.box (Tpl.v t),vB 1 AV.int t1.2 (λ_=>rfl)]⟩
@[reducible] def C4:Nat→Type
 | 0=>Bool
 | 1=>Int×List Int
 | 2=>Bool
 | _=>Unit
def C6(r:List Int):AV:=.sl 1 (r.map AV.int) false
def C3(t:Tpl)(d:List Int)(from_:Int)(I0:Bool→Prop)(I1:Bool→(Int×List Int)→Prop)(m1:Bool→(Int×List Int)→Nat)(I2:Bool→Int×List Int→Int→Bool→Prop):Ax Tryz.prog C4 ((List Int)):=
 (.req 96 (okD t d) λh1 =>
(.callP (Ii t d from_ h1)
(.pass (.join 0 (Jv t d from_) (λ(t0:Bool)=>I0 t0) (λb0=>(.br 176 ((at6 t d from_)==1073741824) (.bk 0 b0 ((true):Bool) [0])
(.bk 0 b0 (((at6 t d from_)==0):Bool) [0]))) λ(t0:Bool) =>
(.br 1 t0 (.ret ([]))
(.req 33 (t.rs.length≤1000) λh2 =>
(.callP (Ej t from_ h2)
(.cmdL (.nilT 7 1) (.loop 1 (Ju t d from_) (I1 t0) (m1 t0) (0,[]) [0,81] λ(t1:Int×List Int) b1 =>
(.br 66 (decide (t1.1<(((eX t from_).map AV.int).length:Int))) (.elI 130 AV.int (eX t from_) t1.1 λx3 =>
(.callP (vY t from_ x3)
(.join 2 (Jt t d from_ t1) (λ(t2:Bool)=>I2 t0 t1 x3 t2) (λb2=>(.elI 322 AV.int (eX t from_) t1.1 λx4 =>
(.req 354 (okD t d) λh5 =>
(.callP (Ii t d x4 h5)
(.br 402 (decide ((at6 t d x4)<1073741824)) (.elI 482 AV.int (eX t from_) t1.1 λx6 =>
(.req 514 (okD t d) λh7 =>
(.callP (Ii t d x6 h7)
(.bk 2 b2 (((W (((aU t from_ x3).1)+(at6 t d x6)))==(at6 t d from_)):Bool) [0,1]))))
(.bk 2 b2 ((false):Bool) [0,1])))))) λ(t2:Bool) =>
(.br 2 t2 (.elI 50 AV.int (eX t from_) t1.1 λx8 =>
(.apX 98 AV.int t1.2 [x8] (t1.2.length+1)
(.bk 1 b1 (W (t1.1+1),t1.2++[x8]) [0,98])))
(.bk 1 b1 (W (t1.1+1),t1.2) [0,1])))))
(.fz 1 AV.int t1.2 (λ_=>rfl) (.ret (t1.2)))))))))))))
theorem OP(t:Tpl)(d:List Int)(r:Int)(h:okD t d):∃I0 I1 m1 I2,(C3 t d r I0 I1 m1 I2).vp C6 (dW t d r):=by
 refine⟨λb=>b=decide (at6 t d r=1073741824∨at6 t d r=0),λ_ s=>eO (eX t r) (λq=>if okN t d r q=true then [q]else []) s.1 s.2,λ_ s=>(eX t r).length-s.1.toNat,
  λ_ _ q b=>b=okN t d r q,?_⟩
 dsimp only[C3,C4,Ax.vp,Ax.vc];simp only[vcU,rfU,B'];have hn:=h.2;have hl:=o0 (t:=t) (r:=r)
 refine⟨h,⟨λc=>by simp[eq_of_beq c],λc=>?_⟩,?_⟩
 ·have c:¬at6 t d r=1073741824:=by simpa using c
  rw[ae'];simp[c]
 rintro _ rfl;refine⟨λc=>by rw[dW,G' (H' c)],λc=>⟨hn,eO.zero,?_⟩⟩;have c:=T' c;rintro⟨i,out⟩ g;simp only at g ⊢;have hlen:=g.len (b:=1) λx _=>by split<;>simp
 refine⟨λe=>⟨g.idx,e,λx hx=>⟨⟨g.idx,e,λy hy=>⟨h,λe1=>⟨g.idx,e,λz hz=>⟨h,?_⟩⟩,λe1=>?_⟩⟩,?_⟩⟩,λe=>?_⟩
 ·rw[hx]at hy hz;cases hy;cases hz;rw[okN,decide_eq_true e1];rfl
 ·rw[hx]at hy;cases hy;rw[okN,decide_eq_false e1];rfl
 ·rintro _ rfl;refine⟨λe1=>⟨g.idx,e,λz hz=>⟨by omega,?_⟩⟩,λe1=>g.step (by omega) hx (by rw[F' (by rw[e1];simp)];simp)⟩;rw[hx]at hz;cases hz;exact g.step (by omega) hx (by rw[G' e1])
 ·rw[dW,F' c,g.done e,xm]
def OQ(t:Tpl)(d:List Int)(from_:Int)(h:okD t d):PC Tryz.prog:=pcO 131 [(.a [(.s 2),(.s 5)]),(.s 1),.k] [Tpl.v t,.sl 1 (d.map AV.int) false,.int from_] (.s 1) C6 (dW t d from_) (λ_=>let ⟨I0,I1,m1,I2,h⟩:=OP t d from_ h;⟨_,h,by kernel_rfl⟩) rfl (by kernel_rfl)
theorem ft{t:Tpl}(h:ay t=0){f g:Int}(hp:(aU t f g).2=true):1≤(aU t f g).1∧(aU t f g).1≤1000:=by
 unfold aU at hp ⊢;cases e:t.ls.find? (gK f g)with
 | none=>rw[e]at hp;cases hp
 | some l =>
  have hl:=sE h l (bl' e);have h1:=eL.mp hl.1;have h2:=eL.mp hl.2.1;simp only;split<;>omega
theorem Ih{t:Tpl}{d:List Int}(h:∀x∈d,0≤x)(r:Int):0≤at6 t d r:=by
 unfold at6
 split
 ·exact rS h _
 ·omega
theorem Jw{t:Tpl}(h:ay t=0){d:List Int}(hd:∀x∈d,0≤x){f q:Int}(hq:q∈dW t d f):at6 t d q<at6 t d f∧∃x∈t.rs,x.id=q:=by
 unfold dW at hq
 split at hq
 ·cases hq
 obtain⟨h1,h2⟩:=aY'.mp hq;obtain⟨x,hx,hx2⟩:=bH'.mp h1;have hp:(aU t f x.id).2=true∧q=x.id:=by
  by_cases c:(aU t f x.id).2=true
  ·rw[G' c,L']at hx2;exact⟨c,hx2⟩
  ·rw[F' c]at hx2;cases hx2
 obtain⟨hp,rfl⟩:=hp;obtain⟨p1,p2⟩:=ft h hp;rw[okN,R',decide_eq_true_eq,aL']at h2;have h0:=Ih (t:=t) hd x.id;have:=h2.2;rw[ce (by omega)]at this;exact⟨by omega,x,hx,rfl⟩
theorem qo{α:Type}{p q:α→Bool}:∀{l:List α} {x:α},(∀y,p y=true→q y=true)→x∈l→p x=false→q x=true→(l.filter p).length<(l.filter q).length
 | y::l,x,h,hx,h1,h2=>by
  have hle:∀l:List α,(l.filter p).length≤(l.filter q).length:=by
   intro l
   induction l with
   | nil=>simp
   | cons z l ih =>
    rw[aO',aO']
    by_cases c:p z=true
    ·rw[G' c,G' (h z c)];simp only[ab'];omega
    ·rw[F' c];split
     ·simp only[ab'];omega
     ·exact ih
  rw[aO',aO']
  rcases ad'.mp hx with rfl|hx
  ·rw[F' (by rw[h1];simp),G' h2];have:=hle l;simp only[ab'];omega
  ·have:=qo h hx h1 h2
   by_cases c:p y=true
   ·rw[G' c,G' (h y c)];simp only[ab'];omega
   ·rw[F' c];split
    ·simp only[ab'];omega
    ·exact this
def cG(t:Tpl)(u v c:Int):Prop:=∃l∈t.ls,(l.a=u∧l.b=v∧l.ca=c)∨(l.b=u∧l.a=v∧l.cb=c)
theorem bT{t:Tpl}(hc:ay t=0){u v c:Int}:cG t u v c↔aU t u v=(c,true):=by
 have hO:=ax hc;have key:∀x∈t.ls,∀y∈t.ls,gK u v x=true→gK u v y=true→x=y:=λx hx y hy h1 h2=>by
  obtain⟨i,hi⟩:=ag'.mp hx;obtain⟨j,hj⟩:=ag'.mp hy;have a1:=hO.lt x hx;have a2:=hO.lt y hy;unfold gK at h1 h2;simp only[aK',R',aL']at h1 h2;have hk:¬aM x y∧¬aM y x:=by unfold aM;omega
  rcases Nat.lt_trichotomy i j with h|h|h
  ·exact absurd (fT hO.ord h hi hj) hk.1
  ·subst h;rw[hi]at hj;exact af' hj
  ·exact absurd (fT hO.ord h hj hi) hk.2
 constructor
 ·rintro⟨l,hl,h⟩;have hp:gK u v l=true:=by
   unfold gK;simp only[aK',R',aL'];omega
  have hlt:=hO.lt l hl;unfold aU;cases q:t.ls.find? (gK u v)with
  | none =>
   have:=cr'.mp q l hl;exact absurd hp this
  | some y =>
   have:=key y (bl' q) l hl (cv' q) hp;subst this;simp only
   rcases h with⟨h1,h2,h3⟩|⟨h1,h2,h3⟩
   ·rw[G' (by simp[h1,h2]),h3]
   ·rw[F' (by simp;omega),h3]
 ·intro h;unfold aU at h;cases q:t.ls.find? (gK u v)with
  | none=>rw[q]at h;simp at h
  | some y =>
   rw[q]at h;have hp:=cv' q;have hy:=bl' q;simp only[Prod.mk.injEq,and_true]at h;unfold gK at hp;refine⟨y,hy,?_⟩
   by_cases e:(y.a==u && y.b==v)=true
   ·rw[G' e]at h;simp only[R',aL']at e;exact .inl ⟨e.1,e.2,h⟩
   ·rw[F' e]at h;simp only[aK',R',aL']at hp e
    rcases hp with hp|hp
    ·exact absurd hp e
    ·exact .inr ⟨hp.1,hp.2,h⟩
theorem cG.cost{t:Tpl}(hc:ay t=0){u v c:Int}(h:cG t u v c):1≤c∧c≤1000:=by
 obtain⟨l,hl,h⟩:=h;have:=(ax hc).lr l hl;have h1:=eL.mp this.1;have h2:=eL.mp this.2.1;omega
theorem cG.has{t:Tpl}(hc:ay t=0){u v c:Int}(h:cG t u v c):az t u=true∧az t v=true:=by
 obtain⟨l,hl,h⟩:=h;have:=(ax hc).has l hl
 rcases h with⟨rfl,rfl,_⟩|⟨rfl,rfl,_⟩
 ·exact this
 ·exact⟨this.2,this.1⟩
theorem tu{t:Tpl}(hc:ay t=0){x:Int}{s:Stp}:s∈gW t.ls x↔cG t x s.to s.cost:=by
 have hO:=ax hc;unfold gW cG;rw[bH']
 constructor
 ·rintro⟨l,hl,h⟩;refine⟨l,hl,?_⟩
  split at h
  ·rw[L'.mp h];exact .inl ⟨by assumption,rfl,rfl⟩
  ·split at h
   ·rw[L'.mp h];exact .inr ⟨by assumption,rfl,rfl⟩
   ·cases h
 ·rintro⟨l,hl,⟨h1,h2,h3⟩|⟨h1,h2,h3⟩⟩
  ·refine⟨l,hl,?_⟩;rw[G' h1,h2,h3];simp
  ·have:=hO.lt l hl;refine⟨l,hl,?_⟩;rw[F' (by omega),G' h1,h2,h3];simp
theorem zB{t:Tpl}(hc:ay t=0){x:Int}{s:Stp}:s∈inS t.ls x↔cG t s.to x s.cost:=by
 have hO:=ax hc;unfold inS cG;rw[bH']
 constructor
 ·rintro⟨l,hl,h⟩;refine⟨l,hl,?_⟩
  split at h
  ·rw[L'.mp h];exact .inl ⟨rfl,by assumption,rfl⟩
  ·split at h
   ·rw[L'.mp h];exact .inr ⟨rfl,by assumption,rfl⟩
   ·cases h
 ·rintro⟨l,hl,⟨h1,h2,h3⟩|⟨h1,h2,h3⟩⟩
  ·refine⟨l,hl,?_⟩;rw[G' h2,h1,h3];simp
  ·have:=hO.lt l hl;refine⟨l,hl,?_⟩;rw[F' (by omega),G' h2,h1,h3];simp
theorem cf{t:Tpl}{x:Int}:az t x=true↔∃r∈t.rs,r.id=x:=by
 unfold az;rw[ac'];simp
theorem bi{t:Tpl}(f:Rtr→List Stp):ap (t.rs.map λr=>(r.id,f r))=t.rs.map (·.id):=by unfold ap;rw[aV'];rfl
theorem bc{t:Tpl}{x:Int}:x∈t.rs.map (·.id)↔az t x=true:=by rw[cf,Y']
theorem fX{t:Tpl}(hc:ay t=0):(t.rs.map (·.id)).Nodup:=List.Pairwise.map _ (λa b h=>by omega) (ax hc).asc
theorem zH{t:Tpl}(hc:ay t=0)(f:Int→List Stp)(hf:∀x,az t x=false→f x=[])(x:Int):av (t.rs.map λr=>(r.id,f r.id)) x []=f x:=by
 by_cases h:az t x=true
 ·obtain⟨r,hr,rfl⟩:=cf.mp h;exact fj (by rw[bi (λr=>f r.id)];exact fX hc) (Y'.mpr ⟨r,hr,rfl⟩)
 ·have h:az t x=false:=by simpa using h
  rw[dj,hf x h];unfold aY;rw[bi (λr=>f r.id),decide_eq_false];rw[bc,h];simp
theorem Kl{t:Tpl}(hc:ay t=0)(x:Int)(h:az t x=false):gW t.ls x=[]:=by
 refine ct'.mpr λs hs=>?_;rw[(((tu hc).mp hs).has hc).1]at h;cases h
theorem Q2{t:Tpl}(hc:ay t=0)(x:Int)(h:az t x=false):inS t.ls x=[]:=by
 refine ct'.mpr λs hs=>?_;rw[(((zB hc).mp hs).has hc).2]at h;cases h
theorem za{t:Tpl}(hc:ay t=0)(x:Int):av (cW t) x []=jV (gW t.ls x):=zH hc (λx=>jV (gW t.ls x)) (λx h=>by rw[Kl hc x h];simp[jV]) x
theorem Q1{t:Tpl}(hc:ay t=0)(x:Int):av (inG t) x []=inS t.ls x:=zH hc (λx=>inS t.ls x) (λx h=>Q2 hc x h) x
theorem lh{t:Tpl}(hc:ay t=0){x:Int}{s:Stp}:s∈av (cW t) x []↔cG t x s.to s.cost:=by rw[za hc,(jG _).mem_iff,tu hc]
theorem oH{t:Tpl}(hc:ay t=0){x:Int}{s:Stp}:s∈av (inG t) x []↔cG t s.to x s.cost:=by rw[Q1 hc,zB hc]
theorem wo{t:Tpl}(hc:ay t=0):mR (cW t):=by
 have:=(ax hc).nr;refine⟨by unfold cW;rw[B'];omega,by unfold cW;rw[bi];exact fX hc,λx s hs=>?_,λx s hs=>((lh hc).mp hs).cost hc⟩;unfold cW;rw[bi,bc];exact(((lh hc).mp hs).has hc).2
theorem l5{t:Tpl}(hc:ay t=0):mR (inG t):=by
 have:=(ax hc).nr;refine⟨by unfold inG;rw[B'];omega,by unfold inG;rw[bi];exact fX hc,λx s hs=>?_,λx s hs=>((oH hc).mp hs).cost hc⟩;unfold inG;rw[bi,bc];exact(((oH hc).mp hs).has hc).1
inductive Pth (t:Tpl) (g:Int):Nat→Int→Int→Prop
  | nil:Pth t g 0 g 0
  | cons {k:Nat} {u w c n:Int}:cG t u w c→Pth t g k w n→Pth t g (k+1) u (n+c)
theorem jM{t:Tpl}(hc:ay t=0){g v n:Int}:fP (inG t) g v n↔∃k,Pth t g k v n:=by
 constructor
 ·intro p
  induction p with
  | nil=>exact⟨0,.nil⟩
  | snoc q hs ih=>obtain⟨k,ih⟩:=ih;exact⟨k+1,.cons ((oH hc).mp hs) ih⟩
 ·rintro⟨k,p⟩
  induction p with
  | nil=>exact .nil
  | cons e q ih=>exact .snoc (s:=⟨_,_⟩) ih ((oH hc).mpr e)
theorem lf{t:Tpl}(hc:ay t=0){f v n:Int}:fP (cW t) f v n↔∃k,Pth t v k f n:=by
 have app:∀{k:Nat} {u m w c v:Int},Pth t w k u m→cG t w v c→Pth t v (k+1) u (m+c):=λ{k u m w c v} p e=>by
  induction p with
  | nil=>exact .cons e .nil
  | cons e' q ih=>have:=Pth.cons e' ih;rwa [Int.add_right_comm]at this
 have pre:∀{f w v c n:Int},cG t f w c→fP (cW t) w v n→fP (cW t) f v (n+c):=λ{f w v c n} e p=>by
  induction p with
  | nil=>exact .snoc (s:=⟨_,_⟩) .nil ((lh hc).mpr e)
  | snoc q hs ih=>have:=fP.snoc ih hs;rwa [Int.add_right_comm]at this
 constructor
 ·intro p
  induction p with
  | nil=>exact⟨0,.nil⟩
  | snoc q hs ih=>obtain⟨k,ih⟩:=ih;exact⟨k+1,app ih ((lh hc).mp hs)⟩
 ·rintro⟨k,p⟩
  induction p with
  | nil=>exact .nil
  | cons e q ih=>exact pre e ih
def Lst(t:Tpl)(u v m:Int):Prop:=(∃k,Pth t v k u m)∧∀k n,Pth t v k u n→m≤n
theorem oI{t:Tpl}(hc:ay t=0){g v m:Int}(hg:az t g=true):(v,m)∈cM (inG t) g↔Lst t v g m:=by
 rw[qu (l5 hc) (by unfold inG;rw[bi,bc];exact hg),jM hc];exact⟨λ⟨h1,h2⟩=>⟨h1,λk n p=>h2 n ((jM hc).mpr ⟨k,p⟩)⟩,λ⟨h1,h2⟩=>⟨h1,λn p=>by obtain⟨k,p⟩:=(jM hc).mp p;exact h2 k n p⟩⟩
theorem Bb{t:Tpl}(hc:ay t=0){f v m:Int}(hf:az t f=true):(v,m)∈cM (cW t) f↔Lst t f v m:=by
 rw[qu (wo hc) (by unfold cW;rw[bi,bc];exact hf),lf hc];exact⟨λ⟨h1,h2⟩=>⟨h1,λk n p=>h2 n ((lf hc).mpr ⟨k,p⟩)⟩,λ⟨h1,h2⟩=>⟨h1,λn p=>by obtain⟨k,p⟩:=(lf hc).mp p;exact h2 k n p⟩⟩
def ij:Int:=1073741824
theorem wb{t:Tpl}(hc:ay t=0){i:Nat}{r:Rtr}(h:t.rs[i]?=some r):(cF t r.id).toNat=i:=by
 have hh:az t r.id=true:=cf.mpr ⟨r,bt h,rfl⟩;unfold cF;rw[G' hh,fU,G' (show t.rs.any (isR r.id)=true from hh)];have hlt:t.rs.findIdx (isR r.id)<t.rs.length:=List.findIdx_lt_length.mpr ⟨r,bt h,by simp[isR]⟩;have e:=List.findIdx_getElem (w:=hlt);have h1:(t.rs.map (·.id))[t.rs.findIdx (isR r.id)]?=some r.id:=by
  rw[J',u' hlt];unfold isR at e ⊢;simp only[aL']at e;simp[e]
 have h2:(t.rs.map (·.id))[i]?=some r.id:=by rw[J',h];rfl
 have:=dM (fX hc) h1 h2;rw[Int.toNat_natCast];exact this
theorem lO{t:Tpl}{d:List Int}{u:Int}(h:az t u=true):at6 t d u=d.getD (cF t u).toNat 0:=by
 unfold at6 cF;rw[G' h,G' h]
theorem Nb{t:Tpl}(hc:ay t=0){d:List Int}(hd:d.length=t.rs.length){a u x:Int}(ha:az t a=true)(hu:az t u=true):at6 t (d.set (cF t a).toNat x) u=if u=a then x else at6 t d u:=by
 rw[lO hu,lO hu];obtain⟨ra,h1,rfl⟩:=cf.mp ha;obtain⟨ru,h2,rfl⟩:=cf.mp hu;obtain⟨i,hi⟩:=ag'.mp h1;obtain⟨j,hj⟩:=ag'.mp h2;rw[wb hc hi,wb hc hj];have hil:=ao hi;rw[I',ao',I']
 by_cases e:i=j
 ·subst e;rw[hi]at hj;cases hj;rw[G' rfl,G' (by omega),G' rfl];rfl
 ·rw[F' e,F'];intro q;have h3:(t.rs.map (·.id))[i]?=some ra.id:=by rw[J',hi];rfl
  have h4:(t.rs.map (·.id))[j]?=some ra.id:=by rw[J',hj,←q];rfl
  exact e (dM (fX hc) h3 h4)
theorem qP{t:Tpl}(hc:ay t=0){d:List Int}(hd:d.length=t.rs.length)(hn:∀x∈d,0≤x){a b c u:Int}(h1:1≤c∧c≤1000)(ha:az t a=true)(hb:az t b=true)(hu:az t u=true) :
  at6 t (rlx1 d (cF t a).toNat (cF t b).toNat c) u=if u=a∧at6 t d b<ij∧c+at6 t d b<at6 t d a then c+at6 t d b else at6 t d u:=by
 have hb0:=Ih (t:=t) hn b;unfold rlx1;rw[←lO hb,←lO ha]
 by_cases e:at6 t d b<1073741824
 ·rw[G' e,Nb hc hd ha hu,ce (by omega)];unfold eI ij
  by_cases e1:u=a
  ·subst e1;rw[G' rfl]
   by_cases e2:c+at6 t d b<at6 t d u
   ·rw[G' e2,G' ⟨rfl,e,e2⟩]
   ·rw[F' e2,F' (λq=>e2 q.2.2)]
  ·rw[F' e1,F' (λq=>e1 q.1)]
 ·rw[F' e,F' (λq=>e q.2.1)]
section
variable {t : Tpl} (hc : ay t = 0)
include hc
theorem JG{d:List Int}(hd:d.length=t.rs.length)(hn:∀x∈d,0≤x){l:Lnk}(hl:l∈t.ls) :
  (∀u,az t u=true→at6 t (rlx t d l) u≤at6 t d u)∧(at6 t d l.b<ij→at6 t (rlx t d l) l.a≤at6 t d l.b+l.ca)∧(at6 t d l.a<ij→at6 t (rlx t d l) l.b≤at6 t d l.a+l.cb):=by
 have hO:=ax hc;obtain⟨ha,hb⟩:=hO.has l hl;have hlr:=hO.lr l hl;have hlt:=hO.lt l hl;have c1:=eL.mp hlr.1;have c2:=eL.mp hlr.2.1;have hd1:(rlx1 d (cF t l.a).toNat (cF t l.b).toNat l.ca).length=t.rs.length:=by rw[jd];exact hd
 have hn1:=ny (a:=(cF t l.a).toNat) (b:=(cF t l.b).toNat) hn c1;have s1:=λu hu=>qP hc hd hn (u:=u) c1 ha hb hu;have s2:=λu hu=>qP hc hd1 hn1 (u:=u) c2 hb ha hu;unfold rlx;have sa:=s1 l.a ha;have sb:=s1 l.b hb;rw[F' (λq=>by have:=q.1;omega)]at sb;have e1:cG t l.a l.b l.ca:=⟨l,hl,.inl ⟨rfl,rfl,rfl⟩⟩
 have e2:cG t l.b l.a l.cb:=⟨l,hl,.inr ⟨rfl,rfl,rfl⟩⟩
 refine⟨λu hu=>?_,λh=>?_,λh=>?_⟩
 ·rw[s2 u hu,s1 u hu]
  by_cases q:u=l.b
  ·subst q;rw[sb,sa];(repeat' split)<;>omega
  ·rw[F' (λr=>q r.1)];split
   ·rename_i r;obtain⟨r1,r2,r3⟩:=r;subst r1;omega
   ·omega
 ·rw[s2 l.a ha,F' (λr=>by have:=r.1;omega),sa]
  split
  ·omega
  ·rename_i r;have:¬l.ca+at6 t d l.b<at6 t d l.a:=λq=>r ⟨rfl,h,q⟩;omega
 ·have ham:at6 t (rlx1 d (cF t l.a).toNat (cF t l.b).toNat l.ca) l.a≤at6 t d l.a:=by rw[sa];split<;>omega
  rw[s2 l.b hb]
  split
  ·omega
  ·rename_i r;have:¬l.cb+at6 t (rlx1 d (cF t l.a).toNat (cF t l.b).toNat l.ca) l.a<at6 t (rlx1 d (cF t l.a).toNat (cF t l.b).toNat l.ca) l.b:=λq=>r ⟨rfl,by omega,q⟩;omega
def PV(t:Tpl)(g:Int)(d:List Int):Prop:=∀u,az t u=true→at6 t d u≤ij∧(at6 t d u<ij→∃k,Pth t g k u (at6 t d u))
theorem PV.rlx1{g:Int}{d:List Int}(h:PV t g d)(hd:d.length=t.rs.length)(hn:∀x∈d,0≤x){a b c:Int}(e:cG t a b c):PV t g (rlx1 d (cF t a).toNat (cF t b).toNat c):=λu hu=>by
 obtain⟨ha,hb⟩:=e.has hc;rw[qP hc hd hn (e.cost hc) ha hb hu]
 split
 ·rename_i r;obtain⟨r1,r2,r3⟩:=r;subst r1;have:=(h u hu).1;refine⟨by omega,λ_=>?_⟩;obtain⟨k,p⟩:=(h b hb).2 r2;rw[Int.add_comm];exact⟨k+1,.cons e p⟩
 ·exact h u hu
theorem PV.rlx{g:Int}{d:List Int}(h:PV t g d)(hd:d.length=t.rs.length)(hn:∀x∈d,0≤x){l:Lnk}(hl:l∈t.ls):PV t g (rlx t d l):=by
 have c1:=eL.mp ((ax hc).lr l hl).1;exact PV.rlx1 hc (PV.rlx1 hc h hd hn ⟨l,hl,.inl ⟨rfl,rfl,rfl⟩⟩) (by rw[jd];exact hd) (ny hn c1) ⟨l,hl,.inr ⟨rfl,rfl,rfl⟩⟩
theorem ug{g:Int}:∀{ls:List Lnk} {d:List Int},d.length=t.rs.length→(∀x∈d,0≤x)→PV t g d→(∀l∈ls,l∈t.ls) →
  (ls.foldl (rlx t) d).length=t.rs.length∧(∀x∈ls.foldl (rlx t) d,0≤x)∧PV t g (ls.foldl (rlx t) d)∧(∀u,az t u=true→at6 t (ls.foldl (rlx t) d) u≤at6 t d u) ∧
  ∀l∈ls,(at6 t d l.b<ij→at6 t (ls.foldl (rlx t) d) l.a≤at6 t d l.b+l.ca)∧(at6 t d l.a<ij→at6 t (ls.foldl (rlx t) d) l.b≤at6 t d l.a+l.cb)
 | [],d,hd,hn,hp,_=>⟨hd,hn,hp,λu _=>bg' _,λl hl=>by cases hl⟩
 | l::ls,d,hd,hn,hp,hs=>by
  have hl:=hs l (by simp);obtain⟨a1,a2,a3⟩:=JG hc hd hn hl;obtain⟨b1,b2,b3,b4,b5⟩:=ug (g:=g) (ls:=ls) (d:=rlx t d l) (by rw[yP];exact hd) (CV hn (sE hc l hl)) (PV.rlx hc hp hd hn hl) λm hm=>hs m (bh' _ hm);rw[at'];refine⟨b1,b2,b3,λu hu=>Int.le_trans (b4 u hu) (a1 u hu),λm hm=>?_⟩
  rcases ad'.mp hm with rfl|hm'
  ·obtain⟨ha,hb⟩:=(ax hc).has m hl;exact⟨λh=>Int.le_trans (b4 _ ha) (a2 h),λh=>Int.le_trans (b4 _ hb) (a3 h)⟩
  ·obtain⟨ha,hb⟩:=(ax hc).has m (hs m hm);have h1:=a1 _ ha;have h2:=a1 _ hb;exact⟨λh=>by have:=(b5 m hm').1 (by omega);omega,λh=>by have:=(b5 m hm').2 (by omega);omega⟩
theorem y0{g:Int}(hg:az t g=true):∀k:Nat,(kw t k (to0 t g)).length=t.rs.length∧(∀x∈kw t k (to0 t g),0≤x)∧PV t g (kw t k (to0 t g))∧∀j u n,j≤k→Pth t g j u n→n<ij→at6 t (kw t k (to0 t g)) u≤n
 | 0=>by
  have e:∀u,az t u=true→at6 t (to0 t g) u=if u=g then 0 else ij:=λu hu=>by
   rw[lO hu];obtain⟨r,hr,rfl⟩:=cf.mp hu;obtain⟨i,hi⟩:=ag'.mp hr;rw[wb hc hi,to0,I',J',hi];simp[isR,ij]
  refine⟨by simp[kw,to0],λx hx=>?_,λu hu=>?_,λj u n hj p hn=>?_⟩
  ·obtain⟨y,_,rfl⟩:=Y'.mp hx;split<;>omega
  ·rw[kw,e u hu]
   split
   ·rename_i q;subst q;exact⟨by decide,λ_=>⟨0,.nil⟩⟩
   ·exact⟨bg' _,λh=>by omega⟩
  ·obtain rfl:j=0:=by omega
   cases p;rw[kw,e g hg,G' rfl];exact bg' _
 | k+1=>by
  obtain⟨h1,h2,h3,h4⟩:=y0 hg k;obtain⟨b1,b2,b3,b4,b5⟩:=ug hc (ls:=t.ls) h1 h2 h3 λl hl=>hl;refine⟨b1,b2,b3,λj u n hj p hn=>?_⟩;cases p with
  | nil=>exact Int.le_trans (b4 g hg) (h4 0 g 0 (by omega) .nil hn)
  | cons e q =>
   have hcs:=e.cost hc;have hw:=h4 _ _ _ (by omega) q (by omega)
   obtain⟨l,hl,⟨rfl,rfl,rfl⟩|⟨rfl,rfl,rfl⟩⟩:=e
   ·have:=(b5 l hl).1 (by omega);show at6 t (t.ls.foldl (rlx t) _) _≤_;omega
   ·have:=(b5 l hl).2 (by omega);show at6 t (t.ls.foldl (rlx t) _) _≤_;omega
theorem qn{g:Int}{D:Dis}(h:ve (inG t) g D):∀(N:Nat) {v n:Int},n.toNat≤N→(v,n)∈D→∃k,k≤(D.filter λp=>decide (p.2<n)).length∧Pth t g k v n
 | N,v,n,hN,hx=>by
  by_cases e:v=g
  ·subst e;have:=gX h.nd hx h.src;subst this;exact⟨0,aG' _,.nil⟩
  ·obtain⟨⟨u,m⟩,hq,s,hs,h1,h2⟩:=h.tgt _ hx e;simp only at h1 h2 hs;have he:=(oH hc).mp hs;have hcs:=he.cost hc;have hp:=(h.pos _ hq).1;have hp2:=(h.pos _ hx).1;simp only at hp hp2;subst h1;subst h2
   match N with
   | 0=>omega
   | N+1 =>
    obtain⟨k,hk,p⟩:=qn h N (by omega) hq;refine⟨k+1,?_,.cons he p⟩;have:=qo (l:=D) (x:=(u,m)) (p:=λp=>decide (p.2<m)) (q:=λp=>decide (p.2<m+s.cost)) (λy hy=>by rw[decide_eq_true_eq]at hy ⊢;omega) hq (decide_eq_false (by simp)) (decide_eq_true (by simp;omega));omega
theorem Aa{g:Int}(hg:az t g=true):(cM (inG t) g).length≤t.rs.length:=by
 have h:=ef (l5 hc) (f:=g) (by unfold inG;rw[bi,bc];exact hg);have:=List.Nodup.length_le_of_subset h.nd h.ke;rw[cY,cY,inG,B']at this;exact this
theorem y7{g:Int}(hg:az t g=true)(u:Int):at6 t (to6 t g) u=if aY (cM (inG t) g) u=true then av (cM (inG t) g) u 0 else ij:=by
 have h:=ef (l5 hc) (f:=g) (by unfold inG;rw[bi,bc];exact hg);have hlen:=Aa hc hg;have hR:=(ax hc).nr;obtain⟨r1,r2,r3,r4⟩:=y0 hc hg t.rs.length
 change PV t g (to6 t g)at r3
 change ∀j u n,j≤t.rs.length→Pth t g j u n→n<ij→at6 t (to6 t g) u≤n at r4
 have hk:∀x,x∈ap (inG t)↔az t x=true:=λx=>by unfold inG;rw[bi,bc]
 by_cases hu:az t u=true
 ·by_cases hm:aY (cM (inG t) g) u=true
  ·rw[G' hm];have hx:=bU (z:=(0:Int)) hm;generalize av (cM (inG t) g) u 0=m at hx ⊢;obtain⟨k,hk1,p⟩:=qn hc h _ (V' _) hx;have hle:=bq' (λp:Int×Int=>decide (p.2<m)) (cM (inG t) g);have hb:=(h.pos _ hx).2;simp only at hb;have hup:=r4 k u m (by omega) p (by unfold ij;omega);obtain⟨k',p'⟩:=(r3 u hu).2 (by unfold ij;omega);have:=((oI hc hg).mp hx).2 _ _ p';omega
  ·rw[F' hm];refine P' λq=>?_;obtain⟨k',p'⟩:=(r3 u hu).2 (by have:=(r3 u hu).1;omega);obtain⟨m,_,hx⟩:=h.low ((jM hc).mpr ⟨k',p'⟩);exact hm (bV.mpr ⟨m,hx⟩)
 ·have e:at6 t (to6 t g) u=ij:=by unfold at6;rw[F' hu];rfl
  rw[e,F'];intro q;obtain⟨v,hv⟩:=bV.mp q;exact hu ((hk u).mp (h.ke _ (aS.mpr ⟨v,hv⟩)))
end
section
variable {t : Tpl} (hc : ay t = 0)
include hc
theorem n0{f q:Int}:q∈eX t f↔(aU t f q).2=true:=by
 unfold eX;rw[bH']
 constructor
 ·rintro⟨x,hx,h⟩
  split at h
  ·rw[L'.mp h];assumption
  ·cases h
 ·intro h;have he:=(bT hc (u:=f) (v:=q) (c:=(aU t f q).1)).mpr (Prod.ext rfl h);obtain⟨r,hr,rfl⟩:=cf.mp (he.has hc).2;exact⟨r,hr,by rw[G' h];simp⟩
theorem zZ{g:Int}(hg:az t g=true){x m:Int}(h:(x,m)∈cM (inG t) g):0≤m∧m≤24000:=by
 have hf:=ef (l5 hc) (f:=g) (by unfold inG;rw[bi,bc];exact hg);have:=hf.pos _ h;have hl:=Aa hc hg;have:=(ax hc).nr;simp only at *;omega
theorem Kk:ze (cW t):=by
 have hk:=wo hc;have e:ap (cW t)=t.rs.map (·.id):=by unfold cW;rw[bi]
 refine⟨hk.len,hk.nd,λx hx=>?_,λp hp=>?_⟩
 ·rw[e]at hx;obtain⟨r,hr,rfl⟩:=Y'.mp hx;have:=(ax hc).rg r hr;omega
 ·have hm:av (cW t) p.1 []=p.2:=fj hk.nd hp;refine⟨?_,λs hs=>hk.to p.1 s (by rw[hm];exact hs)⟩;rw[←hm,za hc,(jG _).length_eq];exact(zb hc _).1
theorem pk{g:Int}(hg:az t g=false):cM (inG t) g=[]:=by
 unfold cM;rw[F'];unfold aY;rw[S'];unfold inG;rw[bi,bc,hg];simp
end
theorem bR{t:Tpl}{r:Int}:hs5 t r=true↔ay t=0∧az t r=true:=by unfold hs5;rw[R',aL']
theorem BF{t:Tpl}{f:Int}(hf:az t f=false):cM (cW t) f=[]:=by
 unfold cM;rw[F'];unfold aY;rw[S'];unfold cW;rw[bi,bc,hf];simp
def fv(t:Tpl)(f g:Int):List Int:=if hs5 t f=false∨hs5 t g=false then []else dW t (to6 t g) f
def aC(t:Tpl)(f g:Int):Int×Bool:=if hs5 t f=false∨hs5 t g=false then(0,false)else if at6 t (to6 t g) f=1073741824 then(0,false)else(at6 t (to6 t g) f,true)
theorem pn{t:Tpl}(hc:ay t=0)(f g:Int):aC t f g=if aY (cM (inG t) g) f=true then(av (cM (inG t) g) f 0,true)else(0,false):=by
 unfold aC
 by_cases hg:az t g=true
 ·by_cases hf:az t f=true
  ·rw[F' (by rw[bR.mpr ⟨hc,hf⟩,bR.mpr ⟨hc,hg⟩];simp),y7 hc hg f]
   by_cases h:aY (cM (inG t) g) f=true
   ·have:=zZ hc hg (bU (z:=(0:Int)) h);rw[G' h,G' h,F' (by omega)]
   ·rw[F' h,F' h,G' (show ij=1073741824 from rfl)]
  ·have e:hs5 t f=false:=by rw[bZ'];exact λq=>hf (bR.mp q).2
   rw[G' (.inl e),F'];intro q;obtain⟨v,hv⟩:=bV.mp q;have h:=ef (l5 hc) (f:=g) (by unfold inG;rw[bi,bc];exact hg);have:=h.ke _ (aS.mpr ⟨v,hv⟩);unfold inG at this;rw[bi,bc]at this;exact hf this
 ·have e:hs5 t g=false:=by rw[bZ'];exact λq=>hg (bR.mp q).2
  rw[G' (.inr e),pk hc (by simpa using hg)];rfl
theorem Aj{t:Tpl}(hc:ay t=0)(f g:Int):aC t f g=if aY (cM (cW t) f) g=true then(av (cM (cW t) f) g 0,true)else(0,false):=by
 rw[pn hc]
 by_cases hf:az t f=true
 ·by_cases hg:az t g=true
  ·have key:∀m,(f,m)∈cM (inG t) g↔(g,m)∈cM (cW t) f:=λm=>by rw[oI hc hg,Bb hc hf]
   have hF:=ef (l5 hc) (f:=g) (by unfold inG;rw[bi,bc];exact hg)
   by_cases h:aY (cM (inG t) g) f=true
   ·have hm:=bU (z:=(0:Int)) h;have h2:=(key _).mp hm;have h3:aY (cM (cW t) f) g=true:=bV.mpr ⟨_,h2⟩;have h4:=(key _).mpr (bU (z:=(0:Int)) h3);rw[G' h,G' h3,gX hF.nd hm h4]
   ·have h3:¬aY (cM (cW t) f) g=true:=λq=>by
     obtain⟨v,hv⟩:=bV.mp q;exact h (bV.mpr ⟨v,(key v).mpr hv⟩)
    rw[F' h,F' h3]
  ·rw[pk hc (by simpa using hg)];have h3:¬aY (cM (cW t) f) g=true:=λq=>by
    obtain⟨v,hv⟩:=bV.mp q;have h:=ef (wo hc) (f:=f) (by unfold cW;rw[bi,bc];exact hf);have:=h.ke _ (aS.mpr ⟨v,hv⟩);unfold cW at this;rw[bi,bc]at this;exact hg this
   rw[F' h3];rfl
 ·rw[BF (by simpa using hf)];have h3:¬aY (cM (inG t) g) f=true:=λq=>by
   obtain⟨v,hv⟩:=bV.mp q
   by_cases hg:az t g=true
   ·have h:=ef (l5 hc) (f:=g) (by unfold inG;rw[bi,bc];exact hg);have:=h.ke _ (aS.mpr ⟨v,hv⟩);unfold inG at this;rw[bi,bc]at this;exact hf this
   ·rw[pk hc (by simpa using hg)]at hv;cases hv
  rw[F' h3];rfl
structure Edg where
  router:Int
  id:Int
  deriving DecidableEq
structure Pln where
  sub:Int
  len:Int
  es:List Edg
  deriving DecidableEq
def Edg.v(x:Edg):AV:=.agg [.int x.router,.int x.id]
def Pln.v(x:Pln):AV:=.agg [.int x.sub,.int x.len,.sl 2 (x.es.map Edg.v) false]
theorem jg{es:List AV}(h:bS es=true):eo [es]=true:=by rw[eo,h];rfl
theorem ba.find{α:Type}{l:List α}{t:Int}{x:α}{p:α→Bool}(h:ba l (λy=>p y=false) t)(hx:l[t.toNat]?=some x)(hp:p x=true):l.find? p=some x:=by
 obtain⟨k,rfl,hk,ha⟩:=h;rw[Int.toNat_natCast]at hx;rw[cq'];have hlt:=ao hx;refine⟨hp,k,hlt,by rw[u' hlt]at hx;exact af' hx,λj hj=>?_⟩;rw[ha _ (aD'.mpr ⟨j,by omega,rfl⟩)];rfl
theorem ba.nofind{α:Type}{l:List α}{t:Int}{p:α→Bool}(h:ba l (λy=>p y=false) t)(c:¬t<l.length):l.find? p=none:=by
 rw[cr'];exact λx hx=>by rw[h.done c x hx];simp
def inP(n a b:Int):Bool:=decide (a≤n) && decide (n≤b)
theorem qi{n a b:Int}:(!inP n a b)=true↔¬(a≤n∧n≤b):=by
 unfold inP;by_cases h1:a≤n<;>by_cases h2:n≤b<;>simp[h1,h2]
theorem mU{n a b:Int}:(!inP n a b)=false↔a≤n∧n≤b:=by
 unfold inP;by_cases h1:a≤n<;>by_cases h2:n≤b<;>simp[h1,h2]
def bz(n:Int):Bool:=decide (n=8∨n=16∨n=32∨n=64)
def Rb(y x:Edg):Bool:=y.router==x.router
def B2(e:Edg):Prop:=(1≤e.id∧e.id≤256)∧1≤e.router∧e.router≤99
instance (e:Edg):Decidable (B2 e):=by unfold B2;infer_instance
def qY(p:Pln):Prop:=(0≤p.sub∧p.sub≤7)∧(bz p.len=true∨p.len=0∧p.es=[])∧p.es.length≤24
instance (p:Pln):Decidable (qY p):=by unfold qY;infer_instance
def wa(es:List Edg):Prop:=(∀e∈es,B2 e)∧(es.map Edg.router).Nodup∧(es.map Edg.id).Pairwise (·<·)
instance (es:List Edg):Decidable (wa es):=by unfold wa;infer_instance
def cu(p:Pln):Bool:=decide (qY p) && decide (wa p.es)
def edgG(es:List Edg)(j:Nat)(e:Edg):Prop:=B2 e∧((es.take j).any λy=>Rb y e)=false∧∀e',0<j→es[j-1]?=some e'→e'.id<e.id
theorem ti{es:List Edg}:wa es↔∀j e,es[j]?=some e→edgG es j e:=by
 constructor
 ·rintro⟨h1,h2,h3⟩ j e he;have hj:=ao he;rw[u' hj]at he;have he:=af' he;rw[List.nodup_iff_pairwise_ne,bE',ax']at h2;rw[bE',ax']at h3
  refine⟨h1 e (he ▸ aA' hj),?_,λe' h0 he'=>?_⟩
  ·rw[aP'];intro y hy;obtain⟨i,hi,rfl⟩:=cO' hy;have hi':i<j:=by simp at hi;omega
   rw[List.getElem_take];have:=h2 i j (by omega) hj hi';rw[he]at this;simpa[Rb]using this
  ·rw[u' (by omega)]at he';have:=h3 (j-1) j (by omega) hj (by omega);rw[he,af' he']at this;exact this
 ·intro h
  refine⟨λe he=>?_,?_,?_⟩
  ·obtain⟨j,hj⟩:=cD' he;exact(h j e hj).1
  ·rw[List.nodup_iff_pairwise_ne,bE',ax'];intro i j hi hj hij;have:=(h j _ (u' hj)).2.1;rw[aP']at this;have:=this es[i] (aD'.mpr ⟨i,by omega,rfl⟩);simpa[Rb]using this
  ·rw[bE'];refine gQ.done (l:=es) (R:=λa b=>a.id<b.id) (t:=((es.length+1:Nat):Int)) ⟨es.length+1,rfl,by omega,by omega,λj x y hj hx hy=>?_⟩ (by omega) λx y z q r=>cz' q r;exact(h (j+1) y hy).2.2 x (by omega) (by simpa using hx)
abbrev sR:=bz
def ym(r:Bool):AV:=.bool r
def qC(n:Int):Ax Tryz.prog noS (Bool):=
 (.br 64 (n==8) (.ret (true))
(.br 128 (n==16) (.ret (true))
(.br 192 (n==32) (.ret (true))
(.ret (n==64)))))
theorem Ja(n:Int):(qC n).vp ym (sR n):=by
 dsimp only[qC,noS,Ax.vp,Ax.vc];simp only[vcU,rfU,B']
 refine⟨λc=>?_,λc=>⟨λd=>?_,λd=>⟨λe=>?_,λe=>?_⟩⟩⟩
 ·rw[sR,bz,decide_eq_true (.inl (eq_of_beq c))]
 ·rw[sR,bz,decide_eq_true (.inr (.inl (eq_of_beq d)))]
 ·rw[sR,bz,decide_eq_true (.inr (.inr (.inl (eq_of_beq e))))]
 ·have c:¬n=8:=by simpa using c
  have d:¬n=16:=by simpa using d
  have e:¬n=32:=by simpa using e
  rw[sR,bz,ae',aL',decide_eq_true_eq];simp[c,d,e]
def jF(n:Int):PC Tryz.prog:=pcO 72 [.k] [.int n] .k ym (bz n) (λ_=>⟨(qC n),Ja n,by kernel_rfl⟩) rfl (by kernel_rfl)
abbrev insR:=inP
def Fc(r:Bool):AV:=.bool r
def wT(n:Int)(low:Int)(high:Int):Ax Tryz.prog noS (Bool):=
 (.br 80 (decide (low≤n)) (.ret (decide (n≤high)))
(.ret (false)))
theorem Qx(n a b:Int):(wT n a b).vp Fc (insR n a b):=by
 dsimp only[wT,noS,Ax.vp,Ax.vc];simp only[vcU,rfU,B'];refine⟨λc=>?_,λc=>?_⟩<;>simp[insR,inP,c]
def mq(n:Int)(low:Int)(high:Int):PC Tryz.prog:=pcO 73 [.k,.k,.k] [.int n,.int low,.int high] .k Fc (inP n low high) (λ_=>⟨(wT n low high),Qx n low high,by kernel_rfl⟩) rfl (by kernel_rfl)
def repR(l:List Int):Bool:=!decide l.Nodup
theorem yA{α:Type}{l:List α}{k:Nat}{y:α}(hy:l[k]?=some y):(l.take (k+1)).Nodup↔(l.take k).Nodup∧∀x∈l.take k,x≠y:=by
 rw[aP hy,ba'];simp
def De(l:List Int):=okL [.sl 1 (l.map AV.int) false]
def JN(l:List Int)(t0:Int):NF:=⟨[(0,.k,.sl 1 (l.map AV.int) false),rI 3 t0],[]⟩
def JM(l:List Int)(t0:Int)(t1:Int):NF:=⟨[(0,.k,.sl 1 (l.map AV.int) false),rI 3 t0,rI 4 t1],[]⟩
@[reducible] def Dc:Nat→Type
 | 0=>Int
 | 1=>Int
 | _=>Unit
def Dd(r:Bool):AV:=.bool r
def Db(l:List Int)(I0:Int→Prop)(m0:Int→Nat)(I1:Int→Int→Prop)(m1:Int→Int→Nat):Ax Tryz.prog Dc (Bool):=
 (.loop 0 (JN l) I0 m0 ((0):Int) [] λ(t0:Int) b0 =>
(.br 64 (decide (t0<((l.map AV.int).length:Int))) (.loop 1 (JM l t0) (I1 t0) (m1 t0) ((0):Int) [] λ(t1:Int) b1 =>
(.br 48 (decide (t1<t0)) (.elI 80 AV.int l t0 λx1 =>
(.elI 144 AV.int l t1 λx2 =>
(.br 192 (x1==x2) (.ret (true))
(.bk 1 b1 ((W (t1+1)):Int) []))))
(.bk 0 b0 ((W (t0+1)):Int) [])))
(.ret (false))))
theorem Pi(l:List Int)(ok:De l):∃I0 m0 I1 m1,(Db l I0 m0 I1 m1).vp Dd (repR l):=by
 refine⟨λt=>∃k:Nat,t=k∧k≤l.length∧(l.take k).Nodup,λt=>l.length-t.toNat,λs t=>∃j:Nat,t=j∧t≤s∧∀y,l[s.toNat]?=some y→∀x∈l.take j,x≠y,λs t=>s.toNat-t.toNat,?_⟩;simp only[De,okU,Blk.ok,aJ,B']at ok;dsimp only[Db,Dc,Ax.vp,Ax.vc];simp only[vcU,rfU,B'];refine⟨⟨0,rfl,by omega,by simp⟩,?_⟩;rintro _ ⟨k,rfl,hk,h⟩
 refine⟨λc=>⟨⟨0,rfl,by omega,by simp⟩,?_⟩,λc=>?_⟩
 ·rintro _ ⟨j,rfl,hj,g⟩;have hy:=u' (show k<l.length by omega);simp only[Int.toNat_natCast]at g ⊢
  refine⟨λd=>⟨by omega,by omega,λy hy'=>⟨by omega,by omega,λx hx=>⟨λe=>?_,λe=>?_⟩⟩⟩,λd=>?_⟩
  ·have e:=eq_of_beq e;have:¬l.Nodup:=λq=>by
    have:=(yA hy').mp (q.sublist (List.take_sublist _ _));exact this.2 x (aD'.mpr ⟨j,by omega,by rw[u' (by omega)]at hx;exact af' hx⟩) e.symm
   rw[repR,decide_eq_false this];rfl
  ·rw[bf (n:=l.length) (by omega) (by omega)];refine⟨⟨j+1,rfl,by omega,λz hz w hw=>?_⟩,by omega⟩;rw[aP hx]at hw
   rcases X'.mp hw with hw|hw
   ·exact g z hz w hw
   ·rw[L']at hw;rw[hy']at hz;cases hz;subst hw;exact λq=>by rw[q]at e;simp at e
  ·have:j=k:=by omega
   subst this;rw[bf (n:=l.length) (by omega) (by omega)];exact⟨⟨j+1,rfl,by omega,(yA hy).mpr ⟨h,g _ hy⟩⟩,by omega⟩
 ·rw[ai' (by omega)]at h;rw[repR,decide_eq_true h];rfl
def Pj(l:List Int):PC Tryz.prog:=pcO 97 [(.s 1)] [.sl 1 (l.map AV.int) false] .k Dd (repR l) (λok=>let ⟨I0,m0,I1,m1,h⟩:=Pi l ok;⟨_,h,by kernel_rfl⟩) rfl (by kernel_rfl)
def yl(p:Pln):=okL [Pln.v p]
def Cd(p:Pln)(t0:Bool):NF:=⟨[rR 1 0,rB 32 t0],[.box (Pln.v p)]⟩
def Cc(p:Pln)(t1:Int×List Int):NF:=⟨[rR 1 0,rV 3 1,rI 4 t1.1],[.box (Pln.v p),vB 1 AV.int t1.2 (λ_=>rfl)]⟩
def Cb(p:Pln)(t1:Int×List Int)(x1:Edg)(t2:Bool):NF:=⟨[rR 1 0,rV 3 1,rI 4 t1.1,rR 5 2,rB 70 t2],[.box (Pln.v p),vB 1 AV.int t1.2 (λ_=>rfl),.box (Edg.v x1)]⟩
@[reducible] def yj:Nat→Type
 | 0=>Bool
 | 1=>Int×List Int
 | 2=>Bool
 | _=>Unit
def yk(r:Bool):AV:=.bool r
def yi(p:Pln)(I0:Bool→Prop)(I1:Bool→(Int×List Int)→Prop)(m1:Bool→(Int×List Int)→Nat)(I2:Bool→Int×List Int→Edg→Bool→Prop):Ax Tryz.prog yj (Bool):=
 (.pass (.pass (.join 0 (Cd p) (λ(t0:Bool)=>I0 t0) (λb0=>(.callP (mq p.sub 0 7)
(.br 112 (!(inP p.sub 0 7)) (.bk 0 b0 ((true):Bool) [0])
(.callP (jF p.len)
(.br 192 (!(bz p.len)) (.br 256 (p.len != 0) (.bk 0 b0 ((true):Bool) [0])
(.br 384 (decide (0<((p.es.map Edg.v).length:Int))) (.bk 0 b0 ((true):Bool) [0])
(.bk 0 b0 ((decide (24<((p.es.map Edg.v).length:Int))):Bool) [0])))
(.bk 0 b0 ((decide (24<((p.es.map Edg.v).length:Int))):Bool) [0])))))) λ(t0:Bool) =>
(.br 1 t0 (.ret (false))
(.cmdL (.nilT 3 1) (.loop 1 (Cc p) (I1 t0) (m1 t0) (0,[]) [0,33] λ(t1:Int×List Int) b1 =>
(.br 82 (decide (t1.1<((p.es.map Edg.v).length:Int))) (.elI 130 Edg.v p.es t1.1 λx1 =>
(.pass (.join 2 (Cb p t1 x1) (λ(t2:Bool)=>I2 t0 t1 x1 t2) (λb2=>(.callP (mq x1.id 1 256)
(.br 274 (!(inP x1.id 1 256)) (.bk 2 b2 ((true):Bool) [0,1,162])
(.callP (mq x1.router 1 99)
(.br 370 (!(inP x1.router 1 99)) (.bk 2 b2 ((true):Bool) [0,1,162])
(.br 418 (decide (0<t1.1)) (.elI 482 Edg.v p.es (W (t1.1-1)) λx2 =>
(.bk 2 b2 ((decide (x1.id≤x2.id)):Bool) [0,1,162]))
(.bk 2 b2 ((false):Bool) [0,1,162]))))))) λ(t2:Bool) =>
(.br 3 t2 (.ret (false))
(.apX 67 AV.int t1.2 [x1.router] (t1.2.length+1)
(.bk 1 b1 (W (t1.1+1),t1.2++[x1.router]) [0,67]))))))
(.callP (Pj t1.2)
(.say (ck (eo [(t1.2.map AV.int)])) (.ret (!(repR t1.2))))))))))))
def LK(es:List Edg)(j:Nat)(e:Edg):Prop:=B2 e∧∀e',0<j→es[j-1]?=some e'→e'.id<e.id
theorem pY{es:List Edg}:wa es↔(∀j e,es[j]?=some e→LK es j e)∧(es.map Edg.router).Nodup:=by
 constructor
 ·exact λh=>⟨λj e he=>⟨(ti.mp h j e he).1,(ti.mp h j e he).2.2⟩,h.2.1⟩
 ·intro h
  refine⟨λe he=>?_,h.2,?_⟩
  ·obtain⟨j,hj⟩:=cD' he;exact(h.1 j e hj).1
  ·rw[bE'];refine gQ.done (l:=es) (R:=λa b=>a.id<b.id) (t:=((es.length+1:Nat):Int)) ⟨es.length+1,rfl,by omega,by omega,λj x y hj hx hy=>?_⟩ (by omega) λx y z q r=>cz' q r;exact(h.1 (j+1) y hy).2 x (by omega) (by simpa using hx)
theorem IY(p:Pln)(ok:yl p):∃I0 I1 m1 I2,(yi p I0 I1 m1 I2).vp yk (cu p):=by
 refine⟨λb=>b=decide (¬qY p),λ_ t=>eO p.es (λe=>[e.router]) t.1 t.2∧∃k:Nat,t.1=k∧∀j e,j<k→p.es[j]?=some e→LK p.es j e,λ_ t=>p.es.length-t.1.toNat,λ_ t x b=>b=true↔¬LK p.es t.1.toNat x,?_⟩;simp only[yl,Pln.v,okU,Blk.ok,aJ,B']at ok;dsimp only[yi,yj,Ax.vp,Ax.vc];simp only[vcU,rfU,B'];have hes:p.es=[]↔¬0<(p.es.length:Int):=by rw[←bt'];omega
 refine⟨⟨λc=>?_,λc=>⟨λd=>⟨λe=>?_,λe=>⟨λg=>?_,λg=>?_⟩⟩,λd=>?_⟩⟩,?_⟩
 ·have c:¬(0≤p.sub∧p.sub≤7):=qi.mp c;exact(decide_eq_true (show ¬qY p from λq=>c q.1)).symm
 ·have d:bz p.len=false:=by simpa using d
  have e:p.len≠0:=by simpa using e
  exact(decide_eq_true (show ¬qY p from λq=>by
   rcases q.2.1 with r|r
   ·rw[d]at r;cases r
   ·exact e r.1)).symm
 ·have d:bz p.len=false:=by simpa using d
  exact(decide_eq_true (show ¬qY p from λq=>by
   rcases q.2.1 with r|r
   ·rw[d]at r;cases r
   ·exact hes.mp r.2 g)).symm
 ·have c:0≤p.sub∧p.sub≤7:=mU.mp c;have e:p.len=0:=by simpa using e
  rw[decide_eq_decide];unfold qY;rw[and_iff_right c,and_iff_right (.inr ⟨e,hes.mpr g⟩)];omega
 ·have c:0≤p.sub∧p.sub≤7:=mU.mp c;have d:bz p.len=true:=by simpa using d
  rw[decide_eq_decide];unfold qY;rw[and_iff_right c,and_iff_right (.inl d)];omega
 rintro _ rfl
 refine⟨λc=>?_,λc=>⟨⟨eO.zero,0,rfl,λj e h=>by omega⟩,?_⟩⟩
 ·rw[cu,decide_eq_false (H' c)];rfl
 have c:=br'.mp (T' c);have hl:=c.2.2;rintro⟨i,out⟩ ⟨hx0,k,hi,h⟩;simp only at hi hx0 ⊢;have hlen:=hx0.len (b:=1) (by simp);have h0:=hx0.idx
 refine⟨λd=>⟨h0,d,λx hx=>⟨?_,?_⟩⟩,λd=>?_⟩
 ·refine⟨λe1=>?_,λe1=>⟨λe2=>?_,λe2=>⟨λe4=>?_,λe4=>?_⟩⟩⟩
  ·have e1:¬(1≤x.id∧x.id≤256):=qi.mp e1;exact iff_of_true trivial λq=>e1 q.1.1
  ·have e2:¬(1≤x.router∧x.router≤99):=qi.mp e2;exact iff_of_true trivial λq=>e2 q.1.2
  ·have e1:1≤x.id∧x.id≤256:=mU.mp e1;have e2:1≤x.router∧x.router≤99:=mU.mp e2;subst hi;rw[kI (by omega) (by omega)];refine⟨by omega,by omega,λy hy=>?_⟩;rw[Int.toNat_natCast]at hy;simp only[Int.toNat_natCast,decide_eq_true_eq]
   constructor
   ·exact λq r=>by have:=r.2 y (by omega) hy;omega
   ·intro q;refine P' λr=>q ⟨⟨e1,e2⟩,λy' _ hy'=>?_⟩;rw[hy]at hy';cases hy';omega
  ·have e1:1≤x.id∧x.id≤256:=mU.mp e1;have e2:1≤x.router∧x.router≤99:=mU.mp e2;exact iff_of_false Bool.false_ne_true λq=>q ⟨⟨e1,e2⟩,λy' h0 _=>by omega⟩
 ·intro b hb
  refine⟨λe=>?_,λe=>?_⟩
  ·have:¬wa p.es:=λq=>hb.mp e ((pY.mp q).1 i.toNat x hx);rw[cu,decide_eq_false this,Bool.and_false]
  ·have hg:LK p.es i.toNat x:=br'.mp λq=>by rw[hb.mpr q]at e;cases e
   obtain⟨a1,a2⟩:=hx0.step (out':=out++[x.router]) (by omega) hx rfl
   refine⟨by omega,⟨a1,k+1,?_,λj y hj hy=>?_⟩,a2⟩
   ·rw[ce (by omega)];omega
   ·by_cases e':j=k
    ·subst e';subst hi;rw[Int.toNat_natCast]at hx hg;rw[hx]at hy;cases hy;exact hg
    ·exact h j y (by omega) hy
 ·have hd:=hx0.done d;rw[ui]at hd;have:wa p.es↔(p.es.map Edg.router).Nodup:=by
   rw[pY];exact⟨λq=>q.2,λq=>⟨λj e he=>h j e (by have:=ao he;omega) he,q⟩⟩
  refine⟨jg (ah (λ_=>rfl) _),?_⟩;rw[cu,decide_eq_true c,decide_eq_decide.mpr this,hd,repR,Bool.not_not];rfl
def IZ(p:Pln):PC Tryz.prog:=pcO 59 [(.a [.k,.k,(.s 2)])] [Pln.v p] .k yk (cu p) (λok=>let ⟨I0,I1,m1,I2,h⟩:=IY p ok;⟨_,h,by kernel_rfl⟩) rfl (by kernel_rfl)
def iF(p:Pln)(id:Int):Edg×Bool:=match p.es.find? λe=>e.id==id with
 | some e=>(e,true)
 | none=>(⟨0,0⟩,false)
def Gy(p:Pln)(id:Int):=okL [Pln.v p,.int id]
def LL(p:Pln)(id:Int)(t0:Int):NF:=⟨[rI 1 id,rR 2 0,rR 4 1,rI 6 t0],[.box (Pln.v p),.box (.agg [.int 0,.int 0])]⟩
@[reducible] def Gw:Nat→Type
 | 0=>Int
 | _=>Unit
def Gx(r:Edg×Bool):AV:=.tup [Edg.v r.1,.bool r.2]
def Gv(p:Pln)(id:Int)(I0:Int→Prop)(m0:Int→Nat):Ax Tryz.prog Gw (Edg×Bool):=
 (.loop 0 (LL p id) I0 m0 ((0):Int) [0,16] λ(t0:Int) b0 =>
(.br 82 (decide (t0<((p.es.map Edg.v).length:Int))) (.elI 130 Edg.v p.es t0 λx1 =>
(.br 210 (x1.id==id) (.elI 258 Edg.v p.es t0 λx2 =>
(.ret (x2,true)))
(.bk 0 b0 ((W (t0+1)):Int) [0,1])))
(.ret ((⟨0,0⟩:Edg),false))))
theorem Ri(p:Pln)(r:Int)(ok:Gy p r):∃I m,(Gv p r I m).vp Gx (iF p r):=by
 refine⟨λt=>ba p.es (λe=>(e.id==r)=false) t,λt=>p.es.length-t.toNat,?_⟩;simp only[Gy,Pln.v,okU,Blk.ok,aJ,B']at ok;dsimp only[Gv,Gw,Ax.vp,Ax.vc];simp only[vcU,rfU,B']
 refine⟨ba.zero,λt h=>⟨λc=>⟨h.idx,c,λx hx=>⟨λq=>?_,λq=>h.step (by omega) hx q⟩⟩,λc=>?_⟩⟩
 ·refine⟨h.idx,c,λy hy=>?_⟩;rw[hx]at hy;cases hy;rw[iF,h.find (p:=λe=>e.id==r) hx q]
 ·rw[iF,h.nofind (p:=λe=>e.id==r) c]
def Rj(p:Pln)(id:Int):PC Tryz.prog:=pcO 27 [(.a [.k,.k,(.s 2)]),.k] [Pln.v p,.int id] .k Gx (iF p id) (λok=>let ⟨I0,m0,h⟩:=Ri p id ok;⟨_,h,by kernel_rfl⟩) rfl (by kernel_rfl)
def GM(x:Int)(n:Int):=okL [.int x,.int n]
def GL(r:Int):AV:=.int r
def xz(x:Int)(n:Int):Ax Tryz.prog noS (Int):=
 (.br 48 (decide (n<1)) (.ret (0))
(.say (ck (!(n==0))) (.br 144 (decide ((x.tmod n)<0)) (.ret (W ((x.tmod n)+n)))
(.ret (x.tmod n)))))
theorem Ru(x n:Int)(ok:GM x n):(xz x n).vp GL (Mod x n):=by
 simp only[GM,okU,Blk.ok,aJ,B']at ok;dsimp only[xz,noS,Ax.vp,Ax.vc];simp only[vcU,rfU,B'];refine⟨λh=>by rw[Mod,G' h],λh=>⟨by simp;omega,λh2=>?_,λh2=>by rw[Mod,F' h,F' h2]⟩⟩;have hb:=cg' x (show 0<n by omega);have hb':=Int.lt_tmod_of_pos x (show 0<n by omega);rw[Mod,F' h,G' h2,ce (by omega)]
def Rv(x:Int)(n:Int):PC Tryz.prog:=pcO 89 [.k,.k] [.int x,.int n] .k GL (Mod x n) (λok=>⟨(xz x n),Ru x n ok,by kernel_rfl⟩) rfl (by kernel_rfl)
def Ds(L:List Int)(p:Int):=okL [.ref 0 0]∧(.box (.agg [.sl 1 (L.map AV.int) false,.int p]):Blk).ok
def vU(r:sK×Int):AV:=.int r.2
def qU(r:sK×Int):List (Option Blk):=[some (.box (sK.v r.1))]
def qT(L:List Int)(p:Int):Ax Tryz.prog noS (sK×Int):=
 (.br 177 (decide (((L.map AV.int).length:Int)≤p)) (.retH ((⟨L,p⟩:sK),0) ⟨[rI 2 0],[.box (.agg [.sl 1 (L.map AV.int) false,.int p])]⟩ [0])
(.elI 449 AV.int L (W ((W (p+1))-1)) λx1 =>
(.retH ((⟨L,W (p+1)⟩:sK),x1) ⟨[rI 2 x1],[.box (.agg [.sl 1 (L.map AV.int) false,.int (W (p+1))])]⟩ [0])))
theorem JT(L:List Int)(p:Int)(r0:sK×Int)(h:(qT L p).vc vU qU r0):aZ Tryz.prog 90 [.ref 0 0] [.box (.agg [.sl 1 (L.map AV.int) false,.int p])] (vU r0) (qU r0):=El (sh:=.k) (hB:=qU) (a:=(qT L p).an) h (by kernel_rfl)
theorem Po(L:List Int)(p:Nat)(ok:Ds L p):(qT L p).vc vU qU (⟨L,ab L p⟩,am L p):=by
 simp only[Ds,okU,Blk.ok,aJ,B']at ok;dsimp only[qT,noS,Ax.vp,Ax.vc];simp only[vcU,rfU,B']
 refine⟨λh=>?_,λh=>?_⟩
 ·rw[ab,G' (by omega)];simp[am,aj' (show L.length≤p by omega)]
 ·have e1:W ((p:Int)+1)=p+1:=ce (by omega);have e2:W ((p:Int)+1-1)=p:=by rw[ce (by omega)];omega
  rw[e1,e2];refine⟨by omega,by omega,λx hx=>?_⟩;rw[Int.toNat_natCast]at hx;rw[ab,F' (by omega)];simp[am,hx]
theorem AT(L:List Int)(p:Nat):aZ Tryz.prog 90 [.ref 0 0] [.box (Tap.v ⟨L,p⟩)] (.int (am L p)) [some (.box (Tap.v ⟨L,ab L p⟩))]:=
 aZ.of_okh λok ok2=>JT L p _ (Po L p ⟨ok,ok2 _ (L'.mpr rfl)⟩)
def vT(L:List Int)(p:Nat):HC Tryz.prog:=⟨90,[],[.ref 0 0],[.box (Tap.v ⟨L,p⟩)],.int (am L p),[some (.box (Tap.v ⟨L,ab L p⟩))],AT L p,mB (by kernel_rfl),vd.of rfl⟩
def wA(r:Tap×Int):AV:=.int r.2
def wB(r:Tap×Int):List (Option Blk):=[some (.box (Tap.v r.1))]
def w9(L:List Int)(p:Nat)(n:Int):Ax Tryz.prog noS (Tap×Int):=
 (.callH [0] (vT L p) 33
(.callP (Rv (am L p) n)
(.retH ((⟨L,ab L p⟩:Tap),Mod (am L p) n) ⟨[rI 4 (Mod (am L p) n)],[.box (.agg [.sl 1 (L.map AV.int) false,.int (ab L p)])]⟩ [0])))
theorem PM(L:List Int)(p:Nat)(n:Int):(w9 L p n).vc wA wB (⟨L,ab L p⟩,Mod (am L p) n):=by
 dsimp only[w9,noS,Ax.vp,Ax.vc];simp only[vcU,rfU,B']
def bq(L:List Int)(p:Nat)(n:Int):HC Tryz.prog:=hcO 44 [.k,.k] [.ref 0 0,.int n] [.box (.agg [.sl 1 (L.map AV.int) false,.int p])] .k wA wB ((⟨L,ab L p⟩,Mod (am L p) n):Tap×Int) (λ_ _=>⟨(w9 L p n),PM L p n,by kernel_rfl⟩) (by kernel_rfl) (by simp[hcB,cS,AV.belB,allB,eH,dG,wA,wB,Tap.v,ah (v:=AV.int) (λ_=>rfl)])
def vO(r:Tap×Int):AV:=.int r.2
def vP(r:Tap×Int):List (Option Blk):=[some (.box (Tap.v r.1))]
def vN(L:List Int)(p:Nat)(low:Int)(high:Int):Ax Tryz.prog noS (Tap×Int):=
 (.callH [0] (bq L p (W ((W (high-low))+1))) 113
(.retH ((⟨L,ab L p⟩:Tap),W (low+(Mod (am L p) (W ((W (high-low))+1))))) ⟨[rI 6 (W (low+(Mod (am L p) (W ((W (high-low))+1)))))],[.box (.agg [.sl 1 (L.map AV.int) false,.int (ab L p)])]⟩ [0]))
theorem Pe(L:List Int)(p:Nat)(lo hi:Int):(vN L p lo hi).vc vO vP (⟨L,ab L p⟩,rng L p lo hi):=by
 dsimp only[vN,noS,Ax.vp,Ax.vc];simp only[vcU,rfU,B'];rfl
def ep(L:List Int)(p:Nat)(low:Int)(high:Int):HC Tryz.prog:=hcO 20 [.k,.k,.k] [.ref 0 0,.int low,.int high] [.box (.agg [.sl 1 (L.map AV.int) false,.int p])] .k vO vP ((⟨L,ab L p⟩,rng L p low high):Tap×Int) (λ_ _=>⟨(vN L p low high),Pe L p low high,by kernel_rfl⟩) (by kernel_rfl) (by simp[hcB,cS,AV.belB,allB,eH,dG,vO,vP,Tap.v,ah (v:=AV.int) (λ_=>rfl)])
def wm(r:Tap×Int):AV:=.int r.2
def wn(r:Tap×Int):List (Option Blk):=[some (.box (Tap.v r.1))]
def wl(L:List Int)(p:Nat)(l:List Int):Ax Tryz.prog noS (Tap×Int):=
 (.callH [0] (bq L p ((l.map AV.int).length:Int)) 81
(.elI 97 AV.int l (Mod (am L p) ((l.map AV.int).length:Int)) λx1 =>
(.retH ((⟨L,ab L p⟩:Tap),x1) ⟨[rI 4 x1],[.box (.agg [.sl 1 (L.map AV.int) false,.int (ab L p)])]⟩ [0])))
theorem P2(L:List Int)(p:Nat)(l:List Int)(hl:l≠[]):(wl L p l).vc wm wn (⟨L,ab L p⟩,aK l (am L p)):=by
 have hl:0<l.length:=cM'.mpr hl;have hm:=bw (x:=am L p) (show 1≤(l.length:Int) by omega);dsimp only[wl,noS,Ax.vp,Ax.vc];simp only[vcU,rfU,B'];refine⟨by omega,by omega,λx hx=>?_⟩;rw[aK,I',hx];rfl
def fI(L:List Int)(p:Nat)(l:List Int)(hl:l≠[]):HC Tryz.prog:=hcO 43 [.k,(.s 1)] [.ref 0 0,.sl 1 (l.map AV.int) false] [.box (.agg [.sl 1 (L.map AV.int) false,.int p])] .k wm wn ((⟨L,ab L p⟩,aK l (am L p)):Tap×Int) (λ_ _=>⟨(wl L p l),P2 L p l hl,by kernel_rfl⟩) (by kernel_rfl) (by simp[hcB,cS,AV.belB,allB,eH,dG,wm,wn,Tap.v,ah (v:=AV.int) (λ_=>rfl)])
def eV(L:List Int)(p:Nat)(n:Int):Bool:=Mod (am L p) n==W (n-1)
def w7(r:Tap×Bool):AV:=.bool r.2
def w8(r:Tap×Bool):List (Option Blk):=[some (.box (Tap.v r.1))]
def w6(L:List Int)(p:Nat)(n:Int):Ax Tryz.prog noS (Tap×Bool):=
 (.callH [0] (bq L p n) 49
(.retH ((⟨L,ab L p⟩:Tap),(Mod (am L p) n)==(W (n-1))) ⟨[rB 4 ((Mod (am L p) n)==(W (n-1)))],[.box (.agg [.sl 1 (L.map AV.int) false,.int (ab L p)])]⟩ [0]))
theorem PJ(L:List Int)(p:Nat)(n:Int):(w6 L p n).vc w7 w8 (⟨L,ab L p⟩,eV L p n):=by
 dsimp only[w6,noS,Ax.vp,Ax.vc];simp only[vcU,rfU,B'];rfl
def jo(L:List Int)(p:Nat)(n:Int):HC Tryz.prog:=hcO 33 [.k,.k] [.ref 0 0,.int n] [.box (.agg [.sl 1 (L.map AV.int) false,.int p])] .k w7 w8 ((⟨L,ab L p⟩,eV L p n):Tap×Bool) (λ_ _=>⟨(w6 L p n),PJ L p n,by kernel_rfl⟩) (by kernel_rfl) (by simp[hcB,cS,AV.belB,allB,eH,dG,w7,w8,Tap.v,ah (v:=AV.int) (λ_=>rfl)])
def wldL:List Int:=[-1,0,1,7,8,23,24,31,32,63,64,99,100,255,256,257,1000,1001,1023,1024,1000000,1000001,1099511627776,9223372036854775807,-9223372036854775808]
def fG(L:List Int)(p:Nat):Int:=aK wldL (am L p)
def vj(r:Tap×Int):AV:=.int r.2
def vk(r:Tap×Int):List (Option Blk):=[some (.box (Tap.v r.1))]
def vh(L:List Int)(p:Nat):Ax Tryz.prog noS (Tap×Int):=
 (.req 49 ([-1,0,1,7,8,23,24,31,32,63,64,99,100,255,256,257,1000,1001,1023,1024,1000000,1000001,1099511627776,9223372036854775807,-9223372036854775808]≠[]) λh1 =>
(.callH [0] (fI L p [-1,0,1,7,8,23,24,31,32,63,64,99,100,255,256,257,1000,1001,1023,1024,1000000,1000001,1099511627776,9223372036854775807,-9223372036854775808] h1) 49
(.retH ((⟨L,ab L p⟩:Tap),aK [-1,0,1,7,8,23,24,31,32,63,64,99,100,255,256,257,1000,1001,1023,1024,1000000,1000001,1099511627776,9223372036854775807,-9223372036854775808] (am L p)) ⟨[rI 2 (aK [-1,0,1,7,8,23,24,31,32,63,64,99,100,255,256,257,1000,1001,1023,1024,1000000,1000001,1099511627776,9223372036854775807,-9223372036854775808] (am L p))],[.box (.agg [.sl 1 (L.map AV.int) false,.int (ab L p)])]⟩ [0])))
theorem Oz(L:List Int)(p:Nat):(vh L p).vc vj vk (⟨L,ab L p⟩,fG L p):=by
 dsimp only[vh,noS,Ax.vp,Ax.vc];simp only[vcU,rfU,B'];exact⟨by simp,rfl⟩
def lT(L:List Int)(p:Nat):HC Tryz.prog:=hcO 46 [.k] [.ref 0 0] [.box (.agg [.sl 1 (L.map AV.int) false,.int p])] .k vj vk ((⟨L,ab L p⟩,fG L p):Tap×Int) (λ_ _=>⟨(vh L p),Oz L p,by kernel_rfl⟩) (by kernel_rfl) (by simp[hcB,cS,AV.belB,allB,eH,dG,vj,vk,Tap.v,ah (v:=AV.int) (λ_=>rfl)])
def KQ:List Int:=[8,8,16,32,64]
def db(L:List Int)(p:Nat):Int:=aK KQ (am L p)
def wN(r:Tap×Int):AV:=.int r.2
def wO(r:Tap×Int):List (Option Blk):=[some (.box (Tap.v r.1))]
def wM(L:List Int)(p:Nat):Ax Tryz.prog noS (Tap×Int):=
 (.req 49 ([8,8,16,32,64]≠[]) λh1 =>
(.callH [0] (fI L p [8,8,16,32,64] h1) 49
(.retH ((⟨L,ab L p⟩:Tap),aK [8,8,16,32,64] (am L p)) ⟨[rI 2 (aK [8,8,16,32,64] (am L p))],[.box (.agg [.sl 1 (L.map AV.int) false,.int (ab L p)])]⟩ [0])))
theorem Qp(L:List Int)(p:Nat):(wM L p).vc wN wO (⟨L,ab L p⟩,db L p):=by
 dsimp only[wM,noS,Ax.vp,Ax.vc];simp only[vcU,rfU,B'];exact⟨by simp,rfl⟩
def EJ(L:List Int)(p:Nat):HC Tryz.prog:=hcO 56 [.k] [.ref 0 0] [.box (.agg [.sl 1 (L.map AV.int) false,.int p])] .k wN wO ((⟨L,ab L p⟩,db L p):Tap×Int) (λ_ _=>⟨(wM L p),Qp L p,by kernel_rfl⟩) (by kernel_rfl) (by simp[hcB,cS,AV.belB,allB,eH,dG,wN,wO,Tap.v,ah (v:=AV.int) (λ_=>rfl)])
def Ef(l:List Int):=okL [.sl 1 (l.map AV.int) false]
def wI(r:Tap):AV:=.ref 0 0
def wJ(r:Tap):List (Option Blk):=[some (.box (Tap.v r))]
def wH(l:List Int):Ax Tryz.prog noS (Tap):=
 (.br 64 (decide (600<((l.map AV.int).length:Int))) (.say (λR=>Rf (α:=List AV) (l.map AV.int) (ck (ip l.length 0 600 (l.length:Int))
R)) (.sub 80 AV.int l false
(.retH (⟨(l.take 600).drop 0,0⟩:Tap) ⟨[rR 2 0],[.box (.agg [.sl 1 (((l.take 600).drop 0).map AV.int) false,.int 0])]⟩ [144])))
(.retH (⟨l,0⟩:Tap) ⟨[rR 2 0],[.box (.agg [.sl 1 (l.map AV.int) false,.int 0])]⟩ [96]))
theorem PX(t:List Int)(ok:Ef t):(wH t).vc wI wJ ⟨t.take 600,0⟩:=by
 simp only[Ef,okU,Blk.ok,aJ,B']at ok;dsimp only[wH,noS,Ax.vp,Ax.vc];simp only[vcU,rfU,B'];refine⟨λh=>⟨by simp[ip];omega,by rw[cd']⟩,λh=>by rw[ai' (by omega)]⟩
def PY(l:List Int):HC Tryz.prog:=hcO 7 [(.s 1)] [.sl 1 (l.map AV.int) false] [] .k wI wJ (⟨l.take 600,0⟩:Tap) (λok _=>⟨(wH l),PX l ok,by kernel_rfl⟩) (by kernel_rfl) (by simp[hcB,cS,AV.belB,allB,eH,dG,wI,wJ,Tap.v,ah (v:=AV.int) (λ_=>rfl)])
def pK(L:List Int):Nat→Int→List Int→Nat→List Int×Nat
 | 0,_,out,p=>(out,p)
 | n+1,i,out,p=>pK L n (i+1) (bF out (Mod (am L p) (out.length+1)).toNat i) (ab L p)
def gf(L:List Int)(n:Int)(p:Nat):List Int×Nat:=pK L n.toNat 0 [] p
theorem gZ{α:Type}(l:List α)(k:Nat)(x:α)(h:k≤l.length):(bF l k x).length=l.length+1:=by
 unfold bF;simp;omega
theorem kz{α:Type}(l:List α)(k:Nat)(x:α):(bF l k x).Perm (x::l):=by
 unfold bF;have:=(List.perm_middle (a:=x) (l₁:=l.take k) (l₂:=l.drop k))
 rw[bT']at this;simpa[aT']using this
theorem zc{L:List Int}:∀{n:Nat} {i:Int} {out:List Int} {p:Nat},out.Nodup→(∀x∈out,0≤x∧x<i)→0≤i →
  (pK L n i out p).1.Nodup∧∀x∈(pK L n i out p).1,0≤x∧x<i+n
 | 0,i,out,p,h1,h2,h0=>⟨h1,λx hx=>by have:=h2 x hx;omega⟩
 | n+1,i,out,p,h1,h2,h0=>by
  rw[pK];have hp:=kz out (Mod (am L p) (out.length+1)).toNat i
  obtain⟨a,b⟩:=zc (L:=L) (n:=n) (i:=i+1) (out:=bF out (Mod (am L p) (out.length+1)).toNat i) (p:=ab L p)
   (hp.nodup_iff.mpr (cp'.mpr ⟨λhi=>by have:=h2 i hi;omega,h1⟩))
   (λx hx=>by
    rcases ad'.mp (hp.mem_iff.mp hx)with rfl|hx
    ·omega
    ·have:=h2 x hx;omega) (by omega)
  exact⟨a,λx hx=>by have:=b x hx;omega⟩
theorem ou{L:List Int}{n:Int}{p:Nat}(h:0≤n):(gf L n p).1.Nodup∧∀x∈(gf L n p).1,0≤x∧x<n:=by
 obtain⟨a,b⟩:=zc (L:=L) (n:=n.toNat) (i:=0) (out:=[]) (p:=p) bn' (by simp) (by omega);exact⟨a,λx hx=>by have:=b x hx;omega⟩
theorem mt{α:Type}{l:List α}{k:Nat}{x:α}:(((l.take k).drop 0)++[x])++((l.take ((l.length:Int).toNat)).drop k)=bF l k x:=by rw[aT',Bm]
def Kr(L:List Int)(n:Int)(t0:Int×Nat×List Int):NF:=⟨[rR 0 0,rI 1 n,rV 5 1,rI 6 t0.1],[.box (.agg [.sl 1 (L.map AV.int) false,.int t0.2.1]),vB 1 AV.int t0.2.2 (λ_=>rfl)]⟩
@[reducible] def DM:Nat→Type
 | 0=>Int×Nat×List Int
 | _=>Unit
def wu(r:Tap×List Int):AV:=.sl 1 (r.2.map AV.int) false
def wv(r:Tap×List Int):List (Option Blk):=[some (.box (Tap.v r.1))]
def DL(L:List Int)(p:Nat)(n:Int)(I0:(Int×Nat×List Int)→Prop)(m0:(Int×Nat×List Int)→Nat):Ax Tryz.prog DM (Tap×List Int):=
 (.cmdL (.nilT 5 1) (.loop 0 (Kr L n) I0 m0 (0,p,[]) [0,49] λ(t0:Int×Nat×List Int) b0 =>
(.br 50 (decide (t0.1<n)) (.callH [0] (bq L t0.2.1 (W (t0.1+1))) 98
(.wait (.say (Rf (t0.2.2.map AV.int)) (.cmd (.frzE 1 (t0.2.2.map AV.int) (ah (λ_=>rfl) t0.2.2)) (.say (λR=>Rf (α:=List AV) (t0.2.2.map AV.int) (ck (ip t0.2.2.length 0 (Mod (am L t0.2.1) (W (t0.1+1))) (t0.2.2.length:Int))
R)) (.sub 194 AV.int t0.2.2 false
(.apX 210 AV.int [] ((t0.2.2.take ((Mod (am L t0.2.1) (W (t0.1+1))).toNat)).drop 0) (0+((t0.2.2.take ((Mod (am L t0.2.1) (W (t0.1+1))).toNat)).drop 0).length)
(.own 274 (.apX 290 AV.int ((t0.2.2.take ((Mod (am L t0.2.1) (W (t0.1+1))).toNat)).drop 0) [t0.1] (((t0.2.2.take ((Mod (am L t0.2.1) (W (t0.1+1))).toNat)).drop 0).length+1)
(.say (λR=>Rf (α:=List AV) (t0.2.2.map AV.int) (ck (ip t0.2.2.length (Mod (am L t0.2.1) (W (t0.1+1))) (t0.2.2.length:Int) (t0.2.2.length:Int))
R)) (.sub 370 AV.int t0.2.2 false
(.apX 386 AV.int (((t0.2.2.take ((Mod (am L t0.2.1) (W (t0.1+1))).toNat)).drop 0)++[t0.1]) ((t0.2.2.take ((t0.2.2.length:Int).toNat)).drop ((Mod (am L t0.2.1) (W (t0.1+1))).toNat)) ((((t0.2.2.take ((Mod (am L t0.2.1) (W (t0.1+1))).toNat)).drop 0)++[t0.1]).length+((t0.2.2.take ((t0.2.2.length:Int).toNat)).drop ((Mod (am L t0.2.1) (W (t0.1+1))).toNat)).length)
(.bk 0 b0 (W (t0.1+1),ab L t0.2.1,(((t0.2.2.take ((Mod (am L t0.2.1) (W (t0.1+1))).toNat)).drop 0)++[t0.1])++((t0.2.2.take ((t0.2.2.length:Int).toNat)).drop ((Mod (am L t0.2.1) (W (t0.1+1))).toNat))) [0,386])))))))))))))
(.fz 1 AV.int t0.2.2 (λ_=>rfl) (.retH ((⟨L,t0.2.1⟩:Tap),t0.2.2) ⟨[(4,.k,.sl 1 (t0.2.2.map AV.int) false)],[.box (.agg [.sl 1 (L.map AV.int) false,.int t0.2.1])]⟩ [0])))))
theorem P8(L:List Int)(p:Nat)(n:Int)(h:n≤1000):∃I m,(DL L p n I m).vc wu wv ((⟨L,(gf L n p).2⟩:Tap),(gf L n p).1):=by
 have hm:=λ(l:Nat) (q:Nat)=>bw (x:=am L q) (show 1≤(l:Int)+1 by omega);refine⟨λt=>∃k:Nat,t.1=k∧k≤n.toNat∧t.2.2.length=k∧pK L (n.toNat-k) t.1 t.2.2 t.2.1=gf L n p,λt=>n.toNat-t.1.toNat,?_⟩;dsimp only[DL,DM,Ax.vp,Ax.vc];simp only[vcU,rfU,B'];refine⟨⟨0,rfl,by omega,rfl,rfl⟩,?_⟩;rintro⟨i,q,out⟩ ⟨k,hi,hk,hl,hr⟩;simp only at hi hl hr ⊢;subst hi;subst hl;have w1:W ((out.length:Int)+1)=(out.length:Int)+1:=ce (by omega);have hq:=hm out.length q;rw[w1,mt]
 refine⟨λc=>?_,λc=>?_⟩
 ·have c:out.length<n.toNat:=by omega
  refine⟨by simp[ip];omega,by simp;omega,by simp;omega,by simp[ip];omega,by simp;omega,⟨out.length+1,by omega,by omega,by rw[gZ _ _ _ (by omega)],?_⟩,by omega⟩;rw[show n.toNat-out.length=(n.toNat-(out.length+1))+1 by omega,pK]at hr;exact hr
 ·have:out.length=n.toNat:=by omega
  rw[this,bz',pK]at hr;rw[←hr]
def P9(L:List Int)(p:Nat)(n:Int)(h:n≤1000):HC Tryz.prog:=hcO 57 [.k,.k] [.ref 0 0,.int n] [.box (.agg [.sl 1 (L.map AV.int) false,.int p])] (.s 1) wu wv ((⟨L,(gf L n p).2⟩:Tap),(gf L n p).1) (λ_ _=>let ⟨I0,m0,h⟩:=P8 L p n h;⟨_,h,by kernel_rfl⟩) (by kernel_rfl) (by simp[hcB,cS,AV.belB,allB,eH,dG,wu,wv,Tap.v,ah (v:=AV.int) (λ_=>rfl)])
def pJ(L:List Int)(p:Nat)(g:Tpl)(n:Int):Int×Nat:=
 if(0<n∧eV L p n=true)∨g.rs.length=0 then(aK [0,1,2,7,77,-1] (am L (if 0<n then ab L p else p)),ab L (if 0<n then ab L p else p))
 else((g.rs.map Rtr.id).getD (Mod (am L (if 0<n then ab L p else p)) g.rs.length).toNat 0,ab L (if 0<n then ab L p else p))
def JB(L:List Int)(g:Tpl)(t0:Bool×Nat):NF:=⟨[rR 0 0,rR 4 1,rB 19 t0.1],[.box (.agg [.sl 1 (L.map AV.int) false,.int t0.2]),.box (Tpl.v g)]⟩
@[reducible] def CQ:Nat→Type
 | 0=>Bool×Nat
 | _=>Unit
def vK(r:Tap×Int):AV:=.int r.2
def vL(r:Tap×Int):List (Option Blk):=[some (.box (Tap.v r.1))]
def CP(L:List Int)(p:Nat)(g:Tpl)(n:Int)(I0:(Bool×Nat)→Prop):Ax Tryz.prog CQ (Tap×Int):=
 (.pass (.pass (.join 0 (JB L g) (λ(t0:Bool×Nat)=>I0 t0) (λb0=>(.br 81 (decide (0<n)) (.callH [0] (jo L p n) 113
(.br 161 (eV L p n) (.bk 0 b0 (true,ab L p) [0,1])
(.bk 0 b0 (((g.rs.map Rtr.v).length:Int)==0,ab L p) [0,1])))
(.bk 0 b0 (((g.rs.map Rtr.v).length:Int)==0,p) [0,1]))) λ(t0:Bool×Nat) =>
(.br 2 t0.1 (.req 34 ([0,1,2,7,77,-1]≠[]) λh1 =>
(.callH [0] (fI L t0.2 [0,1,2,7,77,-1] h1) 34
(.retH ((⟨L,ab L t0.2⟩:Tap),aK [0,1,2,7,77,-1] (am L t0.2)) ⟨[rI 6 (aK [0,1,2,7,77,-1] (am L t0.2))],[.box (.agg [.sl 1 (L.map AV.int) false,.int (ab L t0.2)])]⟩ [0])))
(.callH [0] (bq L t0.2 ((g.rs.map Rtr.v).length:Int)) 98
(.elI 114 Rtr.v g.rs (Mod (am L t0.2) ((g.rs.map Rtr.v).length:Int)) λx2 =>
(.retH ((⟨L,ab L t0.2⟩:Tap),x2.id) ⟨[rI 6 x2.id],[.box (.agg [.sl 1 (L.map AV.int) false,.int (ab L t0.2)])]⟩ [0])))))))
theorem Pb(L:List Int)(p:Nat)(g:Tpl)(n:Int):∃I0,(CP L p g n I0).vc vK vL ((⟨L,(pJ L p g n).2⟩:Tap),(pJ L p g n).1):=by
  refine⟨λs=>s=(decide ((0<n∧eV L p n=true)∨g.rs.length=0),if 0<n then ab L p else p),?_⟩;dsimp only[CP,CQ,Ax.vp,Ax.vc];simp only[vcU,rfU,B']
  refine⟨⟨λc=>⟨λd=>by simp[c,d],λd=>?_⟩,λc=>?_⟩,?_⟩
  · rw[G' c,d]
    refine Prod.ext ?_ rfl;rw[ae'];simp
  · rw[F' c]
    refine Prod.ext ?_ rfl;rw[ae'];simp[c]
  rintro _ rfl;unfold pJ;simp only;refine⟨λc=>⟨by simp,by rw[G' (H' c)]⟩,λc=>?_⟩;have c:=T' c;rw[F' c]
  have hl : 1 ≤ (g.rs.length : Int) := by have : ¬ g.rs.length = 0 := fun q => c (.inr q)
                                          omega
  have hm:=bw (x:=am L (if 0<n then ab L p else p)) hl;refine⟨hm.1,hm.2,λx hx=>?_⟩;refine Prod.ext rfl ?_;simp only;rw[I',J',hx];rfl
def Pc(L:List Int)(p:Nat)(g:Tpl)(n:Int):HC Tryz.prog:=hcO 21 [.k,(.a [(.s 2),(.s 5)]),.k] [.ref 0 0,Tpl.v g,.int n] [.box (.agg [.sl 1 (L.map AV.int) false,.int p])] .k vK vL ((⟨L,(pJ L p g n).2⟩:Tap),(pJ L p g n).1) (λ_ _=>let ⟨I0,h⟩:=Pb L p g n;⟨_,h,by kernel_rfl⟩) (by kernel_rfl) (by simp[hcB,cS,AV.belB,allB,eH,dG,vK,vL,Tap.v,Tpl.v,ah (v:=AV.int) (λ_=>rfl),ah (v:=Lnk.v) (λ_=>rfl),ah (v:=Rtr.v) (λ_=>rfl)])
def iz(out:List Lnk)(x:Lnk):Nat:=out.findIdx λy=>!decide (aM y x)
def bj:List Lnk→List Lnk→List Lnk
 | [],out=>out
 | x::l,out=>bj l (bF out (iz out x) x)
def Ko(l:List Lnk)(t0:Int×List Lnk):NF:=⟨[(0,.k,.sl 5 (l.map Lnk.v) false),rV 3 0,rI 4 t0.1],[vB 5 Lnk.v t0.2 (λ_=>rfl)]⟩
def Kn(l:List Lnk)(t0:Int×List Lnk)(t1:Int):NF:=⟨[(0,.k,.sl 5 (l.map Lnk.v) false),rV 3 0,rI 4 t0.1,rI 5 t1],[vB 5 Lnk.v t0.2 (λ_=>rfl)]⟩
def Km(l:List Lnk)(t0:Int×List Lnk)(t1:Int)(t2:Bool):NF:=⟨[(0,.k,.sl 5 (l.map Lnk.v) false),rV 3 0,rI 4 t0.1,rI 5 t1,rB 55 t2],[vB 5 Lnk.v t0.2 (λ_=>rfl)]⟩
@[reducible] def DK:Nat→Type
 | 0=>Int×List Lnk
 | 1=>Int
 | 2=>Bool
 | _=>Unit
def wq(r:List Lnk):AV:=.vec 0
def ws(r:List Lnk):List (Option Blk):=[some (.vec 5 (r.map Lnk.v))]
def DI(l:List Lnk)(I0:(Int×List Lnk)→Prop)(m0:(Int×List Lnk)→Nat)(I1:Int×List Lnk→Int→Prop)(m1:Int×List Lnk→Int→Nat)(I2:Int×List Lnk→Int→Bool→Prop):Ax Tryz.prog DK ((List Lnk)):=
 (.cmdL (.nilT 3 5) (.loop 0 (Ko l) I0 m0 (0,[]) [48] λ(t0:Int×List Lnk) b0 =>
(.br 65 (decide (t0.1<((l.map Lnk.v).length:Int))) (.loop 1 (Kn l t0) (I1 t0) (m1 t0) ((0):Int) [0] λ(t1:Int) b1 =>
(.pass (.join 2 (Km l t0 t1) (λ(t2:Bool)=>I2 t0 t1 t2) (λb2=>(.br 81 (decide (t1<((t0.2.map Lnk.v).length:Int))) (.elJ 145 Lnk.v t0.2 t1 λx1 =>
(.elI 193 Lnk.v l t0.1 λx2 =>
(.br 273 (decide (x1.a<x2.a)) (.bk 2 b2 ((true):Bool) [0])
(.elJ 337 Lnk.v t0.2 t1 λx3 =>
(.elI 385 Lnk.v l t0.1 λx4 =>
(.br 465 (x3.a==x4.a) (.elJ 529 Lnk.v t0.2 t1 λx5 =>
(.elI 577 Lnk.v l t0.1 λx6 =>
(.bk 2 b2 ((decide (x5.b<x6.b)):Bool) [0])))
(.bk 2 b2 ((false):Bool) [0])))))))
(.bk 2 b2 ((false):Bool) [0]))) λ(t2:Bool) =>
(.br 1 t2 (.bk 1 b1 ((W (t1+1)):Int) [0])
(.wait (.say (Rf (t0.2.map Lnk.v)) (.cmd (.frzE 0 (t0.2.map Lnk.v) (ah (λ_=>rfl) t0.2)) (.say (λR=>Rf (α:=List AV) (t0.2.map Lnk.v) (ck (ip t0.2.length 0 t1 (t0.2.length:Int))
R)) (.sub 65 Lnk.v t0.2 false
(.apX 81 Lnk.v [] ((t0.2.take t1.toNat).drop 0) (0+((t0.2.take t1.toNat).drop 0).length)
(.elI 161 Lnk.v l t0.1 λx7 =>
(.own 193 (.apX 209 Lnk.v ((t0.2.take t1.toNat).drop 0) [x7] (((t0.2.take t1.toNat).drop 0).length+1)
(.say (λR=>Rf (α:=List AV) (t0.2.map Lnk.v) (ck (ip t0.2.length t1 (t0.2.length:Int) (t0.2.length:Int))
R)) (.sub 289 Lnk.v t0.2 false
(.apX 305 Lnk.v (((t0.2.take t1.toNat).drop 0)++[x7]) ((t0.2.take ((t0.2.length:Int).toNat)).drop t1.toNat) ((((t0.2.take t1.toNat).drop 0)++[x7]).length+((t0.2.take ((t0.2.length:Int).toNat)).drop t1.toNat).length)
(.bk 0 b0 (W (t0.1+1),(((t0.2.take t1.toNat).drop 0)++[x7])++((t0.2.take ((t0.2.length:Int).toNat)).drop t1.toNat)) [305])))))))))))))))))
(.retH t0.2 ⟨[rV 2 0],[vB 5 Lnk.v t0.2 (λ_=>rfl)]⟩ [0]))))
theorem Kc{out:List Lnk}{x:Lnk}{j:Nat}(hj:j≤out.length)(h1:∀y∈out.take j,aM y x)(h2:∀y,out[j]?=some y→¬aM y x):iz out x=j:=by
 unfold iz
 by_cases e:j=out.length
 ·subst e;rw[List.take_length]at h1;rw[List.findIdx_eq_length];intro y hy;simp[h1 y hy]
 ·rw[List.findIdx_eq (by omega)]
  refine⟨?_,λi hi=>?_⟩
  ·have:=h2 _ (u' (by omega));simp[this]
  ·have:=h1 (out[i]'(by omega)) (aD'.mpr ⟨i,by omega,rfl⟩);simp[this]
theorem P6(l:List Lnk)(h:l.length≤1000):∃I0 m0 I1 m1 I2,(DI l I0 m0 I1 m1 I2).vc wq ws (bj l []):=by
 refine⟨λs=>∃k:Nat,s.1=k∧k≤l.length∧s.2.length=k∧bj (l.drop k) s.2=bj l [],λs=>l.length-s.1.toNat,
  λs t=>ba s.2 (λy=>∀x,l[s.1.toNat]?=some x→aM y x) t,λs t=>s.2.length-t.toNat,λs t b=>b=true↔t<s.2.length∧∀x y,l[s.1.toNat]?=some x→s.2[t.toNat]?=some y→aM y x,?_⟩
 dsimp only[DI,DK,Ax.vp,Ax.vc];simp only[vcU,rfU,B'];refine⟨⟨0,rfl,by omega,rfl,by simp⟩,?_⟩;rintro⟨i,out⟩ ⟨k,hi,hk,hl,hr⟩;simp only at hi hl hr ⊢;subst hi;subst hl;simp only[Int.toNat_natCast]
 refine⟨λc=>?_,λc=>?_⟩
 ·have hx:=u' (show out.length<l.length by omega);generalize l[out.length]=x at hx;refine⟨ba.zero,λt hI=>?_⟩;obtain⟨j,rfl,hj,ha⟩:=hI;have ha':∀y∈out.take j,aM y x:=λy hy=>ha y hy x hx;have hI:ba out (λy=>∀x,l[out.length]?=some x→aM y x) ((j:Nat):Int):=⟨j,rfl,hj,ha⟩
  simp only[Int.toNat_natCast]
  refine⟨⟨λd=>?_,λd=>⟨nofun,λq=>absurd q.1 d⟩⟩,λb hb=>?_⟩
  ·have hy:=u' (show j<out.length by omega);generalize out[j]=y at hy;have rg:(bif decide (0≤((j:Nat):Int))then decide (((j:Nat):Int)<out.length)else false)=true:=eu (by omega) d;refine⟨rg,by omega,λx1 h1=>⟨by omega,c,λx2 h2=>?_⟩⟩;rw[hy]at h1;cases h1;rw[hx]at h2;cases h2
   refine⟨λe=>⟨λ_=>⟨d,λx' y' hx' hy'=>?_⟩,λ_=>trivial⟩,λe=>⟨rg,by omega,λx3 h3=>⟨by omega,c,λx4 h4=>?_⟩⟩⟩
   ·rw[hx]at hx';cases hx';rw[hy]at hy';cases hy';exact .inl e
   rw[hy]at h3;cases h3;rw[hx]at h4;cases h4
   refine⟨λe2=>⟨rg,by omega,λx5 h5=>⟨by omega,c,λx6 h6=>?_⟩⟩,λe2=>⟨nofun,λq=>?_⟩⟩
   ·rw[hy]at h5;cases h5;rw[hx]at h6;cases h6;have e2:=eq_of_beq e2
    refine⟨λe3=>⟨d,λx' y' hx' hy'=>?_⟩,λq=>?_⟩
    ·rw[hx]at hx';cases hx';rw[hy]at hy';cases hy';exact .inr ⟨e2,e3⟩
    ·have:=q.2 x y hx hy;unfold aM at this;omega
   ·have:=q.2 x y hx hy;have e2:¬y.a=x.a:=by simpa using e2
    unfold aM at this;omega
  ·refine⟨λe=>?_,λe=>?_⟩
   ·obtain⟨d,hd⟩:=hb.mp e;have hy:=u' (show j<out.length by omega);exact hI.step (by omega) (by rw[Int.toNat_natCast];exact hy) λx' hx'=>hd x' _ hx' hy
   ·have hp:iz out x=j:=Kc hj ha' λy hy q=>by
     have:=hb.mpr ⟨by have:=ao hy;omega,λx' y' hx' hy'=>by rw[hx]at hx';cases hx';rw[hy]at hy';cases hy';exact q⟩;rw[e]at this;cases this
    refine⟨by simp[ip];omega,by simp;omega,by omega,c,λx7 h7=>?_⟩;rw[hx]at h7;cases h7;have hi:(((out.take j).drop 0)++[x])++((out.take out.length).drop j)=bF out j x:=by have:=mt (l:=out) (k:=j) (x:=x);rwa [Int.toNat_natCast]at this
    rw[hi,bf (n:=l.length) (by omega) (by omega)];refine⟨by simp;omega,by simp[ip];omega,by simp;omega,⟨out.length+1,rfl,by omega,gZ _ _ _ hj,?_⟩,by omega⟩;rw[bx' (by omega),bj]at hr;have:l[out.length]'(by omega)=x:=by rw[u' (by omega)]at hx;exact af' hx
    rw[this,hp]at hr;exact hr
 ·have:out.length=l.length:=by omega
  rw[this,List.drop_length,bj]at hr;exact hr
def P7(l:List Lnk)(h:l.length≤1000):HC Tryz.prog:=hcO 45 [(.s 5)] [.sl 5 (l.map Lnk.v) false] [] .k wq ws (bj l []) (λ_ _=>let ⟨I0,m0,I1,m1,I2,h⟩:=P6 l h;⟨_,h,by kernel_rfl⟩) (by kernel_rfl) (by simp[hcB,cS,AV.belB,allB,eH,dG,wq,ws,ah (v:=Lnk.v) (λ_=>rfl)])
end Go.Proofs.YtdoacjojljgdcaaGreat
