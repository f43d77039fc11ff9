/- Texts joined: SO FM2 RD4 RD5 RD6 RD7 TC5 TC6 SR1 DT1 P1 DT2 DT3 DT4 PL KM1 KM2 KM3 TA0 TA1. -/
import Derived.Test.YtdoacjojljgdcaaSh
import Derived.Test.YtdoacjojljgdcaaChecked
import Derived.Test.YtdoacjojljgdcaaBA4
set_option linter.unusedVariables false
set_option linter.unusedSimpArgs false
set_option linter.unusedSectionVars false
namespace Go.Proofs.Ytdoacjojljgdcaa
open Go Go.Am
open Go.Shelf Go.RowKit Go.Lib Go.Sort in
theorem sA(a b:Int)(x1 y1:Value)(w:World)(hx:x1.oneCell'=true)(hy:y1.oneCell'=true) :
  Calls Try.prog 82 #[.agg #[.int .i64 a,x1],.agg #[.int .i64 b,y1]] w λe w'=>e=.returned (.int .i64 (Lib.compareInt a b))∧∃q os',w'=grow (w.drewN q) os':=by
 have hcon:=λW'=>AnyG.cmp_Compare_int Try.cmpI a b W'
 change ∀W',Calls Try.prog 58 _ _ _ at hcon
 generalize Lib.compareInt a b=r at hcon ⊢
 go_enter Try.func82,Try.ntmps82
 go_wp2_with (go_at_call 58;refine(hcon _).mono ?_;rintro e w' ⟨rfl,rfl⟩)
 go_ret
 exact⟨rfl,0,_,by rw[alloc_eq_grow,alloc_eq_grow,grow_grow];rfl⟩
def xA(l:List Stp):Prop:=l.length≤1000000∧l.Pairwise λa b=>a.to≠b.to
def iz(l:List Stp):List Stp:=l.mergeSort λa b=>decide (a.to≤b.to)
theorem ik(l:List Stp):(iz l).Perm l:=cl' _ _
theorem wF{l:List Stp}(h:xA l):(iz l).Pairwise λa b=>a.to<b.to:=by
 have h1:(iz l).Pairwise λa b=>decide (a.to≤b.to)=true:=List.pairwise_mergeSort (λa b c h1 h2=>by simp at *;omega) (λa b=>by simp;omega) l;have h2:(iz l).Pairwise λa b=>a.to≠b.to:=(List.Perm.pairwise_iff (λh=>Ne.symm h) (ik l)).mpr h.2;exact(h1.and h2).imp λ⟨h1,h2⟩=>by simp at h1;omega
open Go.Shelf Go.RowKit Go.Lib Go.Sort in
theorem qM(l:List Stp)(h:xA l):aI Try.prog 81 [.vec 0,.func 82 []] [.vec 2 (l.map Stp.v)] (.tup []) [some (.vec 2 ((iz l).map Stp.v))]:=by
 refine qK Try.sortW Stp.v Stp.to 2 (by omega) (λ_=>by kernel_rfl) (λ_=>by kernel_rfl) (λx=>⟨_,rfl⟩) 82 (enters_of Try.func82 (by kernel_rfl) rfl) ?_ l (iz l) (ik l) (wF h) h.1;intro a b xs ys w hx hy ox oy
 match xs,hx with
 | [x1],_ =>
 match ys,hy with
 | [y1],_=>exact sA a b x1 y1 w (ox x1 (by simp)) (oy y1 (by simp))
theorem ap.give3{k n:Nat}{s s':S3}(b:Nat)(hnx:s'.nx=s.nx)(h1:s'.tm=s.tm)
  (h2:∀b' x,s'.hp b'=some x→b'≠b∧(s.hp b'=some x∨∃kk ks es es',s.hp b'=some (.map kk ks es)∧x=.map kk ks es'∧cF b s.hp es es'∧((∀z∈es,z.solid=true)→∀z∈es',z.solid=true))) (hb:s.hp b≠none):ap k n s s':=by
 rintro P c a w ⟨h0,A,μ,H⟩;have hle:∀k,A k→A k∨∃hd,μ b=some hd∧hd.emp=none∧hd.blk=k:=λ_ h=>.inl h;have hlive:∃x hd,s.hp b=some x∧μ b=some hd∧(hd.emp=none→¬A hd.blk∧hd.blk<w.heap.size∧(c.own hd.blk∨c.w.heap.size≤hd.blk)):=by
  cases hx:s.hp b with
  | none=>exact absurd hx hb
  | some x=>obtain⟨hd,e1,_,e3⟩:=H.blk b x hx;exact⟨x,hd,rfl,e1,e3⟩
 obtain⟨xb,hdb,hxb,hmb,hpb⟩:=hlive;have hsub:∀b' x,s'.hp b'=some x→b'≠b∧∃y,s.hp b'=some y:=by
  intro b' x hx
  obtain⟨e1,e2|⟨kk,ks,es,es',e2,_⟩⟩:=h2 b' x hx
  ·exact⟨e1,_,e2⟩
  ·exact⟨e1,_,e2⟩
 refine⟨h0,λk=>A k∨∃hd,μ b=some hd∧hd.emp=none∧hd.blk=k,μ,λt=>?_,H.n,H.df,λb' x hx=>?_,λb1 b2 x x' hd hd' hx hx'=>?_,?_,λb' hb'=>?_,H.keep,λb' hb'=>.inl (H.A0 b' hb'),?_,H.mu⟩
 ·rw[h1];exact(H.tm t).mono (cr.refl A w) hle _ (be.refl _)
 ·obtain⟨hne,y,hy⟩:=hsub b' x hx;obtain⟨hd,g1,g2,g3⟩:=H.blk b' y hy
  refine⟨hd,g1,?_,λhe=>⟨?_,(g3 he).2⟩⟩
  ·rcases(h2 b' x hx).2 with e|⟨kk,ks,es,es',e1,e2,e4,e5⟩
   ·rw[hy]at e;cases e;exact g2.mono (cr.refl A w) hle (be.refl _) (λ_=>rfl)
   ·rw[hy]at e1;cases e1;subst e2;obtain⟨q1,ents,ck,r1,r2,r3,r4⟩:=g2;exact⟨q1,ents,ck,r1,r2,e4.rvl H r3,e5 r4⟩
  ·rintro(h|⟨hd2,k1,k2,k3⟩)
   ·exact(g3 he).1 h
   ·exact hne (H.inj _ _ _ _ _ _ hy hxb g1 k1 he k2 k3.symm)
 ·obtain⟨_,y,hy⟩:=hsub b1 x hx;obtain⟨_,y',hy'⟩:=hsub b2 x' hx';exact H.inj _ _ _ _ _ _ hy hy'
 ·refine H.lt.mono (cr.refl A w) hle ?_
  rintro k (h|⟨hd,k1,k2,rfl⟩)
  ·exact H.lt k h
  ·rw[hmb]at k1;cases k1;exact(hpb k2).2.1
 ·rw[hnx]at hb';obtain⟨q1,q2⟩:=H.fr b' hb';refine⟨q1,?_⟩;cases hx:s'.hp b' with
  | none=>rfl
  | some x=>obtain⟨_,y,hy⟩:=hsub b' x hx;rw[q2]at hy;cases hy
 ·rintro k (h|⟨hd,k1,k2,rfl⟩)
  ·exact H.A1 k h
  ·rw[hmb]at k1;cases k1;exact .inr (hpb k2).2.2
theorem ap.giveM{k n:Nat}{tm:Nat→AV}{hp:Hp}{nx kk:Nat}{kq:Option Nat}{ks:List MK}{vs es:List AV}(b0 i b:Nat)(h0:hp b0=some (.map kq ks vs))(hi:vs[i]?=some (.vec b))(hb:hp b=some (.vec kk es))(hx:aH es) :
  ap k n ⟨tm,hp,nx⟩ ⟨tm,upd (upd hp b none) b0 (some (.map kq ks (vs.set i (.sl kk es false)))),nx⟩:=by
 have hne:b0≠b:=λe=>by subst e;rw[h0]at hb;cases hb
 refine ap.give3 b rfl rfl (λb' x hx'=>?_) (by show hp b≠none;rw[hb];simp);have hx':upd (upd hp b none) b0 (some (.map kq ks (vs.set i (.sl kk es false)))) b'=some x:=hx'
 by_cases e:b'=b0
 ·subst e;rw[ah]at hx';cases hx';exact⟨hne,.inr ⟨kq,ks,vs,_,h0,rfl,cF.set hi (aZ.vec hb hx),λh z hz=>by
   rcases aj' hz with hz|rfl
   ·exact h z hz
   ·rfl⟩⟩
 ·rw[ai _ _ e]at hx'
  by_cases e2:b'=b
  ·subst e2;rw[ah]at hx';cases hx'
  ·rw[ai _ _ e2]at hx';exact⟨e2,.inl hx'⟩
theorem ap.giveRows{k n:Nat}{tm:Nat→AV}{nx kk:Nat}{kq:Option Nat}{ks:List MK}{vs:List AV}{hp:Hp}(b0:Nat)(f:Nat→Nat)(es:Nat→List AV)(he:∀i,aH (es i))(hf:∀i j,f i=f j→i=j)(hf0:∀i,f i≠b0)(h0:hp b0=some (.map kq ks vs)):∀m:Nat,
  (∀i,i<m→vs[i]?=some (.vec (f i))∧hp (f i)=some (.vec kk (es i))) →
  ∃hp' vs',ap k n ⟨tm,hp,nx⟩ ⟨tm,hp',nx⟩∧hp' b0=some (.map kq ks vs')∧vs'.length=vs.length∧(∀i,i<m→vs'[i]?=some (.sl kk (es i) false))∧(∀i,m≤i→vs'[i]?=vs[i]?)∧∀b,b≠b0→(∀i,i<m→b≠f i)→hp' b=hp b
 | 0,_=>⟨hp,vs,ap.refl,h0,rfl,λi h=>absurd h (by omega),λ_ _=>rfl,λ_ _ _=>rfl⟩
 | m+1,h=>by
  obtain⟨hp1,vs1,w,a1,a2,a3,a4,a5⟩:=ap.giveRows b0 f es he hf hf0 h0 m λi hi=>h i (by omega);obtain⟨g1,g2⟩:=h m (by omega);have hl:m<vs1.length:=by rw[a2];exact(L'.mp g1).1
  refine⟨_,_,w.trans (ap.giveM b0 m (f m) a1 (by rw[a4 m (S' _)];exact g1) (by rw[a5 (f m) (hf0 m) λi hi e=>by have:=hf _ _ e;omega];exact g2) (he m)),ah _ _ _,by rw[be',a2],λi hi=>?_,λi hi=>?_,λb hb hb'=>?_⟩
  ·rw[ae']
   by_cases e:m=i
   ·subst e;rw[F' rfl,F' hl]
   ·rw[E' e];exact a3 i (by omega)
  ·rw[ae',E' (by omega)];exact a4 i (by omega)
  ·rw[ai _ _ hb,ai _ _ (hb' m (by omega))];exact a5 b hb λi hi=>hb' i (by omega)
theorem ap.giveBM{k n:Nat}{tm:Nat→AV}{hp:Hp}{nx:Nat}{kq:Option Nat}{ks:List MK}{vs cs:List AV}(b0 i b:Nat)(h0:hp b0=some (.box (.agg cs)))(hi:cs[i]?=some (.mref b))(hb:hp b=some (.map kq ks vs))(hx:aH vs)(hs':(AV.agg (cs.set i (.mp kq ks vs))).solid=true) :
  ap k n ⟨tm,hp,nx⟩ ⟨tm,upd (upd hp b none) b0 (some (.box (.agg (cs.set i (.mp kq ks vs))))),nx⟩:=by
 have hne:b0≠b:=λe=>by subst e;rw[h0]at hb;cases hb
 refine ap.give b rfl (λu=>.inr aZ.refl) (λb' x hx'=>?_) (by show hp b≠none;rw[hb];simp);have hx':upd (upd hp b none) b0 (some (.box (.agg (cs.set i (.mp kq ks vs))))) b'=some x:=hx'
 by_cases e:b'=b0
 ·subst e;rw[ah]at hx';cases hx';exact⟨hne,.inr ⟨_,_,h0,rfl,hs',aZ.agg (cF.set hi (aZ.map hb hx))⟩⟩
 ·rw[ai _ _ e]at hx'
  by_cases e2:b'=b
  ·subst e2;rw[ah]at hx';cases hx'
  ·rw[ai _ _ e2]at hx';exact⟨e2,.inl hx'⟩
theorem aS.ownV{P:Program}{fid:FuncId}{n:Nat}{hp:Hp}{es es' args:List AV}{kk b f:Nat}{r:AV}(hs:aI P fid (.vec 0::args) [.vec kk es] r [some (.vec kk es')])(hf:gD P fid)
  (h0:aH args) (h1:aH es) (h2:aH es') (h3:r.pure) (hb:hp b=some (.vec kk es)):aS P n fid (.vec b::args) f hp [b] r (dC [(b,some (.vec kk es'))]):=by
 have key:=aS.hand (n:=n) (f:=f) (hp:=hp) hf hs [b] rfl (by simp) ⟨show(0:Nat)<1 by omega,aG h0⟩ (λi b' x e1 e2=>by
  match i with
  | 0=>simp at e1 e2;subst e1;subst e2;exact⟨aG h1,by rw[hb];simp only[Blk.ren,aK _ h1]⟩
  | i+1=>simp at e1) (by simp) (by simp) (AV.bel_pure h3) (λy hy=>by simp at hy;subst hy;exact aG h2)
 have e0:aO [b] f 0=b:=by simp[aO]
 have e3:bV [b] f [some (Blk.vec kk es')]=dC [(b,some (.vec kk es'))]:=by simp[bV,List.zipIdx,e0,Blk.ren,aK _ h2]
 rw[e3]at key;simpa only[cZ,aK _ h0,AV.ren,AV.ren_pure _ h3,e0]using key
theorem pN{P:Program}{n:Nat}{tm:Nat→AV}{hp:Hp}{fid:FuncId}{d:Option Nat}{g:AO}{xs:List AO}{os:List az}{f:Nat}{K:S2→Nat→Prop}{es es' args:List AV}{r:AV}{kk b:Nat}
  (hs:aI P fid (.vec 0::args) [.vec kk es] r [some (.vec kk es')]) (hf:gD P fid) (h0:aH args) (h1:aH es) (h2:aH es') (h3:r.pure) (hg:evO tm g=.func fid [])
  (hx:xs.map (evO tm)=.vec b::args) (hb:hp b=some (.vec kk es)) (hK:evT P n os (f+16) ⟨aB d r tm,upd hp b (some (.vec kk es'))⟩ K):evT P n (⟨d,.call g xs,none⟩::os) f ⟨tm,hp⟩ K:=
 fM hg (by simpa using hx) (aS.ownV hs hf h0 h1 h2 h3 hb) (by rw[it];exact hK)
def fD(ls:List Lnk)(x:Int):List Stp:=ls.flatMap λl=>if l.a=x then [⟨l.b,l.ca⟩]else if l.b=x then [⟨l.a,l.cb⟩]else []
def inS(ls:List Lnk)(x:Int):List Stp:=ls.flatMap λl=>if l.b=x then [⟨l.a,l.ca⟩]else if l.a=x then [⟨l.b,l.cb⟩]else []
theorem fm{M:List (List Stp)}{x j:Nat}{s:Stp}{r:List Stp}(h:M[j]?=some r):(apR M x s)[j]?=some (if x=j then r++[s]else r):=by
 unfold apR;rw[ae']
 by_cases e:x=j
 ·subst e;rw[F' rfl,F' (ao h),F' rfl,I',h];rfl
 ·rw[E' e,E' e,h]
theorem ub{t:Tpl}(hnd:(t.rs.map (·.id)).Nodup){i:Nat}{r:Rtr}(h:t.rs[i]?=some r){a:Int}(ha:aJ t a=true):ix5 t a=i↔a=r.id:=by
 have h1:(t.rs.map (·.id))[i]?=some r.id:=by rw[G',h];rfl
 have h2:=nR ha
 constructor
 ·intro e;rw[e,h1]at h2;exact(af' h2).symm
 ·intro e;subst e;exact(da hnd h1 h2).symm
theorem lF{t:Tpl}(hnd:(t.rs.map (·.id)).Nodup):∀(m:Nat) (ls:List Lnk),ls.length=m→(∀l∈ls,(aJ t l.a=true∧aJ t l.b=true)∧l.a<l.b)→∀i r,t.rs[i]?=some r →
  (dB t ls)[2 * i]?=some (fD ls r.id)∧(dB t ls)[2 * i+1]?=some (inS ls r.id)
 | 0,ls,hm,hl,i,r,h=>by
  obtain rfl:=bU'.mp hm;have:=ao h;unfold dB;rw[List.foldl_nil,aD',aD',F' (by omega),F' (by omega)];exact⟨rfl,rfl⟩
 | m+1,ls,hm,hl,i,r,h=>by
  obtain⟨ls',l,rfl⟩:∃ls' l,ls=ls'++[l]:=⟨ls.dropLast,ls.getLast (by intro e;subst e;cases hm),(List.dropLast_concat_getLast _).symm⟩
  have hm':ls'.length=m:=by simpa using hm
  obtain⟨g1,g2⟩:=lF hnd m ls' hm' (λx hx=>hl x (by simp[hx])) i r h;obtain⟨⟨ha,hb⟩,hab⟩:=hl l (by simp);have e:dB t (ls'++[l])=nO t (dB t ls') l:=by unfold dB;rw[bt'];rfl
  have ea:=ub hnd h ha;have eb:=ub hnd h hb;rw[e];unfold nO;rw[fm (fm (fm (fm g1))),fm (fm (fm (fm g2)))];have o1:fD (ls'++[l]) r.id=fD ls' r.id++(if l.a=r.id then [⟨l.b,l.ca⟩]else if l.b=r.id then [⟨l.a,l.cb⟩]else []):=by unfold fD;rw[bl'];simp
  have o2:inS (ls'++[l]) r.id=inS ls' r.id++(if l.b=r.id then [⟨l.a,l.ca⟩]else if l.a=r.id then [⟨l.b,l.cb⟩]else []):=by unfold inS;rw[bl'];simp
  rw[o1,o2];have f1:∀q:Nat,¬(2 * q+1=2 * i):=λq=>by omega
  have f2:∀q:Nat,¬(2 * q=2 * i+1):=λq=>by omega
  have f3:∀q:Nat,(2 * q=2 * i)=(q=i):=λq=>propext ⟨λ_=>by omega,λ_=>by omega⟩;have f4:∀q:Nat,(2 * q+1=2 * i+1)=(q=i):=λq=>propext ⟨λ_=>by omega,λ_=>by omega⟩;simp only[f1,f2,f3,f4,ea,eb,if_false]
  by_cases h1:l.a=r.id
  ·have h2:¬l.b=r.id:=by omega
   simp[h1,h2]
  ·by_cases h2:l.b=r.id
   ·simp[h1,h2]
   ·simp[h1,h2]
theorem tK{t:Tpl}(hc:aF t=0)(x:Int):xA (fD t.ls x):=by
 have hO:=aA hc
 constructor
 ·have:∀ls:List Lnk,(fD ls x).length≤ls.length:=λls=>by
   induction ls with
   | nil=>exact S' _
   | cons l ls ih =>
    have e:fD (l::ls) x=(if l.a=x then [⟨l.b,l.ca⟩]else if l.b=x then [⟨l.a,l.cb⟩]else [])++fD ls x:=rfl;rw[e,List.length_append];have:(if l.a=x then [(⟨l.b,l.ca⟩:Stp)]else if l.b=x then [⟨l.a,l.cb⟩]else []).length≤1:=by split<;>(try split)<;>simp
    simp only[ab'];omega
  have:=this t.ls;have:=hO.nl;omega
 ·unfold fD;rw[List.pairwise_flatMap];refine⟨λl hl=>by split<;>(try split)<;>simp,?_⟩;have hlt:=hO.lt;refine List.Pairwise.imp_of_mem (λ{l1 l2} m1 m2 h s1 h1 s2 h2=>?_) hO.ord;have a1:=hlt l1 m1;have a2:=hlt l2 m2;unfold aU at h
  (repeat' split at h1)<;>(repeat' split at h2)<;>simp at h1 h2<;>subst h1<;>subst h2<;>simp only[ne_eq]<;>omega
def gu(st seen:List Nat)(M:List (List Stp)):List (List Stp):=M.mapIdx λj r=>if j % 2=0∧st.getD (j / 2) 0∈seen then iz r else r
theorem dW(st seen:List Nat)(M:List (List Stp)):(gu st seen M).length=M.length:=by simp[gu]
theorem wG(st:List Nat)(M:List (List Stp)):gu st [] M=M:=by
 refine ax' λi=>?_;simp only[gu,bO'];simp
theorem wH{st seen:List Nat}{M:List (List Stp)}{i s0:Nat}{r:List Stp}(h:M[2 * i]?=some r)(hs:st[i]?=some s0)(h0:s0 ∉ seen):(gu st seen M)[2 * i]?=some r:=by
 have e:st.getD i 0=s0:=by rw[I',hs];rfl
 simp only[gu,bO',h,ai',show 2 * i / 2=i by omega,e];rw[E' (λh=>h0 h.2)]
theorem uV{st seen:List Nat}{M:List (List Stp)}{i s0:Nat}{r:List Stp}(h:M[2 * i]?=some r)(hs:st[i]?=some s0)(hn:st.Nodup)(hM:M.length=2 * st.length):gu st (seen++[s0]) M=(gu st seen M).set (2 * i) (iz r):=by
 have hil:=ao hs;refine ax' λj=>?_;rw[ae']
 by_cases e:2 * i=j
 ·subst e;have e:st.getD i 0=s0:=by rw[I',hs];rfl
  rw[F' rfl,F' (by rw[dW];omega)];simp only[gu,bO',h,ai',show 2 * i / 2=i by omega,e];rw[F' ⟨by omega,by simp⟩]
 ·rw[E' e];simp only[gu,bO'];cases hj:M[j]? with
  | none=>rfl
  | some q =>
   have hjl:=ao hj;simp only[ai']
   congr 1
   by_cases h2:j % 2=0
   ·have hk:j / 2<st.length:=by omega
    have hne:st.getD (j / 2) 0≠s0:=λe'=>by
     rw[I',u' hk]at e';have e':st[j / 2]?=some s0:=by rw[u' hk];exact congrArg some e'
     have:=da hn e' hs;omega
    have e3:(st.getD (j / 2) 0∈seen++[s0])=(st.getD (j / 2) 0∈seen):=propext ⟨λh=>(ac'.mp h).elim id λh=>absurd (P'.mp h) hne,λh=>ce' _ h⟩;simp only[e3]
   ·simp[h2]
def cK(t:Tpl):Lks:=t.rs.map λr=>(r.id,iz (fD t.ls r.id))
def inG(t:Tpl):Lks:=t.rs.map λr=>(r.id,inS t.ls r.id)
theorem wI{t:Tpl}(hc:aF t=0){st seen:List Nat}(h:∀s∈st,s∈seen)(hs:st.length=t.rs.length){i:Nat}{r:Rtr}(hr:t.rs[i]?=some r) :
  (gu st seen (dB t t.ls))[2 * i]?=some (iz (fD t.ls r.id))∧(gu st seen (dB t t.ls))[2 * i+1]?=some (inS t.ls r.id):=by
 have hO:=aA hc;have hnd:(t.rs.map (·.id)).Nodup:=List.Pairwise.map _ (λa b h=>by omega) hO.asc;obtain⟨g1,g2⟩:=lF hnd _ t.ls rfl (λl hl=>⟨hO.has l hl,hO.lt l hl⟩) i r hr;have hi:i<st.length:=by rw[hs];exact ao hr
 have e:st.getD i 0∈seen:=by rw[I',u' hi];exact h _ (aK' _)
 simp only[gu,bO',g1,g2,ai',show 2 * i / 2=i by omega];rw[F' ⟨by omega,e⟩,E' (by omega)];exact⟨rfl,rfl⟩
def rdE(t:Tpl):NF:=
 ⟨[(2,.k,.ref 1 0),(3,.k,.ref 2 0)],[.box (Tpl.v t),.box (.agg [.val (.map none),.val (.map none)]),.box (.agg [gU (cK t),gU (inG t)])]⟩
theorem io(r:List Stp):aH (r.map Stp.v):=aw (am ce r)
theorem pm(L:Lks):aH (L.map λp=>AV.sl 2 (p.2.map Stp.v) false):=aw (am (v:=λp:Int×List Stp=>AV.sl 2 (p.2.map Stp.v) false) (λ_=>rfl) L)
theorem D7(t:Tpl){k nx:Nat}{tm:Nat→AV}{hp:Hp}(t2:tm 2=.ref 1 0)(t3:tm 3=.ref 2 0)(h0:hp 0=some (.box (Tpl.v t)))(h1:hp 1=some (.box (.agg [.val (.map none),.val (.map none)])))(h2:hp 2=some (.box (.agg [.mref 3,.mref 4])))
  (h3:hp 3=some (.map none (kyN (t.rs.map (·.id))) (evN t.rs.length))) (h4:hp 4=some (.map none (kyN (t.rs.map (·.id))) (odN t.rs.length)))
  (hF:∀i r,t.rs[i]?=some r→hp (Fr (2 * i))=some (.vec 2 ((iz (fD t.ls r.id)).map Stp.v))∧hp (Fr (2 * i+1))=some (.vec 2 ((inS t.ls r.id).map Stp.v))):ap 0 k ⟨tm,hp,nx⟩ (rdE t).st:=by
 have key:∀(f:Rtr→List Stp) (vs':List AV),vs'.length=t.rs.length→(∀i,i<t.rs.length→vs'[i]?=some (.sl 2 (((t.rs[i]?).elim [] f).map Stp.v) false))→vs'=(t.rs.map λr=>(r.id,f r)).map λp=>AV.sl 2 (p.2.map Stp.v) false:=λf vs' e1 e2=>by
  refine ax' λi=>?_
  by_cases hi:i<t.rs.length
  ·rw[e2 i hi,G',G',u' hi];rfl
  ·rw[X' (by omega),X' (by simp;omega)]
 have ks:∀f:Rtr→List Stp,kyN (t.rs.map (·.id))=(t.rs.map λr=>(r.id,f r)).map λp=>MK.n p.1:=λf=>by unfold kyN;rw[aX',aX'];rfl
 obtain⟨hp1,v1,w1,a1,a2,a3,_,a5⟩:=ap.giveRows (k:=0) (n:=k) (tm:=tm) (nx:=nx) (kk:=2) 3 (λi=>Fr (2 * i)) (λi=>((t.rs[i]?).elim [] λr=>iz (fD t.ls r.id)).map Stp.v) (λi=>io _) (λi j h=>by unfold Fr at h;omega) (λi=>by unfold Fr;omega) h3 t.rs.length
  (λi hi=>⟨by rw[evN,G',bf' hi];rfl,by rw[u' hi];exact(hF i _ (u' hi)).1⟩)
 have b4:hp1 4=some (.map none (kyN (t.rs.map (·.id))) (odN t.rs.length)):=by rw[a5 4 (by decide) (λi _=>by unfold Fr;omega)];exact h4
 obtain⟨hp2,v2,w2,c1,c2,c3,_,c5⟩:=ap.giveRows (k:=0) (n:=k) (tm:=tm) (nx:=nx) (kk:=2) 4 (λi=>Fr (2 * i+1)) (λi=>((t.rs[i]?).elim [] λr=>inS t.ls r.id).map Stp.v) (λi=>io _) (λi j h=>by unfold Fr at h;omega) (λi=>by unfold Fr;omega) b4 t.rs.length
  (λi hi=>⟨by rw[odN,G',bf' hi];rfl,by
   rw[u' hi,a5 _ (by unfold Fr;omega) (λj _=>by unfold Fr;omega)];exact(hF i _ (u' hi)).2⟩)
 have e1:=key (λr=>iz (fD t.ls r.id)) v1 (by rw[a2,jz]) a3;have e2:=key (λr=>inS t.ls r.id) v2 (by rw[c2,ji]) c3;have lo:∀b,b<3→hp2 b=hp b:=λb hb=>by
  rw[c5 b (by omega) (λi _=>by unfold Fr;omega),a5 b (by omega) (λi _=>by unfold Fr;omega)]
 have m3:hp2 3=some (.map none (kyN (t.rs.map (·.id))) v1):=by rw[c5 3 (by decide) (λi _=>by unfold Fr;omega)];exact a1
 have z3:hp2 3=some (.map none ((cK t).map λp=>MK.n p.1) ((cK t).map λp=>AV.sl 2 (p.2.map Stp.v) false)):=by rw[m3,e1,ks];rfl
 have z4:hp2 4=some (.map none ((inG t).map λp=>MK.n p.1) ((inG t).map λp=>AV.sl 2 (p.2.map Stp.v) false)):=by rw[c1,e2,ks];rfl
 have hp1:(AV.agg [gU (cK t),gU (inG t)]).pure:=⟨trivial,trivial,trivial⟩
 have hr:=λπ=>AV.ren_pure π hp1;have hb:=λk=>AV.bel_pure (k:=k) hp1;have z5:upd (upd hp2 3 none) 2 (some (.box (.agg [gU (cK t),.mref 4]))) 4=some (.map none ((inG t).map λp=>MK.n p.1) ((inG t).map λp=>AV.sl 2 (p.2.map Stp.v) false)):=by
  rw[ai _ _ (by decide),ai _ _ (by decide)];exact z4
 refine w1.trans (w2.trans ((ap.giveBM 2 0 3 (by rw[lo 2 (by decide)];exact h2) rfl z3 (pm _) rfl).trans ((ap.giveBM 2 1 4 (cs:=[gU (cK t),.mref 4]) (ah _ _ _) rfl z5 (pm _) rfl).trans ?_)));show ap 0 k _ ⟨cq [(2,.ref 1 0),(3,.ref 2 0)],hpL 0 [some (.box (Tpl.v t)),some (.box (.agg [.val (.map none),.val (.map none)])),some (.box (.agg [gU (cK t),gU (inG t)]))],3⟩;have u:∀{b},b<2→∀x,upd (upd (upd (upd hp2 3 none) 2 (some (Blk.box (AV.agg [gU (cK t),AV.mref 4])))) 4 none) 2 x b=hp b:=λ{b} hb x=>by
  rw[ai _ _ (by omega),ai _ _ (by omega),ai _ _ (by omega),ai _ _ (by omega),lo b (by omega)]
 refine ap.nf [0,1,2] [(2,.ref 1 0),(3,.ref 2 0)] [some (.box (Tpl.v t)),some (.box (.agg [.val (.map none),.val (.map none)])),some (.box (.agg [gU (cK t),gU (inG t)]))] ?_ ?_ ⟨rfl,rfl⟩ (by decide) (by decide) (by decide)
 ·exact⟨⟨t2,show 1<3 by decide⟩,⟨t3,show 2<3 by decide⟩,trivial⟩
 ·refine⟨⟨(u (by decide) _).trans (h0.trans ?_),trivial,trivial,trivial⟩,⟨(u (by decide) _).trans (h1.trans ?_),trivial,trivial,trivial⟩,⟨(ah _ _ _).trans ?_,?_⟩,trivial⟩
  ·rfl
  ·rfl
  ·show _=some (Blk.box (AV.ren _ _));rw[hr];rfl
  ·exact hb _
def xk:AC:=.seq (.reg [⟨(some 100),.faddr 0 (.t 3),none⟩,⟨(some 101),.load false 1 (.t 100),none⟩,⟨(some 102),.rng (.t 101),none⟩])
 (.block 4 (.loop (.seq (.reg [⟨(some 103),.nxt (.t 102),none⟩,⟨(some 104),.ext 0 (.t 103),none⟩])
 (.seq (.cond (.t 104) (.skip) (.exit 4))
 (.block 5 (.seq (.reg [⟨(some 105),.ent (.t 102),none⟩,⟨(some 106),.ext 0 (.t 105),none⟩,⟨(some 8),.move (.t 106),none⟩])
 (.reg [⟨(some 107),.faddr 0 (.t 3),none⟩,⟨(some 108),.load false 1 (.t 107),none⟩,⟨(some 109),.move (.t 8),none⟩,⟨(some 110),.mget none ((.sl 0 [] true)) false (.t 108) (.t 109),none⟩,⟨(some 111),.call (.c (.func 81 [])) [(.t 110),(.c (.func 82 []))],none⟩])))))))
def rdQ(t:Tpl)(ids:List Int)(a b:List AV)(st:List Nat)(ck:Nat)(seen:List Nat):List (Option Blk):=
 [some (.box (Tpl.v t)),some (.box (.agg [.val (.map none),.val (.map none)])),some (.box (.agg [.mref 3,.mref 4])),some (.mst none (kyN ids) a st ck),some (.map none (kyN ids) b),some (.itr 3 st ck seen)]
def rdR(t:Tpl)(M:List (List Stp))(st:List Nat)(ck:Nat)(seen:List Nat):S3:=
 ⟨cq [(2,.ref 1 0),(3,.ref 2 0),(102,.ref 5 0)],GS M (hpL 0 (rdQ t (t.rs.map (·.id)) (evN t.rs.length) (odN t.rs.length) st ck seen)),2000⟩
theorem CM{t:Tpl}{ids:List Int}{n:Nat}{hp:Hp}{bs fs:Nat→Nat}{a b:List AV}{st seen:List Nat}{ck:Nat}(hbs:bs 0=0∧bs 1=1∧bs 2=2∧bs 3=3∧bs 4=4)(hn:n≤400)(h0:hp 0=some (.box (Tpl.v t)))(h1:hp 1=some (.box (.agg [.val (.map none),.val (.map none)])))(h2:hp 2=some (.box (.agg [.mref 3,.mref 4])))
  (h3:hp 3=some (.mst none (kyN ids) a st ck)) (h4:hp 4=some (.map none (kyN ids) b)) (h5:hp (bs 5)=some (.itr 3 st ck seen)) (ha:a=(List.range n).map λi=>.vec (fs (2 * i))) (hb:b=(List.range n).map λi=>.vec (fs (2 * i+1))) :
  ∀i x,(rdQ t ids (evN n) (odN n) st ck seen)[i]?=some (some x)→hp (bs i)=some (x.ren (eA bs fs))∧x.bel 2000:=by
 obtain⟨b0,b1,b2,b3,b4⟩:=hbs;have e3:eA bs fs 3=3:=by rw[dV (by omega),b3]
 have e4:eA bs fs 4=4:=by rw[dV (by omega),b4]
 intro i x h
 rcases i with _|_|_|_|_|_|i
 ·cases h;exact⟨by rw[b0];exact h0,⟨trivial,trivial,trivial⟩⟩
 ·cases h;exact⟨by rw[b1];exact h1,⟨trivial,trivial,trivial⟩⟩
 ·cases h;exact⟨by rw[b2,h2];show _=some (Blk.box (.agg [.mref (eA bs fs 3),.mref (eA bs fs 4)]));rw[e3,e4],⟨show 3<2000 by omega,show 4<2000 by omega,trivial⟩⟩
 ·cases h;exact⟨by show hp (bs 3)=_;rw[b3,h3,Blk.ren,oe hn,ha],oh hn⟩
 ·cases h;exact⟨by show hp (bs 4)=_;rw[b4,h4,Blk.ren,nH hn,hb],nI hn⟩
 ·cases h;exact⟨by show hp (bs 5)=some (.itr (eA bs fs 3) st ck seen);rw[e3];exact h5,show 3<2000 by omega⟩
 ·simp[rdQ]at h
theorem rd_h3(t:Tpl)(hc:aF t=0)(k:Nat):dl Try.prog 0 k xk (rdS t (dB t t.ls)) (rdE t).st:=by
 unfold dl xk rdS;have hO:=aA hc;have hR:=hO.nr;have hml:=aT;have hM:=cU t t.ls;have hnd:(t.rs.map (·.id)).Nodup:=List.Pairwise.map _ (λa b h=>by omega) hO.asc;have hkO:∀q∈kyN (t.rs.map (·.id)),kOk q:=λq hq=>by
  obtain⟨x,hx,rfl⟩:=T'.mp hq;obtain⟨r,hr,rfl⟩:=T'.mp hx;have:=hO.rg r hr;show inK .i64 r.id;rw[ye];omega
 have hG0:∀b,b<1000→GS (dB t t.ls) (hpL 0 (rdH t (t.rs.map (·.id)) (evN t.rs.length) (odN t.rs.length))) b=hpL 0 (rdH t (t.rs.map (·.id)) (evN t.rs.length) (odN t.rs.length)) b:=λb hb=>kC hb;refine AWP.open 3 (hG0 3 (by decide)) λst ck hs1 hs2 hn hv=>?_;rw[kyN,B',B']at hs2;have g2:GS (dB t t.ls) (hpL 0 (rdH t (t.rs.map (·.id)) (evN t.rs.length) (odN t.rs.length))) 2=some (.box (.agg [.mref 3,.mref 4])):=hG0 2 (by decide);refine AWP.seq' ?_;refine AWP.reg' λK hK=>?_
 try simp only[aj,seval,g2]
 refine oa rfl (ah _ _ _) ?_
 try simp only[aj,seval]
 refine hK _ _ _ ?_;clear hK K;refine AWP.block ?_
 refine AWP.loopS (λseen:List Nat=>rdR t (gu st seen (dB t t.ls)) st ck seen) (λseen=>seen.Nodup∧∀s∈seen,s∈st) (λseen=>st.length-seen.length) (i0:=[]) ⟨by simp,by simp⟩ ?_ ?_
 ·rw[wG]
  refine ap.nfR ce _ _ _ (λb=>if b=5 then 2032 else b) Fr ?_ (CM ⟨rfl,rfl,rfl,rfl,rfl⟩ (by omega) ?_ ?_ ?_ ?_ ?_ ?_ rfl rfl) (by simp[rdQ]) (by omega) ?_ ?_ (λi j _ _ h=>by unfold Fr at h;omega) ?_ (λb hb=>by omega) (by decide)
  ·simp only[aG',au',false_implies,implies_true,and_true];exact⟨⟨rfl,show 1<2000 by omega⟩,⟨rfl,show 2<2000 by omega⟩,rfl,show 5<2000 by omega⟩
  ·rw[ai _ _ (by decide),ai _ _ (by decide)];exact hG0 0 (by decide)
  ·rw[ai _ _ (by decide),ai _ _ (by decide)];exact hG0 1 (by decide)
  ·rw[ai _ _ (by decide),ai _ _ (by decide)];exact hG0 2 (by decide)
  ·rw[ai _ _ (by decide),ah];rfl
  ·rw[ai _ _ (by decide),ai _ _ (by decide)];exact hG0 4 (by decide)
  ·rfl
  ·intro j r hr;have hj:=ao hr;rw[ai _ _ (by unfold Fr;omega),ai _ _ (by unfold Fr;omega)];exact gm hr (by omega)
  ·intro a b ha hb he;simp only[rdQ,ab',ak']at ha hb
   (repeat' split at he)<;>omega
  ·intro a b ha hb he;simp only[rdQ,ab',ak']at ha;unfold Fr at he
   (repeat' split at he)<;>omega
 ·rintro seen ⟨hnd',hsub⟩;unfold rdR;have hS0:∀b,b<1000→GS (gu st seen (dB t t.ls)) (hpL 0 (rdQ t (t.rs.map (·.id)) (evN t.rs.length) (odN t.rs.length) st ck seen)) b=hpL 0 (rdQ t (t.rs.map (·.id)) (evN t.rs.length) (odN t.rs.length) st ck seen) b:=λb hb=>kC hb;refine AWP.seq' ?_;refine AWP.reg' λK hK=>?_
  try simp only[aj,seval]
  refine ob rfl (hS0 5 (by decide)) (hS0 3 (by decide)) hkO (λhs=>?_) (λi q v s0 e1 e2 e3 e4=>?_)
  ·try simp only[aj,seval]
   refine hK _ _ _ ?_;clear hK K;refine AWP.seq' (AWP.cond (b:=false) rfl (λh=>by cases h) (λ_=>AWP.exit ?_));refine(show ap 0 k _ _ from ?_)
   refine ap.trans (ap.close 3 (hS0 3 (by decide))) (D7 t rfl rfl ?_ ?_ ?_ ?_ ?_ ?_)
   ·rw[ai _ _ (by decide)];exact hS0 0 (by decide)
   ·rw[ai _ _ (by decide)];exact hS0 1 (by decide)
   ·rw[ai _ _ (by decide)];exact hS0 2 (by decide)
   ·rw[ah]
   ·rw[ai _ _ (by decide)];exact hS0 4 (by decide)
   ·intro i r hr;obtain⟨q1,q2⟩:=wI hc hs hs2 hr;rw[ai _ _ (by unfold Fr;omega),ai _ _ (by unfold Fr;omega)];exact⟨gm q1 (by rw[dW];omega),gm q2 (by rw[dW];omega)⟩
  ·have hi:i<t.rs.length:=by have:=ao e3;omega
   have hr:t.rs[i]?=some t.rs[i]:=u' hi;generalize t.rs[i]=r at hr;have e1':(kyN (t.rs.map (·.id)))[i]?=some (MK.n r.id):=by rw[kyN,G',G',hr];rfl
   rw[e1']at e1;cases e1;have e2':(evN t.rs.length)[i]?=some (.vec (Fr (2 * i))):=by rw[evN,G',bf' hi];rfl
   rw[e2']at e2;cases e2
   try simp only[aj,seval]
   refine hK _ _ _ ?_;clear hK K;refine AWP.seq' (AWP.cond (b:=true) rfl (λ_=>?_) (λh=>by cases h));refine AWP.skip ?_;refine AWP.block (AWP.seq' ?_);refine AWP.reg' λK hK=>?_
   try simp only[aj,seval]
   refine od (m:=3) rfl (ah _ _ _) ((ai _ _ (by decide)).trans ((ai _ _ (by decide)).trans (hS0 3 (by decide)))) e3 e1' e2' (hkO _ (J' e1')) ?_
   try simp only[aj,seval,kAV]
   refine hK _ _ _ ?_;clear hK K;refine(show AWP _ _ _ _ _ _ from ?_);obtain⟨hk1,hk2⟩:=jp hnd (show(t.rs.map (·.id))[i]?=some r.id by rw[G',hr];rfl);have hmg:cB (kyN (t.rs.map (·.id))) (evN t.rs.length) (MK.n r.id) (.sl 0 [] true) false=.vec (Fr (2 * i)):=by
    unfold cB;rw[F' hk1,hk2,og hi];rfl
   obtain⟨q1,q2⟩:=lF hnd _ t.ls rfl (λl hl=>⟨hO.has l hl,hO.lt l hl⟩) i r hr;have q3:=wH (seen:=seen) q1 e3 e4;have gF:GS (gu st seen (dB t t.ls)) (hpL 0 (rdQ t (t.rs.map (·.id)) (evN t.rs.length) (odN t.rs.length) st ck seen)) (Fr (2 * i))=some (.vec 2 ((fD t.ls r.id).map Stp.v)):=gm q3 (by rw[dW];omega);have g2':GS (gu st seen (dB t t.ls)) (hpL 0 (rdQ t (t.rs.map (·.id)) (evN t.rs.length) (odN t.rs.length) st ck seen)) 2=some (.box (.agg [.mref 3,.mref 4])):=hS0 2 (by decide);have g3':GS (gu st seen (dB t t.ls)) (hpL 0 (rdQ t (t.rs.map (·.id)) (evN t.rs.length) (odN t.rs.length) st ck seen)) 3=some (.mst none (kyN (t.rs.map (·.id))) (evN t.rs.length) st ck):=hS0 3 (by decide);refine AWP.reg' λK hK=>?_
   try simp only[aj,seval,g2',g3',bf,dg,AV.key,hmg]
   refine⟨trivial,pN (qM _ (tK hc r.id)) ⟨_,Try.func81,by kernel_rfl,by kernel_rfl⟩ ⟨trivial,trivial⟩ (io _) (io _) trivial rfl rfl ((ai _ _ (by unfold Fr;omega)).trans ((ai _ _ (by unfold Fr;omega)).trans gF)) ?_⟩
   try simp only[aj,seval]
   refine hK _ _ _ ?_;clear hK K;have hN:(seen++[s0]).Nodup:=aT'.mpr ⟨hnd',by simp,λa ha b hb=>by rw[P'.mp hb];rintro rfl;exact e4 ha⟩;have hS:∀s∈seen++[s0],s∈st:=λs hs=>by
    rcases ac'.mp hs with hs|hs
    ·exact hsub s hs
    ·rw[P'.mp hs];exact J' e3
   have hL:st.length-(seen++[s0]).length<st.length-seen.length:=by
    have:=List.Nodup.length_le_of_subset hN hS;rw[List.length_append,List.length_singleton]at this ⊢;omega
   refine⟨seen++[s0],⟨hN,hS⟩,hL,?_⟩;rw[uV q1 e3 hs1 (by rw[hM,hs2])];have h5:∀i:Nat,¬5=Fr i:=λi=>by unfold Fr;omega
   refine ap.nfR ce _ _ _ (λb=>b) Fr ?_ (CM ⟨rfl,rfl,rfl,rfl,rfl⟩ (by omega) ?_ ?_ ?_ ?_ ?_ ?_ rfl rfl) (by simp[rdQ]) (by rw[be',dW];omega) ?_ (λi j _ _ h=>h) (λi j _ _ h=>by unfold Fr at h;omega) (λi j h1 h2 h=>by simp[rdQ]at h1;unfold Fr at h;omega) (λb _=>rfl) (by decide)
   ·simp only[aG',au',false_implies,implies_true,and_true];exact⟨⟨rfl,show 1<2000 by omega⟩,⟨rfl,show 2<2000 by omega⟩,rfl,show 5<2000 by omega⟩
   ·rw[ai _ _ (by unfold Fr;omega),ai _ _ (by decide),ai _ _ (by decide)];exact hS0 0 (by decide)
   ·rw[ai _ _ (by unfold Fr;omega),ai _ _ (by decide),ai _ _ (by decide)];exact hS0 1 (by decide)
   ·rw[ai _ _ (by unfold Fr;omega),ai _ _ (by decide),ai _ _ (by decide)];exact hS0 2 (by decide)
   ·rw[ai _ _ (by unfold Fr;omega),ai _ _ (by decide),ai _ _ (by decide)];exact hS0 3 (by decide)
   ·rw[ai _ _ (by unfold Fr;omega),ai _ _ (by decide),ai _ _ (by decide)];exact hS0 4 (by decide)
   ·rw[ai _ _ (h5 _),ah]
   ·intro j q hj;have hjl:=ao hj;rw[be',dW]at hjl;rw[ae']at hj
    by_cases e:2 * i=j
    ·subst e;rw[F' rfl,F' (by rw[dW];omega)]at hj;cases hj;rw[ah]
    ·rw[E' e]at hj;rw[ai _ _ (by unfold Fr;omega),ai _ _ (by unfold Fr;omega),ai _ _ (by unfold Fr;omega)];exact gm hj (by rw[dW];omega)
structure Grh where
  out:Lks
  inn:Lks
def Grh.v(x:Grh):AV:=.agg [gU x.out,gU x.inn]
def kH(t:Tpl):Grh:=⟨cK t,inG t⟩
def yp(r:Grh):AV:=Grh.v r
def rZ(t:Tpl)(hc:aF t=0):Ax Try.prog noS (Grh):=
 (.pass (.pass (.hand 0 [] (rd_m t) [0,16,80,32,48] (rdS t (List.replicate (2 * (t).rs.length) [])) xm (rd_h1 t hc)
(.hand2 0 (rdS t (List.replicate (2 * (t).rs.length) [])) (rdS t (dB t (t).ls)) xl (rd_h2 t hc)
(.hand2 0 (rdS t (dB t (t).ls)) ((rdE t).st) xk (rd_h3 t hc)
(.ret (kH t)))))))
theorem Ei(t:Tpl)(hc:aF t=0):(rZ t hc).vp yp (kH t):=by
 dsimp only[rZ,noS,Ax.vp,Ax.vc];simp only[vcU,rfU,B']
def Ej(t:Tpl)(hc:aF t=0):PC Try.prog:=pcO 64 [(.a [(.s 2),(.s 5)])] [Tpl.v t] .k yp (kH t) (λ_=>⟨(rZ t hc),Ei t hc,by kernel_rfl⟩) rfl (by kernel_rfl)
theorem ir{l:List Lnk}(h:l.Pairwise aU){i j:Nat}(hij:i<j){x y:Lnk}(hx:l[i]?=some x)(hy:l[j]?=some y):aU x y:=by
 have hi:=ao hx;have hj:=ao hy;rw[u' hi]at hx;rw[u' hj]at hy;have:=aZ'.mp h i j hi hj hij;rw[af' hx,af' hy]at this;exact this
theorem yf{l:List Lnk}(h:l.Pairwise aU)(k:Lnk):(cL l k=l.any (iK k))∧∀x∈l,iK k x=true→l[ba l k]?=some x:=by
 refine uE (λa b x y hab hx hy e=>?_) (λx e=>?_) λa b x y hab hx hy e=>?_
 ·have:=ir h hab hx hy;simp[jL]at e ⊢;unfold aU at *;omega
 ·simp[iK]at e;simp[jL];unfold aU;omega
 ·have:=ir h hab hx hy;simp[iK]at e;simp[jL];unfold aU at *;omega
def mz(f g:Int):Lnk:=⟨ez f g,cP f g,0,0,0⟩
theorem tG{t:Tpl}(hc:aF t=0)(f g:Int):cL t.ls (mz f g)=(dz t f g).2∧∀x,cL t.ls (mz f g)=true→t.ls[ba t.ls (mz f g)]?=some x→(dz t f g)=(if f<g then x.ca else x.cb,true):=by
 have hO:=aA hc;obtain⟨k1,k2⟩:=yf hO.ord (mz f g);have key:∀x∈t.ls,gN f g x=iK (mz f g) x:=λx hx=>by
  have:=hO.lt x hx;unfold gN iK mz;rw[aR',as'];simp only[bg',V',aY'];unfold ez cP
  constructor
  ·intro h;(repeat' split)<;>omega
  ·intro h;(repeat' split at h)<;>omega
 have hany:t.ls.any (iK (mz f g))=(t.ls.find? (gN f g)).isSome:=by
  rw[aR',aF',List.find?_isSome];exact⟨λ⟨x,hx,e⟩=>⟨x,hx,by rw[key x hx];exact e⟩,λ⟨x,hx,e⟩=>⟨x,hx,by rw[←key x hx];exact e⟩⟩
 refine⟨?_,λx hh hx=>?_⟩
 ·rw[k1,hany];unfold dz;cases q:t.ls.find? (gN f g)with
  | none=>rfl
  | some y=>rfl
 ·rw[k1,hany]at hh;unfold dz;cases q:t.ls.find? (gN f g)with
  | none=>rw[q]at hh;cases hh
  | some y =>
   have hy:=bP' q;have e:=List.find?_some q;have e':=e;rw[key y hy]at e';have:=k2 y hy e';rw[hx]at this;cases this;have hlt:=hO.lt x hy;simp only;unfold gN at e;simp only[bg',V',aY']at e
   congr 1
   by_cases c:x.a=f∧x.b=g
   ·rw[F' (by simp[c]),F' (by omega)]
   ·rw[E' (by simpa using c),E' (by omega)]
def zd(r:Int×Bool):AV:=.tup [.int r.1,.bool r.2]
def sw(t:Tpl)(from_:Int)(to_:Int):Ax Try.prog noS (Int×Bool):=
 (.callP (qA t)
(.br 96 (!(gI t)) (.ret (0,false))
(.req 240 (t.ls.length≤1000000) λh1 =>
(.callP (Dd t.ls (⟨ez from_ to_,cP from_ to_,0,0,0⟩:Lnk) h1)
(.br 384 (!(cL t.ls (⟨ez from_ to_,cP from_ to_,0,0,0⟩:Lnk))) (.ret (0,false))
(.br 448 (decide (from_<to_)) (.elI 496 Lnk.v t.ls (ba t.ls (⟨ez from_ to_,cP from_ to_,0,0,0⟩:Lnk):Int) λx2 =>
(.ret (x2.ca,true)))
(.elI 496 Lnk.v t.ls (ba t.ls (⟨ez from_ to_,cP from_ to_,0,0,0⟩:Lnk):Int) λx3 =>
(.ret (x3.cb,true)))))))))
theorem EC(t:Tpl)(f g:Int):(sw t f g).vp zd (bo t f g):=by
 dsimp only[sw,noS,Ax.vp,Ax.vc];simp only[vcU,rfU,B'];unfold bo gI
 by_cases hc:aF t=0
 ·have hl:=(aA hc).nl;obtain⟨p1,p2⟩:=tG hc f g
  change cL t.ls ⟨ez f g,cP f g,0,0,0⟩=_ at p1
  change ∀x,cL t.ls ⟨ez f g,cP f g,0,0,0⟩=true→t.ls[ba t.ls ⟨ez f g,cP f g,0,0,0⟩]?=some x→_ at p2
  generalize (⟨ez f g,cP f g,0,0,0⟩:Lnk)=kk at p1 p2 ⊢;rw[hc]
  refine⟨λh=>by simp at h,λ_=>⟨by omega,λh=>?_,λh=>?_⟩⟩
  ·have h:cL t.ls kk=false:=by simpa using h
   rw[E' (by simp)];rw[h]at p1;unfold dz at p1 ⊢;cases q:t.ls.find? (gN f g)with
   | none=>rfl
   | some y=>rw[q]at p1;cases p1
  ·have h:cL t.ls kk=true:=by simpa using h
   have hp:ba t.ls kk<t.ls.length:=by
    refine U' λq=>?_;unfold cL bsH at h;rw[X' (by unfold ba at q;omega)]at h;cases h
   rw[E' (by simp)]
   refine⟨λc=>⟨by omega,by omega,λx hx=>?_⟩,λc=>⟨by omega,by omega,λx hx=>?_⟩⟩
   ·rw[p2 x h (by rw[Int.toNat_natCast]at hx;exact hx),F' c]
   ·rw[p2 x h (by rw[Int.toNat_natCast]at hx;exact hx),E' c]
 ·rw[F' hc];refine⟨λ_=>rfl,λh=>?_⟩;simp[hc]at h
def mf(t:Tpl)(from_:Int)(to_:Int):PC Try.prog:=pcO 29 [(.a [(.s 2),(.s 5)]),.k,.k] [Tpl.v t,.int from_,.int to_] .k zd (bo t from_ to_) (λ_=>⟨(sw t from_ to_),EC t from_ to_,by kernel_rfl⟩) rfl (by kernel_rfl)
theorem my{α:Type}{l:List α}{k:Nat}{x:α}(hx:l[k]?=some x){P:α→Prop}:(∀y∈l.take (k+1),P y)↔(∀y∈l.take k,P y)∧P x:=by
 rw[bp hx]
 constructor
 ·intro h;exact⟨λy hy=>h y (ce' _ hy),h x (by simp)⟩
 ·rintro⟨h1,h2⟩ y hy
  rcases ac'.mp hy with hy|hy
  ·exact h1 y hy
  ·rw[P'.mp hy];exact h2
section
variable {α : Type} {l a : List α} {p : α → Bool} {t : Int} {x : α}
end
def fZ(l:List Int)(v:Int):Int:=match l.findIdx? λx=>decide (v=x)with
 | some i=>i
 | none=>-1
theorem pz{l:List Int}{r:Int}{i:Nat}(hx:l[i]?=some r)(hb:∀y∈l.take i,r≠y):fZ l r=i:=by
 obtain⟨hi,hxi⟩:=L'.mp hx;have:l.findIdx? (λp=>decide (r=p))=some i:=by
  rw[List.findIdx?_eq_some_iff_getElem];refine⟨hi,by rw[hxi];simp,λj hj=>?_⟩;have:=hb l[j] (J' (i:=j) (by rw[ap',F' hj,u' (by omega)]));simpa using this
 unfold fZ;rw[this]
theorem p9{l:List Int}{r:Int}(hb:∀y∈l,r≠y):fZ l r=-1:=by
 have:l.findIdx? (λp=>decide (r=p))=none:=by
  rw[List.findIdx?_eq_none_iff];intro x hx;simpa using hb x hx
 unfold fZ;rw[this]
def pB(s:List Int)(v:Int):=okL [.sl 1 (s.map AV.int) false,.int v]
def vA(s:List Int)(v:Int)(t0:Int):NF:=⟨[(0,.k,.sl 1 (s.map AV.int) false),rI 1 v,rI 7 ((s.map AV.int).length:Int),rI 8 t0],[]⟩
@[reducible] def p8:Nat→Type
 | 0=>Int
 | _=>Unit
def pA(r:Int):AV:=.int r
def py(s:List Int)(v:Int)(I0:Int→Prop)(m0:Int→Nat):Ax Try.prog p8 (Int):=
 (.loop 0 (vA s v) I0 m0 ((0):Int) [] λ(t0:Int) b0 =>
(.br 16 (decide (t0<((s.map AV.int).length:Int))) (.elI 96 AV.int s t0 λx1 =>
(.br 144 (v==x1) (.ret (t0))
(.bk 0 b0 ((W (t0+1)):Int) [])))
(.ret (-1))))
theorem xZ(l:List Int)(v:Int)(ok:pB l v):∃I m,(py l v I m).vp pA (fZ l v):=by
 simp only[pB,okU,Blk.ok,bc,B']at ok;refine⟨λt=>∃k:Nat,t=k∧k≤l.length∧∀x∈l.take k,v≠x,λt=>l.length-t.toNat,?_⟩;dsimp only[py,p8,Ax.vp,Ax.vc];simp only[vcU,rfU,B'];have hle:l.length≤9223372036854775807:=ok.1.1;refine⟨⟨0,rfl,by omega,by simp⟩,?_⟩;rintro _ ⟨k,rfl,hk,hI⟩;simp only[Int.toNat_natCast]
 refine⟨λh1=>⟨by omega,by omega,λx hx=>⟨λe=>?_,λe=>?_⟩⟩,λh1=>?_⟩
 ·have e:v=x:=by simpa using e
  subst e;rw[pz hx hI]
 ·rw[d7 (n:=l.length) (by omega) (by omega)];exact⟨⟨k+1,rfl,by omega,(my hx).mpr ⟨hI,by simpa using e⟩⟩,by omega⟩
 ·rw[ah' (by omega)]at hI;rw[p9 hI]
def yc(s:List Int)(v:Int):PC Try.prog:=pcO 34 [(.s 1),.k] [.sl 1 (s.map AV.int) false,.int v] .k pA (fZ s v) (λok=>let ⟨I0,m0,h⟩:=xZ s v ok;⟨_,h,by kernel_rfl⟩) rfl (by kernel_rfl)
theorem v8{l:List Int}{v:Int}:0≤fZ l v↔v∈l:=by
 unfold fZ;cases e:l.findIdx? (λp=>decide (v=p))with
 | none =>
  rw[List.findIdx?_eq_none_iff]at e;simp only;refine⟨λh=>by omega,λh=>by have:=e v h;simp at this⟩
 | some i =>
  rw[List.findIdx?_eq_some_iff_getElem]at e;obtain⟨h1,h2,_⟩:=e;simp only;refine⟨λ_=>?_,λ_=>by omega⟩;have:v=l[i]:=by simpa using h2
  rw[this];exact aK' h1
def uA(r:Bool):AV:=.bool r
def o0(s:List Int)(v:Int):Ax Try.prog noS (Bool):=
 (.callP (yc s v)
(.ret (decide (0≤(fZ s v)))))
theorem BN(l:List Int)(v:Int):(o0 l v).vp uA (decide (v∈l)):=by
 dsimp only[o0,noS,Ax.vp,Ax.vc];simp only[vcU,rfU,B'];exact decide_eq_decide.mpr v8
def fj(s:List Int)(v:Int):PC Try.prog:=pcO 25 [(.s 1),.k] [.sl 1 (s.map AV.int) false,.int v] .k uA (decide (v∈s)) (λ_=>⟨(o0 s v),BN s v,by kernel_rfl⟩) rfl (by kernel_rfl)
structure Hop where
  a:Int
  b:Int
  deriving DecidableEq
def Hop.v(h:Hop):AV:=.agg [.int h.a,.int h.b]
structure Flr where
  ls:List Hop
  rs:List Int
def nmd(l:List Hop)(a b:Int):Bool:=decide (⟨a,b⟩∈l) || decide (⟨b,a⟩∈l)
def gone(f:Flr)(l:Lnk):Bool:=decide (l.a∈f.rs) || (decide (l.b∈f.rs) || nmd f.ls l.a l.b)
def yl(l:List Int)(n:Int):=okL [.sl 1 (l.map AV.int) false,.int n]
def By(l:List Int)(n:Int)(t0:Int):NF:=⟨[(0,.k,.sl 1 (l.map AV.int) false),rI 1 n,rI 5 t0],[]⟩
@[reducible] def yj:Nat→Type
 | 0=>Int
 | _=>Unit
def yk(r:Bool):AV:=.bool r
def yi(l:List Int)(n:Int)(I0:Int→Prop)(m0:Int→Nat):Ax Try.prog yj (Bool):=
 (.loop 0 (By l n) I0 m0 ((0):Int) [] λ(t0:Int) b0 =>
(.br 64 (decide (t0<((l.map AV.int).length:Int))) (.elI 96 AV.int l t0 λx1 =>
(.br 160 (x1==n) (.ret (true))
(.bk 0 b0 ((W (t0+1)):Int) [])))
(.ret (false))))
theorem Eg(l:List Int)(n:Int)(ok:yl l n):∃I m,(yi l n I m).vp yk (decide (n∈l)):=by
 refine⟨λt=>dE l (λy=>y≠n) t,λt=>l.length-t.toNat,?_⟩;simp only[yl,okU,Blk.ok,bc,B']at ok;dsimp only[yi,yj,Ax.vp,Ax.vc];simp only[vcU,rfU,B']
 refine⟨dE.zero,λt h=>⟨λc=>⟨h.idx,c,λx hx=>⟨λq=>?_,λq=>h.step (by omega) hx (by simpa using q)⟩⟩,λc=>?_⟩⟩
 ·have q:=eq_of_beq q;subst q;exact(decide_eq_true (sO hx)).symm
 ·exact(decide_eq_false λq=>h.done c n q rfl).symm
def Eh(l:List Int)(n:Int):PC Try.prog:=pcO 10 [(.s 1),.k] [.sl 1 (l.map AV.int) false,.int n] .k yk (decide (n∈l)) (λok=>let ⟨I0,m0,h⟩:=Eg l n ok;⟨_,h,by kernel_rfl⟩) rfl (by kernel_rfl)
def capT(t:Tpl):Bool:=!t.rs.any EW
def sX(r:Bool):AV:=.bool r
def nj(t:Tpl):Ax Try.prog noS (Bool):=
 (.callP (zl t)
(.ret ((aF t)==0)))
theorem Ae(t:Tpl):(nj t).vp sX (gI t):=by
 dsimp only[nj,noS,Ax.vp,Ax.vc];simp only[vcU,rfU,B'];rfl
def Af(t:Tpl):PC Try.prog:=pcO 62 [(.a [(.s 2),(.s 5)])] [Tpl.v t] .k sX (gI t) (λ_=>⟨(nj t),Ae t,by kernel_rfl⟩) rfl (by kernel_rfl)
structure km (L:Lks):Prop where
  len:L.length≤1000000
  nd:(aq L).Nodup
  to:∀x,∀s∈av L x [],s.to∈aq L
  cost:∀x,∀s∈av L x [],1≤s.cost∧s.cost≤1000
structure DJ (L:Lks) (f:Int) (out op:Dis):Prop where
  di:iP L out op
  src:(f,0)∈out∨(f,0)∈op
  tgt:∀p,p∈out∨p∈op→p.1≠f→∃q∈out,∃s∈av L q.1 [],s.to=p.1∧p.2=q.2+s.cost
  mon:∀p∈out,∀q∈op,p.2≤q.2
  bnd:∀p,p∈out∨p∈op→0≤p.2∧p.2≤1000 * out.length
theorem DJ.relx{L:Lks}{f:Int}{out op:Dis}{b c:Int}(hL:km L)(h:DJ L f out op)(hb:(b,c)∈out)(ht:∀p∈out,p.2≤c)(hc:c+1000≤1000 * out.length){s:Stp}(hs:s∈av L b []) :
  DJ L f out (relx c out op s)∧(∀x n,(x,n)∈op→∃m,m≤n∧(x,m)∈Go.Proofs.Ytdoacjojljgdcaa.relx c out op s)∧∃n,n≤c+s.cost∧((s.to,n)∈out∨(s.to,n)∈Go.Proofs.Ytdoacjojljgdcaa.relx c out op s):=by
 obtain⟨c1,c2⟩:=hL.cost b s hs;have c0:=(h.bnd _ (.inl hb)).1;have hDi:=h.di.relx (c:=c) (hL.to b s hs);have hlen:=h.di.len1;have hll:=hL.len;have hW:W (c+s.cost)=c+s.cost:=dc ⟨by omega,by omega⟩
 revert hDi
 unfold Go.Proofs.Ytdoacjojljgdcaa.relx;rw[hW]
 by_cases e1:aR out s.to=true
 ·rw[F' e1];intro hDi;refine⟨h,λx n hx=>⟨n,bh' _,hx⟩,?_⟩;obtain⟨n,hn⟩:=bK.mp e1;exact⟨n,by have:=ht _ hn;simp at this;omega,.inl hn⟩
 rw[E' e1]
 by_cases e2:aR op s.to=false∨c+s.cost<av op s.to 0
 ·rw[F' e2];intro hDi;have hm:=λp=>bQ (l:=op) (p:=p) (x:=s.to) (v:=c+s.cost) h.di.np
  refine⟨⟨hDi,?_,?_,?_,?_⟩,λx n hx=>?_,⟨c+s.cost,bh' _,.inr ((hm _).mpr (.inl rfl))⟩⟩
  ·rcases h.src with q|q
   ·exact .inl q
   ·refine .inr ((hm _).mpr (.inr ⟨q,?_⟩));rintro rfl
    rcases e2 with e2|e2
    ·exact tU.mp e2 _ q
    ·rw[dU h.di.np q]at e2;omega
  ·rintro p (hp|hp) hpf
   ·exact h.tgt p (.inl hp) hpf
   ·rcases(hm _).mp hp with rfl|⟨hp,_⟩
    ·exact⟨_,hb,s,hs,rfl,rfl⟩
    ·exact h.tgt p (.inr hp) hpf
  ·intro p hp q hq
   rcases(hm _).mp hq with rfl|⟨hq,_⟩
   ·have:=ht p hp;simp only;omega
   ·exact h.mon p hp q hq
  ·rintro p (hp|hp)
   ·exact h.bnd p (.inl hp)
   ·rcases(hm _).mp hp with rfl|⟨hp,_⟩
    ·simp only;omega
    ·exact h.bnd p (.inr hp)
  ·by_cases ex:x=s.to
   ·subst ex;refine⟨c+s.cost,?_,(hm _).mpr (.inl rfl)⟩
    rcases e2 with e2|e2
    ·exact absurd hx (tU.mp e2 _)
    ·rw[dU h.di.np hx]at e2;omega
   ·exact⟨n,bh' _,(hm _).mpr (.inr ⟨hx,ex⟩)⟩
 ·rw[E' e2];intro hDi;refine⟨h,λx n hx=>⟨n,bh' _,hx⟩,?_⟩;have e3:aR op s.to=true:=by
   cases q:aR op s.to
   ·exact absurd (.inl q) e2
   ·rfl
  have e4:¬c+s.cost<av op s.to 0:=λq=>e2 (.inr q);exact⟨av op s.to 0,by omega,.inr (bD e3)⟩
theorem DJ.fold{L:Lks}{f:Int}{out:Dis}{b c:Int}(hL:km L)(hb:(b,c)∈out)(ht:∀p∈out,p.2≤c)(hc:c+1000≤1000 * out.length):∀{l:List Stp} {op:Dis},DJ L f out op→(∀s∈l,s∈av L b []) →
  DJ L f out (l.foldl (Go.Proofs.Ytdoacjojljgdcaa.relx c out) op)∧(∀x n,(x,n)∈op→∃m,m≤n∧(x,m)∈l.foldl (Go.Proofs.Ytdoacjojljgdcaa.relx c out) op)∧∀s∈l,∃n,n≤c+s.cost∧((s.to,n)∈out∨(s.to,n)∈l.foldl (Go.Proofs.Ytdoacjojljgdcaa.relx c out) op)
 | [],op,h,_=>⟨h,λx n hx=>⟨n,bh' _,hx⟩,λs hs=>by cases hs⟩
 | s::l,op,h,hs=>by
  obtain⟨h1,h2,h3⟩:=h.relx hL hb ht hc (hs s (by simp));obtain⟨g1,g2,g3⟩:=DJ.fold hL hb ht hc h1 λx hx=>hs x (bi' _ hx);rw[ba']
  refine⟨g1,λx n hx=>?_,λq hq=>?_⟩
  ·obtain⟨m,hm,hx⟩:=h2 x n hx;obtain⟨m',hm',hx⟩:=g2 x m hx;exact⟨m',by omega,hx⟩
  ·rcases aa'.mp hq with rfl|hq
   ·obtain⟨n,hn,hx|hx⟩:=h3
    ·exact⟨n,hn,.inl hx⟩
    ·obtain⟨m',hm',hx⟩:=g2 _ n hx;exact⟨m',by omega,.inr hx⟩
   ·exact g3 q hq
structure qu (L:Lks) (f:Int) (D:Dis):Prop where
  nd:(aq D).Nodup
  ke:∀x∈aq D,x∈aq L
  src:(f,0)∈D
  rlx:∀p∈D,∀s∈av L p.1 [],∃n,n≤p.2+s.cost∧(s.to,n)∈D
  tgt:∀p∈D,p.1≠f→∃q∈D,∃s∈av L q.1 [],s.to=p.1∧p.2=q.2+s.cost
  pos:∀p∈D,0≤p.2∧p.2≤1000 * D.length
theorem Bn{l m:List Int}(hl:l.Nodup)(hm:m.Nodup)(hs:∀x∈l,x∈m)(e:l.length=m.length):∀x∈m,x∈l:=λx hx=>by
 refine U' λq=>?_;have h2:(x::l).Nodup:=bX'.mpr ⟨q,hl⟩;have:=List.Nodup.length_le_of_subset h2 (l₂:=m) λy hy=>by
  rcases aa'.mp hy with rfl|hy
  ·exact hx
  ·exact hs y hy
 simp at this;omega
theorem ur{L:Lks}{f:Int}(hL:km L):∀(n:Nat) (out op:Dis),DJ L f out op→(∀p∈out,∀s∈av L p.1 [],∃n,n≤p.2+s.cost∧((s.to,n)∈out∨(s.to,n)∈op))→n=L.length-out.length→out.length<L.length→qu L f (wa L n out op)
 | 0,out,op,h,hr,hn,hl=>by omega
 | n+1,out,op,h,hr,hn,hl=>by
  rw[wa]
  by_cases e:op=[]
  ·rw[F' e];subst e
   refine⟨h.di.no,h.di.ko,?_,λp hp s hs=>?_,λp hp hf=>h.tgt p (.inl hp) hf,λp hp=>h.bnd p (.inl hp)⟩
   ·rcases h.src with q|q
    ·exact q
    ·cases q
   ·obtain⟨n,hn,hx|hx⟩:=hr p hp s hs
    ·exact⟨n,hn,hx⟩
    ·cases hx
  rw[E' e];obtain⟨c,hc,hmin⟩:=zy e;rw[dU h.di.np hc];generalize bst op=b at hc hmin ⊢;have hbk:b∈aq op:=aN.mpr ⟨c,hc⟩;have hbo:=h.di.di b hbk;obtain⟨hD,hlen⟩:=h.di.pop (c:=c) hbk;have hmo:=λp=>bQ (l:=out) (p:=p) (x:=b) (v:=c) h.di.no;have hmd:=λp=>nN (l:=op) (p:=p) (x:=b) h.di.np;have hout:∀p∈out,p∈bg out b c:=λp hp=>(hmo p).mpr (.inr ⟨hp,λe=>hbo (aN.mpr ⟨p.2,by rw[←e];exact hp⟩)⟩);have htop:∀p∈bg out b c,p.2≤c:=λp hp=>by
   rcases(hmo p).mp hp with rfl|⟨hp,_⟩
   ·exact bh' _
   ·exact h.mon p hp _ hc
  have hmv:∀p,p∈op→p∈bg out b c∨p∈mdl op b:=λp hp=>by
   by_cases e:p.1=b
   ·refine .inl ((hmo p).mpr (.inl ?_));have:p.2=c:=fF h.di.np (x:=b) (by rw[←e];exact hp) hc;exact Prod.ext e this
   ·exact .inr ((hmd p).mpr ⟨hp,e⟩)
  have hback:∀p,p∈bg out b c∨p∈mdl op b→p∈out∨p∈op:=λp hp=>by
   rcases hp with hp|hp
   ·rcases(hmo p).mp hp with rfl|⟨hp,_⟩
    ·exact .inr hc
    ·exact .inl hp
   ·exact .inr ((hmd p).mp hp).1
  have hJ:DJ L f (bg out b c) (mdl op b):=by
   refine⟨hD,?_,λp hp hf=>?_,λp hp q hq=>?_,λp hp=>?_⟩
   ·rcases h.src with q|q
    ·exact .inl (hout _ q)
    ·exact hmv _ q
   ·obtain⟨q,hq,s,hs,h1,h2⟩:=h.tgt p (hback p hp) hf;exact⟨q,hout q hq,s,hs,h1,h2⟩
   ·have h1:=htop p hp;have h2:=hmin q ((hmd q).mp hq).1;unfold bfr at h2;simp only at h2;omega
   ·have:=h.bnd p (hback p hp);rw[hlen];omega
  have hcb:=h.bnd _ (.inr hc);simp only at hcb;have hbm:(b,c)∈bg out b c:=(hmo _).mpr (.inl rfl);have hold:∀p∈out,∀s∈av L p.1 [],∃n,n≤p.2+s.cost∧((s.to,n)∈bg out b c∨(s.to,n)∈mdl op b):=λp hp s hs=>by
   obtain⟨n,hn,hx|hx⟩:=hr p hp s hs
   ·exact⟨n,hn,.inl (hout _ hx)⟩
   ·exact⟨n,hn,hmv _ hx⟩
  by_cases e2:(bg out b c).length=L.length
  ·rw[F' e2];have hall:=Bn hD.no hL.nd hD.ko (by rw[cu,cu,e2]);have hemp:∀p,p ∉ mdl op b:=λp hp=>by
    have hk:p.1∈aq (mdl op b):=aN.mpr ⟨p.2,hp⟩;exact hD.di _ hk (hall _ (hD.kp _ hk))
   refine⟨hD.no,hD.ko,?_,λp hp s hs=>?_,λp hp hf=>hJ.tgt p (.inl hp) hf,λp hp=>hJ.bnd p (.inl hp)⟩
   ·rcases hJ.src with q|q
    ·exact q
    ·exact absurd q (hemp _)
   ·rcases(hmo p).mp hp with rfl|⟨hp',_⟩
    ·obtain⟨n,hn⟩:=aN.mp (hall _ (hL.to _ s hs));have h1:=htop _ hn;have h2:=hL.cost _ s hs;exact⟨n,by simp only at h1 ⊢;omega,hn⟩
    ·obtain⟨n,hn,hx|hx⟩:=hold p hp' s hs
     ·exact⟨n,hn,hx⟩
     ·exact absurd hx (hemp _)
  ·rw[E' e2];obtain⟨g1,g2,g3⟩:=hJ.fold hL hbm htop (by rw[hlen];omega) (l:=av L b []) λs hs=>hs;refine ur hL n _ _ g1 (λp hp s hs=>?_) (by rw[hlen];omega) (by have:=hD.len1;omega)
   rcases(hmo p).mp hp with rfl|⟨hp',_⟩
   ·exact g3 s hs
   ·obtain⟨n,hn,hx|hx⟩:=hold p hp' s hs
    ·exact⟨n,hn,.inl hx⟩
    ·obtain⟨m,hm,hx⟩:=g2 _ _ hx;exact⟨m,by omega,.inr hx⟩
theorem dJ{L:Lks}{f:Int}(hL:km L)(hf:f∈aq L):qu L f (cn L f):=by
 have h0:0<L.length:=by rw[←cu];exact List.length_pos_of_mem hf
 have e:bg ([]:Dis) f 0=[(f,0)]:=rfl;rw[cn,F' (show aR L f=true from decide_eq_true hf),e]
 refine ur hL _ _ _ ⟨⟨by simp[aq],by simp[aq],by simp[aq],by simp[aq];simpa[aq]using hf,by simp[aq]⟩,.inr (by simp),λp hp hpf=>?_,by simp,λp hp=>?_⟩ (by simp) (by simp) (by simpa using h0)
 ·rcases hp with hp|hp
  ·cases hp
  ·rw[P'.mp hp]at hpf;exact absurd rfl hpf
 ·rcases hp with hp|hp
  ·cases hp
  ·rw[P'.mp hp];simp
inductive gq (L:Lks) (f:Int):Int→Int→Prop
  | nil:gq L f f 0
  | snoc {u n:Int} {s:Stp}:gq L f u n→s∈av L u []→gq L f s.to (n+s.cost)
theorem qu.low{L:Lks}{f:Int}{D:Dis}(h:qu L f D){v n:Int}(p:gq L f v n):∃m,m≤n∧(v,m)∈D:=by
 induction p with
 | nil=>exact⟨0,bh' _,h.src⟩
 | snoc q hs ih =>
  obtain⟨m,hm,hx⟩:=ih;obtain⟨k,hk,hx⟩:=h.rlx _ hx _ hs;exact⟨k,by simp only at hk;omega,hx⟩
theorem qu.path{L:Lks}{f:Int}{D:Dis}(hL:km L)(h:qu L f D):∀(k:Nat) {v n:Int},n.toNat≤k→(v,n)∈D→gq L f v n
 | k,v,n,hk,hx=>by
  by_cases e:v=f
  ·subst e;have:=fF h.nd hx h.src;subst this;exact .nil
  ·obtain⟨⟨u,m⟩,hq,s,hs,h1,h2⟩:=h.tgt _ hx e;simp only at h1 h2 hs;have hc:=hL.cost _ s hs;have hp:=(h.pos _ hq).1;have hp2:=(h.pos _ hx).1;simp only at hp hp2;subst h1;subst h2
   match k with
   | 0=>omega
   | k+1=>exact .snoc (qu.path hL h k (by omega) hq) hs
theorem mZ{L:Lks}{f:Int}(hL:km L)(hf:f∈aq L){v m:Int}:(v,m)∈cn L f↔gq L f v m∧∀n,gq L f v n→m≤n:=by
 have h:=dJ hL hf
 constructor
 ·intro hx;refine⟨h.path hL _ (S' _) hx,λn p=>?_⟩;obtain⟨k,hk,hx'⟩:=h.low p;rw[fF h.nd hx hx'];exact hk
 ·rintro⟨p,q⟩;obtain⟨k,hk,hx⟩:=h.low p;have:=q k (h.path hL _ (S' _) hx);have:k=m:=by omega
  rw[←this];exact hx
def isR(r:Int)(x:Rtr):Bool:=x.id==r
def eP(t:Tpl)(r:Int):Int:=if aJ t r=true then fp (isR r) t.rs else 0
def at6(t:Tpl)(d:List Int)(r:Int):Int:=if aJ t r=true then d.getD (fp (isR r) t.rs).toNat 0 else 1073741824
def rlx1(d:List Int)(a b:Nat)(c:Int):List Int:=if d.getD b 0<1073741824 then d.set a (ez (d.getD a 0) (W (c+d.getD b 0)))else d
def rlx(t:Tpl)(d:List Int)(l:Lnk):List Int:=rlx1 (rlx1 d (eP t l.a).toNat (eP t l.b).toNat l.ca) (eP t l.b).toNat (eP t l.a).toNat l.cb
def nw(t:Tpl):Nat→List Int→List Int
 | 0,d=>d
 | n+1,d=>t.ls.foldl (rlx t) (nw t n d)
def to0(t:Tpl)(r:Int):List Int:=t.rs.map λx=>if isR r x=true then 0 else 1073741824
def to6(t:Tpl)(r:Int):List Int:=nw t t.rs.length (to0 t r)
theorem je{d:List Int}{a b:Nat}{c:Int}:(rlx1 d a b c).length=d.length:=by unfold rlx1;split<;>simp
theorem AD{t:Tpl}{d:List Int}{l:Lnk}:(rlx t d l).length=d.length:=by rw[rlx,je,je]
theorem Bm{l:List Int}{k:Nat}{v:Int}{P:Int→Prop}(h:∀x∈l,P x)(hv:P v):∀x∈l.set k v,P x:=λx hx=>by
 rcases aj' hx with q|q
 ·exact h x q
 ·exact q ▸ hv
theorem nV{d:List Int}(h:∀x∈d,0≤x)(k:Nat):0≤d.getD k 0:=by
 rw[I'];cases e:d[k]? with
 | none=>simp
 | some x=>exact h x (bx e)
theorem kL{d:List Int}{a b:Nat}{c:Int}(h:∀x∈d,0≤x)(hc:1≤c∧c≤1000):∀x∈rlx1 d a b c,0≤x:=by
 unfold rlx1
 split
 ·have h1:=nV h a;have h2:=nV h b;refine Bm h ?_;rw[dc (by omega)];unfold ez;split<;>omega
 ·exact h
theorem dK{n:Int}:gb n=true↔1≤n∧n≤1000:=by unfold gb;simp
theorem D4{t:Tpl}{d:List Int}{l:Lnk}(h:∀x∈d,0≤x)(hl:iG l):∀x∈rlx t d l,0≤x:=kL (kL h (dK.mp hl.1)) (dK.mp hl.2.1)
theorem uC{t:Tpl}(h:aF t=0):∀l∈t.ls,iG l:=by
 refine U' λq=>?_;unfold aF at h
 by_cases c1:24<t.rs.length∨60<t.ls.length
 ·rw[F' c1]at h;cases h
 rw[E' c1]at h
 by_cases c2:¬∀x∈t.rs,1≤x.id∧x.id≤99
 ·rw[F' c2]at h;cases h
 rw[E' c2]at h
 by_cases c3:¬t.rs.Pairwise (λx y=>x.id<y.id)
 ·rw[F' c3]at h;cases h
 rw[E' c3,F' q]at h;cases h
theorem A5{α:Type}{A B:List α}{k:Nat}{x v:α}(h:A.length=k):(A++x::B).set k v=A++v::B:=by
 subst h;rw[bD' _ _ (S' _),bq',bW']
theorem getD_of{d:List Int}{k:Nat}{x:Int}(h:d[k]?=some x):d.getD k 0=x:=by rw[I',h];rfl
def okN(t:Tpl)(d:List Int)(r q:Int):Bool:=decide (at6 t d q<1073741824) && (W ((dz t r q).1+at6 t d q)==at6 t d r)
def Du(t:Tpl)(d:List Int)(r:Int):List Int:=if at6 t d r=1073741824∨at6 t d r=0 then []else(DP t r).filter (okN t d r)
theorem oV{t:Tpl}(h:aF t=0){f g:Int}(hp:(dz t f g).2=true):1≤(dz t f g).1∧(dz t f g).1≤1000:=by
 unfold dz at hp ⊢;cases e:t.ls.find? (gN f g)with
 | none=>rw[e]at hp;cases hp
 | some l =>
  have hl:=uC h l (bP' e);have h1:=dK.mp hl.1;have h2:=dK.mp hl.2.1;simp only;split<;>omega
theorem Ff{t:Tpl}{d:List Int}(h:∀x∈d,0≤x)(r:Int):0≤at6 t d r:=by
 unfold at6
 split
 ·exact nV h _
 ·omega
theorem mU{α:Type}{p q:α→Bool}:∀{l:List α} {x:α},(∀y,p y=true→q y=true)→x∈l→p x=false→q x=true→(l.filter p).length<(l.filter q).length
 | y::l,x,h,hx,h1,h2=>by
  have hle:∀l:List α,(l.filter p).length≤(l.filter q).length:=by
   intro l
   induction l with
   | nil=>simp
   | cons z l ih =>
    rw[bL',bL']
    by_cases c:p z=true
    ·rw[F' c,F' (h z c)];simp only[ab'];omega
    ·rw[E' c];split
     ·simp only[ab'];omega
     ·exact ih
  rw[bL',bL']
  rcases aa'.mp hx with rfl|hx
  ·rw[E' (by rw[h1];simp),F' h2];have:=hle l;simp only[ab'];omega
  ·have:=mU h hx h1 h2
   by_cases c:p y=true
   ·rw[F' c,F' (h y c)];simp only[ab'];omega
   ·rw[E' c];split
    ·simp only[ab'];omega
    ·exact this
def dS(t:Tpl)(u v c:Int):Prop:=∃l∈t.ls,(l.a=u∧l.b=v∧l.ca=c)∨(l.b=u∧l.a=v∧l.cb=c)
theorem fB{t:Tpl}(hc:aF t=0){u v c:Int}:dS t u v c↔dz t u v=(c,true):=by
 have hO:=aA hc;have key:∀x∈t.ls,∀y∈t.ls,gN u v x=true→gN u v y=true→x=y:=λx hx y hy h1 h2=>by
  obtain⟨i,hi⟩:=Y'.mp hx;obtain⟨j,hj⟩:=Y'.mp hy;have a1:=hO.lt x hx;have a2:=hO.lt y hy;unfold gN at h1 h2;simp only[bg',V',aY']at h1 h2;have hk:¬aU x y∧¬aU y x:=by unfold aU;omega
  rcases Nat.lt_trichotomy i j with h|h|h
  ·exact absurd (ir hO.ord h hi hj) hk.1
  ·subst h;rw[hi]at hj;exact af' hj
  ·exact absurd (ir hO.ord h hj hi) hk.2
 constructor
 ·rintro⟨l,hl,h⟩;have hp:gN u v l=true:=by
   unfold gN;simp only[bg',V',aY'];omega
  have hlt:=hO.lt l hl;unfold dz;cases q:t.ls.find? (gN u v)with
  | none =>
   have:=List.find?_eq_none.mp q l hl;exact absurd hp this
  | some y =>
   have:=key y (bP' q) l hl (List.find?_some q) hp;subst this;simp only
   rcases h with⟨h1,h2,h3⟩|⟨h1,h2,h3⟩
   ·rw[F' (by simp[h1,h2]),h3]
   ·rw[E' (by simp;omega),h3]
 ·intro h;unfold dz at h;cases q:t.ls.find? (gN u v)with
  | none=>rw[q]at h;simp at h
  | some y =>
   rw[q]at h;have hp:=List.find?_some q;have hy:=bP' q;simp only[Prod.mk.injEq,and_true]at h;unfold gN at hp;refine⟨y,hy,?_⟩
   by_cases e:(y.a==u && y.b==v)=true
   ·rw[F' e]at h;simp only[V',aY']at e;exact .inl ⟨e.1,e.2,h⟩
   ·rw[E' e]at h;simp only[bg',V',aY']at hp e
    rcases hp with hp|hp
    ·exact absurd hp e
    ·exact .inr ⟨hp.1,hp.2,h⟩
theorem dS.cost{t:Tpl}(hc:aF t=0){u v c:Int}(h:dS t u v c):1≤c∧c≤1000:=by
 obtain⟨l,hl,h⟩:=h;have:=(aA hc).lr l hl;have h1:=dK.mp this.1;have h2:=dK.mp this.2.1;omega
theorem dS.has{t:Tpl}(hc:aF t=0){u v c:Int}(h:dS t u v c):aJ t u=true∧aJ t v=true:=by
 obtain⟨l,hl,h⟩:=h;have:=(aA hc).has l hl
 rcases h with⟨rfl,rfl,_⟩|⟨rfl,rfl,_⟩
 ·exact this
 ·exact⟨this.2,this.1⟩
theorem pa{t:Tpl}(hc:aF t=0){x:Int}{s:Stp}:s∈fD t.ls x↔dS t x s.to s.cost:=by
 have hO:=aA hc;unfold fD dS;rw[bA']
 constructor
 ·rintro⟨l,hl,h⟩;refine⟨l,hl,?_⟩
  split at h
  ·rw[P'.mp h];exact .inl ⟨by assumption,rfl,rfl⟩
  ·split at h
   ·rw[P'.mp h];exact .inr ⟨by assumption,rfl,rfl⟩
   ·cases h
 ·rintro⟨l,hl,⟨h1,h2,h3⟩|⟨h1,h2,h3⟩⟩
  ·refine⟨l,hl,?_⟩;rw[F' h1,h2,h3];simp
  ·have:=hO.lt l hl;refine⟨l,hl,?_⟩;rw[E' (by omega),F' h1,h2,h3];simp
theorem uf{t:Tpl}(hc:aF t=0){x:Int}{s:Stp}:s∈inS t.ls x↔dS t s.to x s.cost:=by
 have hO:=aA hc;unfold inS dS;rw[bA']
 constructor
 ·rintro⟨l,hl,h⟩;refine⟨l,hl,?_⟩
  split at h
  ·rw[P'.mp h];exact .inl ⟨rfl,by assumption,rfl⟩
  ·split at h
   ·rw[P'.mp h];exact .inr ⟨rfl,by assumption,rfl⟩
   ·cases h
 ·rintro⟨l,hl,⟨h1,h2,h3⟩|⟨h1,h2,h3⟩⟩
  ·refine⟨l,hl,?_⟩;rw[F' h2,h1,h3];simp
  ·have:=hO.lt l hl;refine⟨l,hl,?_⟩;rw[E' (by omega),F' h2,h1,h3];simp
theorem cV{t:Tpl}{x:Int}:aJ t x=true↔∃r∈t.rs,r.id=x:=by
 unfold aJ;rw[aF'];simp
theorem aY{t:Tpl}(f:Rtr→List Stp):aq (t.rs.map λr=>(r.id,f r))=t.rs.map (·.id):=by unfold aq;rw[aX'];rfl
theorem bz{t:Tpl}{x:Int}:x∈t.rs.map (·.id)↔aJ t x=true:=by rw[cV,T']
theorem fH{t:Tpl}(hc:aF t=0):(t.rs.map (·.id)).Nodup:=List.Pairwise.map _ (λa b h=>by omega) (aA hc).asc
theorem uj{t:Tpl}(hc:aF t=0)(f:Int→List Stp)(hf:∀x,aJ t x=false→f x=[])(x:Int):av (t.rs.map λr=>(r.id,f r.id)) x []=f x:=by
 by_cases h:aJ t x=true
 ·obtain⟨r,hr,rfl⟩:=cV.mp h;exact dU (by rw[aY (λr=>f r.id)];exact fH hc) (T'.mpr ⟨r,hr,rfl⟩)
 ·have h:aJ t x=false:=by simpa using h
  rw[cA,hf x h];unfold aR;rw[aY (λr=>f r.id),decide_eq_false];rw[bz,h];simp
theorem Bb{t:Tpl}(hc:aF t=0)(x:Int)(h:aJ t x=false):fD t.ls x=[]:=by
 refine bY'.mpr λs hs=>?_;rw[(((pa hc).mp hs).has hc).1]at h;cases h
theorem Ec{t:Tpl}(hc:aF t=0)(x:Int)(h:aJ t x=false):inS t.ls x=[]:=by
 refine bY'.mpr λs hs=>?_;rw[(((uf hc).mp hs).has hc).2]at h;cases h
theorem tJ{t:Tpl}(hc:aF t=0)(x:Int):av (cK t) x []=iz (fD t.ls x):=uj hc (λx=>iz (fD t.ls x)) (λx h=>by rw[Bb hc x h];simp[iz]) x
theorem Eb{t:Tpl}(hc:aF t=0)(x:Int):av (inG t) x []=inS t.ls x:=uj hc (λx=>inS t.ls x) (λx h=>Ec hc x h) x
theorem kM{t:Tpl}(hc:aF t=0){x:Int}{s:Stp}:s∈av (cK t) x []↔dS t x s.to s.cost:=by rw[tJ hc,(ik _).mem_iff,pa hc]
theorem lK{t:Tpl}(hc:aF t=0){x:Int}{s:Stp}:s∈av (inG t) x []↔dS t s.to x s.cost:=by rw[Eb hc,uf hc]
theorem rp{t:Tpl}(hc:aF t=0):km (cK t):=by
 have:=(aA hc).nr;refine⟨by unfold cK;rw[B'];omega,by unfold cK;rw[aY];exact fH hc,λx s hs=>?_,λx s hs=>((kM hc).mp hs).cost hc⟩;unfold cK;rw[aY,bz];exact(((kM hc).mp hs).has hc).2
theorem kw{t:Tpl}(hc:aF t=0):km (inG t):=by
 have:=(aA hc).nr;refine⟨by unfold inG;rw[B'];omega,by unfold inG;rw[aY];exact fH hc,λx s hs=>?_,λx s hs=>((lK hc).mp hs).cost hc⟩;unfold inG;rw[aY,bz];exact(((lK hc).mp hs).has hc).1
inductive Pth (t:Tpl) (g:Int):Nat→Int→Int→Prop
  | nil:Pth t g 0 g 0
  | cons {k:Nat} {u w c n:Int}:dS t u w c→Pth t g k w n→Pth t g (k+1) u (n+c)
theorem jr{t:Tpl}(hc:aF t=0){g v n:Int}:gq (inG t) g v n↔∃k,Pth t g k v n:=by
 constructor
 ·intro p
  induction p with
  | nil=>exact⟨0,.nil⟩
  | snoc q hs ih=>obtain⟨k,ih⟩:=ih;exact⟨k+1,.cons ((lK hc).mp hs) ih⟩
 ·rintro⟨k,p⟩
  induction p with
  | nil=>exact .nil
  | cons e q ih=>exact .snoc (s:=⟨_,_⟩) ih ((lK hc).mpr e)
theorem l7{t:Tpl}(hc:aF t=0){f v n:Int}:gq (cK t) f v n↔∃k,Pth t v k f n:=by
 have app:∀{k:Nat} {u m w c v:Int},Pth t w k u m→dS t w v c→Pth t v (k+1) u (m+c):=λ{k u m w c v} p e=>by
  induction p with
  | nil=>exact .cons e .nil
  | cons e' q ih=>have:=Pth.cons e' ih;rwa [Int.add_right_comm]at this
 have pre:∀{f w v c n:Int},dS t f w c→gq (cK t) w v n→gq (cK t) f v (n+c):=λ{f w v c n} e p=>by
  induction p with
  | nil=>exact .snoc (s:=⟨_,_⟩) .nil ((kM hc).mpr e)
  | snoc q hs ih=>have:=gq.snoc ih hs;rwa [Int.add_right_comm]at this
 constructor
 ·intro p
  induction p with
  | nil=>exact⟨0,.nil⟩
  | snoc q hs ih=>obtain⟨k,ih⟩:=ih;exact⟨k+1,app ih ((kM hc).mp hs)⟩
 ·rintro⟨k,p⟩
  induction p with
  | nil=>exact .nil
  | cons e q ih=>exact pre e ih
def Lst(t:Tpl)(u v m:Int):Prop:=(∃k,Pth t v k u m)∧∀k n,Pth t v k u n→m≤n
theorem lL{t:Tpl}(hc:aF t=0){g v m:Int}(hg:aJ t g=true):(v,m)∈cn (inG t) g↔Lst t v g m:=by
 rw[mZ (kw hc) (by unfold inG;rw[aY,bz];exact hg),jr hc];exact⟨λ⟨h1,h2⟩=>⟨h1,λk n p=>h2 n ((jr hc).mpr ⟨k,p⟩)⟩,λ⟨h1,h2⟩=>⟨h1,λn p=>by obtain⟨k,p⟩:=(jr hc).mp p;exact h2 k n p⟩⟩
theorem vm{t:Tpl}(hc:aF t=0){f v m:Int}(hf:aJ t f=true):(v,m)∈cn (cK t) f↔Lst t f v m:=by
 rw[mZ (rp hc) (by unfold cK;rw[aY,bz];exact hf),l7 hc];exact⟨λ⟨h1,h2⟩=>⟨h1,λk n p=>h2 n ((l7 hc).mpr ⟨k,p⟩)⟩,λ⟨h1,h2⟩=>⟨h1,λn p=>by obtain⟨k,p⟩:=(l7 hc).mp p;exact h2 k n p⟩⟩
def fL:Int:=1073741824
theorem rc{t:Tpl}(hc:aF t=0){i:Nat}{r:Rtr}(h:t.rs[i]?=some r):(eP t r.id).toNat=i:=by
 have hh:aJ t r.id=true:=cV.mpr ⟨r,bx h,rfl⟩;unfold eP;rw[F' hh,fp,F' (show t.rs.any (isR r.id)=true from hh)];have hlt:t.rs.findIdx (isR r.id)<t.rs.length:=List.findIdx_lt_length.mpr ⟨r,bx h,by simp[isR]⟩;have e:=List.findIdx_getElem (w:=hlt);have h1:(t.rs.map (·.id))[t.rs.findIdx (isR r.id)]?=some r.id:=by
  rw[G',u' hlt];unfold isR at e ⊢;simp only[aY']at e;simp[e]
 have h2:(t.rs.map (·.id))[i]?=some r.id:=by rw[G',h];rfl
 have:=da (fH hc) h1 h2;rw[Int.toNat_natCast];exact this
theorem j9{t:Tpl}{d:List Int}{u:Int}(h:aJ t u=true):at6 t d u=d.getD (eP t u).toNat 0:=by
 unfold at6 eP;rw[F' h,F' h]
theorem Ct{t:Tpl}(hc:aF t=0){d:List Int}(hd:d.length=t.rs.length){a u x:Int}(ha:aJ t a=true)(hu:aJ t u=true):at6 t (d.set (eP t a).toNat x) u=if u=a then x else at6 t d u:=by
 rw[j9 hu,j9 hu];obtain⟨ra,h1,rfl⟩:=cV.mp ha;obtain⟨ru,h2,rfl⟩:=cV.mp hu;obtain⟨i,hi⟩:=Y'.mp h1;obtain⟨j,hj⟩:=Y'.mp h2;rw[rc hc hi,rc hc hj];have hil:=ao hi;rw[I',ae',I']
 by_cases e:i=j
 ·subst e;rw[hi]at hj;cases hj;rw[F' rfl,F' (by omega),F' rfl];rfl
 ·rw[E' e,E'];intro q;have h3:(t.rs.map (·.id))[i]?=some ra.id:=by rw[G',hi];rfl
  have h4:(t.rs.map (·.id))[j]?=some ra.id:=by rw[G',hj,←q];rfl
  exact e (da (fH hc) h3 h4)
theorem ny{t:Tpl}(hc:aF t=0){d:List Int}(hd:d.length=t.rs.length)(hn:∀x∈d,0≤x){a b c u:Int}(h1:1≤c∧c≤1000)(ha:aJ t a=true)(hb:aJ t b=true)(hu:aJ t u=true) :
  at6 t (rlx1 d (eP t a).toNat (eP t b).toNat c) u=if u=a∧at6 t d b<fL∧c+at6 t d b<at6 t d a then c+at6 t d b else at6 t d u:=by
 have hb0:=Ff (t:=t) hn b;unfold rlx1;rw[←j9 hb,←j9 ha]
 by_cases e:at6 t d b<1073741824
 ·rw[F' e,Ct hc hd ha hu,dc (by omega)];unfold ez fL
  by_cases e1:u=a
  ·subst e1;rw[F' rfl]
   by_cases e2:c+at6 t d b<at6 t d u
   ·rw[F' e2,F' ⟨rfl,e,e2⟩]
   ·rw[E' e2,E' (λq=>e2 q.2.2)]
  ·rw[E' e1,E' (λq=>e1 q.1)]
 ·rw[E' e,E' (λq=>e q.2.1)]
section
variable {t : Tpl} (hc : aF t = 0)
include hc
theorem AE{d:List Int}(hd:d.length=t.rs.length)(hn:∀x∈d,0≤x){l:Lnk}(hl:l∈t.ls) :
  (∀u,aJ t u=true→at6 t (rlx t d l) u≤at6 t d u)∧(at6 t d l.b<fL→at6 t (rlx t d l) l.a≤at6 t d l.b+l.ca)∧(at6 t d l.a<fL→at6 t (rlx t d l) l.b≤at6 t d l.a+l.cb):=by
 have hO:=aA hc;obtain⟨ha,hb⟩:=hO.has l hl;have hlr:=hO.lr l hl;have hlt:=hO.lt l hl;have c1:=dK.mp hlr.1;have c2:=dK.mp hlr.2.1;have hd1:(rlx1 d (eP t l.a).toNat (eP t l.b).toNat l.ca).length=t.rs.length:=by rw[je];exact hd
 have hn1:=kL (a:=(eP t l.a).toNat) (b:=(eP t l.b).toNat) hn c1;have s1:=λu hu=>ny hc hd hn (u:=u) c1 ha hb hu;have s2:=λu hu=>ny hc hd1 hn1 (u:=u) c2 hb ha hu;unfold rlx;have sa:=s1 l.a ha;have sb:=s1 l.b hb;rw[E' (λq=>by have:=q.1;omega)]at sb;have e1:dS t l.a l.b l.ca:=⟨l,hl,.inl ⟨rfl,rfl,rfl⟩⟩
 have e2:dS t l.b l.a l.cb:=⟨l,hl,.inr ⟨rfl,rfl,rfl⟩⟩
 refine⟨λu hu=>?_,λh=>?_,λh=>?_⟩
 ·rw[s2 u hu,s1 u hu]
  by_cases q:u=l.b
  ·subst q;rw[sb,sa];(repeat' split)<;>omega
  ·rw[E' (λr=>q r.1)];split
   ·rename_i r;obtain⟨r1,r2,r3⟩:=r;subst r1;omega
   ·omega
 ·rw[s2 l.a ha,E' (λr=>by have:=r.1;omega),sa]
  split
  ·omega
  ·rename_i r;have:¬l.ca+at6 t d l.b<at6 t d l.a:=λq=>r ⟨rfl,h,q⟩;omega
 ·have ham:at6 t (rlx1 d (eP t l.a).toNat (eP t l.b).toNat l.ca) l.a≤at6 t d l.a:=by rw[sa];split<;>omega
  rw[s2 l.b hb]
  split
  ·omega
  ·rename_i r;have:¬l.cb+at6 t (rlx1 d (eP t l.a).toNat (eP t l.b).toNat l.ca) l.a<at6 t (rlx1 d (eP t l.a).toNat (eP t l.b).toNat l.ca) l.b:=λq=>r ⟨rfl,by omega,q⟩;omega
def PV(t:Tpl)(g:Int)(d:List Int):Prop:=∀u,aJ t u=true→at6 t d u≤fL∧(at6 t d u<fL→∃k,Pth t g k u (at6 t d u))
theorem PV.rlx1{g:Int}{d:List Int}(h:PV t g d)(hd:d.length=t.rs.length)(hn:∀x∈d,0≤x){a b c:Int}(e:dS t a b c):PV t g (rlx1 d (eP t a).toNat (eP t b).toNat c):=λu hu=>by
 obtain⟨ha,hb⟩:=e.has hc;rw[ny hc hd hn (e.cost hc) ha hb hu]
 split
 ·rename_i r;obtain⟨r1,r2,r3⟩:=r;subst r1;have:=(h u hu).1;refine⟨by omega,λ_=>?_⟩;obtain⟨k,p⟩:=(h b hb).2 r2;rw[Int.add_comm];exact⟨k+1,.cons e p⟩
 ·exact h u hu
theorem PV.rlx{g:Int}{d:List Int}(h:PV t g d)(hd:d.length=t.rs.length)(hn:∀x∈d,0≤x){l:Lnk}(hl:l∈t.ls):PV t g (rlx t d l):=by
 have c1:=dK.mp ((aA hc).lr l hl).1;exact PV.rlx1 hc (PV.rlx1 hc h hd hn ⟨l,hl,.inl ⟨rfl,rfl,rfl⟩⟩) (by rw[je];exact hd) (kL hn c1) ⟨l,hl,.inr ⟨rfl,rfl,rfl⟩⟩
theorem pG{g:Int}:∀{ls:List Lnk} {d:List Int},d.length=t.rs.length→(∀x∈d,0≤x)→PV t g d→(∀l∈ls,l∈t.ls) →
  (ls.foldl (rlx t) d).length=t.rs.length∧(∀x∈ls.foldl (rlx t) d,0≤x)∧PV t g (ls.foldl (rlx t) d)∧(∀u,aJ t u=true→at6 t (ls.foldl (rlx t) d) u≤at6 t d u) ∧
  ∀l∈ls,(at6 t d l.b<fL→at6 t (ls.foldl (rlx t) d) l.a≤at6 t d l.b+l.ca)∧(at6 t d l.a<fL→at6 t (ls.foldl (rlx t) d) l.b≤at6 t d l.a+l.cb)
 | [],d,hd,hn,hp,_=>⟨hd,hn,hp,λu _=>bh' _,λl hl=>by cases hl⟩
 | l::ls,d,hd,hn,hp,hs=>by
  have hl:=hs l (by simp);obtain⟨a1,a2,a3⟩:=AE hc hd hn hl;obtain⟨b1,b2,b3,b4,b5⟩:=pG (g:=g) (ls:=ls) (d:=rlx t d l) (by rw[AD];exact hd) (D4 hn (uC hc l hl)) (PV.rlx hc hp hd hn hl) λm hm=>hs m (bi' _ hm);rw[ba'];refine⟨b1,b2,b3,λu hu=>Int.le_trans (b4 u hu) (a1 u hu),λm hm=>?_⟩
  rcases aa'.mp hm with rfl|hm'
  ·obtain⟨ha,hb⟩:=(aA hc).has m hl;exact⟨λh=>Int.le_trans (b4 _ ha) (a2 h),λh=>Int.le_trans (b4 _ hb) (a3 h)⟩
  ·obtain⟨ha,hb⟩:=(aA hc).has m (hs m hm);have h1:=a1 _ ha;have h2:=a1 _ hb;exact⟨λh=>by have:=(b5 m hm').1 (by omega);omega,λh=>by have:=(b5 m hm').2 (by omega);omega⟩
theorem th{g:Int}(hg:aJ t g=true):∀k:Nat,(nw t k (to0 t g)).length=t.rs.length∧(∀x∈nw t k (to0 t g),0≤x)∧PV t g (nw t k (to0 t g))∧∀j u n,j≤k→Pth t g j u n→n<fL→at6 t (nw t k (to0 t g)) u≤n
 | 0=>by
  have e:∀u,aJ t u=true→at6 t (to0 t g) u=if u=g then 0 else fL:=λu hu=>by
   rw[j9 hu];obtain⟨r,hr,rfl⟩:=cV.mp hu;obtain⟨i,hi⟩:=Y'.mp hr;rw[rc hc hi,to0,I',G',hi];simp[isR,fL]
  refine⟨by simp[nw,to0],λx hx=>?_,λu hu=>?_,λj u n hj p hn=>?_⟩
  ·obtain⟨y,_,rfl⟩:=T'.mp hx;split<;>omega
  ·rw[nw,e u hu]
   split
   ·rename_i q;subst q;exact⟨by decide,λ_=>⟨0,.nil⟩⟩
   ·exact⟨bh' _,λh=>by omega⟩
  ·obtain rfl:j=0:=by omega
   cases p;rw[nw,e g hg,F' rfl];exact bh' _
 | k+1=>by
  obtain⟨h1,h2,h3,h4⟩:=th hg k;obtain⟨b1,b2,b3,b4,b5⟩:=pG hc (ls:=t.ls) h1 h2 h3 λl hl=>hl;refine⟨b1,b2,b3,λj u n hj p hn=>?_⟩;cases p with
  | nil=>exact Int.le_trans (b4 g hg) (h4 0 g 0 (by omega) .nil hn)
  | cons e q =>
   have hcs:=e.cost hc;have hw:=h4 _ _ _ (by omega) q (by omega)
   obtain⟨l,hl,⟨rfl,rfl,rfl⟩|⟨rfl,rfl,rfl⟩⟩:=e
   ·have:=(b5 l hl).1 (by omega);show at6 t (t.ls.foldl (rlx t) _) _≤_;omega
   ·have:=(b5 l hl).2 (by omega);show at6 t (t.ls.foldl (rlx t) _) _≤_;omega
theorem mT{g:Int}{D:Dis}(h:qu (inG t) g D):∀(N:Nat) {v n:Int},n.toNat≤N→(v,n)∈D→∃k,k≤(D.filter λp=>decide (p.2<n)).length∧Pth t g k v n
 | N,v,n,hN,hx=>by
  by_cases e:v=g
  ·subst e;have:=fF h.nd hx h.src;subst this;exact⟨0,aq' _,.nil⟩
  ·obtain⟨⟨u,m⟩,hq,s,hs,h1,h2⟩:=h.tgt _ hx e;simp only at h1 h2 hs;have he:=(lK hc).mp hs;have hcs:=he.cost hc;have hp:=(h.pos _ hq).1;have hp2:=(h.pos _ hx).1;simp only at hp hp2;subst h1;subst h2
   match N with
   | 0=>omega
   | N+1 =>
    obtain⟨k,hk,p⟩:=mT h N (by omega) hq;refine⟨k+1,?_,.cons he p⟩;have:=mU (l:=D) (x:=(u,m)) (p:=λp=>decide (p.2<m)) (q:=λp=>decide (p.2<m+s.cost)) (λy hy=>by rw[decide_eq_true_eq]at hy ⊢;omega) hq (decide_eq_false (by simp)) (decide_eq_true (by simp;omega));omega
theorem uq{g:Int}(hg:aJ t g=true):(cn (inG t) g).length≤t.rs.length:=by
 have h:=dJ (kw hc) (f:=g) (by unfold inG;rw[aY,bz];exact hg);have:=List.Nodup.length_le_of_subset h.nd h.ke;rw[cu,cu,inG,B']at this;exact this
theorem ti{g:Int}(hg:aJ t g=true)(u:Int):at6 t (to6 t g) u=if aR (cn (inG t) g) u=true then av (cn (inG t) g) u 0 else fL:=by
 have h:=dJ (kw hc) (f:=g) (by unfold inG;rw[aY,bz];exact hg);have hlen:=uq hc hg;have hR:=(aA hc).nr;obtain⟨r1,r2,r3,r4⟩:=th hc hg t.rs.length
 change PV t g (to6 t g)at r3
 change ∀j u n,j≤t.rs.length→Pth t g j u n→n<fL→at6 t (to6 t g) u≤n at r4
 have hk:∀x,x∈aq (inG t)↔aJ t x=true:=λx=>by unfold inG;rw[aY,bz]
 by_cases hu:aJ t u=true
 ·by_cases hm:aR (cn (inG t) g) u=true
  ·rw[F' hm];have hx:=bD (z:=(0:Int)) hm;generalize av (cn (inG t) g) u 0=m at hx ⊢;obtain⟨k,hk1,p⟩:=mT hc h _ (S' _) hx;have hle:=ca' (λp:Int×Int=>decide (p.2<m)) (cn (inG t) g);have hb:=(h.pos _ hx).2;simp only at hb;have hup:=r4 k u m (by omega) p (by unfold fL;omega);obtain⟨k',p'⟩:=(r3 u hu).2 (by unfold fL;omega);have:=((lL hc hg).mp hx).2 _ _ p';omega
  ·rw[E' hm];refine U' λq=>?_;obtain⟨k',p'⟩:=(r3 u hu).2 (by have:=(r3 u hu).1;omega);obtain⟨m,_,hx⟩:=h.low ((jr hc).mpr ⟨k',p'⟩);exact hm (bK.mpr ⟨m,hx⟩)
 ·have e:at6 t (to6 t g) u=fL:=by unfold at6;rw[E' hu];rfl
  rw[e,E'];intro q;obtain⟨v,hv⟩:=bK.mp q;exact hu ((hk u).mp (h.ke _ (aN.mpr ⟨v,hv⟩)))
end
section
variable {t : Tpl} (hc : aF t = 0)
include hc
theorem tQ{f q:Int}:q∈DP t f↔(dz t f q).2=true:=by
 unfold DP;rw[bA']
 constructor
 ·rintro⟨x,hx,h⟩
  split at h
  ·rw[P'.mp h];assumption
  ·cases h
 ·intro h;have he:=(fB hc (u:=f) (v:=q) (c:=(dz t f q).1)).mpr (Prod.ext rfl h);obtain⟨r,hr,rfl⟩:=cV.mp (he.has hc).2;exact⟨r,hr,by rw[F' h];simp⟩
theorem uo{g:Int}(hg:aJ t g=true){x m:Int}(h:(x,m)∈cn (inG t) g):0≤m∧m≤24000:=by
 have hf:=dJ (kw hc) (f:=g) (by unfold inG;rw[aY,bz];exact hg);have:=hf.pos _ h;have hl:=uq hc hg;have:=(aA hc).nr;simp only at *;omega
theorem Ba:tM (cK t):=by
 have hk:=rp hc;have e:aq (cK t)=t.rs.map (·.id):=by unfold cK;rw[aY]
 refine⟨hk.len,hk.nd,λx hx=>?_,λp hp=>?_⟩
 ·rw[e]at hx;obtain⟨r,hr,rfl⟩:=T'.mp hx;have:=(aA hc).rg r hr;omega
 ·have hm:av (cK t) p.1 []=p.2:=dU hk.nd hp;refine⟨?_,λs hs=>hk.to p.1 s (by rw[hm];exact hs)⟩;rw[←hm,tJ hc,(ik _).length_eq];exact(tK hc _).1
theorem md{g:Int}(hg:aJ t g=false):cn (inG t) g=[]:=by
 unfold cn;rw[E'];unfold aR;rw[as'];unfold inG;rw[aY,bz,hg];simp
end
theorem dx{t:Tpl}{r:Int}:hs5 t r=true↔aF t=0∧aJ t r=true:=by unfold hs5;rw[V',aY']
theorem vZ{t:Tpl}{f:Int}(hf:aJ t f=false):cn (cK t) f=[]:=by
 unfold cn;rw[E'];unfold aR;rw[as'];unfold cK;rw[aY,bz,hf];simp
def DM(t:Tpl)(f g:Int):List Int:=if hs5 t f=false∨hs5 t g=false then []else Du t (to6 t g) f
def aP(t:Tpl)(f g:Int):Int×Bool:=if hs5 t f=false∨hs5 t g=false then(0,false)else if at6 t (to6 t g) f=1073741824 then(0,false)else(at6 t (to6 t g) f,true)
theorem oz{t:Tpl}(hc:aF t=0)(f g:Int):aP t f g=if aR (cn (inG t) g) f=true then(av (cn (inG t) g) f 0,true)else(0,false):=by
 unfold aP
 by_cases hg:aJ t g=true
 ·by_cases hf:aJ t f=true
  ·rw[E' (by rw[dx.mpr ⟨hc,hf⟩,dx.mpr ⟨hc,hg⟩];simp),ti hc hg f]
   by_cases h:aR (cn (inG t) g) f=true
   ·have:=uo hc hg (bD (z:=(0:Int)) h);rw[F' h,F' h,E' (by omega)]
   ·rw[E' h,E' h,F' (show fL=1073741824 from rfl)]
  ·have e:hs5 t f=false:=by rw[Bool.eq_false_iff];exact λq=>hf (dx.mp q).2
   rw[F' (.inl e),E'];intro q;obtain⟨v,hv⟩:=bK.mp q;have h:=dJ (kw hc) (f:=g) (by unfold inG;rw[aY,bz];exact hg);have:=h.ke _ (aN.mpr ⟨v,hv⟩);unfold inG at this;rw[aY,bz]at this;exact hf this
 ·have e:hs5 t g=false:=by rw[Bool.eq_false_iff];exact λq=>hg (dx.mp q).2
  rw[F' (.inr e),md hc (by simpa using hg)];rfl
theorem uz{t:Tpl}(hc:aF t=0)(f g:Int):aP t f g=if aR (cn (cK t) f) g=true then(av (cn (cK t) f) g 0,true)else(0,false):=by
 rw[oz hc]
 by_cases hf:aJ t f=true
 ·by_cases hg:aJ t g=true
  ·have key:∀m,(f,m)∈cn (inG t) g↔(g,m)∈cn (cK t) f:=λm=>by rw[lL hc hg,vm hc hf]
   have hF:=dJ (kw hc) (f:=g) (by unfold inG;rw[aY,bz];exact hg)
   by_cases h:aR (cn (inG t) g) f=true
   ·have hm:=bD (z:=(0:Int)) h;have h2:=(key _).mp hm;have h3:aR (cn (cK t) f) g=true:=bK.mpr ⟨_,h2⟩;have h4:=(key _).mpr (bD (z:=(0:Int)) h3);rw[F' h,F' h3,fF hF.nd hm h4]
   ·have h3:¬aR (cn (cK t) f) g=true:=λq=>by
     obtain⟨v,hv⟩:=bK.mp q;exact h (bK.mpr ⟨v,(key v).mpr hv⟩)
    rw[E' h,E' h3]
  ·rw[md hc (by simpa using hg)];have h3:¬aR (cn (cK t) f) g=true:=λq=>by
    obtain⟨v,hv⟩:=bK.mp q;have h:=dJ (rp hc) (f:=f) (by unfold cK;rw[aY,bz];exact hf);have:=h.ke _ (aN.mpr ⟨v,hv⟩);unfold cK at this;rw[aY,bz]at this;exact hg this
   rw[E' h3];rfl
 ·rw[vZ (by simpa using hf)];have h3:¬aR (cn (inG t) g) f=true:=λq=>by
   obtain⟨v,hv⟩:=bK.mp q
   by_cases hg:aJ t g=true
   ·have h:=dJ (kw hc) (f:=g) (by unfold inG;rw[aY,bz];exact hg);have:=h.ke _ (aN.mpr ⟨v,hv⟩);unfold inG at this;rw[aY,bz]at this;exact hf this
   ·rw[md hc (by simpa using hg)]at hv;cases hv
  rw[E' h3];rfl
def repR(l:List Int):Bool:=!decide l.Nodup
def yZ(x:Int)(n:Int):=okL [.int x,.int n]
def yY(r:Int):AV:=.int r
def ss(x:Int)(n:Int):Ax Try.prog noS (Int):=
 (.br 48 (decide (n<1)) (.ret (0))
(.say (ck (!(n==0))) (.br 144 (decide ((x.tmod n)<0)) (.ret (W ((x.tmod n)+n)))
(.ret (x.tmod n)))))
theorem E8(x n:Int)(ok:yZ x n):(ss x n).vp yY (Mod x n):=by
 simp only[yZ,okU,Blk.ok,bc,B']at ok;dsimp only[ss,noS,Ax.vp,Ax.vc];simp only[vcU,rfU,B'];refine⟨λh=>by rw[Mod,F' h],λh=>⟨by simp;omega,λh2=>?_,λh2=>by rw[Mod,E' h,E' h2]⟩⟩;have hb:=Int.tmod_lt_of_pos x (show 0<n by omega);have hb':=Int.lt_tmod_of_pos x (show 0<n by omega);rw[Mod,E' h,F' h2,dc (by omega)]
def E9(x:Int)(n:Int):PC Try.prog:=pcO 26 [.k,.k] [.int x,.int n] .k yY (Mod x n) (λok=>⟨(ss x n),E8 x n ok,by kernel_rfl⟩) rfl (by kernel_rfl)
def xn(L:List Int)(p:Int):=okL [.ref 0 0]∧(.box (.agg [.sl 1 (L.map AV.int) false,.int p]):Blk).ok
def qY(r:oB×Int):AV:=.int r.2
def n8(r:oB×Int):List (Option Blk):=[some (.box (oB.v r.1))]
def n7(L:List Int)(p:Int):Ax Try.prog noS (oB×Int):=
 (.br 177 (decide (((L.map AV.int).length:Int)≤p)) (.retH ((⟨L,p⟩:oB),0) ⟨[rI 2 0],[.box (.agg [.sl 1 (L.map AV.int) false,.int p])]⟩ [0])
(.elI 449 AV.int L (W ((W (p+1))-1)) λx1 =>
(.retH ((⟨L,W (p+1)⟩:oB),x1) ⟨[rI 2 x1],[.box (.agg [.sl 1 (L.map AV.int) false,.int (W (p+1))])]⟩ [0])))
theorem AS(L:List Int)(p:Int)(r0:oB×Int)(h:(n7 L p).vc qY n8 r0):aI Try.prog 27 [.ref 0 0] [.box (.agg [.sl 1 (L.map AV.int) false,.int p])] (qY r0) (n8 r0):=xH (sh:=.k) (hB:=n8) (a:=(n7 L p).an) h (by kernel_rfl)
theorem D9(L:List Int)(p:Nat)(ok:xn L p):(n7 L p).vc qY n8 (⟨L,ab L p⟩,ay L p):=by
 simp only[xn,okU,Blk.ok,bc,B']at ok;dsimp only[n7,noS,Ax.vp,Ax.vc];simp only[vcU,rfU,B']
 refine⟨λh=>?_,λh=>?_⟩
 ·rw[ab,F' (by omega)];simp[ay,X' (show L.length≤p by omega)]
 ·have e1:W ((p:Int)+1)=p+1:=dc (by omega);have e2:W ((p:Int)+1-1)=p:=by rw[dc (by omega)];omega
  rw[e1,e2];refine⟨by omega,by omega,λx hx=>?_⟩;rw[Int.toNat_natCast]at hx;rw[ab,E' (by omega)];simp[ay,hx]
theorem vb(L:List Int)(p:Nat):aI Try.prog 27 [.ref 0 0] [.box (Tap.v ⟨L,p⟩)] (.int (ay L p)) [some (.box (Tap.v ⟨L,ab L p⟩))]:=
 aI.of_okh λok ok2=>AS L p _ (D9 L p ⟨ok,ok2 _ (P'.mpr rfl)⟩)
def DA(L:List Int)(p:Nat):HC Try.prog:=⟨27,[],[.ref 0 0],[.box (Tap.v ⟨L,p⟩)],.int (ay L p),[some (.box (Tap.v ⟨L,ab L p⟩))],vb L p,ga (by kernel_rfl),qt.of rfl⟩
def rE(r:Tap×Int):AV:=.int r.2
def rF(r:Tap×Int):List (Option Blk):=[some (.box (Tap.v r.1))]
def rD(L:List Int)(p:Nat)(n:Int):Ax Try.prog noS (Tap×Int):=
 (.callH [0] (DA L p) 33
(.callP (E9 (ay L p) n)
(.retH ((⟨L,ab L p⟩:Tap),Mod (ay L p) n) ⟨[rI 4 (Mod (ay L p) n)],[.box (.agg [.sl 1 (L.map AV.int) false,.int (ab L p)])]⟩ [0])))
theorem DK(L:List Int)(p:Nat)(n:Int):(rD L p n).vc rE rF (⟨L,ab L p⟩,Mod (ay L p) n):=by
 dsimp only[rD,noS,Ax.vp,Ax.vc];simp only[vcU,rfU,B']
def cg(L:List Int)(p:Nat)(n:Int):HC Try.prog:=hcO 15 [.k,.k] [.ref 0 0,.int n] [.box (.agg [.sl 1 (L.map AV.int) false,.int p])] .k rE rF ((⟨L,ab L p⟩,Mod (ay L p) n):Tap×Int) (λ_ _=>⟨(rD L p n),DK L p n,by kernel_rfl⟩) (by kernel_rfl) (by simp[hcB,dM,AV.belB,allB,fW,fE,rE,rF,Tap.v,am (v:=AV.int) (λ_=>rfl)])
def qU(r:Tap×Int):AV:=.int r.2
def qV(r:Tap×Int):List (Option Blk):=[some (.box (Tap.v r.1))]
def qT(L:List Int)(p:Nat)(low:Int)(high:Int):Ax Try.prog noS (Tap×Int):=
 (.callH [0] (cg L p (W ((W (high-low))+1))) 113
(.retH ((⟨L,ab L p⟩:Tap),W (low+(Mod (ay L p) (W ((W (high-low))+1))))) ⟨[rI 6 (W (low+(Mod (ay L p) (W ((W (high-low))+1)))))],[.box (.agg [.sl 1 (L.map AV.int) false,.int (ab L p)])]⟩ [0]))
theorem D1(L:List Int)(p:Nat)(lo hi:Int):(qT L p lo hi).vc qU qV (⟨L,ab L p⟩,rng L p lo hi):=by
 dsimp only[qT,noS,Ax.vp,Ax.vc];simp only[vcU,rfU,B'];rfl
def eN(L:List Int)(p:Nat)(low:Int)(high:Int):HC Try.prog:=hcO 12 [.k,.k,.k] [.ref 0 0,.int low,.int high] [.box (.agg [.sl 1 (L.map AV.int) false,.int p])] .k qU qV ((⟨L,ab L p⟩,rng L p low high):Tap×Int) (λ_ _=>⟨(qT L p low high),D1 L p low high,by kernel_rfl⟩) (by kernel_rfl) (by simp[hcB,dM,AV.belB,allB,fW,fE,qU,qV,Tap.v,am (v:=AV.int) (λ_=>rfl)])
def rl(r:Tap×Int):AV:=.int r.2
def ro(r:Tap×Int):List (Option Blk):=[some (.box (Tap.v r.1))]
def rj(L:List Int)(p:Nat)(l:List Int):Ax Try.prog noS (Tap×Int):=
 (.callH [0] (cg L p ((l.map AV.int).length:Int)) 81
(.elI 97 AV.int l (Mod (ay L p) ((l.map AV.int).length:Int)) λx1 =>
(.retH ((⟨L,ab L p⟩:Tap),x1) ⟨[rI 4 x1],[.box (.agg [.sl 1 (L.map AV.int) false,.int (ab L p)])]⟩ [0])))
theorem DC(L:List Int)(p:Nat)(l:List Int)(hl:l≠[]):(rj L p l).vc rl ro (⟨L,ab L p⟩,dq l (ay L p)):=by
 have hl:0<l.length:=List.length_pos_iff.mpr hl;have hm:=eK (x:=ay L p) (show 1≤(l.length:Int) by omega);dsimp only[rj,noS,Ax.vp,Ax.vc];simp only[vcU,rfU,B'];refine⟨by omega,by omega,λx hx=>?_⟩;rw[dq,I',hx];rfl
def rk(L:List Int)(p:Nat)(l:List Int)(hl:l≠[]):HC Try.prog:=hcO 13 [.k,(.s 1)] [.ref 0 0,.sl 1 (l.map AV.int) false] [.box (.agg [.sl 1 (L.map AV.int) false,.int p])] .k rl ro ((⟨L,ab L p⟩,dq l (ay L p)):Tap×Int) (λ_ _=>⟨(rj L p l),DC L p l hl,by kernel_rfl⟩) (by kernel_rfl) (by simp[hcB,dM,AV.belB,allB,fW,fE,rl,ro,Tap.v,am (v:=AV.int) (λ_=>rfl)])
def fV(L:List Int)(p:Nat)(n:Int):Bool:=Mod (ay L p) n==W (n-1)
def rA(r:Tap×Bool):AV:=.bool r.2
def rC(r:Tap×Bool):List (Option Blk):=[some (.box (Tap.v r.1))]
def rz(L:List Int)(p:Nat)(n:Int):Ax Try.prog noS (Tap×Bool):=
 (.callH [0] (cg L p n) 49
(.retH ((⟨L,ab L p⟩:Tap),(Mod (ay L p) n)==(W (n-1))) ⟨[rB 4 ((Mod (ay L p) n)==(W (n-1)))],[.box (.agg [.sl 1 (L.map AV.int) false,.int (ab L p)])]⟩ [0]))
theorem DI(L:List Int)(p:Nat)(n:Int):(rz L p n).vc rA rC (⟨L,ab L p⟩,fV L p n):=by
 dsimp only[rz,noS,Ax.vp,Ax.vc];simp only[vcU,rfU,B'];rfl
def l9(L:List Int)(p:Nat)(n:Int):HC Try.prog:=hcO 14 [.k,.k] [.ref 0 0,.int n] [.box (.agg [.sl 1 (L.map AV.int) false,.int p])] .k rA rC ((⟨L,ab L p⟩,fV L p n):Tap×Bool) (λ_ _=>⟨(rz L p n),DI L p n,by kernel_rfl⟩) (by kernel_rfl) (by simp[hcB,dM,AV.belB,allB,fW,fE,rA,rC,Tap.v,am (v:=AV.int) (λ_=>rfl)])
def wldL:List Int:=[-1,0,1,7,8,23,24,31,32,63,64,99,100,255,256,257,1000,1001,1023,1024,1000000,1000001,1099511627776,9223372036854775807,-9223372036854775808]
def gE(L:List Int)(p:Nat):Int:=dq wldL (ay L p)
def qx(r:Tap×Int):AV:=.int r.2
def qy(r:Tap×Int):List (Option Blk):=[some (.box (Tap.v r.1))]
def qw(L:List Int)(p:Nat):Ax Try.prog noS (Tap×Int):=
 (.req 49 ([-1,0,1,7,8,23,24,31,32,63,64,99,100,255,256,257,1000,1001,1023,1024,1000000,1000001,1099511627776,9223372036854775807,-9223372036854775808]≠[]) λh1 =>
(.callH [0] (rk L p [-1,0,1,7,8,23,24,31,32,63,64,99,100,255,256,257,1000,1001,1023,1024,1000000,1000001,1099511627776,9223372036854775807,-9223372036854775808] h1) 49
(.retH ((⟨L,ab L p⟩:Tap),dq [-1,0,1,7,8,23,24,31,32,63,64,99,100,255,256,257,1000,1001,1023,1024,1000000,1000001,1099511627776,9223372036854775807,-9223372036854775808] (ay L p)) ⟨[rI 2 (dq [-1,0,1,7,8,23,24,31,32,63,64,99,100,255,256,257,1000,1001,1023,1024,1000000,1000001,1099511627776,9223372036854775807,-9223372036854775808] (ay L p))],[.box (.agg [.sl 1 (L.map AV.int) false,.int (ab L p)])]⟩ [0])))
theorem Dh(L:List Int)(p:Nat):(qw L p).vc qx qy (⟨L,ab L p⟩,gE L p):=by
 dsimp only[qw,noS,Ax.vp,Ax.vc];simp only[vcU,rfU,B'];exact⟨by simp,rfl⟩
def ni(L:List Int)(p:Nat):HC Try.prog:=hcO 17 [.k] [.ref 0 0] [.box (.agg [.sl 1 (L.map AV.int) false,.int p])] .k qx qy ((⟨L,ab L p⟩,gE L p):Tap×Int) (λ_ _=>⟨(qw L p),Dh L p,by kernel_rfl⟩) (by kernel_rfl) (by simp[hcB,dM,AV.belB,allB,fW,fE,qx,qy,Tap.v,am (v:=AV.int) (λ_=>rfl)])
def xF(l:List Int):=okL [.sl 1 (l.map AV.int) false]
def rJ(r:Tap):AV:=.ref 0 0
def rK(r:Tap):List (Option Blk):=[some (.box (Tap.v r))]
def rH(l:List Int):Ax Try.prog noS (Tap):=
 (.br 64 (decide (600<((l.map AV.int).length:Int))) (.say (λR=>Rf (α:=List AV) (l.map AV.int) (ck (kK l.length 0 600 (l.length:Int))
R)) (.sub 80 AV.int l false
(.retH (⟨(l.take 600).drop 0,0⟩:Tap) ⟨[rR 2 0],[.box (.agg [.sl 1 (((l.take 600).drop 0).map AV.int) false,.int 0])]⟩ [144])))
(.retH (⟨l,0⟩:Tap) ⟨[rR 2 0],[.box (.agg [.sl 1 (l.map AV.int) false,.int 0])]⟩ [96]))
theorem DN(t:List Int)(ok:xF t):(rH t).vc rJ rK ⟨t.take 600,0⟩:=by
 simp only[xF,okU,Blk.ok,bc,B']at ok;dsimp only[rH,noS,Ax.vp,Ax.vc];simp only[vcU,rfU,B'];refine⟨λh=>⟨by simp[kK];omega,by rw[bR']⟩,λh=>by rw[ah' (by omega)]⟩
def DO(l:List Int):HC Try.prog:=hcO 4 [(.s 1)] [.sl 1 (l.map AV.int) false] [] .k rJ rK (⟨l.take 600,0⟩:Tap) (λok _=>⟨(rH l),DN l ok,by kernel_rfl⟩) (by kernel_rfl) (by simp[hcB,dM,AV.belB,allB,fW,fE,rJ,rK,Tap.v,am (v:=AV.int) (λ_=>rfl)])
theorem mN{α:Type}(l:List α)(k:Nat)(x:α)(h:k≤l.length):(bE l k x).length=l.length+1:=by
 unfold bE;simp;omega
theorem rS{α:Type}(l:List α)(k:Nat)(x:α):(bE l k x).Perm (x::l):=by
 unfold bE;have:=(List.perm_middle (a:=x) (l₁:=l.take k) (l₂:=l.drop k))
 rw[bm']at this;simpa[aS']using this
theorem vy{α:Type}{l:List α}{k:Nat}{x:α}:(((l.take k).drop 0)++[x])++((l.take ((l.length:Int).toNat)).drop k)=bE l k x:=by rw[aS',vz]
def fU(out:List Lnk)(x:Lnk):Nat:=out.findIdx λy=>!decide (aU y x)
def aW:List Lnk→List Lnk→List Lnk
 | [],out=>out
 | x::l,out=>aW l (bE out (fU out x) x)
def Bf(l:List Lnk)(t0:Int×List Lnk):NF:=⟨[(0,.k,.sl 5 (l.map Lnk.v) false),rV 3 0,rI 4 t0.1],[vB 5 Lnk.v t0.2 (λ_=>rfl)]⟩
def Bd(l:List Lnk)(t0:Int×List Lnk)(t1:Int):NF:=⟨[(0,.k,.sl 5 (l.map Lnk.v) false),rV 3 0,rI 4 t0.1,rI 5 t1],[vB 5 Lnk.v t0.2 (λ_=>rfl)]⟩
def Bc(l:List Lnk)(t0:Int×List Lnk)(t1:Int)(t2:Bool):NF:=⟨[(0,.k,.sl 5 (l.map Lnk.v) false),rV 3 0,rI 4 t0.1,rI 5 t1,rB 55 t2],[vB 5 Lnk.v t0.2 (λ_=>rfl)]⟩
@[reducible] def xx:Nat→Type
 | 0=>Int×List Lnk
 | 1=>Int
 | 2=>Bool
 | _=>Unit
def rq(r:List Lnk):AV:=.vec 0
def rr(r:List Lnk):List (Option Blk):=[some (.vec 5 (r.map Lnk.v))]
def xw(l:List Lnk)(I0:(Int×List Lnk)→Prop)(m0:(Int×List Lnk)→Nat)(I1:Int×List Lnk→Int→Prop)(m1:Int×List Lnk→Int→Nat)(I2:Int×List Lnk→Int→Bool→Prop):Ax Try.prog xx ((List Lnk)):=
 (.cmdL (.nilT 3 5) (.loop 0 (Bf l) I0 m0 (0,[]) [48] λ(t0:Int×List Lnk) b0 =>
(.br 65 (decide (t0.1<((l.map Lnk.v).length:Int))) (.loop 1 (Bd l t0) (I1 t0) (m1 t0) ((0):Int) [0] λ(t1:Int) b1 =>
(.pass (.join 2 (Bc l t0 t1) (λ(t2:Bool)=>I2 t0 t1 t2) (λb2=>(.br 81 (decide (t1<((t0.2.map Lnk.v).length:Int))) (.elJ 145 Lnk.v t0.2 t1 λx1 =>
(.elI 193 Lnk.v l t0.1 λx2 =>
(.br 273 (decide (x1.a<x2.a)) (.bk 2 b2 ((true):Bool) [0])
(.elJ 337 Lnk.v t0.2 t1 λx3 =>
(.elI 385 Lnk.v l t0.1 λx4 =>
(.br 465 (x3.a==x4.a) (.elJ 529 Lnk.v t0.2 t1 λx5 =>
(.elI 577 Lnk.v l t0.1 λx6 =>
(.bk 2 b2 ((decide (x5.b<x6.b)):Bool) [0])))
(.bk 2 b2 ((false):Bool) [0])))))))
(.bk 2 b2 ((false):Bool) [0]))) λ(t2:Bool) =>
(.br 1 t2 (.bk 1 b1 ((W (t1+1)):Int) [0])
(.wait (.say (Rf (t0.2.map Lnk.v)) (.cmd (.frzE 0 (t0.2.map Lnk.v) (am (λ_=>rfl) t0.2)) (.say (λR=>Rf (α:=List AV) (t0.2.map Lnk.v) (ck (kK t0.2.length 0 t1 (t0.2.length:Int))
R)) (.sub 65 Lnk.v t0.2 false
(.apX 81 Lnk.v [] ((t0.2.take t1.toNat).drop 0) (0+((t0.2.take t1.toNat).drop 0).length)
(.elI 161 Lnk.v l t0.1 λx7 =>
(.own 193 (.apX 209 Lnk.v ((t0.2.take t1.toNat).drop 0) [x7] (((t0.2.take t1.toNat).drop 0).length+1)
(.say (λR=>Rf (α:=List AV) (t0.2.map Lnk.v) (ck (kK t0.2.length t1 (t0.2.length:Int) (t0.2.length:Int))
R)) (.sub 289 Lnk.v t0.2 false
(.apX 305 Lnk.v (((t0.2.take t1.toNat).drop 0)++[x7]) ((t0.2.take ((t0.2.length:Int).toNat)).drop t1.toNat) ((((t0.2.take t1.toNat).drop 0)++[x7]).length+((t0.2.take ((t0.2.length:Int).toNat)).drop t1.toNat).length)
(.bk 0 b0 (W (t0.1+1),(((t0.2.take t1.toNat).drop 0)++[x7])++((t0.2.take ((t0.2.length:Int).toNat)).drop t1.toNat)) [305])))))))))))))))))
(.retH t0.2 ⟨[rV 2 0],[vB 5 Lnk.v t0.2 (λ_=>rfl)]⟩ [0]))))
theorem AY{out:List Lnk}{x:Lnk}{j:Nat}(hj:j≤out.length)(h1:∀y∈out.take j,aU y x)(h2:∀y,out[j]?=some y→¬aU y x):fU out x=j:=by
 unfold fU
 by_cases e:j=out.length
 ·subst e;rw[List.take_length]at h1;rw[List.findIdx_eq_length];intro y hy;simp[h1 y hy]
 ·rw[List.findIdx_eq (by omega)]
  refine⟨?_,λi hi=>?_⟩
  ·have:=h2 _ (u' (by omega));simp[this]
  ·have:=h1 (out[i]'(by omega)) (bF'.mpr ⟨i,by omega,rfl⟩);simp[this]
theorem DD(l:List Lnk)(h:l.length≤1000):∃I0 m0 I1 m1 I2,(xw l I0 m0 I1 m1 I2).vc rq rr (aW l []):=by
 refine⟨λs=>∃k:Nat,s.1=k∧k≤l.length∧s.2.length=k∧aW (l.drop k) s.2=aW l [],λs=>l.length-s.1.toNat,
  λs t=>dE s.2 (λy=>∀x,l[s.1.toNat]?=some x→aU y x) t,λs t=>s.2.length-t.toNat,λs t b=>b=true↔t<s.2.length∧∀x y,l[s.1.toNat]?=some x→s.2[t.toNat]?=some y→aU y x,?_⟩
 dsimp only[xw,xx,Ax.vp,Ax.vc];simp only[vcU,rfU,B'];refine⟨⟨0,rfl,by omega,rfl,by simp⟩,?_⟩;rintro⟨i,out⟩ ⟨k,hi,hk,hl,hr⟩;simp only at hi hl hr ⊢;subst hi;subst hl;simp only[Int.toNat_natCast]
 refine⟨λc=>?_,λc=>?_⟩
 ·have hx:=u' (show out.length<l.length by omega);generalize l[out.length]=x at hx;refine⟨dE.zero,λt hI=>?_⟩;obtain⟨j,rfl,hj,ha⟩:=hI;have ha':∀y∈out.take j,aU y x:=λy hy=>ha y hy x hx;have hI:dE out (λy=>∀x,l[out.length]?=some x→aU y x) ((j:Nat):Int):=⟨j,rfl,hj,ha⟩
  simp only[Int.toNat_natCast]
  refine⟨⟨λd=>?_,λd=>⟨nofun,λq=>absurd q.1 d⟩⟩,λb hb=>?_⟩
  ·have hy:=u' (show j<out.length by omega);generalize out[j]=y at hy;have rg:(bif decide (0≤((j:Nat):Int))then decide (((j:Nat):Int)<out.length)else false)=true:=xo (by omega) d;refine⟨rg,by omega,λx1 h1=>⟨by omega,c,λx2 h2=>?_⟩⟩;rw[hy]at h1;cases h1;rw[hx]at h2;cases h2
   refine⟨λe=>⟨λ_=>⟨d,λx' y' hx' hy'=>?_⟩,λ_=>trivial⟩,λe=>⟨rg,by omega,λx3 h3=>⟨by omega,c,λx4 h4=>?_⟩⟩⟩
   ·rw[hx]at hx';cases hx';rw[hy]at hy';cases hy';exact .inl e
   rw[hy]at h3;cases h3;rw[hx]at h4;cases h4
   refine⟨λe2=>⟨rg,by omega,λx5 h5=>⟨by omega,c,λx6 h6=>?_⟩⟩,λe2=>⟨nofun,λq=>?_⟩⟩
   ·rw[hy]at h5;cases h5;rw[hx]at h6;cases h6;have e2:=eq_of_beq e2
    refine⟨λe3=>⟨d,λx' y' hx' hy'=>?_⟩,λq=>?_⟩
    ·rw[hx]at hx';cases hx';rw[hy]at hy';cases hy';exact .inr ⟨e2,e3⟩
    ·have:=q.2 x y hx hy;unfold aU at this;omega
   ·have:=q.2 x y hx hy;have e2:¬y.a=x.a:=by simpa using e2
    unfold aU at this;omega
  ·refine⟨λe=>?_,λe=>?_⟩
   ·obtain⟨d,hd⟩:=hb.mp e;have hy:=u' (show j<out.length by omega);exact hI.step (by omega) (by rw[Int.toNat_natCast];exact hy) λx' hx'=>hd x' _ hx' hy
   ·have hp:fU out x=j:=AY hj ha' λy hy q=>by
     have:=hb.mpr ⟨by have:=ao hy;omega,λx' y' hx' hy'=>by rw[hx]at hx';cases hx';rw[hy]at hy';cases hy';exact q⟩;rw[e]at this;cases this
    refine⟨by simp[kK];omega,by simp;omega,by omega,c,λx7 h7=>?_⟩;rw[hx]at h7;cases h7;have hi:(((out.take j).drop 0)++[x])++((out.take out.length).drop j)=bE out j x:=by have:=vy (l:=out) (k:=j) (x:=x);rwa [Int.toNat_natCast]at this
    rw[hi,d7 (n:=l.length) (by omega) (by omega)];refine⟨by simp;omega,by simp[kK];omega,by simp;omega,⟨out.length+1,rfl,by omega,mN _ _ _ hj,?_⟩,by omega⟩;rw[bQ' (by omega),aW]at hr;have:l[out.length]'(by omega)=x:=by rw[u' (by omega)]at hx;exact af' hx
    rw[this,hp]at hr;exact hr
 ·have:out.length=l.length:=by omega
  rw[this,List.drop_length,aW]at hr;exact hr
def DE(l:List Lnk)(h:l.length≤1000):HC Try.prog:=hcO 16 [(.s 5)] [.sl 5 (l.map Lnk.v) false] [] .k rq rr (aW l []) (λ_ _=>let ⟨I0,m0,I1,m1,I2,h⟩:=DD l h;⟨_,h,by kernel_rfl⟩) (by kernel_rfl) (by simp[hcB,dM,AV.belB,allB,fW,fE,rq,rr,am (v:=Lnk.v) (λ_=>rfl)])
def jc(k:Nat):List Rtr:=(List.range k).map λi=>⟨((i+1:Nat):Int),true⟩
def cnM(L:List Int)(a tree:Int)(skip:Bool)(p:Nat):Bool×Nat:=if(a==tree)=true∧skip=false then(true,p)else(fV L p 3,ab L p)
def xQ(L:List Int)(cost a b:Int)(p:Nat):Lnk:=⟨a,b,rng L p 1 cost,rng L (ab L p) 1 cost,Mod (ay L (ab L (ab L p))) 4⟩
def inM(L:List Int)(cost b tree:Int)(skip:Bool):Nat→Int→List Lnk→Nat→List Lnk×Nat
 | 0,_,ls,p=>(ls,p)
 | f+1,a,ls,p=>if(cnM L a tree skip p).1=true then inM L cost b tree skip f (a+1) (ls++[xQ L cost a b (cnM L a tree skip p).2]) (ab L (ab L (ab L (cnM L a tree skip p).2)))
  else inM L cost b tree skip f (a+1) ls (cnM L a tree skip p).2
def inR(L:List Int)(cost b:Int)(ls:List Lnk)(p:Nat):List Lnk×Nat:=inM L cost b (rng L p 1 (W (b-1))) (fV L (ab L p) 9) (b-1).toNat 1 ls (ab L (ab L p))
def ouM(L:List Int)(cost:Int):Nat→Int→List Lnk→Nat→List Lnk×Nat
 | 0,_,ls,p=>(ls,p)
 | f+1,b,ls,p=>ouM L cost f (b+1) (inR L cost b ls p).1 (inR L cost b ls p).2
def pL(j:Nat):List Rtr:=(List.range j).map λi=>⟨((50+i:Nat):Int),false⟩
def ixM(L:List Int)(p:Nat)(g:Tpl):Nat:=(Mod (ay L p) g.ls.length).toNat
def Dz(L:List Int)(p:Nat)(g:Tpl):Tpl×Nat:=
 if Mod (ay L p) 7=0 then(⟨g.rs++[⟨dq [0,1,99,100,-1] (ay L (ab L p)),false⟩],g.ls⟩,ab L (ab L p))
 else if Mod (ay L p) 7=1 then(⟨g.rs,g.ls++[⟨Mod (ay L (ab L p)) 4,Mod (ay L (ab L (ab L p))) 4,1,1,0⟩]⟩,ab L (ab L (ab L p)))
 else if Mod (ay L p) 7=2 then(match g.ls[ixM L (ab L p) g]? with
  | some y=>(⟨g.rs,g.ls.set (ixM L (ab L p) g) ⟨y.a,y.b,gE L (ab L (ab L p)),y.cb,y.w⟩⟩,ab L (ab L (ab L p)))
  | none=>(g,ab L p))
 else if Mod (ay L p) 7=3 then(match g.ls[ixM L (ab L p) g]? with
  | some y=>(⟨g.rs,g.ls.set (ixM L (ab L p) g) ⟨y.a,y.b,y.ca,gE L (ab L (ab L p)),y.w⟩⟩,ab L (ab L (ab L p)))
  | none=>(g,ab L p))
 else if Mod (ay L p) 7=4 then(match g.ls[ixM L (ab L p) g]? with
  | some y=>(⟨g.rs,g.ls.set (ixM L (ab L p) g) ⟨y.a,y.b,y.ca,y.cb,gE L (ab L (ab L p))⟩⟩,ab L (ab L (ab L p)))
  | none=>(g,ab L p))
 else if Mod (ay L p) 7=5 then(match g.ls[ixM L (ab L p) g]? with
  | some y=>(⟨g.rs,g.ls++[y]⟩,ab L (ab L p))
  | none=>(g,ab L p))
 else(⟨g.rs++pL 25,g.ls⟩,ab L p)
def qd(L:List Int)(p:Nat):Int:=dq [1,2,2,5] (ay L (ab L p))
def nm(L:List Int)(p:Nat)(most:Int):List Lnk×Nat:=ouM L (qd L p) ((rng L p 1 most)-1).toNat 2 [] (ab L (ab L p))
def w9(L:List Int)(p:Nat)(most:Int):Tpl:=⟨jc (rng L p 1 most).toNat,aW (nm L p most).1 []⟩
def la(L:List Int)(p:Nat)(most n:Int):Tpl×Nat:=
 if 0<n∧fV L (nm L p most).2 n=true then Dz L (ab L (nm L p most).2) (w9 L p most)else(w9 L p most,if 0<n then ab L (nm L p most).2 else(nm L p most).2)
theorem tH(out:List Lnk)(x:Lnk):fU out x≤out.length:=List.findIdx_le_length
theorem l8:∀(l out:List Lnk),(aW l out).length=l.length+out.length
 | [],out=>by simp[aW]
 | x::l,out=>by rw[aW,l8 l,mN _ _ _ (tH _ _),ab'];omega
theorem lh(k:Nat):(jc k).length=k:=by simp[jc]
theorem uZ(k:Nat):jc (k+1)=jc k++[⟨((k+1:Nat):Int),true⟩]:=by simp[jc,bV']
theorem vK(k:Nat):pL (k+1)=pL k++[⟨((50+k:Nat):Int),false⟩]:=by simp[pL,bV']
theorem y7(k:Nat):(pL k).length=k:=by simp[pL]
theorem tu{L:List Int}{p:Nat}{m:Int}(h:1≤m∧m≤1000):1≤rng L p 1 m∧rng L p 1 m≤m:=by
 have hm:=eK (x:=ay L p) h.1;unfold rng;rw[dc (n:=m-1) (by omega),dc (n:=m-1+1) (by omega),show m-1+1=m by omega,dc (by omega)];omega
def Aq(L:List Int)(p:Nat)(most:Int)(n:Int)(t0:Int×List Rtr):NF:=⟨[rR 0 0,rI 2 n,rR 6 1,rR 7 2,rI 8 (rng L p 1 most),rI 9 t0.1],[.box (.agg [.sl 1 (L.map AV.int) false,.int (ab L p)]),.box (.agg [.sl 0 [] true,.sl 0 [] true]),.box (.agg [.vec 3,.sl 0 [] true]),vB 2 Rtr.v t0.2 (λ_=>rfl)]⟩
def Ap(L:List Int)(p:Nat)(most:Int)(n:Int)(t0:Int×List Rtr)(t1:Int×Nat×List Lnk):NF:=⟨[rR 0 0,rI 2 n,rR 6 1,rR 7 2,rI 8 (rng L p 1 most),rI 10 (dq [1,2,2,5] (ay L (ab L p))),rI 11 t1.1],[.box (.agg [.sl 1 (L.map AV.int) false,.int t1.2.1]),.box (.agg [.sl 0 [] true,.sl 0 [] true]),.box (.agg [.vec 3,.vec 4]),vB 2 Rtr.v t0.2 (λ_=>rfl),vB 5 Lnk.v t1.2.2 (λ_=>rfl)]⟩
def Ao(L:List Int)(p:Nat)(most:Int)(n:Int)(t0:Int×List Rtr)(t1:Int×Nat×List Lnk)(t2:Int×List Lnk×Nat):NF:=⟨[rR 0 0,rI 2 n,rR 6 1,rR 7 2,rI 8 (rng L p 1 most),rI 10 (dq [1,2,2,5] (ay L (ab L p))),rI 11 t1.1,rI 12 (rng L t1.2.1 1 (W (t1.1-1))),rB 13 (fV L (ab L t1.2.1) 9),rI 14 t2.1],[.box (.agg [.sl 1 (L.map AV.int) false,.int t2.2.2]),.box (.agg [.sl 0 [] true,.sl 0 [] true]),.box (.agg [.vec 3,.vec 4]),vB 2 Rtr.v t0.2 (λ_=>rfl),vB 5 Lnk.v t2.2.1 (λ_=>rfl)]⟩
def Al(L:List Int)(p:Nat)(most:Int)(n:Int)(t0:Int×List Rtr)(t1:Int×Nat×List Lnk)(t2:Int×List Lnk×Nat)(t3:Bool×Nat):NF:=⟨[rR 0 0,rI 2 n,rR 6 1,rR 7 2,rI 8 (rng L p 1 most),rI 10 (dq [1,2,2,5] (ay L (ab L p))),rI 11 t1.1,rI 12 (rng L t1.2.1 1 (W (t1.1-1))),rB 13 (fV L (ab L t1.2.1) 9),rI 14 t2.1,rB 60 t3.1],[.box (.agg [.sl 1 (L.map AV.int) false,.int t3.2]),.box (.agg [.sl 0 [] true,.sl 0 [] true]),.box (.agg [.vec 3,.vec 4]),vB 2 Rtr.v t0.2 (λ_=>rfl),vB 5 Lnk.v t2.2.1 (λ_=>rfl)]⟩
def Ak(L:List Int)(t0:Int×List Rtr)(t1:Int×Nat×List Lnk)(t4:Bool×Nat):NF:=⟨[rR 0 0,rR 6 1,rR 7 2,rB 87 t4.1],[.box (.agg [.sl 1 (L.map AV.int) false,.int t4.2]),.box (.agg [.sl 0 [] true,.sl 0 [] true]),.box (.agg [.vec 3,.vec 4]),vB 2 Rtr.v t0.2 (λ_=>rfl),vB 5 Lnk.v (aW t1.2.2 []) (λ_=>rfl)]⟩
def Aj(L:List Int)(t1:Int×Nat×List Lnk)(t4:Bool×Nat)(t5:Int×List Rtr):NF:=⟨[rR 6 1,rR 7 2,rI 15 t5.1],[.box (.agg [.sl 1 (L.map AV.int) false,.int (ab L t4.2)]),.box (.agg [.sl 0 [] true,.sl 0 [] true]),.box (.agg [.vec 3,.vec 4]),vB 2 Rtr.v t5.2 (λ_=>rfl),vB 5 Lnk.v (aW t1.2.2 []) (λ_=>rfl)]⟩
@[reducible] def w8:Nat→Type
 | 0=>Int×List Rtr
 | 1=>Int×Nat×List Lnk
 | 2=>Int×List Lnk×Nat
 | 3=>Bool×Nat
 | 4=>Bool×Nat
 | 5=>Int×List Rtr
 | _=>Unit
def qE(r:Tap×Tpl):AV:=.agg [.vec 1,.vec 2]
def qF(r:Tap×Tpl):List (Option Blk):=[some (.box (Tap.v r.1)),some (.vec 2 (r.2.rs.map Rtr.v)),some (.vec 5 (r.2.ls.map Lnk.v))]
def w7(L:List Int)(p:Nat)(most:Int)(n:Int)(I0:(Int×List Rtr)→Prop)(m0:(Int×List Rtr)→Nat)(I1:Int×List Rtr→(Int×Nat×List Lnk)→Prop)(m1:Int×List Rtr→(Int×Nat×List Lnk)→Nat)(I2:Int×List Rtr→Int×Nat×List Lnk→(Int×List Lnk×Nat)→Prop)(m2:Int×List Rtr→Int×Nat×List Lnk→(Int×List Lnk×Nat)→Nat)(I3:Int×List Rtr→Int×Nat×List Lnk→Int×List Lnk×Nat→(Bool×Nat)→Prop)(I4:Int×List Rtr→Int×Nat×List Lnk→(Bool×Nat)→Prop)(I5:Int×List Rtr→Int×Nat×List Lnk→Bool×Nat→(Int×List Rtr)→Prop)(m5:Int×List Rtr→Int×Nat×List Lnk→Bool×Nat→(Int×List Rtr)→Nat):Ax Try.prog w8 (Tap×Tpl):=
 (.callH [0] (eN L p 1 most) 65
(.cmdL (.nilB 17 0 2) (.loop 0 (Aq L p most n) I0 m0 (1,[]) [0,1,17,113] λ(t0:Int×List Rtr) b0 =>
(.br 52 (decide (t0.1≤(rng L p 1 most))) (.apX 132 Rtr.v t0.2 [(⟨t0.1,true⟩:Rtr)] (t0.2.length+1)
(.bk 0 b0 (W (t0.1+1),t0.2++[(⟨t0.1,true⟩:Rtr)]) [0,1,2,132]))
(.req 84 ([1,2,2,5]≠[]) λh1 =>
(.callH [0] (rk L (ab L p) [1,2,2,5] h1) 84
(.cmdL (.nilB 2 1 5) (.loop 1 (Ap L p most n t0) (I1 t0) (m1 t0) (2,ab L (ab L p),[]) [0,1,2,3,132] λ(t1:Int×Nat×List Lnk) b1 =>
(.br 53 (decide (t1.1≤(rng L p 1 most))) (.callH [0] (eN L t1.2.1 1 (W (t1.1-1))) 101
(.callH [0] (l9 L (ab L t1.2.1) 9) 149
(.loop 2 (Ao L p most n t0 t1) (I2 t0 t1) (m2 t0 t1) (1,t1.2.2,ab L (ab L t1.2.1)) [0,1,2,3,4] λ(t2:Int×List Lnk×Nat) b2 =>
(.br 53 (decide (t2.1<t1.1)) (.pass (.join 3 (Al L p most n t0 t1 t2) (λ(t3:Bool×Nat)=>I3 t0 t1 t2 t3) (λb3=>(.br 117 (t2.1==(rng L t1.2.1 1 (W (t1.1-1)))) (.br 181 (!(fV L (ab L t1.2.1) 9)) (.bk 3 b3 (true,t2.2.2) [0,1,2,3,4])
(.callH [0] (l9 L t2.2.2 3) 197
(.bk 3 b3 (fV L t2.2.2 3,ab L t2.2.2) [0,1,2,3,4])))
(.callH [0] (l9 L t2.2.2 3) 197
(.bk 3 b3 (fV L t2.2.2 3,ab L t2.2.2) [0,1,2,3,4])))) λ(t3:Bool×Nat) =>
(.br 5 t3.1 (.callH [0] (eN L t3.2 1 (dq [1,2,2,5] (ay L (ab L p)))) 101
(.callH [0] (eN L (ab L t3.2) 1 (dq [1,2,2,5] (ay L (ab L p)))) 149
(.callH [0] (cg L (ab L (ab L t3.2)) 4) 181
(.apX 229 Lnk.v t2.2.1 [(⟨t2.1,t1.1,rng L t3.2 1 (dq [1,2,2,5] (ay L (ab L p))),rng L (ab L t3.2) 1 (dq [1,2,2,5] (ay L (ab L p))),Mod (ay L (ab L (ab L t3.2))) 4⟩:Lnk)] (t2.2.1.length+1)
(.bk 2 b2 (W (t2.1+1),t2.2.1++[(⟨t2.1,t1.1,rng L t3.2 1 (dq [1,2,2,5] (ay L (ab L p))),rng L (ab L t3.2) 1 (dq [1,2,2,5] (ay L (ab L p))),Mod (ay L (ab L (ab L t3.2))) 4⟩:Lnk)],ab L (ab L (ab L t3.2))) [0,1,2,3,229])))))
(.bk 2 b2 (W (t2.1+1),t2.2.1,t3.2) [0,1,2,3,4]))))
(.bk 1 b1 (W (t1.1+1),t2.2.2,t2.2.1) [0,1,2,3,4])))))
(.say (Rf (t1.2.2.map Lnk.v)) (.cmd (.frzE 4 (t1.2.2.map Lnk.v) (am (λ_=>rfl) t1.2.2)) (.req 85 (t1.2.2.length≤1000) λh2 =>
(.callH [] (DE t1.2.2 h2) 85
(.pass (.join 4 (Ak L t0 t1) (λ(t4:Bool×Nat)=>I4 t0 t1 t4) (λb4=>(.br 181 (decide (0<n)) (.callH [0] (l9 L t1.2.1 n) 213
(.bk 4 b4 (fV L t1.2.1 n,ab L t1.2.1) [0,1,2,3,85]))
(.bk 4 b4 (false,t1.2.1) [0,1,2,3,85]))) λ(t4:Bool×Nat) =>
(.br 5 t4.1 (.callH [0] (cg L t4.2 7) 21
(.br 69 ((Mod (ay L t4.2) 7)==0) (.req 133 ([0,1,99,100,-1]≠[]) λh3 =>
(.callH [0] (rk L (ab L t4.2) [0,1,99,100,-1] h3) 133
(.apX 181 Rtr.v t0.2 [(⟨dq [0,1,99,100,-1] (ay L (ab L t4.2)),false⟩:Rtr)] (t0.2.length+1)
(.retH ((⟨L,ab L (ab L t4.2)⟩:Tap),(⟨t0.2++[(⟨dq [0,1,99,100,-1] (ay L (ab L t4.2)),false⟩:Rtr)],aW t1.2.2 []⟩:Tpl)) ⟨[rR 6 3],[.box (.agg [.sl 1 (L.map AV.int) false,.int (((ab L (ab L t4.2)):Nat):Int)]),vB 2 Rtr.v (t0.2++[(⟨dq [0,1,99,100,-1] (ay L (ab L t4.2)),false⟩:Rtr)]) (λ_=>rfl),vB 5 Lnk.v (aW t1.2.2 []) (λ_=>rfl),.box (.agg [.vec 1,.vec 2])]⟩ [0,181,4,1]))))
(.br 101 ((Mod (ay L t4.2) 7)==1) (.callH [0] (cg L (ab L t4.2) 4) 149
(.callH [0] (cg L (ab L (ab L t4.2)) 4) 181
(.apX 229 Lnk.v (aW t1.2.2 []) [(⟨Mod (ay L (ab L t4.2)) 4,Mod (ay L (ab L (ab L t4.2))) 4,1,1,0⟩:Lnk)] ((aW t1.2.2 []).length+1)
(.retH ((⟨L,ab L (ab L (ab L t4.2))⟩:Tap),(⟨t0.2,(aW t1.2.2 [])++[(⟨Mod (ay L (ab L t4.2)) 4,Mod (ay L (ab L (ab L t4.2))) 4,1,1,0⟩:Lnk)]⟩:Tpl)) ⟨[rR 6 3],[.box (.agg [.sl 1 (L.map AV.int) false,.int (((ab L (ab L (ab L t4.2))):Nat):Int)]),vB 2 Rtr.v t0.2 (λ_=>rfl),vB 5 Lnk.v ((aW t1.2.2 [])++[(⟨Mod (ay L (ab L t4.2)) 4,Mod (ay L (ab L (ab L t4.2))) 4,1,1,0⟩:Lnk)]) (λ_=>rfl),.box (.agg [.vec 1,.vec 2])]⟩ [0,3,229,1]))))
(.br 133 ((Mod (ay L t4.2) 7)==2) (.br 197 (decide (0<(((aW t1.2.2 []).map Lnk.v).length:Int))) (.callH [0] (cg L (ab L t4.2) (((aW t1.2.2 []).map Lnk.v).length:Int)) 293
(.callH [0] (ni L (ab L (ab L t4.2))) 325
(.stJ 373 Lnk.v (aW t1.2.2 []) (Mod (ay L (ab L t4.2)) (((aW t1.2.2 []).map Lnk.v).length:Int)) (λy4=>(⟨y4.a,y4.b,gE L (ab L (ab L t4.2)),y4.cb,y4.w⟩:Lnk)) λy4 =>
(.retH ((⟨L,ab L (ab L (ab L t4.2))⟩:Tap),(⟨t0.2,(aW t1.2.2 []).set ((Mod (ay L (ab L t4.2)) (((aW t1.2.2 []).map Lnk.v).length:Int)).toNat) (⟨y4.a,y4.b,gE L (ab L (ab L t4.2)),y4.cb,y4.w⟩:Lnk)⟩:Tpl)) ⟨[rR 6 3],[.box (.agg [.sl 1 (L.map AV.int) false,.int (((ab L (ab L (ab L t4.2))):Nat):Int)]),vB 2 Rtr.v t0.2 (λ_=>rfl),vB 5 Lnk.v ((aW t1.2.2 []).set ((Mod (ay L (ab L t4.2)) (((aW t1.2.2 []).map Lnk.v).length:Int)).toNat) (⟨y4.a,y4.b,gE L (ab L (ab L t4.2)),y4.cb,y4.w⟩:Lnk)) (λ_=>rfl),.box (.agg [.vec 1,.vec 2])]⟩ [0,3,4,1]))))
(.retH ((⟨L,ab L t4.2⟩:Tap),(⟨t0.2,aW t1.2.2 []⟩:Tpl)) ⟨[rR 6 3],[.box (.agg [.sl 1 (L.map AV.int) false,.int (ab L t4.2)]),vB 2 Rtr.v t0.2 (λ_=>rfl),vB 5 Lnk.v (aW t1.2.2 []) (λ_=>rfl),.box (.agg [.vec 1,.vec 2])]⟩ [0,3,4,1]))
(.br 165 ((Mod (ay L t4.2) 7)==3) (.br 229 (decide (0<(((aW t1.2.2 []).map Lnk.v).length:Int))) (.callH [0] (cg L (ab L t4.2) (((aW t1.2.2 []).map Lnk.v).length:Int)) 325
(.callH [0] (ni L (ab L (ab L t4.2))) 357
(.stJ 405 Lnk.v (aW t1.2.2 []) (Mod (ay L (ab L t4.2)) (((aW t1.2.2 []).map Lnk.v).length:Int)) (λy5=>(⟨y5.a,y5.b,y5.ca,gE L (ab L (ab L t4.2)),y5.w⟩:Lnk)) λy5 =>
(.retH ((⟨L,ab L (ab L (ab L t4.2))⟩:Tap),(⟨t0.2,(aW t1.2.2 []).set ((Mod (ay L (ab L t4.2)) (((aW t1.2.2 []).map Lnk.v).length:Int)).toNat) (⟨y5.a,y5.b,y5.ca,gE L (ab L (ab L t4.2)),y5.w⟩:Lnk)⟩:Tpl)) ⟨[rR 6 3],[.box (.agg [.sl 1 (L.map AV.int) false,.int (((ab L (ab L (ab L t4.2))):Nat):Int)]),vB 2 Rtr.v t0.2 (λ_=>rfl),vB 5 Lnk.v ((aW t1.2.2 []).set ((Mod (ay L (ab L t4.2)) (((aW t1.2.2 []).map Lnk.v).length:Int)).toNat) (⟨y5.a,y5.b,y5.ca,gE L (ab L (ab L t4.2)),y5.w⟩:Lnk)) (λ_=>rfl),.box (.agg [.vec 1,.vec 2])]⟩ [0,3,4,1]))))
(.retH ((⟨L,ab L t4.2⟩:Tap),(⟨t0.2,aW t1.2.2 []⟩:Tpl)) ⟨[rR 6 3],[.box (.agg [.sl 1 (L.map AV.int) false,.int (ab L t4.2)]),vB 2 Rtr.v t0.2 (λ_=>rfl),vB 5 Lnk.v (aW t1.2.2 []) (λ_=>rfl),.box (.agg [.vec 1,.vec 2])]⟩ [0,3,4,1]))
(.br 197 ((Mod (ay L t4.2) 7)==4) (.br 261 (decide (0<(((aW t1.2.2 []).map Lnk.v).length:Int))) (.callH [0] (cg L (ab L t4.2) (((aW t1.2.2 []).map Lnk.v).length:Int)) 357
(.callH [0] (ni L (ab L (ab L t4.2))) 389
(.stJ 437 Lnk.v (aW t1.2.2 []) (Mod (ay L (ab L t4.2)) (((aW t1.2.2 []).map Lnk.v).length:Int)) (λy6=>(⟨y6.a,y6.b,y6.ca,y6.cb,gE L (ab L (ab L t4.2))⟩:Lnk)) λy6 =>
(.retH ((⟨L,ab L (ab L (ab L t4.2))⟩:Tap),(⟨t0.2,(aW t1.2.2 []).set ((Mod (ay L (ab L t4.2)) (((aW t1.2.2 []).map Lnk.v).length:Int)).toNat) (⟨y6.a,y6.b,y6.ca,y6.cb,gE L (ab L (ab L t4.2))⟩:Lnk)⟩:Tpl)) ⟨[rR 6 3],[.box (.agg [.sl 1 (L.map AV.int) false,.int (((ab L (ab L (ab L t4.2))):Nat):Int)]),vB 2 Rtr.v t0.2 (λ_=>rfl),vB 5 Lnk.v ((aW t1.2.2 []).set ((Mod (ay L (ab L t4.2)) (((aW t1.2.2 []).map Lnk.v).length:Int)).toNat) (⟨y6.a,y6.b,y6.ca,y6.cb,gE L (ab L (ab L t4.2))⟩:Lnk)) (λ_=>rfl),.box (.agg [.vec 1,.vec 2])]⟩ [0,3,4,1]))))
(.retH ((⟨L,ab L t4.2⟩:Tap),(⟨t0.2,aW t1.2.2 []⟩:Tpl)) ⟨[rR 6 3],[.box (.agg [.sl 1 (L.map AV.int) false,.int (ab L t4.2)]),vB 2 Rtr.v t0.2 (λ_=>rfl),vB 5 Lnk.v (aW t1.2.2 []) (λ_=>rfl),.box (.agg [.vec 1,.vec 2])]⟩ [0,3,4,1]))
(.br 229 ((Mod (ay L t4.2) 7)==5) (.br 293 (decide (0<(((aW t1.2.2 []).map Lnk.v).length:Int))) (.callH [0] (cg L (ab L t4.2) (((aW t1.2.2 []).map Lnk.v).length:Int)) 421
(.elJ 453 Lnk.v (aW t1.2.2 []) (Mod (ay L (ab L t4.2)) (((aW t1.2.2 []).map Lnk.v).length:Int)) λx7 =>
(.apX 485 Lnk.v (aW t1.2.2 []) [x7] ((aW t1.2.2 []).length+1)
(.retH ((⟨L,ab L (ab L t4.2)⟩:Tap),(⟨t0.2,(aW t1.2.2 [])++[x7]⟩:Tpl)) ⟨[rR 6 3],[.box (.agg [.sl 1 (L.map AV.int) false,.int (((ab L (ab L t4.2)):Nat):Int)]),vB 2 Rtr.v t0.2 (λ_=>rfl),vB 5 Lnk.v ((aW t1.2.2 [])++[x7]) (λ_=>rfl),.box (.agg [.vec 1,.vec 2])]⟩ [0,3,485,1]))))
(.retH ((⟨L,ab L t4.2⟩:Tap),(⟨t0.2,aW t1.2.2 []⟩:Tpl)) ⟨[rR 6 3],[.box (.agg [.sl 1 (L.map AV.int) false,.int (ab L t4.2)]),vB 2 Rtr.v t0.2 (λ_=>rfl),vB 5 Lnk.v (aW t1.2.2 []) (λ_=>rfl),.box (.agg [.vec 1,.vec 2])]⟩ [0,3,4,1]))
(.loop 5 (Aj L t1 t4) (I5 t0 t1 t4) (m5 t0 t1 t4) (50,t0.2) [0,1,2,3,4] λ(t5:Int×List Rtr) b5 =>
(.br 37 (decide (t5.1<75)) (.apX 117 Rtr.v t5.2 [(⟨t5.1,false⟩:Rtr)] (t5.2.length+1)
(.bk 5 b5 (W (t5.1+1),t5.2++[(⟨t5.1,false⟩:Rtr)]) [0,1,2,117,4]))
(.retH ((⟨L,ab L t4.2⟩:Tap),(⟨t5.2,aW t1.2.2 []⟩:Tpl)) ⟨[rR 6 3],[.box (.agg [.sl 1 (L.map AV.int) false,.int (ab L t4.2)]),vB 2 Rtr.v t5.2 (λ_=>rfl),vB 5 Lnk.v (aW t1.2.2 []) (λ_=>rfl),.box (.agg [.vec 1,.vec 2])]⟩ [0,3,4,1]))))))))))
(.retH ((⟨L,t4.2⟩:Tap),(⟨t0.2,aW t1.2.2 []⟩:Tpl)) ⟨[rR 6 3],[.box (.agg [.sl 1 (L.map AV.int) false,.int t4.2]),vB 2 Rtr.v t0.2 (λ_=>rfl),vB 5 Lnk.v (aW t1.2.2 []) (λ_=>rfl),.box (.agg [.vec 1,.vec 2])]⟩ [0,3,4,1])))))))))))))))))
theorem Dq(L:List Int)(p:Nat)(most n:Int)(h:1≤most∧most≤20):∃I0 m0 I1 m1 I2 m2 I3 I4 I5 m5,(w7 L p most n I0 m0 I1 m1 I2 m2 I3 I4 I5 m5).vc qE qF ((⟨L,(la L p most n).2⟩:Tap),(la L p most n).1):=by
 have hk:=tu (L:=L) (p:=p) (m:=most) (by omega)
 refine⟨λs=>∃j:Nat,s.1=((j+1:Nat):Int)∧j≤(rng L p 1 most).toNat∧s.2=jc j,λs=>(rng L p 1 most).toNat+1-s.1.toNat,
  λ_ s=>∃j:Nat,s.1=((j+2:Nat):Int)∧j≤(rng L p 1 most-1).toNat∧s.2.2.length≤20 * j∧ouM L (qd L p) ((rng L p 1 most-1).toNat-j) s.1 s.2.2 s.2.1=nm L p most,λ_ s=>(rng L p 1 most).toNat+1-s.1.toNat,
  λ_ s1 s=>∃j:Nat,s.1=((j+1:Nat):Int)∧j≤(s1.1-1).toNat∧s.2.1.length≤s1.2.2.length+j∧inM L (qd L p) s1.1 (rng L s1.2.1 1 (W (s1.1-1))) (fV L (ab L s1.2.1) 9) ((s1.1-1).toNat-j) s.1 s.2.1 s.2.2=inR L (qd L p) s1.1 s1.2.2 s1.2.1,λ_ s1 s=>s1.1.toNat-s.1.toNat,
  λ_ s1 s2 s=>s=cnM L s2.1 (rng L s1.2.1 1 (W (s1.1-1))) (fV L (ab L s1.2.1) 9) s2.2.2,
  λ_ s1 s=>s=(decide (0<n∧fV L s1.2.1 n=true),if 0<n then ab L s1.2.1 else s1.2.1),
  λ_ _ _ s=>∃j:Nat,s.1=((50+j:Nat):Int)∧j≤25∧s.2=jc (rng L p 1 most).toNat++pL j,λ_ _ _ s=>75-s.1.toNat,?_⟩
 dsimp only[w7,w8,Ax.vp,Ax.vc];simp only[vcU,rfU,B'];generalize hK:rng L p 1 most=K at hk ⊢;have hK0:w9 L p most=⟨jc K.toNat,aW (nm L p most).1 []⟩:=by unfold w9;rw[hK]
 refine⟨⟨0,rfl,aq' _,rfl⟩,?_⟩;rintro⟨i,rs⟩ ⟨j,hi,hj,hr⟩;simp only at hi hr ⊢;subst hi;subst hr;rw[lh];refine⟨λc=>⟨by omega,⟨j+1,by rw[dc (by omega)];omega,by omega,(uZ j).symm⟩,by rw[dc (by omega)];omega⟩,λc=>⟨by simp,?_⟩⟩;obtain rfl:j=K.toNat:=by omega
 refine⟨⟨0,rfl,aq' _,by simp,by rw[nm,hK];rfl⟩,?_⟩;rintro⟨b,q,ls⟩ ⟨jb,hb,hjb,hlb,hob⟩;simp only at hb hlb hob ⊢
 refine⟨λc1=>?_,λc1=>?_⟩
 ·refine⟨⟨0,rfl,aq' _,by simp,by rw[Nat.sub_zero];rfl⟩,?_⟩;rintro⟨a,l2,p2⟩ ⟨ja,ha,hja,hla,hoa⟩;simp only at ha hla hoa ⊢
  refine⟨λc2=>⟨⟨λe=>⟨λe2=>?_,λe2=>?_⟩,λe=>?_⟩,?_⟩,λc2=>?_⟩
  ·rw[cnM,F' ⟨e,by simpa using e2⟩]
  ·rw[cnM,E' (λq=>by rw[q.2]at e2;cases e2)]
  ·rw[cnM,E' (λq=>by rw[q.1]at e;cases e)]
  ·rintro _ rfl;have hst:(b-1).toNat-ja=((b-1).toNat-(ja+1))+1:=by omega
   rw[hst,inM]at hoa;have hw:W (a+1)=((ja+1+1:Nat):Int):=by rw[dc (by omega)];omega
   refine⟨λe=>?_,λe=>?_⟩
   ·rw[F' e]at hoa;refine⟨by omega,⟨ja+1,hw,by omega,by simp;omega,?_⟩,by rw[hw];omega⟩;rw[hw,show((ja+1+1:Nat):Int)=a+1 by omega];exact hoa
   ·rw[E' (by rw[e];simp)]at hoa;refine⟨⟨ja+1,hw,by omega,by omega,?_⟩,by rw[hw];omega⟩;rw[hw,show((ja+1+1:Nat):Int)=a+1 by omega];exact hoa
  ·have e1:(b-1).toNat-ja=0:=by omega
   rw[e1,inM]at hoa;have e2:(K-1).toNat-jb=((K-1).toNat-(jb+1))+1:=by omega
   rw[e2,ouM,←hoa]at hob;have hw:W (b+1)=((jb+1+2:Nat):Int):=by rw[dc (by omega)];omega
   refine⟨⟨jb+1,hw,by omega,by omega,?_⟩,by rw[hw];omega⟩;rw[hw,show((jb+1+2:Nat):Int)=b+1 by omega];exact hob
 ·have e1:(K-1).toNat-jb=0:=by omega
  rw[e1,ouM]at hob;have hT:la L p most n=if 0<n∧fV L q n=true then Dz L (ab L q) ⟨jc K.toNat,aW ls []⟩else(⟨jc K.toNat,aW ls []⟩,if 0<n then ab L q else q):=by
   unfold la;rw[hK0,←hob]
  have hol:(aW ls []).length≤400:=by rw[l8];simp;omega
  generalize aW ls []=ol at hT hol ⊢
  refine⟨by omega,⟨λc2=>?_,λc2=>?_⟩,?_⟩
  ·rw[F' c2];refine Prod.ext ?_ rfl;rw[aR'];simp[c2]
  ·rw[E' c2];refine Prod.ext ?_ rfl;rw[aR'];simp[c2]
  rintro _ rfl;simp only;refine⟨λe=>?_,λe=>by rw[hT,E' (ag' e)]⟩;have e:=H' e;rw[hT,F' e,F' e.1];generalize ab L q=q1;have hix:∀{m:Nat},0<(m:Int)→(bif decide (0≤Mod (ay L (ab L q1)) m)then decide (Mod (ay L (ab L q1)) m<m)else false)=true∧(Mod (ay L (ab L q1)) m).toNat<m:=λ{m} hm=>by
   have:=eK (x:=ay L (ab L q1)) (show 1≤(m:Int) by omega);exact⟨xo this.1 this.2,by omega⟩
  have hno:¬0<(ol.length:Int)→∀i:Nat,ol[i]?=none:=λh i=>X' (by omega);unfold Dz ixM;simp only
  refine⟨λs0=>?_,λs0=>⟨λs1=>?_,λs1=>⟨λs2=>?_,λs2=>⟨λs3=>?_,λs3=>⟨λs4=>?_,λs4=>⟨λs5=>?_,λs5=>?_⟩⟩⟩⟩⟩⟩
  ·rw[F' (eq_of_beq s0)];exact⟨by simp,by omega,rfl⟩
  all_goals
   have s0:¬Mod (ay L q1) 7=0:=by simpa using s0
   rw[E' s0]
  ·rw[F' (eq_of_beq s1)];exact⟨by omega,rfl⟩
  all_goals
   have s1:¬Mod (ay L q1) 7=1:=by simpa using s1
   rw[E' s1]
  ·rw[F' (eq_of_beq s2)];exact⟨λh=>⟨(hix h).1,(hix h).2,λy hy=>by rw[hy]⟩,λh=>by rw[hno h]⟩
  all_goals
   have s2:¬Mod (ay L q1) 7=2:=by simpa using s2
   rw[E' s2]
  ·rw[F' (eq_of_beq s3)];exact⟨λh=>⟨(hix h).1,(hix h).2,λy hy=>by rw[hy]⟩,λh=>by rw[hno h]⟩
  all_goals
   have s3:¬Mod (ay L q1) 7=3:=by simpa using s3
   rw[E' s3]
  ·rw[F' (eq_of_beq s4)];exact⟨λh=>⟨(hix h).1,(hix h).2,λy hy=>by rw[hy]⟩,λh=>by rw[hno h]⟩
  all_goals
   have s4:¬Mod (ay L q1) 7=4:=by simpa using s4
   rw[E' s4]
  ·rw[F' (eq_of_beq s5)];exact⟨λh=>⟨(hix h).1,(hix h).2,λy hy=>by rw[hy];exact⟨by omega,rfl⟩⟩,λh=>by rw[hno h]⟩
  have s5:¬Mod (ay L q1) 7=5:=by simpa using s5
  rw[E' s5];refine⟨⟨0,rfl,by omega,by simp[pL]⟩,?_⟩;rintro⟨i,rs⟩ ⟨j,hi,hj,hr⟩;simp only at hi hr ⊢;subst hi;subst hr;refine⟨λf=>⟨by rw[List.length_append,lh,y7];omega,⟨j+1,by rw[dc (by omega)];omega,by omega,by rw[vK,aS']⟩,by rw[dc (by omega)];omega⟩,λf=>?_⟩;obtain rfl:j=25:=by omega
  rfl
def Dr(L:List Int)(p:Nat)(most:Int)(n:Int)(h:1≤most∧most≤20):HC Try.prog:=hcO 5 [.k,.k,.k] [.ref 0 0,.int most,.int n] [.box (.agg [.sl 1 (L.map AV.int) false,.int p])] .k qE qF ((⟨L,(la L p most n).2⟩:Tap),(la L p most n).1) (λ_ _=>let ⟨I0,m0,I1,m1,I2,m2,I3,I4,I5,m5,h⟩:=Dq L p most n h;⟨_,h,by kernel_rfl⟩) (by kernel_rfl) (by simp[hcB,dM,AV.belB,allB,fW,fE,qE,qF,Tap.v,am (v:=AV.int) (λ_=>rfl),am (v:=Lnk.v) (λ_=>rfl),am (v:=Rtr.v) (λ_=>rfl)])
theorem fK{k n:Nat}{res:List AR}{r:AV}{h':List (Option Blk)}{s s1:S3}(hw:ap k n s s1)(h:fin k n res r h' .ret s1):fin k n res r h' .ret s:=by
 obtain⟨s',g1,g2⟩:=h;exact⟨s',hw.trans g1,g2⟩
theorem fT{xs ys:List AV}(h:aH xs)(h':aH ys):aH (xs++ys):=by
 rw[ip]at *
 intro x hx
 rcases ac'.mp hx with hx|hx
 ·exact h x hx
 ·exact h' x hx
theorem lm{xs:List AV}(h:aH xs)(n:Nat):aH (xs.take n):=by
 rw[ip]at *;exact λx hx=>h x (Z' hx)
theorem lp{xs:List AV}(h:aH xs)(n:Nat):aH (xs.drop n):=by
 rw[ip]at *;exact λx hx=>h x (ay' hx)
theorem dA{es:List AV}{x:AV}(h:aH es)(hx:x.pure)(i:Nat):aH (bE es i x):=fT (fT (lm h i) ⟨hx,trivial⟩) (lp h i)
theorem dw{k m:Nat}{es:List AV}{π:Nat→Nat}(h:aH es):(Blk.vec k es).ren π=.vec k es∧(Blk.vec k es).bel m:=⟨by rw[Blk.ren,aK _ h],aG h⟩
theorem vx{α β:Type}(f:α→β)(l:List α)(i:Nat)(x:α):bE (l.map f) i (f x)=(bE l i x).map f:=by
 simp[bE]
def zr:AF:=
 ⟨95,3,[.tmp 6],
 .seq (.reg [⟨(some 6),.move (.c (.sl 0 [] true)),none⟩])
 (.seq (.reg [⟨(some 10),.move (.t 0),none⟩,⟨(some 11),.move (.t 1),none⟩,⟨(some 12),.slice 5 (.t 10) (some (.t 11)) none none,none⟩])
 (.seq (.reg [⟨(some 13),.move (.t 2),none⟩,⟨(some 14),.len (.t 13),none⟩,⟨(some 7),.move (.t 14),none⟩])
 (.seq (.seq (.reg [⟨(some 15),.move (.t 7),none⟩,⟨(some 16),.bin .eql (.t 15) (.c (.val (.int .i64 0))),none⟩])
 (.cond (.t 16) (.seq (.reg [⟨(some 17),.move (.t 0),none⟩,⟨(some 6),.move (.t 17),none⟩])
 (.ret)) (.skip)))
 (.seq (.reg [⟨(some 18),.move (.t 0),none⟩,⟨(some 19),.len (.t 18),none⟩,⟨(some 8),.move (.t 19),none⟩])
 (.seq (.seq (.reg [⟨(some 20),.move (.t 1),none⟩,⟨(some 21),.move (.t 8),none⟩,⟨(some 22),.bin .eql (.t 20) (.t 21),none⟩])
 (.cond (.t 22) (.seq (.reg [⟨(some 23),.move (.t 0),none⟩,⟨(some 24),.move (.t 2),none⟩,⟨(some 25),.append 5 40 (.t 23) (.t 24),none⟩,⟨(some 6),.move (.t 25),none⟩])
 (.ret)) (.skip)))
 (.seq (.seq (.reg [⟨(some 26),.move (.t 8),none⟩,⟨(some 27),.move (.t 7),none⟩,⟨(some 28),.bin .add (.t 26) (.t 27),none⟩,⟨(some 29),.move (.t 0),none⟩,⟨(some 30),.cap (.t 29),none⟩,⟨(some 31),.bin .gtr (.t 28) (.t 30),none⟩])
 (.cond (.t 31) (.seq (.reg [⟨(some 32),.move (.t 0),none⟩,⟨(some 33),.move (.t 1),none⟩,⟨(some 34),.slice 5 (.t 32) none (some (.t 33)) none,none⟩,⟨(some 35),.move (.t 8),none⟩,⟨(some 36),.move (.t 7),none⟩,⟨(some 37),.bin .add (.t 35) (.t 36),none⟩,⟨(some 38),.move (.t 1),none⟩,⟨(some 39),.bin .sub (.t 37) (.t 38),none⟩,⟨(some 40),.appendZ 5 40 ((.agg [(.val (.int .i64 0)),(.val (.int .i64 0)),(.val (.int .i64 0)),(.val (.int .i64 0)),(.val (.int .i64 0))])) (.t 34) (.t 39),none⟩,⟨(some 9),.move (.t 40),none⟩])
 (.seq (.reg [⟨(some 41),.move (.t 9),none⟩,⟨(some 42),.move (.t 1),none⟩,⟨(some 43),.slice 5 (.t 41) (some (.t 42)) none none,none⟩,⟨(some 44),.move (.t 2),none⟩,⟨(some 45),.copy 5 (.t 43) (.t 44),none⟩])
 (.seq (.dreg [⟨(some 46),.move (.t 9),none⟩,⟨(some 47),.move (.t 1),none⟩,⟨(some 48),.move (.t 7),none⟩,⟨(some 49),.bin .add (.t 47) (.t 48),none⟩,⟨(some 50),.slice 5 (.t 46) (some (.t 49)) none none,none⟩,⟨(some 51),.move (.t 0),none⟩,⟨(some 52),.move (.t 1),none⟩,⟨(some 53),.slice 5 (.t 51) (some (.t 52)) none none,none⟩,⟨(some 54),.copy 5 (.t 50) (.t 53),none⟩] [(4,7)])
 (.seq (.reg [⟨(some 55),.move (.t 9),none⟩,⟨(some 6),.move (.t 55),none⟩])
 (.ret))))) (.skip)))
 (.seq (.reg [⟨(some 56),.move (.t 0),none⟩,⟨(some 57),.move (.t 8),none⟩,⟨(some 58),.move (.t 7),none⟩,⟨(some 59),.bin .add (.t 57) (.t 58),none⟩,⟨(some 60),.slice 5 (.t 56) none (some (.t 59)) none,none⟩,⟨(some 0),.move (.t 60),none⟩])
 (.seq (.seq (.reg [⟨(some 61),.move (.t 2),none⟩,⟨(some 62),.move (.t 0),none⟩,⟨(some 63),.move (.t 1),none⟩,⟨(some 64),.move (.t 7),none⟩,⟨(some 65),.bin .add (.t 63) (.t 64),none⟩,⟨(some 66),.slice 5 (.t 62) (some (.t 65)) none none,none⟩,⟨(some 67),.call (.c (.func 60 [])) [(.t 61),(.t 66)],none⟩,⟨(some 68),.un .not (.t 67),none⟩])
 (.cond (.t 68) (.seq (.dreg [⟨(some 69),.move (.t 0),none⟩,⟨(some 70),.move (.t 1),none⟩,⟨(some 71),.move (.t 7),none⟩,⟨(some 72),.bin .add (.t 70) (.t 71),none⟩,⟨(some 73),.slice 5 (.t 69) (some (.t 72)) none none,none⟩,⟨(some 74),.move (.t 0),none⟩,⟨(some 75),.move (.t 1),none⟩,⟨(some 76),.slice 5 (.t 74) (some (.t 75)) none none,none⟩,⟨(some 77),.copy 5 (.t 73) (.t 76),none⟩] [(4,7)])
 (.seq (.reg [⟨(some 78),.move (.t 0),none⟩,⟨(some 79),.move (.t 1),none⟩,⟨(some 80),.slice 5 (.t 78) (some (.t 79)) none none,none⟩,⟨(some 81),.move (.t 2),none⟩,⟨(some 82),.copy 5 (.t 80) (.t 81),none⟩])
 (.seq (.reg [⟨(some 83),.move (.t 0),none⟩,⟨(some 6),.move (.t 83),none⟩])
 (.ret)))) (.skip)))
 (.seq (.reg [⟨(some 84),.move (.t 0),none⟩,⟨(some 85),.move (.t 8),none⟩,⟨(some 86),.slice 5 (.t 84) (some (.t 85)) none none,none⟩,⟨(some 87),.move (.t 2),none⟩,⟨(some 88),.copy 5 (.t 86) (.t 87),none⟩])
 (.seq (.reg [⟨(some 89),.move (.t 0),none⟩,⟨(some 90),.move (.t 1),none⟩,⟨(some 91),.slice 5 (.t 89) (some (.t 90)) none none,none⟩,⟨(some 92),.move (.t 7),none⟩,⟨(some 93),.call (.c (.func 61 [])) [(.t 91),(.t 92)],none⟩])
 (.seq (.reg [⟨(some 94),.move (.t 0),none⟩,⟨(some 6),.move (.t 94),none⟩])
 (.ret))))))))))))⟩
theorem uD:dL Try.prog Try.f43=some zr:=by kernel_rfl
theorem gP : (Try.f60.name == "runtime.NumGoroutine") = false ∧ Try.f60.body.isNone = true := ⟨by kernel_rfl, by kernel_rfl⟩
theorem l4:Extern.findNext Try.f60=none:=by kernel_rfl
theorem l5:Extern.find Try.f60=some (Extern.SlicesOverlaps.overlaps #[26,26] #[4]):=by kernel_rfl
theorem lz:sizeOf? Try.prog 52=some 5:=by kernel_rfl
theorem nD:Program.underlying Try.prog 26=some (.slice 52):=by kernel_rfl
theorem qq(es:List AV)(x:AV)(i cap:Nat)(hi:i≤es.length)(hx:x.solid=true)(h1:es.length≤cap)(h2:cap≤maxLen)(hs:es.length≤1000000)(hp:aH es∧x.pure) :
  aI Try.prog 43 [.vec 0,.int i,.vec 1] [.row 5 es es.length cap,.vec 5 [x]] (.vec 2) [none,none,some (.vec 5 (bE es i x))]:=by
 have hml:=aT;refine aI.walk Try.func43 uD (by simp[zr]) ?_;unfold zr;simp only[dI,ec,ab',ak'];refine AWP.seq' ?_;refine AWP.reg' λK hK=>?_
 try simp only[aj,seval]
 refine hK _ _ _ ?_;clear hK K;refine AWP.seq' ?_;refine AWP.reg' λK hK=>?_
 try simp only[aj,seval]
 repeat (refine f' (by omega) ?_)
 refine hK _ _ _ ?_;clear hK K;refine AWP.seq' ?_;refine AWP.reg' λK hK=>?_
 try simp only[aj,seval]
 refine hK _ _ _ ?_;clear hK K;refine AWP.seq' (AWP.seq' ?_);refine AWP.reg' λK hK=>?_
 try simp only[aj,seval]
 refine hK _ _ _ ?_;clear hK K;refine AWP.cond (b:=false) rfl (λh=>by cases h) (λ_=>?_);refine AWP.skip ?_;refine AWP.seq' ?_;refine AWP.reg' λK hK=>?_
 try simp only[aj,seval]
 refine hK _ _ _ ?_;clear hK K;refine AWP.seq' (AWP.seq' ?_);refine AWP.reg' λK hK=>?_
 try simp only[aj,seval]
 refine hK _ _ _ ?_;clear hK K
 refine AWP.cond (b:=((i:Int)==(es.length:Int))) rfl (λh=>?_) (λh=>?_)
 ·have h:i=es.length:=by have:=eq_of_beq h;omega
  refine AWP.seq' ?_;refine AWP.reg' λK hK=>?_
  try simp only[aj,seval,aV,dy]
  repeat (refine f' (by omega) ?_)
  refine hK _ _ _ ?_;clear hK K
  refine AWP.ret (fg [0,1,274] [(6,.vec 2)] rfl rfl ?_ ?_ rfl (by simp) ?_ (by simp))
  ·simp only[P',forall_eq];exact⟨rfl,show(2:Nat)<3 by omega⟩
  ·refine⟨⟨?_,?_⟩,trivial⟩
   ·rw[(dw (m:=0) (dA hp.1 hp.2 i)).1];show some (Blk.vec 5 (es++[x]))=_;rw[bE,h,List.take_length,List.drop_length,bd']
   ·exact(dw (π:=id) (dA hp.1 hp.2 i)).2
  ·intro b hb
   match b,hb with
   | 0,_=>rfl
   | 1,_=>rfl
 have h:¬i=es.length:=by intro e;subst e;simp at h
 refine AWP.skip ?_;refine AWP.seq' (AWP.seq' ?_);have w1:IntKind.i64.wrap ((es.length:Int)+1)=es.length+1:=kX (by omega);refine AWP.reg' λK hK=>?_
 try simp only[aj,seval,w1]
 refine hK _ _ _ ?_;clear hK K
 refine AWP.cond (b:=decide ((cap:Int)<(es.length:Int)+1)) rfl (λh3=>?_) (λh3=>?_)
 ·have h3:cap=es.length:=by have:=H' h3;omega
  refine AWP.seq' ?_;have w2:IntKind.i64.wrap ((es.length:Int)+1-i)=es.length+1-i:=kX (by omega);have hlt:¬((es.length:Int)<(i:Int)):=by omega
  refine AWP.reg' λK hK=>?_
  try simp only[aj,seval,w1,w2,ei,Int.toNat_natCast,hlt]
  repeat (refine f' (by omega) ?_)
  refine hK _ _ _ ?_;clear hK K;have hn:((es.length:Int)+1-i).toNat=es.length+1-i:=by omega
  rw[hn];generalize hL:es.take i++List.replicate (es.length+1-i) (AV.agg [AV.val (Value.int IntKind.i64 0),AV.val (Value.int IntKind.i64 0),AV.val (Value.int IntKind.i64 0),AV.val (Value.int IntKind.i64 0),AV.val (Value.int IntKind.i64 0)])=L;have hLl:L.length=es.length+1:=by rw[←hL];simp;omega
  refine AWP.seq' ?_;have hpos:0<es.length+1:=by omega
  have hsub:(((es.length+1:Nat):Int)-(i:Int)).toNat=es.length+1-i:=by omega
  have hmin:Nat.min 1 (es.length+1-i)=1:=bv' (by omega);refine AWP.reg' λK hK=>?_
  try simp only[aj,seval,hLl,gZ,jD,dy,Int.toNat_natCast,hpos,hsub,hmin]
  repeat (refine f' (by omega) ?_)
  refine hK _ _ _ ?_;clear hK K;have ht1:List.take 1 [x]=[x]:=rfl;have w3:IntKind.i64.wrap ((i:Int)+1)=i+1:=kX (by omega);generalize hM:over L i [x]=M;have hMl:M.length=es.length+1:=by rw[←hM,gQ (by omega),ch'];split<;>simp at *<;>omega
  refine AWP.seq' ?_;have ha:((es.length:Int)-(i:Int)).toNat=es.length-i:=by omega
  have hb:(((es.length+1:Nat):Int)-((i:Int)+1)).toNat=es.length-i:=by omega
  have hc:((i:Int)+1).toNat=i+1:=by omega
  have hd:Nat.min (es.length-i) (es.length-i)=es.length-i:=Nat.min_self _;have he:(es.drop i).take (es.length-i)=es.drop i:=ah' (by simp);have hf:(es.drop i).length=es.length-i:=bb' ..;refine AWP.dreg' λK hK=>?_
  try simp only[aj,seval,hMl,gZ,jD,dy,Int.toNat_natCast,hpos,w3,ha,hb,hc,hd,he,hf]
  repeat (refine f' (by omega) ?_)
  refine⟨by rfl,hK _ _ _ ?_⟩;clear hK K;refine AWP.seq' ?_;refine AWP.reg' λK hK=>?_
  try simp only[aj,seval]
  refine hK _ _ _ ?_;clear hK K;have hfin:over M (i+1) (es.drop i)=bE es i x:=by
   have hLi:L.take i=es.take i:=by
    rw[←hL,bI' (by simp;omega),List.take_take,Nat.min_self]
   have hMi:M.take (i+1)=es.take i++[x]:=by
    have e1:(es.take i++[x]).length=i+1:=by simp;omega
    rw[←hM,over,hLi,←e1];exact List.take_left
   have hMd:M.drop (i+1+(es.drop i).length)=[]:=List.drop_of_length_le (by rw[hMl,hf];omega);unfold over bE;rw[hMi,hMd,bd']
  refine AWP.ret (fg [0,1,466] [(6,.vec 2)] rfl rfl ?_ ?_ rfl (by simp) ?_ (by simp))
  ·simp only[P',forall_eq];exact⟨rfl,show(2:Nat)<3 by omega⟩
  ·refine⟨⟨?_,?_⟩,trivial⟩
   ·rw[(dw (m:=0) (dA hp.1 hp.2 i)).1,←hfin];rfl
   ·exact(dw (π:=id) (dA hp.1 hp.2 i)).2
  ·intro b hb
   match b,hb with
   | 0,_=>rfl
   | 1,_=>rfl
 have h3:es.length+1≤cap:=by have:=ag' h3;omega
 refine AWP.skip ?_;refine AWP.seq' ?_;have hgt:((es.length:Int)<(es.length:Int)+1):=by omega
 refine AWP.reg' λK hK=>?_
 try simp only[aj,seval,w1,hgt]
 repeat (refine f' (by omega) ?_)
 refine hK _ _ _ ?_;clear hK K;have w3:IntKind.i64.wrap ((i:Int)+1)=i+1:=kX (by omega);refine AWP.seq' (AWP.seq' ?_);have hn1:((es.length:Int)+1).toNat=es.length+1:=by omega
 refine AWP.reg' λK hK=>?_
 try simp only[aj,seval,w3,Int.toNat_natCast,hn1]
 repeat (refine f' (by omega) ?_)
 refine B3 rfl rfl (nY Try.func60 gP.1 gP.2 l4 l5 nD lz (by omega) rfl rfl (by omega) (by simp) (by omega)) ?_
 try simp only[aj,seval,w3]
 refine hK _ _ _ ?_;clear hK K;refine AWP.cond (b:=true) rfl (λ_=>?_) (λh=>by cases h);refine AWP.seq' ?_;have hb:(((es.length+1:Nat):Int)-((i:Int)+1)).toNat=es.length-i:=by omega
 have hc:((i:Int)+1).toNat=i+1:=by omega
 have hsub:(((es.length+1:Nat):Int)-(i:Int)).toNat=es.length+1-i:=by omega
 have hd:Nat.min (es.length+1-i) (es.length-i)=es.length-i:=Nat.min_eq_right (by omega);have he:(es.drop i).take (es.length+1-i)=es.drop i:=ah' (by simp;omega);have he2:(es.drop i).take (es.length-i)=es.drop i:=ah' (by simp);have hf:(es.drop i).length=es.length-i:=bb' ..;refine AWP.dreg' λK hK=>?_
 try simp only[aj,seval,w3,gZ,jD,dy,Int.toNat_natCast,hb,hc,hsub,hd,he,he2,hf]
 repeat (refine f' (by omega) ?_)
 refine⟨by rfl,hK _ _ _ ?_⟩;clear hK K;have hMl:(over es (i+1) (es.drop i)).length=es.length+1:=by simp[over];omega
 have hMt:(over es (i+1) (es.drop i)).take i=es.take i:=by
  unfold over;rw[aS',bI' (by simp;omega),List.take_take,bv' (by omega)]
 have hMd:(over es (i+1) (es.drop i)).drop (i+1)=es.drop i:=by
  unfold over;have e1:(es.take (i+1)).length=i+1:=by simp;omega
  have e2:es.drop (i+1+(es.drop i).length)=[]:=List.drop_of_length_le (by simp;omega);rw[e2,bd'];have e3:=List.drop_left (l₁:=es.take (i+1)) (l₂:=es.drop i);rw[e1]at e3;exact e3
 generalize hM:over es (i+1) (es.drop i)=M at *
 refine AWP.seq' ?_;have hsub:(((es.length+1:Nat):Int)-(i:Int)).toNat=es.length+1-i:=by omega
 have hmin:Nat.min 1 (es.length+1-i)=1:=bv' (by omega);have ht1:List.take 1 [x]=[x]:=rfl;refine AWP.reg' λK hK=>?_
 try simp only[aj,seval,hMl,gZ,jD,dy,Int.toNat_natCast,hsub,hmin]
 repeat (refine f' (by omega) ?_)
 refine hK _ _ _ ?_;clear hK K;refine AWP.seq' ?_;refine AWP.reg' λK hK=>?_
 try simp only[aj,seval]
 refine hK _ _ _ ?_;clear hK K;have hfin:over M i [x]=bE es i x:=by
  unfold over bE;rw[hMt,show i+[x].length=i+1 from rfl,hMd]
 have hfl:(bE es i x).length=es.length+1:=by unfold bE;simp;omega
 rw[hfin]
 refine AWP.ret (fK (ap.row (b:=402) (cap:=cap) (k:=5) (es:=bE es i x) (by rw[hfl];rfl)) (fg [0,1,402] [(6,.vec 2)] rfl rfl ?_ ?_ rfl (by simp) ?_ (by simp)))
 ·simp only[P',forall_eq];exact⟨rfl,show(2:Nat)<3 by omega⟩
 ·refine⟨⟨?_,?_⟩,trivial⟩
  ·rw[(dw (m:=0) (dA hp.1 hp.2 i)).1];rfl
  ·exact(dw (π:=id) (dA hp.1 hp.2 i)).2
 ·intro b hb
  match b,hb with
  | 0,_=>rfl
  | 1,_=>rfl
theorem qr(x:AV)(hx:x.solid=true)(hp:x.pure) :
  aI Try.prog 43 [.vec 0,.int 0,.vec 1] [.vec 5 [],.vec 5 [x]] (.vec 2) [none,none,some (.vec 5 [x])]:=by
 have hml:=aT;refine aI.walk Try.func43 uD (by simp[zr]) ?_;unfold zr;simp only[dI,ec,ab',ak'];refine AWP.seq' ?_;refine AWP.reg' λK hK=>?_
 try simp only[aj,seval]
 refine hK _ _ _ ?_;clear hK K;refine AWP.seq' ?_;refine AWP.reg' λK hK=>?_
 try simp only[aj,seval]
 refine hK _ _ _ ?_;clear hK K;refine AWP.seq' ?_;refine AWP.reg' λK hK=>?_
 try simp only[aj,seval]
 refine hK _ _ _ ?_;clear hK K;refine AWP.seq' (AWP.seq' ?_);refine AWP.reg' λK hK=>?_
 try simp only[aj,seval]
 refine hK _ _ _ ?_;clear hK K;refine AWP.cond (b:=false) rfl (λh=>by cases h) (λ_=>?_);refine AWP.skip ?_;refine AWP.seq' ?_;refine AWP.reg' λK hK=>?_
 try simp only[aj,seval]
 refine hK _ _ _ ?_;clear hK K;refine AWP.seq' (AWP.seq' ?_);refine AWP.reg' λK hK=>?_
 try simp only[aj,seval]
 refine hK _ _ _ ?_;clear hK K;refine AWP.cond (b:=true) rfl (λh=>?_) (λh=>by cases h);refine AWP.seq' ?_;refine AWP.reg' λK hK=>?_
 try simp only[aj,seval,aV,dy]
 repeat (refine f' (by omega) ?_)
 refine hK _ _ _ ?_;clear hK K
 refine AWP.ret (fg [0,1,274] [(6,.vec 2)] rfl rfl ?_ ?_ rfl (by simp) ?_ (by simp))
 ·simp only[P',forall_eq];exact⟨rfl,show(2:Nat)<3 by omega⟩
 ·have hp':aH [x]:=⟨hp,trivial⟩
  refine⟨⟨?_,?_⟩,trivial⟩
  ·rw[(dw (m:=0) hp').1];rfl
  ·exact(dw (π:=id) hp').2
 ·intro b hb
  match b,hb with
  | 0,_=>rfl
  | 1,_=>rfl
theorem oD(es:List AV)(x:AV)(i:Nat)(hi:i≤es.length)(hx:x.solid=true)(hs:es.length≤1000000)(hp:aH es∧x.pure) :
  aI Try.prog 43 [.vec 0,.int i,.vec 1] [.vec 5 es,.vec 5 [x]] (.vec 2) [none,none,some (.vec 5 (bE es i x))]:=by
 refine aI.of_row (λcap h1 h2=>qq es x i cap hi hx h1 h2 hs hp) (λh=>?_);subst h;have:i=0:=by simpa using hi
 subst this;exact qr x hx hp.2
theorem sT:gD Try.prog 43:=ga (by kernel_rfl)
def ER:AF:=
 ⟨33,3,[.tmp 6],
 .seq (.reg [⟨(some 6),.move (.c (.sl 0 [] true)),none⟩])
 (.seq (.reg [⟨(some 8),.move (.t 0),none⟩,⟨(some 9),.move (.t 1),none⟩,⟨(some 10),.move (.t 2),none⟩,⟨(some 11),.move (.t 0),none⟩,⟨(some 12),.len (.t 11),none⟩,⟨(some 13),.slice 5 (.t 8) (some (.t 9)) (some (.t 10)) (some (.t 12)),none⟩])
 (.seq (.seq (.reg [⟨(some 14),.move (.t 1),none⟩,⟨(some 15),.move (.t 2),none⟩,⟨(some 16),.bin .eql (.t 14) (.t 15),none⟩])
 (.cond (.t 16) (.seq (.reg [⟨(some 17),.move (.t 0),none⟩,⟨(some 6),.move (.t 17),none⟩])
 (.ret)) (.skip)))
 (.seq (.reg [⟨(some 18),.move (.t 0),none⟩,⟨(some 19),.len (.t 18),none⟩,⟨(some 7),.move (.t 19),none⟩])
 (.seq (.dreg [⟨(some 20),.move (.t 0),none⟩,⟨(some 21),.move (.t 1),none⟩,⟨(some 22),.slice 5 (.t 20) none (some (.t 21)) none,none⟩,⟨(some 23),.move (.t 0),none⟩,⟨(some 24),.move (.t 2),none⟩,⟨(some 25),.slice 5 (.t 23) (some (.t 24)) none none,none⟩,⟨(some 26),.append 5 40 (.t 22) (.t 25),none⟩,⟨(some 0),.move (.t 26),none⟩] [(2,5)])
 (.seq (.reg [⟨(some 27),.move (.t 0),none⟩,⟨(some 28),.move (.t 0),none⟩,⟨(some 29),.len (.t 28),none⟩,⟨(some 30),.move (.t 7),none⟩,⟨(some 31),.slice 5 (.t 27) (some (.t 29)) (some (.t 30)) none,none⟩,⟨none,.clear 5 ((.agg [(.val (.int .i64 0)),(.val (.int .i64 0)),(.val (.int .i64 0)),(.val (.int .i64 0)),(.val (.int .i64 0))])) (.t 31),none⟩])
 (.seq (.reg [⟨(some 32),.move (.t 0),none⟩,⟨(some 6),.move (.t 32),none⟩])
 (.ret)))))))⟩
theorem BY:dL Try.prog Try.f42=some ER:=by kernel_rfl
theorem sV:gD Try.prog 42:=ga (by kernel_rfl)
def eD{α:Type}(es:List α)(i:Nat):List α:=es.take i++es.drop (i+1)
theorem kj{es:List AV}(h:aH es)(i:Nat):aH (eD es i):=fT (lm h i) (lp h (i+1))
theorem oG(es:List AV)(i:Nat)(hi:i<es.length)(hs:es.length≤1000000)(hp:aH es) :
  aI Try.prog 42 [.vec 0,.int i,.int ((i+1:Nat):Int)] [.vec 5 es] (.vec 1) [none,some (.vec 5 (eD es i))]:=by
 refine aI.of_row (λcap h1 h2=>?_) (λh=>by subst h;simp at hi);have hml:=aT;refine aI.walk Try.func42 BY (by simp[ER]) ?_;unfold ER;simp only[dI,ec,ab',ak'];have e1:((i:Int)==((i+1:Nat):Int))=false:=by simp;omega
 repeat (first
  | refine AWP.seq' ?_
  | refine AWP.skip ?_
  | (refine AWP.reg' λK hK=>?_;simp only[aj,seval,e1];(repeat (refine f' (by omega) ?_));refine hK _ _ _ ?_;clear hK K))
 refine AWP.cond (b:=false) rfl (λh=>by cases h) (λh=>?_)
 repeat (first
  | refine AWP.seq' ?_
  | refine AWP.skip ?_
  | (refine AWP.reg' λK hK=>?_;simp only[aj,seval];(repeat (refine f' (by omega) ?_));refine hK _ _ _ ?_;clear hK K))
 have g1:((es.length:Int)-((i+1:Nat):Int)).toNat=es.length-(i+1):=by omega
 have g2:((i:Int)-0).toNat=i:=by omega
 have g3:(es.drop (i+1)).take (es.length-(i+1))=es.drop (i+1):=ah' (by simp);have g4:(es.drop (i+1)).length=es.length-(i+1):=bb' ..;have g5:i+(es.length-(i+1))=es.length-1:=by omega
 have g6:¬((es.length:Int)<(i:Int)):=by omega
 have g7:i+1+(es.length-(i+1))≤es.length:=by omega
 refine AWP.dreg' λK hK=>?_
 try simp only[aj,seval,aV,dy,g1,g2,g3,g4,g5,g6,g7]
 repeat (refine f' (by omega) ?_)
 refine⟨by rfl,hK _ _ _ ?_⟩;clear hK K;have hd:es.take i++es.drop (i+1)=eD es i:=rfl;have hdl:(eD es i).length=es.length-1:=by unfold eD;simp;omega
 refine AWP.seq' ?_;have g8:((es.length:Int)-((es.length-1:Nat):Int)).toNat=1:=by omega
 refine AWP.reg' λK hK=>?_
 try simp only[aj,seval,hd,hdl,g8,hU]
 repeat (refine f' (by omega) ?_)
 refine hK _ _ _ ?_;clear hK K
 repeat (first
  | refine AWP.seq' ?_
  | refine AWP.skip ?_
  | (refine AWP.reg' λK hK=>?_;simp only[aj,seval];(repeat (refine f' (by omega) ?_));refine hK _ _ _ ?_;clear hK K))
 refine AWP.ret (fK (ap.row (b:=305) (cap:=cap) (k:=5) (es:=eD es i) (by rw[hdl];rfl)) (fg [0,305] [(6,.vec 1)] rfl rfl ?_ ?_ rfl (by simp) ?_ (by simp)))
 ·simp only[P',forall_eq];exact⟨rfl,show(1:Nat)<2 by omega⟩
 ·refine⟨⟨?_,?_⟩,trivial⟩
  ·rw[(dw (m:=0) (kj hp i)).1];rfl
  ·exact(dw (π:=id) (kj hp i)).2
 ·intro b hb
  match b,hb with
  | 0,_=>rfl
theorem wb{α β:Type}(f:α→β)(l:List α)(i:Nat):eD (l.map f) i=(eD l i).map f:=by simp[eD]
def E7(l:List Lnk)(i j:Int)(hi:(0≤i∧i<l.length)∧j=i+1)(hl:l.length≤1000000):HC Try.prog:=
 ⟨42,[.k,.k,.k],[.vec 0,.int i,.int j],[.vec 5 (l.map Lnk.v)],.vec 1,[none,some (.vec 5 ((eD l i.toNat).map Lnk.v))],by
  have h:=oG (l.map Lnk.v) i.toNat (by rw[B'];omega) (by simpa using hl) (aw (am (λ_=>rfl) l))
  rw[wb]at h;have e1:((i.toNat:Nat):Int)=i:=by omega
  have e2:((i.toNat+1:Nat):Int)=j:=by omega
  rw[e1,e2]at h;exact h,sV,qt.of (by simp[hcB,dM,AV.belB,allB,fW,fE,am (v:=Lnk.v) (λ_=>rfl),bM,AV.pureB])⟩
def Ea(l:List Lnk)(x:Lnk)(i:Int)(hi:0≤i∧i≤l.length)(hl:l.length≤1000000):HC Try.prog:=
 ⟨43,[.k,.k,.k],[.vec 0,.int i,.vec 1],[.vec 5 (l.map Lnk.v),.vec 5 [x.v]],.vec 2,[none,none,some (.vec 5 ((bE l i.toNat x).map Lnk.v))],by
  have h:=oD (l.map Lnk.v) (Lnk.v x) i.toNat (by rw[B'];omega) rfl (by simpa using hl) ⟨aw (am (λ_=>rfl) l),AV.pureB_ok rfl⟩;rw[vx]at h;have e1:((i.toNat:Nat):Int)=i:=by omega
  rw[e1]at h;exact h,sT,qt.of (by have e:x.v.pureB=true:=rfl;simp[e,hcB,dM,AV.belB,allB,fW,fE,am (v:=Lnk.v) (λ_=>rfl),bM,AV.pureB])⟩
def sH(r:List Lnk):AV:=.vec 0
def sI(r:List Lnk):List (Option Blk):=[some (.vec 5 (r.map Lnk.v))]
def sG(s:List Lnk):Ax Try.prog noS ((List Lnk)):=
 (.allB (λb1=>((s.map Lnk.v)≠[]→b1=false)) λb1 =>
(.br 48 (b1 != false) (.cmdL (.nilT 2 5) (.retH [] ⟨[rV 2 0],[.vec 5 [] rfl]⟩ [64]))
(.apX 80 Lnk.v [] s (0+s.length)
(.retH s ⟨[rV 2 0],[vB 5 Lnk.v s (λ_=>rfl)]⟩ [80]))))
theorem EH(s:List Lnk)(h:s.length≤1000000):(sG s).vc sH sI s:=by
 dsimp only[sG,noS,Ax.vp,Ax.vc];simp only[vcU,rfU,B'];intro b hb;refine⟨λh1=>?_,λ_=>by first|omega|exact⟨by omega,trivial⟩|(trace_state;simpa using h)⟩;cases s with
 | nil=>rfl
 | cons x s=>simp at hb;simp[hb]at h1
def EI(s:List Lnk)(h:s.length≤1000000):HC Try.prog:=hcO 41 [(.s 5)] [.sl 5 (s.map Lnk.v) false] [] .k sH sI s (λ_ _=>⟨(sG s),EH s h,by kernel_rfl⟩) (by kernel_rfl) (by simp[hcB,dM,AV.belB,allB,fW,fE,sH,sI,am (v:=Lnk.v) (λ_=>rfl)])
def zh(r:List Rtr):AV:=.sl 2 (r.map Rtr.v) false
def sF(s:List Rtr):Ax Try.prog noS ((List Rtr)):=
 (.allB (λb1=>((s.map Rtr.v)≠[]→b1=false)) λb1 =>
(.br 48 (b1 != false) (.ret ([]))
(.apX 80 Rtr.v [] s (0+s.length)
(.fz 80 Rtr.v s (λ_=>rfl) (.ret (s))))))
theorem EF(s:List Rtr)(h:s.length≤1000000):(sF s).vp zh s:=by
 dsimp only[sF,noS,Ax.vp,Ax.vc];simp only[vcU,rfU,B'];intro b hb;refine⟨λh1=>?_,λ_=>by first|omega|exact⟨by omega,trivial⟩|(trace_state;simpa using h)⟩;cases s with
 | nil=>rfl
 | cons x s=>simp at hb;simp[hb]at h1
def EG(s:List Rtr)(h:s.length≤1000000):PC Try.prog:=pcO 40 [(.s 2)] [.sl 2 (s.map Rtr.v) false] (.s 2) zh s (λ_=>⟨(sF s),EF s h,by kernel_rfl⟩) rfl (by kernel_rfl)
def vF(t:Tpl)(r:Int):Rtr×Bool:=if kG t.rs r=true then(t.rs.getD (nB t.rs r) ⟨0,false⟩,true)else(⟨0,false⟩,false)
def yu(r:Rtr×Bool):AV:=.tup [Rtr.v r.1,.bool r.2]
def sd(t:Tpl)(router:Int):Ax Try.prog noS (Rtr×Bool):=
 (.req 96 (t.rs.length≤1000000) λh1 =>
(.callP (CY t.rs router h1)
(.br 224 (!(kG t.rs router)) (.ret ((⟨0,false⟩:Rtr),false))
(.elI 272 Rtr.v t.rs (nB t.rs router:Int) λx2 =>
(.ret (x2,true))))))
theorem Em(t:Tpl)(r:Int)(h:t.rs.length≤1000000):(sd t r).vp yu (vF t r):=by
 dsimp only[sd,noS,Ax.vp,Ax.vc];simp only[vcU,rfU,B'];unfold vF;refine⟨h,λc=>by rw[E' (by simpa using c)],λc=>?_⟩;have c:kG t.rs r=true:=by simpa using c
 have hp:nB t.rs r<t.rs.length:=by
  refine U' λq=>?_;unfold kG bsH at c;rw[X' (by unfold nB at q;omega)]at c;cases c
 refine⟨by omega,by omega,λx hx=>?_⟩;rw[Int.toNat_natCast]at hx;rw[F' c,I',hx];rfl
def En(t:Tpl)(router:Int)(h:t.rs.length≤1000000):PC Try.prog:=pcO 59 [(.a [(.s 2),(.s 5)]),.k] [Tpl.v t,.int router] .k yu (vF t router) (λ_=>⟨(sd t router),Em t router h,by kernel_rfl⟩) rfl (by kernel_rfl)
def yg(r:Bool):AV:=.bool r
def rX(t:Tpl)(router:Int):Ax Try.prog noS (Bool):=
 (.req 64 (t.rs.length≤1000000) λh1 =>
(.callP (En t router h1)
(.callP (qA t)
(.br 224 (gI t) (.ret ((vF t router).2))
(.ret (false))))))
theorem Ef(t:Tpl)(r:Int)(h:t.rs.length≤1000000):(rX t r).vp yg (hs5 t r):=by
 dsimp only[rX,noS,Ax.vp,Ax.vc];simp only[vcU,rfU,B']
 refine⟨h,λc=>?_,λc=>?_⟩
 ·have hc:aF t=0:=by unfold gI at c;exact eq_of_beq c
  have e:(vF t r).2=kG t.rs r:=by
   unfold vF;split
   ·rename_i q;rw[q]
   ·rename_i q;simpa using q
  rw[e,(lO (aA hc).asc r).1];unfold hs5 aJ;rw[hc];rfl
 ·unfold gI at c;unfold hs5;rw[c];rfl
def yh(t:Tpl)(router:Int)(h:t.rs.length≤1000000):PC Try.prog:=pcO 38 [(.a [(.s 2),(.s 5)]),.k] [Tpl.v t,.int router] .k yg (hs5 t router) (λ_=>⟨(rX t router),Ef t router h,by kernel_rfl⟩) rfl (by kernel_rfl)
structure Chg where
  a:Int
  b:Int
  ca:Int
  cb:Int
  deriving DecidableEq
def Chg.v(c:Chg):AV:=.agg [.int c.a,.int c.b,.int c.ca,.int c.cb]
structure Rnk where
  r:Int
  n:Int
  deriving DecidableEq
def Rnk.v(c:Rnk):AV:=.agg [.int c.r,.int c.n]
def eX(c:Chg):Bool:=c.ca==0 && c.cb==0
def bn(c:Chg):Lnk:=if c.b<c.a then⟨c.b,c.a,c.cb,c.ca,0⟩else⟨c.a,c.b,c.ca,c.cb,0⟩
def bJ(t:Tpl)(c:Chg):Tpl×Int:=
 if ¬aF t=0 then(⟨[],[]⟩,1)
 else if hs5 t c.a=false∨hs5 t c.b=false then(⟨[],[]⟩,4)
 else if c.a=c.b then(⟨[],[]⟩,8)
 else if eX c=false∧(gb c.ca=false∨gb c.cb=false)then(⟨[],[]⟩,2)
 else if eX c=true∧cL t.ls (bn c)=false then(⟨[],[]⟩,9)
 else if cL t.ls (bn c)=false∧t.ls.length=60 then(⟨[],[]⟩,3)
 else if eX c=true then(⟨t.rs,eD t.ls (ba t.ls (bn c))⟩,0)
 else if cL t.ls (bn c)=true then(⟨t.rs,t.ls.set (ba t.ls (bn c)) { bn c with w:=(t.ls.getD (ba t.ls (bn c)) ⟨0,0,0,0,0⟩).w }⟩,0)
 else(⟨t.rs,bE t.ls (ba t.ls (bn c)) (bn c)⟩,0)
theorem sM{α:Type}{lt:α→Bool}{l:List α}:∀{f i j:Nat},i≤j→bsI lt l f i j≤j
 | 0,i,j,h=>h
 | f+1,i,j,h=>by
  unfold bsI
  split
  ·split
   ·split
    ·exact sM (by omega)
    ·have:=@sM α lt l f i ((i+j) / 2) (by omega);omega
   ·exact h
  ·exact h
theorem AX(l:List Lnk)(y:Lnk):ba l y≤l.length:=sM (aq' _)
def zR(t:Tpl)(c:Chg):=okL [Tpl.v t,Chg.v c]
def C4(t:Tpl)(c:Chg)(t0:Lnk):NF:=⟨[rR 2 0,rR 3 1,rR 4 2,rR 6 3],[.box (Tpl.v t),.box (Chg.v c),.box (.agg [.sl 0 [] true,.sl 0 [] true]),.box (Lnk.v t0)]⟩
def C3(t:Tpl)(c:Chg)(t0:Lnk)(t1:Bool):NF:=⟨[rR 2 0,rR 3 1,rR 4 2,rR 6 3,rB 7 t1],[.box (Tpl.v t),.box (Chg.v c),.box (.agg [.sl 0 [] true,.sl 0 [] true]),.box (Lnk.v t0)]⟩
def C0(t:Tpl)(c:Chg)(t0:Lnk)(t1:Bool)(t2:Bool):NF:=⟨[rR 2 0,rR 3 1,rR 4 2,rR 6 3,rB 7 t1,rI 8 (ba t.ls t0:Int),rB 9 (cL t.ls t0),rB 53 t2],[.box (Tpl.v t),.box (Chg.v c),.box (.agg [.sl 0 [] true,.sl 0 [] true]),.box (Lnk.v t0)]⟩
def Cz(t:Tpl)(t0:Lnk)(t1:Bool)(t3:Bool):NF:=⟨[rR 2 0,rR 4 1,rR 6 2,rB 7 t1,rI 8 (ba t.ls t0:Int),rB 9 (cL t.ls t0),rB 74 t3],[.box (Tpl.v t),.box (.agg [.sl 0 [] true,.sl 0 [] true]),.box (Lnk.v t0)]⟩
def Cy(t:Tpl)(t0:Lnk)(t1:Bool)(t4:Bool):NF:=⟨[rR 2 0,rR 4 1,rR 6 2,rB 7 t1,rI 8 (ba t.ls t0:Int),rB 9 (cL t.ls t0),rB 90 t4],[.box (Tpl.v t),.box (.agg [.sl 0 [] true,.sl 0 [] true]),.box (Lnk.v t0)]⟩
def Cx(t:Tpl)(t0:Lnk)(t1:Bool)(t5:Bool):NF:=⟨[rR 2 0,rR 4 1,rR 6 2,rB 7 t1,rI 8 (ba t.ls t0:Int),rB 9 (cL t.ls t0),rB 97 t5],[.box (Tpl.v t),.box (.agg [.sl 0 [] true,.sl 0 [] true]),.box (Lnk.v t0)]⟩
@[reducible] def zP:Nat→Type
 | 0=>Lnk
 | 1=>Bool
 | 2=>Bool
 | 3=>Bool
 | 4=>Bool
 | 5=>Bool
 | _=>Unit
def zQ(r:Tpl×Int):AV:=.tup [Tpl.v r.1,.int r.2]
def zO(t:Tpl)(c:Chg)(I0:Lnk→Prop)(I1:Lnk→Bool→Prop)(I2:Lnk→Bool→Bool→Prop)(I3:Lnk→Bool→Bool→Bool→Prop)(I4:Lnk→Bool→Bool→Bool→Bool→Prop)(I5:Lnk→Bool→Bool→Bool→Bool→Bool→Prop):Ax Try.prog zP (Tpl×Int):=
 (.callP (qA t)
(.br 112 (!(gI t)) (.ret ((⟨[],[]⟩:Tpl),1))
(.pass (.join 0 (C4 t c) (λ(t0:Lnk)=>I0 t0) (λb0=>(.br 368 (decide (c.b<c.a)) (.bk 0 b0 (((⟨c.b,c.a,c.cb,c.ca,0⟩:Lnk)):Lnk) [0,16,32,256])
(.bk 0 b0 (((⟨c.a,c.b,c.ca,c.cb,0⟩:Lnk)):Lnk) [0,16,32,256]))) λ(t0:Lnk) =>
(.join 1 (C3 t c t0) (λ(t1:Bool)=>I1 t0 t1) (λb1=>(.br 68 (c.ca==0) (.bk 1 b1 ((c.cb==0):Bool) [0,1,2,3])
(.bk 1 b1 ((false):Bool) [0,1,2,3]))) λ(t1:Bool) =>
(.req 52 (t.ls.length≤1000000) λh1 =>
(.callP (Dd t.ls t0 h1)
(.pass (.join 2 (C0 t c t0 t1) (λ(t2:Bool)=>I2 t0 t1 t2) (λb2=>(.req 196 (t.rs.length≤1000000) λh2 =>
(.callP (yh t c.a h2)
(.br 244 (!(hs5 t c.a)) (.bk 2 b2 ((true):Bool) [0,1,2,3])
(.req 292 (t.rs.length≤1000000) λh3 =>
(.callP (yh t c.b h3)
(.bk 2 b2 ((!(hs5 t c.b)):Bool) [0,1,2,3]))))))) λ(t2:Bool) =>
(.br 4 t2 (.ret ((⟨[],[]⟩:Tpl),4))
(.br 100 (c.a==c.b) (.ret ((⟨[],[]⟩:Tpl),8))
(.join 3 (Cz t t0 t1) (λ(t3:Bool)=>I3 t0 t1 t2 t3) (λb3=>(.br 148 (!t1) (.callP (mO c.ca 1 1000)
(.br 228 (!(inT c.ca 1 1000)) (.bk 3 b3 ((true):Bool) [0,2,3])
(.callP (mO c.cb 1 1000)
(.bk 3 b3 ((!(inT c.cb 1 1000)):Bool) [0,2,3]))))
(.bk 3 b3 ((false):Bool) [0,2,3]))) λ(t3:Bool) =>
(.br 3 t3 (.ret ((⟨[],[]⟩:Tpl),2))
(.join 4 (Cy t t0 t1) (λ(t4:Bool)=>I4 t0 t1 t2 t3 t4) (λb4=>(.br 35 t1 (.bk 4 b4 ((!(cL t.ls t0)):Bool) [0,1,2])
(.bk 4 b4 ((false):Bool) [0,1,2]))) λ(t4:Bool) =>
(.br 3 t4 (.ret ((⟨[],[]⟩:Tpl),9))
(.join 5 (Cx t t0 t1) (λ(t5:Bool)=>I5 t0 t1 t2 t3 t4 t5) (λb5=>(.br 51 (!(cL t.ls t0)) (.bk 5 b5 ((((t.ls.map Lnk.v).length:Int)==60):Bool) [0,1,2])
(.bk 5 b5 ((false):Bool) [0,1,2]))) λ(t5:Bool) =>
(.br 3 t5 (.ret ((⟨[],[]⟩:Tpl),3))
(.req 35 (t.rs.length≤1000000) λh4 =>
(.callP (EG t.rs h4)
(.req 83 (t.ls.length≤1000000) λh5 =>
(.callH [] (EI t.ls h5) 83
(.br 179 t1 (.req 259 ((0≤(ba t.ls t0:Int)∧(ba t.ls t0:Int)<t.ls.length)∧(W ((ba t.ls t0:Int)+1))=(ba t.ls t0:Int)+1) λh6 =>
(.req 259 (t.ls.length≤1000000) λh7 =>
(.callH [83] (E7 t.ls (ba t.ls t0:Int) (W ((ba t.ls t0:Int)+1)) h6 h7) 259
(.fz 259 Lnk.v (eD t.ls (Int.toNat (ba t.ls t0:Int))) (λ_=>rfl) (.ret ((⟨t.rs,eD t.ls (Int.toNat (ba t.ls t0:Int))⟩:Tpl),0))))))
(.br 211 (cL t.ls t0) (.elJ 291 Lnk.v t.ls (ba t.ls t0:Int) λx8 =>
(.stJ 419 Lnk.v t.ls (ba t.ls t0:Int) (λy9=>(⟨t0.a,t0.b,t0.ca,t0.cb,x8.w⟩:Lnk)) λy9 =>
(.fz 83 Lnk.v (t.ls.set ((ba t.ls t0:Int).toNat) (⟨t0.a,t0.b,t0.ca,t0.cb,x8.w⟩:Lnk)) (λ_=>rfl) (.ret ((⟨t.rs,t.ls.set ((ba t.ls t0:Int).toNat) (⟨t0.a,t0.b,t0.ca,t0.cb,x8.w⟩:Lnk)⟩:Tpl),0)))))
(.own 275 (.req 291 (0≤(ba t.ls t0:Int)∧(ba t.ls t0:Int)≤t.ls.length) λh10 =>
(.req 291 (t.ls.length≤1000000) λh11 =>
(.callH [83,275] (Ea t.ls t0 (ba t.ls t0:Int) h10 h11) 291
(.fz 291 Lnk.v (bE t.ls (Int.toNat (ba t.ls t0:Int)) t0) (λ_=>rfl) (.ret ((⟨t.rs,bE t.ls (Int.toNat (ba t.ls t0:Int)) t0⟩:Tpl),0))))))))))))))))))))))))))))))
theorem Fh(t:Tpl)(c:Chg)(ok:zR t c):∃I0 I1 I2 I3 I4 I5,(zO t c I0 I1 I2 I3 I4 I5).vp zQ (bJ t c):=by
 refine⟨λl=>l=bn c,λl b=>l=bn c∧b=eX c,λl b u=>(l=bn c∧b=eX c)∧u=decide (hs5 t c.a=false∨hs5 t c.b=false),
  λl b _ u=>(l=bn c∧b=eX c)∧u=decide (eX c=false∧(gb c.ca=false∨gb c.cb=false)),
  λl b _ _ u=>(l=bn c∧b=eX c)∧u=decide (eX c=true∧cL t.ls (bn c)=false),
  λl b _ _ _ u=>(l=bn c∧b=eX c)∧u=decide (cL t.ls (bn c)=false∧t.ls.length=60),?_⟩
 simp only[zR,Chg.v,Tpl.v,okU,Blk.ok,bc,B']at ok;dsimp only[zO,zP,Ax.vp,Ax.vc];simp only[vcU,rfU,B'];have e1:gI t=decide (aF t=0):=by unfold gI;rw[aR'];simp
 have e2:∀x,inT x 1 1000=gb x:=λx=>by unfold inT gb;rfl
 rw[e1,e2,e2];unfold bJ;refine⟨λq=>by rw[F' (by simpa using q)],λq=>?_⟩;have q:aF t=0:=by simpa using q
 have hl:=(cX q).1;have hl2:=(cX q).2;rw[E' (by simpa using q)];refine⟨⟨λd=>by unfold bn;rw[F' d],λd=>by unfold bn;rw[E' d]⟩,?_⟩;rintro _ rfl;refine⟨⟨λd=>⟨rfl,by unfold eX;rw[d];rfl⟩,λd=>⟨rfl,by unfold eX;rw[d];rfl⟩⟩,?_⟩;rintro _ ⟨_,rfl⟩;refine⟨by omega,⟨by omega,λd=>⟨⟨rfl,rfl⟩,by rw[eq_comm,as'];exact .inl (by simpa using d)⟩,λd=>⟨by omega,⟨rfl,rfl⟩,by rw[aR',as'];simp at d ⊢;simp[d]⟩⟩,?_⟩;rintro _ ⟨_,rfl⟩;refine⟨λd=>by rw[F' (H' d)],λd=>?_⟩;rw[E' (ag' d)];refine⟨λd=>by rw[F' (eq_of_beq d)],λd=>?_⟩;rw[E' (by simpa using d)]
 refine⟨⟨λd=>⟨λg=>⟨⟨rfl,rfl⟩,?_⟩,λg=>⟨⟨rfl,rfl⟩,?_⟩⟩,λd=>⟨⟨rfl,rfl⟩,?_⟩⟩,?_⟩
 ·rw[eq_comm,as'];exact⟨by simpa using d,.inl (by simpa using g)⟩
 ·rw[aR',as'];simp at d g ⊢;simp[d,g]
 ·rw[eq_comm,decide_eq_false_iff_not];simp at d;simp[d]
 rintro _ ⟨_,rfl⟩;refine⟨λd=>by rw[F' (H' d)],λd=>?_⟩;rw[E' (ag' d)];refine⟨⟨λd=>⟨⟨rfl,rfl⟩,by rw[aR',as'];simp[d]⟩,λd=>⟨⟨rfl,rfl⟩,by rw[eq_comm,decide_eq_false_iff_not];simp[d]⟩⟩,?_⟩;rintro _ ⟨_,rfl⟩;refine⟨λd=>by rw[F' (H' d)],λd9=>?_⟩;rw[E' (ag' d9)];have d9:=ag' d9
 refine⟨⟨λd=>⟨⟨rfl,rfl⟩,?_⟩,λd=>⟨⟨rfl,rfl⟩,?_⟩⟩,?_⟩
 ·rw[aR',as',aY'];simp at d;simp[d];omega
 ·rw[eq_comm,decide_eq_false_iff_not];simp at d;simp[d]
 rintro _ ⟨_,rfl⟩;refine⟨λd=>by rw[F' (H' d)],λd=>?_⟩;rw[E' (ag' d)];have hp:cL t.ls (bn c)=true→ba t.ls (bn c)<t.ls.length:=λg=>by
  refine U' λr=>?_;unfold cL bsH at g;rw[X' (by unfold ba at r;omega)]at g;cases g
 have hq:=AX t.ls (bn c)
 refine⟨by omega,by omega,λd=>?_,λd=>⟨λg=>?_,λg=>⟨⟨by omega,by omega⟩,by omega,?_⟩⟩⟩
 ·have g:cL t.ls (bn c)=true:=by simpa[d]using d9
  have:=hp g
  refine⟨⟨⟨by omega,by omega⟩,?_⟩,by omega,?_⟩
  ·exact dc (by omega)
  ·rw[F' d,Int.toNat_natCast]
 ·have:=hp g;have r:(bif decide (0≤(ba t.ls (bn c):Int))then decide ((ba t.ls (bn c):Int)<t.ls.length)else false)=true:=by
   rw[decide_eq_true (by omega),decide_eq_true (by omega)];rfl
  refine⟨r,by omega,λx hx=>⟨r,by omega,λy hy=>?_⟩⟩;rw[Int.toNat_natCast]at hx;rw[E' (by simp[d]),F' g,Int.toNat_natCast,I',hx];rfl
 ·rw[E' (by simp[d]),E' (by simp[g]),Int.toNat_natCast]
def Fi(t:Tpl)(c:Chg):PC Try.prog:=pcO 28 [(.a [(.s 2),(.s 5)]),.k] [Tpl.v t,Chg.v c] (.a [(.a [(.s 2),(.s 5)]),.k]) zQ (bJ t c) (λok=>let ⟨I0,I1,I2,I3,I4,I5,h⟩:=Fh t c ok;⟨_,h,by kernel_rfl⟩) rfl (by kernel_rfl)
end Go.Proofs.Ytdoacjojljgdcaa
