/- Texts joined: VA1 VA2 SF4. -/
import Derived.Test.YtdoacjojljgdcaaGreatQS9
set_option linter.unusedVariables false
set_option linter.unusedSimpArgs false
set_option linter.unusedSectionVars false
namespace Go.Proofs.YtdoacjojljgdcaaGreat
open Go Go.Am
def OI(x y:Lnk):Prop:=x.b<y.b∨x.b=y.b∧x.a<y.a
def Fd(K:Int)(l:Lnk):Prop:=1≤l.a∧l.a<l.b∧l.b≤K∧fO l
structure D7 (K b a:Int) (ls:List Lnk):Prop where
  pw:ls.Pairwise OI
  al:∀l∈ls,Fd K l∧(l.b<b∨l.b=b∧l.a<a)
theorem Kh{L:List Int}{cost a b K:Int}{p:Nat}(hc:1≤cost∧cost≤1000)(h:1≤a∧a<b∧b≤K):Fd K (F6 L cost a b p):=by
 have h1:=zV (L:=L) (p:=p) hc
 have h2:=zV (L:=L) (p:=ab L p) hc
 have h3:=cU (x:=au L (ab L (ab L p))) (show(1:Int)≤4 by omega)
 refine⟨h.1,h.2.1,h.2.2,?_⟩
 unfold fO F6 dT
 simp only[Bool.and_eq_true,decide_eq_true_eq]
 omega
theorem xr{L:List Int}{cost b tree K:Int}{skip:Bool}(hc:1≤cost∧cost≤1000)(hb:b≤K):∀{f:Nat} {a:Int} {ls:List Lnk} {p:Nat},D7 K b a ls→1≤a→a+f≤b →
  D7 K b (a+f) (inM L cost b tree skip f a ls p).1∧(inM L cost b tree skip f a ls p).1.length≤ls.length+f
 | 0,a,ls,p,h,h1,h2=>⟨by rw[inM];simpa using h,by rw[inM];exact Nat.le_refl _⟩
 | f+1,a,ls,p,h,h1,h2=>by
  rw[inM]
  have e:a+((f+1:Nat):Int)=(a+1)+(f:Int):=by omega
  rw[e]
  split
  ·have hk:=Kh (L:=L) (a:=a) (b:=b) (K:=K) (p:=(cnM L a tree skip p).2) hc (by omega)
   have hI:D7 K b (a+1) (ls++[F6 L cost a b (cnM L a tree skip p).2]):=by
    refine⟨List.pairwise_append.mpr ⟨h.pw,by simp,λx hx y hy=>?_⟩,λl hl=>?_⟩
    ·rw[List.mem_singleton.mp hy]
     have:=(h.al x hx).2
     unfold OI F6;simp only;omega
    ·rcases List.mem_append.mp hl with hl|hl
     ·have:=h.al l hl;exact⟨this.1,by omega⟩
     ·rw[List.mem_singleton.mp hl]
      exact⟨hk,.inr ⟨rfl,by show a<a+1;omega⟩⟩
   obtain⟨g1,g2⟩:=xr (L:=L) (tree:=tree) (skip:=skip) hc hb (p:=ab L (ab L (ab L (cnM L a tree skip p).2))) hI (by omega) (by omega) (f:=f)
   exact⟨g1,by rw[List.length_append,List.length_singleton]at g2;omega⟩
  ·obtain⟨g1,g2⟩:=xr (L:=L) (tree:=tree) (skip:=skip) hc hb (p:=(cnM L a tree skip p).2) (ls:=ls) (a:=a+1) (f:=f) ⟨h.pw,λl hl=>by have:=h.al l hl;exact⟨this.1,by omega⟩⟩ (by omega) (by omega)
   exact⟨g1,by omega⟩
theorem ET{L:List Int}{cost K:Int}(hc:1≤cost∧cost≤1000)(hK:K≤7):∀{f:Nat} {b:Int} {ls:List Lnk} {p:Nat},D7 K b 1 ls→2≤b→b+f≤K+1 →
  D7 K (b+f) 1 (ouM L cost f b ls p).1∧(ouM L cost f b ls p).1.length≤ls.length+6 * f
 | 0,b,ls,p,h,h1,h2=>⟨by rw[ouM];simpa using h,by rw[ouM];exact Nat.le_refl _⟩
 | f+1,b,ls,p,h,h1,h2=>by
  rw[ouM]
  have e:b+((f+1:Nat):Int)=(b+1)+(f:Int):=by omega
  rw[e]
  obtain⟨g1,g2⟩:=xr (L:=L) (tree:=rng L p 1 (W (b-1))) (skip:=fI L (ab L p) 9) hc (show b≤K by omega) (p:=ab L (ab L p)) h (by omega) (show(1:Int)+(((b-1).toNat:Nat):Int)≤b by omega)
  have hI:D7 K (b+1) 1 (inR L cost b ls p).1:=⟨g1.pw,λl hl=>by
   have:=g1.al l hl
   have h3:=this.1
   unfold Fd at h3
   exact⟨this.1,by omega⟩⟩
  obtain⟨k1,k2⟩:=ET hc hK (L:=L) (p:=(inR L cost b ls p).2) hI (by omega) (by omega) (f:=f)
  refine⟨k1,?_⟩
  have:(inR L cost b ls p).1.length≤ls.length+6:=by
   unfold inR
   have:(b-1).toNat≤6:=by omega
   omega
  omega
theorem tM{x y z:Lnk}(h1:aQ x y)(h2:aQ y z):aQ x z:=by unfold aQ at *;omega
theorem tz:∀(l out:List Lnk),out.Pairwise aQ→(∀x∈l,∀y∈out,aQ x y∨aQ y x)→l.Pairwise (λx y=>aQ x y∨aQ y x)→(aT l out).Pairwise aQ∧(aT l out).Perm (l++out)
 | [],out,h,_,_=>⟨h,.refl _⟩
 | x::l,out,h,hd,hp=>by
  rw[aT]
  obtain⟨hp1,hp2⟩:=List.pairwise_cons.mp hp
  have hperm:=n9 out (gQ out x) x
  have hin:(bD out (gQ out x) x).Pairwise aQ:=by
   have hle:=Ap out x
   have ht:∀y∈out.take (gQ out x),aQ y x:=λy hy=>by
    obtain⟨i,hi,rfl⟩:=List.mem_take_iff_getElem.mp hy
    have:=List.not_of_lt_findIdx (p:=λy=>!decide (aQ y x)) (xs:=out) (i:=i) (by show i<gQ out x;omega)
    simpa using this
   have hdr:∀y∈out.drop (gQ out x),aQ x y:=λy hy=>by
    obtain⟨i,hi,rfl⟩:=List.mem_iff_getElem.mp hy
    rw[List.length_drop]at hi
    rw[List.getElem_drop]
    have h0:aQ x (out[gQ out x]'(by omega)):=by
     have:=List.findIdx_getElem (p:=λy=>!decide (aQ y x)) (xs:=out) (w:=by show gQ out x<out.length;omega)
     have hn:¬aQ (out[gQ out x]'(by omega)) x:=by simp only[gQ];simpa using this
     rcases hd x (by simp) (out[gQ out x]'(by omega)) (List.getElem_mem _)with q|q
     ·exact q
     ·exact absurd q hn
    by_cases e:i=0
    ·subst e;simpa using h0
    ·have:=List.pairwise_iff_getElem.mp h (gQ out x) (gQ out x+i) (by omega) (by omega) (by omega)
     exact tM h0 this
   unfold bD
   rw[List.append_assoc]
   refine List.pairwise_append.mpr ⟨h.sublist (List.take_sublist _ _),?_,λy hy z hz=>?_⟩
   ·rw[List.singleton_append]
    exact List.pairwise_cons.mpr ⟨hdr,h.sublist (List.drop_sublist _ _)⟩
   ·rcases List.mem_append.mp hz with hz|hz
    ·rw[List.mem_singleton.mp hz];exact ht y hy
    ·exact tM (ht y hy) (hdr z hz)
  have hdd:∀z∈l,∀y∈bD out (gQ out x) x,aQ z y∨aQ y z:=λz hz y hy=>by
   rcases List.mem_cons.mp (hperm.mem_iff.mp hy)with rfl|hy
   ·exact(hp1 z hz).symm
   ·exact hd z (by simp[hz]) y hy
  obtain⟨g1,g2⟩:=tz l (bD out (gQ out x) x) hin hdd hp2
  refine⟨g1,g2.trans ?_⟩
  refine((List.Perm.refl l).append hperm).trans ?_
  exact List.perm_middle
theorem GW{t:Tpl}(h:Rj t):aD t=0:=by
 unfold aD
 rw[if_neg (by have:=h.nr;have:=h.nl;omega),if_neg (not_not_intro h.rg),if_neg (not_not_intro h.asc),if_neg (not_not_intro h.lr),if_neg (not_not_intro h.has),if_neg (not_not_intro h.lt),if_neg (not_not_intro h.ord)]
theorem KS(L:List Int)(p:Nat):1≤uL L p∧uL L p≤1000:=by
 unfold uL bf
 have hm:=cU (x:=au L (ab L p)) (show(1:Int)≤(([1,2,2,5]:List Int).length:Int) by decide)
 generalize Mod (au L (ab L p)) (([1,2,2,5]:List Int).length:Int)=m at hm
 have hm2:0≤m∧m<4:=hm
 obtain⟨k,hk⟩:∃k:Nat,m.toNat=k∧k<4:=⟨m.toNat,rfl,by omega⟩
 rw[hk.1]
 match k,hk.2 with
 | 0,_=>decide
 | 1,_=>decide
 | 2,_=>decide
 | 3,_=>decide
theorem Nu(L:List Int)(p:Nat)(most:Int)(h:1≤most∧most≤7):aD (ay L p most 0).1=0∧jx (ay L p most 0).1=true:=by
 have hk:=zV (L:=L) (p:=p) (m:=most) (by omega)
 unfold ay
 rw[if_neg (λq=>by have:=q.1;omega)]
 simp only
 unfold DO pE
 generalize rng L p 1 most=K at hk
 obtain⟨g1,g2⟩:=ET (L:=L) (K:=K) (KS L p) (by omega) (f:=(K-1).toNat) (b:=2) (ls:=[]) (p:=ab L (ab L p)) ⟨by simp,by simp⟩ (by omega) (by omega)
 generalize (ouM L (uL L p) (K-1).toNat 2 [] (ab L (ab L p))).1=o at g1 g2
 obtain⟨s1,s2⟩:=tz o [] (by simp) (by simp) (g1.pw.imp λh=>by unfold OI at h;unfold aQ;omega)
 have hmem:∀l∈aT o [],Fd K l:=λl hl=>by
  have:=s2.mem_iff.mp hl
  rw[List.append_nil]at this
  exact(g1.al l this).1
 have hrs:∀x∈kc K.toNat,1≤x.id∧x.id≤K∧x.cap=true:=λx hx=>by
  obtain⟨i,hi,rfl⟩:=List.mem_map.mp hx
  have:=List.mem_range.mp hi
  exact⟨by simp only;omega,by simp only;omega,rfl⟩
 have hhas:∀a:Int,1≤a→a≤K→aG ⟨kc K.toNat,aT o []⟩ a=true:=λa h1 h2=>bZ.mpr ⟨⟨((a.toNat-1+1:Nat):Int),true⟩,List.mem_map.mpr ⟨a.toNat-1,List.mem_range.mpr (by omega),rfl⟩,by simp only;omega⟩
 refine⟨GW ⟨by simp only[mK];omega,by rw[ng];simp only[List.length_nil]at *;omega,λx hx=>by have:=hrs x hx;omega,?_,λl hl=>(hmem l hl).2.2.2,λl hl=>?_,λl hl=>(hmem l hl).2.1,s1⟩,?_⟩
 ·refine List.Pairwise.map _ (λa b (h:a<b)=>?_) List.pairwise_lt_range
  simp only;omega
 ·have:=hmem l hl
  unfold Fd at this
  exact⟨hhas _ (by omega) (by omega),hhas _ (by omega) (by omega)⟩
 ·unfold jx
  have:(kc K.toNat).any Hg=false:=by
   rw[Bool.eq_false_iff]
   intro q
   obtain⟨x,hx,e⟩:=List.any_eq_true.mp q
   rw[Hg,(hrs x hx).2.2]at e;cases e
  simp only[this];rfl
structure PlI (rs:List Rtr) (os:List Int) (id:Int) (es:List Edg):Prop where
  asc:(es.map Edg.id).Pairwise (·<·)
  rng:∀e∈es,1≤e.id∧e.id≤id∧e.id≤256∧∃o∈os,∃r,rs[o.toNat]?=some r∧e.router=r.id
  nd:(es.map Edg.router).Nodup
  id0:0≤id
theorem EN{c x:Int}(hc:1≤c∧c≤63):1≤bf [1,1,1,2,c] x∧bf [1,1,1,2,c] x≤63:=by
 unfold bf
 have hm:0≤Mod x (([1,1,1,2,c]:List Int).length:Int)∧Mod x (([1,1,1,2,c]:List Int).length:Int)<5:=cU (x:=x) (by simp)
 generalize Mod x (([1,1,1,2,c]:List Int).length:Int)=m at hm
 obtain⟨k,hk,hk5⟩:∃k:Nat,m.toNat=k∧k<5:=⟨m.toNat,rfl,by omega⟩
 rw[hk]
 match k,hk5 with
 | 0,_=>exact⟨by show(1:Int)≤1;decide,by show(1:Int)≤63;decide⟩
 | 1,_=>exact⟨by show(1:Int)≤1;decide,by show(1:Int)≤63;decide⟩
 | 2,_=>exact⟨by show(1:Int)≤1;decide,by show(1:Int)≤63;decide⟩
 | 3,_=>exact⟨by show(1:Int)≤2;decide,by show(2:Int)≤63;decide⟩
 | 4,_=>exact hc
theorem mi{L:List Int}{c:Int}{rs:List Rtr}(hc:1≤c∧c≤63)(hrs:∀(i j:Nat) (x y:Rtr),rs[i]?=some x→rs[j]?=some y→x.id=y.id→i=j):∀{os:List Int} {pre:List Int} {id:Int} {es:List Edg} {p:Nat},
  PlI rs pre id es→(pre++os).Nodup→(∀o∈pre++os,0≤o∧o<rs.length)→id≤63 * pre.length→pre.length+os.length≤100→∃pre',PlI rs pre' (lj L c rs os id es p).1.1 (lj L c rs os id es p).1.2∧(lj L c rs os id es p).1.2.length≤es.length+os.length
 | [],pre,id,es,p,h,hn,ho,hid,hl=>⟨pre,by rw[lj];exact h,by rw[lj];exact Nat.le_refl _⟩
 | o::os,pre,id,es,p,h,hn,ho,hid,hl=>by
  have hpk:=EN (x:=au L (ab L p)) hc
  have hn2:(pre++[o]++os).Nodup:=by rw[List.append_assoc];exact hn
  have ho2:∀q∈pre++[o]++os,0≤q∧q<rs.length:=by rw[List.append_assoc];exact ho
  have hnot:o ∉ pre:=λq=>by
   have:=(List.nodup_append.mp hn).2.2 o q o (by simp)
   exact this rfl
  have hoo:=ho o (by simp)
  have h0:=h.id0
  rw[List.length_cons]at hl
  have hw:W (id+bf [1,1,1,2,c] (au L (ab L p)))=id+bf [1,1,1,2,c] (au L (ab L p)):=dm (by omega)
  have up:∀id',id≤id'→PlI rs (pre++[o]) id' es:=λid' hle=>⟨h.asc,λe he=>by
   obtain⟨a1,a2,a3,q,hq,r,hr,e2⟩:=h.rng e he
   exact⟨a1,by omega,a3,q,List.mem_append_left _ hq,r,hr,e2⟩,h.nd,by omega⟩
  rw[lj]
  rw[hw]
  generalize hpp:bf [1,1,1,2,c] (au L (ab L p))=w at hpk
  by_cases e1:Mod (au L p) 4=0
  ·rw[if_pos e1]
   obtain⟨pre',g1,g2⟩:=mi (L:=L) hc hrs (p:=ab L p) (up id (Int.le_refl _)) hn2 ho2 (by simp;omega) (by simp;omega)
   exact⟨pre',g1,by rw[List.length_cons];omega⟩
  rw[if_neg e1]
  by_cases e2:id+w≤256
  ·rw[if_pos e2]
   have hx:=List.getElem?_eq_getElem (show o.toNat<rs.length by omega)
   generalize rs[o.toNat]'(by omega)=r at hx
   rw[hx]
   simp only
   have hI:PlI rs (pre++[o]) (id+w) (es++[⟨r.id,id+w⟩]):=by
    have hu:=up (id+w) (by omega)
    refine⟨?_,λe he=>?_,?_,by omega⟩
    ·rw[List.map_append]
     refine List.pairwise_append.mpr ⟨h.asc,by simp,λa ha b hb=>?_⟩
     obtain⟨e,he,rfl⟩:=List.mem_map.mp ha
     have hb:b=id+w:=by simpa using hb
     have:=(h.rng e he).2.1
     omega
    ·rcases List.mem_append.mp he with he|he
     ·exact hu.rng e he
     ·rw[List.mem_singleton.mp he]
      exact⟨by simp only;omega,by simp only;omega,e2,o,by simp,r,hx,rfl⟩
    ·rw[List.map_append]
     refine List.nodup_append.mpr ⟨h.nd,by simp,λa ha b hb=>?_⟩
     obtain⟨e,he,rfl⟩:=List.mem_map.mp ha
     have hb:b=r.id:=by simpa using hb
     subst hb
     obtain⟨_,_,_,q,hq,r',hr',e3⟩:=h.rng e he
     rw[e3]
     intro e4
     have hi:=hrs _ _ _ _ hr' hx e4
     have hqq:=ho q (List.mem_append_left _ hq)
     have:q=o:=by omega
     exact hnot (this ▸ hq)
   obtain⟨pre',g1,g2⟩:=mi (L:=L) hc hrs (p:=ab L (ab L p)) hI hn2 ho2 (by simp;omega) (by simp;omega)
   refine⟨pre',g1,?_⟩
   rw[List.length_append,List.length_singleton]at g2
   rw[List.length_cons];omega
  ·rw[if_neg e2]
   obtain⟨pre',g1,g2⟩:=mi (L:=L) hc hrs (p:=ab L (ab L p)) (up (id+w) (by omega)) hn2 ho2 (by simp;omega) (by simp;omega)
   exact⟨pre',g1,by rw[List.length_cons];omega⟩
theorem Kj(L:List Int)(p:Nat):cY (d7 L p)=true∧8≤d7 L p∧d7 L p≤64:=by
 unfold d7 bf
 have hm:0≤Mod (au L p) (Kk.length:Int)∧Mod (au L p) (Kk.length:Int)<5:=cU (x:=au L p) (by decide)
 generalize Mod (au L p) (Kk.length:Int)=m at hm
 obtain⟨k,hk,hk5⟩:∃k:Nat,m.toNat=k∧k<5:=⟨m.toNat,rfl,by omega⟩
 rw[hk]
 match k,hk5 with
 | 0,_=>decide
 | 1,_=>decide
 | 2,_=>decide
 | 3,_=>decide
 | 4,_=>decide
theorem Oa(L:List Int)(p:Nat)(g:Tpl)(hg:aD g=0):cH (mR L p g 0).1=true:=by
 have hO:=aC hg
 have hn:=hO.nr
 unfold mR
 rw[if_neg (λq=>by have:=q.1;omega)]
 have hlen:=Kj L (ab L p)
 have hsub:=cU (x:=au L p) (show(1:Int)≤3 by omega)
 obtain⟨f1,f2⟩:=nb (L:=L) (n:=(g.rs.length:Int)) (p:=ab L (ab L p)) (by omega)
 have f3:(fk L (g.rs.length:Int) (ab L (ab L p))).1.length=g.rs.length:=by unfold fk;rw[nc];simp
 have hrs:∀(i j:Nat) (x y:Rtr),g.rs[i]?=some x→g.rs[j]?=some y→x.id=y.id→i=j:=λi j x y hx hy e=>by
  have h1:(g.rs.map (·.id))[i]?=some x.id:=by rw[List.getElem?_map,hx];rfl
  have h2:(g.rs.map (·.id))[j]?=some x.id:=by rw[List.getElem?_map,hy,e];rfl
  exact dC (fA hg) h1 h2
 have hc:W (d7 L (ab L p)-1)=d7 L (ab L p)-1:=dm (by omega)
 obtain⟨pre',h1,h2⟩:=mi (L:=L) (c:=W (d7 L (ab L p)-1)) (rs:=g.rs) (by rw[hc];omega) hrs (os:=(fk L (g.rs.length:Int) (ab L (ab L p))).1) (pre:=[]) (id:=0) (es:=[]) (p:=(fk L (g.rs.length:Int) (ab L (ab L p))).2) ⟨by simp,by simp,by simp,by omega⟩ (by simpa using f1) (by simpa using f2) (by simp) (by simp;omega)
 unfold cH
 simp only
 unfold pZ
 rw[Bool.and_eq_true,decide_eq_true_iff,decide_eq_true_iff]
 simp only[List.length_nil,Nat.zero_add]at h2
 refine⟨⟨by simp only;omega,.inl hlen.1,by simp only;omega⟩,λe he=>?_,h1.nd,h1.asc⟩
 obtain⟨a1,a2,a3,o,ho,r,hr,e2⟩:=h1.rng e he
 have:=hO.rg r (bF hr)
 unfold Dj
 omega
set_option pp.deepTerms true
set_option pp.maxSteps 100000
def cdS(L:List Int)(top:Int)(s:Nat×List Int)(x:Rnk):Nat×List Int:=
 if x.n<top then(s.1,s.2++[x.r])else if x.n=top then(if Mod (au L s.1) 2=0 then(ab L s.1,s.2++[x.r])else(ab L s.1,s.2))else s
def cdF(L:List Int)(q:Nat)(l:List Rnk):Nat×List Int:=l.foldl (cdS L (Mod (au L q) 4)) (ab L q,[])
def cdR(L:List Int)(g:Tpl)(c:Chg)(q:Nat):(Tpl×Tpl×List Int×Bool)×Nat:=
 if(aI g c).2.2.2≠0∨(bg g c).2≠0 then((g,(bg g c).1,[],false),q)else((g,(bg g c).1,(cdF L q (cP g c)).2,true),(cdF L q (cP g c)).1)
def cdT(L:List Int)(p:Nat)(most:Int):(Tpl×Tpl×List Int×Bool)×Nat:=cdR L (ay L p most 0).1 (cA L (ay L p most 0).2 (ay L p most 0).1 0).1 (cA L (ay L p most 0).2 (ay L p most 0).1 0).2
theorem LF(L:List Int)(top:Int)(s:Nat×List Int)(x:Rnk):(cdS L top s x).2.length≤s.2.length+1:=by
 unfold cdS;repeat' split
 all_goals simp
theorem Em(t:Tpl)(c:Chg):(cP t c).length≤24:=by
 unfold cP
 split
 ·rename_i h
  rw[List.length_map]
  exact(cd (fv h).1).1
 ·simp
def MU(L:List Int)(p:Nat)(most:Int):=okL [.ref 0 0,.int most]∧(.box (.agg [.sl 1 (L.map AV.int) false,.int p]):Blk).ok
def Q6(L:List Int)(p:Nat)(most:Int)(t0:Bool):NF:=⟨[(0,.k,.ref 0 0),(4,.k,.ref 1 0),(5,.k,.ref 2 0),(8,.k,.ref 3 0),(10,.k,.sl 2 ((cP (⟨((ay L p most 0).1).rs,((ay L p most 0).1).ls⟩:Tpl) ((cA L ((ay L p most 0).2) (⟨((ay L p most 0).1).rs,((ay L p most 0).1).ls⟩:Tpl) 0).1)).map Rnk.v) false),(12,.k,.ref 4 0),(40,.k,.bool t0)],[.box (.agg [.sl 1 (L.map AV.int) false,.int ((((cA L ((ay L p most 0).2) (⟨((ay L p most 0).1).rs,((ay L p most 0).1).ls⟩:Tpl) 0).2):Nat):Int)]),.box (.agg [.sl 0 [] true,.sl 0 [] true]),.box (.agg [.sl 0 [] true,.sl 0 [] true]),.box (.agg [.sl 2 ((((ay L p most 0).1).rs).map Rtr.v) false,.sl 5 ((((ay L p most 0).1).ls).map Lnk.v) false]),.box (.agg [.sl 2 ((((bg (⟨((ay L p most 0).1).rs,((ay L p most 0).1).ls⟩:Tpl) ((cA L ((ay L p most 0).2) (⟨((ay L p most 0).1).rs,((ay L p most 0).1).ls⟩:Tpl) 0).1)).1).rs).map Rtr.v) false,.sl 5 ((((bg (⟨((ay L p most 0).1).rs,((ay L p most 0).1).ls⟩:Tpl) ((cA L ((ay L p most 0).2) (⟨((ay L p most 0).1).rs,((ay L p most 0).1).ls⟩:Tpl) 0).1)).1).ls).map Lnk.v) false])]⟩
def Q5(L:List Int)(p:Nat)(most:Int)(t1:Int×Nat×List Int):NF:=⟨[(0,.k,.ref 0 0),(4,.k,.ref 1 0),(5,.k,.ref 2 0),(8,.k,.ref 3 0),(10,.k,.sl 2 ((cP (⟨((ay L p most 0).1).rs,((ay L p most 0).1).ls⟩:Tpl) ((cA L ((ay L p most 0).2) (⟨((ay L p most 0).1).rs,((ay L p most 0).1).ls⟩:Tpl) 0).1)).map Rnk.v) false),(12,.k,.ref 4 0),(14,.k,.int (Mod (au L ((cA L ((ay L p most 0).2) (⟨((ay L p most 0).1).rs,((ay L p most 0).1).ls⟩:Tpl) 0).2)) 4)),(15,.k,.vec 5),(16,.k,.int t1.1)],[.box (.agg [.sl 1 (L.map AV.int) false,.int t1.2.1]),.box (.agg [.sl 0 [] true,.sl 0 [] true]),.box (.agg [.sl 0 [] true,.sl 0 [] true]),.box (.agg [.sl 2 ((((ay L p most 0).1).rs).map Rtr.v) false,.sl 5 ((((ay L p most 0).1).ls).map Lnk.v) false]),.box (.agg [.sl 2 ((((bg (⟨((ay L p most 0).1).rs,((ay L p most 0).1).ls⟩:Tpl) ((cA L ((ay L p most 0).2) (⟨((ay L p most 0).1).rs,((ay L p most 0).1).ls⟩:Tpl) 0).1)).1).rs).map Rtr.v) false,.sl 5 ((((bg (⟨((ay L p most 0).1).rs,((ay L p most 0).1).ls⟩:Tpl) ((cA L ((ay L p most 0).2) (⟨((ay L p most 0).1).rs,((ay L p most 0).1).ls⟩:Tpl) 0).1)).1).ls).map Lnk.v) false]),.vec 1 (t1.2.2.map AV.int) (ae (λ_=>rfl) t1.2.2)]⟩
def Q4(L:List Int)(p:Nat)(most:Int)(t1:Int×Nat×List Int)(t2:Bool×Nat):NF:=⟨[(0,.k,.ref 0 0),(4,.k,.ref 1 0),(5,.k,.ref 2 0),(8,.k,.ref 3 0),(10,.k,.sl 2 ((cP (⟨((ay L p most 0).1).rs,((ay L p most 0).1).ls⟩:Tpl) ((cA L ((ay L p most 0).2) (⟨((ay L p most 0).1).rs,((ay L p most 0).1).ls⟩:Tpl) 0).1)).map Rnk.v) false),(12,.k,.ref 4 0),(14,.k,.int (Mod (au L ((cA L ((ay L p most 0).2) (⟨((ay L p most 0).1).rs,((ay L p most 0).1).ls⟩:Tpl) 0).2)) 4)),(15,.k,.vec 5),(16,.k,.int t1.1),(71,.k,.bool t2.1)],[.box (.agg [.sl 1 (L.map AV.int) false,.int t2.2]),.box (.agg [.sl 0 [] true,.sl 0 [] true]),.box (.agg [.sl 0 [] true,.sl 0 [] true]),.box (.agg [.sl 2 ((((ay L p most 0).1).rs).map Rtr.v) false,.sl 5 ((((ay L p most 0).1).ls).map Lnk.v) false]),.box (.agg [.sl 2 ((((bg (⟨((ay L p most 0).1).rs,((ay L p most 0).1).ls⟩:Tpl) ((cA L ((ay L p most 0).2) (⟨((ay L p most 0).1).rs,((ay L p most 0).1).ls⟩:Tpl) 0).1)).1).rs).map Rtr.v) false,.sl 5 ((((bg (⟨((ay L p most 0).1).rs,((ay L p most 0).1).ls⟩:Tpl) ((cA L ((ay L p most 0).2) (⟨((ay L p most 0).1).rs,((ay L p most 0).1).ls⟩:Tpl) 0).1)).1).ls).map Lnk.v) false]),.vec 1 (t1.2.2.map AV.int) (ae (λ_=>rfl) t1.2.2)]⟩
@[reducible] def MT:Nat→Type
 | 0=>Bool
 | 1=>Int×Nat×List Int
 | 2=>Bool×Nat
 | _=>Unit
def Cc(r:Tap×Tpl×Tpl×List Int×Bool):AV:=.tup [.agg [.sl 2 (r.2.1.rs.map Rtr.v) false,.sl 5 (r.2.1.ls.map Lnk.v) false],.agg [.sl 2 (r.2.2.1.rs.map Rtr.v) false,.sl 5 (r.2.2.1.ls.map Lnk.v) false],.sl 1 (r.2.2.2.1.map AV.int) false,.bool r.2.2.2.2]
def Cd(r:Tap×Tpl×Tpl×List Int×Bool):List (Option Blk):=[some (.box (.agg [.sl 1 (r.1.L.map AV.int) false,.int r.1.p]))]
def Hc(L:List Int)(p:Nat)(most:Int)(I0:Bool→Prop)(I1:Bool→(Int×Nat×List Int)→Prop)(m1:Bool→(Int×Nat×List Int)→Nat)(I2:Bool→Int×Nat×List Int→(Bool×Nat)→Prop):Ax Tryz.prog MT (Tap×Tpl×Tpl×List Int×Bool):=
 (.req 97 (1≤most∧most≤20) λh1 =>
(.callH [0] (Nw L p most 0 h1) 97
(.say (Rf ((((ay L p most 0).1).rs).map Rtr.v)) (.cmd (.frzE 97 ((((ay L p most 0).1).rs).map Rtr.v) (ae (λ_=>rfl) (((ay L p most 0).1).rs))) (.say (Rf ((((ay L p most 0).1).ls).map Lnk.v)) (.cmd (.frzE 98 ((((ay L p most 0).1).ls).map Lnk.v) (ae (λ_=>rfl) (((ay L p most 0).1).ls))) (.callH [0] (Qz L ((ay L p most 0).2) (⟨((ay L p most 0).1).rs,((ay L p most 0).1).ls⟩:Tpl) 0) 177
(.callP (Ah (⟨((ay L p most 0).1).rs,((ay L p most 0).1).ls⟩:Tpl) ((cA L ((ay L p most 0).2) (⟨((ay L p most 0).1).rs,((ay L p most 0).1).ls⟩:Tpl) 0).1))
(.callP (QU (⟨((ay L p most 0).1).rs,((ay L p most 0).1).ls⟩:Tpl) ((cA L ((ay L p most 0).2) (⟨((ay L p most 0).1).rs,((ay L p most 0).1).ls⟩:Tpl) 0).1))
(.pass (.join 0 (Q6 L p most) (λ(t0:Bool)=>I0 t0) (λb0=>(.br 545 (((aI (⟨((ay L p most 0).1).rs,((ay L p most 0).1).ls⟩:Tpl) ((cA L ((ay L p most 0).2) (⟨((ay L p most 0).1).rs,((ay L p most 0).1).ls⟩:Tpl) 0).1)).2.2.2) != 0) (.bk 0 b0 ((true):Bool) [0,1,17,113,449])
(.bk 0 b0 ((((bg (⟨((ay L p most 0).1).rs,((ay L p most 0).1).ls⟩:Tpl) ((cA L ((ay L p most 0).2) (⟨((ay L p most 0).1).rs,((ay L p most 0).1).ls⟩:Tpl) 0).1)).2) != 0):Bool) [0,1,17,113,449]))) λ(t0:Bool) =>
(.br 5 t0 (.retH ((⟨L,(cA L ((ay L p most 0).2) (⟨((ay L p most 0).1).rs,((ay L p most 0).1).ls⟩:Tpl) 0).2⟩:Tap),(⟨((ay L p most 0).1).rs,((ay L p most 0).1).ls⟩:Tpl),(bg (⟨((ay L p most 0).1).rs,((ay L p most 0).1).ls⟩:Tpl) ((cA L ((ay L p most 0).2) (⟨((ay L p most 0).1).rs,((ay L p most 0).1).ls⟩:Tpl) 0).1)).1,[],false) ⟨[(4,.k,.ref 1 0),(5,.k,.ref 2 0),(6,.k,.sl 0 [] true),(7,.k,.bool false)],[.box (.agg [.sl 1 (L.map AV.int) false,.int ((((cA L ((ay L p most 0).2) (⟨((ay L p most 0).1).rs,((ay L p most 0).1).ls⟩:Tpl) 0).2):Nat):Int)]),.box (.agg [.sl 2 ((((ay L p most 0).1).rs).map Rtr.v) false,.sl 5 ((((ay L p most 0).1).ls).map Lnk.v) false]),.box (.agg [.sl 2 ((((bg (⟨((ay L p most 0).1).rs,((ay L p most 0).1).ls⟩:Tpl) ((cA L ((ay L p most 0).2) (⟨((ay L p most 0).1).rs,((ay L p most 0).1).ls⟩:Tpl) 0).1)).1).rs).map Rtr.v) false,.sl 5 ((((bg (⟨((ay L p most 0).1).rs,((ay L p most 0).1).ls⟩:Tpl) ((cA L ((ay L p most 0).2) (⟨((ay L p most 0).1).rs,((ay L p most 0).1).ls⟩:Tpl) 0).1)).1).ls).map Lnk.v) false])]⟩ [0,1,2])
(.callH [0] (bR L ((cA L ((ay L p most 0).2) (⟨((ay L p most 0).1).rs,((ay L p most 0).1).ls⟩:Tpl) 0).2) 4) 21
(.cmdL (.nilT 15 1) (.loop 1 (Q5 L p most) (I1 t0) (m1 t0) (0,ab L ((cA L ((ay L p most 0).2) (⟨((ay L p most 0).1).rs,((ay L p most 0).1).ls⟩:Tpl) 0).2),[]) [0,1,2,3,4,85] λ(t1:Int×Nat×List Int) b1 =>
(.br 70 (decide (t1.1<(((cP (⟨((ay L p most 0).1).rs,((ay L p most 0).1).ls⟩:Tpl) ((cA L ((ay L p most 0).2) (⟨((ay L p most 0).1).rs,((ay L p most 0).1).ls⟩:Tpl) 0).1)).map Rnk.v).length:Int))) (.pass (.join 2 (Q4 L p most t1) (λ(t2:Bool×Nat)=>I2 t0 t1 t2) (λb2=>(.elI 102 Rnk.v (cP (⟨((ay L p most 0).1).rs,((ay L p most 0).1).ls⟩:Tpl) ((cA L ((ay L p most 0).2) (⟨((ay L p most 0).1).rs,((ay L p most 0).1).ls⟩:Tpl) 0).1)) t1.1 λx2 =>
(.br 198 (decide (x2.n<(Mod (au L ((cA L ((ay L p most 0).2) (⟨((ay L p most 0).1).rs,((ay L p most 0).1).ls⟩:Tpl) 0).2)) 4))) (.bk 2 b2 (true,t1.2.1) [0,1,2,3,4,5])
(.elI 230 Rnk.v (cP (⟨((ay L p most 0).1).rs,((ay L p most 0).1).ls⟩:Tpl) ((cA L ((ay L p most 0).2) (⟨((ay L p most 0).1).rs,((ay L p most 0).1).ls⟩:Tpl) 0).1)) t1.1 λx3 =>
(.br 326 (x3.n==(Mod (au L ((cA L ((ay L p most 0).2) (⟨((ay L p most 0).1).rs,((ay L p most 0).1).ls⟩:Tpl) 0).2)) 4)) (.callH [0] (bR L t1.2.1 2) 342
(.bk 2 b2 ((Mod (au L t1.2.1) 2)==0,ab L t1.2.1) [0,1,2,3,4,5]))
(.bk 2 b2 (false,t1.2.1) [0,1,2,3,4,5])))))) λ(t2:Bool×Nat) =>
(.br 6 t2.1 (.elI 54 Rnk.v (cP (⟨((ay L p most 0).1).rs,((ay L p most 0).1).ls⟩:Tpl) ((cA L ((ay L p most 0).2) (⟨((ay L p most 0).1).rs,((ay L p most 0).1).ls⟩:Tpl) 0).1)) t1.1 λx4 =>
(.apX 118 AV.int t1.2.2 [x4.r] (t1.2.2.length+1)
(.bk 1 b1 (W (t1.1+1),t2.2,t1.2.2++[x4.r]) [0,1,2,3,4,118])))
(.bk 1 b1 (W (t1.1+1),t2.2,t1.2.2) [0,1,2,3,4,5]))))
(.fz 5 AV.int t1.2.2 (λ_=>rfl) (.retH ((⟨L,t1.2.1⟩:Tap),(⟨((ay L p most 0).1).rs,((ay L p most 0).1).ls⟩:Tpl),(bg (⟨((ay L p most 0).1).rs,((ay L p most 0).1).ls⟩:Tpl) ((cA L ((ay L p most 0).2) (⟨((ay L p most 0).1).rs,((ay L p most 0).1).ls⟩:Tpl) 0).1)).1,t1.2.2,true) ⟨[(4,.k,.ref 1 0),(5,.k,.ref 2 0),(6,.k,.sl 1 (t1.2.2.map AV.int) false),(7,.k,.bool true)],[.box (.agg [.sl 1 (L.map AV.int) false,.int t1.2.1]),.box (.agg [.sl 2 ((((ay L p most 0).1).rs).map Rtr.v) false,.sl 5 ((((ay L p most 0).1).ls).map Lnk.v) false]),.box (.agg [.sl 2 ((((bg (⟨((ay L p most 0).1).rs,((ay L p most 0).1).ls⟩:Tpl) ((cA L ((ay L p most 0).2) (⟨((ay L p most 0).1).rs,((ay L p most 0).1).ls⟩:Tpl) 0).1)).1).rs).map Rtr.v) false,.sl 5 ((((bg (⟨((ay L p most 0).1).rs,((ay L p most 0).1).ls⟩:Tpl) ((cA L ((ay L p most 0).2) (⟨((ay L p most 0).1).rs,((ay L p most 0).1).ls⟩:Tpl) 0).1)).1).ls).map Lnk.v) false])]⟩ [0,1,2]))))))))))))))))))
def He(L:List Int)(p:Nat)(most:Int)(I0:Bool→Prop)(I1:Bool→(Int×Nat×List Int)→Prop)(m1:Bool→(Int×Nat×List Int)→Nat)(I2:Bool→Int×Nat×List Int→(Bool×Nat)→Prop)(r0:Tap×Tpl×Tpl×List Int×Bool):=(Hc L p most I0 I1 m1 I2).vc Cc Cd r0
theorem cdt_p(L:List Int)(p:Nat)(most:Int)(h:1≤most∧most≤20)(ok:MU L p most):∃I0 I1 m1 I2,He L p most I0 I1 m1 I2 ((⟨L,(cdT L p most).2⟩:Tap),(cdT L p most).1):=by
 unfold cdT
 generalize hg:(ay L p most 0).1=g
 generalize hq0:(ay L p most 0).2=q0
 generalize hc:(cA L q0 g 0).1=c
 generalize hq:(cA L q0 g 0).2=q
 refine⟨λb=>b=decide ((aI g c).2.2.2≠0∨(bg g c).2≠0),λ_ s=>iW (cP g c) (cdS L (Mod (au L q) 4)) (ab L q,[]) s.1 s.2,λ_ s=>(cP g c).length-s.1.toNat,
  λ_ s u=>∀x,(cP g c)[s.1.toNat]?=some x→cdS L (Mod (au L q) 4) s.2 x=(u.2,if u.1=true then s.2.2++[x.r]else s.2.2),?_⟩
 dsimp only[He,Hc,MT,Ax.vp,Ax.vc];simp only[vcU,rfU,List.length_map]
 have e0:(⟨(ay L p most 0).1.rs,(ay L p most 0).1.ls⟩:Tpl)=g:=hg
 rw[e0,hq0,hc,hq]
 refine⟨h,⟨λe=>?_,λe=>?_⟩,?_⟩
 ·rw[eq_comm,decide_eq_true_iff];exact .inl (by simpa using e)
 ·have e:(aI g c).2.2.2=0:=by simpa using e
  rw[e,Bool.eq_iff_iff,bne_iff_ne,decide_eq_true_iff];simp
 rintro _ rfl
 unfold cdR
 refine⟨λe=>by rw[if_pos (of_decide_eq_true e)],λe=>?_⟩
 rw[if_neg (of_decide_eq_false e)]
 have hl:=Em g c
 generalize hR:cP g c=R at *
 refine⟨iW.zero,?_⟩
 rintro⟨i,s⟩ hs
 simp only at hs ⊢
 have hlen:=hs.len (f:=λs=>s.2.length) (a:=0) (b:=1) (by simp) (λs x _=>LF L _ s x)
 have hi:=hs.idx
 refine⟨λd=>⟨⟨hi,d,λx hx=>⟨λe=>?_,λe=>⟨hi,d,λy hy=>?_⟩⟩⟩,?_⟩,λd=>?_⟩
 ·intro y hy
  rw[hx]at hy;cases hy
  unfold cdS;rw[if_pos e];rfl
 ·rw[hx]at hy;cases hy
  refine⟨λe2 y hy=>?_,λe2 y hy=>?_⟩<;>rw[hx]at hy<;>cases hy<;>unfold cdS<;>rw[if_neg e]
  ·rw[if_pos (eq_of_beq e2)]
   by_cases e3:Mod (au L s.1) 2=0
   ·simp[e3]
   ·simp[e3]
  ·rw[if_neg (by simpa using e2)];rfl
 ·rintro⟨b,q2⟩ hu
  simp only at hu ⊢
  obtain⟨x,hx⟩:∃x,R[i.toNat]?=some x:=⟨_,List.getElem?_eq_getElem (by omega)⟩
  have hu:=hu x hx
  refine⟨λe=>⟨hi,d,λy hy=>⟨by omega,?_⟩⟩,λe=>?_⟩
  ·rw[hx]at hy;cases hy
   exact hs.step (by omega) hx (by rw[hu,if_pos e])
  ·exact hs.step (by omega) hx (by rw[hu,if_neg (by simp[e])])
 ·have:=hs.done d
  unfold cdF
  rw[←this]
def cdt_h(L:List Int)(p:Nat)(most:Int)(h:1≤most∧most≤20):HC Tryz.prog:=⟨16,[.k,.k],[.ref 0 0,.int most],[.box (.agg [.sl 1 (L.map AV.int) false,.int p])],Cc ((⟨L,(cdT L p most).2⟩:Tap),(cdT L p most).1),Cd ((⟨L,(cdT L p most).2⟩:Tap),(cdT L p most).1),aO.of_okh λok ok2=>have ok:MU L p most:=⟨ok,ok2 _ (by simp)⟩;(cdt_p L p most h ok).elim λI0 h=>h.elim λI1 h=>h.elim λm1 h=>h.elim λI2 h=>dX (sh:=(.a [(.a [(.s 2),(.s 5)]),(.a [(.s 2),(.s 5)]),(.s 1),.k])) (enc:=Cc) (hB:=Cd) (a:=(Hc L p most I0 I1 m1 I2).an) h (by kernel_rfl),aq (by kernel_rfl),gc.of (by simp[hcB,dG,AV.belB,allB,fJ,eT,Cc,Cd,ae (v:=AV.int) (λ_=>rfl)])⟩
theorem A8{l:List Tbl}(h:jv l=0):lp l:=by
 obtain⟨h1,h2,_⟩:=gD h
 refine⟨by omega,λb hb=>?_⟩
 have:=iR (h2 b hb)
 exact⟨by omega,λr hr=>by have:=(this.2.2.2.2.1 r hr).2.1;omega⟩
theorem LH{t t':Tpl}(h:t'.rs=t.rs):jx t'=jx t:=by unfold jx;rw[h]
theorem sR{F:Int→Tpl}{p:Pln}{rs:List Rtr}(h:MF F rs)(hp:cH p=true)(hM:∀d,(rs.any λx=>x.id==d)=true→∃M:Int→Nat,∀x y,y∈iE (F x) x d→M y<M x):jX (fh F p rs)=true:=by
 have ha:=vI (p:=p) h hp
 unfold jX
 rw[ha]
 simp only[beq_self_eq_true,Bool.true_and,List.all_eq_true]
 intro b hb r hr
 rw[qx]
 intro k hk
 cases z:p.es.find? λe=>e.id==r.id with
 | none =>
  refine lw ha (M:=λ_=>0) λx hx=>?_
  obtain⟨e,he,_⟩:=vJ h hx
  rw[z]at he;cases he
 | some e =>
  by_cases hd:(rs.any λx=>x.id==e.router)=true
  ·obtain⟨M,hM⟩:=hM e.router hd
   refine lw ha (M:=M) λx hx=>?_
   obtain⟨e',he,hy⟩:=vJ h hx
   rw[z]at he;cases he
   exact hM x _ hy
  ·refine lw ha (M:=λ_=>0) λx hx=>?_
   obtain⟨e',he,hy⟩:=vJ h hx
   rw[z]at he;cases he
   obtain⟨_,_,cx,_⟩:=(dW (h.ok x)).mp hy
   have:=(dU cx).2.2
   unfold aG at this
   rw[h.rs]at this
   exact absurd this hd
theorem zK{t:Tpl}{p:Pln}(hc:aD t=0)(h:jx t=true)(hp:cH p=true):jX (fh (λ_=>t) p t.rs)=true:=
 sR ⟨λ_=>hc,λ_=>h,λ_=>rfl⟩ hp λd hd=>⟨λy=>(aM t y d).1.toNat,λx y hy=>(ni hc hy).1⟩
theorem Hf(L:List Int)(top:Int):∀(l:List Rnk) (s:Nat×List Int),(∀r∈s.2,r∈(l.foldl (cdS L top) s).2)∧(∀x∈l,x.n<top→x.r∈(l.foldl (cdS L top) s).2)∧∀r∈(l.foldl (cdS L top) s).2,r∈s.2∨∃x∈l,x.r=r∧x.n≤top
 | [],s=>⟨λr h=>h,λx hx=>by simp at hx,λr h=>.inl h⟩
 | x::l,s=>by
  obtain⟨h1,h2,h3⟩:=Hf L top l (cdS L top s x)
  have a1:∀r∈s.2,r∈(cdS L top s x).2:=λr hr=>by
   unfold cdS;repeat' split
   all_goals simp[hr]
  have a2:x.n<top→x.r∈(cdS L top s x).2:=λq=>by unfold cdS;rw[if_pos q];simp
  have a3:∀r∈(cdS L top s x).2,r∈s.2∨(r=x.r∧x.n≤top):=λr hr=>by
   unfold cdS at hr
   split at hr
   ·rename_i q
    rcases List.mem_append.mp hr with q2|q2
    ·exact .inl q2
    ·exact .inr ⟨List.mem_singleton.mp q2,by omega⟩
   ·split at hr
    ·rename_i q
     split at hr
     ·rcases List.mem_append.mp hr with q2|q2
      ·exact .inl q2
      ·exact .inr ⟨List.mem_singleton.mp q2,by omega⟩
     ·exact .inl hr
    ·exact .inl hr
  rw[List.foldl_cons]
  refine⟨λr hr=>h1 r (a1 r hr),λy hy q=>?_,λr hr=>?_⟩
  ·rcases List.mem_cons.mp hy with rfl|hy
   ·exact h1 _ (a2 q)
   ·exact h2 y hy q
  ·rcases h3 r hr with q|⟨y,hy,q⟩
   ·rcases a3 r q with q|⟨q1,q2⟩
    ·exact .inl q
    ·exact .inr ⟨x,by simp,q1.symm,q2⟩
   ·exact .inr ⟨y,by simp[hy],q⟩
structure sH (g h:Tpl) (ch:List Int) (c:Chg):Prop where
  e:(aI g c).2.2.2=0
  hh:h=(bg g c).1
  hg:aD g=0
  cap:jx g=true
  ord:∀u v,aG g u=true→aG g v=true→rkP (fW g c) 200000 u<rkP (fW g c) 200000 v→v∈ch→u∈ch
theorem Q7{L:List Int}{p:Nat}(h:(cdT L p 6).1.2.2.2=true):∃c,sH (cdT L p 6).1.1 (cdT L p 6).1.2.1 (cdT L p 6).1.2.2.1 c:=by
 have ht:=Nu L p 6 (by omega)
 unfold cdT at h ⊢
 generalize (ay L p 6 0).1=g at *
 generalize (cA L (ay L p 6 0).2 g 0).1=c at *
 generalize (cA L (ay L p 6 0).2 g 0).2=q at *
 unfold cdR at h ⊢
 by_cases e:(aI g c).2.2.2≠0∨(bg g c).2≠0
 ·rw[if_pos e]at h;cases h
 rw[if_neg e]
 have e1:(aI g c).2.2.2=0:=Classical.byContradiction λq=>e (.inl q)
 refine⟨c,e1,rfl,ht.1,ht.2,λu v hu hv hlt hm=>?_⟩
 obtain⟨_,h2,h3⟩:=Hf L (Mod (au L q) 4) (cP g c) (ab L q,[])
 have hR:cP g c=g.rs.map λr=>⟨r.id,rkP (fW g c) 200000 r.id⟩:=by unfold cP;rw[if_pos e1]
 have hlt:rkP (fW g c) 200000 u<rkP (fW g c) 200000 v:=hlt
 obtain⟨ru,hru,rfl⟩:=bZ.mp hu
 have h3:=h3 v hm
 rcases h3 with h3|⟨x,hx,h4,h5⟩
 ·simp at h3
 ·rw[hR]at hx
  obtain⟨rv,hrv,rfl⟩:=List.mem_map.mp hx
  simp only at h4 h5
  rw[h4]at h5
  exact h2 ⟨ru.id,rkP (fW g c) 200000 ru.id⟩ (by rw[hR];exact List.mem_map.mpr ⟨ru,hru,rfl⟩) (by simp only;omega)
theorem sH.aft{g h:Tpl}{ch:List Int}{c:Chg}(H:sH g h ch c):aD h=0∧jx h=true∧h.rs=g.rs:=by
 obtain⟨hc,hS⟩:=Cp (fv H.e).2.1
 rw[←H.hh]at hS
 exact⟨jk hc hS,by rw[LH hS.rs];exact H.cap,hS.rs⟩
theorem sH.fall{g h:Tpl}{ch:List Int}{c:Chg}(H:sH g h ch c){d:Int}(hd:aG g d=true):∃M:Int→Nat,∀x y,y∈iE (if x∈ch then h else g) x d→M y<M x:=by
 have G:=Jm H.e
 have hk:=mO H.e
 have hgov:=Ae g c H.e
 have hO:=NJ H.e
 have hhas:∀{u v},(be (aI g c).2.1 u v).2=true→aG g u=true∧aG g v=true:=λ{u v} q=>by
  obtain⟨k,hk⟩:=(i9 G.hG u v).mp q
  have:=hk.has G.hG
  rw[gU (kj H.e).2,gU (kj H.e).2]at this
  exact this
 have hd':aG (aI g c).2.1 d=true:=by rw[gU (kj H.e).2];exact hd
 rw[←H.hh]at G hgov
 rcases hk with k|k
 ·rw[k,if_neg (by decide)]at G hgov
  rw[k]at hO
  refine⟨mxM (aI g c).2.1 h (aI g c).2.2.1 (λu=>u ∉ ch) d,λx y hy=>G.falls hd' (λu v hu hp hb hv=>?_) ?_⟩
  ·obtain⟨q1,q2⟩:=hhas hp
   have:=hO.up v u (by unfold te;rw[hp,hb];rfl)
   exact hu (H.ord u v q1 q2 (by omega) hv)
  ·by_cases e:x∈ch
   ·rw[if_pos e]at hy;exact .inr ⟨not_not_intro e,hy⟩
   ·rw[if_neg e]at hy;rw[hgov];exact .inl ⟨e,hy⟩
 ·rw[k,if_pos rfl]at G hgov
  rw[k]at hO
  refine⟨mxM (aI g c).2.1 g (aI g c).2.2.1 (λu=>u∈ch) d,λx y hy=>G.falls hd' (λu v hu hp hb=>?_) ?_⟩
  ·obtain⟨q1,q2⟩:=hhas hp
   have:=hO.up u v (by unfold te;rw[hp,hb];rfl)
   exact H.ord v u q2 q1 (by omega) hu
  ·by_cases e:x∈ch
   ·rw[if_pos e]at hy;rw[hgov];exact .inl ⟨e,hy⟩
   ·rw[if_neg e]at hy;exact .inr ⟨e,hy⟩
theorem sH.fam{g h:Tpl}{ch:List Int}{c:Chg}(H:sH g h ch c):MF (λx=>if x∈ch then h else g) g.rs:=by
 obtain⟨h1,h2,h3⟩:=H.aft
 refine⟨λx=>?_,λx=>?_,λx=>?_⟩<;>split
 ·exact h1
 ·exact H.hg
 ·exact h2
 ·exact H.cap
 ·exact h3
 ·rfl
theorem sH.safe{g h:Tpl}{ch:List Int}{c:Chg}(H:sH g h ch c){p:Pln}(hp:cH p=true):jX (jK g p).1=true∧jX (jK h p).1=true∧jX (tE (jK g p).1 (jK h p).1 ch)=true∧lp (jK g p).1∧lp (jK h p).1:=by
 obtain⟨h1,h2,h3⟩:=H.aft
 have a1:=Cu H.hg H.cap hp
 have a2:=Cu h1 h2 hp
 rw[a1,a2]
 simp only
 refine⟨zK H.hg H.cap hp,zK h1 h2 hp,?_,A8 (vI ⟨λ_=>H.hg,λ_=>H.cap,λ_=>rfl⟩ hp),A8 (vI ⟨λ_=>h1,λ_=>h2,λ_=>rfl⟩ hp)⟩
 rw[h3,JQ]
 exact sR H.fam hp λd hd=>H.fall hd
def Eh(t:List Int):=okL [.sl 1 (t.map AV.int) false]
def IV(t0:Tap):NF:=⟨[(3,.k,.ref 0 0)],[.box (.agg [.sl 1 (t0.L.map AV.int) false,.int t0.p])]⟩
def IU(t0:Tap)(t1:List Int×Bool×Tpl×Tpl):NF:=⟨[(3,.k,.ref 0 0),(4,.k,.ref 1 0),(5,.k,.ref 2 0),(6,(.s 1),.sl 1 (t1.1.map AV.int) false),(7,.k,.bool t1.2.1)],[.box (.agg [.sl 1 (t0.L.map AV.int) false,.int ((((cdT t0.L t0.p 6).2):Nat):Int)]),.box (.agg [.sl 2 (t1.2.2.1.rs.map Rtr.v) false,.sl 5 (t1.2.2.1.ls.map Lnk.v) false]),.box (.agg [.sl 2 (t1.2.2.2.rs.map Rtr.v) false,.sl 5 (t1.2.2.2.ls.map Lnk.v) false])]⟩
def IT(t1:List Int×Bool×Tpl×Tpl)(t2:Pln):NF:=⟨[(4,.k,.ref 0 0),(5,.k,.ref 1 0),(6,.k,.sl 1 (t1.1.map AV.int) false),(8,.k,.ref 2 0)],[.box (.agg [.sl 2 (t1.2.2.1.rs.map Rtr.v) false,.sl 5 (t1.2.2.1.ls.map Lnk.v) false]),.box (.agg [.sl 2 (t1.2.2.2.rs.map Rtr.v) false,.sl 5 (t1.2.2.2.ls.map Lnk.v) false]),.box (.agg [.int t2.sub,.int t2.len,.sl 2 (t2.es.map Edg.v) false])]⟩
def IS(t1:List Int×Bool×Tpl×Tpl)(t2:Pln)(t3:List Tbl):NF:=⟨[(5,.k,.ref 0 0),(6,.k,.sl 1 (t1.1.map AV.int) false),(8,.k,.ref 1 0),(9,(.s 4),.sl 4 (t3.map Tbl.v) false)],[.box (.agg [.sl 2 (t1.2.2.2.rs.map Rtr.v) false,.sl 5 (t1.2.2.2.ls.map Lnk.v) false]),.box (.agg [.int t2.sub,.int t2.len,.sl 2 (t2.es.map Edg.v) false])]⟩
def IR(t1:List Int×Bool×Tpl×Tpl)(t3:List Tbl)(t4:List Tbl):NF:=⟨[(6,.k,.sl 1 (t1.1.map AV.int) false),(9,.k,.sl 4 (t3.map Tbl.v) false),(11,(.s 4),.sl 4 (t4.map Tbl.v) false)],[]⟩
@[reducible] def Eg:Nat→Type
 | 0=>Tap
 | 1=>(List Int)×Bool×Tpl×Tpl
 | 2=>Pln
 | 3=>(List Tbl)
 | 4=>(List Tbl)
 | _=>Unit
def vU(r:Bool):AV:=.bool r
def vT(t:List Int):Ax Tryz.prog Eg (Bool):=
 (.pass (.join 0 (IV) (λ(t0:Tap)=>t0=(((⟨t.take 600,0⟩:Tap)):Tap)) (λb0=>(.callH [] (O3 t) 32
(.bk 0 b0 (((⟨t.take 600,0⟩:Tap)):Tap) [32]))) λ(t0:Tap) =>
(.join 1 (IU t0) (λ(t1:List Int×Bool×Tpl×Tpl)=>t1=(((cdT t0.L t0.p 6).1.2.2.1,(cdT t0.L t0.p 6).1.2.2.2,(cdT t0.L t0.p 6).1.1,(cdT t0.L t0.p 6).1.2.1):List Int×Bool×Tpl×Tpl)) (λb1=>(.req 17 (1≤6∧6≤20) λh1 =>
(.callH [0] (cdt_h t0.L t0.p 6 h1) 17
(.bk 1 b1 ((cdT t0.L t0.p 6).1.2.2.1,(cdT t0.L t0.p 6).1.2.2.2,(cdT t0.L t0.p 6).1.1,(cdT t0.L t0.p 6).1.2.1) [0,113,129])))) λ(t1:List Int×Bool×Tpl×Tpl) =>
(.br 35 (!t1.2.1) (.callP (Cn )
(.ret (true)))
(.join 2 (IT t1) (λ(t2:Pln)=>t2=(((mR t0.L ((cdT t0.L t0.p 6).2) t1.2.2.1 0).1):Pln)) (λb2=>(.req 67 (t1.2.2.1.rs.length≤100) λh2 =>
(.callH [0] (Oc t0.L ((cdT t0.L t0.p 6).2) t1.2.2.1 0 h2) 67
(.bk 2 b2 (((mR t0.L ((cdT t0.L t0.p 6).2) t1.2.2.1 0).1):Pln) [1,2,83])))) λ(t2:Pln) =>
(.join 3 (IS t1 t2) (λ(t3:List Tbl)=>t3=(((jK t1.2.2.1 t2).1):(List Tbl))) (λb3=>(.callP (HT t1.2.2.1 t2)
(.bk 3 b3 (((jK t1.2.2.1 t2).1):(List Tbl)) [1,2]))) λ(t3:List Tbl) =>
(.join 4 (IR t1 t3) (λ(t4:List Tbl)=>t4=(((jK t1.2.2.2 t2).1):(List Tbl))) (λb4=>(.callP (HT t1.2.2.2 t2)
(.bk 4 b4 (((jK t1.2.2.2 t2).1):(List Tbl)) []))) λ(t4:List Tbl) =>
(.callP (vS t3)
(.br 48 (jX t3) (.callP (vS t4)
(.br 112 (jX t4) (.req 160 (lp t3) λh3 =>
(.req 160 (lp t4) λh4 =>
(.callP (OC t3 t4 t1.1 h3 h4)
(.callP (vS (tE t3 t4 t1.1))
(.br 224 (jX (tE t3 t4 t1.1)) (.callP (Cn )
(.ret (true)))
(.ret (false)))))))
(.ret (false))))
(.ret (false)))))))))))
def zQ(t:List Int)(r0:Bool):=(vT t).vp vU r0
theorem NE(t:List Int)(ok:Eh t):zQ t true:=by
 simp only[Eh,okU,Blk.ok,aL,List.length_map]at ok
 dsimp only[zQ,vT,Eg,Ax.vp,Ax.vc];simp only[vcU,rfU,List.length_map]
 refine⟨trivial,?_⟩
 rintro _ rfl
 refine⟨⟨by omega,trivial⟩,?_⟩
 rintro _ rfl
 simp only
 refine⟨λ_=>trivial,λe=>?_⟩
 have e:(cdT (t.take 600) 0 6).1.2.2.2=true:=by simpa using e
 obtain⟨c,H⟩:=Q7 e
 have hl:=(cd H.hg).1
 refine⟨⟨by omega,trivial⟩,?_⟩
 rintro _ rfl
 have hp:=Oa (t.take 600) (cdT (t.take 600) 0 6).2 _ H.hg
 obtain⟨s1,s2,s3,s4,s5⟩:=H.safe hp
 refine⟨trivial,?_⟩
 rintro _ rfl
 refine⟨trivial,?_⟩
 rintro _ rfl
 rw[s1,s2,s3]
 exact⟨λ_=>⟨λ_=>⟨s4,s5,λ_=>trivial,λq=>by cases q⟩,λq=>by cases q⟩,λq=>by cases q⟩
def NG(t:List Int):PC Tryz.prog:=⟨5,[(.s 1)],[.sl 1 (t.map AV.int) false],vU true,ax.of_ok λok=>aw (sh:=.k) (enc:=vU) (a:=(vT t).an) (NE t ok) (by kernel_rfl) (AV.pureB_ok rfl),aq (by kernel_rfl)⟩
end Go.Proofs.YtdoacjojljgdcaaGreat
