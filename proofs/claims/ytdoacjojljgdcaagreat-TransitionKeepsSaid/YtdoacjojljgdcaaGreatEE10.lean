/- Texts joined: SF3 RF6 KC AL3 VA1 VA2 SF4 KW2 FO RT1 TK5 TK6. -/
import Derived.Test.YtdoacjojljgdcaaGreatEE9
set_option linter.unusedVariables false
set_option linter.unusedSimpArgs false
set_option linter.unusedSectionVars false
namespace Go.Proofs.YtdoacjojljgdcaaGreat
open Go Go.Am
theorem Lg{l:List Int}(h:l.Pairwise (·<·))(n:Int):(fK l n).Pairwise (·<·)∧∀y,y∈fK l n↔y=n∨y∈l:=by
 have hlo:∀(j:Nat) x,j<gL l n→l[j]?=some x→x<n:=λj x hj hx=>by
  have:=List.not_of_lt_findIdx hj;rw[u' (ao hx)]at hx;have e:=af' hx;rw[←e];simpa using this
 have hhi:∀(j:Nat) x,gL l n≤j→l[j]?=some x→n≤x:=λj x hj hx=>by
  have hl:=ao hx;have hp:gL l n<l.length:=by omega
  have h1:(λx=>!decide (x<n)) (l[gL l n]'hp)=true:=List.findIdx_getElem (w:=hp);have h2:n≤l[gL l n]'hp:=by simp at h1;exact h1
  rw[u' hl]at hx;have e:=af' hx
  by_cases q:gL l n=j
  ·subst q;rw[←e];exact h2
  ·have:=(ax'.mp h) (gL l n) j hp hl (by omega);rw[e]at this;omega
 have hsplit:l=l.take (gL l n)++l.drop (gL l n):=(bT' _ _).symm;have htk:∀y∈l.take (gL l n),y<n:=λy hy=>by
  obtain⟨j,hj,rfl⟩:=aD'.mp hy;exact hlo j _ (by omega) (u' (by omega))
 have hdr:∀y∈l.drop (gL l n),n≤y:=λy hy=>by
  obtain⟨j,hj⟩:=ag'.mp hy;rw[aH']at hj;exact hhi _ y (by omega) hj
 unfold fK
 split
 ·rename_i e;refine⟨h,λy=>⟨.inr,?_⟩⟩
  rintro(rfl|hy)
  ·exact O' e
  ·exact hy
 ·rename_i e;have hne:∀y∈l.drop (gL l n),n<y:=λy hy=>by
   obtain⟨j,hj⟩:=ag'.mp hy;rw[aH']at hj;have h1:=hhi _ y (by omega) hj
   by_cases q:y=n
   ·subst q;have hl:=ao hj;have hp:gL l y<l.length:=by omega
    have h2:=hhi (gL l y) _ (V' _) (u' hp)
    by_cases q2:j=0
    ·subst q2;exact absurd hj e
    ·have h3:=(ax'.mp h) (gL l y) (gL l y+j) hp hl (by omega);rw[u' hl]at hj;rw[af' hj]at h3;omega
   ·omega
  unfold bF;rw[hsplit]at h;rw[bm']at h
  constructor
  ·rw[aT',bm']
   refine⟨h.1,?_,λa ha b hb=>?_⟩
   ·rw[List.singleton_append,an'];exact⟨hne,h.2.1⟩
   ·have:=htk a ha
    rcases X'.mp hb with hb|hb
    ·rw[L'.mp hb];exact this
    ·have:=hne b hb;omega
  ·intro y;simp only[X',L']
   conv=>rhs;rw[hsplit,X']
   constructor
   ·rintro((q|q)|q)
    ·exact .inr (.inl q)
    ·exact .inl q
    ·exact .inr (.inr q)
   ·rintro(q|q|q)
    ·exact .inl (.inr q)
    ·exact .inl (.inl q)
    ·exact .inr q
theorem rL:∀(s l:List Int),l.Pairwise (·<·)→(s.foldl fK l).Pairwise (·<·)∧∀y,y∈s.foldl fK l↔y∈s∨y∈l
 | [],l,h=>⟨h,λy=>by simp⟩
 | x::s,l,h=>by
  obtain⟨h1,h2⟩:=Lg h x;obtain⟨h3,h4⟩:=rL s (fK l x) h1;refine⟨h3,λy=>?_⟩;rw[at',h4,h2,ad']
  constructor
  ·rintro(q|q|q)
   ·exact .inl (.inr q)
   ·exact .inl (.inl q)
   ·exact .inr q
  ·rintro((q|q)|q)
   ·exact .inr (.inl q)
   ·exact .inl q
   ·exact .inr (.inr q)
theorem sF{t:Tpl}(hc:ay t=0)(h:j6 t=true){q:Int}(hq:az t q=true):lG t q=true:=by
 obtain⟨r,hr,e⟩:=ac'.mp hq;unfold lG;rw[hc];cases z:t.rs.find? (isR q)with
 | none=>have:=cr'.mp z r hr;exact absurd e this
 | some y =>
  have hy:=bl' z;unfold j6 at h;rw[bk',aP']at h;have:=h y hy;unfold HH at this;simp at this;simp[this]
theorem nD{t:Tpl}(hc:ay t=0)(h:j6 t=true)(f g:Int):(eB t f g).Pairwise (·<·)∧∀y∈eB t f g,y∈fv t f g:=by
 unfold eB fv
 by_cases e:hs5 t f=false∨hs5 t g=false
 ·rw[G' (by rcases e with e|e<;>simp[e])];simp
 rw[F' e]
 split
 ·simp
 have hst:∀q∈dW t (to6 t g) f,lG t q=true:=λq hq=>sF hc h (nS hc hq);have hf:∀(s:List Int) (a b:List Int),(∀q∈s,lG t q=true)→s.foldl (hZ t) (a,b)=(a,s.foldl fK b):=λs=>by
  induction s with
  | nil=>intro a b _;rfl
  | cons x s ih =>
   intro a b hs;rw[at',at'];have:hZ t (a,b) x=(a,fK b x):=by unfold hZ;rw[G' (hs x (by simp))]
   rw[this];exact ih a _ λq hq=>hs q (by simp[hq])
 have e2:oL t (to6 t g) 25 0 [f] []=(dW t (to6 t g) f).foldl fK []:=by
  rw[oL];simp only[List.getElem?_cons_zero];rw[hf _ _ _ hst,oL];simp
 rw[e2];obtain⟨h1,h2⟩:=rL (dW t (to6 t g) f) [] List.Pairwise.nil;exact⟨h1,λy hy=>by rcases(h2 y).mp hy with q|q;exact q;simp at q⟩
theorem zD{t:Tpl}(hc:ay t=0)(h:j6 t=true)(f g:Int):f ∉ eB t f g∧(∀y∈eB t f g,az t y=true)∧(eB t f g).length≤24:=by
 obtain⟨h1,h2⟩:=nD hc h f g;have hh:∀y∈eB t f g,az t y=true:=λy hy=>by
  obtain⟨w,he,_⟩:=(dz hc).mp (h2 y hy);exact(he.has hc).2
 refine⟨λq=>?_,hh,?_⟩
 ·have:=(mg hc (h2 f q)).1;omega
 ·have hnd:(eB t f g).Nodup:=h1.imp λq=>by omega
  have:=List.Nodup.length_le_of_subset hnd (show eB t f g ⊆ t.rs.map (·.id)from λy hy=>bc.mpr (hh y hy));rw[B']at this;have:=(cg hc).1;omega
theorem jN{t:Tpl}(hc:ay t=0){x:Int}(h:az t x=true):1≤x∧x≤99:=by
 obtain⟨r,hr,rfl⟩:=cf.mp h;exact(ax hc).rg r hr
theorem Sb{t:Tpl}(hc:ay t=0)(h:j6 t=true){p:Pln}(hp:cu p=true){r:Int}(hr:az t r=true):j3 (ew t p r)=0:=by
 unfold cu at hp;simp only[R',S']at hp;obtain⟨⟨p1,p2,p3⟩,q1,q2,q3⟩:=hp;have hrr:=jN hc hr;have hnx:∀e∈p.es,(eM t r e).nx.Pairwise (·<·)∧(eM t r e).nx.length≤24∧(∀y∈(eM t r e).nx,1≤y∧y≤99)∧(1<(eM t r e).nx.length→r ∉ (eM t r e).nx):=λe he=>by
  unfold eM;simp only
  split
  ·refine⟨co' _ _,by simp,λy hy=>by rw[L'.mp hy];exact hrr,λq=>by simp at q⟩
  ·split
   ·obtain⟨a1,a2,a3⟩:=zD hc h r e.router;exact⟨(nD hc h r e.router).1,a3,λy hy=>jN hc (a2 y hy),λ_=>a1⟩
   ·simp
 have hrow:∀z∈(ew t p r).rows,∃e∈p.es,z=eM t r e:=λz hz=>by
  obtain⟨e,he,rfl⟩:=Y'.mp hz;exact⟨e,he,rfl⟩
 unfold j3
 rw[F',F',F',F']
 ·rw[ce',aP'];intro z hz;obtain⟨e,he,rfl⟩:=hrow z hz;unfold BJ;simp only[R',S',not_and];exact λq=>(hnx e he).2.2.2 q
 ·refine not_not_intro ⟨λz hz=>?_,?_⟩
  ·obtain⟨e,he,rfl⟩:=hrow z hz;unfold Ij;exact decide_eq_true (hnx e he).1
  ·show(p.es.map (eM t r)).Pairwise _;rw[bE']at q3 ⊢;exact q3
 ·rw[ce'];unfold rG;rw[cE',decide_eq_false_iff_not,aP'];refine⟨by show ¬256<(p.es.map (eM t r)).length;rw[B'];omega,λz hz=>?_⟩;obtain⟨e,he,rfl⟩:=hrow z hz;unfold Bh;have:=(hnx e he).2.1;simp;omega
 ·rw[ce'];unfold re;rw[cE',aP']
  constructor
  ·unfold hdB;have a1:inP r 1 99=true:=by unfold inP;simp;omega
   have a2:inP p.sub 0 7=true:=by unfold inP;simp;omega
   show(!((inP r 1 99 && inP p.sub 0 7) && (bz p.len || (p.len==0 && decide ((p.es.map (eM t r)).length=0)))))=false;rw[a1,a2]
   rcases p2 with e|⟨e1,e2⟩
   ·simp[e]
   ·simp[e1,e2]
  ·intro z hz;obtain⟨e,he,rfl⟩:=hrow z hz;have:=(q1 e he).1;unfold P3;rw[aK',not_or]
   constructor
   ·show ¬(!inP e.id 1 256)=true;have:inP e.id 1 256=true:=by unfold inP;simp;omega
    simp[this]
   ·rw[ce',aP'];intro y hy;have:=(hnx e he).2.2.1 y hy;unfold P5 inP;simp;omega
def dD(F:Int→Tpl)(p:Pln)(rs:List Rtr):List Tbl:=rs.map λx=>ew (F x.id) p x.id
structure IR (F:Int→Tpl) (rs:List Rtr):Prop where
  ok:∀x,ay (F x)=0
  cap:∀x,j6 (F x)=true
  rs:∀x,(F x).rs=rs
theorem qG{F:Int→Tpl}{p:Pln}{rs:List Rtr}(h:IR F rs)(hp:cu p=true):j4 (dD F p rs)=0:=by
 have hrs:=h.rs 0;have hO:=ax (h.ok 0);have hB:∀b∈dD F p rs,j3 b=0∧b.sub=p.sub∧b.len=p.len:=λb hb=>by
  obtain⟨x,hx,rfl⟩:=Y'.mp hb;exact⟨Sb (h.ok _) (h.cap _) hp (cf.mpr ⟨x,by rw[h.rs];exact hx,rfl⟩),rfl,rfl⟩
 have hd:∀b∈dD F p rs,(hd0 (dD F p rs)).sub=p.sub∧(hd0 (dD F p rs)).len=p.len:=λb hb=>by
  cases q:dD F p rs with
  | nil=>rw[q]at hb;simp at hb
  | cons c l=>have:=hB c (by rw[q];simp);exact this.2
 unfold j4
 rw[F',F',F',F']
 ·rw[ce',aP'];intro b hb;obtain⟨d1,d2⟩:=hd b hb;obtain⟨_,e1,e2⟩:=hB b hb;unfold s9;rw[d1,d2,e1,e2];simp
 ·refine not_not_intro ?_;unfold uV dD;rw[bE'];have:=hO.asc;rw[hrs]at this;exact this
 ·rw[ce',aP'];intro b hb;unfold uR;rw[(hB b hb).1];simp
 ·unfold dD;rw[B'];have:=hO.nr;rw[hrs]at this;omega
theorem nM{t:Tpl}{p:Pln}(hc:ay t=0)(h:j6 t=true)(hp:cu p=true):jB t p=(dD (λ_=>t) p t.rs,0):=by
 unfold jB dD;rw[F' (by simp[hc,hp])]
 congr 1
 have:∀l:List Rtr,(∀x∈l,x.cap=true)→(l.flatMap λx=>if x.cap=true then [ew t p x.id]else [])=l.map λx=>ew t p x.id:=λl=>by
  induction l with
  | nil=>intro _;rfl
  | cons x l ih =>
   intro hl;rw[au',G' (hl x (by simp)),ih λy hy=>hl y (by simp[hy])];rfl
 refine this _ λx hx=>?_;unfold j6 at h;rw[bk',aP']at h;have:=h x hx;unfold HH at this;simpa using this
theorem l9{F:Int→Tpl}{p:Pln}{rs:List Rtr}{r:Int}:((dD F p rs).find? λb=>b.router==r)=if(rs.any λx=>x.id==r)=true then some (ew (F r) p r)else none:=by
 unfold dD
 induction rs with
 | nil=>rfl
 | cons x l ih =>
  rw[am',List.find?_cons]
  by_cases e:x.id=r
  ·have:((ew (F x.id) p x.id).router==r)=true:=by show(x.id==r)=true;simpa using e
   rw[this,e];simp[e]
  ·have:((ew (F x.id) p x.id).router==r)=false:=by show(x.id==r)=false;simpa using e
   rw[this];have e':(x.id==r)=false:=by simpa using e
   simp only[bA',e',Bool.false_or];exact ih
theorem zn{t t':Tpl}{p:Pln}{rs:List Rtr}{ch:List Int}:nj (dD (λ_=>t) p rs) (dD (λ_=>t') p rs) ch=dD (λx=>if x∈ch then t' else t) p rs:=by
 unfold nj
 conv=>lhs;arg 2;unfold dD
 conv=>rhs;unfold dD
 rw[aV'];refine as' λx hx=>?_;show Bf (dD (λ_=>t') p rs) ch (ew t p x.id)=_;have hf:bu (dD (λ_=>t') p rs) x.id=(ew t' p x.id,true):=by
  unfold bu;rw[l9,G' (ac'.mpr ⟨x,hx,by simp⟩)]
 unfold Bf;show(if(bu (dD (λ_=>t') p rs) x.id).2=true∧x.id∈ch then(bu (dD (λ_=>t') p rs) x.id).1 else ew t p x.id)=ew (if x.id∈ch then t' else t) p x.id;rw[hf]
 by_cases e:x.id∈ch
 ·rw[G' ⟨rfl,e⟩,G' e]
 ·rw[F' (λq=>e q.2),F' e]
theorem vA{F:Int→Tpl}{p:Pln}{rs:List Rtr}(h:IR F rs){id pl x:Int}(hn:nxT (dD F p rs) id pl x≠0):∃e,(p.es.find? λe=>e.id==id)=some e∧nxT (dD F p rs) id pl x∈fv (F x) x e.router:=by
 unfold nxT at hn ⊢;rw[l9]at hn ⊢
 by_cases c:(rs.any λy=>y.id==x)=true
 ·rw[G' c]at hn ⊢;simp only at hn ⊢
  by_cases c2:hU (ew (F x) p x) id pl=x
  ·rw[G' c2]at hn;exact absurd rfl hn
  rw[F' c2]at hn ⊢;unfold hU gr at hn c2 ⊢;have hfd:((ew (F x) p x).rows.find? λr=>r.id==id)=(p.es.find? λe=>e.id==id).map (eM (F x) x):=by
   show((p.es.map (eM (F x) x)).find? λr=>r.id==id)=_;rw[List.find?_map];rfl
  rw[hfd]at hn c2 ⊢;cases z:p.es.find? λe=>e.id==id with
  | none=>rw[z]at hn;simp[iT]at hn
  | some e =>
   rw[z]at hn c2;refine⟨e,rfl,?_⟩;simp only[ak']at hn c2 ⊢;have hm:iT (eM (F x) x e).nx pl∈(eM (F x) x e).nx:=by
    unfold iT at hn ⊢
    split at hn
    ·exact absurd rfl hn
    ·rename_i q;rw[F' q];rw[I']at hn ⊢;cases z2:(eM (F x) x e).nx[(pl.tmod (eM (F x) x e).nx.length).toNat]? with
     | none=>rw[z2]at hn;exact absurd rfl hn
     | some y=>exact O' z2
   generalize iT (eM (F x) x e).nx pl=y at *
   unfold eM at hm;simp only at hm
   split at hm
   ·exact absurd (L'.mp hm) c2
   ·split at hm
    ·exact(nD (h.ok x) (h.cap x) x e.router).2 y hm
    ·simp at hm
 ·rw[F' c]at hn;exact absurd rfl hn
theorem ml{l:List Tbl}(ha:j4 l=0){id pl:Int}{M:Int→Nat}(h:∀x,nxT l id pl x≠0→M (nxT l id pl x)<M x):zq l id pl=[]:=by
 refine P' λhne=>?_;obtain⟨b,m,hb,hB,_,_⟩:=E6 (Hs ha) rfl hne;have key:∀j,j≤m→M (itN (nxT l id pl) b j)+j≤M b:=λj=>by
  induction j with
  | zero=>intro _;exact V' _
  | succ j ih =>
   intro hj;have h1:=ih (by omega);have h2:nxT l id pl (itN (nxT l id pl) b j)≠0:=by
    by_cases e:j+1=m
    ·have:=hB.2.1;rw[←e]at this;show itN (nxT l id pl) b (j+1)≠0;rw[this];exact hb
    ·exact(hB.2.2 (j+1) (by omega) (by omega)).2
   have h3:=h _ h2;show M (nxT l id pl (itN (nxT l id pl) b j))+(j+1)≤M b;omega
 have:=key m (V' _);rw[hB.2.1]at this;have:=hB.1;omega
set_option pp.deepTerms true
set_option pp.maxSteps 100000
def isB(g:Tpl)(ds:List Hop)(x y:Int):Bool:=(aU g x y).2 && p9 g ds x y
structure S7 (rs:List Rtr) (g:Tpl) (ds:List Hop) (a b:Nat) (M:List Bool):Prop where
  ln:M.length=576
  el:∀p q x y,rs[p]?=some x→rs[q]?=some y→(p<a∨p=a∧q<b)→M[p * 24+q]?=some (isB g ds x.id y.id)
theorem S7.set{rs:List Rtr}{g:Tpl}{ds:List Hop}{a b:Nat}{M:List Bool}(h:S7 rs g ds a b M)(hn:rs.length≤24){x y:Rtr}(hx:rs[a]?=some x)(hy:rs[b]?=some y){v:Bool}(hv:v=isB g ds x.id y.id):S7 rs g ds a (b+1) (M.set (a * 24+b) v):=by
 refine⟨by rw[bG'];exact h.ln,λp q x' y' hx' hy' hpq=>?_⟩;have:=ao hx;have:=ao hy;have:=ao hx';have:=ao hy'
 rw[ao']
 by_cases e:a * 24+b=p * 24+q
 ·have e1:a=p:=by omega
  have e2:b=q:=by omega
  subst e1;subst e2;rw[hx]at hx';cases hx';rw[hy]at hy';cases hy';rw[G' rfl,G' (by rw[h.ln];omega),hv]
 ·rw[F' e];exact h.el p q x' y' hx' hy' (by omega)
def mH(L:List Int)(p:Nat)(k:Int):Chg×Nat:=
 (⟨W (1+Mod (am L p) k),W (1+Mod (am L (ab L p)) k),rng L (ab L (ab L p)) 1 6,rng L (ab L (ab L (ab L p))) 1 6⟩,ab L (ab L (ab L (ab L p))))
def RH(L:List Int)(p:Nat)(l:Lnk):Chg×Nat:=
 if Mod (am L p) 6=0 then(⟨l.a,l.b,0,0⟩,ab L p)
 else if Mod (am L p) 6=1 then(⟨l.a,l.b,W (l.ca+rng L (ab L p) 1 4),l.cb⟩,ab L (ab L p))
 else if Mod (am L p) 6=2 then(⟨l.a,l.b,W (l.ca+rng L (ab L p) 0 4),W (l.cb+rng L (ab L (ab L p)) 0 4)⟩,ab L (ab L (ab L p)))
 else if Mod (am L p) 6=3 then(⟨l.a,l.b,rng L (ab L p) 1 l.ca,rng L (ab L (ab L p)) 1 l.cb⟩,ab L (ab L (ab L p)))
 else if Mod (am L p) 6=4 then(⟨l.b,l.a,W (l.cb+Mod (am L (ab L p)) 3),W (l.ca+Mod (am L (ab L (ab L p))) 3)⟩,ab L (ab L (ab L p)))
 else(⟨l.a,l.b,l.ca,1⟩,ab L p)
def pQ(L:List Int)(p:Nat)(g:Tpl):Chg×Nat:=
 if 0<g.ls.length then
  (if 0<Mod (am L (mH L p g.rs.length).2) 4 then
   (match g.ls[(Mod (am L (ab L (mH L p g.rs.length).2)) g.ls.length).toNat]? with
    | some l=>RH L (ab L (ab L (mH L p g.rs.length).2)) l
    | none=>((mH L p g.rs.length).1,0))
   else((mH L p g.rs.length).1,ab L (mH L p g.rs.length).2))
 else mH L p g.rs.length
def chgN(L:List Int)(p:Nat)(c:Chg):Chg×Nat:=
 if Mod (am L p) 4=0 then(⟨Mod (am L (ab L p)) 9,c.b,c.ca,c.cb⟩,ab L (ab L p))
 else if Mod (am L p) 4=1 then(⟨c.a,c.a,c.ca,c.cb⟩,ab L p)
 else if Mod (am L p) 4=2 then(⟨c.a,c.b,fG L (ab L p),c.cb⟩,ab L (ab L p))
 else(⟨c.a,c.b,0,Mod (am L (ab L p)) 2⟩,ab L (ab L p))
def dr(L:List Int)(p:Nat)(g:Tpl)(n:Int):Chg×Nat:=
 if 0<n then
  (if eV L (pQ L p g).2 n=true then chgN L (ab L (pQ L p g).2) (pQ L p g).1 else((pQ L p g).1,ab L (pQ L p g).2))
 else pQ L p g
def H9(L:List Int)(p:Nat)(g:Tpl)(n:Int):=okL [.ref 0 0,Tpl.v g,.int n]∧(.box (.agg [.sl 1 (L.map AV.int) false,.int p]):Blk).ok
def MB(L:List Int)(n:Int)(t0:Chg×Nat):NF:=⟨[rR 0 0,rI 2 n,rR 6 1,rR 8 2],[.box (.agg [.sl 1 (L.map AV.int) false,.int t0.2]),.box (Chg.v (⟨0,0,0,0⟩:Chg)),.box (Chg.v t0.1)]⟩
def MA(L:List Int)(p:Nat)(g:Tpl)(n:Int)(t1:Bool×Nat):NF:=⟨[rR 0 0,rI 2 n,rR 4 1,rR 6 2,rR 8 3,rB 34 t1.1],[.box (.agg [.sl 1 (L.map AV.int) false,.int t1.2]),.box (Tpl.v g),.box (Chg.v (⟨0,0,0,0⟩:Chg)),.box (Chg.v (⟨W (1+(Mod (am L p) ((g.rs.map Rtr.v).length:Int))),W (1+(Mod (am L (ab L p)) ((g.rs.map Rtr.v).length:Int))),rng L (ab L (ab L p)) 1 6,rng L (ab L (ab L (ab L p))) 1 6⟩:Chg))]⟩
def M9(L:List Int)(t0:Chg×Nat)(t2:Bool×Nat):NF:=⟨[rR 0 0,rR 6 1,rR 8 2,rB 117 t2.1],[.box (.agg [.sl 1 (L.map AV.int) false,.int t2.2]),.box (Chg.v (⟨0,0,0,0⟩:Chg)),.box (Chg.v t0.1)]⟩
@[reducible] def H8:Nat→Type
 | 0=>Chg×Nat
 | 1=>Bool×Nat
 | 2=>Bool×Nat
 | _=>Unit
def xQ(r:Tap×Chg):AV:=Chg.v r.2
def xR(r:Tap×Chg):List (Option Blk):=[some (.box (Tap.v r.1))]
def H7(L:List Int)(p:Nat)(g:Tpl)(n:Int)(I0:(Chg×Nat)→Prop)(I1:(Bool×Nat)→Prop)(I2:Chg×Nat→(Bool×Nat)→Prop):Ax Tryz.prog H8 (Tap×Chg):=
 (.callH [0] (bq L p ((g.rs.map Rtr.v).length:Int)) 129
(.callH [0] (bq L (ab L p) ((g.rs.map Rtr.v).length:Int)) 193
(.callH [0] (ep L (ab L (ab L p)) 1 6) 241
(.callH [0] (ep L (ab L (ab L (ab L p))) 1 6) 273
(.join 0 (MB L n) (λ(t0:Chg×Nat)=>I0 t0) (λb0=>(.join 1 (MA L p g n) (λ(t1:Bool×Nat)=>I1 t1) (λb1=>(.br 417 (decide (0<((g.ls.map Lnk.v).length:Int))) (.callH [0] (bq L (ab L (ab L (ab L (ab L p)))) 4) 433
(.bk 1 b1 (decide (0<(Mod (am L (ab L (ab L (ab L (ab L p))))) 4)),ab L (ab L (ab L (ab L (ab L p))))) [0,1,17,305]))
(.bk 1 b1 (false,ab L (ab L (ab L (ab L p)))) [0,1,17,305]))) λ(t1:Bool×Nat) =>
(.br 4 t1.1 (.callH [0] (bq L t1.2 ((g.ls.map Lnk.v).length:Int)) 100
(.elI 116 Lnk.v g.ls (Mod (am L t1.2) ((g.ls.map Lnk.v).length:Int)) λx1 =>
(.callH [0] (bq L (ab L t1.2) 6) 356
(.br 404 ((Mod (am L (ab L t1.2)) 6)==0) (.bk 0 b0 ((⟨x1.a,x1.b,0,0⟩:Chg),ab L (ab L t1.2)) [0,2,3])
(.br 436 ((Mod (am L (ab L t1.2)) 6)==1) (.callH [0] (ep L (ab L (ab L t1.2)) 1 4) 484
(.bk 0 b0 ((⟨x1.a,x1.b,W (x1.ca+(rng L (ab L (ab L t1.2)) 1 4)),x1.cb⟩:Chg),ab L (ab L (ab L t1.2))) [0,2,3]))
(.br 468 ((Mod (am L (ab L t1.2)) 6)==2) (.callH [0] (ep L (ab L (ab L t1.2)) 0 4) 516
(.callH [0] (ep L (ab L (ab L (ab L t1.2))) 0 4) 596
(.bk 0 b0 ((⟨x1.a,x1.b,W (x1.ca+(rng L (ab L (ab L t1.2)) 0 4)),W (x1.cb+(rng L (ab L (ab L (ab L t1.2))) 0 4))⟩:Chg),ab L (ab L (ab L (ab L t1.2)))) [0,2,3])))
(.br 500 ((Mod (am L (ab L t1.2)) 6)==3) (.callH [0] (ep L (ab L (ab L t1.2)) 1 x1.ca) 548
(.callH [0] (ep L (ab L (ab L (ab L t1.2))) 1 x1.cb) 612
(.bk 0 b0 ((⟨x1.a,x1.b,rng L (ab L (ab L t1.2)) 1 x1.ca,rng L (ab L (ab L (ab L t1.2))) 1 x1.cb⟩:Chg),ab L (ab L (ab L (ab L t1.2)))) [0,2,3])))
(.br 532 ((Mod (am L (ab L t1.2)) 6)==4) (.callH [0] (bq L (ab L (ab L t1.2)) 3) 644
(.callH [0] (bq L (ab L (ab L (ab L t1.2))) 3) 724
(.bk 0 b0 ((⟨x1.b,x1.a,W (x1.cb+(Mod (am L (ab L (ab L t1.2))) 3)),W (x1.ca+(Mod (am L (ab L (ab L (ab L t1.2)))) 3))⟩:Chg),ab L (ab L (ab L (ab L t1.2)))) [0,2,3])))
(.bk 0 b0 ((⟨x1.a,x1.b,x1.ca,1⟩:Chg),ab L (ab L t1.2)) [0,2,3])))))))))
(.bk 0 b0 ((⟨W (1+(Mod (am L p) ((g.rs.map Rtr.v).length:Int))),W (1+(Mod (am L (ab L p)) ((g.rs.map Rtr.v).length:Int))),rng L (ab L (ab L p)) 1 6,rng L (ab L (ab L (ab L p))) 1 6⟩:Chg),t1.2) [0,2,3])))) λ(t0:Chg×Nat) =>
(.pass (.join 2 (M9 L t0) (λ(t2:Bool×Nat)=>I2 t0 t2) (λb2=>(.br 51 (decide (0<n)) (.callH [0] (jo L t0.2 n) 83
(.bk 2 b2 (eV L t0.2 n,ab L t0.2) [0,1,2]))
(.bk 2 b2 (false,t0.2) [0,1,2]))) λ(t2:Bool×Nat) =>
(.br 3 t2.1 (.callH [0] (bq L t2.2 4) 19
(.br 67 ((Mod (am L t2.2) 4)==0) (.callH [0] (bq L (ab L t2.2) 9) 83
(.retH ((⟨L,ab L (ab L t2.2)⟩:Tap),(⟨Mod (am L (ab L t2.2)) 9,t0.1.b,t0.1.ca,t0.1.cb⟩:Chg)) ⟨[rR 6 1],[.box (.agg [.sl 1 (L.map AV.int) false,.int (((ab L (ab L t2.2)):Nat):Int)]),.box (Chg.v (⟨Mod (am L (ab L t2.2)) 9,t0.1.b,t0.1.ca,t0.1.cb⟩:Chg))]⟩ [0,1]))
(.br 99 ((Mod (am L t2.2) 4)==1) (.retH ((⟨L,ab L t2.2⟩:Tap),(⟨t0.1.a,t0.1.a,t0.1.ca,t0.1.cb⟩:Chg)) ⟨[rR 6 1],[.box (.agg [.sl 1 (L.map AV.int) false,.int (ab L t2.2)]),.box (Chg.v (⟨t0.1.a,t0.1.a,t0.1.ca,t0.1.cb⟩:Chg))]⟩ [0,1])
(.br 131 ((Mod (am L t2.2) 4)==2) (.callH [0] (lT L (ab L t2.2)) 147
(.retH ((⟨L,ab L (ab L t2.2)⟩:Tap),(⟨t0.1.a,t0.1.b,fG L (ab L t2.2),t0.1.cb⟩:Chg)) ⟨[rR 6 1],[.box (.agg [.sl 1 (L.map AV.int) false,.int (((ab L (ab L t2.2)):Nat):Int)]),.box (Chg.v (⟨t0.1.a,t0.1.b,fG L (ab L t2.2),t0.1.cb⟩:Chg))]⟩ [0,1]))
(.callH [0] (bq L (ab L t2.2) 2) 147
(.retH ((⟨L,ab L (ab L t2.2)⟩:Tap),(⟨t0.1.a,t0.1.b,0,Mod (am L (ab L t2.2)) 2⟩:Chg)) ⟨[rR 6 1],[.box (.agg [.sl 1 (L.map AV.int) false,.int (((ab L (ab L t2.2)):Nat):Int)]),.box (Chg.v (⟨t0.1.a,t0.1.b,0,Mod (am L (ab L t2.2)) 2⟩:Chg))]⟩ [0,1]))))))
(.retH ((⟨L,t2.2⟩:Tap),t0.1) ⟨[rR 6 1],[.box (.agg [.sl 1 (L.map AV.int) false,.int t2.2]),.box (Chg.v t0.1)]⟩ [0,1])))))))))
theorem RI(L:List Int)(p:Nat)(g:Tpl)(n:Int)(ok:H9 L p g n):∃I0 I1 I2,(H7 L p g n I0 I1 I2).vc xQ xR ((⟨L,(dr L p g n).2⟩:Tap),(dr L p g n).1):=by
 refine⟨λs=>s=pQ L p g,λu=>u=(decide (0<g.ls.length∧0<Mod (am L (mH L p g.rs.length).2) 4),if 0<g.ls.length then ab L (mH L p g.rs.length).2 else(mH L p g.rs.length).2),λs u=>u=(decide (0<n∧eV L s.2 n=true),if 0<n then ab L s.2 else s.2),?_⟩;simp only[H9,Tpl.v,okU,Blk.ok,aJ,B']at ok;dsimp only[H7,H8,Ax.vp,Ax.vc];simp only[vcU,rfU,B'];have e0:(mH L p g.rs.length).2=ab L (ab L (ab L (ab L p))):=rfl
 refine⟨⟨⟨λc=>?_,λc=>?_⟩,?_⟩,?_⟩
 ·have c:0<g.ls.length:=by omega
  rw[e0,G' c]
  congr 1
  rw[decide_eq_decide];exact⟨λh=>⟨c,h⟩,λh=>h.2⟩
 ·have c:¬0<g.ls.length:=by omega
  rw[e0,F' c]
  congr 1
  rw[eq_comm,decide_eq_false_iff_not];exact λh=>c h.1
 ·rintro _ rfl;simp only
  refine⟨λc=>?_,λc=>?_⟩
  ·obtain⟨c1,c2⟩:=H' c;rw[G' c1];have hm:=bw (x:=am L (ab L (mH L p g.rs.length).2)) (show 1≤(g.ls.length:Int) by omega);refine⟨hm.1,hm.2,λx hx=>?_⟩;have e:pQ L p g=RH L (ab L (ab L (mH L p g.rs.length).2)) x:=by unfold pQ;rw[G' c1,G' c2,hx]
   rw[e];unfold RH;refine⟨λd=>by rw[G' (eq_of_beq d)],λd=>?_⟩;rw[F' (by simpa using d)];refine⟨λd=>by rw[G' (eq_of_beq d)],λd=>?_⟩;rw[F' (by simpa using d)];refine⟨λd=>by rw[G' (eq_of_beq d)],λd=>?_⟩;rw[F' (by simpa using d)];refine⟨λd=>by rw[G' (eq_of_beq d)],λd=>?_⟩;rw[F' (by simpa using d)];exact⟨λd=>by rw[G' (eq_of_beq d)],λd=>by rw[F' (by simpa using d)]⟩
  ·have c:=T' c;unfold pQ
   by_cases c1:0<g.ls.length
   ·rw[G' c1,G' c1,F' (λh=>c ⟨c1,h⟩)];rfl
   ·rw[F' c1,F' c1];rfl
 ·rintro _ rfl
  refine⟨⟨λc=>?_,λc=>?_⟩,?_⟩
  ·rw[G' c];simp[c]
  ·rw[F' c];simp[c]
  rintro _ rfl;simp only;unfold dr
  refine⟨λc=>?_,λc=>?_⟩
  ·obtain⟨c1,c2⟩:=H' c;rw[G' c1,G' c1,G' c2];unfold chgN;refine⟨λd=>by rw[G' (eq_of_beq d)],λd=>?_⟩;rw[F' (by simpa using d)];refine⟨λd=>by rw[G' (eq_of_beq d)],λd=>?_⟩;rw[F' (by simpa using d)];exact⟨λd=>by rw[G' (eq_of_beq d)],λd=>by rw[F' (by simpa using d)]⟩
  ·have c:=T' c
   by_cases c1:0<n
   ·rw[G' c1,G' c1,F' (λh=>c ⟨c1,h⟩)]
   ·rw[F' c1,F' c1]
def RJ(L:List Int)(p:Nat)(g:Tpl)(n:Int):HC Tryz.prog:=hcO 9 [.k,(.a [(.s 2),(.s 5)]),.k] [.ref 0 0,Tpl.v g,.int n] [.box (.agg [.sl 1 (L.map AV.int) false,.int p])] .k xQ xR ((⟨L,(dr L p g n).2⟩:Tap),(dr L p g n).1) (λok ok2=>let ⟨I0,I1,I2,h⟩:=RI L p g n ⟨ok,ok2 _ (by simp)⟩;⟨_,h,by kernel_rfl⟩) (by kernel_rfl) (by simp[hcB,cS,AV.belB,allB,eH,dG,xQ,xR,Chg.v,Tap.v,Tpl.v,ah (v:=AV.int) (λ_=>rfl),ah (v:=Lnk.v) (λ_=>rfl),ah (v:=Rtr.v) (λ_=>rfl)])
def lP(s:List Int)(q:Int):List Int:=if q∈s then s else s++[q]
def xX(t:Tpl):Nat→Nat→List Int→List Int
 | 0,_,out=>out
 | f+1,i,out=>match out[i]? with
  | some x=>xX t f (i+1) ((eX t x).foldl lP out)
  | none=>out
def Sr(t:Tpl)(r:Int):List Int:=xX t 26 0 [r]
def Ik(t:Tpl)(r:Int):List Int:=(Sr t r).foldl fK []
def Nh(t:Tpl)(t0:Int×List Int):NF:=⟨[rR 2 0,rV 5 1,rI 6 t0.1],[.box (Tpl.v t),vB 1 AV.int t0.2 (λ_=>rfl)]⟩
def Ng(t:Tpl)(t0:Int×List Int)(x1:Int)(t1:Int×List Int):NF:=⟨[rR 2 0,rV 5 1,rI 6 t0.1,(7,.k,.sl 1 ((eX t x1).map AV.int) false),rI 8 t1.1],[.box (Tpl.v t),vB 1 AV.int t1.2 (λ_=>rfl)]⟩
def Nd(t0:Int×List Int)(t2:List Int×Int):NF:=⟨[rV 5 0,(9,(.s 1),.sl 1 (t2.1.map AV.int) false),rI 10 t2.2],[vB 1 AV.int t0.2 (λ_=>rfl)]⟩
@[reducible] def Im:Nat→Type
 | 0=>Int×List Int
 | 1=>Int×List Int
 | 2=>(List Int)×Int
 | _=>Unit
def In(r:List Int):AV:=.sl 1 (r.map AV.int) false
def Il(t:Tpl)(r:Int)(I0:(Int×List Int)→Prop)(m0:(Int×List Int)→Nat)(I1:Int×List Int→Int→(Int×List Int)→Prop)(m1:Int×List Int→Int→(Int×List Int)→Nat)(I2:Int×List Int→(List Int×Int)→Prop)(m2:Int×List Int→(List Int×Int)→Nat):Ax Tryz.prog Im ((List Int)):=
 (.own 48 (.loop 0 (Nh t) I0 m0 (0,[r]) [0,48] λ(t0:Int×List Int) b0 =>
(.br 66 (decide (t0.1<((t0.2.map AV.int).length:Int))) (.elJ 130 AV.int t0.2 t0.1 λx1 =>
(.req 146 (t.rs.length≤1000) λh2 =>
(.callP (Ej t x1 h2)
(.loop 1 (Ng t t0 x1) (I1 t0 x1) (m1 t0 x1) (0,t0.2) [0,1] λ(t1:Int×List Int) b1 =>
(.br 66 (decide (t1.1<(((eX t x1).map AV.int).length:Int))) (.elI 114 AV.int (eX t x1) t1.1 λx3 =>
(.callP (kA t1.2 x3)
(.say (ck (eo [(t1.2.map AV.int)])) (.br 178 (!(decide (x3∈t1.2))) (.elI 226 AV.int (eX t x1) t1.1 λx4 =>
(.own 258 (.apX 274 AV.int t1.2 [x4] (t1.2.length+1)
(.bk 1 b1 (W (t1.1+1),t1.2++[x4]) [0,274]))))
(.bk 1 b1 (W (t1.1+1),t1.2) [0,1])))))
(.bk 0 b0 (W (t0.1+1),t1.2) [0,1]))))))
(.loop 2 (Nd t0) (I2 t0) (m2 t0) ([],0) [1] λ(t2:List Int×Int) b2 =>
(.br 65 (decide (t2.2<((t0.2.map AV.int).length:Int))) (.elJ 129 AV.int t0.2 t2.2 λx5 =>
(.req 145 (t2.1.length≤100000) λh6 =>
(.callP (Fg t2.1 x5 h6)
(.bk 2 b2 (fK t2.1 x5,W (t2.2+1)) [0]))))
(.ret (t2.1)))))))
structure pS (t:Tpl) (r:Int) (s:List Int):Prop where
  nd:s.Nodup
  me:∀x∈s,x=r∨az t x=true
theorem pS.len{t:Tpl}{r:Int}{s:List Int}(h:pS t r s):s.length≤t.rs.length+1:=by
 have:=List.Nodup.length_le_of_subset h.nd (l₂:=r::t.rs.map (·.id)) λx hx=>by
  rcases h.me x hx with e|e
  ·rw[e];simp
  ·exact bh' _ (bc.mpr e)
 rw[ab',B']at this;exact this
theorem pS.one{t:Tpl}{r:Int}{s:List Int}(h:pS t r s){q:Int}(hq:az t q=true):pS t r (lP s q):=by
 unfold lP
 split
 ·exact h
 ·rename_i hn;refine⟨ba'.mpr ⟨h.nd,by simp,λa ha b hb=>by rw[L'.mp hb];rintro rfl;exact hn ha⟩,λx hx=>?_⟩
  rcases X'.mp hx with hx|hx
  ·exact h.me x hx
  ·rw[L'.mp hx];exact .inr hq
theorem pS.fold{t:Tpl}{r:Int}:∀{l:List Int} {s:List Int},pS t r s→(∀q∈l,az t q=true)→pS t r (l.foldl lP s)
 | [],s,h,_=>h
 | q::l,s,h,hs=>(h.one (hs q (by simp))).fold λx hx=>hs x (by simp[hx])
theorem Az:∀(l:List Int) (s:List Int),s.length≤(l.foldl lP s).length
 | [],s=>V' _
 | q::l,s=>aI' (by unfold lP;split<;>simp) (Az l (lP s q))
theorem K5{t:Tpl}(hc:ay t=0){f q:Int}(h:q∈eX t f):az t q=true:=by
 have:=(n0 hc).mp h;exact((bT hc (c:=(aU t f q).1)).mpr (Prod.ext rfl this)).has hc |>.2
theorem So(t:Tpl)(r:Int)(hc:ay t=0):∃I0 m0 I1 m1 I2 m2,(Il t r I0 m0 I1 m1 I2 m2).vp In (Ik t r):=by
 refine⟨λs=>∃k:Nat,s.1=k∧k≤s.2.length∧pS t r s.2∧xX t (26-k) k s.2=Sr t r,λs=>26-s.1.toNat,
  λs0 x s=>∃j:Nat,s.1=j∧j≤(eX t x).length∧s.2=((eX t x).take j).foldl lP s0.2,λ_ x s=>(eX t x).length-s.1.toNat,
  λs0 s=>∃k:Nat,s.2=k∧k≤s0.2.length∧s.1=(s0.2.take k).foldl fK []∧s.1.length≤k,λs0 s=>s0.2.length-s.2.toNat,?_⟩
 dsimp only[Il,Im,Ax.vp,Ax.vc];simp only[vcU,rfU,B'];have hR:=(ax hc).nr;refine⟨⟨0,rfl,by simp,⟨by simp,by simp⟩,rfl⟩,?_⟩;rintro⟨i,out⟩ ⟨k,hi,hk,hI,hO⟩;simp only at hi hk hI hO ⊢;subst hi;have hsl:=hI.len
 refine⟨λd=>?_,λd=>?_⟩
 ·rw[Int.toNat_natCast];refine⟨eu (by omega) d,by omega,λx hx=>⟨by omega,⟨0,rfl,by omega,rfl⟩,?_⟩⟩;have hnl:=o0 (t:=t) (r:=x);have hnh:=λq (h:q∈eX t x)=>K5 hc h;have e:26-k=(26-(k+1))+1:=by omega
  rw[e,xX,hx]at hO;simp only at hO;generalize eX t x=n at hnl hnh hO ⊢;rintro⟨j0,s2⟩ ⟨j,hj0,hj,hs⟩;simp only at hj0 hs ⊢;subst hj0;have hI2:pS t r s2:=by rw[hs];exact hI.fold λq hq=>hnh q (ah' hq)
  have hsl2:=hI2.len
  refine⟨λd2=>⟨by omega,d2,λy hy=>?_⟩,λd2=>?_⟩
  ·have hw:W ((j:Int)+1)=((j+1:Nat):Int):=bf (n:=n.length) (by omega) (by omega);rw[hw];rw[Int.toNat_natCast]at hy ⊢;have hst:(n.take (j+1)).foldl lP out=lP s2 y:=by rw[aP hy,aZ',←hs];rfl
   refine⟨jg (ah (λ_=>rfl) _),λe2=>⟨by omega,d2,λu hu=>?_⟩,λe2=>?_⟩
   ·rw[hy]at hu;cases hu;have e2:¬y∈s2:=by simpa using e2
    exact⟨by omega,⟨j+1,rfl,by omega,by rw[hst,lP,F' e2]⟩,by omega⟩
   ·have e2:y∈s2:=by simpa using e2
    exact⟨⟨j+1,rfl,by omega,by rw[hst,lP,G' e2]⟩,by omega⟩
  ·have hjn:j=n.length:=by omega
   rw[hjn,List.take_length]at hs;rw[←hs]at hO;have hw:W ((k:Int)+1)=((k+1:Nat):Int):=bf (n:=26) (by omega) (by omega);rw[hw];have hpre:=Az n out;rw[←hs]at hpre;exact⟨⟨k+1,rfl,by omega,hI2,hO⟩,by omega⟩
 ·have e:out[k]?=none:=aj' (by omega);have e2:26-k=(26-(k+1))+1:=by omega
  rw[e2,xX,e]at hO;have hO:out=Sr t r:=hO;refine⟨⟨0,rfl,by omega,rfl,by simp⟩,?_⟩;rintro⟨l,i2⟩ ⟨m,hm,hml,hl,hll⟩;simp only at hm hl hll ⊢;subst hm
  refine⟨λd2=>?_,λd2=>?_⟩
  ·rw[Int.toNat_natCast,bf (n:=out.length) (by omega) (by omega)]
   refine⟨eu (by omega) d2,by omega,λx hx=>⟨by omega,⟨m+1,rfl,by omega,?_,?_⟩,by omega⟩⟩
   ·rw[aP hx,aZ',←hl];rfl
   ·have:=tO l x;omega
  ·rw[hl,ai' (by omega),hO];rfl
def Sp(t:Tpl)(r:Int)(hc:ay t=0):PC Tryz.prog:=pcO 76 [(.a [(.s 2),(.s 5)]),.k] [Tpl.v t,.int r] (.s 1) In (Ik t r) (λ_=>let ⟨I0,m0,I1,m1,I2,m2,h⟩:=So t r hc;⟨_,h,by kernel_rfl⟩) rfl (by kernel_rfl)
def pP(t:Tpl)(a b:Int):Bool:=hs5 t a && (hs5 t b && decide (b∈Ik t a))
def GZ(r:Bool):AV:=.bool r
def xE(t:Tpl)(a:Int)(b:Int):Ax Tryz.prog noS (Bool):=
 (.callP (zC t a)
(.br 96 (hs5 t a) (.callP (zC t b)
(.br 176 (hs5 t b) (.req 208 (ay t=0) λh1 =>
(.callP (Sp t a h1)
(.callP (kA (Ik t a) b)
(.ret (decide (b∈(Ik t a)))))))
(.ret (false))))
(.ret (false))))
theorem R2(t:Tpl)(a b:Int):(xE t a b).vp GZ (pP t a b):=by
 dsimp only[xE,noS,Ax.vp,Ax.vc];simp only[vcU,rfU,B'];unfold pP;refine⟨λh1=>⟨λh2=>⟨(bR.mp h1).1,by rw[h1,h2];rfl⟩,λh2=>by rw[h2,cy',Bool.and_false]⟩,λh1=>by rw[h1,cy']⟩
def Ha(t:Tpl)(a:Int)(b:Int):PC Tryz.prog:=pcO 29 [(.a [(.s 2),(.s 5)]),.k,.k] [Tpl.v t,.int a,.int b] .k GZ (pP t a b) (λ_=>⟨(xE t a b),R2 t a b,by kernel_rfl⟩) rfl (by kernel_rfl)
def Qo(x y:Lnk):Prop:=x.b<y.b∨x.b=y.b∧x.a<y.a
def DS(K:Int)(l:Lnk):Prop:=1≤l.a∧l.a<l.b∧l.b≤K∧gt l
structure BS (K b a:Int) (ls:List Lnk):Prop where
  pw:ls.Pairwise Qo
  al:∀l∈ls,DS K l∧(l.b<b∨l.b=b∧l.a<a)
theorem KN{L:List Int}{cost a b K:Int}{p:Nat}(hc:1≤cost∧cost≤1000)(h:1≤a∧a<b∧b≤K):DS K (EE L cost a b p):=by
 have h1:=ta (L:=L) (p:=p) hc;have h2:=ta (L:=L) (p:=ab L p) hc;have h3:=bw (x:=am L (ab L (ab L p))) (show(1:Int)≤4 by omega);refine⟨h.1,h.2.1,h.2.2,?_⟩;unfold gt EE ei;simp only[R',decide_eq_true_eq];omega
theorem wW{L:List Int}{cost b tree K:Int}{skip:Bool}(hc:1≤cost∧cost≤1000)(hb:b≤K):∀{f:Nat} {a:Int} {ls:List Lnk} {p:Nat},BS K b a ls→1≤a→a+f≤b →
  BS K b (a+f) (inM L cost b tree skip f a ls p).1∧(inM L cost b tree skip f a ls p).1.length≤ls.length+f
 | 0,a,ls,p,h,h1,h2=>⟨by rw[inM];simpa using h,by rw[inM];exact V' _⟩
 | f+1,a,ls,p,h,h1,h2=>by
  rw[inM];have e:a+((f+1:Nat):Int)=(a+1)+(f:Int):=by omega
  rw[e]
  split
  ·have hk:=KN (L:=L) (a:=a) (b:=b) (K:=K) (p:=(cnM L a tree skip p).2) hc (by omega);have hI:BS K b (a+1) (ls++[EE L cost a b (cnM L a tree skip p).2]):=by
    refine⟨bm'.mpr ⟨h.pw,by simp,λx hx y hy=>?_⟩,λl hl=>?_⟩
    ·rw[L'.mp hy];have:=(h.al x hx).2;unfold Qo EE;simp only;omega
    ·rcases X'.mp hl with hl|hl
     ·have:=h.al l hl;exact⟨this.1,by omega⟩
     ·rw[L'.mp hl];exact⟨hk,.inr ⟨rfl,by show a<a+1;omega⟩⟩
   obtain⟨g1,g2⟩:=wW (L:=L) (tree:=tree) (skip:=skip) hc hb (p:=ab L (ab L (ab L (cnM L a tree skip p).2))) hI (by omega) (by omega) (f:=f);exact⟨g1,by rw[List.length_append,List.length_singleton]at g2;omega⟩
  ·obtain⟨g1,g2⟩:=wW (L:=L) (tree:=tree) (skip:=skip) hc hb (p:=(cnM L a tree skip p).2) (ls:=ls) (a:=a+1) (f:=f) ⟨h.pw,λl hl=>by have:=h.al l hl;exact⟨this.1,by omega⟩⟩ (by omega) (by omega);exact⟨g1,by omega⟩
theorem DH{L:List Int}{cost K:Int}(hc:1≤cost∧cost≤1000)(hK:K≤7):∀{f:Nat} {b:Int} {ls:List Lnk} {p:Nat},BS K b 1 ls→2≤b→b+f≤K+1 →
  BS K (b+f) 1 (ouM L cost f b ls p).1∧(ouM L cost f b ls p).1.length≤ls.length+6 * f
 | 0,b,ls,p,h,h1,h2=>⟨by rw[ouM];simpa using h,by rw[ouM];exact V' _⟩
 | f+1,b,ls,p,h,h1,h2=>by
  rw[ouM];have e:b+((f+1:Nat):Int)=(b+1)+(f:Int):=by omega
  rw[e];obtain⟨g1,g2⟩:=wW (L:=L) (tree:=rng L p 1 (W (b-1))) (skip:=eV L (ab L p) 9) hc (show b≤K by omega) (p:=ab L (ab L p)) h (by omega) (show(1:Int)+(((b-1).toNat:Nat):Int)≤b by omega);have hI:BS K (b+1) 1 (inR L cost b ls p).1:=⟨g1.pw,λl hl=>by
   have:=g1.al l hl;have h3:=this.1;unfold DS at h3;exact⟨this.1,by omega⟩⟩
  obtain⟨k1,k2⟩:=DH hc hK (L:=L) (p:=(inR L cost b ls p).2) hI (by omega) (by omega) (f:=f);refine⟨k1,?_⟩;have:(inR L cost b ls p).1.length≤ls.length+6:=by
   unfold inR;have:(b-1).toNat≤6:=by omega
   omega
  omega
theorem tG{x y z:Lnk}(h1:aM x y)(h2:aM y z):aM x z:=by unfold aM at *;omega
theorem tv:∀(l out:List Lnk),out.Pairwise aM→(∀x∈l,∀y∈out,aM x y∨aM y x)→l.Pairwise (λx y=>aM x y∨aM y x)→(bj l out).Pairwise aM∧(bj l out).Perm (l++out)
 | [],out,h,_,_=>⟨h,.refl _⟩
 | x::l,out,h,hd,hp=>by
  rw[bj];obtain⟨hp1,hp2⟩:=an'.mp hp;have hperm:=kz out (iz out x) x;have hin:(bF out (iz out x) x).Pairwise aM:=by
   have hle:=yY out x;have ht:∀y∈out.take (iz out x),aM y x:=λy hy=>by
    obtain⟨i,hi,rfl⟩:=aD'.mp hy;have:=List.not_of_lt_findIdx (p:=λy=>!decide (aM y x)) (xs:=out) (i:=i) (by show i<iz out x;omega);simpa using this
   have hdr:∀y∈out.drop (iz out x),aM x y:=λy hy=>by
    obtain⟨i,hi,rfl⟩:=cC'.mp hy;rw[bp']at hi;rw[List.getElem_drop];have h0:aM x (out[iz out x]'(by omega)):=by
     have:=List.findIdx_getElem (p:=λy=>!decide (aM y x)) (xs:=out) (w:=by show iz out x<out.length;omega);have hn:¬aM (out[iz out x]'(by omega)) x:=by simp only[iz];simpa using this
     rcases hd x (by simp) (out[iz out x]'(by omega)) (aA' _)with q|q
     ·exact q
     ·exact absurd q hn
    by_cases e:i=0
    ·subst e;simpa using h0
    ·have:=ax'.mp h (iz out x) (iz out x+i) (by omega) (by omega) (by omega);exact tG h0 this
   unfold bF;rw[aT']
   refine bm'.mpr ⟨h.sublist (List.take_sublist _ _),?_,λy hy z hz=>?_⟩
   ·rw[List.singleton_append];exact an'.mpr ⟨hdr,h.sublist (List.drop_sublist _ _)⟩
   ·rcases X'.mp hz with hz|hz
    ·rw[L'.mp hz];exact ht y hy
    ·exact tG (ht y hy) (hdr z hz)
  have hdd:∀z∈l,∀y∈bF out (iz out x) x,aM z y∨aM y z:=λz hz y hy=>by
   rcases ad'.mp (hperm.mem_iff.mp hy)with rfl|hy
   ·exact(hp1 z hz).symm
   ·exact hd z (by simp[hz]) y hy
  obtain⟨g1,g2⟩:=tv l (bF out (iz out x) x) hin hdd hp2;refine⟨g1,g2.trans ?_⟩;refine((List.Perm.refl l).append hperm).trans ?_;exact List.perm_middle
theorem H3{t:Tpl}(h:S9 t):ay t=0:=by
 unfold ay;rw[F' (by have:=h.nr;have:=h.nl;omega),F' (not_not_intro h.rg),F' (not_not_intro h.asc),F' (not_not_intro h.lr),F' (not_not_intro h.has),F' (not_not_intro h.lt),F' (not_not_intro h.ord)]
theorem LW(L:List Int)(p:Nat):1≤uF L p∧uF L p≤1000:=by
 unfold uF aK;have hm:=bw (x:=am L (ab L p)) (show(1:Int)≤(([1,2,2,5]:List Int).length:Int) by decide);generalize Mod (am L (ab L p)) (([1,2,2,5]:List Int).length:Int)=m at hm;have hm2:0≤m∧m<4:=hm;obtain⟨k,hk⟩:∃k:Nat,m.toNat=k∧k<4:=⟨m.toNat,rfl,by omega⟩
 rw[hk.1]
 match k,hk.2 with
 | 0,_=>decide
 | 1,_=>decide
 | 2,_=>decide
 | 3,_=>decide
theorem OF(L:List Int)(p:Nat)(most:Int)(h:1≤most∧most≤7):ay (aw L p most 0).1=0∧j6 (aw L p most 0).1=true:=by
 have hk:=ta (L:=L) (p:=p) (m:=most) (by omega);unfold aw;rw[F' (λq=>by have:=q.1;omega)];simp only;unfold Cw qF;generalize rng L p 1 most=K at hk;obtain⟨g1,g2⟩:=DH (L:=L) (K:=K) (LW L p) (by omega) (f:=(K-1).toNat) (b:=2) (ls:=[]) (p:=ab L (ab L p)) ⟨by simp,by simp⟩ (by omega) (by omega);generalize (ouM L (uF L p) (K-1).toNat 2 [] (ab L (ab L p))).1=o at g1 g2;obtain⟨s1,s2⟩:=tv o [] (by simp) (by simp) (g1.pw.imp λh=>by unfold Qo at h;unfold aM;omega);have hmem:∀l∈bj o [],DS K l:=λl hl=>by
  have:=s2.mem_iff.mp hl;rw[bo']at this;exact(g1.al l this).1
 have hrs:∀x∈ku K.toNat,1≤x.id∧x.id≤K∧x.cap=true:=λx hx=>by
  obtain⟨i,hi,rfl⟩:=Y'.mp hx;have:=al'.mp hi;exact⟨by simp only;omega,by simp only;omega,rfl⟩
 have hhas:∀a:Int,1≤a→a≤K→az ⟨ku K.toNat,bj o []⟩ a=true:=λa h1 h2=>cf.mpr ⟨⟨((a.toNat-1+1:Nat):Int),true⟩,Y'.mpr ⟨a.toNat-1,al'.mpr (by omega),rfl⟩,by simp only;omega⟩
 refine⟨H3 ⟨by simp only[kW];omega,by rw[ow];simp only[ap']at *;omega,λx hx=>by have:=hrs x hx;omega,?_,λl hl=>(hmem l hl).2.2.2,λl hl=>?_,λl hl=>(hmem l hl).2.1,s1⟩,?_⟩
 ·refine List.Pairwise.map _ (λa b (h:a<b)=>?_) List.pairwise_lt_range;simp only;omega
 ·have:=hmem l hl;unfold DS at this;exact⟨hhas _ (by omega) (by omega),hhas _ (by omega) (by omega)⟩
 ·unfold j6;have:(ku K.toNat).any HH=false:=by
   rw[bZ'];intro q;obtain⟨x,hx,e⟩:=ac'.mp q;rw[HH,(hrs x hx).2.2]at e;cases e
  simp only[this];rfl
structure PlI (rs:List Rtr) (os:List Int) (id:Int) (es:List Edg):Prop where
  asc:(es.map Edg.id).Pairwise (·<·)
  rng:∀e∈es,1≤e.id∧e.id≤id∧e.id≤256∧∃o∈os,∃r,rs[o.toNat]?=some r∧e.router=r.id
  nd:(es.map Edg.router).Nodup
  id0:0≤id
theorem DF{c x:Int}(hc:1≤c∧c≤63):1≤aK [1,1,1,2,c] x∧aK [1,1,1,2,c] x≤63:=by
 unfold aK;have hm:0≤Mod x (([1,1,1,2,c]:List Int).length:Int)∧Mod x (([1,1,1,2,c]:List Int).length:Int)<5:=bw (x:=x) (by simp);generalize Mod x (([1,1,1,2,c]:List Int).length:Int)=m at hm;obtain⟨k,hk,hk5⟩:∃k:Nat,m.toNat=k∧k<5:=⟨m.toNat,rfl,by omega⟩
 rw[hk]
 match k,hk5 with
 | 0,_=>exact⟨by show(1:Int)≤1;decide,by show(1:Int)≤63;decide⟩
 | 1,_=>exact⟨by show(1:Int)≤1;decide,by show(1:Int)≤63;decide⟩
 | 2,_=>exact⟨by show(1:Int)≤1;decide,by show(1:Int)≤63;decide⟩
 | 3,_=>exact⟨by show(1:Int)≤2;decide,by show(2:Int)≤63;decide⟩
 | 4,_=>exact hc
theorem nz{L:List Int}{c:Int}{rs:List Rtr}(hc:1≤c∧c≤63)(hrs:∀(i j:Nat) (x y:Rtr),rs[i]?=some x→rs[j]?=some y→x.id=y.id→i=j):∀{os:List Int} {pre:List Int} {id:Int} {es:List Edg} {p:Nat},
  PlI rs pre id es→(pre++os).Nodup→(∀o∈pre++os,0≤o∧o<rs.length)→id≤63 * pre.length→pre.length+os.length≤100→∃pre',PlI rs pre' (mc L c rs os id es p).1.1 (mc L c rs os id es p).1.2∧(mc L c rs os id es p).1.2.length≤es.length+os.length
 | [],pre,id,es,p,h,hn,ho,hid,hl=>⟨pre,by rw[mc];exact h,by rw[mc];exact V' _⟩
 | o::os,pre,id,es,p,h,hn,ho,hid,hl=>by
  have hpk:=DF (x:=am L (ab L p)) hc;have hn2:(pre++[o]++os).Nodup:=by rw[aT'];exact hn
  have ho2:∀q∈pre++[o]++os,0≤q∧q<rs.length:=by rw[aT'];exact ho
  have hnot:o ∉ pre:=λq=>by
   have:=(ba'.mp hn).2.2 o q o (by simp);exact this rfl
  have hoo:=ho o (by simp);have h0:=h.id0;rw[ab']at hl;have hw:W (id+aK [1,1,1,2,c] (am L (ab L p)))=id+aK [1,1,1,2,c] (am L (ab L p)):=ce (by omega);have up:∀id',id≤id'→PlI rs (pre++[o]) id' es:=λid' hle=>⟨h.asc,λe he=>by
   obtain⟨a1,a2,a3,q,hq,r,hr,e2⟩:=h.rng e he;exact⟨a1,by omega,a3,q,cl' _ hq,r,hr,e2⟩,h.nd,by omega⟩
  rw[mc];rw[hw];generalize hpp:aK [1,1,1,2,c] (am L (ab L p))=w at hpk
  by_cases e1:Mod (am L p) 4=0
  ·rw[G' e1];obtain⟨pre',g1,g2⟩:=nz (L:=L) hc hrs (p:=ab L p) (up id (bg' _)) hn2 ho2 (by simp;omega) (by simp;omega);exact⟨pre',g1,by rw[ab'];omega⟩
  rw[F' e1]
  by_cases e2:id+w≤256
  ·rw[G' e2];have hx:=u' (show o.toNat<rs.length by omega);generalize rs[o.toNat]'(by omega)=r at hx;rw[hx];simp only;have hI:PlI rs (pre++[o]) (id+w) (es++[⟨r.id,id+w⟩]):=by
    have hu:=up (id+w) (by omega)
    refine⟨?_,λe he=>?_,?_,by omega⟩
    ·rw[ay'];refine bm'.mpr ⟨h.asc,by simp,λa ha b hb=>?_⟩;obtain⟨e,he,rfl⟩:=Y'.mp ha;have hb:b=id+w:=by simpa using hb
     have:=(h.rng e he).2.1;omega
    ·rcases X'.mp he with he|he
     ·exact hu.rng e he
     ·rw[L'.mp he];exact⟨by simp only;omega,by simp only;omega,e2,o,by simp,r,hx,rfl⟩
    ·rw[ay'];refine ba'.mpr ⟨h.nd,by simp,λa ha b hb=>?_⟩;obtain⟨e,he,rfl⟩:=Y'.mp ha;have hb:b=r.id:=by simpa using hb
     subst hb;obtain⟨_,_,_,q,hq,r',hr',e3⟩:=h.rng e he;rw[e3];intro e4;have hi:=hrs _ _ _ _ hr' hx e4;have hqq:=ho q (cl' _ hq);have:q=o:=by omega
     exact hnot (this ▸ hq)
   obtain⟨pre',g1,g2⟩:=nz (L:=L) hc hrs (p:=ab L (ab L p)) hI hn2 ho2 (by simp;omega) (by simp;omega);refine⟨pre',g1,?_⟩;rw[List.length_append,List.length_singleton]at g2;rw[ab'];omega
  ·rw[F' e2];obtain⟨pre',g1,g2⟩:=nz (L:=L) hc hrs (p:=ab L (ab L p)) (up (id+w) (by omega)) hn2 ho2 (by simp;omega) (by simp;omega);exact⟨pre',g1,by rw[ab'];omega⟩
theorem zw(L:List Int)(p:Nat):bz (db L p)=true∧8≤db L p∧db L p≤64:=by
 unfold db aK;have hm:0≤Mod (am L p) (KQ.length:Int)∧Mod (am L p) (KQ.length:Int)<5:=bw (x:=am L p) (by decide);generalize Mod (am L p) (KQ.length:Int)=m at hm;obtain⟨k,hk,hk5⟩:∃k:Nat,m.toNat=k∧k<5:=⟨m.toNat,rfl,by omega⟩
 rw[hk]
 match k,hk5 with
 | 0,_=>decide
 | 1,_=>decide
 | 2,_=>decide
 | 3,_=>decide
 | 4,_=>decide
theorem Pv(L:List Int)(p:Nat)(g:Tpl)(hg:ay g=0):cu (dL L p g 0).1=true:=by
 have hO:=ax hg;have hn:=hO.nr;unfold dL;rw[F' (λq=>by have:=q.1;omega)];have hlen:=zw L (ab L p);have hsub:=bw (x:=am L p) (show(1:Int)≤3 by omega);obtain⟨f1,f2⟩:=ou (L:=L) (n:=(g.rs.length:Int)) (p:=ab L (ab L p)) (by omega);have f3:(gf L (g.rs.length:Int) (ab L (ab L p))).1.length=g.rs.length:=by unfold gf;rw[ov];simp
 have hrs:∀(i j:Nat) (x y:Rtr),g.rs[i]?=some x→g.rs[j]?=some y→x.id=y.id→i=j:=λi j x y hx hy e=>by
  have h1:(g.rs.map (·.id))[i]?=some x.id:=by rw[J',hx];rfl
  have h2:(g.rs.map (·.id))[j]?=some x.id:=by rw[J',hy,e];rfl
  exact dM (fX hg) h1 h2
 have hc:W (db L (ab L p)-1)=db L (ab L p)-1:=ce (by omega);obtain⟨pre',h1,h2⟩:=nz (L:=L) (c:=W (db L (ab L p)-1)) (rs:=g.rs) (by rw[hc];omega) hrs (os:=(gf L (g.rs.length:Int) (ab L (ab L p))).1) (pre:=[]) (id:=0) (es:=[]) (p:=(gf L (g.rs.length:Int) (ab L (ab L p))).2) ⟨by simp,by simp,by simp,by omega⟩ (by simpa using f1) (by simpa using f2) (by simp) (by simp;omega);unfold cu;simp only;unfold rb;rw[R',S',S'];simp only[ap',aF']at h2;refine⟨⟨by simp only;omega,.inl hlen.1,by simp only;omega⟩,λe he=>?_,h1.nd,h1.asc⟩;obtain⟨a1,a2,a3,o,ho,r,hr,e2⟩:=h1.rng e he;have:=hO.rg r (bt hr);unfold B2;omega
set_option pp.deepTerms true
set_option pp.maxSteps 100000
def cdS(L:List Int)(top:Int)(s:Nat×List Int)(x:Rnk):Nat×List Int:=
 if x.n<top then(s.1,s.2++[x.r])else if x.n=top then(if Mod (am L s.1) 2=0 then(ab L s.1,s.2++[x.r])else(ab L s.1,s.2))else s
def cdF(L:List Int)(q:Nat)(l:List Rnk):Nat×List Int:=l.foldl (cdS L (Mod (am L q) 4)) (ab L q,[])
def cdR(L:List Int)(g:Tpl)(c:Chg)(q:Nat):(Tpl×Tpl×List Int×Bool)×Nat:=
 if(aD g c).2.2.2≠0∨(bo g c).2≠0 then((g,(bo g c).1,[],false),q)else((g,(bo g c).1,(cdF L q (cV g c)).2,true),(cdF L q (cV g c)).1)
def cdT(L:List Int)(p:Nat)(most:Int):(Tpl×Tpl×List Int×Bool)×Nat:=cdR L (aw L p most 0).1 (dr L (aw L p most 0).2 (aw L p most 0).1 0).1 (dr L (aw L p most 0).2 (aw L p most 0).1 0).2
theorem MG(L:List Int)(top:Int)(s:Nat×List Int)(x:Rnk):(cdS L top s x).2.length≤s.2.length+1:=by
 unfold cdS;repeat' split
 all_goals simp
theorem CR(t:Tpl)(c:Chg):(cV t c).length≤24:=by
 unfold cV
 split
 ·rename_i h;rw[B'];exact(cg (fi h).1).1
 ·simp
def RQ(L:List Int)(p:Nat)(most:Int)(t0:Bool):NF:=⟨[rR 0 0,rR 4 1,rR 5 2,rR 8 3,(10,.k,.sl 2 ((cV (⟨((aw L p most 0).1).rs,((aw L p most 0).1).ls⟩:Tpl) ((dr L ((aw L p most 0).2) (⟨((aw L p most 0).1).rs,((aw L p most 0).1).ls⟩:Tpl) 0).1)).map Rnk.v) false),rR 12 4,rB 40 t0],[.box (.agg [.sl 1 (L.map AV.int) false,.int ((((dr L ((aw L p most 0).2) (⟨((aw L p most 0).1).rs,((aw L p most 0).1).ls⟩:Tpl) 0).2):Nat):Int)]),.box (.agg [.sl 0 [] true,.sl 0 [] true]),.box (.agg [.sl 0 [] true,.sl 0 [] true]),.box (.agg [.sl 2 ((((aw L p most 0).1).rs).map Rtr.v) false,.sl 5 ((((aw L p most 0).1).ls).map Lnk.v) false]),.box (Tpl.v ((bo (⟨((aw L p most 0).1).rs,((aw L p most 0).1).ls⟩:Tpl) ((dr L ((aw L p most 0).2) (⟨((aw L p most 0).1).rs,((aw L p most 0).1).ls⟩:Tpl) 0).1)).1))]⟩
def RP(L:List Int)(p:Nat)(most:Int)(t1:Int×Nat×List Int):NF:=⟨[rR 0 0,rR 4 1,rR 5 2,rR 8 3,(10,.k,.sl 2 ((cV (⟨((aw L p most 0).1).rs,((aw L p most 0).1).ls⟩:Tpl) ((dr L ((aw L p most 0).2) (⟨((aw L p most 0).1).rs,((aw L p most 0).1).ls⟩:Tpl) 0).1)).map Rnk.v) false),rR 12 4,rI 14 (Mod (am L ((dr L ((aw L p most 0).2) (⟨((aw L p most 0).1).rs,((aw L p most 0).1).ls⟩:Tpl) 0).2)) 4),rV 15 5,rI 16 t1.1],[.box (.agg [.sl 1 (L.map AV.int) false,.int t1.2.1]),.box (.agg [.sl 0 [] true,.sl 0 [] true]),.box (.agg [.sl 0 [] true,.sl 0 [] true]),.box (.agg [.sl 2 ((((aw L p most 0).1).rs).map Rtr.v) false,.sl 5 ((((aw L p most 0).1).ls).map Lnk.v) false]),.box (Tpl.v ((bo (⟨((aw L p most 0).1).rs,((aw L p most 0).1).ls⟩:Tpl) ((dr L ((aw L p most 0).2) (⟨((aw L p most 0).1).rs,((aw L p most 0).1).ls⟩:Tpl) 0).1)).1)),vB 1 AV.int t1.2.2 (λ_=>rfl)]⟩
def RO(L:List Int)(p:Nat)(most:Int)(t1:Int×Nat×List Int)(t2:Bool×Nat):NF:=⟨[rR 0 0,rR 4 1,rR 5 2,rR 8 3,(10,.k,.sl 2 ((cV (⟨((aw L p most 0).1).rs,((aw L p most 0).1).ls⟩:Tpl) ((dr L ((aw L p most 0).2) (⟨((aw L p most 0).1).rs,((aw L p most 0).1).ls⟩:Tpl) 0).1)).map Rnk.v) false),rR 12 4,rI 14 (Mod (am L ((dr L ((aw L p most 0).2) (⟨((aw L p most 0).1).rs,((aw L p most 0).1).ls⟩:Tpl) 0).2)) 4),rV 15 5,rI 16 t1.1,rB 71 t2.1],[.box (.agg [.sl 1 (L.map AV.int) false,.int t2.2]),.box (.agg [.sl 0 [] true,.sl 0 [] true]),.box (.agg [.sl 0 [] true,.sl 0 [] true]),.box (.agg [.sl 2 ((((aw L p most 0).1).rs).map Rtr.v) false,.sl 5 ((((aw L p most 0).1).ls).map Lnk.v) false]),.box (Tpl.v ((bo (⟨((aw L p most 0).1).rs,((aw L p most 0).1).ls⟩:Tpl) ((dr L ((aw L p most 0).2) (⟨((aw L p most 0).1).rs,((aw L p most 0).1).ls⟩:Tpl) 0).1)).1)),vB 1 AV.int t1.2.2 (λ_=>rfl)]⟩
@[reducible] def Ob:Nat→Type
 | 0=>Bool
 | 1=>Int×Nat×List Int
 | 2=>Bool×Nat
 | _=>Unit
def HE(r:Tap×Tpl×Tpl×List Int×Bool):AV:=.tup [Tpl.v r.2.1,Tpl.v r.2.2.1,.sl 1 (r.2.2.2.1.map AV.int) false,.bool r.2.2.2.2]
def HF(r:Tap×Tpl×Tpl×List Int×Bool):List (Option Blk):=[some (.box (Tap.v r.1))]
def Oa(L:List Int)(p:Nat)(most:Int)(I0:Bool→Prop)(I1:Bool→(Int×Nat×List Int)→Prop)(m1:Bool→(Int×Nat×List Int)→Nat)(I2:Bool→Int×Nat×List Int→(Bool×Nat)→Prop):Ax Tryz.prog Ob (Tap×Tpl×Tpl×List Int×Bool):=
 (.req 97 (1≤most∧most≤20) λh1 =>
(.callH [0] (OH L p most 0 h1) 97
(.say (Rf ((((aw L p most 0).1).rs).map Rtr.v)) (.cmd (.frzE 97 ((((aw L p most 0).1).rs).map Rtr.v) (ah (λ_=>rfl) (((aw L p most 0).1).rs))) (.say (Rf ((((aw L p most 0).1).ls).map Lnk.v)) (.cmd (.frzE 98 ((((aw L p most 0).1).ls).map Lnk.v) (ah (λ_=>rfl) (((aw L p most 0).1).ls))) (.callH [0] (RJ L ((aw L p most 0).2) (⟨((aw L p most 0).1).rs,((aw L p most 0).1).ls⟩:Tpl) 0) 177
(.callP (yS (⟨((aw L p most 0).1).rs,((aw L p most 0).1).ls⟩:Tpl) ((dr L ((aw L p most 0).2) (⟨((aw L p most 0).1).rs,((aw L p most 0).1).ls⟩:Tpl) 0).1))
(.callP (Sw (⟨((aw L p most 0).1).rs,((aw L p most 0).1).ls⟩:Tpl) ((dr L ((aw L p most 0).2) (⟨((aw L p most 0).1).rs,((aw L p most 0).1).ls⟩:Tpl) 0).1))
(.pass (.join 0 (RQ L p most) (λ(t0:Bool)=>I0 t0) (λb0=>(.br 545 (((aD (⟨((aw L p most 0).1).rs,((aw L p most 0).1).ls⟩:Tpl) ((dr L ((aw L p most 0).2) (⟨((aw L p most 0).1).rs,((aw L p most 0).1).ls⟩:Tpl) 0).1)).2.2.2) != 0) (.bk 0 b0 ((true):Bool) [0,1,17,113,449])
(.bk 0 b0 ((((bo (⟨((aw L p most 0).1).rs,((aw L p most 0).1).ls⟩:Tpl) ((dr L ((aw L p most 0).2) (⟨((aw L p most 0).1).rs,((aw L p most 0).1).ls⟩:Tpl) 0).1)).2) != 0):Bool) [0,1,17,113,449]))) λ(t0:Bool) =>
(.br 5 t0 (.retH ((⟨L,(dr L ((aw L p most 0).2) (⟨((aw L p most 0).1).rs,((aw L p most 0).1).ls⟩:Tpl) 0).2⟩:Tap),(⟨((aw L p most 0).1).rs,((aw L p most 0).1).ls⟩:Tpl),(bo (⟨((aw L p most 0).1).rs,((aw L p most 0).1).ls⟩:Tpl) ((dr L ((aw L p most 0).2) (⟨((aw L p most 0).1).rs,((aw L p most 0).1).ls⟩:Tpl) 0).1)).1,[],false) ⟨[rR 4 1,rR 5 2,(6,.k,.sl 0 [] true),rB 7 false],[.box (.agg [.sl 1 (L.map AV.int) false,.int ((((dr L ((aw L p most 0).2) (⟨((aw L p most 0).1).rs,((aw L p most 0).1).ls⟩:Tpl) 0).2):Nat):Int)]),.box (Tpl.v (⟨((aw L p most 0).1).rs,((aw L p most 0).1).ls⟩:Tpl)),.box (Tpl.v ((bo (⟨((aw L p most 0).1).rs,((aw L p most 0).1).ls⟩:Tpl) ((dr L ((aw L p most 0).2) (⟨((aw L p most 0).1).rs,((aw L p most 0).1).ls⟩:Tpl) 0).1)).1))]⟩ [0,1,2])
(.callH [0] (bq L ((dr L ((aw L p most 0).2) (⟨((aw L p most 0).1).rs,((aw L p most 0).1).ls⟩:Tpl) 0).2) 4) 21
(.cmdL (.nilT 15 1) (.loop 1 (RP L p most) (I1 t0) (m1 t0) (0,ab L ((dr L ((aw L p most 0).2) (⟨((aw L p most 0).1).rs,((aw L p most 0).1).ls⟩:Tpl) 0).2),[]) [0,1,2,3,4,85] λ(t1:Int×Nat×List Int) b1 =>
(.br 70 (decide (t1.1<(((cV (⟨((aw L p most 0).1).rs,((aw L p most 0).1).ls⟩:Tpl) ((dr L ((aw L p most 0).2) (⟨((aw L p most 0).1).rs,((aw L p most 0).1).ls⟩:Tpl) 0).1)).map Rnk.v).length:Int))) (.pass (.join 2 (RO L p most t1) (λ(t2:Bool×Nat)=>I2 t0 t1 t2) (λb2=>(.elI 102 Rnk.v (cV (⟨((aw L p most 0).1).rs,((aw L p most 0).1).ls⟩:Tpl) ((dr L ((aw L p most 0).2) (⟨((aw L p most 0).1).rs,((aw L p most 0).1).ls⟩:Tpl) 0).1)) t1.1 λx2 =>
(.br 198 (decide (x2.n<(Mod (am L ((dr L ((aw L p most 0).2) (⟨((aw L p most 0).1).rs,((aw L p most 0).1).ls⟩:Tpl) 0).2)) 4))) (.bk 2 b2 (true,t1.2.1) [0,1,2,3,4,5])
(.elI 230 Rnk.v (cV (⟨((aw L p most 0).1).rs,((aw L p most 0).1).ls⟩:Tpl) ((dr L ((aw L p most 0).2) (⟨((aw L p most 0).1).rs,((aw L p most 0).1).ls⟩:Tpl) 0).1)) t1.1 λx3 =>
(.br 326 (x3.n==(Mod (am L ((dr L ((aw L p most 0).2) (⟨((aw L p most 0).1).rs,((aw L p most 0).1).ls⟩:Tpl) 0).2)) 4)) (.callH [0] (bq L t1.2.1 2) 342
(.bk 2 b2 ((Mod (am L t1.2.1) 2)==0,ab L t1.2.1) [0,1,2,3,4,5]))
(.bk 2 b2 (false,t1.2.1) [0,1,2,3,4,5])))))) λ(t2:Bool×Nat) =>
(.br 6 t2.1 (.elI 54 Rnk.v (cV (⟨((aw L p most 0).1).rs,((aw L p most 0).1).ls⟩:Tpl) ((dr L ((aw L p most 0).2) (⟨((aw L p most 0).1).rs,((aw L p most 0).1).ls⟩:Tpl) 0).1)) t1.1 λx4 =>
(.apX 118 AV.int t1.2.2 [x4.r] (t1.2.2.length+1)
(.bk 1 b1 (W (t1.1+1),t2.2,t1.2.2++[x4.r]) [0,1,2,3,4,118])))
(.bk 1 b1 (W (t1.1+1),t2.2,t1.2.2) [0,1,2,3,4,5]))))
(.fz 5 AV.int t1.2.2 (λ_=>rfl) (.retH ((⟨L,t1.2.1⟩:Tap),(⟨((aw L p most 0).1).rs,((aw L p most 0).1).ls⟩:Tpl),(bo (⟨((aw L p most 0).1).rs,((aw L p most 0).1).ls⟩:Tpl) ((dr L ((aw L p most 0).2) (⟨((aw L p most 0).1).rs,((aw L p most 0).1).ls⟩:Tpl) 0).1)).1,t1.2.2,true) ⟨[rR 4 1,rR 5 2,(6,.k,.sl 1 (t1.2.2.map AV.int) false),rB 7 true],[.box (.agg [.sl 1 (L.map AV.int) false,.int t1.2.1]),.box (Tpl.v (⟨((aw L p most 0).1).rs,((aw L p most 0).1).ls⟩:Tpl)),.box (Tpl.v ((bo (⟨((aw L p most 0).1).rs,((aw L p most 0).1).ls⟩:Tpl) ((dr L ((aw L p most 0).2) (⟨((aw L p most 0).1).rs,((aw L p most 0).1).ls⟩:Tpl) 0).1)).1))]⟩ [0,1,2]))))))))))))))))))
theorem cdt_p(L:List Int)(p:Nat)(most:Int)(h:1≤most∧most≤20):∃I0 I1 m1 I2,(Oa L p most I0 I1 m1 I2).vc HE HF ((⟨L,(cdT L p most).2⟩:Tap),(cdT L p most).1):=by
 unfold cdT;generalize hg:(aw L p most 0).1=g;generalize hq0:(aw L p most 0).2=q0;generalize hc:(dr L q0 g 0).1=c;generalize hq:(dr L q0 g 0).2=q
 refine⟨λb=>b=decide ((aD g c).2.2.2≠0∨(bo g c).2≠0),λ_ s=>iM (cV g c) (cdS L (Mod (am L q) 4)) (ab L q,[]) s.1 s.2,λ_ s=>(cV g c).length-s.1.toNat,
  λ_ s u=>∀x,(cV g c)[s.1.toNat]?=some x→cdS L (Mod (am L q) 4) s.2 x=(u.2,if u.1=true then s.2.2++[x.r]else s.2.2),?_⟩
 dsimp only[Oa,Ob,Ax.vp,Ax.vc];simp only[vcU,rfU,B'];have e0:(⟨(aw L p most 0).1.rs,(aw L p most 0).1.ls⟩:Tpl)=g:=hg;rw[e0,hq0,hc,hq]
 refine⟨h,⟨λe=>?_,λe=>?_⟩,?_⟩
 ·rw[eq_comm,S'];exact .inl (by simpa using e)
 ·have e:(aD g c).2.2.2=0:=by simpa using e
  rw[e,ae',bne_iff_ne,S'];simp
 rintro _ rfl;unfold cdR;refine⟨λe=>by rw[G' (H' e)],λe=>?_⟩;rw[F' (T' e)];have hl:=CR g c;generalize hR:cV g c=R at *
 refine⟨iM.zero,?_⟩;rintro⟨i,s⟩ hs;simp only at hs ⊢;have hlen:=hs.len (f:=λs=>s.2.length) (a:=0) (b:=1) (by simp) (λs x _=>MG L _ s x);have hi:=hs.idx
 refine⟨λd=>⟨⟨hi,d,λx hx=>⟨λe=>?_,λe=>⟨hi,d,λy hy=>?_⟩⟩⟩,?_⟩,λd=>?_⟩
 ·intro y hy;rw[hx]at hy;cases hy;unfold cdS;rw[G' e];rfl
 ·rw[hx]at hy;cases hy
  refine⟨λe2 y hy=>?_,λe2 y hy=>?_⟩<;>rw[hx]at hy<;>cases hy<;>unfold cdS<;>rw[F' e]
  ·rw[G' (eq_of_beq e2)]
   by_cases e3:Mod (am L s.1) 2=0
   ·simp[e3]
   ·simp[e3]
  ·rw[F' (by simpa using e2)];rfl
 ·rintro⟨b,q2⟩ hu;simp only at hu ⊢;obtain⟨x,hx⟩:∃x,R[i.toNat]?=some x:=⟨_,u' (by omega)⟩
  have hu:=hu x hx
  refine⟨λe=>⟨hi,d,λy hy=>⟨by omega,?_⟩⟩,λe=>?_⟩
  ·rw[hx]at hy;cases hy;exact hs.step (by omega) hx (by rw[hu,G' e])
  ·exact hs.step (by omega) hx (by rw[hu,F' (by simp[e])])
 ·have:=hs.done d;unfold cdF;rw[←this]
def cdt_h(L:List Int)(p:Nat)(most:Int)(h:1≤most∧most≤20):HC Tryz.prog:=hcO 16 [.k,.k] [.ref 0 0,.int most] [.box (.agg [.sl 1 (L.map AV.int) false,.int p])] (.a [(.a [(.s 2),(.s 5)]),(.a [(.s 2),(.s 5)]),(.s 1),.k]) HE HF ((⟨L,(cdT L p most).2⟩:Tap),(cdT L p most).1) (λ_ _=>let ⟨I0,I1,m1,I2,h⟩:=cdt_p L p most h;⟨_,h,by kernel_rfl⟩) (by kernel_rfl) (by simp[hcB,cS,AV.belB,allB,eH,dG,HE,HF,Tap.v,Tpl.v,ah (v:=AV.int) (λ_=>rfl),ah (v:=Lnk.v) (λ_=>rfl),ah (v:=Rtr.v) (λ_=>rfl)])
theorem zd{l:List Tbl}(h:j4 l=0):mf l:=by
 obtain⟨h1,h2,_⟩:=jQ h;refine⟨by omega,λb hb=>?_⟩;have:=jz (h2 b hb);exact⟨by omega,λr hr=>by have:=(this.2.2.2.2.1 r hr).2.1;omega⟩
theorem MH{t t':Tpl}(h:t'.rs=t.rs):j6 t'=j6 t:=by unfold j6;rw[h]
theorem sU{F:Int→Tpl}{p:Pln}{rs:List Rtr}(h:IR F rs)(hp:cu p=true)(hM:∀d,(rs.any λx=>x.id==d)=true→∃M:Int→Nat,∀x y,y∈fv (F x) x d→M y<M x):AN (dD F p rs)=true:=by
 have ha:=qG (p:=p) h hp;unfold AN;rw[ha];simp only[beq_self_eq_true,bQ',aN'];intro b hb r hr;rw[Kv];intro k hk;cases z:p.es.find? λe=>e.id==r.id with
 | none =>
  refine ml ha (M:=λ_=>0) λx hx=>?_;obtain⟨e,he,_⟩:=vA h hx;rw[z]at he;cases he
 | some e =>
  by_cases hd:(rs.any λx=>x.id==e.router)=true
  ·obtain⟨M,hM⟩:=hM e.router hd;refine ml ha (M:=M) λx hx=>?_;obtain⟨e',he,hy⟩:=vA h hx;rw[z]at he;cases he;exact hM x _ hy
  ·refine ml ha (M:=λ_=>0) λx hx=>?_;obtain⟨e',he,hy⟩:=vA h hx;rw[z]at he;cases he;obtain⟨_,_,cx,_⟩:=(dz (h.ok x)).mp hy;have:=(cA cx).2.2;unfold az at this;rw[h.rs]at this;exact absurd this hd
theorem yB{t:Tpl}{p:Pln}(hc:ay t=0)(h:j6 t=true)(hp:cu p=true):AN (dD (λ_=>t) p t.rs)=true:=
 sU ⟨λ_=>hc,λ_=>h,λ_=>rfl⟩ hp λd hd=>⟨λy=>(aC t y d).1.toNat,λx y hy=>(mg hc hy).1⟩
theorem HG(L:List Int)(top:Int):∀(l:List Rnk) (s:Nat×List Int),(∀r∈s.2,r∈(l.foldl (cdS L top) s).2)∧(∀x∈l,x.n<top→x.r∈(l.foldl (cdS L top) s).2)∧∀r∈(l.foldl (cdS L top) s).2,r∈s.2∨∃x∈l,x.r=r∧x.n≤top
 | [],s=>⟨λr h=>h,λx hx=>by simp at hx,λr h=>.inl h⟩
 | x::l,s=>by
  obtain⟨h1,h2,h3⟩:=HG L top l (cdS L top s x);have a1:∀r∈s.2,r∈(cdS L top s x).2:=λr hr=>by
   unfold cdS;repeat' split
   all_goals simp[hr]
  have a2:x.n<top→x.r∈(cdS L top s x).2:=λq=>by unfold cdS;rw[G' q];simp
  have a3:∀r∈(cdS L top s x).2,r∈s.2∨(r=x.r∧x.n≤top):=λr hr=>by
   unfold cdS at hr
   split at hr
   ·rename_i q
    rcases X'.mp hr with q2|q2
    ·exact .inl q2
    ·exact .inr ⟨L'.mp q2,by omega⟩
   ·split at hr
    ·rename_i q
     split at hr
     ·rcases X'.mp hr with q2|q2
      ·exact .inl q2
      ·exact .inr ⟨L'.mp q2,by omega⟩
     ·exact .inl hr
    ·exact .inl hr
  rw[at']
  refine⟨λr hr=>h1 r (a1 r hr),λy hy q=>?_,λr hr=>?_⟩
  ·rcases ad'.mp hy with rfl|hy
   ·exact h1 _ (a2 q)
   ·exact h2 y hy q
  ·rcases h3 r hr with q|⟨y,hy,q⟩
   ·rcases a3 r q with q|⟨q1,q2⟩
    ·exact .inl q
    ·exact .inr ⟨x,by simp,q1.symm,q2⟩
   ·exact .inr ⟨y,by simp[hy],q⟩
structure jC (g h:Tpl) (ch:List Int) (c:Chg):Prop where
  e:(aD g c).2.2.2=0
  hh:h=(bo g c).1
  hg:ay g=0
  cap:j6 g=true
  ord:∀u v,az g u=true→az g v=true→rkP (gJ g c) 200000 u<rkP (gJ g c) 200000 v→v∈ch→u∈ch
theorem RR{L:List Int}{p:Nat}(h:(cdT L p 6).1.2.2.2=true):∃c,jC (cdT L p 6).1.1 (cdT L p 6).1.2.1 (cdT L p 6).1.2.2.1 c:=by
 have ht:=OF L p 6 (by omega);unfold cdT at h ⊢;generalize (aw L p 6 0).1=g at *
 generalize (dr L (aw L p 6 0).2 g 0).1=c at *
 generalize (dr L (aw L p 6 0).2 g 0).2=q at *
 unfold cdR at h ⊢
 by_cases e:(aD g c).2.2.2≠0∨(bo g c).2≠0
 ·rw[G' e]at h;cases h
 rw[F' e];have e1:(aD g c).2.2.2=0:=P' λq=>e (.inl q);refine⟨c,e1,rfl,ht.1,ht.2,λu v hu hv hlt hm=>?_⟩;obtain⟨_,h2,h3⟩:=HG L (Mod (am L q) 4) (cV g c) (ab L q,[]);have hR:cV g c=g.rs.map λr=>⟨r.id,rkP (gJ g c) 200000 r.id⟩:=by unfold cV;rw[G' e1]
 have hlt:rkP (gJ g c) 200000 u<rkP (gJ g c) 200000 v:=hlt;obtain⟨ru,hru,rfl⟩:=cf.mp hu;have h3:=h3 v hm
 rcases h3 with h3|⟨x,hx,h4,h5⟩
 ·simp at h3
 ·rw[hR]at hx;obtain⟨rv,hrv,rfl⟩:=Y'.mp hx;simp only at h4 h5;rw[h4]at h5;exact h2 ⟨ru.id,rkP (gJ g c) 200000 ru.id⟩ (by rw[hR];exact Y'.mpr ⟨ru,hru,rfl⟩) (by simp only;omega)
theorem jC.aft{g h:Tpl}{ch:List Int}{c:Chg}(H:jC g h ch c):ay h=0∧j6 h=true∧h.rs=g.rs:=by
 obtain⟨hc,hS⟩:=A2 (fi H.e).2.1;rw[←H.hh]at hS;exact⟨jR hc hS,by rw[MH hS.rs];exact H.cap,hS.rs⟩
theorem jC.fall{g h:Tpl}{ch:List Int}{c:Chg}(H:jC g h ch c){d:Int}(hd:az g d=true):∃M:Int→Nat,∀x y,y∈fv (if x∈ch then h else g) x d→M y<M x:=by
 have G:=yR H.e;have hk:=kY H.e;have hgov:=qR g c H.e;have hO:=Pd H.e;have hhas:∀{u v},(aU (aD g c).2.1 u v).2=true→az g u=true∧az g v=true:=λ{u v} q=>by
  obtain⟨k,hk⟩:=(jh G.hG u v).mp q;have:=hk.has G.hG;rw[iA (kZ H.e).2,iA (kZ H.e).2]at this;exact this
 have hd':az (aD g c).2.1 d=true:=by rw[iA (kZ H.e).2];exact hd
 rw[←H.hh]at G hgov
 rcases hk with k|k
 ·rw[k,F' (by decide)]at G hgov;rw[k]at hO
  refine⟨mxM (aD g c).2.1 h (aD g c).2.2.1 (λu=>u ∉ ch) d,λx y hy=>G.falls hd' (λu v hu hp hb hv=>?_) ?_⟩
  ·obtain⟨q1,q2⟩:=hhas hp;have:=hO.up v u (by unfold tf;rw[hp,hb];rfl);exact hu (H.ord u v q1 q2 (by omega) hv)
  ·by_cases e:x∈ch
   ·rw[G' e]at hy;exact .inr ⟨not_not_intro e,hy⟩
   ·rw[F' e]at hy;rw[hgov];exact .inl ⟨e,hy⟩
 ·rw[k,G' rfl]at G hgov;rw[k]at hO
  refine⟨mxM (aD g c).2.1 g (aD g c).2.2.1 (λu=>u∈ch) d,λx y hy=>G.falls hd' (λu v hu hp hb=>?_) ?_⟩
  ·obtain⟨q1,q2⟩:=hhas hp;have:=hO.up u v (by unfold tf;rw[hp,hb];rfl);exact H.ord v u q2 q1 (by omega) hu
  ·by_cases e:x∈ch
   ·rw[G' e]at hy;rw[hgov];exact .inl ⟨e,hy⟩
   ·rw[F' e]at hy;exact .inr ⟨e,hy⟩
theorem jC.fam{g h:Tpl}{ch:List Int}{c:Chg}(H:jC g h ch c):IR (λx=>if x∈ch then h else g) g.rs:=by
 obtain⟨h1,h2,h3⟩:=H.aft
 refine⟨λx=>?_,λx=>?_,λx=>?_⟩<;>split
 ·exact h1
 ·exact H.hg
 ·exact h2
 ·exact H.cap
 ·exact h3
 ·rfl
theorem jC.safe{g h:Tpl}{ch:List Int}{c:Chg}(H:jC g h ch c){p:Pln}(hp:cu p=true):AN (jB g p).1=true∧AN (jB h p).1=true∧AN (nj (jB g p).1 (jB h p).1 ch)=true∧mf (jB g p).1∧mf (jB h p).1:=by
 obtain⟨h1,h2,h3⟩:=H.aft;have a1:=nM H.hg H.cap hp;have a2:=nM h1 h2 hp;rw[a1,a2];simp only;refine⟨yB H.hg H.cap hp,yB h1 h2 hp,?_,zd (qG ⟨λ_=>H.hg,λ_=>H.cap,λ_=>rfl⟩ hp),zd (qG ⟨λ_=>h1,λ_=>h2,λ_=>rfl⟩ hp)⟩;rw[h3,zn];exact sU H.fam hp λd hd=>H.fall hd
def bts0(L:List Int)(p:Nat):Int:=bXor .u64 (IntKind.u64.wrap (IntKind.u64.wrap (am L p) * 11400714819323198485)) (IntKind.u64.wrap (am L (ab L p)))
def RW(L:List Int)(p:Nat)(b len:Int):Int×Nat:=
 if Mod (am L p) 6=0 then(0,ab L p)else if Mod (am L p) 6=1 then(dd (Mod (am L (ab L p)) len),ab L (ab L p))
 else if Mod (am L p) 6=2 then(18446744073709551615,ab L p)else(b,ab L p)
def uQ(L:List Int)(p:Nat)(len:Int):Int×Nat:=RW L (ab L (ab L p)) (bts0 L p) len
def lJ(L:List Int)(p:Nat)(len:Int):Int×Nat:=(fc .u64 (uQ L p len).1 (ia len),(uQ L p len).2)
def MR(L:List Int)(length:Int)(t0:Int×Nat):NF:=⟨[rI 1 length,(5,.k,.val (.int .u64 t0.1))],[.box (.agg [.sl 1 (L.map AV.int) false,.int t0.2])]⟩
@[reducible] def HN:Nat→Type
 | 0=>Int×Nat
 | _=>Unit
def xT(r:Tap×Int):AV:=.val (.int .u64 r.2)
def xU(r:Tap×Int):List (Option Blk):=[some (.box (Tap.v r.1))]
def HM(L:List Int)(p:Nat)(length:Int)(I0:(Int×Nat)→Prop):Ax Tryz.prog HN (Tap×Int):=
 (.callH [0] (vT L p) 33
(.callH [0] (vT L (ab L p)) 97
(.join 0 (MR L length) (λ(t0:Int×Nat)=>I0 t0) (λb0=>(.callH [0] (bq L (ab L (ab L p)) 6) 177
(.br 225 ((Mod (am L (ab L (ab L p))) 6)==0) (.bk 0 b0 (0,ab L (ab L (ab L p))) [0])
(.br 257 ((Mod (am L (ab L (ab L p))) 6)==1) (.callH [0] (bq L (ab L (ab L (ab L p))) length) 289
(.callP (kG (Mod (am L (ab L (ab L (ab L p)))) length))
(.bk 0 b0 (dd (Mod (am L (ab L (ab L (ab L p)))) length),ab L (ab L (ab L (ab L p)))) [0])))
(.br 289 ((Mod (am L (ab L (ab L p))) 6)==2) (.bk 0 b0 (18446744073709551615,ab L (ab L (ab L p))) [0])
(.bk 0 b0 (bXor .u64 (IntKind.u64.wrap ((IntKind.u64.wrap (am L p)) * 11400714819323198485)) (IntKind.u64.wrap (am L (ab L p))),ab L (ab L (ab L p))) [0])))))) λ(t0:Int×Nat) =>
(.callP (zM length)
(.retH ((⟨L,t0.2⟩:Tap),fc .u64 t0.1 (ia length)) ⟨[(4,.k,.val (.int .u64 (fc .u64 t0.1 (ia length))))],[.box (.agg [.sl 1 (L.map AV.int) false,.int t0.2])]⟩ [0])))))
theorem RU(L:List Int)(p:Nat)(len:Int):∃I0,(HM L p len I0).vc xT xU ((⟨L,(lJ L p len).2⟩:Tap),(lJ L p len).1):=by
 refine⟨λs=>s=uQ L p len,?_⟩;dsimp only[HM,HN,Ax.vp,Ax.vc];simp only[vcU,rfU,B'];unfold lJ uQ RW
 refine⟨⟨λa=>by rw[G' (eq_of_beq a)],λa=>?_⟩,?_⟩
 ·rw[F' (by simpa using a)];refine⟨λc=>by rw[G' (eq_of_beq c)],λc=>?_⟩;rw[F' (by simpa using c)];exact⟨λd=>by rw[G' (eq_of_beq d)],λd=>by rw[F' (by simpa using d)];rfl⟩
 ·rintro _ rfl;rfl
def HO(L:List Int)(p:Nat)(length:Int):HC Tryz.prog:=hcO 63 [.k,.k] [.ref 0 0,.int length] [.box (.agg [.sl 1 (L.map AV.int) false,.int p])] .k xT xU ((⟨L,(lJ L p length).2⟩:Tap),(lJ L p length).1) (λ_ _=>let ⟨I0,h⟩:=RU L p length;⟨_,h,by kernel_rfl⟩) (by kernel_rfl) (by simp[hcB,cS,AV.belB,allB,eH,dG,xT,xU,Tap.v,ah (v:=AV.int) (λ_=>rfl)])
def vy(L:List Int):Nat→Nat→List Int→List Int×Nat
 | 0,q,o=>(o,q)
 | n+1,q,o=>vy L n (ab L q) (o++[IntKind.u8.wrap (Mod (am L q) 256)])
def Cs(L:List Int)(p:Nat)(m:Int):List Int×Nat:=vy L (rng L p 0 m).toNat (ab L p) []
def lV(L:List Int)(p:Nat)(m:Int):ByteArray×Nat:=(B8 (Cs L p m).1,(Cs L p m).2)
def Ji(L:List Int)(t0:Int×Nat×List Int):NF:=⟨[rR 0 0,rV 5 1,rI 6 t0.1],[.box (.agg [.sl 1 (L.map AV.int) false,.int t0.2.1]),vB 1 (λx=>AV.val (.int .u8 x)) t0.2.2 (λ_=>rfl)]⟩
@[reducible] def Cr:Nat→Type
 | 0=>Int×Nat×List Int
 | _=>Unit
def vw(r:Tap×ByteArray):AV:=.str r.2
def vx(r:Tap×ByteArray):List (Option Blk):=[some (.box (Tap.v r.1))]
def Cq(L:List Int)(p:Nat)(most:Int)(I0:(Int×Nat×List Int)→Prop)(m0:(Int×Nat×List Int)→Nat):Ax Tryz.prog Cr (Tap×ByteArray):=
 (.callH [0] (ep L p 0 most) 65
(.cmdL (.nilT 5 1) (.loop 0 (Ji L) I0 m0 (rng L p 0 most,ab L p,[]) [0,97] λ(t0:Int×Nat×List Int) b0 =>
(.br 34 (decide (0<t0.1)) (.callH [0] (bq L t0.2.1 256) 66
(.apX 114 (λx=>AV.val (.int .u8 x)) t0.2.2 [IntKind.u8.wrap (Mod (am L t0.2.1) 256)] (t0.2.2.length+1)
(.bk 0 b0 (W (t0.1-1),ab L t0.2.1,t0.2.2++[IntKind.u8.wrap (Mod (am L t0.2.1) 256)]) [0,114])))
(.say (λR=>SbB (t0.2.2.map (λx=>AV.val (.int .u8 x))) (AV.str (B8 t0.2.2)) ∧
R) (.rep 50 AV.str (B8 t0.2.2)
(.retH ((⟨L,t0.2.1⟩:Tap),B8 t0.2.2) ⟨[(4,.k,.str (B8 t0.2.2))],[.box (.agg [.sl 1 (L.map AV.int) false,.int t0.2.1])]⟩ [0])))))))
theorem OD(L:List Int)(p:Nat)(m:Int)(h:0≤m∧m≤1000):∃I0 m0,(Cq L p m I0 m0).vc vw vx ((⟨L,(lV L p m).2⟩:Tap),(lV L p m).1):=by
 have hr:=vM (L:=L) (p:=p) (lo:=0) (hi:=m) (by omega);refine⟨λs=>∃k:Nat,s.1=k∧s.2.2.length+k≤1000∧vy L k s.2.1 s.2.2=Cs L p m,λs=>s.1.toNat,?_⟩;dsimp only[Cq,Cr,Ax.vp,Ax.vc];simp only[vcU,rfU,B'];refine⟨⟨(rng L p 0 m).toNat,by omega,by simp;omega,rfl⟩,?_⟩;rintro⟨i,q,o⟩ ⟨k,h1,h2,h3⟩;simp only at h1 h2 h3 ⊢;subst h1
 refine⟨λc=>?_,λc=>?_⟩
 ·obtain⟨k,rfl⟩:∃j,k=j+1:=⟨k-1,by omega⟩
  rw[vy]at h3;have hw:W (((k+1:Nat):Int)-1)=(k:Nat):=by rw[ce (by omega)];omega
  rw[hw];exact⟨by omega,⟨k,rfl,by simp;omega,h3⟩,by omega⟩
 ·obtain rfl:k=0:=by omega
  rw[vy]at h3;unfold lV;rw[←h3];exact⟨trivial,rfl⟩
def OE(L:List Int)(p:Nat)(most:Int)(h:0≤most∧most≤1000):HC Tryz.prog:=hcO 100 [.k,.k] [.ref 0 0,.int most] [.box (.agg [.sl 1 (L.map AV.int) false,.int p])] .k vw vx ((⟨L,(lV L p most).2⟩:Tap),(lV L p most).1) (λ_ _=>let ⟨I0,m0,h⟩:=OD L p most h;⟨_,h,by kernel_rfl⟩) (by kernel_rfl) (by simp[hcB,cS,AV.belB,allB,eH,dG,vw,vx,Tap.v,ah (v:=AV.int) (λ_=>rfl)])
def eQ(L:List Int)(p:Nat):Pkt×Nat:=
 let b:=lJ L (ab L (ab L (ab L (ab L (ab L (ab L (ab L (ab L p)))))))) (db L p)
 (⟨rng L (ab L p) 1 3,rng L (ab L (ab L p)) 0 7,aK [0,0,1,2,31] (am L (ab L (ab L (ab L p)))),db L p,
  aK [0,1,2,5,63] (am L (ab L (ab L (ab L (ab L p))))),Mod (am L (ab L (ab L (ab L (ab L (ab L p)))))) 1024,
  aK [0,1,8,255,256] (am L (ab L (ab L (ab L (ab L (ab L (ab L p))))))),Mod (am L (ab L (ab L (ab L (ab L (ab L (ab L (ab L p)))))))) 8,
  b.1,(lV L b.2 6).1⟩,(lV L b.2 6).2)
abbrev fR(L:List Int)(p:Nat):=(ab L (ab L (ab L (ab L (ab L (ab L p))))))
abbrev gA(L:List Int)(p:Nat):=(lJ L (ab L (ab L (fR L p))) (db L p))
def wi(r:Tap×Pkt):AV:=Pkt.v r.2
def wj(r:Tap×Pkt):List (Option Blk):=[some (.box (Tap.v r.1))]
def wh(L:List Int)(p:Nat):Ax Tryz.prog noS (Tap×Pkt):=
 (.callH [0] (EJ L p) 33
(.callH [0] (ep L (ab L p) 1 3) 81
(.callH [0] (ep L (ab L (ab L p)) 0 7) 113
(.req 161 ([0,0,1,2,31]≠[]) λh1 =>
(.callH [0] (fI L (ab L (ab L (ab L p))) [0,0,1,2,31] h1) 161
(.req 225 ([0,1,2,5,63]≠[]) λh2 =>
(.callH [0] (fI L (ab L (ab L (ab L (ab L p)))) [0,1,2,5,63] h2) 225
(.callH [0] (bq L (ab L (ab L (ab L (ab L (ab L p))))) 1024) 257
(.req 305 ([0,1,8,255,256]≠[]) λh3 =>
(.callH [0] (fI L (fR L p) [0,1,8,255,256] h3) 305
(.callH [0] (bq L (ab L (fR L p)) 8) 337
(.callH [0] (HO L (ab L (ab L (fR L p))) (db L p)) 385
(.req 417 (0≤6∧6≤1000) λh4 =>
(.callH [0] (OE L ((gA L p).2) 6 h4) 417
(.retH ((⟨L,(lV L ((gA L p).2) 6).2⟩:Tap),(⟨rng L (ab L p) 1 3,rng L (ab L (ab L p)) 0 7,aK [0,0,1,2,31] (am L (ab L (ab L (ab L p)))),db L p,aK [0,1,2,5,63] (am L (ab L (ab L (ab L (ab L p))))),Mod (am L (ab L (ab L (ab L (ab L (ab L p)))))) 1024,aK [0,1,8,255,256] (am L (fR L p)),Mod (am L (ab L (fR L p))) 8,(gA L p).1,(lV L ((gA L p).2) 6).1⟩:Pkt)) ⟨[rR 4 1],[.box (.agg [.sl 1 (L.map AV.int) false,.int ((((lV L ((gA L p).2) 6).2):Nat):Int)]),.box (Pkt.v (⟨rng L (ab L p) 1 3,rng L (ab L (ab L p)) 0 7,aK [0,0,1,2,31] (am L (ab L (ab L (ab L p)))),db L p,aK [0,1,2,5,63] (am L (ab L (ab L (ab L (ab L p))))),Mod (am L (ab L (ab L (ab L (ab L (ab L p)))))) 1024,aK [0,1,8,255,256] (am L (fR L p)),Mod (am L (ab L (fR L p))) 8,(gA L p).1,(lV L ((gA L p).2) 6).1⟩:Pkt))]⟩ [0,1])))))))))))))))
theorem Py(L:List Int)(p:Nat):(wh L p).vc wi wj ((⟨L,(eQ L p).2⟩:Tap),(eQ L p).1):=by
 dsimp only[wh,noS,fR,gA,Ax.vp,Ax.vc];simp only[vcU,rfU,B'];exact⟨by simp,by simp,by simp,by omega,rfl⟩
def Pz(L:List Int)(p:Nat):HC Tryz.prog:=hcO 61 [.k,.k] [.ref 0 0,.int 0] [.box (.agg [.sl 1 (L.map AV.int) false,.int p])] .k wi wj ((⟨L,(eQ L p).2⟩:Tap),(eQ L p).1) (λ_ _=>⟨(wh L p),Py L p,by kernel_rfl⟩) (by kernel_rfl) (by simp[hcB,cS,AV.belB,allB,eH,dG,wi,wj,Pkt.v,Tap.v,ah (v:=AV.int) (λ_=>rfl)])
def xj(L:List Int)(p:Nat)(a:Pln):Pkt:=⟨1,a.sub,0,if a.len=0 then 8 else a.len,(eQ L p).1.ttl,(eQ L p).1.ent,(eQ L p).1.ing,(eQ L p).1.proto,0,(eQ L p).1.pay⟩
def forW(k:Pkt)(s:Int):Pkt:=⟨k.mode,k.sub,s,k.len,k.ttl,k.ent,k.ing,k.proto,k.bits,k.pay⟩
def L5(k:Pkt)(b:Int):Pkt:=⟨k.mode,k.sub,k.set,k.len,k.ttl,k.ent,k.ing,k.proto,bOr .u64 k.bits b,k.pay⟩
def rT(L:List Int)(p:Nat)(a:Pln):Pkt×Nat:=match a.es[(Mod (am L (eQ L p).2) a.es.length).toNat]? with
 | some x=>(forW (xj L p a) (i7 x.id a.len).1,ab L (eQ L p).2)
 | none=>(xj L p a,(eQ L p).2)
def xg(L:List Int)(a:Pln)(s:Pkt×Nat)(x:Edg):Pkt×Nat:=
 if(i7 x.id a.len).1=s.1.set then(if 0<Mod (am L s.2) 4 then(L5 s.1 (dd (i7 x.id a.len).2.1),ab L s.2)else(s.1,ab L s.2))else s
def QL(L:List Int)(s:Pkt×Nat):Pkt×Nat:=if eV L s.2 6=true then(L5 s.1 (lJ L (ab L s.2) s.1.len).1,(lJ L (ab L s.2) s.1.len).2)else(s.1,ab L s.2)
def iB(L:List Int)(p:Nat)(a:Pln):Pkt×Nat:=QL L (a.es.foldl (xg L a) (rT L p a))
def FS(L:List Int)(p:Nat)(a1:Pln):=okL [.ref 0 0,Pln.v a1]∧(.box (.agg [.sl 1 (L.map AV.int) false,.int p]):Blk).ok
def L4(L:List Int)(p:Nat)(a1:Pln)(t0:Pkt):NF:=⟨[rR 0 0,rR 3 1,rR 4 2,rR 5 3],[.box (.agg [.sl 1 (L.map AV.int) false,.int ((((eQ L p).2):Nat):Int)]),.box (Pln.v a1),.box (Pkt.v (⟨0,0,0,0,0,0,0,0,0,B []⟩:Pkt)),.box (Pkt.v t0)]⟩
def L3(L:List Int)(a1:Pln)(t1:Pkt×Nat):NF:=⟨[rR 0 0,rR 3 1,rR 4 2,rR 5 3],[.box (.agg [.sl 1 (L.map AV.int) false,.int t1.2]),.box (Pln.v a1),.box (Pkt.v (⟨0,0,0,0,0,0,0,0,0,B []⟩:Pkt)),.box (Pkt.v t1.1)]⟩
def L2(L:List Int)(a1:Pln)(t2:Int×Pkt×Nat):NF:=⟨[rR 0 0,rR 3 1,rR 4 2,rR 5 3,rI 6 t2.1],[.box (.agg [.sl 1 (L.map AV.int) false,.int t2.2.2]),.box (Pln.v a1),.box (Pkt.v (⟨0,0,0,0,0,0,0,0,0,B []⟩:Pkt)),.box (Pkt.v t2.2.1)]⟩
def L1(L:List Int)(a1:Pln)(t2:Int×Pkt×Nat)(x2:Edg)(t3:Bool×Nat):NF:=⟨[rR 0 0,rR 3 1,rR 4 2,rR 5 3,rI 6 t2.1,rI 8 ((i7 x2.id a1.len).2.1),rB 75 t3.1],[.box (.agg [.sl 1 (L.map AV.int) false,.int t3.2]),.box (Pln.v a1),.box (Pkt.v (⟨0,0,0,0,0,0,0,0,0,B []⟩:Pkt)),.box (Pkt.v t2.2.1)]⟩
@[reducible] def FR:Nat→Type
 | 0=>Pkt
 | 1=>Pkt×Nat
 | 2=>Int×Pkt×Nat
 | 3=>Bool×Nat
 | _=>Unit
def xh(r:Tap×Pkt):AV:=Pkt.v r.2
def xi(r:Tap×Pkt):List (Option Blk):=[some (.box (Tap.v r.1))]
def FQ(L:List Int)(p:Nat)(a1:Pln)(I0:Pkt→Prop)(I1:Pkt→(Pkt×Nat)→Prop)(I2:Pkt→Pkt×Nat→(Int×Pkt×Nat)→Prop)(m2:Pkt→Pkt×Nat→(Int×Pkt×Nat)→Nat)(I3:Pkt→Pkt×Nat→Int×Pkt×Nat→Edg→(Bool×Nat)→Prop):Ax Tryz.prog FR (Tap×Pkt):=
 (.callH [0] (Pz L p) 49
(.pass (.join 0 (L4 L p a1) (λ(t0:Pkt)=>I0 t0) (λb0=>(.br 369 (a1.len==0) (.bk 0 b0 (((⟨1,a1.sub,0,8,((eQ L p).1).ttl,((eQ L p).1).ent,((eQ L p).1).ing,((eQ L p).1).proto,0,((eQ L p).1).pay⟩:Pkt)):Pkt) [0,1,17,65])
(.bk 0 b0 (((⟨1,a1.sub,0,a1.len,((eQ L p).1).ttl,((eQ L p).1).ent,((eQ L p).1).ing,((eQ L p).1).proto,0,((eQ L p).1).pay⟩:Pkt)):Pkt) [0,1,17,65]))) λ(t0:Pkt) =>
(.join 1 (L3 L a1) (λ(t1:Pkt×Nat)=>I1 t0 t1) (λb1=>(.br 68 (decide (0<((a1.es.map Edg.v).length:Int))) (.callH [0] (bq L ((eQ L p).2) ((a1.es.map Edg.v).length:Int)) 164
(.elI 180 Edg.v a1.es (Mod (am L ((eQ L p).2)) ((a1.es.map Edg.v).length:Int)) λx1 =>
(.callP (D6 x1.id a1.len)
(.bk 1 b1 ((⟨t0.mode,t0.sub,(i7 x1.id a1.len).1,t0.len,t0.ttl,t0.ent,t0.ing,t0.proto,t0.bits,t0.pay⟩:Pkt),ab L ((eQ L p).2)) [0,1,2,3]))))
(.bk 1 b1 (t0,(eQ L p).2) [0,1,2,3]))) λ(t1:Pkt×Nat) =>
(.loop 2 (L2 L a1) (I2 t0 t1) (m2 t0 t1) (0,t1.1,t1.2) [0,1,2,3] λ(t2:Int×Pkt×Nat) b2 =>
(.br 84 (decide (t2.1<((a1.es.map Edg.v).length:Int))) (.elI 132 Edg.v a1.es t2.1 λx2 =>
(.callP (D6 x2.id a1.len)
(.join 3 (L1 L a1 t2 x2) (λ(t3:Bool×Nat)=>I3 t0 t1 t2 x2 t3) (λb3=>(.br 420 (((i7 x2.id a1.len).1)==t2.2.1.set) (.callH [0] (bq L t2.2.2 4) 436
(.bk 3 b3 (decide (0<(Mod (am L t2.2.2) 4)),ab L t2.2.2) [0,1,2,3]))
(.bk 3 b3 (false,t2.2.2) [0,1,2,3]))) λ(t3:Bool×Nat) =>
(.br 4 t3.1 (.callP (kG ((i7 x2.id a1.len).2.1))
(.bk 2 b2 (W (t2.1+1),(⟨t2.2.1.mode,t2.2.1.sub,t2.2.1.set,t2.2.1.len,t2.2.1.ttl,t2.2.1.ent,t2.2.1.ing,t2.2.1.proto,bOr .u64 t2.2.1.bits (dd ((i7 x2.id a1.len).2.1)),t2.2.1.pay⟩:Pkt),t3.2) [0,1,2,3]))
(.bk 2 b2 (W (t2.1+1),t2.2.1,t3.2) [0,1,2,3])))))
(.callH [0] (jo L t2.2.2 6) 100
(.br 116 (eV L t2.2.2 6) (.callH [0] (HO L (ab L t2.2.2) t2.2.1.len) 196
(.retH ((⟨L,(lJ L (ab L t2.2.2) t2.2.1.len).2⟩:Tap),(⟨t2.2.1.mode,t2.2.1.sub,t2.2.1.set,t2.2.1.len,t2.2.1.ttl,t2.2.1.ent,t2.2.1.ing,t2.2.1.proto,bOr .u64 t2.2.1.bits ((lJ L (ab L t2.2.2) t2.2.1.len).1),t2.2.1.pay⟩:Pkt)) ⟨[rR 4 1],[.box (.agg [.sl 1 (L.map AV.int) false,.int ((((lJ L (ab L t2.2.2) t2.2.1.len).2):Nat):Int)]),.box (Pkt.v (⟨t2.2.1.mode,t2.2.1.sub,t2.2.1.set,t2.2.1.len,t2.2.1.ttl,t2.2.1.ent,t2.2.1.ing,t2.2.1.proto,bOr .u64 t2.2.1.bits ((lJ L (ab L t2.2.2) t2.2.1.len).1),t2.2.1.pay⟩:Pkt))]⟩ [0,2]))
(.retH ((⟨L,ab L t2.2.2⟩:Tap),t2.2.1) ⟨[rR 4 1],[.box (.agg [.sl 1 (L.map AV.int) false,.int (ab L t2.2.2)]),.box (Pkt.v t2.2.1)]⟩ [0,2])))))))))
theorem QM(L:List Int)(p:Nat)(a:Pln)(ok:FS L p a):∃I0 I1 I2 m2 I3,(FQ L p a I0 I1 I2 m2 I3).vc xh xi ((⟨L,(iB L p a).2⟩:Tap),(iB L p a).1):=by
 refine⟨λk=>k=xj L p a,λ_ s=>s=rT L p a,λ_ _ s=>iM a.es (xg L a) (rT L p a) s.1 s.2,λ_ _ s=>a.es.length-s.1.toNat,
  λ_ _ s x u=>u=if(i7 x.id a.len).1=s.2.1.set then(decide (0<Mod (am L s.2.2) 4),ab L s.2.2)else(false,s.2.2),?_⟩
 have hl:a.es.length≤9223372036854775807:=by
  simp only[FS,Pln.v,okU,Blk.ok,aJ,B']at ok;omega
 dsimp only[FQ,FR,Ax.vp,Ax.vc];simp only[vcU,rfU,B'];refine⟨⟨λc=>by rw[xj,G' (eq_of_beq c)],λc=>by rw[xj,F' (by simpa using c)]⟩,?_⟩;rintro _ rfl
 refine⟨⟨λc=>?_,λc=>?_⟩,?_⟩
 ·have hm:=bw (x:=am L (eQ L p).2) (show 1≤(a.es.length:Int) by omega);exact⟨hm.1,hm.2,λx hx=>by rw[rT,hx];rfl⟩
 ·rw[rT,aj' (by omega)]
 rintro _ rfl;refine⟨iM.zero,?_⟩;rintro⟨i,k,q⟩ h;simp only at h ⊢
 refine⟨λc=>⟨h.idx,c,λx hx=>⟨⟨λe=>?_,λe=>?_⟩,?_⟩⟩,λc=>?_⟩
 ·rw[G' (eq_of_beq e)]
 ·rw[F' (by simpa using e)]
 ·rintro⟨b,q2⟩ e;simp only at e ⊢;have hs:xg L a (k,q) x=if b=true then(L5 k (dd (i7 x.id a.len).2.1),q2)else(k,q2):=by
   unfold xg
   by_cases c1:(i7 x.id a.len).1=k.set
   ·rw[G' c1]at e ⊢;cases e
    by_cases c2:0<Mod (am L q) 4
    ·rw[G' c2,G' (decide_eq_true c2)]
    ·rw[F' c2,F' (by rw[decide_eq_false c2];simp)]
   ·rw[F' c1]at e ⊢;cases e;rw[F' (by simp)]
  refine⟨λe1=>h.step hl hx ?_,λe1=>h.step hl hx ?_⟩
  ·rw[hs,G' e1];rfl
  ·rw[hs,F' (by rw[e1];simp)]
 ·have:=h.done c;unfold iB;rw[←this];unfold QL;exact⟨λe=>by rw[G' e];rfl,λe=>by rw[F' (by rw[e];simp)]⟩
def QN(L:List Int)(p:Nat)(a1:Pln):HC Tryz.prog:=hcO 19 [.k,(.a [.k,.k,(.s 2)])] [.ref 0 0,Pln.v a1] [.box (.agg [.sl 1 (L.map AV.int) false,.int p])] .k xh xi ((⟨L,(iB L p a1).2⟩:Tap),(iB L p a1).1) (λok ok2=>let ⟨I0,I1,I2,m2,I3,h⟩:=QM L p a1 ⟨ok,ok2 _ (by simp)⟩;⟨_,h,by kernel_rfl⟩) (by kernel_rfl) (by simp[hcB,cS,AV.belB,allB,eH,dG,xh,xi,Pkt.v,Pln.v,Tap.v,ah (v:=AV.int) (λ_=>rfl),ah (v:=Edg.v) (λ_=>rfl)])
theorem zI{len:Int}(h:bz len=true):ia len=((2 ^ len.toNat-1:Nat):Int):=by
 rcases dJ.mp h with q|q|q|q<;>subst q<;>decide +kernel
theorem la{len:Int}(h:bz len=true):2 ^ len.toNat≤18446744073709551616:=by
 have hl:=dJ.mp h;exact aI' (cF' (show 0<2 by decide) (show len.toNat≤64 by omega)) (show 2 ^ 64≤18446744073709551616 by decide)
theorem Sg{n m i:Nat}(h:n<2 ^ m)(hi:n.testBit i=true):i<m:=by
 refine P' λq=>?_;rw[Nat.testBit_lt_two_pow (aU' h (cF' (by decide) (by omega)))]at hi;cases hi
theorem O3{len:Int}{n:Nat}(h:bz len=true)(hn:n<2 ^ len.toNat):nQ (n:Int) len=true:=by
 have h2:=la h;rw[nQ,h,zI h,qy (aU' hn h2) (by omega) λi q=>by rw[Nat.testBit_two_pow_sub_one];exact decide_eq_true (Sg hn q)];rfl
theorem Jh(x:Int):0≤IntKind.u64.wrap x∧IntKind.u64.wrap x<18446744073709551616:=by
 have:0≤IntKind.u64.wrap x∧IntKind.u64.wrap x≤18446744073709551615:=dm .u64 x;omega
theorem sT(L:List Int):∀(n q:Nat) (o:List Int),(vy L n q o).1.length=o.length+n
 | 0,q,o=>rfl
 | n+1,q,o=>by rw[vy,sT L n];simp;omega
theorem Cp(L:List Int)(p:Nat):(lV L p 6).1.size≤64:=by
 have:=vM (L:=L) (p:=p) (lo:=0) (hi:=6) (by omega);have h:(lV L p 6).1.size=(Cs L p 6).1.length:=by
  show(B8 _).size=_;unfold B8;show((List.map _ _).toArray).size=_;simp
 rw[h];unfold Cs;rw[sT];simp;omega
structure FkI (p:Pln) (k:Pkt):Prop where
  mode:k.mode=1
  sub:k.sub=p.sub
  len:k.len=p.len
  set:0≤k.set∧k.set≤31
  ttl:0≤k.ttl∧k.ttl≤63
  ent:0≤k.ent∧k.ent≤1023
  ing:0≤k.ing∧k.ing≤256
  pro:0≤k.proto∧k.proto≤7
  pay:k.pay.size≤64
  bits:∃n:Nat,k.bits=n∧n<2 ^ p.len.toNat
theorem tk{l:List Int}(h:l≠[]){a b:Int}(ha:∀x∈l,a≤x∧x≤b)(r:Int):a≤aK l r∧aK l r≤b:=ha _ (AX h r)
theorem FkI.or{p:Pln}(hl:bz p.len=true){k:Pkt}(h:FkI p k){n:Nat}(hn:n<2 ^ p.len.toNat):FkI p (L5 k n):=by
 obtain⟨m,m1,m2⟩:=h.bits;have h2:=la hl;refine⟨h.mode,h.sub,h.len,h.set,h.ttl,h.ent,h.ing,h.pro,h.pay,m ||| n,?_,Nat.or_lt_two_pow m2 hn⟩;show bOr .u64 k.bits n=_;rw[m1,nK (by omega) (by omega)]
theorem L0{p:Pln}(hp:cu p=true)(hl:bz p.len=true)(L:List Int)(q:Nat):FkI p (iB L q p).1:=by
 have hv:=dJ.mp hl;have h64:=la hl;have hE:=H' ((R' _ _).mp hp).2;have hplc:∀e∈p.es,(0≤(i7 e.id p.len).1∧(i7 e.id p.len).1≤31)∧∃k:Nat,(i7 e.id p.len).2.1=k∧(k:Int)<p.len:=λe he=>by
  have hid:=(hE.1 e he).1;unfold i7;rw[G' ⟨hl,hid⟩];simp only;have e1:(e.id-1).tdiv p.len=(e.id-1) / p.len:=Int.tdiv_eq_ediv_of_nonneg (by omega);have e2:(e.id-1).tmod p.len=(e.id-1) % p.len:=Int.tmod_eq_emod_of_nonneg (by omega);rw[e1,e2];have h1:=Int.emod_nonneg (e.id-1) (show p.len≠0 by omega);have h2:=Int.emod_lt_of_pos (e.id-1) (show 0<p.len by omega);refine⟨?_,((e.id-1) % p.len).toNat,by omega,by omega⟩;rcases hv with v|v|v|v<;>rw[v]<;>omega
 have h0:FkI p (xj L q p):=by
  unfold xj;rw[F' (by omega)];have m1:∀x,0≤Mod x 1024∧Mod x 1024≤1023:=λx=>by have:=bw (x:=x) (show(1:Int)≤1024 by omega);omega
  have m2:∀x,0≤Mod x 8∧Mod x 8≤7:=λx=>by have:=bw (x:=x) (show(1:Int)≤8 by omega);omega
  refine⟨rfl,rfl,rfl,by simp,tk (by simp) (by decide) _,m1 _,tk (by simp) (by decide) _,m2 _,Cp _ _,0,rfl,Nat.two_pow_pos _⟩
 have h1:FkI p (rT L q p).1:=by
  unfold rT
  split
  ·rename_i x hx;exact⟨h0.mode,h0.sub,h0.len,(hplc x (O' hx)).1,h0.ttl,h0.ent,h0.ing,h0.pro,h0.pay,h0.bits⟩
  ·exact h0
 have hS:∀(l:List Edg) (s:Pkt×Nat),(∀e∈l,e∈p.es)→FkI p s.1→FkI p (l.foldl (xg L p) s).1:=λl=>by
  induction l with
  | nil=>intro s _ h;exact h
  | cons e l ih =>
   intro s hs h;refine ih _ (λx hx=>hs x (by simp[hx])) ?_;unfold xg
   split
   ·split
    ·obtain⟨k,k1,k2⟩:=(hplc e (hs e (by simp))).2;simp only;rw[k1,fA (by omega)];exact h.or hl (bK' (by decide) (by omega))
    ·exact h
   ·exact h
 have h2:=hS p.es (rT L q p) (λe he=>he) h1;unfold iB QL;generalize p.es.foldl (xg L p) (rT L q p)=s at h2
 split
 ·simp only;have hb:∃n:Nat,(lJ L (ab L s.2) s.1.len).1=n∧n<2 ^ p.len.toNat:=by
   rw[h2.len];have hV:0≤(uQ L (ab L s.2) p.len).1∧(uQ L (ab L s.2) p.len).1<18446744073709551616:=by
    unfold uQ RW
    split
    ·simp
    ·split
     ·simp only;have hm:=bw (x:=am L (ab L (ab L (ab L (ab L s.2))))) (show 1≤p.len by omega);obtain⟨k,hk⟩:∃k:Nat,Mod (am L (ab L (ab L (ab L (ab L s.2))))) p.len=k:=⟨_,(av' hm.1).symm⟩
      rw[hk]at hm ⊢;have:=ji (k:=k) (by omega);rw[fA (by omega)];generalize 2 ^ k=z at this ⊢;omega
     ·split
      ·simp
      ·exact Jh _
   obtain⟨x,hx,hxl⟩:=nb hV
   refine⟨x &&& (2 ^ p.len.toNat-1),?_,?_⟩
   ·show fc .u64 (uQ L (ab L s.2) p.len).1 (ia p.len)=_;rw[hx,zI hl,gq hxl (by omega)]
   ·exact Nat.and_lt_two_pow _ (by have:=Nat.two_pow_pos p.len.toNat;omega)
  obtain⟨n,n1,n2⟩:=hb;rw[n1];exact h2.or hl n2
 ·exact h2
theorem FkI.ok{p:Pln}(hs:0≤p.sub∧p.sub≤7)(hl:bz p.len=true){k:Pkt}(h:FkI p k){t:Int}(ht:0≤t∧t≤63):dQ ⟨k.mode,k.sub,k.set,k.len,t,k.ent,k.ing,k.proto,k.bits,k.pay⟩=true:=by
 obtain⟨n,n1,n2⟩:=h.bits;have ki:∀{a b:Int},0≤a∧a≤b→inK a b=true:=λ{a b} q=>by unfold inK;simp;omega
 unfold dQ;simp only;rw[h.mode,h.sub,h.len,n1,O3 hl n2,ki hs,ki h.set,ki ht,ki h.ent,ki h.ing,ki h.pro,decide_eq_true (show(k.pay.size:Int)≤64 by have:=h.pay;omega)];rfl
section
variable {t : Tpl} (hc : ay t = 0)
include hc
theorem uW{a:Int}:∀{n i:Nat} {s:List Int},(∀x∈s,∃m,fP (cW t) a x m)→∀x∈xX t n i s,∃m,fP (cW t) a x m
 | 0,i,s,h=>h
 | n+1,i,s,h=>by
  rw[xX]
  split
  ·rename_i y hy;refine uW ?_;obtain⟨m,hm⟩:=h y (bt hy);have key:∀(l s:List Int),(∀q∈l,q∈eX t y)→(∀x∈s,∃m,fP (cW t) a x m)→∀x∈l.foldl lP s,∃m,fP (cW t) a x m:=λl=>by
    induction l with
    | nil=>intro s _ h;exact h
    | cons q l ih =>
     intro s hq h;refine ih _ (λz hz=>hq z (by simp[hz])) λx hx=>?_;unfold lP at hx
     split at hx
     ·exact h x hx
     ·rcases X'.mp hx with hx|hx
      ·exact h x hx
      ·obtain rfl:=L'.mp hx;have he:=(bT hc (u:=y) (v:=x) (c:=(aU t y x).1)).mpr (Prod.ext rfl ((n0 hc).mp (hq x (by simp))));exact⟨_,.snoc (s:=⟨x,(aU t y x).1⟩) hm ((lh hc).mpr he)⟩
   exact key _ _ (λq hq=>hq) h
  ·exact h
theorem Me{a b:Int}(h:pP t a b=true):az t a=true∧az t b=true∧aY (cM (inG t) b) a=true:=by
 unfold pP at h;rw[R',R',S']at h;obtain⟨h1,h2,h3⟩:=h;have ha:=(bR.mp h1).2;have hb:=(bR.mp h2).2;have hm:∀(l s:List Int) x,x∈l.foldl fK s→x∈l∨x∈s:=λl=>by
  induction l with
  | nil=>intro s x hx;exact .inr hx
  | cons q l ih =>
   intro s x hx
   rcases ih _ _ hx with h|h
   ·exact .inl (by simp[h])
   ·unfold fK at h
    split at h
    ·exact .inr h
    ·rcases ad'.mp ((kz _ _ _).mem_iff.mp h)with rfl|h
     ·exact .inl (by simp)
     ·exact .inr h
 rcases hm _ _ _ h3 with h|h
 ·obtain⟨m,hp⟩:=uW hc (a:=a) (s:=[a]) (λx hx=>by rw[L'.mp hx];exact⟨0,.nil⟩) b h;have hpi:=(jM hc (g:=b)).mpr ((lf hc).mp hp);have hF:=ef (l5 hc) (f:=b) (by unfold inG;rw[bi,bc];exact hb);obtain⟨k,_,hk⟩:=hF.low hpi;exact⟨ha,hb,bV.mpr ⟨k,hk⟩⟩
 ·cases h
end
theorem Kf(L:List Int)(p:Nat)(g:Tpl):bz (dL L p g 0).1.len=true:=by
 unfold dL;rw[F' (λq=>by have:=q.1;omega)];exact(zw L _).1
theorem RS(L:List Int)(p:Nat):1≤(cdT L p 6).1.1.rs.length:=by
 have h:1≤(aw L p 6 0).1.rs.length:=by
  unfold aw;rw[F' (λq=>by have:=q.1;omega)];have:=ta (L:=L) (p:=p) (m:=6) (by omega);show 1≤(ku _).length;rw[kW];omega
 unfold cdT cdR;split<;>exact h
theorem JA{L:List Int}{p:Nat}{g:Tpl}(h:1≤g.rs.length):az g (pJ L p g 0).1=true:=by
 unfold pJ;rw[F' (by omega)];simp only;have hm:=bw (x:=am L (if(0:Int)<0 then ab L p else p)) (show 1≤(g.rs.length:Int) by omega);generalize Mod (am L (if(0:Int)<0 then ab L p else p)) g.rs.length=m at hm;have hl:m.toNat<(g.rs.map Rtr.id).length:=by rw[B'];omega
 rw[I',u' hl];exact bc.mp (aA' hl)
theorem Ao{t:Tpl}(hc:ay t=0){a b:Int}(h:pP t a b=true):(aC t a b).2=true:=by
 obtain⟨_,_,h3⟩:=Me hc h;rw[pn hc,G' h3]
theorem Gov.keep{G O:Tpl}{ds:List Hop}(g:Gov G O ds)(c:Chg)(hds:∀x∈ds,x∈eK c){d y z:Int}(h1:(aC G y d).2=true)(h2:(aC O y d).2=true)(hn:z∈fv G y d∨z∈fv O y d):(aC G z d).2=true∧(aC O z d).2=true:=by
 rcases hn with hn|hn
 ·obtain⟨w,he,cy,cz,e⟩:=(dz g.hG).mp hn;refine⟨cz,?_⟩;have hw:=he.cost g.hG
  rcases g.eq he with q|q
  ·obtain⟨k,hk⟩:=pg q;obtain⟨m,hm,e1⟩:=il g.hO hk;obtain⟨m2,_,e2⟩:=gD e1 (aO h2);rw[e2]
  ·have hna:¬Af G ds d z:=λ⟨h,hh,hu⟩=>by
    obtain⟨_,b2⟩:=g.back hn hu;have d1:=hds _ q;have d2:=hds _ hh;unfold eK at d1 d2;simp only[ad',aw',or_false]at d1 d2;obtain⟨k,hk,u1,u2,u3,u4⟩:=(nw g.hG).mp hu;have hk2:=hk.cost g.hG;have hz0:=(aN (aO u1)).2.2;have hlt:=(mg g.hG hn).1;have hy0:=(aN (aO cy)).2.2;have hz1:=(aN (aO cz)).2.2;have key:h.a=z∧h.b=y:=by
     rcases d1 with d1|d1<;>rcases d2 with rfl|rfl<;>cases d1
     ·exact absurd rfl b2
     ·exact⟨rfl,rfl⟩
     ·exact⟨rfl,rfl⟩
     ·exact absurd rfl b2
    rw[key.2]at u4;omega
   obtain⟨m,e1⟩:∃m,aC G z d=(m,true):=⟨_,aO cz⟩
   rw[g.same m.toNat (V' _) e1 hna]
 ·obtain⟨w,he,cy,cz,e⟩:=(dz g.hO).mp hn;obtain⟨m,_,e1⟩:=g.cos (aO cz);exact⟨by rw[e1],cz⟩
theorem jC.keep{g h:Tpl}{ch:List Int}{c:Chg}(H:jC g h ch c){d y z:Int}(h1:(aC g y d).2=true)(h2:(aC h y d).2=true)(hn:z∈fv (if y∈ch then h else g) y d):(aC g z d).2=true∧(aC h z d).2=true:=by
 have G:=yR H.e;have hgov:=qR g c H.e;have hds:=(fi H.e).2.2.1;rw[←H.hh]at G hgov;have hn:z∈fv g y d∨z∈fv h y d:=by
  split at hn
  ·exact .inr hn
  ·exact .inl hn
 rcases kY H.e with k|k
 ·rw[k,F' (by decide)]at G hgov;rw[hgov]at G;exact G.keep c hds h1 h2 hn
 ·rw[k,G' rfl]at G hgov;rw[hgov]at G;have:=G.keep c hds h2 h1 hn.symm;exact⟨this.2,this.1⟩
theorem K4{t:Tpl}(hc:ay t=0)(hcap:j6 t=true){y d:Int}(h:(aC t y d).2=true)(hne:y≠d):eB t y d≠[]:=by
 obtain⟨z,hz⟩:=wG hc (aO h) hne;obtain⟨_,hy,hd⟩:=cA h;have hst:∀q∈dW t (to6 t d) y,lG t q=true:=λq hq=>sF hc hcap (nS hc hq);have hz2:z∈dW t (to6 t d) y:=by
  unfold fv at hz;rw[F' (by rw[bR.mpr ⟨hc,hy⟩,bR.mpr ⟨hc,hd⟩];simp)]at hz;exact hz
 unfold eB;rw[F' (by rw[bR.mpr ⟨hc,hy⟩,bR.mpr ⟨hc,hd⟩];simp[hne])];have hf:∀(s:List Int) (a b:List Int),(∀q∈s,lG t q=true)→s.foldl (hZ t) (a,b)=(a,s.foldl fK b):=λs=>by
  induction s with
  | nil=>intro a b _;rfl
  | cons x s ih =>
   intro a b hs;rw[at',at'];have:hZ t (a,b) x=(a,fK b x):=by unfold hZ;rw[G' (hs x (by simp))]
   rw[this];exact ih a _ λq hq=>hs q (by simp[hq])
 have e2:oL t (to6 t d) 25 0 [y] []=(dW t (to6 t d) y).foldl fK []:=by
  rw[oL];simp only[List.getElem?_cons_zero];rw[hf _ _ _ hst,oL];simp
 rw[e2];intro q;have:=((rL (dW t (to6 t d) y) [] List.Pairwise.nil).2 z).mpr (.inl hz2);rw[q]at this;simp at this
theorem rN{F:Int→Tpl}{p:Pln}{rs:List Rtr}(hF:IR F rs){q:Pkt}{k:Nat}{y:Int}(hf:(bu (dD F p rs) y).2=true) :
  (rs.any λx=>x.id==y)=true∧(bu (dD F p rs) y).1=ew (F y) p y ∧
  ((iF p (atT q.set k q.len).1).2=false→hkB (ew (F y) p y) q k=0) ∧
  ∀e,iF p (atT q.set k q.len).1=(e,true)→(e.router=y→hkB (ew (F y) p y) q k=y)∧(e.router≠y→hkB (ew (F y) p y) q k≠y∧(hkB (ew (F y) p y) q k≠0→hkB (ew (F y) p y) q k∈fv (F y) y e.router)∧((aC (F y) y e.router).2=true→hkB (ew (F y) p y) q k≠0)):=by
 have hfd:=l9 (F:=F) (p:=p) (rs:=rs) (r:=y);have h1:(rs.any λx=>x.id==y)=true:=by
  refine P' λc=>?_;unfold bu at hf;rw[hfd,F' c]at hf;cases hf
 have h2:(bu (dD F p rs) y).1=ew (F y) p y:=by unfold bu;rw[hfd,G' h1]
 have hrow:((ew (F y) p y).rows.find? λr=>r.id==(atT q.set k q.len).1)=(p.es.find? λe=>e.id==(atT q.set k q.len).1).map (eM (F y) y):=by
  show((p.es.map (eM (F y) y)).find? λr=>r.id==(atT q.set k q.len).1)=_;rw[List.find?_map];rfl
 have hy:az (F y) y=true:=by unfold az;rw[hF.rs];exact h1
 have hy1:=jN (hF.ok y) hy
 refine⟨h1,h2,λh=>?_,λe h=>?_⟩
 ·unfold hkB hU gr;rw[hrow];unfold iF at h;cases z:p.es.find? λe=>e.id==(atT q.set k q.len).1 with
  | none=>simp[iT]
  | some e=>rw[z]at h;cases h
 ·have z:(p.es.find? λe=>e.id==(atT q.set k q.len).1)=some e:=by
   unfold iF at h;cases z:p.es.find? λe=>e.id==(atT q.set k q.len).1 with
   | none=>rw[z]at h;cases h
   | some e'=>rw[z]at h;simp only[Prod.mk.injEq,and_true]at h;rw[h]
  have hk:hkB (ew (F y) p y) q k=iT (eM (F y) y e).nx (eP q):=by
   unfold hkB hU gr;rw[hrow,z];rfl
  rw[hk];have hN:∀nx:List Int,nx≠[]→iT nx (eP q)∈nx:=λnx hne=>by
   have hl:nx.length≠0:=λc=>hne (bt'.mp c);unfold iT;rw[F' hl];have hp:=(qX (p:=q)).1;have hlt:((eP q).tmod nx.length).toNat<nx.length:=by
    have:=cg' (eP q) (show(0:Int)<nx.length by omega);omega
   rw[I',u' hlt];exact aA' hlt
  unfold eM;simp only
  refine⟨λc=>?_,λc=>?_⟩
  ·rw[G' c];have:=hN [y] (by simp);exact L'.mp this
  ·rw[F' c]
   by_cases c2:lG (F y) e.router=true
   ·rw[G' c2];obtain⟨o1,o2,o3⟩:=zD (hF.ok y) (hF.cap y) y e.router;have hz:iT [] (eP q)=0:=by simp[iT]
    by_cases c3:eB (F y) y e.router=[]
    ·rw[c3,hz];exact⟨by omega,λg=>absurd rfl g,λg=>absurd c3 (K4 (hF.ok y) (hF.cap y) g (Ne.symm c))⟩
    ·have hm:=hN _ c3
     refine⟨λg=>?_,λ_=>(nD (hF.ok y) (hF.cap y) y e.router).2 _ hm,λ_ g=>?_⟩
     ·rw[g]at hm;exact o1 hm
     ·rw[g]at hm;have:=jN (hF.ok y) (o2 _ hm);omega
   ·rw[F' c2];have hz:iT [] (eP q)=0:=by simp[iT]
    rw[hz];refine⟨by omega,λg=>absurd rfl g,λg=>?_⟩;have:=(cA g).2.2;exact absurd (sF (hF.ok y) (hF.cap y) this) c2
set_option pp.deepTerms true
set_option pp.maxSteps 100000
abbrev mxF(g h:Tpl)(ch:List Int)(y:Int):Tpl:=if y∈ch then h else g
theorem jC.walk{g h:Tpl}{ch:List Int}{c:Chg}(H:jC g h ch c){p:Pln}{q:Pkt}{r:Int}{k:Nat}{e:Edg}(he:iF p (atT q.set k q.len).1=(e,true)){M:Int→Nat}(hM:∀x y,y∈fv (mxF g h ch x) x e.router→M y<M x)
  (hr:az g r=true) (h1:(aC g r e.router).2=true) (h2:(aC h r e.router).2=true):∀{j:Nat} {y:Int},Rch (dD (mxF g h ch) p g.rs) q r k j y →
   (az g y=true∧(aC g y e.router).2=true∧(aC h y e.router).2=true)∧∃vs:List Int,vs.Nodup∧vs.length=j+1∧∀v∈vs,az g v=true∧M y≤M v:=by
 intro j y hR
 induction hR with
 | zero=>exact⟨⟨hr,h1,h2⟩,[r],by simp,rfl,λv hv=>by rw[L'.mp hv];exact⟨hr,V' _⟩⟩
 | succ hR hf hk hne hz ih =>
  rename_i j y z;obtain⟨⟨a1,a2,a3⟩,vs,b1,b2,b3⟩:=ih;obtain⟨t1,t2,t3,t4⟩:=rN (q:=q) (k:=k) H.fam hf;obtain⟨t5,t6⟩:=t4 e he;rw[t2]at hk;have hx:e.router≠y:=λq=>by rw[t5 q]at hk;exact hne hk.symm
  obtain⟨_,t7,_⟩:=t6 hx;have hn:z∈fv (mxF g h ch y) y e.router:=by rw[←hk];exact t7 (by rw[hk];omega)
  have hlt:=hM y z hn;have hzz:=H.keep a2 a3 hn
  refine⟨⟨(cA hzz.1).2.1,hzz⟩,z::vs,?_,by rw[ab',b2],λv hv=>?_⟩
  ·refine cp'.mpr ⟨λq=>?_,b1⟩;have:=(b3 z q).2;omega
  ·rcases ad'.mp hv with rfl|hv
   ·exact⟨(cA hzz.1).2.1,V' _⟩
   ·have:=b3 v hv;exact⟨this.1,by omega⟩
def nu(k x:Int)(l:List Dlr):Nat:=(l.filter λd=>d.bits==dd k && d.router==x).length
theorem jC.once{g h:Tpl}{ch:List Int}{c:Chg}(H:jC g h ch c){p:Pln}{q:Pkt}{r:Int}(hr:az g r=true)(ht:(g.rs.length:Int)≤q.ttl){t:Trc}(hJ:lR (dD (mxF g h ch) p g.rs) q r [] t){k:Nat}(hk:k<64)(hb:q.bits.toNat.testBit k=true) :
  (∀e,iF p (atT q.set k q.len).1=(e,true)→pP g r e.router=true→pP h r e.router=true→nu k e.router t.dl=1)∧((iF p (atT q.set k q.len).1).2=false→nu k (iF p (atT q.set k q.len).1).1.router t.dl=0):=by
 have hfd:∀y,az g y=true→(bu (dD (mxF g h ch) p g.rs) y).2=true:=λy hy=>by
  unfold bu;rw[l9,G' (show(g.rs.any λx=>x.id==y)=true from hy)]
 have hbk:dd (k:Int)=((2 ^ k:Nat):Int):=fA hk
 constructor
 ·intro e he hc1 hc2;have c1:=Ao H.hg hc1;have c2:=Ao H.aft.1 hc2;have hd:=(cA c1).2.2;obtain⟨M,hM⟩:=H.fall hd;have hw:=λ{j:Nat} {y:Int}=>H.walk (p:=p) (q:=q) (r:=r) (k:=k) he hM hr c1 c2 (j:=j) (y:=y);have hpair:(t.dl.map λd=>d.bits.toNat).Pairwise djB:=by
   have:=hJ.cov.dis;rw[bm']at this;exact this.1
  have hle:nu k e.router t.dl≤1:=by
   unfold nu;have hs:((t.dl.filter λd=>d.bits==dd (k:Int) && d.router==e.router).map λd=>d.bits.toNat).Pairwise djB:=hpair.sublist (List.filter_sublist.map _);have hm:∀d∈t.dl.filter λd=>d.bits==dd (k:Int) && d.router==e.router,d.bits=dd (k:Int):=λd hd=>by
    have:=(aY'.mp hd).2;rw[R',aL']at this;exact this.1
   generalize (t.dl.filter λd=>d.bits==dd (k:Int) && d.router==e.router)=fl at hs hm
   match fl,hs,hm with
   | [],_,_=>simp
   | [a],_,_=>simp
   | a::b::fl,hs,hm =>
    exfalso;rw[am',am']at hs;have:=(an'.mp hs).1 b.bits.toNat (by simp) k;rw[hm a (by simp),hm b (by simp),hbk,Int.toNat_natCast,bf']at this;exact this ⟨by simp,by simp⟩
  have hge:1≤nu k e.router t.dl:=by
   have hall:=hJ.cov.all k;rw[hb,eq_comm,ac']at hall;obtain⟨a,ha,hak⟩:=hall
   rcases X'.mp ha with ha|ha
   ·obtain⟨d,hd,rfl⟩:=Y'.mp ha;obtain⟨k',k1,k2,j,k3,k4,k5⟩:=hJ.dls d hd;rw[k2,Int.toNat_natCast,bf']at hak;have hkk:k'=k:=H' hak;subst hkk;obtain⟨_,t2,_,t4⟩:=rN (q:=q) (k:=k') H.fam k4;obtain⟨t5,t6⟩:=t4 e he;rw[t2]at k5;have hx:e.router=d.router:=P' λz=>(t6 z).1 k5;unfold nu;refine cM'.mpr λz=>?_;have:d∈t.dl.filter λd=>d.bits==dd (k':Int) && d.router==e.router:=aY'.mpr ⟨hd,by rw[k2,hbk,hx];simp⟩;rw[z]at this;simp at this
   ·rw[bI',bo']at ha;obtain⟨z,hz,rfl⟩:=Y'.mp ha;obtain⟨_,hz2⟩:=hJ.los z hz;obtain⟨j,hR,hl⟩:=hz2 k hak;obtain⟨⟨a1,a2,a3⟩,vs,b1,b2,b3⟩:=hw hR;exfalso
    rcases hl with hl|hl|hl
    ·rw[hfd _ a1]at hl;cases hl
    ·obtain⟨_,t2,_,t4⟩:=rN (q:=q) (k:=k) H.fam (hfd _ a1);obtain⟨t5,t6⟩:=t4 e he;rw[t2]at hl
     by_cases hx:e.router=z.router
     ·rw[t5 hx]at hl;have:=jN H.hg a1;omega
     ·refine(t6 hx).2.2 ?_ hl;show(aC (if _ then _ else _) _ _).2=true
      split
      ·exact a3
      ·exact a2
    ·have:=List.Nodup.length_le_of_subset b1 (show vs ⊆ g.rs.map (·.id)from λv hv=>bc.mpr (b3 v hv).1);rw[B']at this;omega
  omega
 ·intro he;have hz:(iF p (atT q.set k q.len).1).1.router=0:=by
   unfold iF at he ⊢
   split at he
   ·cases he
   ·rfl
  rw[hz];unfold nu;rw[bt',cf'];intro d hd hq;rw[R',aL',aL']at hq;obtain⟨k',_,_,j,_,k4,_⟩:=hJ.dls d hd;obtain⟨t1,_⟩:=rN (q:=q) (k:=k) H.fam k4;have:=jN H.hg (x:=d.router) t1;omega
theorem jC.run{g h:Tpl}{ch:List Int}{c:Chg}(H:jC g h ch c){p:Pln}(hp:cu p=true)(hl:bz p.len=true){k:Pkt}(hk:FkI p k){t:Int}(ht:0≤t∧t≤63){r:Int}(hr:az g r=true) :
  mD (dD (mxF g h ch) p g.rs) ⟨k.mode,k.sub,k.set,k.len,t,k.ent,k.ing,k.proto,k.bits,k.pay⟩ r=0∧0≤k.bits∧k.bits<18446744073709551616:=by
 have hs:=(H' ((R' _ _).mp hp).1).1;have hbits:0≤k.bits∧k.bits<18446744073709551616:=by
  obtain⟨n,n1,n2⟩:=hk.bits;have:=la hl;rw[n1];omega
 have hf:bu (dD (mxF g h ch) p g.rs) r=(ew (mxF g h ch r) p r,true):=by
  unfold bu;rw[l9,G' (show(g.rs.any λx=>x.id==r)=true from hr)]
 refine⟨?_,hbits⟩;unfold mD;rw[qG H.fam hp,hk.ok hs hl ht,hf];simp only[ne_eq,not_true_eq_false,false_or,Bool.true_eq_false,if_false,aQ'];rw[hk.mode,hk.sub,hk.len,F' (by omega)];show(if p.sub≠p.sub∨p.len≠p.len then(8:Int)else 0)=0;simp
theorem yC:∀{l:List Nat},(∀a∈l,1≤crd a)→l.length≤(l.map crd).sum
 | [],_=>by simp
 | a::l,h=>by
  have:=yC (l:=l) (λb hb=>h b (bh' _ hb));have:=h a cu';rw[am',cI',ab'];omega
theorem lR.dlen{l:List Tbl}{p:Pkt}{r:Int}{t:Trc}(h:lR l p r [] t):t.dl.length≤64:=by
 have e:=h.cov.sum;rw[ay',List.sum_append]at e;have hs:=yC (l:=t.dl.map λd=>d.bits.toNat) λa ha=>by
  obtain⟨d,hd,rfl⟩:=Y'.mp ha;obtain⟨k,k1,k2,_⟩:=h.dls d hd;rw[k2,Int.toNat_natCast];have hlt:(2 ^ k:Nat)<2 ^ 64:=bK' (by omega) k1;exact Ai (Nat.pos_iff_ne_zero.mp (Nat.two_pow_pos k)) (by simpa using hlt)
 have:=xC p.bits.toNat
 rw[B']at hs;omega
theorem BI(k x:Int){l:List Dlr}{n:Nat}{d:Dlr}(h:l[n]?=some d):nu k x (l.take (n+1))=nu k x (l.take n)+(if(d.bits==dd k && d.router==x)=true then 1 else 0):=by
 unfold nu;rw[List.take_add_one,h,Option.toList_some,bw',List.length_append,aO']
 congr 1
 split<;>rfl
theorem Mf(k x:Int)(l:List Dlr):nu k x l≤l.length:=bq' _ _
def EY(t:List Int):=okL [.sl 1 (t.map AV.int) false]
def Lc(t0:Tap):NF:=⟨[rR 3 0],[.box (Tap.v t0)]⟩
def Lb(t0:Tap)(t1:List Int×Bool×Tpl×Tpl):NF:=⟨[rR 3 0,rR 4 1,rR 5 2,(6,(.s 1),.sl 1 (t1.1.map AV.int) false),rB 7 t1.2.1],[.box (.agg [.sl 1 (t0.L.map AV.int) false,.int ((((cdT t0.L t0.p 6).2):Nat):Int)]),.box (Tpl.v t1.2.2.1),.box (Tpl.v t1.2.2.2)]⟩
def La(t0:Tap)(t1:List Int×Bool×Tpl×Tpl)(t2:Pln):NF:=⟨[rR 3 0,rR 4 1,rR 5 2,(6,.k,.sl 1 (t1.1.map AV.int) false),rR 8 3],[.box (.agg [.sl 1 (t0.L.map AV.int) false,.int ((((dL t0.L ((cdT t0.L t0.p 6).2) t1.2.2.1 0).2):Nat):Int)]),.box (Tpl.v t1.2.2.1),.box (Tpl.v t1.2.2.2),.box (Pln.v t2)]⟩
def KZ(t0:Tap)(t1:List Int×Bool×Tpl×Tpl)(t2:Pln)(t3:List Tbl):NF:=⟨[rR 3 0,rR 4 1,rR 5 2,(6,.k,.sl 1 (t1.1.map AV.int) false),rR 8 3,(9,(.s 4),.sl 4 (t3.map Tbl.v) false)],[.box (.agg [.sl 1 (t0.L.map AV.int) false,.int ((((dL t0.L ((cdT t0.L t0.p 6).2) t1.2.2.1 0).2):Nat):Int)]),.box (Tpl.v t1.2.2.1),.box (Tpl.v t1.2.2.2),.box (Pln.v t2)]⟩
def KY(t0:Tap)(t1:List Int×Bool×Tpl×Tpl)(t2:Pln)(t3:List Tbl)(t4:List Tbl):NF:=⟨[rR 3 0,rR 4 1,rR 5 2,(6,.k,.sl 1 (t1.1.map AV.int) false),rR 8 3,(9,.k,.sl 4 (t3.map Tbl.v) false),(11,(.s 4),.sl 4 (t4.map Tbl.v) false)],[.box (.agg [.sl 1 (t0.L.map AV.int) false,.int ((((dL t0.L ((cdT t0.L t0.p 6).2) t1.2.2.1 0).2):Nat):Int)]),.box (Tpl.v t1.2.2.1),.box (Tpl.v t1.2.2.2),.box (Pln.v t2)]⟩
def KW(t0:Tap)(t1:List Int×Bool×Tpl×Tpl)(t2:Pln)(t3:List Tbl)(t4:List Tbl)(t5:Pkt):NF:=⟨[rR 3 0,rR 4 1,rR 5 2,(6,.k,.sl 1 (t1.1.map AV.int) false),rR 8 3,(9,.k,.sl 4 (t3.map Tbl.v) false),(11,.k,.sl 4 (t4.map Tbl.v) false),rR 13 4],[.box (.agg [.sl 1 (t0.L.map AV.int) false,.int ((((iB t0.L ((dL t0.L ((cdT t0.L t0.p 6).2) t1.2.2.1 0).2) t2).2):Nat):Int)]),.box (Tpl.v t1.2.2.1),.box (Tpl.v t1.2.2.2),.box (Pln.v t2),.box (Pkt.v t5)]⟩
def KV(t0:Tap)(t1:List Int×Bool×Tpl×Tpl)(t2:Pln)(t3:List Tbl)(t4:List Tbl)(t6:Pkt):NF:=⟨[rR 3 0,rR 4 1,rR 5 2,(6,.k,.sl 1 (t1.1.map AV.int) false),rR 8 3,(9,.k,.sl 4 (t3.map Tbl.v) false),(11,.k,.sl 4 (t4.map Tbl.v) false),rR 13 4],[.box (.agg [.sl 1 (t0.L.map AV.int) false,.int (((ab t0.L ((iB t0.L ((dL t0.L ((cdT t0.L t0.p 6).2) t1.2.2.1 0).2) t2).2)):Nat):Int)]),.box (Tpl.v t1.2.2.1),.box (Tpl.v t1.2.2.2),.box (Pln.v t2),.box (Pkt.v t6)]⟩
def KU(t1:List Int×Bool×Tpl×Tpl)(t2:Pln)(t3:List Tbl)(t4:List Tbl)(t6:Pkt)(t7:Int):NF:=⟨[rR 4 0,rR 5 1,(6,.k,.sl 1 (t1.1.map AV.int) false),rR 8 2,(9,.k,.sl 4 (t3.map Tbl.v) false),(11,.k,.sl 4 (t4.map Tbl.v) false),rR 13 3,rI 14 t7],[.box (Tpl.v t1.2.2.1),.box (Tpl.v t1.2.2.2),.box (Pln.v t2),.box (Pkt.v t6)]⟩
def KT(t1:List Int×Bool×Tpl×Tpl)(t2:Pln)(t6:Pkt)(t7:Int)(t8:Int×Trc):NF:=⟨[rR 4 0,rR 5 1,rR 8 2,rR 13 3,rI 14 t7,rR 15 4,rI 16 t8.1],[.box (Tpl.v t1.2.2.1),.box (Tpl.v t1.2.2.2),.box (Pln.v t2),.box (Pkt.v t6),.box (Trc.v t8.2)]⟩
def KS(t1:List Int×Bool×Tpl×Tpl)(t2:Pln)(t6:Pkt)(t7:Int)(t8:Int×Trc)(t9:Bool):NF:=⟨[rR 4 0,rR 5 1,rR 8 2,rR 13 3,rI 14 t7,rR 15 4,rB 83 t9],[.box (Tpl.v t1.2.2.1),.box (Tpl.v t1.2.2.2),.box (Pln.v t2),.box (Pkt.v t6),.box (Trc.v t8.2)]⟩
def EW(t1:List Int×Bool×Tpl×Tpl)(t2:Pln)(t6:Pkt)(t7:Int)(t8:Int×Trc)(t10:List Int):NF:=⟨[rR 4 0,rR 5 1,rR 8 2,rR 13 3,rI 14 t7,rR 15 4,(17,(.s 1),.sl 1 (t10.map AV.int) false)],[.box (Tpl.v t1.2.2.1),.box (Tpl.v t1.2.2.2),.box (Pln.v t2),.box (Pkt.v t6),.box (Trc.v t8.2)]⟩
def EV(t1:List Int×Bool×Tpl×Tpl)(t2:Pln)(t6:Pkt)(t7:Int)(t8:Int×Trc)(t10:List Int)(t11:Int):NF:=⟨[rR 4 0,rR 5 1,rR 8 2,rR 13 3,rI 14 t7,rR 15 4,(17,.k,.sl 1 (t10.map AV.int) false),rI 18 t11],[.box (Tpl.v t1.2.2.1),.box (Tpl.v t1.2.2.2),.box (Pln.v t2),.box (Pkt.v t6),.box (Trc.v t8.2)]⟩
def EU(t1:List Int×Bool×Tpl×Tpl)(t2:Pln)(t6:Pkt)(t7:Int)(t8:Int×Trc)(t10:List Int)(t11:Int)(t12:Int):NF:=⟨[rR 4 0,rR 5 1,rR 8 2,rR 13 3,rI 14 t7,rR 15 4,(17,.k,.sl 1 (t10.map AV.int) false),rI 18 t11,rI 19 t12],[.box (Tpl.v t1.2.2.1),.box (Tpl.v t1.2.2.2),.box (Pln.v t2),.box (Pkt.v t6),.box (Trc.v t8.2)]⟩
def ET(t1:List Int×Bool×Tpl×Tpl)(t2:Pln)(t6:Pkt)(t7:Int)(t8:Int×Trc)(t10:List Int)(t11:Int)(t13:Bool×Edg):NF:=⟨[rR 4 0,rR 5 1,rR 8 2,rR 13 3,rI 14 t7,rR 15 4,(17,.k,.sl 1 (t10.map AV.int) false),rI 18 t11,rR 21 5,rB 22 t13.1],[.box (Tpl.v t1.2.2.1),.box (Tpl.v t1.2.2.2),.box (Pln.v t2),.box (Pkt.v t6),.box (Trc.v t8.2),.box (Edg.v t13.2)]⟩
def ES(t1:List Int×Bool×Tpl×Tpl)(t2:Pln)(t6:Pkt)(t7:Int)(t8:Int×Trc)(t10:List Int)(t11:Int)(t13:Bool×Edg)(t14:Int×Int):NF:=⟨[rR 4 0,rR 5 1,rR 8 2,rR 13 3,rI 14 t7,rR 15 4,(17,.k,.sl 1 (t10.map AV.int) false),rI 18 t11,rR 21 5,rB 22 t13.1,rI 23 t14.1,rI 24 t14.2],[.box (Tpl.v t1.2.2.1),.box (Tpl.v t1.2.2.2),.box (Pln.v t2),.box (Pkt.v t6),.box (Trc.v t8.2),.box (Edg.v t13.2)]⟩
def ER(t1:List Int×Bool×Tpl×Tpl)(t2:Pln)(t6:Pkt)(t7:Int)(t8:Int×Trc)(t10:List Int)(t11:Int)(t13:Bool×Edg)(t14:Int×Int)(t15:Bool):NF:=⟨[rR 4 0,rR 5 1,rR 8 2,rR 13 3,rI 14 t7,rR 15 4,(17,.k,.sl 1 (t10.map AV.int) false),rI 18 t11,rR 21 5,rB 22 t13.1,rI 23 t14.1,rI 24 t14.2,rB 138 t15],[.box (Tpl.v t1.2.2.1),.box (Tpl.v t1.2.2.2),.box (Pln.v t2),.box (Pkt.v t6),.box (Trc.v t8.2),.box (Edg.v t13.2)]⟩
def EQ(t1:List Int×Bool×Tpl×Tpl)(t2:Pln)(t6:Pkt)(t7:Int)(t8:Int×Trc)(t10:List Int)(t11:Int)(t16:Bool):NF:=⟨[rR 4 0,rR 5 1,rR 8 2,rR 13 3,rI 14 t7,rR 15 4,(17,.k,.sl 1 (t10.map AV.int) false),rI 18 t11,rB 167 t16],[.box (Tpl.v t1.2.2.1),.box (Tpl.v t1.2.2.2),.box (Pln.v t2),.box (Pkt.v t6),.box (Trc.v t8.2)]⟩
@[reducible] def EP:Nat→Type
 | 0=>Tap
 | 1=>(List Int)×Bool×Tpl×Tpl
 | 2=>Pln
 | 3=>(List Tbl)
 | 4=>(List Tbl)
 | 5=>Pkt
 | 6=>Pkt
 | 7=>Int
 | 8=>Int×Trc
 | 9=>Bool
 | 10=>(List Int)
 | 11=>Int
 | 12=>Int
 | 13=>Bool×Edg
 | 14=>Int×Int
 | 15=>Bool
 | 16=>Bool
 | _=>Unit
def EX(r:Bool):AV:=.bool r
def EO(t:List Int)(I9:Tap→(List Int)×Bool×Tpl×Tpl→Pln→(List Tbl)→(List Tbl)→Pkt→Pkt→Int→Int×Trc→Bool→Prop)(I11:Tap→(List Int)×Bool×Tpl×Tpl→Pln→(List Tbl)→(List Tbl)→Pkt→Pkt→Int→Int×Trc→Bool→(List Int)→Int→Prop)(m11:Tap→(List Int)×Bool×Tpl×Tpl→Pln→(List Tbl)→(List Tbl)→Pkt→Pkt→Int→Int×Trc→Bool→(List Int)→Int→Nat)(I14:Tap→(List Int)×Bool×Tpl×Tpl→Pln→(List Tbl)→(List Tbl)→Pkt→Pkt→Int→Int×Trc→Bool→(List Int)→Int→Int→Bool×Edg→(Int×Int)→Prop)(m14:Tap→(List Int)×Bool×Tpl×Tpl→Pln→(List Tbl)→(List Tbl)→Pkt→Pkt→Int→Int×Trc→Bool→(List Int)→Int→Int→Bool×Edg→(Int×Int)→Nat)(I15:Tap→(List Int)×Bool×Tpl×Tpl→Pln→(List Tbl)→(List Tbl)→Pkt→Pkt→Int→Int×Trc→Bool→(List Int)→Int→Int→Bool×Edg→Int×Int→Dlr→Bool→Prop)(I16:Tap→(List Int)×Bool×Tpl×Tpl→Pln→(List Tbl)→(List Tbl)→Pkt→Pkt→Int→Int×Trc→Bool→(List Int)→Int→Int→Bool×Edg→Int×Int→Bool→Prop):Ax Tryz.prog EP (Bool):=
 (.pass (.join 0 (Lc) (λ(t0:Tap)=>t0=(((⟨t.take 600,0⟩:Tap)):Tap)) (λb0=>(.callH [] (PY t) 32
(.bk 0 b0 (((⟨t.take 600,0⟩:Tap)):Tap) [32]))) λ(t0:Tap) =>
(.join 1 (Lb t0) (λ(t1:List Int×Bool×Tpl×Tpl)=>t1=(((cdT t0.L t0.p 6).1.2.2.1,(cdT t0.L t0.p 6).1.2.2.2,(cdT t0.L t0.p 6).1.1,(cdT t0.L t0.p 6).1.2.1):List Int×Bool×Tpl×Tpl)) (λb1=>(.req 17 (1≤6∧6≤20) λh1 =>
(.callH [0] (cdt_h t0.L t0.p 6 h1) 17
(.bk 1 b1 ((cdT t0.L t0.p 6).1.2.2.1,(cdT t0.L t0.p 6).1.2.2.2,(cdT t0.L t0.p 6).1.1,(cdT t0.L t0.p 6).1.2.1) [0,113,129])))) λ(t1:List Int×Bool×Tpl×Tpl) =>
(.br 35 (!t1.2.1) (.callP (Ay )
(.ret (true)))
(.join 2 (La t0 t1) (λ(t2:Pln)=>t2=(((dL t0.L ((cdT t0.L t0.p 6).2) t1.2.2.1 0).1):Pln)) (λb2=>(.req 67 (t1.2.2.1.rs.length≤100) λh2 =>
(.callH [0] (Px t0.L ((cdT t0.L t0.p 6).2) t1.2.2.1 0 h2) 67
(.bk 2 b2 (((dL t0.L ((cdT t0.L t0.p 6).2) t1.2.2.1 0).1):Pln) [0,1,2,83])))) λ(t2:Pln) =>
(.join 3 (KZ t0 t1 t2) (λ(t3:List Tbl)=>t3=(((jB t1.2.2.1 t2).1):(List Tbl))) (λb3=>(.callP (IH t1.2.2.1 t2)
(.bk 3 b3 (((jB t1.2.2.1 t2).1):(List Tbl)) [0,1,2,3]))) λ(t3:List Tbl) =>
(.join 4 (KY t0 t1 t2 t3) (λ(t4:List Tbl)=>t4=(((jB t1.2.2.2 t2).1):(List Tbl))) (λb4=>(.callP (IH t1.2.2.2 t2)
(.bk 4 b4 (((jB t1.2.2.2 t2).1):(List Tbl)) [0,1,2,3]))) λ(t4:List Tbl) =>
(.join 5 (KW t0 t1 t2 t3 t4) (λ(t5:Pkt)=>t5=(((iB t0.L ((dL t0.L ((cdT t0.L t0.p 6).2) t1.2.2.1 0).2) t2).1):Pkt)) (λb5=>(.callH [0] (QN t0.L ((dL t0.L ((cdT t0.L t0.p 6).2) t1.2.2.1 0).2) t2) 36
(.bk 5 b5 (((iB t0.L ((dL t0.L ((cdT t0.L t0.p 6).2) t1.2.2.1 0).2) t2).1):Pkt) [0,1,2,3,52]))) λ(t5:Pkt) =>
(.join 6 (KV t0 t1 t2 t3 t4) (λ(t6:Pkt)=>t6=(((⟨t5.mode,t5.sub,t5.set,t5.len,rng t0.L ((iB t0.L ((dL t0.L ((cdT t0.L t0.p 6).2) t1.2.2.1 0).2) t2).2) ((t1.2.2.1.rs.map Rtr.v).length:Int) 63,t5.ent,t5.ing,t5.proto,t5.bits,t5.pay⟩:Pkt)):Pkt)) (λb6=>(.callH [0] (ep t0.L ((iB t0.L ((dL t0.L ((cdT t0.L t0.p 6).2) t1.2.2.1 0).2) t2).2) ((t1.2.2.1.rs.map Rtr.v).length:Int) 63) 69
(.bk 6 b6 (((⟨t5.mode,t5.sub,t5.set,t5.len,rng t0.L ((iB t0.L ((dL t0.L ((cdT t0.L t0.p 6).2) t1.2.2.1 0).2) t2).2) ((t1.2.2.1.rs.map Rtr.v).length:Int) 63,t5.ent,t5.ing,t5.proto,t5.bits,t5.pay⟩:Pkt)):Pkt) [0,1,2,3,4]))) λ(t6:Pkt) =>
(.join 7 (KU t1 t2 t3 t4 t6) (λ(t7:Int)=>t7=(((pJ t0.L (ab t0.L ((iB t0.L ((dL t0.L ((cdT t0.L t0.p 6).2) t1.2.2.1 0).2) t2).2)) t1.2.2.1 0).1):Int)) (λb7=>(.callH [0] (Pc t0.L (ab t0.L ((iB t0.L ((dL t0.L ((cdT t0.L t0.p 6).2) t1.2.2.1 0).2) t2).2)) t1.2.2.1 0) 37
(.bk 7 b7 (((pJ t0.L (ab t0.L ((iB t0.L ((dL t0.L ((cdT t0.L t0.p 6).2) t1.2.2.1 0).2) t2).2)) t1.2.2.1 0).1):Int) [1,2,3,4]))) λ(t7:Int) =>
(.join 8 (KT t1 t2 t6 t7) (λ(t8:Int×Trc)=>t8=(((runT (nj t3 t4 t1.1) t6 t7).2,(runT (nj t3 t4 t1.1) t6 t7).1):Int×Trc)) (λb8=>(.req 52 (mf t3) λh3 =>
(.req 52 (mf t4) λh4 =>
(.callP (Qi t3 t4 t1.1 h3 h4)
(.callP (OY (nj t3 t4 t1.1) t6 t7)
(.bk 8 b8 ((runT (nj t3 t4 t1.1) t6 t7).2,(runT (nj t3 t4 t1.1) t6 t7).1) [0,1,2,3,164])))))) λ(t8:Int×Trc) =>
(.pass (.join 9 (KS t1 t2 t6 t7 t8) (λ(t9:Bool)=>I9 t0 t1 t2 t3 t4 t5 t6 t7 t8 t9) (λb9=>(.br 53 (t8.1 != 0) (.bk 9 b9 ((true):Bool) [0,1,2,3,4])
(.callP (Re t8.2 t6.bits)
(.bk 9 b9 ((!(uu t8.2 t6.bits)):Bool) [0,1,2,3,4])))) λ(t9:Bool) =>
(.br 5 t9 (.ret (false))
(.join 10 (EW t1 t2 t6 t7 t8) (λ(t10:List Int)=>t10=((bN t6.bits):(List Int))) (λb10=>(.callP (rA t6.bits)
(.bk 10 b10 ((bN t6.bits):(List Int)) [0,1,2,3,4]))) λ(t10:List Int) =>
(.loop 11 (EV t1 t2 t6 t7 t8 t10) (I11 t0 t1 t2 t3 t4 t5 t6 t7 t8 t9 t10) (m11 t0 t1 t2 t3 t4 t5 t6 t7 t8 t9 t10) ((0):Int) [0,1,2,3,4] λ(t11:Int) b11 =>
(.br 69 (decide (t11<((t10.map AV.int).length:Int))) (.pass (.join 12 (EU t1 t2 t6 t7 t8 t10 t11) (λ(t12:Int)=>(∃x5':Int,t10[t11.toNat]?=some x5'∧t12=(((atT t6.set x5' t6.len).1):Int))) (λb12=>(.elI 133 AV.int t10 t11 λx5 =>
(.callP (Ig t6.set x5 t6.len)
(.bk 12 b12 (((atT t6.set x5 t6.len).1):Int) [0,1,2,3,4])))) λ(t12:Int) =>
(.join 13 (ET t1 t2 t6 t7 t8 t10 t11) (λ(t13:Bool×Edg)=>t13=(((iF t2 t12).2,(iF t2 t12).1):Bool×Edg)) (λb13=>(.callP (Rj t2 t12)
(.bk 13 b13 ((iF t2 t12).2,(iF t2 t12).1) [0,1,2,3,4,101]))) λ(t13:Bool×Edg) =>
(.loop 14 (ES t1 t2 t6 t7 t8 t10 t11 t13) (I14 t0 t1 t2 t3 t4 t5 t6 t7 t8 t9 t10 t11 t12 t13) (m14 t0 t1 t2 t3 t4 t5 t6 t7 t8 t9 t10 t11 t12 t13) (0,0) [0,1,2,3,4,5] λ(t14:Int×Int) b14 =>
(.br 86 (decide (t14.2<((t8.2.dl.map Dlr.v).length:Int))) (.elI 134 Dlr.v t8.2.dl t14.2 λx6 =>
(.join 15 (ER t1 t2 t6 t7 t8 t10 t11 t13 t14) (λ(t15:Bool)=>I15 t0 t1 t2 t3 t4 t5 t6 t7 t8 t9 t10 t11 t12 t13 t14 x6 t15) (λb15=>(.elI 278 AV.int t10 t11 λx7 =>
(.callP (kG x7)
(.br 358 (x6.bits==(dd x7)) (.bk 15 b15 ((x6.router==t13.2.router):Bool) [0,1,2,3,4,5])
(.bk 15 b15 ((false):Bool) [0,1,2,3,4,5]))))) λ(t15:Bool) =>
(.br 6 t15 (.bk 14 b14 (W (t14.1+1),W (t14.2+1)) [0,1,2,3,4,5])
(.bk 14 b14 (t14.1,W (t14.2+1)) [0,1,2,3,4,5]))))
(.join 16 (EQ t1 t2 t6 t7 t8 t10 t11) (λ(t16:Bool)=>I16 t0 t1 t2 t3 t4 t5 t6 t7 t8 t9 t10 t11 t12 t13 t14 t16) (λb16=>(.br 118 t13.1 (.callP (Ha t1.2.2.1 t7 t13.2.router)
(.br 230 (pP t1.2.2.1 t7 t13.2.router) (.callP (Ha t1.2.2.2 t7 t13.2.router)
(.br 342 (pP t1.2.2.2 t7 t13.2.router) (.br 406 (t14.1 != 1) (.bk 16 b16 ((true):Bool) [0,1,2,3,4])
(.br 454 (!t13.1) (.bk 16 b16 ((t14.1 != 0):Bool) [0,1,2,3,4])
(.bk 16 b16 ((false):Bool) [0,1,2,3,4])))
(.br 454 (!t13.1) (.bk 16 b16 ((t14.1 != 0):Bool) [0,1,2,3,4])
(.bk 16 b16 ((false):Bool) [0,1,2,3,4]))))
(.br 454 (!t13.1) (.bk 16 b16 ((t14.1 != 0):Bool) [0,1,2,3,4])
(.bk 16 b16 ((false):Bool) [0,1,2,3,4]))))
(.br 454 (!t13.1) (.bk 16 b16 ((t14.1 != 0):Bool) [0,1,2,3,4])
(.bk 16 b16 ((false):Bool) [0,1,2,3,4])))) λ(t16:Bool) =>
(.br 5 t16 (.ret (false))
(.bk 11 b11 ((W (t11+1)):Int) [0,1,2,3,4]))))))))
(.callP (Ay )
(.ret (true))))))))))))))))))))
theorem Qu(t:List Int)(ok:EY t):∃I9 I11 m11 I14 m14 I15 I16,(EO t I9 I11 m11 I14 m14 I15 I16).vp EX true:=by
 refine⟨λ_ _ _ _ _ _ _ _ _ b=>b=false,λ_ _ _ _ _ _ q _ _ _ l i=>∃n:Nat,i=n∧n≤l.length,λ_ _ _ _ _ _ _ _ _ _ l i=>l.length-i.toNat,
  λ_ _ _ _ _ _ _ _ tr _ l i _ e s=>∃n:Nat,s.2=n∧n≤tr.2.dl.length∧s.1=(nu (l.getD i.toNat 0) e.2.router (tr.2.dl.take n):Nat),λ_ _ _ _ _ _ _ _ tr _ _ _ _ _ s=>tr.2.dl.length-s.2.toNat,
  λ_ _ _ _ _ _ _ _ _ _ l i _ e _ d b=>b=(d.bits==dd (l.getD i.toNat 0) && d.router==e.2.router),λ_ _ _ _ _ _ _ _ _ _ _ _ _ _ _ b=>b=false,?_⟩
 simp only[EY,okU,Blk.ok,aJ,B']at ok;dsimp only[EO,EP,Ax.vp,Ax.vc];simp only[vcU,rfU,B'];refine⟨trivial,?_⟩;rintro _ rfl;refine⟨⟨by omega,trivial⟩,?_⟩;rintro _ rfl;simp only;refine⟨λ_=>trivial,λe=>?_⟩;have e:(cdT (t.take 600) 0 6).1.2.2.2=true:=by simpa using e
 obtain⟨c,H⟩:=RR e;have hne:=RS (t.take 600) 0;have hl:=(cg H.hg).1;refine⟨⟨by omega,trivial⟩,?_⟩;rintro _ rfl;have hp:=Pv (t.take 600) (cdT (t.take 600) 0 6).2 _ H.hg;have hpl:=Kf (t.take 600) (cdT (t.take 600) 0 6).2 (cdT (t.take 600) 0 6).1.1;obtain⟨s1,s2,s3,s4,s5⟩:=H.safe hp;have hm:nj (jB (cdT (t.take 600) 0 6).1.1 (dL (t.take 600) (cdT (t.take 600) 0 6).2 (cdT (t.take 600) 0 6).1.1 0).1).1 (jB (cdT (t.take 600) 0 6).1.2.1 (dL (t.take 600) (cdT (t.take 600) 0 6).2 (cdT (t.take 600) 0 6).1.1 0).1).1 (cdT (t.take 600) 0 6).1.2.2.1=dD (mxF (cdT (t.take 600) 0 6).1.1 (cdT (t.take 600) 0 6).1.2.1 (cdT (t.take 600) 0 6).1.2.2.1) (dL (t.take 600) (cdT (t.take 600) 0 6).2 (cdT (t.take 600) 0 6).1.1 0).1 (cdT (t.take 600) 0 6).1.1.rs:=by
  rw[nM H.hg H.cap hp,nM H.aft.1 H.aft.2.1 hp,H.aft.2.2];exact zn
 have hfor:=L0 hp hpl (t.take 600) (dL (t.take 600) (cdT (t.take 600) 0 6).2 (cdT (t.take 600) 0 6).1.1 0).2;refine⟨trivial,?_⟩;rintro _ rfl;refine⟨trivial,?_⟩;rintro _ rfl;refine⟨trivial,?_⟩;rintro _ rfl;generalize (iB (t.take 600) (dL (t.take 600) (cdT (t.take 600) 0 6).2 (cdT (t.take 600) 0 6).1.1 0).2 (dL (t.take 600) (cdT (t.take 600) 0 6).2 (cdT (t.take 600) 0 6).1.1 0).1).1=k at hfor ⊢;generalize (iB (t.take 600) (dL (t.take 600) (cdT (t.take 600) 0 6).2 (cdT (t.take 600) 0 6).1.1 0).2 (dL (t.take 600) (cdT (t.take 600) 0 6).2 (cdT (t.take 600) 0 6).1.1 0).1).2=pos;generalize (dL (t.take 600) (cdT (t.take 600) 0 6).2 (cdT (t.take 600) 0 6).1.1 0).1=p at *
 generalize (cdT (t.take 600) 0 6).1.2.2.1=ch at *
 generalize (cdT (t.take 600) 0 6).1.2.1=h at *
 generalize (cdT (t.take 600) 0 6).1.1=g at *
 have htt:=vM (L:=t.take 600) (p:=pos) (lo:=(g.rs.length:Int)) (hi:=63) (by omega);generalize rng (t.take 600) pos (g.rs.length:Int) 63=tt at htt ⊢;refine⟨trivial,?_⟩;rintro _ rfl;refine⟨trivial,?_⟩;rintro _ rfl;have hr:=JA (L:=t.take 600) (p:=ab (t.take 600) pos) hne;generalize (pJ (t.take 600) (ab (t.take 600) pos) g 0).1=r at hr ⊢;refine⟨⟨s4,s5,trivial⟩,?_⟩;rintro _ rfl;rw[hm];obtain⟨hfit,hbits⟩:=H.run hp hpl hfor (t:=tt) (by omega) hr;obtain⟨r1,r2⟩:=OW hfit hbits;have hends:=lR.ends (p:=⟨k.mode,k.sub,k.set,k.len,tt,k.ent,k.ing,k.proto,k.bits,k.pay⟩) hbits r2;have honce:=λ{j:Nat}=>H.once hr (q:=⟨k.mode,k.sub,k.set,k.len,tt,k.ent,k.ing,k.proto,k.bits,k.pay⟩) htt.1 r2 (k:=j);simp only at hends honce ⊢;generalize runT (dD (mxF g h ch) p g.rs) ⟨k.mode,k.sub,k.set,k.len,tt,k.ent,k.ing,k.proto,k.bits,k.pay⟩ r=R at *
 rw[r1,hends];refine⟨⟨λe=>by simp at e,λ_=>rfl⟩,?_⟩;rintro _ rfl;refine⟨λe=>(by cases e),λ_=>⟨trivial,?_⟩⟩;rintro _ rfl;have hdl:=r2.dlen;have hbl:=j9 k.bits;refine⟨⟨0,rfl,aG' _⟩,?_⟩;rintro _ ⟨n,rfl,hn⟩;simp only[Int.toNat_natCast];refine⟨λhlt=>?_,λ_=>trivial⟩;have hn':n<(bN k.bits).length:=by omega
 have hg:(bN k.bits)[n]?=some ((bN k.bits)[n]):=u' hn';obtain⟨u,hu,hult,hut⟩:∃u:Nat,(bN k.bits)[n]=(u:Int)∧u<64∧k.bits.toNat.testBit u=true:=by
  have hm:(bN k.bits)[n]∈bN k.bits:=aA' hn';generalize (bN k.bits)[n]=v at hm ⊢;unfold bN at hm;obtain⟨u,hu,he⟩:=Y'.mp hm;obtain⟨h1,h2⟩:=aY'.mp hu;exact⟨u,he.symm,al'.mp h1,h2⟩
 have hgd:(bN k.bits).getD n 0=(u:Int):=by rw[I',hg,hu];rfl
 rw[hu]at hg;rw[hgd];refine⟨⟨by omega,by omega,λx hx=>⟨x,hx,rfl⟩⟩,?_⟩;rintro _ ⟨x5',hx5,rfl⟩;obtain rfl:x5'=(u:Int):=by rw[hg]at hx5;exact(af' hx5).symm
 refine⟨trivial,?_⟩;rintro _ rfl;simp only;obtain⟨hon1,hon0⟩:=honce hult hut;generalize hE:iF p (atT k.set (u:Int) k.len).1=E at hon1 hon0 ⊢;refine⟨⟨0,rfl,aG' _,by rw[List.take_zero];rfl⟩,?_⟩;rintro⟨cc,i⟩ ⟨m,h1,hm,h2⟩;simp only at h1 h2 ⊢;subst h1 h2;simp only[Int.toNat_natCast];have hcl:=Mf (u:Int) E.1.router (R.1.dl.take m);rw[ar']at hcl
 refine⟨λhml=>⟨by omega,hml,?_⟩,λhml=>?_⟩
 ·intro d hd
  refine⟨⟨by omega,by omega,?_⟩,?_⟩
  ·intro x1 hx1;obtain rfl:x1=(u:Int):=by rw[hg]at hx1;exact(af' hx1).symm
   exact⟨λe=>by rw[e];rfl,λe=>by rw[e];rfl⟩
  ·rintro _ rfl;have hw:W ((m:Int)+1)=((m+1:Nat):Int):=by rw[ce (by omega)];omega
   have hc:=BI (u:Int) E.1.router hd
   refine⟨λe=>⟨⟨m+1,hw,by omega,?_⟩,by rw[hw,Int.toNat_natCast];omega⟩,λe=>⟨⟨m+1,hw,by omega,?_⟩,by rw[hw,Int.toNat_natCast];omega⟩⟩
   ·rw[hc,G' e,ce (by omega)];omega
   ·rw[hc,F' (by rw[e];simp)];omega
 ·rw[ai' (show R.1.dl.length≤m by omega)]
  refine⟨?_,?_⟩
  ·obtain⟨E1,E2⟩:=E;cases E2 with
   | true =>
    refine⟨λ_=>⟨λc1=>⟨λc2=>?_,λc2=>by simp⟩,λc1=>by simp⟩,λq=>by cases q⟩;rw[hon1 E1 rfl c1 c2];simp
   | false =>
    refine⟨λq=>(by cases q),λ_=>?_⟩;rw[hon0 rfl];simp
  ·rintro _ rfl;have hw:W ((n:Int)+1)=((n+1:Nat):Int):=by rw[ce (by omega)];rfl
   exact⟨λq=>(by cases q),λ_=>⟨⟨n+1,hw,by omega⟩,by rw[hw,Int.toNat_natCast];omega⟩⟩
def Qw(t:List Int):PC Tryz.prog:=pcO 4 [(.s 1)] [.sl 1 (t.map AV.int) false] .k EX true (λok=>let ⟨I9,I11,m11,I14,m14,I15,I16,h⟩:=Qu t ok;⟨_,h,by kernel_rfl⟩) rfl (by kernel_rfl)
end Go.Proofs.YtdoacjojljgdcaaGreat
