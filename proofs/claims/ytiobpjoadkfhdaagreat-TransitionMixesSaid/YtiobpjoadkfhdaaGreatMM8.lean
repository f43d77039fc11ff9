/- Texts joined: BN1 BD PK0 TB1 TB2 HP1 LT LT2 TL BH1 BH2 BH3 BH4. -/
import Derived.Test.YtiobpjoadkfhdaaGreatMM7
set_option linter.unusedVariables false
set_option linter.unusedSimpArgs false
set_option linter.unusedSectionVars false
namespace Go.Proofs.YtiobpjoadkfhdaaGreat
open Go Go.Am
def o8(L:List Int)(p:Nat)(n:Nat):Nat:=(Mod (al L (ab L p)) n).toNat
def qE(L:List Int)(p:Nat)(r:Int)(nx:List Int):List Int×Nat:=
 if Mod (al L p) 4=0 then(nx++[aR [0,1,6,99,100] (al L (ab L p))],ab L (ab L p))
 else if Mod (al L p) 4=1 then(nx++[r],ab L p)
 else if Mod (al L p) 4=2 then([],ab L p)
 else([aR [1,2,3,9,r] (al L (ab L p))],ab L (ab L p))
def bndT(L:List Int)(p:Nat)(b:Tbl):Tbl×Nat:=
  if Mod (al L p) 8=0 then({ b with router:=aR [0,1,2,99,100] (al L (ab L p)) },ab L (ab L p))
  else if Mod (al L p) 8=1 then({ b with sub:=eJ L (ab L p) },ab L (ab L p))
  else if Mod (al L p) 8=2 then({ b with len:=aR [0,8,16,24,64] (al L (ab L p)) },ab L (ab L p))
  else if Mod (al L p) 8=3 then({ b with rows:=b.rows++[⟨aR [0,1,256,257] (al L (ab L p)),[1]⟩] },ab L (ab L p))
  else if 0<b.rows.length then
    ({ b with rows:=b.rows.set (o8 L p b.rows.length) ⟨(b.rows.getD (o8 L p b.rows.length) ⟨0,[]⟩).id,(qE L (ab L (ab L p)) b.router (b.rows.getD (o8 L p b.rows.length) ⟨0,[]⟩).nx).1⟩ },
      (qE L (ab L (ab L p)) b.router (b.rows.getD (o8 L p b.rows.length) ⟨0,[]⟩).nx).2)
  else(b,ab L p)
def j8(L:List Int)(p:Nat)(n:Int):Tbl×Nat:=
 if(fG (bG L p 6).1 (dH L (bG L p 6).2 (bG L p 6).1 0).1).1=[]then(⟨1,0,8,[]⟩,(dH L (bG L p 6).2 (bG L p 6).1 0).2)
 else
  (if 0<n∧dl L (ab L (dH L (bG L p 6).2 (bG L p 6).1 0).2) n=true then
   bndT L (ab L (ab L (dH L (bG L p 6).2 (bG L p 6).1 0).2)) ((fG (bG L p 6).1 (dH L (bG L p 6).2 (bG L p 6).1 0).1).1.getD (Mod (al L (dH L (bG L p 6).2 (bG L p 6).1 0).2) (fG (bG L p 6).1 (dH L (bG L p 6).2 (bG L p 6).1 0).1).1.length).toNat ⟨0,0,0,[]⟩)
  else((fG (bG L p 6).1 (dH L (bG L p 6).2 (bG L p 6).1 0).1).1.getD (Mod (al L (dH L (bG L p 6).2 (bG L p 6).1 0).2) (fG (bG L p 6).1 (dH L (bG L p 6).2 (bG L p 6).1 0).1).1.length).toNat ⟨0,0,0,[]⟩,
   if 0<n then ab L (ab L (dH L (bG L p 6).2 (bG L p 6).1 0).2)else ab L (dH L (bG L p 6).2 (bG L p 6).1 0).2))
def GM:AF:=
 ⟨93,2,[.cell 4 true 4],
 .seq (.reg [⟨(some 3),.box (.t 1),none⟩,⟨(some 4),.box (.c (.agg [(.val (.int .i64 0)),(.val (.int .i64 0)),(.val (.int .i64 0)),(.sl 0 [] true)])),none⟩])
 (.seq (.seq (.reg [⟨(some 6),.move (.t 0),none⟩,⟨(some 7),.call (.c (.func 41 [])) [(.t 6),(.c (.val (.int .i64 8)))],none⟩])
 (.block 0 (.seq (.reg [⟨(some 64),.bin .eql (.t 7) (.c (.val (.int .i64 0))),none⟩,⟨(some 63),.move (.t 64),none⟩])
 (.cond (.t 63) (.reg [⟨(some 65),.move (.t 0),none⟩,⟨(some 66),.lit 1 5 (.val (.int .i64 0)) [(0,(.c (.val (.int .i64 0)))),(1,(.c (.val (.int .i64 1)))),(2,(.c (.val (.int .i64 2)))),(3,(.c (.val (.int .i64 99)))),(4,(.c (.val (.int .i64 100))))],none⟩,⟨(some 67),.call (.c (.func 79 [])) [(.t 65),(.t 66)],none⟩,⟨(some 68),.faddr 0 (.t 3),none⟩,⟨none,.store 1 (.t 68) (.t 67),none⟩]) (.seq (.reg [⟨(some 70),.bin .eql (.t 7) (.c (.val (.int .i64 1))),none⟩,⟨(some 69),.move (.t 70),none⟩])
 (.cond (.t 69) (.reg [⟨(some 71),.move (.t 0),none⟩,⟨(some 72),.call (.c (.func 42 [])) [(.t 71)],none⟩,⟨(some 73),.faddr 1 (.t 3),none⟩,⟨none,.store 1 (.t 73) (.t 72),none⟩]) (.seq (.reg [⟨(some 75),.bin .eql (.t 7) (.c (.val (.int .i64 2))),none⟩,⟨(some 74),.move (.t 75),none⟩])
 (.cond (.t 74) (.reg [⟨(some 76),.move (.t 0),none⟩,⟨(some 77),.lit 1 5 (.val (.int .i64 0)) [(0,(.c (.val (.int .i64 0)))),(1,(.c (.val (.int .i64 8)))),(2,(.c (.val (.int .i64 16)))),(3,(.c (.val (.int .i64 24)))),(4,(.c (.val (.int .i64 64))))],none⟩,⟨(some 78),.call (.c (.func 79 [])) [(.t 76),(.t 77)],none⟩,⟨(some 79),.faddr 2 (.t 3),none⟩,⟨none,.store 1 (.t 79) (.t 78),none⟩]) (.seq (.reg [⟨(some 81),.bin .eql (.t 7) (.c (.val (.int .i64 3))),none⟩,⟨(some 80),.move (.t 81),none⟩])
 (.cond (.t 80) (.dreg [⟨(some 82),.faddr 3 (.t 3),none⟩,⟨(some 83),.load false 1 (.t 82),none⟩,⟨(some 84),.move (.t 0),none⟩,⟨(some 85),.lit 1 4 (.val (.int .i64 0)) [(0,(.c (.val (.int .i64 0)))),(1,(.c (.val (.int .i64 1)))),(2,(.c (.val (.int .i64 256)))),(3,(.c (.val (.int .i64 257))))],none⟩,⟨(some 86),.call (.c (.func 79 [])) [(.t 84),(.t 85)],none⟩,⟨(some 87),.lit 1 1 (.val (.int .i64 0)) [(0,(.c (.val (.int .i64 1))))],none⟩,⟨(some 88),.build [(.val (.int .i64 0)),(.sl 0 [] true)] [(0,1,(.t 86)),(1,1,(.t 87))],none⟩,⟨(some 89),.lit 2 1 (.agg [(.val (.int .i64 0)),(.sl 0 [] true)]) [(0,(.t 88))],none⟩,⟨(some 90),.append 2 32 (.t 83) (.t 89),none⟩,⟨(some 91),.faddr 3 (.t 3),none⟩,⟨none,.store 1 (.t 91) (.t 90),none⟩] [(1,3),(1,4),(1,5),(3,5),(4,5),(1,7)]) (.seq (.reg [⟨(some 8),.faddr 3 (.t 3),none⟩,⟨(some 9),.load false 1 (.t 8),none⟩,⟨(some 10),.len (.t 9),none⟩,⟨(some 11),.bin .gtr (.t 10) (.c (.val (.int .i64 0))),none⟩])
 (.cond (.t 11) (.seq (.dreg [⟨(some 12),.faddr 3 (.t 3),none⟩,⟨(some 13),.load false 1 (.t 12),none⟩,⟨(some 14),.move (.t 0),none⟩,⟨(some 15),.faddr 3 (.t 3),none⟩,⟨(some 16),.load false 1 (.t 15),none⟩,⟨(some 17),.len (.t 16),none⟩,⟨(some 18),.call (.c (.func 41 [])) [(.t 14),(.t 17)],none⟩,⟨(some 19),.iaddr 2 (.t 13) (.t 18),none⟩,⟨(some 5),.move (.t 19),none⟩] [(1,4),(1,5),(1,6)])
 (.seq (.reg [⟨(some 20),.move (.t 0),none⟩,⟨(some 21),.call (.c (.func 41 [])) [(.t 20),(.c (.val (.int .i64 4)))],none⟩])
 (.block 1 (.seq (.reg [⟨(some 32),.bin .eql (.t 21) (.c (.val (.int .i64 0))),none⟩,⟨(some 31),.move (.t 32),none⟩])
 (.cond (.t 31) (.dreg [⟨(some 33),.move (.t 5),none⟩,⟨(some 34),.move (.t 5),none⟩,⟨(some 35),.nilc (.t 34),none⟩,⟨(some 36),.faddr 1 (.t 35),none⟩,⟨(some 37),.load false 1 (.t 36),none⟩,⟨(some 38),.move (.t 0),none⟩,⟨(some 39),.lit 1 5 (.val (.int .i64 0)) [(0,(.c (.val (.int .i64 0)))),(1,(.c (.val (.int .i64 1)))),(2,(.c (.val (.int .i64 6)))),(3,(.c (.val (.int .i64 99)))),(4,(.c (.val (.int .i64 100))))],none⟩,⟨(some 40),.call (.c (.func 79 [])) [(.t 38),(.t 39)],none⟩,⟨(some 41),.lit 1 1 (.val (.int .i64 0)) [(0,(.t 40))],none⟩,⟨(some 42),.append 1 8 (.t 37) (.t 41),none⟩,⟨(some 43),.nilc (.t 33),none⟩,⟨(some 44),.faddr 1 (.t 43),none⟩,⟨none,.store 1 (.t 44) (.t 42),none⟩] [(4,6),(4,7),(4,8)]) (.seq (.reg [⟨(some 46),.bin .eql (.t 21) (.c (.val (.int .i64 1))),none⟩,⟨(some 45),.move (.t 46),none⟩])
 (.cond (.t 45) (.dreg [⟨(some 47),.move (.t 5),none⟩,⟨(some 48),.move (.t 5),none⟩,⟨(some 49),.nilc (.t 48),none⟩,⟨(some 50),.faddr 1 (.t 49),none⟩,⟨(some 51),.load false 1 (.t 50),none⟩,⟨(some 52),.faddr 0 (.t 3),none⟩,⟨(some 53),.load false 1 (.t 52),none⟩,⟨(some 54),.lit 1 1 (.val (.int .i64 0)) [(0,(.t 53))],none⟩,⟨(some 55),.append 1 8 (.t 51) (.t 54),none⟩,⟨(some 56),.nilc (.t 47),none⟩,⟨(some 57),.faddr 1 (.t 56),none⟩,⟨none,.store 1 (.t 57) (.t 55),none⟩] [(4,6),(4,7)]) (.seq (.reg [⟨(some 59),.bin .eql (.t 21) (.c (.val (.int .i64 2))),none⟩,⟨(some 58),.move (.t 59),none⟩])
 (.cond (.t 58) (.reg [⟨(some 60),.move (.t 5),none⟩,⟨(some 61),.nilc (.t 60),none⟩,⟨(some 62),.faddr 1 (.t 61),none⟩,⟨none,.store 1 (.t 62) (.c (.sl 0 [] true)),none⟩]) (.reg [⟨(some 22),.move (.t 5),none⟩,⟨(some 23),.move (.t 0),none⟩,⟨(some 24),.faddr 0 (.t 3),none⟩,⟨(some 25),.load false 1 (.t 24),none⟩,⟨(some 26),.lit 1 5 (.val (.int .i64 0)) [(0,(.c (.val (.int .i64 1)))),(1,(.c (.val (.int .i64 2)))),(2,(.c (.val (.int .i64 3)))),(3,(.c (.val (.int .i64 9)))),(4,(.t 25))],none⟩,⟨(some 27),.call (.c (.func 79 [])) [(.t 23),(.t 26)],none⟩,⟨(some 28),.lit 1 1 (.val (.int .i64 0)) [(0,(.t 27))],none⟩,⟨(some 29),.nilc (.t 22),none⟩,⟨(some 30),.faddr 1 (.t 29),none⟩,⟨none,.store 1 (.t 30) (.t 28),none⟩])))))))))) (.skip)))))))))))))
 (.seq (.reg [⟨(some 92),.load true 4 (.t 3),none⟩,⟨none,.store 4 (.t 4) (.t 92),none⟩])
 (.ret)))⟩
theorem zK:eH Tryz.prog Tryz.f47=some GM:=by kernel_rfl
theorem rX(L:List Int)(p:Nat)(n:Int):aF Tryz.prog 41 [.ref 0 0,.int n] [.box (Tap.v ⟨L,p⟩)] (.int (Mod (al L p) n)) [some (.box (Tap.v ⟨L,ab L p⟩))]:=(bB L p n).ok
theorem Nc(L:List Int)(p:Nat):aF Tryz.prog 42 [.ref 0 0] [.box (Tap.v ⟨L,p⟩)] (.int (eJ L p)) [some (.box (Tap.v ⟨L,ab L p⟩))]:=(jL L p).ok
theorem lO(L:List Int)(p:Nat)(l:List Int)(h:l≠[]):aF Tryz.prog 79 [.ref 0 0,.sl 1 (l.map AV.int) true] [.box (Tap.v ⟨L,p⟩)] (.int (aR l (al L p))) [some (.box (Tap.v ⟨L,ab L p⟩))]:=aF.sub (ib L p l h).ok ⟨Sub.refl,Sub.full,trivial⟩ Sub.refl
theorem aw(L:List Int)(p:Nat):(Tap.v ⟨L,p⟩).pure:=by
 refine AV.pureB_ok ?_;unfold Tap.v;simp[AV.pureB,bv,ae]
structure BdI (B C:Nat) (L:List Int) (q:Tbl×Nat) (s:S3):Prop where
  nx:35≤s.nx
  t3:s.tm 3=.ref B 0
  t4:s.tm 4=.ref C 0
  h3:s.hp B=some (.box (.agg [.int q.1.router,.int q.1.sub,.int q.1.len,.sl 2 (q.1.rows.map Rw.v) false]))
  h19:s.hp C=some (.box (.agg [.val (.int .i64 0),.val (.int .i64 0),.val (.int .i64 0),.sl 0 [] true]))
  h0:s.hp 0=some (.box (Tap.v ⟨L,q.2⟩))
theorem gj{B C K:Nat}(hB:B≠C∧B≠0∧C≠0){L:List Int}{m nx:Nat}{tm:Nat→AV}{hp:Hp}{a b c:Int}{q br:Nat}{rows:List Rw}{vs:List AV}(n1:35≤nx)(t3:tm 3=.ref B 0)(t4:tm 4=.ref C 0)
  (h3:hp B=some (.box (.agg [.int a,.int b,.int c,.vec br]))) (hr:hp br=some (.vec 2 vs)) (hx:aD vs) (hs:bX vs (rows.map Rw.v)) (hl:rows.length=vs.length)
  (h19:hp C=some (.box (.agg [.val (.int .i64 0),.val (.int .i64 0),.val (.int .i64 0),.sl 0 [] true]))) (h0:hp 0=some (.box (Tap.v ⟨L,q⟩))):∃s',ao K m ⟨tm,hp,nx⟩ s'∧BdI B C L (⟨a,b,c,rows⟩,q) s':=by
 have e1:br≠B:=λe=>by subst e;rw[h3]at hr;cases hr
 have e2:br≠C:=λe=>by subst e;rw[h19]at hr;cases hr
 have e3:br≠0:=λe=>by subst e;rw[h0]at hr;cases hr
 refine⟨_,(ao.giveB B 3 br h3 rfl hr hx).trans (ao.subB (y:=.agg [.int a,.int b,.int c,.sl 2 (rows.map Rw.v) false]) B (ak _ _ _) (Sub.agg ⟨Sub.refl,Sub.refl,Sub.refl,Sub.slE hs (by rw[u'];exact hl) (λ_ x hx=>?_),trivial⟩) rfl),⟨n1,t3,t4,?_,?_,?_⟩⟩
 ·obtain⟨y,_,rfl⟩:=aa'.mp hx;rfl
 ·dsimp only;rw[ak]
 ·dsimp only;rw[ai _ _ (by omega),ai _ _ (by omega),ai _ _ (by omega)];exact h19
 ·dsimp only;rw[ai _ _ (by omega),ai _ _ (by omega),ai _ _ (by omega)];exact h0
theorem j6{B C K:Nat}(hB:B≠C∧B≠0∧C≠0){L:List Int}{m nx:Nat}{tm:Nat→AV}{hp:Hp}{a b c:Int}{q br bk k:Nat}{x:Rw}{rows:List Rw}{vs:List AV}(n1:35≤nx)(t3:tm 3=.ref B 0)(t4:tm 4=.ref C 0)
  (h3:hp B=some (.box (.agg [.int a,.int b,.int c,.vec br]))) (hr:hp br=some (.vec 2 vs)) (hk:vs[k]?=some (.agg [.int x.id,.vec bk])) (hb:hp bk=some (.vec 1 (x.nx.map AV.int)))
  (hx:aD (vs.set k (Rw.v x))) (hs:bX (vs.set k (Rw.v x)) (rows.map Rw.v)) (hl:rows.length=vs.length)
  (h19:hp C=some (.box (.agg [.val (.int .i64 0),.val (.int .i64 0),.val (.int .i64 0),.sl 0 [] true]))) (h0:hp 0=some (.box (Tap.v ⟨L,q⟩))) (hne:br≠bk):∃s',ao K m ⟨tm,hp,nx⟩ s'∧BdI B C L (⟨a,b,c,rows⟩,q) s':=by
 have e1:br≠B:=λe=>by subst e;rw[h3]at hr;cases hr
 have e2:br≠C:=λe=>by subst e;rw[h19]at hr;cases hr
 have e3:br≠0:=λe=>by subst e;rw[h0]at hr;cases hr
 have f1:bk≠B:=λe=>by subst e;rw[h3]at hb;cases hb
 have f2:bk≠C:=λe=>by subst e;rw[h19]at hb;cases hb
 have f3:bk≠0:=λe=>by subst e;rw[h0]at hb;cases hb
 obtain⟨s',w,h⟩:=gj hB (L:=L) (m:=m) (rows:=rows) (tm:=tm) (nx:=nx) (q:=q) (br:=br) (a:=a) (b:=b) (c:=c) (hp:=upd (upd hp bk none) br (some (.vec 2 (vs.set k (Rw.v x))))) n1 t3 t4 (by rw[ai _ _ (by omega),ai _ _ (by omega)];exact h3) (ak _ _ _) hx hs (by rw[aX'];exact hl)
  (by rw[ai _ _ (by omega),ai _ _ (by omega)];exact h19) (by rw[ai _ _ (by omega),ai _ _ (by omega)];exact h0)
 exact⟨s',(ao.giveVC br k bk hr hk hb hne (au (ae (λ_=>rfl) _))).trans w,h⟩
theorem dN(l:List Rw):aD (l.map Rw.v):=au (ae (λp=>by show AV.pureB (.agg [.int p.id,.sl 1 (p.nx.map AV.int) false])=true;simp[AV.pureB,bv,ae]) _)
theorem mC{k bk:Nat}{rows:List Rw}(y:AV):(cpC k bk rows rows.length).set k y=(rows.map Rw.v).set k y:=by
 refine aJ' λi=>?_;rw[ak',ak',kV,u']
 by_cases e:k=i
 ·rw[F' e,F' e]
 ·rw[E' e,E' e]
  by_cases h:i<rows.length
  ·unfold cpC;rw[I',I',bP' h,f' h];simp only[ai',cpR,H',f' h,by'];rw[E' (λq=>e q.symm)];rfl
  ·rw[af' (by rw[kV];omega),af' (by rw[u'];omega)]
theorem j3{k bk:Nat}{rows:List Rw}(h:k<rows.length):(cpC k bk rows rows.length)[k]?=some (.agg [.int (rows.getD k ⟨0,[]⟩).id,.vec bk]):=by
 unfold cpC;rw[I',bP' h];simp[cpR]
theorem kI{rows:List Rw}{k:Nat}{x:Rw}:(rows.map Rw.v).set k (Rw.v x)=(rows.set k x).map Rw.v:=by rw[bz']
theorem rp{rows:List Rw}{k:Nat}(h:k<rows.length):rows.set k (rows.getD k ⟨0,[]⟩)=rows:=by
 rw[H',f' h];exact List.set_getElem_self h
theorem bX.snoc:∀{xs ys:List AV} {x y:AV},bX xs ys→Sub x y→bX (xs++[x]) (ys++[y])
 | [],[],_,_,_,h=>⟨h,trivial⟩
 | _::_,_::_,_,_,h,q=>⟨h.1,bX.snoc h.2 q⟩
 | [],_::_,_,_,h,_=>h.elim
 | _::_,[],_,_,h,_=>h.elim
theorem mT:∀{xs:List AV} {x:AV},aD xs→x.pure→aD (xs++[x])
 | [],_,_,h=>⟨h,trivial⟩
 | _::_,_,h,q=>⟨h.1,mT h.2 q⟩
theorem oF:∀{xs:List AV} {x:AV} {i:Nat},aD xs→x.pure→aD (xs.set i x)
 | [],_,_,_,_=>trivial
 | _::_,_,0,h,q=>⟨q,h.2⟩
 | _::_,_,_+1,h,q=>⟨h.1,oF h.2 q⟩
theorem bX.sets{y z:AV}:∀(xs:List AV) (i:Nat),Sub y z→bX (xs.set i y) (xs.set i z)
 | [],_,_=>trivial
 | _::_,0,h=>⟨h,bX.refl⟩
 | _::xs,i+1,h=>⟨Sub.refl,bX.sets xs i h⟩
theorem Rm(L:List Int)(p:Nat)(b:Tbl)(h:okT b)(k:Nat)(hk:k<b.rows.length)(hkk:k=o8 L p b.rows.length):aF Tryz.prog 47 [.ref 0 0,.agg [.int b.router,.int b.sub,.int b.len,.vec 1]] [.box (Tap.v ⟨L,p⟩),.vec 2 (cpC k 2 b.rows b.rows.length),.vec 1 ((b.rows.getD k ⟨0,[]⟩).nx.map AV.int)] (Tbl.v (bndT L p b).1) [some (.box (Tap.v ⟨L,(bndT L p b).2⟩)),none,none]:=by
  have hml:=aU;refine aF.walk Tryz.func47 zK (by simp[GM]) ?_;unfold GM;simp only[ei,eC,Y',al'];have hcl:=kV k 2 b.rows b.rows.length;have hb1:=h.1;have hself:(cpC k 2 b.rows b.rows.length).set k (Rw.v (b.rows.getD k ⟨0,[]⟩))=b.rows.map Rw.v:=by rw[mC,kI,rp hk]
  refine AWP.seq' ?_;refine AWP.reg' λK hK=>?_
  try simp only[ag,seval,Tbl.v]
  refine hK _ _ _ ?_;clear hK K
  refine AWP.seqI (λs=>∃s',ao 3 93 s s'∧BdI 3 19 L (bndT L p b) s') ?_ ?_
  · refine AWP.seq' ?_
    refine AWP.reg' λK hK=>?_
    try simp only[ag,seval]
    refine dd (rX L p 8) (bx (by kernel_rfl)) ⟨trivial,trivial⟩ (aw _ _) (aw _ _) trivial rfl rfl rfl ?_
    try simp only[ag,seval]
    refine hK _ _ _ ?_;clear hK K;refine AWP.block ?_;refine AWP.seq' ?_;refine AWP.reg' λK hK=>?_
    try simp only[ag,seval]
    refine hK _ _ _ ?_;clear hK K
    refine AWP.cond rfl (λe=>?_) (λe=>?_)
    · have e:Mod (al L p) 8=0:=eq_of_beq e
      refine AWP.reg' λK hK=>?_
      try simp only[ag,seval]
      refine fF ?_
      try simp only[ag,seval]
      refine dd (lO L (ab L p) [0,1,2,99,100] (by simp)) (bx (by kernel_rfl)) ⟨AV.pureB_ok rfl,trivial⟩ (aw _ _) (aw _ _) trivial rfl rfl rfl ?_
      try simp only[ag,seval]
      refine hK _ _ _ ?_;clear hK K;refine(show ∃s',_ from ?_);rw[bndT,F' e];exact j6 ⟨by omega,by omega,by omega⟩ (k:=k) (x:=b.rows.getD k ⟨0,[]⟩) (by omega) rfl rfl rfl rfl (j3 hk) rfl (by rw[hself];exact dN _) (by rw[hself];exact bX.refl) hcl.symm rfl rfl (by omega)
    refine AWP.seq' ?_;refine AWP.reg' λK hK=>?_
    try simp only[ag,seval]
    refine hK _ _ _ ?_;clear hK K;have e:¬Mod (al L p) 8=0:=by simpa using e
    refine AWP.cond rfl (λe1=>?_) (λe1=>?_)
    · have e1:Mod (al L p) 8=1:=eq_of_beq e1
      refine AWP.reg' λK hK=>?_
      try simp only[ag,seval]
      refine dd (Nc L (ab L p)) (bx (by kernel_rfl)) trivial (aw _ _) (aw _ _) trivial rfl rfl rfl ?_
      try simp only[ag,seval]
      refine hK _ _ _ ?_;clear hK K;refine(show ∃s',_ from ?_);rw[bndT,E' e,F' e1];exact j6 ⟨by omega,by omega,by omega⟩ (k:=k) (x:=b.rows.getD k ⟨0,[]⟩) (by omega) rfl rfl rfl rfl (j3 hk) rfl (by rw[hself];exact dN _) (by rw[hself];exact bX.refl) hcl.symm rfl rfl (by omega)
    refine AWP.seq' ?_;refine AWP.reg' λK hK=>?_
    try simp only[ag,seval]
    refine hK _ _ _ ?_;clear hK K;have e1:¬Mod (al L p) 8=1:=by simpa using e1
    refine AWP.cond rfl (λe2=>?_) (λe2=>?_)
    · have e2:Mod (al L p) 8=2:=eq_of_beq e2
      refine AWP.reg' λK hK=>?_
      try simp only[ag,seval]
      refine fF ?_
      try simp only[ag,seval]
      refine dd (lO L (ab L p) [0,8,16,24,64] (by simp)) (bx (by kernel_rfl)) ⟨AV.pureB_ok rfl,trivial⟩ (aw _ _) (aw _ _) trivial rfl rfl rfl ?_
      try simp only[ag,seval]
      refine hK _ _ _ ?_;clear hK K;refine(show ∃s',_ from ?_);rw[bndT,E' e,E' e1,F' e2];exact j6 ⟨by omega,by omega,by omega⟩ (k:=k) (x:=b.rows.getD k ⟨0,[]⟩) (by omega) rfl rfl rfl rfl (j3 hk) rfl (by rw[hself];exact dN _) (by rw[hself];exact bX.refl) hcl.symm rfl rfl (by omega)
    refine AWP.seq' ?_;refine AWP.reg' λK hK=>?_
    try simp only[ag,seval]
    refine hK _ _ _ ?_;clear hK K;have e2:¬Mod (al L p) 8=2:=by simpa using e2
    refine AWP.cond rfl (λe3=>?_) (λe3=>?_)
    · have e3:Mod (al L p) 8=3:=eq_of_beq e3
      refine AWP.dreg' λK hK=>?_
      try simp only[ag,seval]
      refine c7 ?_
      try simp only[ag,seval]
      refine mB (lO L (ab L p) [0,1,256,257] (by simp)) (bx (by kernel_rfl)) ⟨AV.pureB_ok rfl,trivial⟩ (aw _ _) (aw _ _) trivial rfl rfl rfl ?_
      try simp only[ag,seval]
      refine c7 ?_
      try simp only[ag,seval]
      refine c7 ?_
      try simp only[ag,seval,aS,dj,hcl]
      refine⟨⟨by omega,by omega⟩,⟨by simp[eG,jg,bi,AOp.opers,aL],hK _ _ _ ?_⟩⟩;refine(show ∃s',_ from ?_);rw[bndT,E' e,E' e1,E' e2,F' e3];have hset:(cpC k 2 b.rows b.rows.length++[AV.agg [.int (aR [0,1,256,257] (al L (ab L p))),.sl 1 [.int 1] true]]).set k (Rw.v (b.rows.getD k ⟨0,[]⟩))=b.rows.map Rw.v++[AV.agg [.int (aR [0,1,256,257] (al L (ab L p))),.sl 1 [.int 1] true]]:=by
        rw[List.set_append_left _ _ (by omega),hself]
      exact j6 ⟨by omega,by omega,by omega⟩ (k:=k) (x:=b.rows.getD k ⟨0,[]⟩) (by omega) rfl rfl rfl rfl (by rw[bj' (by omega)];exact j3 hk) rfl (by rw[hset];exact mT (dN _) (AV.pureB_ok rfl)) (by rw[hset,aI'];exact bX.snoc bX.refl (Sub.agg ⟨Sub.refl,Sub.full,trivial⟩)) (by simp[hcl]) rfl rfl (by omega)
    refine AWP.seq' ?_;refine AWP.reg' λK hK=>?_
    try simp only[ag,seval,u',hcl]
    refine hK _ _ _ ?_;clear hK K;have e3:¬Mod (al L p) 8=3:=by simpa using e3
    refine AWP.cond rfl (λe4=>?_) (λe4=>?_)
    · refine AWP.seq' ?_
      refine AWP.dreg' λK hK=>?_
      try simp only[ag,seval,hcl]
      refine mB (rX L (ab L p) b.rows.length) (bx (by kernel_rfl)) ⟨trivial,trivial⟩ (aw _ _) (aw _ _) trivial rfl rfl rfl ?_;have hm:=dF (x:=al L (ab L p)) (show(1:Int)≤(b.rows.length:Int) by omega);have hmk:(Mod (al L (ab L p)) (b.rows.length:Int)).toNat=k:=hkk.symm
      try simp only[ag,seval,hcl,hmk]
      refine⟨⟨hm.1,hm.2⟩,⟨by simp[eG,jg,bi,AOp.opers,aL],hK _ _ _ ?_⟩⟩;clear hK K;refine(show AWP _ _ _ _ _ _ from ?_);refine AWP.seq' ?_;refine AWP.reg' λK hK=>?_
      try simp only[ag,seval]
      refine dd (rX L (ab L (ab L p)) 4) (bx (by kernel_rfl)) ⟨trivial,trivial⟩ (aw _ _) (aw _ _) trivial rfl rfl rfl ?_
      try simp only[ag,seval]
      refine hK _ _ _ ?_;clear hK K;refine(show AWP _ _ _ _ _ _ from ?_);refine AWP.block ?_;have hge:(cpC k 2 b.rows b.rows.length).getD k .unk=.agg [.int (b.rows.getD k ⟨0,[]⟩).id,.vec 2]:=by rw[H',j3 hk];rfl
      have hxl:(b.rows.getD k ⟨0,[]⟩).nx.length≤100000:=by
        rw[H',f' hk];exact h.2 _ (aR' hk)
      have hdef:∀r,qE L (ab L (ab L p)) b.router (b.rows.getD k ⟨0,[]⟩).nx=r→bndT L p b=({ b with rows:=b.rows.set k ⟨(b.rows.getD k ⟨0,[]⟩).id,r.1⟩ },r.2):=λr hr=>by
        rw[bndT,E' e,E' e1,E' e2,E' e3,F' (by omega),←hkk,hr]
      generalize hx0:b.rows.getD k ⟨0,[]⟩=x0 at *
      have hs2:∀y z,((cpC k 2 b.rows b.rows.length).set k y).set k (Rw.v z)=(b.rows.set k z).map Rw.v:=λy z=>by rw[List.set_set,mC,kI]
      refine AWP.seq' ?_;refine AWP.reg' λK hK=>?_
      try simp only[ag,seval]
      refine hK _ _ _ ?_;clear hK K
      refine AWP.cond rfl (λg=>?_) (λg=>?_)
      · have g:Mod (al L (ab L (ab L p))) 4=0:=eq_of_beq g
        refine AWP.dreg' λK hK=>?_
        try simp only[ag,seval,hge,hcl]
        refine⟨hk,?_⟩;refine c7 ?_
        try simp only[ag,seval]
        refine mB (lO L (ab L (ab L (ab L p))) [0,1,6,99,100] (by simp)) (bx (by kernel_rfl)) ⟨AV.pureB_ok rfl,trivial⟩ (aw _ _) (aw _ _) trivial rfl rfl rfl ?_
        try simp only[ag,seval]
        refine c7 ?_
        try simp only[ag,seval,aS,dj,hcl,hge,u']
        refine⟨⟨by omega,by omega⟩,hk,⟨by simp[eG,jg,bi,AOp.opers,aL],hK _ _ _ ?_⟩⟩;refine(show ∃s',_ from ?_);rw[hdef (x0.nx++[aR [0,1,6,99,100] (al L (ab L (ab L (ab L p))))],ab L (ab L (ab L (ab L p)))) (by rw[qE,F' g])];exact j6 ⟨by omega,by omega,by omega⟩ (k:=k) (bk:=611) (x:=⟨x0.id,x0.nx++[aR [0,1,6,99,100] (al L (ab L (ab L (ab L p))))]⟩) (by omega) rfl rfl rfl rfl (List.getElem?_set_self (by omega)) (by rw[aI'];rfl) (by rw[hs2];exact dN _) (by rw[hs2];exact bX.refl) (by simp[hcl]) rfl rfl (by omega)
      refine AWP.seq' ?_;refine AWP.reg' λK hK=>?_
      try simp only[ag,seval]
      refine hK _ _ _ ?_;clear hK K;have g:¬Mod (al L (ab L (ab L p))) 4=0:=by simpa using g
      refine AWP.cond rfl (λg1=>?_) (λg1=>?_)
      · have g1:Mod (al L (ab L (ab L p))) 4=1:=eq_of_beq g1
        refine AWP.dreg' λK hK=>?_
        try simp only[ag,seval,hge,hcl]
        refine⟨hk,?_⟩;refine c7 ?_
        try simp only[ag,seval,aS,dj,hcl,hge,u']
        refine⟨⟨by omega,by omega⟩,hk,⟨by simp[eG,jg,bi,AOp.opers,aL],hK _ _ _ ?_⟩⟩;refine(show ∃s',_ from ?_);rw[hdef (x0.nx++[b.router],ab L (ab L (ab L p))) (by rw[qE,E' g,F' g1])];exact j6 ⟨by omega,by omega,by omega⟩ (k:=k) (bk:=627) (x:=⟨x0.id,x0.nx++[b.router]⟩) (by omega) rfl rfl rfl rfl (List.getElem?_set_self (by omega)) (by rw[aI'];rfl) (by rw[hs2];exact dN _) (by rw[hs2];exact bX.refl) (by simp[hcl]) rfl rfl (by omega)
      refine AWP.seq' ?_;refine AWP.reg' λK hK=>?_
      try simp only[ag,seval]
      refine hK _ _ _ ?_;clear hK K;have g1:¬Mod (al L (ab L (ab L p))) 4=1:=by simpa using g1
      have hs3:∀(y:AV) (z:Rw),y.pure→Sub y (Rw.v z)→aD ((cpC k 2 b.rows b.rows.length).set k y)∧bX ((cpC k 2 b.rows b.rows.length).set k y) ((b.rows.set k z).map Rw.v):=λy z h1 h2=>by
        rw[mC,←kI];exact⟨oF (dN _) h1,bX.sets _ _ h2⟩
      refine AWP.cond rfl (λg2=>?_) (λg2=>?_)
      · have g2:Mod (al L (ab L (ab L p))) 4=2:=eq_of_beq g2
        refine AWP.reg' λK hK=>?_
        try simp only[ag,seval,hge,hcl]
        refine⟨hk,?_⟩;refine hK _ _ _ ?_;clear hK K;refine(show ∃s',_ from ?_);rw[hdef ([],ab L (ab L (ab L p))) (by rw[qE,E' g,E' g1,F' g2])];obtain⟨q1,q2⟩:=hs3 (.agg [.int x0.id,.sl 0 [] true]) ⟨x0.id,[]⟩ (AV.pureB_ok rfl) (Sub.agg ⟨Sub.refl,Sub.nil,trivial⟩);exact gj ⟨by omega,by omega,by omega⟩ (br:=1) (by omega) rfl rfl rfl rfl q1 q2 (by simp[hcl]) rfl rfl
      · have g2:¬Mod (al L (ab L (ab L p))) 4=2:=by simpa using g2
        refine AWP.reg' λK hK=>?_
        try simp only[ag,seval,hge,hcl]
        refine fF ?_
        try simp only[ag,seval]
        refine dd (lO L (ab L (ab L (ab L p))) [1,2,3,9,b.router] (by simp)) (bx (by kernel_rfl)) ⟨AV.pureB_ok rfl,trivial⟩ (aw _ _) (aw _ _) trivial rfl rfl rfl ?_
        try simp only[ag,seval]
        refine fF ?_
        try simp only[ag,seval,hge,hcl]
        refine⟨hk,?_⟩;refine hK _ _ _ ?_;clear hK K;refine(show ∃s',_ from ?_);rw[hdef ([aR [1,2,3,9,b.router] (al L (ab L (ab L (ab L p))))],ab L (ab L (ab L (ab L p)))) (by rw[qE,E' g,E' g1,E' g2])];obtain⟨q1,q2⟩:=hs3 (.agg [.int x0.id,.sl 1 [.int (aR [1,2,3,9,b.router] (al L (ab L (ab L (ab L p)))))] true]) ⟨x0.id,[aR [1,2,3,9,b.router] (al L (ab L (ab L (ab L p))))]⟩ (AV.pureB_ok rfl) (Sub.agg ⟨Sub.refl,Sub.full,trivial⟩);exact gj ⟨by omega,by omega,by omega⟩ (br:=1) (by omega) rfl rfl rfl rfl q1 q2 (by simp[hcl]) rfl rfl
    · have:¬(0:Int)<b.rows.length:=by simpa using e4
      omega
  · rintro s ⟨⟨tm,hp,nx⟩,hw,n1,t3,t4,h3,h19,h0⟩
    refine AWP.weak hw ?_;simp only at n1 t3 t4 h3 h19 h0;refine AWP.seq' ?_;obtain⟨f3,f3',_,_⟩:=nxF (show 3<nx by omega);obtain⟨f19,f19',_,_⟩:=nxF (show 19<nx by omega);refine AWP.reg' λK hK=>?_
    try simp only[ag,seval,t3,t4,h3,h19,f3,f3',f19,f19']
    refine hK _ _ _ ?_;clear hK K;refine AWP.ret ?_
    refine fZ (xs:=[Tbl.v (bndT L p b).1]) ?_ rfl ⟨?_,trivial⟩
    · simp only[gC,uA,aj];rw[E' (by omega)];simp only[t4];rfl
    · simp only[aj]
      rw[E' (by omega),E' (by omega)];exact h0
theorem Rn(L:List Int)(p:Nat)(b:Tbl)(hn:b.rows=[]):aF Tryz.prog 47 [.ref 0 0,.agg [.int b.router,.int b.sub,.int b.len,.vec 1]] [.box (Tap.v ⟨L,p⟩),.vec 2 []] (Tbl.v (bndT L p b).1) [some (.box (Tap.v ⟨L,(bndT L p b).2⟩)),none]:=by
 have hml:=aU;refine aF.walk Tryz.func47 zK (by simp[GM]) ?_;unfold GM;simp only[ei,eC,Y',al'];refine AWP.seq' ?_;refine AWP.reg' λK hK=>?_
 try simp only[ag,seval,Tbl.v]
 refine hK _ _ _ ?_;clear hK K
 refine AWP.seqI (λs=>∃s',ao 2 93 s s'∧BdI 2 18 L (bndT L p b) s') ?_ ?_
 ·refine AWP.seq' ?_;refine AWP.reg' λK hK=>?_
  try simp only[ag,seval]
  refine dd (rX L p 8) (bx (by kernel_rfl)) ⟨trivial,trivial⟩ (aw _ _) (aw _ _) trivial rfl rfl rfl ?_
  try simp only[ag,seval]
  refine hK _ _ _ ?_;clear hK K;refine AWP.block ?_;refine AWP.seq' ?_;refine AWP.reg' λK hK=>?_
  try simp only[ag,seval]
  refine hK _ _ _ ?_;clear hK K
  refine AWP.cond rfl (λe=>?_) (λe=>?_)
  ·have e:Mod (al L p) 8=0:=eq_of_beq e;refine AWP.reg' λK hK=>?_
   try simp only[ag,seval]
   refine fF ?_
   try simp only[ag,seval]
   refine dd (lO L (ab L p) [0,1,2,99,100] (by simp)) (bx (by kernel_rfl)) ⟨AV.pureB_ok rfl,trivial⟩ (aw _ _) (aw _ _) trivial rfl rfl rfl ?_
   try simp only[ag,seval]
   refine hK _ _ _ ?_;clear hK K;refine(show ∃s',_ from ?_);rw[bndT,F' e];exact gj ⟨by omega,by omega,by omega⟩ (br:=1) (vs:=[]) (by omega) rfl rfl rfl rfl trivial (by rw[hn];exact bX.refl) (by rw[hn];rfl) rfl rfl
  refine AWP.seq' ?_;refine AWP.reg' λK hK=>?_
  try simp only[ag,seval]
  refine hK _ _ _ ?_;clear hK K;have e:¬Mod (al L p) 8=0:=by simpa using e
  refine AWP.cond rfl (λe1=>?_) (λe1=>?_)
  ·have e1:Mod (al L p) 8=1:=eq_of_beq e1;refine AWP.reg' λK hK=>?_
   try simp only[ag,seval]
   refine dd (Nc L (ab L p)) (bx (by kernel_rfl)) trivial (aw _ _) (aw _ _) trivial rfl rfl rfl ?_
   try simp only[ag,seval]
   refine hK _ _ _ ?_;clear hK K;refine(show ∃s',_ from ?_);rw[bndT,E' e,F' e1];exact gj ⟨by omega,by omega,by omega⟩ (br:=1) (vs:=[]) (by omega) rfl rfl rfl rfl trivial (by rw[hn];exact bX.refl) (by rw[hn];rfl) rfl rfl
  refine AWP.seq' ?_;refine AWP.reg' λK hK=>?_
  try simp only[ag,seval]
  refine hK _ _ _ ?_;clear hK K;have e1:¬Mod (al L p) 8=1:=by simpa using e1
  refine AWP.cond rfl (λe2=>?_) (λe2=>?_)
  ·have e2:Mod (al L p) 8=2:=eq_of_beq e2;refine AWP.reg' λK hK=>?_
   try simp only[ag,seval]
   refine fF ?_
   try simp only[ag,seval]
   refine dd (lO L (ab L p) [0,8,16,24,64] (by simp)) (bx (by kernel_rfl)) ⟨AV.pureB_ok rfl,trivial⟩ (aw _ _) (aw _ _) trivial rfl rfl rfl ?_
   try simp only[ag,seval]
   refine hK _ _ _ ?_;clear hK K;refine(show ∃s',_ from ?_);rw[bndT,E' e,E' e1,F' e2];exact gj ⟨by omega,by omega,by omega⟩ (br:=1) (vs:=[]) (by omega) rfl rfl rfl rfl trivial (by rw[hn];exact bX.refl) (by rw[hn];rfl) rfl rfl
  refine AWP.seq' ?_;refine AWP.reg' λK hK=>?_
  try simp only[ag,seval]
  refine hK _ _ _ ?_;clear hK K;have e2:¬Mod (al L p) 8=2:=by simpa using e2
  refine AWP.cond rfl (λe3=>?_) (λe3=>?_)
  ·have e3:Mod (al L p) 8=3:=eq_of_beq e3;refine AWP.dreg' λK hK=>?_
   try simp only[ag,seval]
   refine c7 ?_
   try simp only[ag,seval]
   refine mB (lO L (ab L p) [0,1,256,257] (by simp)) (bx (by kernel_rfl)) ⟨AV.pureB_ok rfl,trivial⟩ (aw _ _) (aw _ _) trivial rfl rfl rfl ?_
   try simp only[ag,seval]
   refine c7 ?_
   try simp only[ag,seval]
   refine c7 ?_
   try simp only[ag,seval,aS,dj]
   refine⟨by omega,⟨by simp[eG,jg,bi,AOp.opers,aL],hK _ _ _ ?_⟩⟩;refine(show ∃s',_ from ?_);rw[bndT,E' e,E' e1,E' e2,F' e3];exact gj ⟨by omega,by omega,by omega⟩ (br:=322) (by omega) rfl rfl rfl rfl ⟨AV.pureB_ok rfl,trivial⟩ (by rw[hn];exact⟨Sub.agg ⟨Sub.refl,Sub.full,trivial⟩,trivial⟩) (by rw[hn];rfl) rfl rfl
  refine AWP.seq' ?_;refine AWP.reg' λK hK=>?_
  try simp only[ag,seval,u',al']
  refine hK _ _ _ ?_;clear hK K;have e3:¬Mod (al L p) 8=3:=by simpa using e3
  refine AWP.cond rfl (λe4=>?_) (λe4=>?_)
  ·simp at e4
  ·refine AWP.skip ?_;refine(show ∃s',_ from ?_);rw[bndT,E' e,E' e1,E' e2,E' e3,E' (by rw[hn];simp)];exact gj ⟨by omega,by omega,by omega⟩ (br:=1) (vs:=[]) (by omega) rfl rfl rfl rfl trivial (by rw[hn];exact bX.refl) (by rw[hn];rfl) rfl rfl
 ·rintro s ⟨⟨tm,hp,nx⟩,hw,n1,t3,t4,h3,h19,h0⟩;refine AWP.weak hw ?_;simp only at n1 t3 t4 h3 h19 h0;refine AWP.seq' ?_;obtain⟨f3,f3',_,_⟩:=nxF (show 2<nx by omega);obtain⟨f19,f19',_,_⟩:=nxF (show 18<nx by omega);refine AWP.reg' λK hK=>?_
  try simp only[ag,seval,t3,t4,h3,h19,f3,f3',f19,f19']
  refine hK _ _ _ ?_;clear hK K;refine AWP.ret ?_
  refine fZ (xs:=[Tbl.v (bndT L p b).1]) ?_ rfl ⟨?_,trivial⟩
  ·simp only[gC,uA,aj];rw[E' (by omega)];simp only[t4];rfl
  ·simp only[aj];rw[E' (by omega),E' (by omega)];exact h0
structure Cpy where
  to:Int
  route:List Int
  mode:Int
  sub:Int
  set:Int
  len:Int
  ttl:Int
  ent:Int
  ing:Int
  proto:Int
  bits:Int
  pay:ByteArray
  deriving DecidableEq
structure Out where
  local_:Int
  lost:Int
  copies:List Cpy
  deriving DecidableEq
def inK(n most:Int):Bool:=decide (0≤n) && decide (n≤most)
abbrev inTb:=inP
def EE(r:Bool):AV:=.bool r
def vL(n:Int)(least:Int)(most:Int):Ax Tryz.prog noS (Bool):=
 (.br 80 (decide (least≤n)) (.ret (decide (n≤most)))
(.ret (false)))
theorem Ps(n a b:Int):(vL n a b).vp EE (inTb n a b):=by
 dsimp only[vL,noS,Ax.vp,Ax.vc];simp only[vcU,rfU,u'];refine⟨λc=>?_,λc=>?_⟩<;>simp[inTb,inP,c]
def l5(n:Int)(least:Int)(most:Int):PC Tryz.prog:=pcO 127 [.k,.k,.k] [.int n,.int least,.int most] .k EE (inP n least most) (λ_=>⟨(vL n least most),Ps n least most,by kernel_rfl⟩) rfl (by kernel_rfl)
abbrev E6:=inP
def ss(r:Bool):AV:=.bool r
def nC(n:Int)(low:Int)(high:Int):Ax Tryz.prog noS (Bool):=
 (.br 80 (decide (low≤n)) (.ret (decide (n≤high)))
(.ret (false)))
theorem E5(n a b:Int):(nC n a b).vp ss (E6 n a b):=by
 dsimp only[nC,noS,Ax.vp,Ax.vc];simp only[vcU,rfU,u'];refine⟨λc=>?_,λc=>?_⟩<;>simp[E6,inP,c]
def kN(n:Int)(low:Int)(high:Int):PC Tryz.prog:=pcO 136 [.k,.k,.k] [.int n,.int low,.int high] .k ss (inP n low high) (λ_=>⟨(nC n low high),E5 n low high,by kernel_rfl⟩) rfl (by kernel_rfl)
def jZ(l:List Int):Bool:=decide (l.Pairwise (·<·))
def M1(l:List Int)(t0:Int):NF:=⟨[(0,.k,.sl 1 (l.map AV.int) false),rI 5 ((l.map AV.int).length:Int),rI 6 t0],[]⟩
def M0(l:List Int)(t0:Int)(t1:Bool):NF:=⟨[(0,.k,.sl 1 (l.map AV.int) false),rI 5 ((l.map AV.int).length:Int),rI 6 t0,rB 22 t1],[]⟩
@[reducible] def Hx:Nat→Type
 | 0=>Int
 | 1=>Bool
 | _=>Unit
def Hy(r:Bool):AV:=.bool r
def Hw(l:List Int)(I0:Int→Prop)(m0:Int→Nat)(I1:Int→Bool→Prop):Ax Tryz.prog Hx (Bool):=
 (.loop 0 (M1 l) I0 m0 ((0):Int) [] λ(t0:Int) b0 =>
(.br 16 (decide (t0<((l.map AV.int).length:Int))) (.pass (.pass (.join 1 (M0 l t0) (λ(t1:Bool)=>I1 t0 t1) (λb1=>(.br 96 (decide (0<t0)) (.elI 144 AV.int l (W (t0-1)) λx1 =>
(.elI 208 AV.int l t0 λx2 =>
(.bk 1 b1 ((decide (x2≤x1)):Bool) [])))
(.bk 1 b1 ((false):Bool) []))) λ(t1:Bool) =>
(.br 0 t1 (.ret (false))
(.bk 0 b0 ((W (t0+1)):Int) [])))))
(.ret (true))))
theorem QO(l:List Int)(h:l.length≤1000000):∃I0 m0 I1,(Hw l I0 m0 I1).vp Hy (jZ l):=by
 refine⟨λi=>dZ l (λx y=>x<y) i,λi=>l.length-i.toNat,λi b=>b=true↔0<i∧∃x y,l[(W (i-1)).toNat]?=some x∧l[i.toNat]?=some y∧¬x<y,?_⟩;have hl:=h;clear h;dsimp only[Hw,Hx,Ax.vp,Ax.vc];simp only[vcU,rfU,u']
 refine⟨dZ.zero,λi h=>⟨λc1=>⟨⟨λh0=>?_,λh0=>?_⟩,λb hb=>?_⟩,λc1=>?_⟩⟩
 ·obtain⟨g1,g2⟩:=h.rng (by omega) h0 c1;refine⟨g1,g2,λx hx=>⟨h.idx,c1,λy hy=>⟨λe=>⟨h0,x,y,hx,hy,by omega⟩,?_⟩⟩⟩;rintro⟨_,x',y',hx',hy',p⟩;rw[hx]at hx';cases hx';rw[hy]at hy';cases hy';omega
 ·exact⟨nofun,λe=>absurd e.1 h0⟩
 ·obtain⟨n1,n2⟩:=h.next (by omega) c1 hb;exact⟨λe=>by rw[jZ,decide_eq_false (n1 e)],n2⟩
 ·rw[jZ,decide_eq_true (h.done c1 λ_ _ _ q r=>bJ' q r)]
def QP(l:List Int)(h:l.length≤1000000):PC Tryz.prog:=pcO 131 [(.s 1)] [.sl 1 (l.map AV.int) false] .k Hy (jZ l) (λ_=>let ⟨I0,m0,I1,h⟩:=QO l h;⟨_,h,by kernel_rfl⟩) rfl (by kernel_rfl)
def mc(n:Int):Bool:=!inP n 1 99
def Dn(r:Bool):AV:=.bool r
def uS(n:Int):Ax Tryz.prog noS (Bool):=
 (.callP (l5 n 1 99)
(.ret (!(inP n 1 99))))
theorem O8(n:Int):(uS n).vp Dn (mc n):=by
 dsimp only[uS,noS,Ax.vp,Ax.vc];simp only[vcU,rfU,u'];rfl
def O9(n:Int):PC Tryz.prog:=pcO 170 [.k] [.int n] .k Dn (mc n) (λ_=>⟨(uS n),O8 n,by kernel_rfl⟩) rfl (by kernel_rfl)
def yn(s:List Int):=okL [.sl 1 (s.map AV.int) false,.func 170 []]
def Do(s:List Int)(t0:Int):NF:=⟨[(0,.k,.sl 1 (s.map AV.int) false),(1,.k,.func 170 []),rI 7 ((s.map AV.int).length:Int),rI 8 t0],[]⟩
@[reducible] def yl:Nat→Type
 | 0=>Int
 | _=>Unit
def ym(r:Int):AV:=.int r
def yk(s:List Int)(I0:Int→Prop)(m0:Int→Nat):Ax Tryz.prog yl (Int):=
 (.loop 0 (Do s) I0 m0 ((0):Int) [] λ(t0:Int) b0 =>
(.br 16 (decide (t0<((s.map AV.int).length:Int))) (.elI 96 AV.int s t0 λx1 =>
(.callP (O9 x1)
(.br 144 (mc x1) (.ret (t0))
(.bk 0 b0 ((W (t0+1)):Int) []))))
(.ret (-1))))
theorem JF(s:List Int)(ok:yn s):∃I m,(yk s I m).vp ym (cE mc s):=by
  refine⟨λt=>aM s (λy=>mc y=false) t,λt=>s.length-t.toNat,?_⟩;simp only[yn,okU,Blk.ok,az,u']at ok;dsimp only[yk,yl,Ax.vp,Ax.vc];simp only[vcU,rfU,u'];exact⟨aM.zero,λt h=>⟨λc=>⟨h.idx,c,λx hx=>⟨λq=>h.found hx q,λq=>h.step (by omega) hx q⟩⟩,λc=>h.lost c⟩⟩
def JG(s:List Int):PC Tryz.prog:=pcO 188 [(.s 1),.k] [.sl 1 (s.map AV.int) false,.func 170 []] .k ym (cE mc s) (λok=>let ⟨I0,m0,h⟩:=JF s ok;⟨_,h,by kernel_rfl⟩) rfl (by kernel_rfl)
def yo(r:Bool):AV:=.bool r
def pH(s:List Int):Ax Tryz.prog noS (Bool):=
 (.callP (JG s)
(.ret (decide (0≤(cE mc s)))))
theorem JH(s:List Int):(pH s).vp yo (s.any mc):=by
  dsimp only[pH,noS,Ax.vp,Ax.vc];simp only[vcU,rfU,u'];exact dQ _ _
def JI(s:List Int):PC Tryz.prog:=pcO 169 [(.s 1),.k] [.sl 1 (s.map AV.int) false,.func 170 []] .k yo (s.any mc) (λ_=>⟨(pH s),JH s,by kernel_rfl⟩) rfl (by kernel_rfl)
def jO(r:Rw):Bool:=!inP r.id 1 256 || r.nx.any mc
def Dk(r:Bool):AV:=.bool r
def uR(r:Rw):Ax Tryz.prog noS (Bool):=
 (.callP (l5 r.id 1 256)
(.br 112 (!(inP r.id 1 256)) (.ret (true))
(.callP (JI r.nx)
(.ret ((r.nx).any mc)))))
theorem O6(r:Rw):(uR r).vp Dk (jO r):=by
 dsimp only[uR,noS,Ax.vp,Ax.vc];simp only[vcU,rfU,u'];unfold jO;exact⟨λh=>by rw[h];rfl,λh=>by rw[h];rfl⟩
def O7(r:Rw):PC Tryz.prog:=pcO 129 [(.a [.k,(.s 1)])] [Rw.v r] .k Dk (jO r) (λ_=>⟨(uR r),O6 r,by kernel_rfl⟩) rfl (by kernel_rfl)
def yi(s:List Rw):=okL [.sl 2 (s.map Rw.v) false,.func 129 []]
def Dm(s:List Rw)(t0:Int):NF:=⟨[(0,.k,.sl 2 (s.map Rw.v) false),(1,.k,.func 129 []),rI 7 ((s.map Rw.v).length:Int),rI 8 t0],[]⟩
@[reducible] def yg:Nat→Type
 | 0=>Int
 | _=>Unit
def yh(r:Int):AV:=.int r
def yf(s:List Rw)(I0:Int→Prop)(m0:Int→Nat):Ax Tryz.prog yg (Int):=
 (.loop 0 (Dm s) I0 m0 ((0):Int) [] λ(t0:Int) b0 =>
(.br 16 (decide (t0<((s.map Rw.v).length:Int))) (.elI 96 Rw.v s t0 λx1 =>
(.callP (O7 x1)
(.br 144 (jO x1) (.ret (t0))
(.bk 0 b0 ((W (t0+1)):Int) []))))
(.ret (-1))))
theorem JC(s:List Rw)(ok:yi s):∃I m,(yf s I m).vp yh (cE jO s):=by
  refine⟨λt=>aM s (λy=>jO y=false) t,λt=>s.length-t.toNat,?_⟩;simp only[yi,Rw.v,okU,Blk.ok,az,u']at ok;dsimp only[yf,yg,Ax.vp,Ax.vc];simp only[vcU,rfU,u'];exact⟨aM.zero,λt h=>⟨λc=>⟨h.idx,c,λx hx=>⟨λq=>h.found hx q,λq=>h.step (by omega) hx q⟩⟩,λc=>h.lost c⟩⟩
def JD(s:List Rw):PC Tryz.prog:=pcO 168 [(.s 2),.k] [.sl 2 (s.map Rw.v) false,.func 129 []] .k yh (cE jO s) (λok=>let ⟨I0,m0,h⟩:=JC s ok;⟨_,h,by kernel_rfl⟩) rfl (by kernel_rfl)
def yj(r:Bool):AV:=.bool r
def pF(s:List Rw):Ax Tryz.prog noS (Bool):=
 (.callP (JD s)
(.ret (decide (0≤(cE jO s)))))
theorem JE(s:List Rw):(pF s).vp yj (s.any jO):=by
  dsimp only[pF,noS,Ax.vp,Ax.vc];simp only[vcU,rfU,u'];exact dQ _ _
def pG(s:List Rw):PC Tryz.prog:=pcO 128 [(.s 2),.k] [.sl 2 (s.map Rw.v) false,.func 129 []] .k yj (s.any jO) (λ_=>⟨(pF s),JE s,by kernel_rfl⟩) rfl (by kernel_rfl)
def iE(r:Rw):Bool:=decide (24<r.nx.length)
def Ep(r:Bool):AV:=.bool r
def v7(r:Rw):Ax Tryz.prog noS (Bool):=
 (.ret (decide (24<((r.nx.map AV.int).length:Int))))
theorem Ph(r:Rw):(v7 r).vp Ep (iE r):=by
 dsimp only[v7,noS,Ax.vp,Ax.vc];simp only[vcU,rfU,u'];unfold iE;exact decide_eq_decide.mpr (by omega)
def Pi(r:Rw):PC Tryz.prog:=pcO 130 [(.a [.k,(.s 1)])] [Rw.v r] .k Ep (iE r) (λ_=>⟨(v7 r),Ph r,by kernel_rfl⟩) rfl (by kernel_rfl)
def yM(s:List Rw):=okL [.sl 2 (s.map Rw.v) false,.func 130 []]
def Er(s:List Rw)(t0:Int):NF:=⟨[(0,.k,.sl 2 (s.map Rw.v) false),(1,.k,.func 130 []),rI 7 ((s.map Rw.v).length:Int),rI 8 t0],[]⟩
@[reducible] def yK:Nat→Type
 | 0=>Int
 | _=>Unit
def yL(r:Int):AV:=.int r
def yJ(s:List Rw)(I0:Int→Prop)(m0:Int→Nat):Ax Tryz.prog yK (Int):=
 (.loop 0 (Er s) I0 m0 ((0):Int) [] λ(t0:Int) b0 =>
(.br 16 (decide (t0<((s.map Rw.v).length:Int))) (.elI 96 Rw.v s t0 λx1 =>
(.callP (Pi x1)
(.br 144 (iE x1) (.ret (t0))
(.bk 0 b0 ((W (t0+1)):Int) []))))
(.ret (-1))))
theorem Ky(s:List Rw)(ok:yM s):∃I m,(yJ s I m).vp yL (cE iE s):=by
  refine⟨λt=>aM s (λy=>iE y=false) t,λt=>s.length-t.toNat,?_⟩;simp only[yM,Rw.v,okU,Blk.ok,az,u']at ok;dsimp only[yJ,yK,Ax.vp,Ax.vc];simp only[vcU,rfU,u'];exact⟨aM.zero,λt h=>⟨λc=>⟨h.idx,c,λx hx=>⟨λq=>h.found hx q,λq=>h.step (by omega) hx q⟩⟩,λc=>h.lost c⟩⟩
def Kz(s:List Rw):PC Tryz.prog:=pcO 168 [(.s 2),.k] [.sl 2 (s.map Rw.v) false,.func 130 []] .k yL (cE iE s) (λok=>let ⟨I0,m0,h⟩:=Ky s ok;⟨_,h,by kernel_rfl⟩) rfl (by kernel_rfl)
def yN(r:Bool):AV:=.bool r
def pQ(s:List Rw):Ax Tryz.prog noS (Bool):=
 (.callP (Kz s)
(.ret (decide (0≤(cE iE s)))))
theorem K0(s:List Rw):(pQ s).vp yN (s.any iE):=by
  dsimp only[pQ,noS,Ax.vp,Ax.vc];simp only[vcU,rfU,u'];exact dQ _ _
def yO(s:List Rw):PC Tryz.prog:=pcO 128 [(.s 2),.k] [.sl 2 (s.map Rw.v) false,.func 130 []] .k yN (s.any iE) (λ_=>⟨(pQ s),K0 s,by kernel_rfl⟩) rfl (by kernel_rfl)
def iH(r:Rw)(b:Tbl):Bool:=decide (1<r.nx.length) && decide (b.router∈r.nx)
def Gi(r:Bool):AV:=.bool r
def wz(r:Rw)(b:Tbl):Ax Tryz.prog noS (Bool):=
 (.br 112 (decide (1<((r.nx.map AV.int).length:Int))) (.callP (eU r.nx b.router)
(.ret (decide (b.router∈r.nx))))
(.ret (false)))
theorem Qp(r:Rw)(b:Tbl):(wz r b).vp Gi (iH r b):=by
 dsimp only[wz,noS,Ax.vp,Ax.vc];simp only[vcU,rfU,u'];unfold iH
 refine⟨λh=>?_,λh=>?_⟩
 ·rw[decide_eq_true (show 1<r.nx.length by omega)];rfl
 ·rw[decide_eq_false (show ¬1<r.nx.length by omega)];rfl
def Qq(r:Rw)(b:Tbl):PC Tryz.prog:=pcO 132 [(.a [.k,(.s 1)]),.k] [Rw.v r,.rptr (Tbl.v b) 0] .k Gi (iH r b) (λ_=>⟨(wz r b),Qp r b,by kernel_rfl⟩) rfl (by kernel_rfl)
def zC(s:List Rw)(f:Tbl):=okL [.sl 2 (s.map Rw.v) false,.func 132 [.rptr (Tbl.v f) 0]]
def Gj(s:List Rw)(f:Tbl)(t0:Int):NF:=⟨[(0,.k,.sl 2 (s.map Rw.v) false),(1,.k,.func 132 [.rptr (Tbl.v f) 0]),rI 7 ((s.map Rw.v).length:Int),rI 8 t0],[]⟩
@[reducible] def zA:Nat→Type
 | 0=>Int
 | _=>Unit
def zB(r:Int):AV:=.int r
def z8(s:List Rw)(f:Tbl)(I0:Int→Prop)(m0:Int→Nat):Ax Tryz.prog zA (Int):=
 (.loop 0 (Gj s f) I0 m0 ((0):Int) [] λ(t0:Int) b0 =>
(.br 16 (decide (t0<((s.map Rw.v).length:Int))) (.elI 96 Rw.v s t0 λx1 =>
(.callP (Qq x1 f)
(.br 144 (iH x1 f) (.ret (t0))
(.bk 0 b0 ((W (t0+1)):Int) []))))
(.ret (-1))))
theorem Lu(s:List Rw)(f:Tbl)(ok:zC s f):∃I m,(z8 s f I m).vp zB (cE (λy=>iH y f) s):=by
  refine⟨λt=>aM s (λy=>iH y f=false) t,λt=>s.length-t.toNat,?_⟩;simp only[zC,Rw.v,Tbl.v,okU,Blk.ok,az,u']at ok;dsimp only[z8,zA,Ax.vp,Ax.vc];simp only[vcU,rfU,u'];exact⟨aM.zero,λt h=>⟨λc=>⟨h.idx,c,λx hx=>⟨λq=>h.found hx q,λq=>h.step (by omega) hx q⟩⟩,λc=>h.lost c⟩⟩
def Lv(s:List Rw)(f:Tbl):PC Tryz.prog:=pcO 168 [(.s 2),.k] [.sl 2 (s.map Rw.v) false,.func 132 [.rptr (Tbl.v f) 0]] .k zB (cE (λy=>iH y f) s) (λok=>let ⟨I0,m0,h⟩:=Lu s f ok;⟨_,h,by kernel_rfl⟩) rfl (by kernel_rfl)
def zD(r:Bool):AV:=.bool r
def q9(s:List Rw)(f:Tbl):Ax Tryz.prog noS (Bool):=
 (.callP (Lv s f)
(.ret (decide (0≤(cE (λy=>iH y f) s)))))
theorem Lw(s:List Rw)(f:Tbl):(q9 s f).vp zD (s.any λy=>iH y f):=by
  dsimp only[q9,noS,Ax.vp,Ax.vc];simp only[vcU,rfU,u'];exact dQ _ _
def Lx(s:List Rw)(f:Tbl):PC Tryz.prog:=pcO 128 [(.s 2),.k] [.sl 2 (s.map Rw.v) false,.func 132 [.rptr (Tbl.v f) 0]] .k zD (s.any λy=>iH y f) (λ_=>⟨(q9 s f),Lw s f,by kernel_rfl⟩) rfl (by kernel_rfl)
def hdB(b:Tbl):Bool:=!((inP b.router 1 99 && inP b.sub 0 7) && (db b.len || (b.len==0 && decide (b.rows.length=0))))
def iW(b:Tbl):Bool:=hdB b || b.rows.any jO
def iF(b:Tbl):Bool:=decide (256<b.rows.length) || b.rows.any iE
def uW(l:List Rw):Prop:=(∀r∈l,jZ r.nx=true)∧l.Pairwise λx y=>x.id<y.id
instance (l:List Rw):Decidable (uW l):=by unfold uW;infer_instance
def jU(b:Tbl):Int:=if iW b=true then 2 else if iF b=true then 3 else if ¬uW b.rows then 25
 else if(b.rows.any λr=>iH r b)=true then 8 else 0
theorem pT{b:Tbl}(h:iF b=false):b.rows.length≤256∧∀r∈b.rows,r.nx.length≤24:=by
 unfold iF at h;rw[Bool.or_eq_false_iff,decide_eq_false_iff_not,bK']at h;refine⟨by omega,λr hr=>?_⟩;have:=h.2 r hr;simp[iE]at this;exact this
def LK(b:Tbl)(t0:Unit):NF:=⟨[rR 1 0],[.box (Tbl.v b)]⟩
def LJ(b:Tbl)(t1:Bool):NF:=⟨[rR 1 0,rB 15 t1],[.box (Tbl.v b)]⟩
def LI(b:Tbl)(t2:Bool):NF:=⟨[rR 1 0,rB 41 t2],[.box (Tbl.v b)]⟩
def LH(b:Tbl)(t3:Bool):NF:=⟨[rR 1 0,rB 15 t3],[.box (Tbl.v b)]⟩
def LG(b:Tbl)(t4:Bool):NF:=⟨[rR 1 0,rB 41 t4],[.box (Tbl.v b)]⟩
def LF(b:Tbl)(t5:Int):NF:=⟨[rR 1 0,(52,.k,.sl 2 (b.rows.map Rw.v) false),rI 53 ((b.rows.map Rw.v).length:Int),rI 54 t5],[.box (Tbl.v b)]⟩
def LD(b:Tbl)(t5:Int)(t6:Bool):NF:=⟨[rR 1 0,(52,.k,.sl 2 (b.rows.map Rw.v) false),rI 53 ((b.rows.map Rw.v).length:Int),rI 54 t5,rB 78 t6],[.box (Tbl.v b)]⟩
@[reducible] def Gz:Nat→Type
 | 0=>Unit
 | 1=>Bool
 | 2=>Bool
 | 3=>Bool
 | 4=>Bool
 | 5=>Int
 | 6=>Bool
 | _=>Unit
def G3(r:Int):AV:=.int r
def Gy(b:Tbl)(I0:Unit→Prop)(I1:Bool→Prop)(I2:Bool→Bool→Prop)(I3:Bool→Prop)(I4:Bool→Bool→Prop)(I5:Unit→Int→Prop)(m5:Unit→Int→Nat)(I6:Unit→Int→Rw→Bool→Prop):Ax Tryz.prog Gz (Int):=
 (.pass (.join2 0 (LK b) (λ(t0:Unit)=>I0 t0) (λb0=>(.br 96 (b.len==0) (.join 1 (LJ b) (λ(t1:Bool)=>I1 t1) (λb1=>(.callP (l5 b.router 1 99)
(.br 272 (!(inP b.router 1 99)) (.bk 1 b1 ((true):Bool) [0])
(.callP (l5 b.sub 0 7)
(.br 368 (!(inP b.sub 0 7)) (.bk 1 b1 ((true):Bool) [0])
(.callP (xf b.len)
(.br 448 (!(db b.len)) (.br 528 (!(((b.rows.map Rw.v).length:Int)==0)) (.bk 1 b1 ((true):Bool) [0])
(.callP (pG b.rows)
(.bk 1 b1 (((b.rows).any jO):Bool) [0])))
(.callP (pG b.rows)
(.bk 1 b1 (((b.rows).any jO):Bool) [0]))))))))) λ(t1:Bool) =>
(.br 1 t1 (.ret (2))
(.join 2 (LI b) (λ(t2:Bool)=>I2 t1 t2) (λb2=>(.br 81 (decide (256<((b.rows.map Rw.v).length:Int))) (.bk 2 b2 ((true):Bool) [0])
(.callP (yO b.rows)
(.bk 2 b2 (((b.rows).any iE):Bool) [0])))) λ(t2:Bool) =>
(.br 1 t2 (.ret (3))
(.bk 0 b0 ((()):Unit) [0])))))
(.join 3 (LH b) (λ(t3:Bool)=>I3 t3) (λb3=>(.callP (l5 b.router 1 99)
(.br 272 (!(inP b.router 1 99)) (.bk 3 b3 ((true):Bool) [0])
(.callP (l5 b.sub 0 7)
(.br 368 (!(inP b.sub 0 7)) (.bk 3 b3 ((true):Bool) [0])
(.callP (xf b.len)
(.br 448 (!(db b.len)) (.bk 3 b3 ((true):Bool) [0])
(.callP (pG b.rows)
(.bk 3 b3 (((b.rows).any jO):Bool) [0]))))))))) λ(t3:Bool) =>
(.br 1 t3 (.ret (2))
(.join 4 (LG b) (λ(t4:Bool)=>I4 t3 t4) (λb4=>(.br 81 (decide (256<((b.rows.map Rw.v).length:Int))) (.bk 4 b4 ((true):Bool) [0])
(.callP (yO b.rows)
(.bk 4 b4 (((b.rows).any iE):Bool) [0])))) λ(t4:Bool) =>
(.br 1 t4 (.ret (3))
(.bk 0 b0 ((()):Unit) [0]))))))) λ(t0:Unit) =>
(.loop 5 (LF b) (I5 t0) (m5 t0) ((0):Int) [0] λ(t5:Int) b5 =>
(.br 17 (decide (t5<((b.rows.map Rw.v).length:Int))) (.elI 33 Rw.v b.rows t5 λx1 =>
(.join 6 (LD b t5) (λ(t6:Bool)=>I6 t0 t5 x1 t6) (λb6=>(.req 145 (x1.nx.length≤1000000) λh2 =>
(.callP (QP x1.nx h2)
(.br 193 (!(jZ x1.nx)) (.bk 6 b6 ((true):Bool) [0])
(.br 241 (decide (0<t5)) (.elI 305 Rw.v b.rows (W (t5-1)) λx3 =>
(.bk 6 b6 ((decide (x1.id≤x3.id)):Bool) [0]))
(.bk 6 b6 ((false):Bool) [0])))))) λ(t6:Bool) =>
(.br 1 t6 (.ret (25))
(.bk 5 b5 ((W (t5+1)):Int) [0]))))
(.callP (Lx b.rows b)
(.say (ck (dB [[Tbl.v b]])) (.br 81 ((b.rows).any λy=>iH y b) (.ret (8))
(.ret (0)))))))))
theorem Q5(b:Tbl):∃I0 I1 I2 I3 I4 I5 m5 I6,(Gy b I0 I1 I2 I3 I4 I5 m5 I6).vp G3 (jU b):=by
 refine⟨λ_=>iW b=false∧iF b=false,λt=>t=iW b,λ_ t=>t=iF b,λt=>t=iW b,λ_ t=>t=iF b,
  λ_ i=>dZ b.rows (λx y=>x.id<y.id) i∧aM b.rows (λr=>jZ r.nx=true) i,λ_ i=>b.rows.length-i.toNat,
  λ_ i x t=>t=true↔jZ x.nx=false∨0<i∧∃p q,b.rows[(W (i-1)).toNat]?=some p∧b.rows[i.toNat]?=some q∧¬p.id<q.id,?_⟩
 dsimp only[Gy,Gz,Ax.vp,Ax.vc];simp only[vcU,rfU,u'];unfold jU;have k1:∀t,t=iW b→(t=true→2=if iW b=true then 2 else if iF b=true then 3 else if ¬uW b.rows then 25 else if(b.rows.any λr=>iH r b)=true then 8 else(0:Int)):=by
  rintro _ rfl h;rw[F' h]
 have k2:iW b=false→∀t,t=iF b→(t=true→3=if iW b=true then 2 else if iF b=true then 3 else if ¬uW b.rows then 25 else if(b.rows.any λr=>iH r b)=true then 8 else(0:Int)):=by
  rintro h0 _ rfl h;rw[E' (by rw[h0];simp),F' h]
 have k3:(256<(b.rows.length:Int)→true=iF b)∧(¬256<(b.rows.length:Int)→b.rows.any iE=iF b):=
  ⟨λg=>by rw[iF,decide_eq_true (by omega)];rfl,λg=>by rw[iF,decide_eq_false (by omega)];rfl⟩
 refine⟨⟨λe=>⟨?_,?_⟩,λe=>⟨?_,?_⟩⟩,?_⟩
 ·refine⟨λa=>?_,λa=>⟨λc=>?_,λc=>⟨λd=>⟨λf=>?_,λf=>?_⟩,λd=>?_⟩⟩⟩<;>simp_all [iW,hdB]
 ·intro t ht;exact⟨k1 t ht,λh=>⟨k3,λt2 ht2=>⟨k2 (ht ▸ h) t2 ht2,λh2=>⟨ht ▸ h,ht2 ▸ h2⟩⟩⟩⟩
 ·refine⟨λa=>?_,λa=>⟨λc=>?_,λc=>⟨λd=>?_,λd=>?_⟩⟩⟩<;>simp_all [iW,hdB]
 ·intro t ht;exact⟨k1 t ht,λh=>⟨k3,λt2 ht2=>⟨k2 (ht ▸ h) t2 ht2,λh2=>⟨ht ▸ h,ht2 ▸ h2⟩⟩⟩⟩
 rintro _ ⟨h1,h2⟩;obtain⟨hr,hn⟩:=pT h2;rw[E' (by rw[h1];simp),E' (by rw[h2];simp)];refine⟨⟨dZ.zero,aM.zero⟩,?_⟩;rintro(i:Int) ⟨hC,hI⟩
 refine⟨λc1=>⟨hC.idx,c1,λx hx=>⟨⟨by have:=hn x (bn hx);omega,λe=>?_,λe=>⟨λh0=>?_,λh0=>?_⟩⟩,λt ht=>⟨λe=>?_,λe=>?_⟩⟩⟩,λc1=>?_⟩
 ·exact⟨λ_=>.inl (by simpa using e),λ_=>trivial⟩
 ·have e:jZ x.nx=true:=by simpa using e
  obtain⟨g1,g2⟩:=hC.rng (by omega) h0 c1;refine⟨g1,g2,λy hy=>?_⟩;refine⟨λq=>.inr ⟨h0,y,x,hy,hx,by omega⟩,?_⟩
  rintro(q|⟨_,y',x',hy',hx',q⟩)
  ·rw[e]at q;cases q
  ·rw[hy]at hy';cases hy';rw[hx]at hx';cases hx';omega
 ·have e:jZ x.nx=true:=by simpa using e
  refine⟨nofun,?_⟩
  rintro(q|q)
  ·rw[e]at q;cases q
  ·exact absurd q.1 h0
 ·have q:=ht.mp e;rw[F'];rintro⟨o1,o2⟩
  rcases q with q|q
  ·rw[o1 x (bn hx)]at q;cases q
  ·exact(hC.next (b:=true) (by omega) c1 ⟨λ_=>q,λ_=>rfl⟩).1 rfl o2
 ·have q:¬_:=λq=>by rw[ht.mpr q]at e;cases e
  have ha:jZ x.nx=true:=by
   cases z:jZ x.nx
   ·exact absurd (.inl z) q
   ·rfl
  have n2:=(hC.next (b:=false) (by omega) c1 ⟨nofun,λz=>absurd (.inr z) q⟩).2 rfl;exact⟨⟨n2.1,(hI.step (by omega) hx ha).1⟩,n2.2⟩
 ·have hO:uW b.rows:=⟨hI.done c1,hC.done c1 λ_ _ _ q r=>bJ' q r⟩
  rw[E' (not_not_intro hO)];exact⟨rfl,λe=>by rw[F' e],λe=>by rw[E' (by rw[e];simp)]⟩
def G4(b:Tbl):PC Tryz.prog:=pcO 94 [(.a [.k,.k,.k,(.s 2)])] [Tbl.v b] .k G3 (jU b) (λ_=>let ⟨I0,I1,I2,I3,I4,I5,m5,I6,h⟩:=Q5 b;⟨_,h,by kernel_rfl⟩) rfl (by kernel_rfl)
theorem OH{b:Tbl}(ok:okL [AV.agg [.int b.router,.int b.sub,.int b.len,.sl 2 (b.rows.map Rw.v) false]]):b.rows.length≤9223372036854775807∧∀r∈b.rows,r.nx.length≤9223372036854775807:=by
 obtain⟨⟨_,_,_,h,_⟩,_⟩:=ok;obtain⟨h1,h2⟩:=h;rw[u']at h1;refine⟨h1,λr hr=>?_⟩;obtain⟨_,h3,_⟩:=yr.mp h2 r.v (aa'.mpr ⟨r,hr,rfl⟩);have:=h3.1;rw[u']at this;exact this
def Q3(b:Tbl):=okL [Tbl.v b]
def L7(b:Tbl)(t0:Bool):NF:=⟨[rR 1 0,rB 36 t0],[.box (Tbl.v b)]⟩
def L6(b:Tbl)(t1:Int):NF:=⟨[rR 1 0,rI 3 t1],[.box (Tbl.v b)]⟩
def L5(b:Tbl)(t1:Int)(t2:Int):NF:=⟨[rR 1 0,rI 3 t1,rI 4 t2],[.box (Tbl.v b)]⟩
def L4(b:Tbl)(t3:Int):NF:=⟨[rR 1 0,rI 5 t3],[.box (Tbl.v b)]⟩
def L3(b:Tbl)(t4:Int):NF:=⟨[rR 1 0,rI 6 t4],[.box (Tbl.v b)]⟩
def L2(b:Tbl)(t4:Int)(x6:Rw)(t5:Bool):NF:=⟨[rR 1 0,rI 6 t4,(7,.k,.sl 1 (x6.nx.map AV.int) false),rB 123 t5],[.box (Tbl.v b)]⟩
def L1(b:Tbl)(t4:Int)(x6:Rw)(t6:Int):NF:=⟨[rR 1 0,rI 6 t4,(7,.k,.sl 1 (x6.nx.map AV.int) false),rI 8 t6],[.box (Tbl.v b)]⟩
def L0(b:Tbl)(t7:Int):NF:=⟨[rR 1 0,rI 9 t7],[.box (Tbl.v b)]⟩
def Lz(b:Tbl)(t7:Int)(t8:Bool):NF:=⟨[rR 1 0,rI 9 t7,rB 165 t8],[.box (Tbl.v b)]⟩
@[reducible] def Gr:Nat→Type
 | 0=>Bool
 | 1=>Int
 | 2=>Int
 | 3=>Int
 | 4=>Int
 | 5=>Bool
 | 6=>Int
 | 7=>Int
 | 8=>Bool
 | _=>Unit
def Gs(r:Int):AV:=.int r
def Gq(b:Tbl)(I0:Bool→Prop)(I1:Bool→Int→Prop)(m1:Bool→Int→Nat)(I2:Bool→Int→Rw→Int→Prop)(m2:Bool→Int→Rw→Int→Nat)(I3:Bool→Int→Int→Prop)(m3:Bool→Int→Int→Nat)(I4:Bool→Int→Int→Int→Prop)(m4:Bool→Int→Int→Int→Nat)(I5:Bool→Int→Int→Int→Rw→Bool→Prop)(I6:Bool→Int→Int→Int→Rw→Bool→Int→Prop)(m6:Bool→Int→Int→Int→Rw→Bool→Int→Nat)(I7:Bool→Int→Int→Int→Int→Prop)(m7:Bool→Int→Int→Int→Int→Nat)(I8:Bool→Int→Int→Int→Int→Bool→Prop):Ax Tryz.prog Gr (Int):=
 (.pass (.pass (.join 0 (L7 b) (λ(t0:Bool)=>I0 t0) (λb0=>(.callP (kN b.router 1 99)
(.br 112 (!(inP b.router 1 99)) (.bk 0 b0 ((true):Bool) [0])
(.callP (kN b.sub 0 7)
(.br 208 (!(inP b.sub 0 7)) (.bk 0 b0 ((true):Bool) [0])
(.callP (xd b.len)
(.br 288 (!(db b.len)) (.br 352 (b.len != 0) (.bk 0 b0 ((true):Bool) [0])
(.bk 0 b0 ((decide (0<((b.rows.map Rw.v).length:Int))):Bool) [0]))
(.bk 0 b0 ((false):Bool) [0])))))))) λ(t0:Bool) =>
(.br 1 t0 (.ret (2))
(.loop 1 (L6 b) (I1 t0) (m1 t0) ((0):Int) [0] λ(t1:Int) b1 =>
(.br 81 (decide (t1<((b.rows.map Rw.v).length:Int))) (.elI 129 Rw.v b.rows t1 λx1 =>
(.callP (kN x1.id 1 256)
(.br 209 (!(inP x1.id 1 256)) (.ret (2))
(.loop 2 (L5 b t1) (I2 t0 t1 x1) (m2 t0 t1 x1) ((0):Int) [0] λ(t2:Int) b2 =>
(.elI 65 Rw.v b.rows t1 λx2 =>
(.br 145 (decide (t2<((x2.nx.map AV.int).length:Int))) (.elI 193 Rw.v b.rows t1 λx3 =>
(.elI 257 AV.int x3.nx t2 λx4 =>
(.callP (kN x4 1 99)
(.br 321 (!(inP x4 1 99)) (.ret (2))
(.bk 2 b2 ((W (t2+1)):Int) [0])))))
(.bk 1 b1 ((W (t1+1)):Int) [0])))))))
(.br 145 (decide (256<((b.rows.map Rw.v).length:Int))) (.ret (3))
(.loop 3 (L4 b) (I3 t0 t1) (m3 t0 t1) ((0):Int) [0] λ(t3:Int) b3 =>
(.br 81 (decide (t3<((b.rows.map Rw.v).length:Int))) (.elI 129 Rw.v b.rows t3 λx5 =>
(.br 209 (decide (24<((x5.nx.map AV.int).length:Int))) (.ret (3))
(.bk 3 b3 ((W (t3+1)):Int) [0])))
(.loop 4 (L3 b) (I4 t0 t1 t3) (m4 t0 t1 t3) ((0):Int) [0] λ(t4:Int) b4 =>
(.br 81 (decide (t4<((b.rows.map Rw.v).length:Int))) (.elI 129 Rw.v b.rows t4 λx6 =>
(.pass (.join 5 (L2 b t4 x6) (λ(t5:Bool)=>I5 t0 t1 t3 t4 x6 t5) (λb5=>(.br 241 (decide (0<t4)) (.elI 305 Rw.v b.rows (W (t4-1)) λx7 =>
(.elI 401 Rw.v b.rows t4 λx8 =>
(.bk 5 b5 ((decide (x8.id≤x7.id)):Bool) [0])))
(.bk 5 b5 ((false):Bool) [0]))) λ(t5:Bool) =>
(.br 1 t5 (.ret (25))
(.loop 6 (L1 b t4 x6) (I6 t0 t1 t3 t4 x6 t5) (m6 t0 t1 t3 t4 x6 t5) ((1):Int) [0] λ(t6:Int) b6 =>
(.br 65 (decide (t6<((x6.nx.map AV.int).length:Int))) (.elI 113 AV.int x6.nx (W (t6-1)) λx9 =>
(.elI 177 AV.int x6.nx t6 λx10 =>
(.br 225 (decide (x10≤x9)) (.ret (25))
(.bk 6 b6 ((W (t6+1)):Int) [0]))))
(.bk 4 b4 ((W (t4+1)):Int) [0])))))))
(.loop 7 (L0 b) (I7 t0 t1 t3 t4) (m7 t0 t1 t3 t4) ((0):Int) [0] λ(t7:Int) b7 =>
(.br 81 (decide (t7<((b.rows.map Rw.v).length:Int))) (.pass (.join 8 (Lz b t7) (λ(t8:Bool)=>I8 t0 t1 t3 t4 t7 t8) (λb8=>(.elI 129 Rw.v b.rows t7 λx11 =>
(.br 225 (decide (1<((x11.nx.map AV.int).length:Int))) (.elI 273 Rw.v b.rows t7 λx12 =>
(.callP (l7 x12.nx b.router)
(.bk 8 b8 ((decide (b.router∈x12.nx)):Bool) [0])))
(.bk 8 b8 ((false):Bool) [0])))) λ(t8:Bool) =>
(.br 1 t8 (.ret (8))
(.bk 7 b7 ((W (t7+1)):Int) [0]))))
(.ret (0)))))))))))))))
theorem nh{b:Tbl}:iW b=false↔hdB b=false∧∀r∈b.rows,inP r.id 1 256=true∧∀n∈r.nx,inP n 1 99=true:=by
 unfold iW;rw[Bool.or_eq_false_iff,bK'];refine and_congr_right λ_=>forall_congr' λr=>forall_congr' λ_=>?_;unfold jO mc;cases inP r.id 1 256<;>simp
theorem Q1(b:Tbl)(ok:Q3 b):∃I0 I1 m1 I2 m2 I3 m3 I4 m4 I5 I6 m6 I7 m7 I8,(Gq b I0 I1 m1 I2 m2 I3 m3 I4 m4 I5 I6 m6 I7 m7 I8).vp Gs (jU b):=by
 refine⟨λt=>t=hdB b,λ_ i=>aM b.rows (λr=>inP r.id 1 256=true∧∀n∈r.nx,inP n 1 99=true) i,λ_ i=>b.rows.length-i.toNat,
  λ_ _ x i=>aM x.nx (λn=>inP n 1 99=true) i,λ_ _ x i=>x.nx.length-i.toNat,
  λ_ _ i=>aM b.rows (λr=>¬24<r.nx.length) i,λ_ _ i=>b.rows.length-i.toNat,
  λ_ _ _ i=>dZ b.rows (λx y=>x.id<y.id) i∧aM b.rows (λr=>jZ r.nx=true) i,λ_ _ _ i=>b.rows.length-i.toNat,
  λ_ _ _ i x t=>t=true↔0<i∧∃p q,b.rows[(W (i-1)).toNat]?=some p∧b.rows[i.toNat]?=some q∧¬p.id<q.id,
  λ_ _ _ _ x _ i=>gu x.nx (λp q=>p<q) i,λ_ _ _ _ x _ i=>x.nx.length+1-i.toNat,
  λ_ _ _ _ i=>aM b.rows (λr=>iH r b=false) i,λ_ _ _ _ i=>b.rows.length-i.toNat,λ_ _ _ _ i t=>∀x,b.rows[i.toNat]?=some x→t=iH x b,?_⟩
 have okn:=OH (b:=b) ok;dsimp only[Gq,Gr,Ax.vp,Ax.vc];simp only[vcU,rfU,u'];unfold jU;obtain⟨ol,on⟩:=okn;have hz:(0<(b.rows.length:Int))↔¬b.rows.length=0:=by omega
 refine⟨⟨λa=>?_,λa=>⟨λc=>?_,λc=>⟨λd=>⟨λf=>?_,λf=>?_⟩,λd=>?_⟩⟩⟩,?_⟩
 ·simp_all [hdB]
 ·simp_all [hdB]
 ·simp_all [hdB]
 ·rw[ag',R',hz];simp_all [hdB]
 ·simp_all [hdB]
 rintro _ rfl;refine⟨λh=>by rw[F' (by rw[iW,h];rfl)],λh=>⟨aM.zero,?_⟩⟩;intro (i:Int) h1;have bad:∀{x:Rw} {i:Int},b.rows[i.toNat]?=some x→¬(inP x.id 1 256=true∧∀n∈x.nx,inP n 1 99=true)→iW b=true:=λ{x i} hx q=>by
  cases z:iW b
  ·exact absurd ((nh.mp z).2 x (bn hx)) q
  ·rfl
 refine⟨λc1=>⟨h1.idx,c1,λx hx=>⟨λe=>?_,λe=>⟨aM.zero,?_⟩⟩⟩,λc1=>?_⟩
 ·rw[F' (bad hx λq=>by rw[q.1]at e;cases e)]
 ·intro (k:Int) h2
  refine⟨h1.idx,c1,λx2 hx2=>⟨λc2=>⟨h1.idx,c1,λx3 hx3=>⟨h2.idx,?_,λn hn=>⟨λe2=>?_,λe2=>?_⟩⟩⟩,λc2=>?_⟩⟩
  ·rw[hx]at hx2 hx3;cases hx2;cases hx3;exact c2
  ·rw[hx]at hx2 hx3;cases hx2;cases hx3;rw[F' (bad hx λq=>by rw[q.2 n (bn hn)]at e2;cases e2)]
  ·rw[hx]at hx2 hx3;cases hx2;cases hx3;exact h2.step (on x (bn hx)) hn (by simpa using e2)
  ·rw[hx]at hx2;cases hx2;exact h1.step ol hx ⟨by simpa using e,h2.done c2⟩
 have hout:iW b=false:=nh.mpr ⟨h,h1.done c1⟩;rw[E' (by rw[hout];simp)];refine⟨λg=>by rw[F' (by rw[iF,decide_eq_true (by omega)];rfl)],λg=>⟨aM.zero,?_⟩⟩;intro (i2:Int) h3
 refine⟨λc2=>⟨h3.idx,c2,λx hx=>⟨λe=>?_,λe=>h3.step ol hx (by omega)⟩⟩,λc2=>?_⟩
 ·rw[F'];rw[iF,(aj'.mpr ⟨x,bn hx,by rw[iE,R'];omega⟩:b.rows.any iE=true)];simp
 have hlim:iF b=false:=by
  rw[iF,decide_eq_false (by omega),Bool.false_or,bK'];intro x hx;have:=h3.done c2 x hx;simp[iE];omega
 obtain⟨hr,hn⟩:=pT hlim;rw[E' (by rw[hlim];simp)];refine⟨⟨dZ.zero,aM.zero⟩,?_⟩;rintro(i3:Int) ⟨hC,hI⟩
 refine⟨λc3=>⟨hC.idx,c3,λx hx=>⟨⟨λh0=>?_,λh0=>⟨nofun,λq=>absurd q.1 h0⟩⟩,λt ht=>⟨λe=>?_,λe=>⟨gu.one,?_⟩⟩⟩⟩,λc3=>?_⟩
 ·obtain⟨g1,g2⟩:=hC.rng (by omega) h0 c3;refine⟨g1,g2,λy hy=>⟨hC.idx,c3,λx2 hx2=>?_⟩⟩;refine⟨λq=>⟨h0,y,x2,hy,hx2,by omega⟩,?_⟩;rintro⟨_,y',x',hy',hx',q⟩;rw[hy]at hy';cases hy';rw[hx2]at hx';cases hx';omega
 ·rw[F'];exact λo=>(hC.next (b:=true) (by omega) c3 ⟨λ_=>ht.mp e,λ_=>rfl⟩).1 rfl o.2
 ·intro (k:Int) h4
  refine⟨λc4=>?_,λc4=>?_⟩
  ·obtain⟨i1,i2⟩:=h4.idx (by have:=hn x (bn hx);omega) c4;refine⟨i1.1,i1.2,λp hp=>⟨i2,c4,λq hq=>⟨λe2=>?_,λe2=>h4.step (by have:=hn x (bn hx);omega) hp hq (by omega)⟩⟩⟩;rw[F'];intro o;have:=o.1 x (bn hx);rw[jZ,R']at this;exact h4.bad (S:=λp q=>p<q) (by have:=hn x (bn hx);omega) hp hq (by omega) this
  ·have ha:jZ x.nx=true:=decide_eq_true (h4.done c4 λ_ _ _ q r=>bJ' q r);have n2:=(hC.next (b:=false) (by omega) c3 ⟨nofun,λz=>by rw[ht.mpr z]at e;cases e⟩).2 rfl;exact⟨⟨n2.1,(hI.step (by omega) hx ha).1⟩,n2.2⟩
 have hO:uW b.rows:=⟨hI.done c3,hC.done c3 λ_ _ _ q r=>bJ' q r⟩
 rw[E' (not_not_intro hO)];refine⟨aM.zero,?_⟩;intro (i4:Int) h5
 refine⟨λc4=>⟨⟨h5.idx,c4,λx hx=>⟨λq=>⟨h5.idx,c4,λx2 hx2 x3 hx3=>?_⟩,λq x3 hx3=>?_⟩⟩,λt ht=>⟨λe=>?_,λe=>?_⟩⟩,λc4=>?_⟩
 ·rw[hx]at hx2 hx3;cases hx2;cases hx3;rw[iH,decide_eq_true (by omega:1<x.nx.length)];rfl
 ·rw[hx]at hx3;cases hx3;rw[iH,decide_eq_false (by omega:¬1<x.nx.length)];rfl
 ·have hx:=f' (show i4.toNat<b.rows.length by have:=h5.idx;omega);rw[F' (aj'.mpr ⟨_,bn hx,by rw[←ht _ hx,e]⟩)]
 ·have hx:=f' (show i4.toNat<b.rows.length by have:=h5.idx;omega);exact h5.step ol hx (by rw[←ht _ hx,e])
 ·rw[E'];rw[aj'];rintro⟨x,hx,q⟩;rw[h5.done c4 x hx]at q;cases q
def Q2(b:Tbl):PC Tryz.prog:=pcO 97 [(.a [.k,.k,.k,(.s 2)])] [Tbl.v b] .k Gs (jU b) (λok=>let ⟨I0,I1,m1,I2,m2,I3,m3,I4,m4,I5,I6,m6,I7,m7,I8,h⟩:=Q1 b ok;⟨_,h,by kernel_rfl⟩) rfl (by kernel_rfl)
def jq(b:Tbl):Bool:=!(jU b==0)
def Hs(r:Bool):AV:=.bool r
def wI(b:Tbl):Ax Tryz.prog noS (Bool):=
 (.callP (G4 b)
(.ret ((jU b) != 0)))
theorem QL(b:Tbl):(wI b).vp Hs (jq b):=by
 dsimp only[wI,noS,Ax.vp,Ax.vc];simp only[vcU,rfU,u'];rfl
def QM(b:Tbl):PC Tryz.prog:=pcO 93 [(.a [.k,.k,.k,(.s 2)])] [Tbl.v b] .k Hs (jq b) (λ_=>⟨(wI b),QL b,by kernel_rfl⟩) rfl (by kernel_rfl)
def zR(s:List Tbl):=okL [.sl 4 (s.map Tbl.v) false,.func 93 []]
def Ht(s:List Tbl)(t0:Int):NF:=⟨[(0,.k,.sl 4 (s.map Tbl.v) false),(1,.k,.func 93 []),rI 7 ((s.map Tbl.v).length:Int),rI 8 t0],[]⟩
@[reducible] def zP:Nat→Type
 | 0=>Int
 | _=>Unit
def zQ(r:Int):AV:=.int r
def zO(s:List Tbl)(I0:Int→Prop)(m0:Int→Nat):Ax Tryz.prog zP (Int):=
 (.loop 0 (Ht s) I0 m0 ((0):Int) [] λ(t0:Int) b0 =>
(.br 16 (decide (t0<((s.map Tbl.v).length:Int))) (.elI 96 Tbl.v s t0 λx1 =>
(.callP (QM x1)
(.br 144 (jq x1) (.ret (t0))
(.bk 0 b0 ((W (t0+1)):Int) []))))
(.ret (-1))))
theorem Ms(s:List Tbl)(ok:zR s):∃I m,(zO s I m).vp zQ (cE jq s):=by
  refine⟨λt=>aM s (λy=>jq y=false) t,λt=>s.length-t.toNat,?_⟩;simp only[zR,Tbl.v,okU,Blk.ok,az,u']at ok;dsimp only[zO,zP,Ax.vp,Ax.vc];simp only[vcU,rfU,u'];exact⟨aM.zero,λt h=>⟨λc=>⟨h.idx,c,λx hx=>⟨λq=>h.found hx q,λq=>h.step (by omega) hx q⟩⟩,λc=>h.lost c⟩⟩
def Mt(s:List Tbl):PC Tryz.prog:=pcO 126 [(.s 4),.k] [.sl 4 (s.map Tbl.v) false,.func 93 []] .k zQ (cE jq s) (λok=>let ⟨I0,m0,h⟩:=Ms s ok;⟨_,h,by kernel_rfl⟩) rfl (by kernel_rfl)
def zS(r:Bool):AV:=.bool r
def qH(s:List Tbl):Ax Tryz.prog noS (Bool):=
 (.callP (Mt s)
(.ret (decide (0≤(cE jq s)))))
theorem Mv(s:List Tbl):(qH s).vp zS (s.any jq):=by
  dsimp only[qH,noS,Ax.vp,Ax.vc];simp only[vcU,rfU,u'];exact dQ _ _
def Mw(s:List Tbl):PC Tryz.prog:=pcO 92 [(.s 4),.k] [.sl 4 (s.map Tbl.v) false,.func 93 []] .k zS (s.any jq) (λ_=>⟨(qH s),Mv s,by kernel_rfl⟩) rfl (by kernel_rfl)
def hd0(l:List Tbl):Tbl:=l.headD ⟨0,0,0,[]⟩
def jh(b:Tbl)(l:List Tbl):Bool:=!(b.sub==(hd0 l).sub) || !(b.len==(hd0 l).len)
def FQ(r:Bool):AV:=.bool r
def wj(b:Tbl)(l:List Tbl):Ax Tryz.prog noS (Bool):=
 (.el 80 Tbl.v l (λR=>Rf (l.map Tbl.v) (ck (decide (0<(l.length:Int)))
(∀x1,l[0]?=some x1 →
(R x1)))) λx1 =>
(.br 160 (b.sub != x1.sub) (.ret (true))
(.el 208 Tbl.v l (λR=>Rf (l.map Tbl.v) (ck (decide (0<(l.length:Int)))
(∀x2,l[0]?=some x2 →
(R x2)))) λx2 =>
(.ret (b.len != x2.len)))))
theorem mz{l:List Tbl}{x:Tbl}(hx:l[0]?=some x):hd0 l=x:=by
 cases l with
 | nil=>cases hx
 | cons y l=>exact Z' hx
theorem Qd(b:Tbl)(l:List Tbl)(h:0<l.length):(wj b l).vp FQ (jh b l):=by
 dsimp only[wj,noS,Ax.vp,Ax.vc];simp only[vcU,rfU,u'];refine⟨by omega,λx hx=>?_⟩;unfold jh;rw[mz hx]
 refine⟨λe=>?_,λe=>⟨by omega,λy hy=>?_⟩⟩
 ·have e:(b.sub==x.sub)=false:=by simpa using e
  rw[e];rfl
 ·rw[hx]at hy;cases hy;have e:(b.sub==x.sub)=true:=by simpa using e
  rw[e];rfl
def Qe(b:Tbl)(l:List Tbl)(h:0<l.length):PC Tryz.prog:=pcO 95 [(.a [.k,.k,.k,(.s 2)]),.k] [Tbl.v b,.rptr (.sl 4 (l.map Tbl.v) false) 0] .k FQ (jh b l) (λ_=>⟨(wj b l),Qd b l h,by kernel_rfl⟩) rfl (by kernel_rfl)
def zn(s:List Tbl)(f:List Tbl):=okL [.sl 4 (s.map Tbl.v) false,.func 95 [.rptr (.sl 4 (f.map Tbl.v) false) 0]]
def FR(s:List Tbl)(f:List Tbl)(t0:Int):NF:=⟨[(0,.k,.sl 4 (s.map Tbl.v) false),(1,.k,.func 95 [.rptr (.sl 4 (f.map Tbl.v) false) 0]),rI 7 ((s.map Tbl.v).length:Int),rI 8 t0],[]⟩
@[reducible] def zl:Nat→Type
 | 0=>Int
 | _=>Unit
def zm(r:Int):AV:=.int r
def zk(s:List Tbl)(f:List Tbl)(I0:Int→Prop)(m0:Int→Nat):Ax Tryz.prog zl (Int):=
 (.loop 0 (FR s f) I0 m0 ((0):Int) [] λ(t0:Int) b0 =>
(.br 16 (decide (t0<((s.map Tbl.v).length:Int))) (.elI 96 Tbl.v s t0 λx1 =>
(.req 128 (0<f.length) λh2 =>
(.callP (Qe x1 f h2)
(.br 144 (jh x1 f) (.ret (t0))
(.bk 0 b0 ((W (t0+1)):Int) [])))))
(.ret (-1))))
theorem Li(s f:List Tbl)(h:0<s.length→0<f.length)(ok:zn s f):∃I m,(zk s f I m).vp zm (cE (λy=>jh y f) s):=by
 refine⟨λt=>aM s (λy=>jh y f=false) t,λt=>s.length-t.toNat,?_⟩;simp only[zn,Tbl.v,okU,Blk.ok,az,u']at ok;dsimp only[zk,zl,Ax.vp,Ax.vc];simp only[vcU,rfU,u'];exact⟨aM.zero,λt h2=>⟨λc=>⟨h2.idx,c,λx hx=>⟨h (by have:=h2.idx;omega),λq=>h2.found hx q,λq=>h2.step (by omega) hx q⟩⟩,λc=>h2.lost c⟩⟩
def Lj(s:List Tbl)(f:List Tbl)(h:0<s.length→0<f.length):PC Tryz.prog:=pcO 126 [(.s 4),.k] [.sl 4 (s.map Tbl.v) false,.func 95 [.rptr (.sl 4 (f.map Tbl.v) false) 0]] .k zm (cE (λy=>jh y f) s) (λok=>let ⟨I0,m0,h⟩:=Li s f h ok;⟨_,h,by kernel_rfl⟩) rfl (by kernel_rfl)
def zo(r:Bool):AV:=.bool r
def qv(s:List Tbl)(f:List Tbl):Ax Tryz.prog noS (Bool):=
 (.req 48 (0<s.length→0<f.length) λh1 =>
(.callP (Lj s f h1)
(.ret (decide (0≤(cE (λy=>jh y f) s))))))
theorem Lk(s f:List Tbl)(h:0<s.length→0<f.length):(qv s f).vp zo (s.any λy=>jh y f):=by
 dsimp only[qv,noS,Ax.vp,Ax.vc];simp only[vcU,rfU,u'];exact⟨h,dQ _ _⟩
def Ll(s:List Tbl)(f:List Tbl)(h:0<s.length→0<f.length):PC Tryz.prog:=pcO 92 [(.s 4),.k] [.sl 4 (s.map Tbl.v) false,.func 95 [.rptr (.sl 4 (f.map Tbl.v) false) 0]] .k zo (s.any λy=>jh y f) (λ_=>⟨(qv s f),Lk s f h,by kernel_rfl⟩) rfl (by kernel_rfl)
def wJ(l:List Tbl):Prop:=l.Pairwise λa b=>a.router<b.router
instance (l:List Tbl):Decidable (wJ l):=by unfold wJ;infer_instance
def eP(l:List Tbl):Int:=if 24<l.length then 3 else if l.any jq=true then 1 else if ¬wJ l then 25 else if(l.any λb=>jh b l)=true then 8 else 0
def LM(l:List Tbl)(t0:Int):NF:=⟨[rR 1 0,rI 12 ((l.map Tbl.v).length:Int),rI 13 t0],[.box (.sl 4 (l.map Tbl.v) false)]⟩
def LL(l:List Tbl)(t0:Int)(t1:Bool):NF:=⟨[rR 1 0,rI 12 ((l.map Tbl.v).length:Int),rI 13 t0,rB 31 t1],[.box (.sl 4 (l.map Tbl.v) false)]⟩
@[reducible] def G6:Nat→Type
 | 0=>Int
 | 1=>Bool
 | _=>Unit
def G7(r:Int):AV:=.int r
def G5(l:List Tbl)(I0:Int→Prop)(m0:Int→Nat)(I1:Int→Bool→Prop):Ax Tryz.prog G6 (Int):=
 (.br 96 (decide (24<((l.map Tbl.v).length:Int))) (.ret (3))
(.callP (Mw l)
(.br 144 ((l).any jq) (.ret (1))
(.loop 0 (LM l) I0 m0 ((0):Int) [0] λ(t0:Int) b0 =>
(.br 17 (decide (t0<((l.map Tbl.v).length:Int))) (.pass (.pass (.join 1 (LL l t0) (λ(t1:Bool)=>I1 t0 t1) (λb1=>(.br 97 (decide (0<t0)) (.elI 145 Tbl.v l (W (t0-1)) λx1 =>
(.elI 225 Tbl.v l t0 λx2 =>
(.bk 1 b1 ((decide (x2.router≤x1.router)):Bool) [0])))
(.bk 1 b1 ((false):Bool) [0]))) λ(t1:Bool) =>
(.br 1 t1 (.ret (25))
(.bk 0 b0 ((W (t0+1)):Int) [0])))))
(.req 49 (0<l.length→0<l.length) λh3 =>
(.callP (Ll l l h3)
(.say (ck (dB [[.sl 4 (l.map Tbl.v) false]])) (.br 65 ((l).any λy=>jh y l) (.ret (8))
(.ret (0)))))))))))
theorem Q6(l:List Tbl):∃I0 m0 I1,(G5 l I0 m0 I1).vp G7 (eP l):=by
 refine⟨λi=>dZ l (λx y=>x.router<y.router) i,λi=>l.length-i.toNat,λi t=>t=true↔0<i∧∃p q,l[(W (i-1)).toNat]?=some p∧l[i.toNat]?=some q∧¬p.router<q.router,?_⟩;dsimp only[G5,G6,Ax.vp,Ax.vc];simp only[vcU,rfU,u'];unfold eP;refine⟨λg=>by rw[F' (by omega)],λg=>?_⟩;rw[E' (by omega)];refine⟨λe=>by rw[F' e],λe=>?_⟩;rw[E' (by rw[e];simp)]
 refine⟨dZ.zero,λi hC=>⟨λc1=>⟨⟨λh0=>?_,λh0=>⟨nofun,λq=>absurd q.1 h0⟩⟩,λt ht=>⟨λe=>?_,λe=>?_⟩⟩,λc1=>?_⟩⟩
 ·obtain⟨g1,g2⟩:=hC.rng (by omega) h0 c1;refine⟨g1,g2,λy hy=>⟨hC.idx,c1,λx hx=>?_⟩⟩;refine⟨λq=>⟨h0,y,x,hy,hx,by omega⟩,?_⟩;rintro⟨_,y',x',hy',hx',q⟩;rw[hy]at hy';cases hy';rw[hx]at hx';cases hx';omega
 ·rw[F'];exact λo=>(hC.next (b:=true) (by omega) c1 ⟨λ_=>ht.mp e,λ_=>rfl⟩).1 rfl o
 ·exact(hC.next (b:=false) (by omega) c1 ⟨nofun,λz=>by rw[ht.mpr z]at e;cases e⟩).2 rfl
 ·have hO:wJ l:=hC.done c1 λ_ _ _ q r=>bJ' q r;rw[E' (not_not_intro hO)];exact⟨λq=>q,iS rfl,λe=>by rw[F' e],λe=>by rw[E' (by rw[e];simp)]⟩
def G8(l:List Tbl):PC Tryz.prog:=pcO 53 [(.s 4)] [.sl 4 (l.map Tbl.v) false] .k G7 (eP l) (λ_=>let ⟨I0,m0,I1,h⟩:=Q6 l;⟨_,h,by kernel_rfl⟩) rfl (by kernel_rfl)
def GC(l:List Tbl)(t0:Int):NF:=⟨[(0,.k,.sl 4 (l.map Tbl.v) false),rI 3 t0],[]⟩
def GB(l:List Tbl)(t1:Int):NF:=⟨[(0,.k,.sl 4 (l.map Tbl.v) false),rI 4 t1],[]⟩
def GA(l:List Tbl)(t2:Int):NF:=⟨[(0,.k,.sl 4 (l.map Tbl.v) false),rI 5 t2],[]⟩
def G9(l:List Tbl)(t2:Int)(t3:Bool):NF:=⟨[(0,.k,.sl 4 (l.map Tbl.v) false),rI 5 t2,rB 66 t3],[]⟩
@[reducible] def zH:Nat→Type
 | 0=>Int
 | 1=>Int
 | 2=>Int
 | 3=>Bool
 | _=>Unit
def zI(r:Int):AV:=.int r
def zG(l:List Tbl)(I0:Int→Prop)(m0:Int→Nat)(I1:Int→Int→Prop)(m1:Int→Int→Nat)(I2:Int→Int→Int→Prop)(m2:Int→Int→Int→Nat)(I3:Int→Int→Int→Bool→Prop):Ax Tryz.prog zH (Int):=
 (.br 64 (decide (24<((l.map Tbl.v).length:Int))) (.ret (3))
(.loop 0 (GC l) I0 m0 ((0):Int) [] λ(t0:Int) b0 =>
(.br 64 (decide (t0<((l.map Tbl.v).length:Int))) (.elI 96 Tbl.v l t0 λx1 =>
(.callP (Q2 x1)
(.br 160 ((jU x1) != 0) (.ret (1))
(.bk 0 b0 ((W (t0+1)):Int) []))))
(.loop 1 (GB l) (I1 t0) (m1 t0) ((1):Int) [] λ(t1:Int) b1 =>
(.br 64 (decide (t1<((l.map Tbl.v).length:Int))) (.elI 112 Tbl.v l (W (t1-1)) λx2 =>
(.elI 192 Tbl.v l t1 λx3 =>
(.br 256 (decide (x3.router≤x2.router)) (.ret (25))
(.bk 1 b1 ((W (t1+1)):Int) []))))
(.loop 2 (GA l) (I2 t0 t1) (m2 t0 t1) ((1):Int) [] λ(t2:Int) b2 =>
(.br 64 (decide (t2<((l.map Tbl.v).length:Int))) (.pass (.join 3 (G9 l t2) (λ(t3:Bool)=>I3 t0 t1 t2 t3) (λb3=>(.elI 96 Tbl.v l t2 λx4 =>
(.el 160 Tbl.v l (λR=>Rf (l.map Tbl.v) (ck (decide (0<(l.length:Int)))
(∀x5,l[0]?=some x5 →
(R x5)))) λx5 =>
(.br 240 (x4.sub != x5.sub) (.bk 3 b3 ((true):Bool) [])
(.elI 272 Tbl.v l t2 λx6 =>
(.el 336 Tbl.v l (λR=>Rf (l.map Tbl.v) (ck (decide (0<(l.length:Int)))
(∀x7,l[0]?=some x7 →
(R x7)))) λx7 =>
(.bk 3 b3 ((x6.len != x7.len):Bool) []))))))) λ(t3:Bool) =>
(.br 0 t3 (.ret (8))
(.bk 2 b2 ((W (t2+1)):Int) []))))
(.ret (0)))))))))
theorem LN(l:List Tbl):∃I0 m0 I1 m1 I2 m2 I3,(zG l I0 m0 I1 m1 I2 m2 I3).vp zI (eP l):=by
 refine⟨λi=>aM l (λb=>jq b=false) i,λi=>l.length-i.toNat,λ_ i=>gu l (λx y=>x.router<y.router) i,λ_ i=>l.length+1-i.toNat,
  λ_ _ i=>∃k:Nat,i=k∧1≤k∧k≤l.length+1∧∀j x,j<k→l[j]?=some x→jh x l=false,λ_ _ i=>l.length+1-i.toNat,
  λ_ _ i t=>∀x,l[i.toNat]?=some x→t=jh x l,?_⟩
 dsimp only[zG,zH,Ax.vp,Ax.vc];simp only[vcU,rfU,u'];unfold eP;refine⟨λg=>by rw[F' (by omega)],λg=>?_⟩;rw[E' (by omega)]
 refine⟨aM.zero,λi h1=>⟨λc1=>⟨h1.idx,c1,λx hx=>⟨λe=>?_,λe=>h1.step (by omega) hx (by unfold jq;simpa using e)⟩⟩,λc1=>?_⟩⟩
 ·rw[F' (aj'.mpr ⟨x,bn hx,by unfold jq;simpa using e⟩)]
 have hb:¬l.any jq=true:=by
  rw[aj'];rintro⟨x,hx,q⟩;rw[h1.done c1 x hx]at q;cases q
 rw[E' hb]
 refine⟨gu.one,λi2 h2=>⟨λc2=>?_,λc2=>?_⟩⟩
 ·obtain⟨j1,j2⟩:=h2.idx (by omega) c2;refine⟨j1.1,j1.2,λp hp=>⟨j2,c2,λq hq=>⟨λe=>?_,λe=>h2.step (by omega) hp hq (by omega)⟩⟩⟩;rw[F' (show ¬wJ l from h2.bad (S:=λa b=>a.router<b.router) (by omega) hp hq (by omega))]
 have hO:wJ l:=h2.done c2 λ_ _ _ q r=>bJ' q r;rw[E' (not_not_intro hO)]
 refine⟨⟨1,rfl,by omega,by omega,λj x hj hx=>?_⟩,?_⟩
 ·have:j=0:=by omega
  subst this;unfold jh;rw[mz hx];simp
 rintro _ ⟨k,rfl,k1,k2,hk⟩;simp only[Int.toNat_natCast]
 refine⟨λc3=>⟨⟨by omega,c3,λx hx=>⟨by omega,λy hy=>⟨λe=>?_,λe=>⟨by omega,c3,λx2 hx2=>⟨by omega,λy2 hy2=>?_⟩⟩⟩⟩⟩,λt ht=>⟨λe=>?_,λe=>?_⟩⟩,λc3=>?_⟩
 ·intro z hz;rw[hx]at hz;cases hz;unfold jh;rw[mz hy];have e:(x.sub==y.sub)=false:=by simpa using e
  rw[e];rfl
 ·intro z hz;rw[hx]at hz hx2;cases hz;cases hx2;rw[hy]at hy2;cases hy2;unfold jh;rw[mz hy];have e:(x.sub==y.sub)=true:=by simpa using e
  rw[e];rfl
 ·have hx:=f' (show k<l.length by omega);rw[F' (aj'.mpr ⟨_,be hx,by rw[←ht _ hx,e]⟩)]
 ·have hx:=f' (show k<l.length by omega);rw[aQ (n:=l.length) (by omega) (by omega)];refine⟨⟨k+1,rfl,by omega,by omega,λj x hj hxj=>?_⟩,by omega⟩
  by_cases ej:j=k
  ·subst ej;rw[←ht _ hxj,e]
  ·exact hk j x (by omega) hxj
 ·rw[E'];rw[aj'];rintro⟨x,hx,q⟩;obtain⟨j,hj⟩:=cl' hx;rw[hk j x (by have:=am hj;omega) hj]at q;cases q
def zJ(l:List Tbl):PC Tryz.prog:=pcO 55 [(.s 4)] [.sl 4 (l.map Tbl.v) false] .k zI (eP l) (λ_=>let ⟨I0,m0,I1,m1,I2,m2,I3,h⟩:=LN l;⟨_,h,by kernel_rfl⟩) rfl (by kernel_rfl)
theorem jl{b:Tbl}(h:jU b=0):1≤b.router∧b.router≤99∧b.rows.length≤256∧(db b.len=true∨b.len=0∧b.rows=[])∧(∀r∈b.rows,(1≤r.id∧r.id≤256)∧r.nx.length≤24∧∀n∈r.nx,1≤n∧n≤99)∧b.rows.Pairwise λx y=>x.id<y.id:=by
 unfold jU at h
 split at h
 ·cases h
 rename_i h1
 split at h
 ·cases h
 rename_i h2
 split at h
 ·cases h
 rename_i h3;have h3:=bf'.mp h3;have h1:iW b=false:=by simpa using h1
 have h2:=pT (by simpa using h2:iF b=false);obtain⟨h1,h4⟩:=nh.mp h1;unfold hdB at h1;have i1:∀{n a c:Int},inP n a c=true→a≤n∧n≤c:=λq=>nF.mp (by rw[q];rfl);have h1:(inP b.router 1 99=true∧inP b.sub 0 7=true)∧(db b.len=true∨b.len=0∧b.rows.length=0):=by
  cases q1:inP b.router 1 99<;>cases q2:inP b.sub 0 7<;>cases q3:db b.len<;>simp_all
 refine⟨(i1 h1.1.1).1,(i1 h1.1.1).2,h2.1,?_,λr hr=>⟨i1 (h4 r hr).1,h2.2 r hr,λn hn=>i1 ((h4 r hr).2 n hn)⟩,h3.2⟩
 rcases h1.2 with q|q
 ·exact .inl q
 ·exact .inr ⟨q.1,bh'.mp q.2⟩
theorem j4{l:List Tbl}(h:eP l=0):l.length≤24∧(∀b∈l,jU b=0)∧wJ l:=by
 unfold eP at h
 split at h
 ·cases h
 rename_i h1
 split at h
 ·cases h
 rename_i h2
 split at h
 ·cases h
 rename_i h3;refine⟨by omega,λb hb=>?_,bf'.mp h3⟩;have h2:l.any jq=false:=by simpa using h2
 have:=bK'.mp h2 b hb;unfold jq at this;simpa using this
def sK(nx:List Int)(p:Int):Int:=if nx.length=0 then 0 else nx.getD (p.tmod nx.length).toNat 0
def EO(r:Int):AV:=.int r
def vO(r:Rw)(plane:Int):Ax Tryz.prog noS (Int):=
 (.br 96 (((r.nx.map AV.int).length:Int)==0) (.ret (0))
(.say (ck (!(((r.nx.map AV.int).length:Int)==0))) (.elI 208 AV.int r.nx (plane.tmod ((r.nx.map AV.int).length:Int)) λx1 =>
(.ret (x1)))))
theorem rj{p:Int}{n:Nat}(h:0≤p)(hn:n≠0):0≤p.tmod n∧p.tmod n<n:=⟨Int.tmod_nonneg _ h,Int.tmod_lt_of_pos _ (show(0:Int)<n by omega)⟩
theorem sJ{nx:List Int}{p x:Int}(hn:nx.length≠0)(hx:nx[(p.tmod nx.length).toNat]?=some x):sK nx p=x:=by
 unfold sK;rw[E' hn,H',hx];rfl
theorem Py(r:Rw)(p:Int)(h:0≤p):(vO r p).vp EO (sK r.nx p):=by
 dsimp only[vO,noS,Ax.vp,Ax.vc];simp only[vcU,rfU,u'];refine⟨λe=>by rw[sK,F' (by have:=eq_of_beq e;omega)],λe=>?_⟩;have e:r.nx.length≠0:=λq=>by rw[q]at e;simp at e
 have hr:=rj h e;exact⟨by simp;intro q;rw[q]at e;exact e rfl,hr.1,hr.2,λx hx=>(sJ e hx).symm⟩
def Pz(r:Rw)(plane:Int)(h:0≤plane):PC Tryz.prog:=pcO 135 [(.a [.k,(.s 1)]),.k] [Rw.v r,.int plane] .k EO (sK r.nx plane) (λ_=>⟨(vO r plane),Py r plane h,by kernel_rfl⟩) rfl (by kernel_rfl)
def gk(b:Tbl)(id:Int):Rw×Bool:=match b.rows.find? λr=>r.id==id with
 | some r=>(r,true)
 | none=>(⟨0,[]⟩,false)
def Cu(b:Tbl)(id:Int):=okL [Tbl.v b,.int id]
def Jd(b:Tbl)(id:Int)(t0:Int):NF:=⟨[rI 1 id,rR 4 0,(9,.k,.sl 2 (b.rows.map Rw.v) false),rI 10 ((b.rows.map Rw.v).length:Int),rI 11 t0],[.box (.agg [.int 0,.sl 0 [] true])]⟩
@[reducible] def Cs:Nat→Type
 | 0=>Int
 | _=>Unit
def Ct(r:Rw×Bool):AV:=.tup [Rw.v r.1,.bool r.2]
def Cr(b:Tbl)(id:Int)(I0:Int→Prop)(m0:Int→Nat):Ax Tryz.prog Cs (Rw×Bool):=
 (.loop 0 (Jd b id) I0 m0 ((0):Int) [16] λ(t0:Int) b0 =>
(.br 17 (decide (t0<((b.rows.map Rw.v).length:Int))) (.elI 17 Rw.v b.rows t0 λx1 =>
(.br 145 (x1.id==id) (.req 193 (x1.nx.length≤1000000) λh2 =>
(.callP (tz x1.nx h2)
(.ret ((⟨id,x1.nx⟩:Rw),true))))
(.bk 0 b0 ((W (t0+1)):Int) [0])))
(.ret ((⟨0,[]⟩:Rw),false))))
theorem Oj(b:Tbl)(id:Int)(h:∀r∈b.rows,r.nx.length≤1000000)(ok:Cu b id):∃I m,(Cr b id I m).vp Ct (gk b id):=by
 refine⟨λt=>aM b.rows (λr=>(r.id==id)=false) t,λt=>b.rows.length-t.toNat,?_⟩;simp only[Cu,Tbl.v,okU,Blk.ok,az,u']at ok;dsimp only[Cr,Cs,Ax.vp,Ax.vc];simp only[vcU,rfU,u']
 refine⟨aM.zero,λt h1=>⟨λc=>⟨h1.idx,c,λx hx=>⟨λq=>⟨h x (bn hx),?_⟩,λq=>h1.step (by omega) hx q⟩⟩,λc=>?_⟩⟩
 ·rw[gk,h1.find (p:=λr:Rw=>r.id==id) hx q,←eq_of_beq q]
 ·rw[gk,h1.nofind (p:=λr:Rw=>r.id==id) c]
def Ol(b:Tbl)(id:Int)(h:∀r∈b.rows,r.nx.length≤1000000):PC Tryz.prog:=pcO 134 [(.a [.k,.k,.k,(.s 2)]),.k] [Tbl.v b,.int id] (.a [(.a [.k,(.s 1)]),.k]) Ct (gk b id) (λok=>let ⟨I0,m0,h⟩:=Oj b id h ok;⟨_,h,by kernel_rfl⟩) rfl (by kernel_rfl)
def Cy(b:Tbl)(id:Int):=okL [Tbl.v b,.int id]
def Je(b:Tbl)(id:Int)(t0:Int):NF:=⟨[rI 1 id,rR 2 0,rR 4 1,rI 6 t0],[.box (Tbl.v b),.box (.agg [.int 0,.sl 0 [] true])]⟩
@[reducible] def Cw:Nat→Type
 | 0=>Int
 | _=>Unit
def Cx(r:Rw×Bool):AV:=.tup [Rw.v r.1,.bool r.2]
def Cv(b:Tbl)(id:Int)(I0:Int→Prop)(m0:Int→Nat):Ax Tryz.prog Cw (Rw×Bool):=
 (.loop 0 (Je b id) I0 m0 ((0):Int) [0,16] λ(t0:Int) b0 =>
(.br 82 (decide (t0<((b.rows.map Rw.v).length:Int))) (.elI 130 Rw.v b.rows t0 λx1 =>
(.br 210 (x1.id==id) (.elI 258 Rw.v b.rows t0 λx2 =>
(.ret (x2,true)))
(.bk 0 b0 ((W (t0+1)):Int) [0,1])))
(.ret ((⟨0,[]⟩:Rw),false))))
theorem Om(b:Tbl)(id:Int)(ok:Cy b id):∃I m,(Cv b id I m).vp Cx (gk b id):=by
 refine⟨λt=>aM b.rows (λr=>(r.id==id)=false) t,λt=>b.rows.length-t.toNat,?_⟩;simp only[Cy,Tbl.v,okU,Blk.ok,az,u']at ok;dsimp only[Cv,Cw,Ax.vp,Ax.vc];simp only[vcU,rfU,u']
 refine⟨aM.zero,λt h1=>⟨λc=>⟨h1.idx,c,λx hx=>⟨λq=>⟨h1.idx,c,λy hy=>?_⟩,λq=>h1.step (by omega) hx q⟩⟩,λc=>?_⟩⟩
 ·rw[hx]at hy;cases hy;rw[gk,h1.find (p:=λr:Rw=>r.id==id) hx q]
 ·rw[gk,h1.nofind (p:=λr:Rw=>r.id==id) c]
def On(b:Tbl)(id:Int):PC Tryz.prog:=pcO 98 [(.a [.k,.k,.k,(.s 2)]),.k] [Tbl.v b,.int id] (.a [(.a [.k,(.s 1)]),.k]) Cx (gk b id) (λok=>let ⟨I0,m0,h⟩:=Om b id ok;⟨_,h,by kernel_rfl⟩) rfl (by kernel_rfl)
def fq(b:Tbl)(id p:Int):Int:=sK (gk b id).1.nx p
def KE(b:Tbl)(id:Int)(p:Int)(t0:Bool):NF:=⟨[rI 2 p,rR 7 0,rB 22 t0],[.box (Rw.v ((gk b id).1))]⟩
@[reducible] def EQ:Nat→Type
 | 0=>Bool
 | _=>Unit
def ER(r:Int):AV:=.int r
def EP(b:Tbl)(id:Int)(p:Int)(I0:Bool→Prop):Ax Tryz.prog EQ (Int):=
 (.callP (On b id)
(.pass (.join 0 (KE b id p) (λ(t0:Bool)=>I0 t0) (λb0=>(.br 224 (!((gk b id).2)) (.bk 0 b0 ((true):Bool) [128])
(.bk 0 b0 (((((((gk b id).1).nx).map AV.int).length:Int)==0):Bool) [128]))) λ(t0:Bool) =>
(.br 1 t0 (.ret (0))
(.say (ck (!((((((gk b id).1).nx).map AV.int).length:Int)==0))) (.elI 113 AV.int (((gk b id).1).nx) (p.tmod (((((gk b id).1).nx).map AV.int).length:Int)) λx1 =>
(.ret (x1))))))))
theorem Jc{b:Tbl}{id:Int}(h:(gk b id).2=false):(gk b id).1.nx=[]:=by
 unfold gk at h ⊢
 split at h
 ·cases h
 ·rfl
theorem P2(b:Tbl)(id p:Int)(h:0≤p):∃I,(EP b id p I).vp ER (fq b id p):=by
 refine⟨λt=>t=decide ((gk b id).1.nx.length=0),?_⟩;dsimp only[EP,EQ,Ax.vp,Ax.vc];simp only[vcU,rfU,u']
 refine⟨⟨λe=>?_,λe=>?_⟩,?_⟩
 ·rw[Jc (by simpa using e)];rfl
 ·rw[ag',aV',R'];omega
 rintro _ rfl;unfold fq;refine⟨λe=>by rw[sK,F' (G' e)],λe=>?_⟩;have e:=S' e;have hr:=rj h e;exact⟨by simp;intro q;rw[q]at e;exact e rfl,hr.1,hr.2,λx hx=>(sJ e hx).symm⟩
def P3(b:Tbl)(id:Int)(p:Int)(h:0≤p):PC Tryz.prog:=pcO 57 [(.a [.k,.k,.k,(.s 2)]),.k,.k] [Tbl.v b,.int id,.int p] .k ER (fq b id p) (λ_=>let ⟨I0,h⟩:=P2 b id p h;⟨_,h,by kernel_rfl⟩) rfl (by kernel_rfl)
def mvl(b:Tbl)(pl st:Int):Bool:=(jU b==0) && (decide (0≤pl∧pl<8) && decide (0≤st∧st≤31))
def Ns(r:Bool):AV:=.bool r
def D9(b:Tbl)(plane:Int)(set_:Int):Ax Tryz.prog noS (Bool):=
 (.callP (G4 b)
(.br 96 ((jU b)==0) (.br 160 (decide (0≤plane)) (.br 224 (decide (plane<8)) (.br 288 (decide (0≤set_)) (.ret (decide (set_≤31)))
(.ret (false)))
(.ret (false)))
(.ret (false)))
(.ret (false))))
theorem mvl_p(b:Tbl)(pl st:Int):(D9 b pl st).vp Ns (mvl b pl st):=by
 dsimp only[D9,noS,Ax.vp,Ax.vc];simp only[vcU,rfU,u'];unfold mvl;refine⟨λe=>⟨λe1=>⟨λe2=>⟨λe3=>?_,λe3=>?_⟩,λe2=>?_⟩,λe1=>?_⟩,λe=>by rw[e];rfl⟩<;>simp[e, *]
def mvl_c(b:Tbl)(plane:Int)(set_:Int):PC Tryz.prog:=pcO 133 [(.a [.k,.k,.k,(.s 2)]),.k,.k] [Tbl.v b,.int plane,.int set_] .k Ns (mvl b plane set_) (λ_=>⟨(D9 b plane set_),mvl_p b plane set_,by kernel_rfl⟩) rfl (by kernel_rfl)
theorem yx{b:Tbl}{pl st:Int}:mvl b pl st=true↔jU b=0∧(0≤pl∧pl<8)∧0≤st∧st≤31:=by
 unfold mvl;rw[ae',ae',R',R',aV']
def rY(b:Tbl)(id pl:Int):Int:=if mvl b pl 0=true then fq b id pl else 0
def Dw(r:Int):AV:=.int r
def vg(b:Tbl)(id:Int)(plane:Int):Ax Tryz.prog noS (Int):=
 (.callP (mvl_c b plane 0)
(.br 96 (!(mvl b plane 0)) (.ret (0))
(.req 128 (∀r∈b.rows,r.nx.length≤1000000) λh1 =>
(.callP (Ol b id h1)
(.req 272 (0≤plane) λh2 =>
(.callP (Pz ((gk b id).1) plane h2)
(.ret (sK ((gk b id).1).nx plane))))))))
theorem OI(b:Tbl)(id pl:Int):(vg b id pl).vp Dw (rY b id pl):=by
 dsimp only[vg,noS,Ax.vp,Ax.vc];simp only[vcU,rfU,u'];unfold rY;refine⟨λe=>by rw[E' (by simpa using e)],λe=>?_⟩;have e:mvl b pl 0=true:=by simpa using e
 have h:=yx.mp e;rw[F' e];exact⟨λr hr=>by have:=((jl h.1).2.2.2.2.1 r hr).2.1;omega,by omega,rfl⟩
def OJ(b:Tbl)(id:Int)(plane:Int):PC Tryz.prog:=pcO 96 [(.a [.k,.k,.k,(.s 2)]),.k,.k] [Tbl.v b,.int id,.int plane] .k Dw (rY b id plane) (λ_=>⟨(vg b id plane),OI b id plane,by kernel_rfl⟩) rfl (by kernel_rfl)
def i9(nx:Int→Int)(b:Int):Nat→Int→List Int→Option (List Int)
 | 0,_,_=>none
 | f+1,a,way=>if a=0 then none else if a=b then some way else i9 nx b f (nx a) (way++[a])
def itN(nx:Int→Int)(b:Int):Nat→Int
 | 0=>b
 | k+1=>nx (itN nx b k)
theorem pW(nx:Int→Int)(b:Int)(i:Nat):∀j,itN nx b (i+j)=itN nx (itN nx b i) j
 | 0=>rfl
 | j+1=>by rw[←aG',itN,itN,pW nx b i j]
def qX(nx:Int→Int)(b:Int)(m:Nat):Prop:=1≤m∧itN nx b m=b∧∀j,1≤j→j<m→itN nx b j≠b∧itN nx b j≠0
def li(nx:Int→Int)(b:Int)(m:Nat):List Int:=(List.range m).map (itN nx b)
theorem Ai(nx:Int→Int)(b:Int)(m:Nat):li nx b (m+1)=li nx b m++[itN nx b m]:=by simp[li,bT']
theorem B4(nx:Int→Int)(b:Int)(m:Nat):(li nx b m).length=m:=by simp[li]
theorem oA{nx:Int→Int}{b:Int}(hb:b≠0):∀{f k:Nat} {w:List Int},1≤k→(∀j,1≤j→j<k→itN nx b j≠b∧itN nx b j≠0) →
  (i9 nx b f (itN nx b k) (li nx b k)=some w↔∃m,k≤m∧m<k+f∧qX nx b m∧w=li nx b m)
 | 0,k,w,h1,hk=>by
  rw[i9];exact⟨nofun,λ⟨m,h1,h2,_⟩=>by omega⟩
 | f+1,k,w,h1,hk=>by
  rw[i9]
  by_cases e0:itN nx b k=0
  ·rw[F' e0];refine⟨nofun,λ⟨m,h2,h3,⟨h4,h5,h6⟩,_⟩=>?_⟩
   by_cases e:m=k
   ·subst e;rw[h5]at e0;exact absurd e0 hb
   ·exact absurd e0 (h6 k h1 (by omega)).2
  rw[E' e0]
  by_cases e1:itN nx b k=b
  ·rw[F' e1]
   constructor
   ·intro e;cases e;exact⟨k,X' _,by omega,⟨h1,e1,hk⟩,rfl⟩
   ·rintro⟨m,h2,h3,⟨h4,h5,h6⟩,rfl⟩
    by_cases e:m=k
    ·rw[e]
    ·exact absurd e1 (h6 k h1 (by omega)).1
  rw[E' e1];have hk2:∀j,1≤j→j<k+1→itN nx b j≠b∧itN nx b j≠0:=λj a c=>by
   by_cases e:j=k
   ·subst e;exact⟨e1,e0⟩
   ·exact hk j a (by omega)
  have:=oA hb (f:=f) (k:=k+1) (w:=w) (by omega) hk2;rw[Ai]at this;rw[show nx (itN nx b k)=itN nx b (k+1)from rfl,this]
  constructor
  ·rintro⟨m,h2,h3,h4⟩;exact⟨m,by omega,by omega,h4⟩
  ·rintro⟨m,h2,h3,h4,h5⟩;refine⟨m,?_,by omega,h4,h5⟩;have:m≠k:=λe=>by subst e;exact e1 h4.2.1
   omega
theorem qX.nodup{nx:Int→Int}{b:Int}{m:Nat}(h:qX nx b m):(li nx b m).Nodup:=by
 unfold li;rw[co',bL'];have:(List.range m).Pairwise (·<·):=List.pairwise_lt_range;refine this.imp_of_mem λ{i j} hi hj hij e=>?_;have hi:=as'.mp hi;have hj:=as'.mp hj;have e2:itN nx b (i+(m-j))=b:=by
  rw[pW,e,←pW,show j+(m-j)=m by omega];exact h.2.1
 exact(h.2.2 (i+(m-j)) (by omega) (by omega)).1 e2
theorem qX.ne{nx:Int→Int}{b:Int}(hb:b≠0){m:Nat}(h:qX nx b m){x:Int}(hx:x∈li nx b m):nx x≠0:=by
 unfold li at hx;obtain⟨i,hi,rfl⟩:=aa'.mp hx;have hi:=as'.mp hi;show itN nx b (i+1)≠0
 by_cases e:i+1=m
 ·rw[e,h.2.1];exact hb
 ·exact(h.2.2 (i+1) (by omega) (by omega)).2
theorem qX.le{nx:Int→Int}{b:Int}(hb:b≠0){m:Nat}(h:qX nx b m){l:List Int}(hl:∀x,nx x≠0→x∈l):m≤l.length:=by
 have:=List.Nodup.length_le_of_subset h.nodup (l₂:=l) λx hx=>hl x (h.ne hb hx)
 rwa [B4]at this
def nxT(l:List Tbl)(id pl r:Int):Int:=match l.find? λb=>b.router==r with
 | some b=>if fq b id pl=r then 0 else fq b id pl
 | none=>0
def fQ(l:List Tbl)(id pl:Int)(n:Nat):List Tbl→List Int
 | []=>[]
 | b::q=>match i9 (nxT l id pl) b.router n (nxT l id pl b.router) [b.router]with
  | some w=>w
  | none=>fQ l id pl n q
def gG(l:List Tbl)(id pl:Int):List Int:=fQ l id pl l.length l
theorem wU{nx:Int→Int}{b:Int}(hb:b≠0){f:Nat}{w:List Int}:i9 nx b f (nx b) [b]=some w↔∃m,m<1+f∧qX nx b m∧w=li nx b m:=by
 have:=oA (nx:=nx) hb (f:=f) (k:=1) (w:=w) (X' _) (λj a c=>by omega);have e:li nx b 1=[b]:=rfl;rw[e]at this;rw[show nx b=itN nx b 1 from rfl,this];exact⟨λ⟨m,_,h2,h3,h4⟩=>⟨m,h2,h3,h4⟩,λ⟨m,h2,h3,h4⟩=>⟨m,h3.1,h2,h3,h4⟩⟩
theorem JP{l:List Tbl}{id pl r:Int}(h:nxT l id pl r≠0):∃b∈l,b.router=r∧(l.find? λb=>b.router==r)=some b∧fq b id pl=nxT l id pl r∧nxT l id pl r≠r:=by
 unfold nxT at h ⊢;cases e:l.find? λb=>b.router==r with
 | none=>rw[e]at h;exact absurd rfl h
 | some b =>
  rw[e]at h;simp only at h ⊢
  by_cases c:fq b id pl=r
  ·rw[F' c]at h;exact absurd rfl h
  ·rw[E' c];exact⟨b,bG' e,by simpa using cw' e,rfl,rfl,c⟩
theorem Bz{l:List Tbl}{id pl b:Int}(hb:b≠0){f:Nat}(hf:l.length≤f):i9 (nxT l id pl) b f (nxT l id pl b) [b]=i9 (nxT l id pl) b l.length (nxT l id pl b) [b]:=by
 have key:∀{m},qX (nxT l id pl) b m→m≤l.length:=λh=>by
  have:=h.le hb (l:=l.map Tbl.router) λx hx=>by
   obtain⟨c,hc,e,_⟩:=JP hx;exact aa'.mpr ⟨c,hc,e⟩
  rwa [u']at this
 refine Option.ext λw=>?_;rw[wU hb,wU hb];exact⟨λ⟨m,h1,h2,h3⟩=>⟨m,by have:=key h2;omega,h2,h3⟩,λ⟨m,h1,h2,h3⟩=>⟨m,by omega,h2,h3⟩⟩
theorem nu{l:List Tbl}{id pl:Int}{f:Nat}(hf:l.length≤f):∀{q:List Tbl},(∀b∈q,1≤b.router)→fQ l id pl f q=fQ l id pl l.length q
 | [],_=>rfl
 | b::q,h=>by
  rw[fQ,fQ,Bz (by have:=h b (by simp);omega) hf,nu hf λc hc=>h c (by simp[hc])]
def bU(l:List Tbl)(r:Int):Tbl×Bool:=match l.find? λb=>b.router==r with
 | some b=>(b,true)
 | none=>(⟨0,0,0,[]⟩,false)
def Fq(l:List Tbl)(router:Int):=okL [.sl 4 (l.map Tbl.v) false,.int router]
def KL(l:List Tbl)(router:Int)(t0:Int):NF:=⟨[(0,.k,.sl 4 (l.map Tbl.v) false),rI 1 router,rR 4 0,rI 6 t0],[.box (.agg [.int 0,.int 0,.int 0,.sl 0 [] true])]⟩
@[reducible] def Fm:Nat→Type
 | 0=>Int
 | _=>Unit
def Fo(r:Tbl×Bool):AV:=.tup [Tbl.v r.1,.bool r.2]
def Fl(l:List Tbl)(router:Int)(I0:Int→Prop)(m0:Int→Nat):Ax Tryz.prog Fm (Tbl×Bool):=
 (.loop 0 (KL l router) I0 m0 ((0):Int) [0] λ(t0:Int) b0 =>
(.br 65 (decide (t0<((l.map Tbl.v).length:Int))) (.elI 97 Tbl.v l t0 λx1 =>
(.br 177 (x1.router==router) (.elI 209 Tbl.v l t0 λx2 =>
(.ret (x2,true)))
(.bk 0 b0 ((W (t0+1)):Int) [0])))
(.ret ((⟨0,0,0,[]⟩:Tbl),false))))
theorem PF(l:List Tbl)(r:Int)(ok:Fq l r):∃I m,(Fl l r I m).vp Fo (bU l r):=by
 refine⟨λi=>aM l (λb=>(b.router==r)=false) i,λi=>l.length-i.toNat,?_⟩;simp only[Fq,Tbl.v,okU,Blk.ok,az,u']at ok;dsimp only[Fl,Fm,Ax.vp,Ax.vc];simp only[vcU,rfU,u']
 refine⟨aM.zero,λi h=>⟨λc=>⟨h.idx,c,λx hx=>⟨λq=>⟨h.idx,c,λy hy=>?_⟩,λq=>h.step (by omega) hx q⟩⟩,λc=>?_⟩⟩
 ·have e:=kR (p:=λb:Tbl=>b.router==r) h hx q;unfold bU;rw[hx]at hy;cases hy;rw[e]
 ·have e:=mA (p:=λb:Tbl=>b.router==r) h c;unfold bU;rw[e]
def Fp(l:List Tbl)(router:Int):PC Tryz.prog:=pcO 51 [(.s 4),.k] [.sl 4 (l.map Tbl.v) false,.int router] (.a [(.a [.k,.k,.k,(.s 2)]),.k]) Fo (bU l router) (λok=>let ⟨I0,m0,h⟩:=PF l router ok;⟨_,h,by kernel_rfl⟩) rfl (by kernel_rfl)
theorem Dx{q:List Tbl}{b:Tbl}{id pl:Int}(hn:∀a∈q,a.router≠b.router)(x:Int):nxT (q++[b]) id pl x=if x=b.router then(if fq b id pl=b.router then 0 else fq b id pl)else nxT q id pl x:=by
 unfold nxT;rw[List.find?_append]
 by_cases e:x=b.router
 ·subst e;rw[F' rfl,show(q.find? λa=>a.router==b.router)=none from bR'.mpr λa ha=>by simpa using hn a ha];simp
 ·rw[E' e];cases h:q.find? λa=>a.router==x with
  | some a=>rfl
  | none=>simp[Ne.symm e]
structure NxI (id pl:Int) (q:List Tbl) (M:Dis):Prop where
  nd:(ap M).Nodup
  val:∀x,av M x 0=nxT q id pl x
theorem DB{M:Dis}(hn:(ap M).Nodup)(k v x:Int):av (ba M k v) x 0=if x=k then v else av M x 0:=by
 have hn':=dw (x:=k) (v:=v) hn
 by_cases e:x=k
 ·subst e;rw[F' rfl];exact dC hn' ((bM hn).mpr (.inl rfl))
 ·rw[E' e];cases h:aT M x with
  | true=>exact dC hn' ((bM hn).mpr (.inr ⟨bF h,e⟩))
  | false =>
   rw[cd h];refine cd ?_;rw[se hn,h,decide_eq_false e];rfl
def Ei(l:List Tbl)(id:Int)(plane:Int):=okL [.sl 4 (l.map Tbl.v) false,.int id,.int plane]
def Kw(l:List Tbl)(id:Int)(plane:Int)(t0:Int×(List (Int×Int))):NF:=⟨[(0,.k,.sl 4 (l.map Tbl.v) false),rI 1 id,rI 2 plane,(7,.k,.mref 0),(16,.k,.sl 4 (l.map Tbl.v) false),rI 17 ((l.map Tbl.v).length:Int),rI 18 t0.1],[.map none (t0.2.map λp=>MK.n p.1) (t0.2.map λp=>AV.int p.2) (ae (λ_=>rfl) _)]⟩
def Kv(l:List Tbl)(t0:Int×(List (Int×Int)))(t1:Int):NF:=⟨[(0,.k,.sl 4 (l.map Tbl.v) false),(7,.k,.mref 0),(35,.k,.sl 4 (l.map Tbl.v) false),rI 36 ((l.map Tbl.v).length:Int),rI 37 t1],[.map none (t0.2.map λp=>MK.n p.1) (t0.2.map λp=>AV.int p.2) (ae (λ_=>rfl) _)]⟩
def Ku(l:List Tbl)(t0:Int×(List (Int×Int)))(t1:Int)(x2:Tbl)(t2:Int×List Int):NF:=⟨[(0,.k,.sl 4 (l.map Tbl.v) false),(7,.k,.mref 0),rR 12 1,rV 13 2,rI 14 t2.1,(35,.k,.sl 4 (l.map Tbl.v) false),rI 36 ((l.map Tbl.v).length:Int),rI 37 t1],[.map none (t0.2.map λp=>MK.n p.1) (t0.2.map λp=>AV.int p.2) (ae (λ_=>rfl) _),.box (Tbl.v x2),vB 1 AV.int t2.2 (λ_=>rfl)]⟩
def Kt(l:List Tbl)(t0:Int×(List (Int×Int)))(t1:Int)(x2:Tbl)(t2:Int×List Int)(t3:Bool):NF:=⟨[(0,.k,.sl 4 (l.map Tbl.v) false),(7,.k,.mref 0),rR 12 1,rV 13 2,rI 14 t2.1,(35,.k,.sl 4 (l.map Tbl.v) false),rI 36 ((l.map Tbl.v).length:Int),rI 37 t1,rB 56 t3],[.map none (t0.2.map λp=>MK.n p.1) (t0.2.map λp=>AV.int p.2) (ae (λ_=>rfl) _),.box (Tbl.v x2),vB 1 AV.int t2.2 (λ_=>rfl)]⟩
@[reducible] def Ef:Nat→Type
 | 0=>Int×(List (Int×Int))
 | 1=>Int
 | 2=>Int×List Int
 | 3=>Bool
 | _=>Unit
def Eg(r:List Int):AV:=.sl 1 (r.map AV.int) false
def Ee(l:List Tbl)(id:Int)(plane:Int)(I0:(Int×(List (Int×Int)))→Prop)(m0:(Int×(List (Int×Int)))→Nat)(I1:Int×(List (Int×Int))→Int→Prop)(m1:Int×(List (Int×Int))→Int→Nat)(I2:Int×(List (Int×Int))→Int→Tbl→(Int×List Int)→Prop)(m2:Int×(List (Int×Int))→Int→Tbl→(Int×List Int)→Nat)(I3:Int×(List (Int×Int))→Int→Tbl→Int×List Int→Bool→Prop):Ax Tryz.prog Ef ((List Int)):=
 (.loop 0 (Kw l id plane) I0 m0 (0,([]:List (Int×Int))) [16] λ(t0:Int×(List (Int×Int))) b0 =>
(.br 17 (decide (t0.1<((l.map Tbl.v).length:Int))) (.elI 17 Tbl.v l t0.1 λx1 =>
(.callP (OJ x1 id plane)
(.br 225 ((rY x1 id plane) != x1.router) (.mn 289 (nk AV.int t0.2 x1.router (rY x1 id plane)) (.bk 0 b0 (W (t0.1+1),ba t0.2 x1.router (rY x1 id plane)) [0]))
(.bk 0 b0 (W (t0.1+1),t0.2) [0]))))
(.loop 1 (Kv l t0) (I1 t0) (m1 t0) ((0):Int) [0] λ(t1:Int) b1 =>
(.br 17 (decide (t1<((l.map Tbl.v).length:Int))) (.elI 17 Tbl.v l t1 λx2 =>
(.own 113 (.mn 193 (jP AV.int t0.2 x2.router 0) (.loop 2 (Ku l t0 t1 x2) (I2 t0 t1 x2) (m2 t0 t1 x2) (av t0.2 x2.router 0,[x2.router]) [0,49,113] λ(t2:Int×List Int) b2 =>
(.pass (.join 3 (Kt l t0 t1 x2 t2) (λ(t3:Bool)=>I3 t0 t1 x2 t2 t3) (λb3=>(.br 51 (t2.1 != 0) (.bk 3 b3 ((decide (((t2.2.map AV.int).length:Int)≤((l.map Tbl.v).length:Int))):Bool) [0,1,2])
(.bk 3 b3 ((false):Bool) [0,1,2]))) λ(t3:Bool) =>
(.br 3 t3 (.br 67 (t2.1==x2.router) (.fz 2 AV.int t2.2 (λ_=>rfl) (.ret (t2.2)))
(.apX 115 AV.int t2.2 [t2.1] (t2.2.length+1)
(.mn 179 (jP AV.int t0.2 t2.1 0) (.bk 2 b2 (av t0.2 t2.1 0,t2.2++[t2.1]) [0,1,115]))))
(.bk 1 b1 ((W (t1+1)):Int) [0]))))))))
(.ret ([]))))))
theorem Pg(l:List Tbl)(id pl:Int)(hc:eP l=0)(hp:0≤pl∧pl<8)(ok:Ei l id pl):∃I0 m0 I1 m1 I2 m2 I3,(Ee l id pl I0 m0 I1 m1 I2 m2 I3).vp Eg (gG l id pl):=by
 refine⟨λs=>∃k:Nat,s.1=k∧k≤l.length∧NxI id pl (l.take k) s.2,λs=>l.length-s.1.toNat,
  λt i=>(∀x,av t.2 x 0=nxT l id pl x)∧∃k:Nat,i=k∧k≤l.length∧fQ l id pl l.length (l.drop k)=gG l id pl,λt i=>l.length-i.toNat,
  λt i b q=>((∀x,av t.2 x 0=nxT l id pl x)∧∃k:Nat,i=k∧k<l.length∧l[k]?=some b∧fQ l id pl l.length (l.drop k)=gG l id pl)∧(1≤q.2.length∧q.2.length≤l.length+1)∧i9 (nxT l id pl) b.router (l.length+1-q.2.length) q.1 q.2=i9 (nxT l id pl) b.router l.length (nxT l id pl b.router) [b.router],
  λt i b q=>l.length+2-q.2.length,λt i b q u=>u=decide (q.1≠0∧q.2.length≤l.length),?_⟩
 obtain⟨hl,hb,ha⟩:=j4 hc;simp only[Ei,Tbl.v,okU,Blk.ok,az,u']at ok;dsimp only[Ee,Ef,Ax.vp,Ax.vc];simp only[vcU,rfU,u'];refine⟨⟨0,rfl,by omega,aW',λx=>by rw[cd (by unfold aT ap;simp)];rfl⟩,?_⟩;rintro⟨_,M⟩ ⟨k,rfl,hk,hM⟩;simp only at hM ⊢;rw[Int.toNat_natCast]
 refine⟨λc=>⟨by omega,c,λb hbk=>?_⟩,λc=>⟨⟨λx=>?_,0,rfl,by omega,rfl⟩,?_⟩⟩
 ·have hbm:=J' hbk;have e:rY b id pl=fq b id pl:=by unfold rY;rw[F' (yx.mpr ⟨hb b hbm,hp,by omega,by omega⟩)]
  have w:W ((k:Int)+1)=((k+1:Nat):Int):=aQ (n:=l.length) (by omega) (by omega);have hn:∀a∈l.take k,a.router≠b.router:=λa ha'=>by
   obtain⟨j,hj,rfl⟩:=aD'.mp ha';have hkl:=am hbk;have h2:=(at'.mp ha) j k (by omega) hkl (by omega);rw[f' hkl]at hbk;rw[←Z' hbk];omega
  have hs:=λx=>Dx (id:=id) (pl:=pl) hn x;rw[e,w]
  refine⟨λd=>⟨⟨k+1,rfl,by omega,?_⟩,by omega⟩,λd=>⟨⟨k+1,rfl,by omega,?_⟩,by omega⟩⟩
  ·have d:fq b id pl≠b.router:=by simpa using d
   rw[aB hbk];refine⟨dw hM.nd,λx=>?_⟩;rw[DB hM.nd,hs,E' d,hM.val]
  ·have d:fq b id pl=b.router:=by simpa using d
   rw[aB hbk];refine⟨hM.nd,λx=>?_⟩;rw[hs,F' d,hM.val]
   split
   ·rename_i q;subst q;unfold nxT;rw[show((l.take k).find? λa=>a.router==b.router)=none from bR'.mpr λa ha=>by simpa using hn a ha]
   ·rfl
 ·have:=hM.val x;rw[V' (by omega)]at this;exact this
 ·rintro i ⟨hv,j,rfl,hj,hf⟩;rw[Int.toNat_natCast]
  refine⟨λd=>⟨by omega,d,λb hbj=>⟨⟨⟨hv,j,rfl,by omega,hbj,hf⟩,⟨by simp,by simp⟩,?_⟩,?_⟩⟩,λd=>?_⟩
  ·simp only[List.length_singleton,Nat.add_sub_cancel];rw[hv]
  ·rintro⟨a,way⟩ ⟨⟨_,j',hj',hjl,hbj',hf'⟩,⟨g1,g2⟩,g3⟩;simp only at g1 g2 g3 ⊢;have hjj:j'=j:=by omega
   subst hjj
   refine⟨⟨λe=>?_,λe=>?_⟩,?_⟩
   ·rw[decide_eq_decide];have e:a≠0:=by simpa using e
    exact⟨λh=>⟨e,by omega⟩,λh=>by omega⟩
   ·have e:a=0:=by simpa using e
    rw[eq_comm,decide_eq_false_iff_not];simp[e]
   rintro _ rfl;have hd:l.drop j'=b::l.drop (j'+1):=by
    have hlt:=am hbj;rw[aP' hlt];rw[f' hlt]at hbj;rw[Z' hbj]
   rw[hd,fQ,←g3]at hf
   refine⟨λe=>?_,λe=>?_⟩
   ·obtain⟨e1,e2⟩:=G' e;obtain⟨f,hfu⟩:∃f,l.length+1-way.length=f+1:=⟨l.length-way.length,by omega⟩
    rw[hfu,i9,E' e1]at hf g3
    refine⟨λq=>?_,λq=>⟨by omega,⟨⟨hv,j',rfl,hjl,hbj,hf'⟩,⟨by simp,by simp;omega⟩,?_⟩,by simp;omega⟩⟩
    ·have q:a=b.router:=eq_of_beq q;rw[F' q]at hf;exact hf
    ·have q:a≠b.router:=by simpa using q
     rw[E' q]at g3;rw[hv,←g3,List.length_append,List.length_singleton,show l.length+1-(way.length+1)=f by omega]
   ·have e:=S' e;have hnone:i9 (nxT l id pl) b.router (l.length+1-way.length) a way=none:=by
     by_cases e1:a=0
     ·cases l.length+1-way.length with
      | zero=>rfl
      | succ f=>rw[i9,F' e1]
     ·rw[show l.length+1-way.length=0 from by
       have:¬way.length≤l.length:=λh=>e ⟨e1,h⟩;omega];rfl
    rw[hnone]at hf;have w:W ((j':Int)+1)=((j'+1:Nat):Int):=aQ (n:=l.length) (by omega) (by omega);rw[w];exact⟨⟨hv,j'+1,rfl,by omega,hf⟩,by omega⟩
  ·rw[←hf,bo' (by omega)];rfl
def Eh(l:List Tbl)(id:Int)(plane:Int)(hc:eP l=0)(hp:0≤plane∧plane<8):PC Tryz.prog:=pcO 54 [(.s 4),.k,.k] [.sl 4 (l.map Tbl.v) false,.int id,.int plane] (.s 1) Eg (gG l id plane) (λok=>let ⟨I0,m0,I1,m1,I2,m2,I3,h⟩:=Pg l id plane hc hp ok;⟨_,h,by kernel_rfl⟩) rfl (by kernel_rfl)
def cS(l:List Tbl)(id pl:Int):List Int:=if eP l=0∧0≤pl∧pl<8 then gG l id pl else []
def Ks(l:List Tbl)(id:Int)(plane:Int)(t0:Bool):NF:=⟨[(0,.k,.sl 4 (l.map Tbl.v) false),rI 1 id,rI 2 plane,rB 17 t0],[]⟩
@[reducible] def Ec:Nat→Type
 | 0=>Bool
 | _=>Unit
def Ed(r:List Int):AV:=.sl 1 (r.map AV.int) false
def Eb(l:List Tbl)(id:Int)(plane:Int)(I0:Bool→Prop):Ax Tryz.prog Ec ((List Int)):=
 (.pass (.pass (.join 0 (Ks l id plane) (λ(t0:Bool)=>I0 t0) (λb0=>(.callP (G8 l)
(.br 80 ((eP l) != 0) (.bk 0 b0 ((true):Bool) [])
(.br 144 (decide (plane<0)) (.bk 0 b0 ((true):Bool) [])
(.bk 0 b0 ((decide (8≤plane)):Bool) []))))) λ(t0:Bool) =>
(.br 0 t0 (.ret ([]))
(.req 48 (eP l=0) λh1 =>
(.req 48 (0≤plane∧plane<8) λh2 =>
(.callP (Eh l id plane h1 h2)
(.ret (gG l id plane)))))))))
theorem Pf(l:List Tbl)(id pl:Int):∃I0,(Eb l id pl I0).vp Ed (cS l id pl):=by
 refine⟨λb=>b=decide (¬(eP l=0∧0≤pl∧pl<8)),?_⟩;dsimp only[Eb,Ec,Ax.vp,Ax.vc];simp only[vcU,rfU,u']
 refine⟨⟨λc=>?_,λc=>⟨λd=>?_,λd=>?_⟩⟩,?_⟩
 ·have c:eP l≠0:=by simpa using c
  rw[eq_comm,R'];exact λh=>c h.1
 ·rw[eq_comm,R'];omega
 ·have c:eP l=0:=by simpa using c
  rw[decide_eq_decide];omega
 ·rintro _ rfl;unfold cS;refine⟨λc=>by rw[E' (G' c)],λc=>?_⟩;have c:=bf'.mp (S' c);exact⟨c.1,c.2,by rw[F' c]⟩
def pP(l:List Tbl)(id:Int)(plane:Int):PC Tryz.prog:=pcO 22 [(.s 4),.k,.k] [.sl 4 (l.map Tbl.v) false,.int id,.int plane] (.s 1) Ed (cS l id plane) (λ_=>let ⟨I0,h⟩:=Pf l id plane;⟨_,h,by kernel_rfl⟩) rfl (by kernel_rfl)
def N9:AC:=.reg [⟨(some 72),.faddr 0 (.t 16),none⟩,⟨(some 73),.load false 1 (.t 72),none⟩,⟨(some 74),.faddr 0 (.t 8),none⟩,⟨(some 75),.load false 1 (.t 74),none⟩,⟨(some 76),.bin .neq (.t 73) (.t 75),none⟩,⟨(some 77),.move (.t 76),none⟩,⟨(some 78),.move (.t 6),(some (77,true))⟩,⟨(some 79),.faddr 0 (.t 16),(some (77,true))⟩,⟨(some 80),.load false 1 (.t 79),(some (77,true))⟩,⟨(some 81),.faddr 0 (.t 12),(some (77,true))⟩,⟨(some 82),.load false 1 (.t 81),(some (77,true))⟩,⟨(some 83),.faddr 0 (.t 16),(some (77,true))⟩,⟨(some 84),.load false 1 (.t 83),(some (77,true))⟩,⟨(some 85),.faddr 1 (.t 16),(some (77,true))⟩,⟨(some 86),.load false 1 (.t 85),(some (77,true))⟩,⟨(some 87),.build [(.val (.int .i64 0)),(.val (.int .i64 0))] [(0,1,(.t 84)),(1,1,(.t 86))],(some (77,true))⟩,⟨(some 88),.faddr 2 (.t 16),(some (77,true))⟩,⟨(some 89),.load false 1 (.t 88),(some (77,true))⟩,⟨(some 90),.call (.c (.func 139 [])) [(.t 78),(.t 80),(.t 82),(.t 87),(.t 89)],(some (77,true))⟩,⟨(some 91),.pick (.t 77) (.t 90) (.c (.val (.bool false))),none⟩,⟨(some 17),.move (.t 91),none⟩]
def Hk:AC:=.reg [⟨(some 92),.move (.t 17),none⟩,⟨(some 93),.move (.t 92),none⟩,⟨(some 94),.move (.t 6),(some (93,true))⟩,⟨(some 95),.faddr 0 (.t 16),(some (93,true))⟩,⟨(some 96),.load false 1 (.t 95),(some (93,true))⟩,⟨(some 97),.faddr 0 (.t 12),(some (93,true))⟩,⟨(some 98),.load false 1 (.t 97),(some (93,true))⟩,⟨(some 99),.load true 2 (.t 8),(some (93,true))⟩,⟨(some 100),.move (.t 9),(some (93,true))⟩,⟨(some 101),.call (.c (.func 139 [])) [(.t 94),(.t 96),(.t 98),(.t 99),(.t 100)],(some (93,true))⟩,⟨(some 102),.pick (.t 93) (.t 101) (.c (.val (.bool false))),none⟩,⟨(some 103),.move (.t 102),none⟩,⟨(some 104),.move (.t 6),(some (103,true))⟩,⟨(some 105),.faddr 1 (.t 16),(some (103,true))⟩,⟨(some 106),.load false 1 (.t 105),(some (103,true))⟩,⟨(some 107),.faddr 0 (.t 12),(some (103,true))⟩,⟨(some 108),.load false 1 (.t 107),(some (103,true))⟩,⟨(some 109),.load true 2 (.t 8),(some (103,true))⟩,⟨(some 110),.move (.t 9),(some (103,true))⟩,⟨(some 111),.call (.c (.func 139 [])) [(.t 104),(.t 106),(.t 108),(.t 109),(.t 110)],(some (103,true))⟩,⟨(some 112),.pick (.t 103) (.t 111) (.c (.val (.bool false))),none⟩,⟨(some 113),.move (.t 112),none⟩,⟨(some 114),.move (.t 5),(some (113,true))⟩,⟨(some 115),.faddr 0 (.t 16),(some (113,true))⟩,⟨(some 116),.load false 1 (.t 115),(some (113,true))⟩,⟨(some 117),.mget none ((.sl 0 [] true)) false (.t 114) (.t 116),(some (113,true))⟩,⟨(some 118),.faddr 1 (.t 16),(some (113,true))⟩,⟨(some 119),.load false 1 (.t 118),(some (113,true))⟩,⟨(some 120),.call (.c (.func 49 [])) [(.t 117),(.t 119)],(some (113,true))⟩,⟨(some 121),.un .not (.t 120),(some (113,true))⟩,⟨(some 122),.pick (.t 113) (.t 121) (.c (.val (.bool false))),none⟩]
def zN:AC:=.dreg [⟨(some 123),.move (.t 5),none⟩,⟨(some 124),.faddr 0 (.t 16),none⟩,⟨(some 125),.load false 1 (.t 124),none⟩,⟨(some 126),.move (.t 5),none⟩,⟨(some 127),.faddr 0 (.t 16),none⟩,⟨(some 128),.load false 1 (.t 127),none⟩,⟨(some 129),.mget none ((.sl 0 [] true)) false (.t 126) (.t 128),none⟩,⟨(some 130),.faddr 1 (.t 16),none⟩,⟨(some 131),.load false 1 (.t 130),none⟩,⟨(some 132),.lit 1 1 (.val (.int .i64 0)) [(0,(.t 131))],none⟩,⟨(some 133),.append 1 8 (.t 129) (.t 132),none⟩,⟨none,.mset none (.t 123) (.t 125) (.t 133),none⟩] [(2,5),(2,6),(2,8),(5,8),(6,8),(2,9),(5,9),(6,9),(2,10)]
def Hj:AC:=.seq N9 (.seq Hk (.cond (.t 122) zN .skip))
abbrev Qa(t:Tpl):AV:=.mp (some 2) ((dm t).map λp=>o6 p.1) ((dm t).map λp=>AV.int p.2)
structure BeB (t:Tpl) (ds:List Hop) (s:S3) (M:Rws):Prop where
  nx:112≤s.nx
  t1:s.tm 1=.sl 2 (ds.map Hop.v) false
  t2:s.tm 2=.ref 0 0
  h0:s.hp 0=some (.box (Tpl.v t))
  t5:s.tm 5=.mref 32
  t6:s.tm 6=Qa t
  fam:∃ns,Fam s.hp s.nx 32 ns M
structure Kp (R:Nat→Prop) (s s':S3):Prop where
  nx:s.nx≤s'.nx
  tm:∀r,R r→s'.tm r=s.tm r
  hp:∀b x,b<s.nx→s.hp b=some (.box x)→s'.hp b=some (.box x)
def beQ(t:Tpl)(h:Hop)(c d x y w:Int)(M:Rws):Bool:=(x != h.a) && (lZ (dm t) x d ⟨x,y⟩ w && (lZ (dm t) x d h c && (lZ (dm t) y d h c && !(decide (y∈av M x [])))))
def beI(t:Tpl)(h:Hop)(c d:Int)(M:Rws)(s:Int×Int×Int):Rws:=if beQ t h c d s.1 s.2.1 s.2.2 M=true then pu M s.1 s.2.1 else M
def beR(r:Nat):Prop:=r<17∨17<r∧r<72
theorem Hi(t:Tpl)(ds:List Hop)(h:Hop)(c d x y w:Int)(fl:AV)(s:S3)(M:Rws)(bh bd bs:Nat)(hB:BeB t ds s M)(g8:s.tm 8=.ref bh 0)(g9:s.tm 9=.int c)(g12:s.tm 12=.ref bd 0)(g16:s.tm 16=.ref bs 0)
  (hh:s.hp bh=some (.box (.agg [.int h.a,.int h.b]))) (hd:s.hp bd=some (.box (.agg [.int d,fl]))) (hs:s.hp bs=some (.box (.agg [.int x,.int y,.int w]))) (hbs:bs<s.nx) (hl:(av M x []).length≤1000000) (k:Nat) (Q:X→S3→Prop)
  (hQ:∀s',Kp beR s s'→BeB t ds s' (beI t h c d M (x,y,w))→Q .normal s'):AWP Tryz.prog 0 k Hj Q s:=by
 obtain⟨tm,hp,nx⟩:=s;obtain⟨n1,t1,t2,h0,t5,t6,ns,hF⟩:=hB;simp only at n1 t1 t2 h0 t5 t6 hF g8 g9 g12 g16 hh hd hs hbs;unfold Hj N9 Hk zN;have hR:∀{r:Nat} {tm':Nat→AV},(∀r,beR r→tm' r=tm r)→beR r→tm' r=tm r:=λh1 h2=>h1 _ h2;refine AWP.seq' ?_
 suffices HB:∀tm' nx',nx≤nx'→(∀r,beR r→tm' r=tm r)→tm' 17=.bool ((x != h.a) && lZ (dm t) x d ⟨x,y⟩ w)→AWP Tryz.prog 0 k (.seq Hk (.cond (.t 122) zN .skip)) Q ⟨tm',hp,nx'⟩ by
  cases e1:(x != h.a)with
  | false =>
   rw[e1]at HB;refine AWP.reg' λK hK=>?_
   try simp only[ag,seval,g16,g8,hs,hh,e1]
   refine hK _ _ _ ?_;clear hK K;exact HB _ _ (by omega) (λr hr=>by unfold beR at hr;simp only[aj];repeat rw[E' (by omega)]) rfl
  | true =>
   rw[e1]at HB;refine AWP.reg' λK hK=>?_
   try simp only[ag,seval,g16,g8,hs,hh,e1,g12,hd,t6]
   refine cI ((c9 (dm t) x d ⟨x,y⟩ w).ok) (c9 (dm t) x d ⟨x,y⟩ w).fn rfl (by rfl) (by repeat' (first|exact trivial|assumption|refine B' ?_ ?_)) ?_
   try simp only[ag,seval]
   refine hK _ _ _ ?_;clear hK K;exact HB _ _ (by omega) (λr hr=>by unfold beR at hr;simp only[aj];repeat rw[E' (by omega)]) rfl
 clear hR;intro tm1 nx1 hnx1 hR1 h17;have g6':tm1 6=Qa t:=(hR1 6 (.inl (by omega))).trans t6;have g8':tm1 8=.ref bh 0:=(hR1 8 (.inl (by omega))).trans g8;have g9':tm1 9=.int c:=(hR1 9 (.inl (by omega))).trans g9;have g12':tm1 12=.ref bd 0:=(hR1 12 (.inl (by omega))).trans g12;have g16':tm1 16=.ref bs 0:=(hR1 16 (.inl (by omega))).trans g16;have g5':tm1 5=.mref 32:=(hR1 5 (.inl (by omega))).trans t5;refine AWP.seq' ?_
 suffices HC:∀tm' nx',nx≤nx'→(∀r,beR r→tm' r=tm r)→tm' 122=.bool (beQ t h c d x y w M)→AWP Tryz.prog 0 k (.cond (.t 122) zN .skip) Q ⟨tm',hp,nx'⟩ by
  have fin:∀{tm':Nat→AV},(∀r,beR r→tm' r=tm1 r)→∀r,beR r→tm' r=tm r:=λh r hr=>(h r hr).trans (hR1 r hr);unfold beQ at HC;cases e1:((x != h.a) && lZ (dm t) x d ⟨x,y⟩ w)with
  | false =>
   rw[e1]at h17;rw[←Bool.and_assoc,e1,Bool.false_and]at HC;refine AWP.reg' λK hK=>?_
   try simp only[ag,seval,h17]
   refine hK _ _ _ ?_;clear hK K;exact HC _ _ (by omega) (fin λr hr=>by unfold beR at hr;simp only[aj];repeat rw[E' (by omega)]) rfl
  | true =>
   rw[e1]at h17;rw[←Bool.and_assoc,e1,Bool.true_and]at HC;cases e2:lZ (dm t) x d h c with
   | false =>
    have p2:bT Tryz.prog (c9 (dm t) x d h c).f (c9 (dm t) x d h c).args (.bool false):=by rw[←e2];exact(c9 (dm t) x d h c).ok
    rw[e2,Bool.false_and]at HC;refine AWP.reg' λK hK=>?_
    try simp only[ag,seval,h17,g6',g16',hs,g12',hd,g8',hh,g9']
    refine cI (p2) (c9 (dm t) x d h c).fn rfl (by rfl) (by repeat' (first|exact trivial|assumption|refine B' ?_ ?_)) ?_
    try simp only[ag,seval]
    refine hK _ _ _ ?_;clear hK K;exact HC _ _ (by omega) (fin λr hr=>by unfold beR at hr;simp only[aj];repeat rw[E' (by omega)]) rfl
   | true =>
    have p2:bT Tryz.prog (c9 (dm t) x d h c).f (c9 (dm t) x d h c).args (.bool true):=by rw[←e2];exact(c9 (dm t) x d h c).ok
    rw[e2,Bool.true_and]at HC;cases e3:lZ (dm t) y d h c with
    | false =>
     have p3:bT Tryz.prog (c9 (dm t) y d h c).f (c9 (dm t) y d h c).args (.bool false):=by rw[←e3];exact(c9 (dm t) y d h c).ok
     rw[e3,Bool.false_and]at HC;refine AWP.reg' λK hK=>?_
     try simp only[ag,seval,h17,g6',g16',hs,g12',hd,g8',hh,g9']
     refine cI (p2) (c9 (dm t) x d h c).fn rfl (by rfl) (by repeat' (first|exact trivial|assumption|refine B' ?_ ?_)) ?_
     try simp only[ag,seval,g6',g16',hs,g12',hd,g8',hh,g9']
     refine cI (p3) (c9 (dm t) y d h c).fn rfl (by rfl) (by repeat' (first|exact trivial|assumption|refine B' ?_ ?_)) ?_
     try simp only[ag,seval]
     refine hK _ _ _ ?_;clear hK K;exact HC _ _ (by omega) (fin λr hr=>by unfold beR at hr;simp only[aj];repeat rw[E' (by omega)]) rfl
    | true =>
     have p3:bT Tryz.prog (c9 (dm t) y d h c).f (c9 (dm t) y d h c).args (.bool true):=by rw[←e3];exact(c9 (dm t) y d h c).ok
     rw[e3,Bool.true_and]at HC;cases e4:aT M x with
     | false =>
      have q1:=λz v kk=>(hF.no e4 z v kk).1;rw[cd e4]at HC;refine AWP.reg' λK hK=>?_
      try simp only[ag,seval,h17,g6',g16',hs,g12',hd,g8',hh,g9']
      refine cI (p2) (c9 (dm t) x d h c).fn rfl (by rfl) (by repeat' (first|exact trivial|assumption|refine B' ?_ ?_)) ?_
      try simp only[ag,seval,g6',g16',hs,g12',hd,g8',hh,g9']
      refine cI (p3) (c9 (dm t) y d h c).fn rfl (by rfl) (by repeat' (first|exact trivial|assumption|refine B' ?_ ?_)) ?_
      try simp only[ag,seval,g5',g16',hs,hF.hm,bj,dI,AV.key,MK.fits,q1 _ .unk none,and_self,true_and]
      have p4:bT Tryz.prog (eU [] y).f [.sl 0 [] true,.int y] (.bool false):=bT.sub (show bT _ _ [.sl 1 [] false,.int y] (.bool false)from(eU [] y).ok) ⟨Sub.nil,Sub.refl,trivial⟩ Sub.refl;refine cI (p4) (eU [] y).fn rfl (by rfl) (by repeat' (first|exact trivial|assumption|refine B' ?_ ?_)) ?_
      try simp only[ag,seval]
      refine hK _ _ _ ?_;clear hK K;exact HC _ _ (by omega) (fin λr hr=>by unfold beR at hr;simp only[aj];repeat rw[E' (by omega)]) rfl
     | true =>
      obtain⟨i0,b0,y1,y2,y3,y4,y5,y6⟩:=hF.yes e4;refine AWP.reg' λK hK=>?_
      try simp only[ag,seval,h17,g6',g16',hs,g12',hd,g8',hh,g9']
      refine cI (p2) (c9 (dm t) x d h c).fn rfl (by rfl) (by repeat' (first|exact trivial|assumption|refine B' ?_ ?_)) ?_
      try simp only[ag,seval,g6',g16',hs,g12',hd,g8',hh,g9']
      refine cI (p3) (c9 (dm t) y d h c).fn rfl (by rfl) (by repeat' (first|exact trivial|assumption|refine B' ?_ ?_)) ?_
      try simp only[ag,seval,g5',g16',hs,hF.hm,bj,dI,AV.key,MK.fits,y5,and_self,true_and]
      refine sW [b0] (show bT Tryz.prog (eU (av M x []) y).f [.sl 1 ((av M x []).map AV.int) false,.int y] (.bool (decide (y∈av M x [])))from(eU (av M x []) y).ok) (eU (av M x []) y).fn rfl rfl ⟨dE.vec (by simp) y4 (au (ae (λ_=>rfl) _)),dE.pure trivial,trivial⟩ trivial ?_
      try simp only[ag,seval]
      refine hK _ _ _ ?_;clear hK K;exact HC _ _ (by omega) (fin λr hr=>by unfold beR at hr;simp only[aj];repeat rw[E' (by omega)]) rfl
 clear hR1 h17 g6' g8' g9' g12' g16' g5' hnx1 tm1 nx1;intro tm1 nx1 hnx1 hR1 h122;have g16':tm1 16=.ref bs 0:=(hR1 16 (.inl (by omega))).trans g16;have g5':tm1 5=.mref 32:=(hR1 5 (.inl (by omega))).trans t5
 have hB0:∀(tm':Nat→AV) (hp':Hp) (nx':Nat) (M':Rws),112≤nx'→(∀r,beR r→tm' r=tm r)→hp' 0=hp 0→(∃ns,Fam hp' nx' 32 ns M')→BeB t ds ⟨tm',hp',nx'⟩ M':=λtm' hp' nx' M' hn hr h0' hf =>
  ⟨hn,(hr 1 (.inl (by omega))).trans t1,(hr 2 (.inl (by omega))).trans t2,h0'.trans h0,(hr 5 (.inl (by omega))).trans t5,(hr 6 (.inl (by omega))).trans t6,hf⟩
 refine AWP.cond (b:=beQ t h c d x y w M) h122 (λhq=>?_) (λhq=>?_)
 case refine_2 =>
  refine AWP.skip (hQ _ ⟨hnx1,λr hr=>hR1 r hr,λb z hb hz=>hz⟩ ?_);unfold beI;rw[E' (by simp[hq])];exact hB0 _ _ _ _ (by omega) hR1 rfl ⟨ns,hF.keep (λ_ _ _=>rfl) hnx1⟩
 have hI:beI t h c d M (x,y,w)=pu M x y:=by unfold beI;rw[F' hq]
 rw[hI]at hQ;obtain⟨f32a,f32b,f32c,f32d⟩:=nxF (show 32<nx1 by omega);obtain⟨fsa,fsb,fsc,fsd⟩:=nxF (show bs<nx1 by omega);have hml:=aU;have hbs32:(bs=32)=False:=by simp;rintro rfl;rw[hF.hm]at hs;cases hs
 have hbs32':(32=bs)=False:=by simp;rintro rfl;rw[hF.hm]at hs;cases hs
 cases e4:aT M x with
 | false =>
  have q1:=λz v kk=>(hF.no e4 z v kk).1;have q2:=λz v kk=>(hF.no e4 z v kk).2;refine AWP.dreg' λK hK=>?_
  try simp only[ag,seval,g5',g16',hs,hF.hm,bj,bJ,dI,AV.key,MK.fits,q1 _ .unk none,and_self,true_and]
  refine c7 ?_
  try simp only[ag,seval,g5',g16',hs,hF.hm,bj,bJ,dI,AV.key,MK.fits,and_self,true_and,aS,dj,f32a,f32b,f32c,f32d,aG']
  refine⟨by decide,?_⟩
  refine⟨?_,hK _ _ _ (hQ _ ⟨by dsimp only;omega,λr hr=>?_,λb z hb hz=>?_⟩ (hB0 _ _ _ _ (by omega) (λr hr=>?_) ?_ ⟨ns++[nx1+160],hF.put_no e4 (f:=nx1+160) (by omega) (by omega) ?_ ?_ λb hb hne=>?_⟩))⟩
  ·simp[eG,jg,bi,AOp.opers,aL,evO,aj,fsa,fsb,f32a,f32b,hbs32,hbs32']
  ·have hr':=hr;unfold beR at hr';simp only[aj];repeat rw[E' (by omega)]
   exact hR1 r hr
  ·have hb1:b<nx:=hb;have hz1:hp b=some (.box z):=hz;have e32:b≠32:=λc=>by subst c;rw[hF.hm]at hz1;cases hz1
   simp only[aj,E' e32];rw[E' (by omega)];exact hz1
  ·have hr':=hr;unfold beR at hr';simp only[aj];repeat rw[E' (by omega)]
   exact hR1 r hr
  ·simp only[aj];rw[E' (by omega),E' (by omega),E' (by omega)]
  ·simp only[aj,↓reduceIte];exact congrArg some (q2 (.sl 0 [] true) _ none)
  ·simp only[aj,f32b,↓reduceIte]
  ·simp only[aj,E' hne];rw[E' (by omega)]
 | true =>
  obtain⟨i0,b0,y1,y2,y3,y4,y5,y6⟩:=hF.yes e4;have hb0:=hF.lt b0 (J' y1);obtain⟨b0a,b0b,_,_⟩:=nxF (show b0<nx1 by omega);have hb32:(32=b0)=False:=by simp;rintro rfl;exact hF.bm_no (J' y1)
  have hb32':(b0=32)=False:=by simp;rintro rfl;exact hF.bm_no (J' y1)
  have hbs0:(bs=b0)=False:=by simp;rintro rfl;rw[hs]at y4;cases y4
  have hbs0':(b0=bs)=False:=by simp;rintro rfl;rw[hs]at y4;cases y4
  refine AWP.dreg' λK hK=>?_
  try simp only[ag,seval,g5',g16',hs,hF.hm,bj,bJ,dI,AV.key,MK.fits,y5,and_self,true_and]
  refine c7 ?_
  try simp only[ag,seval,g5',g16',hs,hF.hm,bj,bJ,dI,AV.key,MK.fits,and_self,true_and,aS,dj,y4,f32a,f32b,f32c,f32d,hb32,hb32',aG',u']
  refine⟨⟨by omega,by omega⟩,?_⟩
  refine⟨?_,hK _ _ _ (hQ _ ⟨by dsimp only;omega,λr hr=>?_,λb z hb hz=>?_⟩ (hB0 _ _ _ _ (by omega) (λr hr=>?_) ?_ ⟨ns.set i0 (nx1+160),hF.put_yes e4 y1 y2 y3 (f:=nx1+160) (by omega) (by omega) ?_ ?_ λb hb hne hnb=>?_⟩))⟩
  ·simp[eG,jg,bi,AOp.opers,aL,evO,aj,fsa,fsb,f32a,f32b,hbs32,hbs32',hbs0,hbs0',hb32,hb32']
  ·have hr':=hr;unfold beR at hr';simp only[aj];repeat rw[E' (by omega)]
   exact hR1 r hr
  ·have hb1:b<nx:=hb;have hz1:hp b=some (.box z):=hz;have e32:b≠32:=λc=>by subst c;rw[hF.hm]at hz1;cases hz1
   have eb0:b≠b0:=λc=>by subst c;rw[y4]at hz1;cases hz1
   simp only[aj,E' e32,E' eb0];rw[E' (by omega)];exact hz1
  ·have hr':=hr;unfold beR at hr';simp only[aj];repeat rw[E' (by omega)]
   exact hR1 r hr
  ·have hb00:(0=b0)=False:=by simp;rintro rfl;rw[h0]at y4;cases y4
   simp only[aj,hb00];rw[E' (by omega),E' (by omega),E' (by omega)];rfl
  ·simp only[aj,↓reduceIte];exact congrArg some (y6 none _)
  ·simp only[aj,f32b,↓reduceIte]
  ·simp only[aj,E' hne,E' hnb];rw[E' (by omega)]
def Hm:AC:=.seq (.reg [⟨(some 52),.faddr 0 (.t 14),none⟩,⟨(some 53),.load false 1 (.t 52),none⟩,⟨(some 54),.faddr 1 (.t 14),none⟩,⟨(some 55),.load false 1 (.t 54),none⟩,⟨(some 56),.faddr 2 (.t 14),none⟩,⟨(some 57),.load false 1 (.t 56),none⟩,⟨(some 58),.build [(.val (.int .i64 0)),(.val (.int .i64 0)),(.val (.int .i64 0))] [(0,1,(.t 53)),(1,1,(.t 55)),(2,1,(.t 57))],none⟩,⟨(some 59),.faddr 1 (.t 14),none⟩,⟨(some 60),.load false 1 (.t 59),none⟩,⟨(some 61),.faddr 0 (.t 14),none⟩,⟨(some 62),.load false 1 (.t 61),none⟩,⟨(some 63),.faddr 3 (.t 14),none⟩,⟨(some 64),.load false 1 (.t 63),none⟩,⟨(some 65),.build [(.val (.int .i64 0)),(.val (.int .i64 0)),(.val (.int .i64 0))] [(0,1,(.t 60)),(1,1,(.t 62)),(2,1,(.t 64))],none⟩,⟨(some 66),.lit 3 2 (.agg [(.val (.int .i64 0)),(.val (.int .i64 0)),(.val (.int .i64 0))]) [(0,(.t 58)),(1,(.t 65))],none⟩,⟨(some 67),.len (.t 66),none⟩,⟨(some 68),.move (.c (.val (.int .i64 0))),none⟩])
 (.block 6 (.loop (.seq (.reg [⟨(some 69),.bin .lss (.t 68) (.t 67),none⟩])
 (.seq (.cond (.t 69) (.skip) (.exit 6))
 (.seq (.block 7 (.seq (.reg [⟨(some 70),.iaddr 3 (.t 66) (.t 68),none⟩,⟨(some 71),.load true 3 (.t 70),none⟩,⟨(some 16),.box (.c (.agg [(.val (.int .i64 0)),(.val (.int .i64 0)),(.val (.int .i64 0))])),none⟩,⟨none,.store 3 (.t 16) (.t 71),none⟩])
 Hj))
 (.reg [⟨(some 134),.bin .add (.t 68) (.c (.val (.int .i64 1))),none⟩,⟨(some 68),.move (.t 134),none⟩]))))))
def Ho:AC:=.seq (.reg [⟨(some 45),.faddr 1 (.t 2),none⟩,⟨(some 46),.load false 1 (.t 45),none⟩,⟨(some 47),.len (.t 46),none⟩,⟨(some 48),.move (.c (.val (.int .i64 0))),none⟩])
 (.block 4 (.loop (.seq (.reg [⟨(some 49),.bin .lss (.t 48) (.t 47),none⟩])
 (.seq (.cond (.t 49) (.skip) (.exit 4))
 (.seq (.block 5 (.seq (.reg [⟨(some 50),.iaddr 5 (.t 46) (.t 48),none⟩,⟨(some 51),.load true 5 (.t 50),none⟩,⟨(some 14),.box (.c (.agg [(.val (.int .i64 0)),(.val (.int .i64 0)),(.val (.int .i64 0)),(.val (.int .i64 0)),(.val (.int .i64 0))])),none⟩,⟨none,.store 5 (.t 14) (.t 51),none⟩])
 Hm))
 (.reg [⟨(some 135),.bin .add (.t 48) (.c (.val (.int .i64 1))),none⟩,⟨(some 48),.move (.t 135),none⟩]))))))
def Hr:AC:=.seq (.reg [⟨(some 38),.faddr 0 (.t 2),none⟩,⟨(some 39),.load false 1 (.t 38),none⟩,⟨(some 40),.len (.t 39),none⟩,⟨(some 41),.move (.c (.val (.int .i64 0))),none⟩])
 (.block 2 (.loop (.seq (.reg [⟨(some 42),.bin .lss (.t 41) (.t 40),none⟩])
 (.seq (.cond (.t 42) (.skip) (.exit 2))
 (.seq (.block 3 (.seq (.reg [⟨(some 43),.iaddr 2 (.t 39) (.t 41),none⟩,⟨(some 44),.load true 2 (.t 43),none⟩,⟨(some 12),.box (.c (.agg [(.val (.int .i64 0)),(.val (.bool false))])),none⟩,⟨none,.store 2 (.t 12) (.t 44),none⟩])
 Ho))
 (.reg [⟨(some 136),.bin .add (.t 41) (.c (.val (.int .i64 1))),none⟩,⟨(some 41),.move (.t 136),none⟩]))))))
def lst(l:Lnk):List (Int×Int×Int):=[(l.a,l.b,l.ca),(l.b,l.a,l.cb)]
def be2(t:Tpl)(h:Hop)(c d:Int)(M:Rws)(l:Lnk):Rws:=(lst l).foldl (beI t h c d) M
def be3(t:Tpl)(h:Hop)(c:Int)(M:Rws)(d:Rtr):Rws:=t.ls.foldl (be2 t h c d.id) M
structure gr (t:Tpl) (M:Rws):Prop where
  nd:∀p∈M,p.2.Nodup
  el:∀p∈M,∀y∈p.2,aJ t y=true
  ky:∀p∈M,aJ t p.1=true
theorem sM{t:Tpl}{y:Int}:aJ t y=true↔y∈t.rs.map (·.id):=by
 unfold aJ;rw[aj',aa']
 constructor
 ·rintro⟨r,hr,e⟩;exact⟨r,hr,eq_of_beq e⟩
 ·rintro⟨r,hr,rfl⟩;exact⟨r,hr,beq_self_eq_true _⟩
theorem gr.pu{t:Tpl}{M:Rws}(h:gr t M){x y:Int}(hx:aJ t x=true)(hy:aJ t y=true)(hn:y ∉ av M x []):gr t (pu M x y):=by
 have hv:(av M x []).Nodup∧∀z∈av M x [],aJ t z=true:=by
  cases e:aT M x with
  | false=>rw[cd e];exact⟨aW',λz hz=>by simp at hz⟩
  | true=>exact⟨h.nd _ (bF e),h.el _ (bF e)⟩
 have key:∀p∈Go.Proofs.YtiobpjoadkfhdaaGreat.pu M x y,p∈M∨p=(x,av M x []++[y]):=λp hp=>by
  unfold Go.Proofs.YtiobpjoadkfhdaaGreat.pu at hp;cases e:aT M x with
  | false =>
   rw[pM e]at hp
   rcases ab'.mp hp with hp|hp
   ·exact .inl hp
   ·exact .inr (L'.mp hp)
  | true=>rw[nj e]at hp;exact ap' hp
 refine⟨λp hp=>?_,λp hp z hz=>?_,λp hp=>?_⟩
 ·rcases key p hp with hp|rfl
  ·exact h.nd p hp
  ·exact bg'.mpr ⟨hv.1,by simp,λa ha b hb=>by rw[L'.mp hb];rintro rfl;exact hn ha⟩
 ·rcases key p hp with hp|rfl
  ·exact h.el p hp z hz
  ·rcases ab'.mp hz with hz|hz
   ·exact hv.2 z hz
   ·rw[L'.mp hz];exact hy
 ·rcases key p hp with hp|rfl
  ·exact h.ky p hp
  ·exact hx
theorem gr.len{t:Tpl}{M:Rws}(h:gr t M)(hc:aC t=0):∀p∈M,p.2.length≤24:=λp hp=>by
 have:=List.Nodup.length_le_of_subset (h.nd p hp) (show p.2 ⊆ t.rs.map (·.id)from λy hy=>sM.mp (h.el p hp y hy));rw[u']at this;have:=(cJ hc).1;omega
theorem gr.val{t:Tpl}{M:Rws}(h:gr t M)(hc:aC t=0)(x:Int):(av M x []).length≤24:=by
 cases e:aT M x with
 | false=>rw[cd e];simp
 | true=>exact h.len hc _ (bF e)
theorem gr.beI{t:Tpl}{M:Rws}(h:gr t M){hp:Hop}{c d:Int}{s:Int×Int×Int}(hx:aJ t s.1=true)(hy:aJ t s.2.1=true):gr t (beI t hp c d M s):=by
 unfold Go.Proofs.YtiobpjoadkfhdaaGreat.beI
 split
 ·rename_i e;refine h.pu hx hy ?_;unfold beQ at e;simp only[ae',bq',decide_eq_false_iff_not]at e;exact e.2.2.2.2
 ·exact h
theorem BeB.keep{t:Tpl}{ds:List Hop}{s s':S3}{M:Rws}(h:BeB t ds s M)(hn:s.nx≤s'.nx)(ht:∀r,r<7→s'.tm r=s.tm r)(hh:∀b,b<s.nx→s'.hp b=s.hp b):BeB t ds s' M:=by
 obtain⟨n1,t1,t2,h0,t5,t6,ns,hF⟩:=h;exact⟨by omega,(ht 1 (by omega)).trans t1,(ht 2 (by omega)).trans t2,(hh 0 (by omega)).trans h0,(ht 5 (by omega)).trans t5,(ht 6 (by omega)).trans t6,ns,hF.keep (λb hb _=>hh b hb) hn⟩
theorem eM{α β:Type}(f:β→α→β)(b:β){l:List α}{k:Nat}{x:α}(h:l[k]?=some x):(l.take (k+1)).foldl f b=f ((l.take k).foldl f b) x:=by rw[aB h,be'];rfl
def r4(r:Nat):Prop:=r<16∨18≤r∧r<52
def r3(r:Nat):Prop:=r<14∨18≤r∧r<45
def r2(r:Nat):Prop:=r<12∨18≤r∧r<38
theorem Hl(t:Tpl)(hc:aC t=0)(ds:List Hop)(h:Hop)(c d:Int)(fl:AV)(l:Lnk)(hlm:l∈t.ls)(s:S3)(M:Rws)(hI:gr t M)(bh bd bl:Nat)(hB:BeB t ds s M)(g8:s.tm 8=.ref bh 0)(g9:s.tm 9=.int c)(g12:s.tm 12=.ref bd 0)(g14:s.tm 14=.ref bl 0)
  (hh:s.hp bh=some (.box (.agg [.int h.a,.int h.b]))) (hd:s.hp bd=some (.box (.agg [.int d,fl]))) (hl:s.hp bl=some (.box (Lnk.v l))) (b1:bh<s.nx) (b2:bd<s.nx) (b3:bl<s.nx) (k:Nat) (Q:X→S3→Prop)
  (hQ:∀s',Kp r4 s s'→BeB t ds s' (be2 t h c d M l)→gr t (be2 t h c d M l)→Q .normal s'):AWP Tryz.prog 0 k Hm Q s:=by
 obtain⟨hla,hlb⟩:=(ax hc).has l hlm;have hmem:∀z∈lst l,aJ t z.1=true∧aJ t z.2.1=true:=λz hz=>by
  unfold lst at hz;simp only[ah',aB',or_false]at hz
  rcases hz with rfl|rfl
  ·exact⟨hla,hlb⟩
  ·exact⟨hlb,hla⟩
 obtain⟨tm,hp,nx⟩:=s;simp only at g8 g9 g12 g14 hh hd hl b1 b2 b3;unfold Hm;refine AWP.seq' ?_;refine AWP.reg' λK hK=>?_
 try simp only[ag,seval,g14,hl,Lnk.v]
 refine fF ?_
 try simp only[ag,seval,g14,hl,Lnk.v]
 refine hK _ _ _ ?_;clear hK K;refine AWP.block ?_
 refine AWP.loopS (λu:S3×Nat=>u.1) (λu=>(u.2≤2∧gr t (((lst l).take u.2).foldl (beI t h c d) M))∧Kp r4 ⟨tm,hp,nx⟩ u.1∧BeB t ds u.1 (((lst l).take u.2).foldl (beI t h c d) M) ∧
  u.1.tm 66=.sl 3 ((lst l).map λz=>AV.agg [.int z.1,.int z.2.1,.int z.2.2]) true∧u.1.tm 67=.int 2∧u.1.tm 68=.int (u.2:Nat)) (λu=>2-u.2) (i0:=(_,0)) ?_ ao.refl ?_
 ·refine⟨⟨am' _,hI⟩,⟨by dsimp only;omega,λr hr=>?_,λb x _ hx=>hx⟩,hB.keep (by dsimp only;omega) (λr hr=>?_) (λ_ _=>rfl),rfl,rfl,rfl⟩
  ·unfold r4 at hr;simp only[aj];repeat rw[E' (by omega)]
  ·simp only[aj];repeat rw[E' (by omega)]
 ·rintro⟨⟨tm1,hp1,nx1⟩,z⟩ ⟨⟨hz,hI1⟩,hK1,hB1,t66,t67,t68⟩;simp only at hz hI1 t66 t67 t68 ⊢;refine AWP.seq' ?_;refine AWP.reg' λK hK=>?_
  try simp only[ag,seval,t67,t68]
  refine hK _ _ _ ?_;clear hK K;refine AWP.seq' ?_
  refine AWP.cond (b:=decide ((z:Int)<2)) rfl (λe=>?_) (λe=>?_)
  ·have e:z<2:=by have:=G' e;omega
   refine AWP.skip ?_;refine AWP.seq' (AWP.block (AWP.seq' ?_));have hzl:z<(lst l).length:=e;have hy:(lst l)[z]?=some (lst l)[z]:=f' hzl;generalize (lst l)[z]=sz at hy;obtain⟨x,y,w⟩:=sz;obtain⟨hx5,hy5⟩:=hmem _ (J' hy);have hge:((lst l).map λz=>AV.agg [.int z.1,.int z.2.1,.int z.2.2]).getD z .unk=.agg [.int x,.int y,.int w]:=by rw[H',I',hy];rfl
   have hll:(lst l).length=2:=rfl;have k8:=(hK1.tm 8 (.inl (by omega))).trans g8;have k9:=(hK1.tm 9 (.inl (by omega))).trans g9;have k12:=(hK1.tm 12 (.inl (by omega))).trans g12;have kh:=hK1.hp _ _ b1 hh;have kd:=hK1.hp _ _ b2 hd;have kn:nx≤nx1:=hK1.nx;simp only at k8 k9 k12 kh kd;refine AWP.reg' λK hK=>?_
   try simp only[ag,seval,t66,t68,hge,hll,Int.toNat_natCast,u']
   refine⟨⟨by omega,by omega⟩,?_⟩;refine hK _ _ _ ?_;clear hK K;have hpl:∀(v1 v2 v3:Option Blk) b,b<nx1→upd (upd (upd hp1 (nx1+16+16+16) v1) (nx1+16+16+16) v2) (nx1+16+16+16) v3 b=hp1 b:=λv1 v2 v3 b hb=>by
    simp only[aj];repeat rw[E' (by omega)]
   refine Hi t ds h c d x y w fl _ (((lst l).take z).foldl (beI t h c d) M) bh bd (nx1+16+16+16) (hB1.keep (by dsimp only;omega) (λr hr=>?_) (λb hb=>hpl _ _ _ b hb)) ?_ ?_ ?_ rfl ?_ ?_ (ak _ _ _) (by dsimp only;omega) (by have:=hI1.val hc x;omega) k _ (λs' hk hb=>?_)
   ·simp only[aj];repeat rw[E' (by omega)]
   ·simp only[aj];exact k8
   ·simp only[aj];exact k9
   ·simp only[aj];exact k12
   ·dsimp only;rw[hpl _ _ _ _ (by omega)];exact kh
   ·dsimp only;rw[hpl _ _ _ _ (by omega)];exact kd
   ·obtain⟨tm2,hp2,nx2⟩:=s';refine(show AWP _ _ _ _ _ _ from ?_);have q66:tm2 66=_:=(hk.tm 66 (.inr ⟨by omega,by omega⟩)).trans t66;have q67:tm2 67=_:=(hk.tm 67 (.inr ⟨by omega,by omega⟩)).trans t67;have q68:tm2 68=_:=(hk.tm 68 (.inr ⟨by omega,by omega⟩)).trans t68;have hw:IntKind.i64.wrap ((z:Int)+1)=((z+1:Nat):Int):=jF (by omega) (by omega);refine AWP.reg' λK hK=>?_
    try simp only[ag,seval,q68,hw]
    refine hK _ _ _ ?_;clear hK K;have hkn:nx1+16+16+16+16+16≤nx2:=hk.nx;have hF1:((lst l).take (z+1)).foldl (beI t h c d) M=beI t h c d (((lst l).take z).foldl (beI t h c d) M) (x,y,w):=eM _ _ hy
    refine⟨(_,z+1),⟨⟨by dsimp only;omega,?_⟩,⟨by dsimp only;omega,λr hr=>?_,λb v hb hv=>?_⟩,?_,?_,?_,?_⟩,by dsimp only;omega,ao.refl⟩
    ·dsimp only;rw[hF1];exact hI1.beI hx5 hy5
    ·have hr':=hr;unfold r4 at hr';have e1:=hk.tm r (by unfold beR;omega);have e2:=hK1.tm r hr;dsimp only at e1 e2 ⊢;simp only[aj]at e1 ⊢;rw[E' (by omega),E' (by omega),e1]
     repeat rw[E' (by omega)]
     exact e2
    ·have e2:=hK1.hp b v hb hv;have hb':b<nx:=hb;refine hk.hp b v (by dsimp only;omega) ?_;dsimp only;rw[hpl _ _ _ _ (by omega)];exact e2
    ·dsimp only;rw[hF1];exact hb.keep (by dsimp only;omega) (λr hr=>by simp only[aj];repeat rw[E' (by omega)]) (λ_ _=>rfl)
    ·simp only[aj];exact q66
    ·simp only[aj];exact q67
    ·simp only[aj];rfl
  ·have e:z=2:=by have:=S' e;omega
   subst e;refine AWP.exit ?_;refine(show Q .normal _ from ?_);have hT:(lst l).take 2=lst l:=rfl;rw[hT]at hI1 hB1
   refine hQ _ ⟨?_,λr hr=>?_,λb x hb hx=>hK1.hp b x hb hx⟩ (hB1.keep (by dsimp only;omega) (λr hr=>?_) (λ_ _=>rfl)) hI1
   ·have:=hK1.nx;dsimp only at this ⊢;omega
   ·have e2:=hK1.tm r hr;unfold r4 at hr;dsimp only at e2 ⊢;simp only[aj];rw[E' (by omega)];exact e2
   ·simp only[aj];rw[E' (by omega)]
theorem Hn(t:Tpl)(hc:aC t=0)(ds:List Hop)(h:Hop)(c:Int)(d:Int)(fl:AV)(s:S3)(M:Rws)(hI:gr t M)(bh bd:Nat)(hB:BeB t ds s M)(g8:s.tm 8=.ref bh 0)(g9:s.tm 9=.int c)(g12:s.tm 12=.ref bd 0)
  (hh:s.hp bh=some (.box (.agg [.int h.a,.int h.b]))) (hd:s.hp bd=some (.box (.agg [.int d,fl]))) (b1:bh<s.nx) (b2:bd<s.nx) (k:Nat) (Q:X→S3→Prop)
  (hQ:∀s',Kp r3 s s'→BeB t ds s' (t.ls.foldl (be2 t h c d) M)→gr t (t.ls.foldl (be2 t h c d) M)→Q .normal s'):AWP Tryz.prog 0 k Ho Q s:=by
 have hnl:=cJ hc;have hml:=aU;obtain⟨tm,hp,nx⟩:=s;simp only at g8 g9 g12 hd hh b1 b2;have q2:=hB.t2;have q0:=hB.h0;simp only at q2 q0;unfold Ho;refine AWP.seq' ?_;refine AWP.reg' λK hK=>?_
 try simp only[ag,seval,q2,q0,Tpl.v,u']
 repeat (refine B' (by omega) ?_)
 refine hK _ _ _ ?_;clear hK K;refine AWP.block ?_
 refine AWP.loopS (λu:S3×Nat=>u.1) (λu=>(u.2≤t.ls.length∧gr t ((t.ls.take u.2).foldl (be2 t h c d) M))∧Kp r3 ⟨tm,hp,nx⟩ u.1∧BeB t ds u.1 ((t.ls.take u.2).foldl (be2 t h c d) M) ∧
  u.1.tm 46=.sl 5 (t.ls.map Lnk.v) false∧u.1.tm 47=.int t.ls.length∧u.1.tm 48=.int (u.2:Nat)) (λu=>t.ls.length-u.2) (i0:=(_,0)) ?_ ao.refl ?_
 ·refine⟨⟨am' _,hI⟩,⟨by dsimp only;omega,λr hr=>?_,λb x _ hx=>hx⟩,hB.keep (by dsimp only;omega) (λr hr=>?_) (λ_ _=>rfl),rfl,rfl,rfl⟩
  ·unfold r3 at hr;simp only[aj];repeat rw[E' (by omega)]
  ·simp only[aj];repeat rw[E' (by omega)]
 ·rintro⟨⟨tm1,hp1,nx1⟩,z⟩ ⟨⟨hz,hI1⟩,hK1,hB1,tL,tN,tI⟩;simp only at hz hI1 tL tN tI ⊢;refine AWP.seq' ?_;refine AWP.reg' λK hK=>?_
  try simp only[ag,seval,tN,tI]
  refine hK _ _ _ ?_;clear hK K;refine AWP.seq' ?_
  refine AWP.cond (b:=decide ((z:Int)<(t.ls.length:Int))) rfl (λe=>?_) (λe=>?_)
  ·have e:z<t.ls.length:=by have:=G' e;omega
   refine AWP.skip ?_;refine AWP.seq' (AWP.block (AWP.seq' ?_));have hy:t.ls[z]?=some t.ls[z]:=f' e;generalize t.ls[z]=x at hy;have hge:(t.ls.map Lnk.v).getD z .unk=Lnk.v x:=by rw[H',I',hy];rfl
   have k8:=(hK1.tm 8 (.inl (by omega))).trans g8;have k9:=(hK1.tm 9 (.inl (by omega))).trans g9;have k12:=(hK1.tm 12 (.inl (by omega))).trans g12;have kh:=hK1.hp _ _ b1 hh;have kd:=hK1.hp _ _ b2 hd;have kn:nx≤nx1:=hK1.nx;simp only at k8 k9 kh k12 kd;refine AWP.reg' λK hK=>?_
   try simp only[ag,seval,tL,tI,hge,Int.toNat_natCast,u',Lnk.v]
   refine⟨⟨by omega,by omega⟩,?_⟩;refine hK _ _ _ ?_;clear hK K;have hpl:∀(v1 v2 v3:Option Blk) b,b<nx1→upd (upd (upd hp1 (nx1+16+16+16) v1) (nx1+16+16+16) v2) (nx1+16+16+16) v3 b=hp1 b:=λv1 v2 v3 b hb=>by
    simp only[aj];repeat rw[E' (by omega)]
   have hBn:BeB t ds ⟨_,_,_⟩ ((t.ls.take z).foldl (be2 t h c d) M):=hB1.keep (s':=⟨upd (upd (upd (upd tm1 49 (AV.bool (decide ((z:Int)<(t.ls.length:Int))))) 50 ((Lnk.v x).rptr 0)) 51 (Lnk.v x)) 14 (.ref (nx1+16+16+16) 0),upd (upd (upd hp1 (nx1+16+16+16) (some (.box (.agg [.int 0,.int 0,.int 0,.int 0,.int 0])))) (nx1+16+16+16) none) (nx1+16+16+16) (some (.box (Lnk.v x))),nx1+16+16+16+16+16⟩) (by dsimp only;omega) (λr hr=>by simp only[aj];repeat rw[E' (by omega)]) (λb hb=>hpl _ _ _ b hb)
   refine Hl t hc ds h c d fl x (J' hy) _ _ hI1 bh bd (nx1+16+16+16) hBn ?_ ?_ ?_ rfl ?_ ?_ (ak _ _ _) ?_ ?_ ?_ k _ (λs' hk hb hi=>?_)
   ·simp only[aj];exact k8
   ·simp only[aj];exact k9
   ·simp only[aj];exact k12
   ·dsimp only;rw[hpl _ _ _ _ (by omega)];exact kh
   ·dsimp only;rw[hpl _ _ _ _ (by omega)];exact kd
   ·dsimp only;omega
   ·dsimp only;omega
   ·dsimp only;omega
   ·obtain⟨tm2,hp2,nx2⟩:=s';refine(show AWP _ _ _ _ _ _ from ?_);have qL:tm2 46=_:=(hk.tm 46 (.inr ⟨by omega,by omega⟩)).trans tL;have qN:tm2 47=_:=(hk.tm 47 (.inr ⟨by omega,by omega⟩)).trans tN;have qI:tm2 48=_:=(hk.tm 48 (.inr ⟨by omega,by omega⟩)).trans tI;have hw:IntKind.i64.wrap ((z:Int)+1)=((z+1:Nat):Int):=jF (by omega) (by omega);refine AWP.reg' λK hK=>?_
    try simp only[ag,seval,qI,hw]
    refine hK _ _ _ ?_;clear hK K;have hkn:nx1+16+16+16+16+16≤nx2:=hk.nx;have hF1:(t.ls.take (z+1)).foldl (be2 t h c d) M=(be2 t h c d) ((t.ls.take z).foldl (be2 t h c d) M) x:=eM _ _ hy
    refine⟨(_,z+1),⟨⟨by dsimp only;omega,?_⟩,⟨by dsimp only;omega,λr hr=>?_,λb v hb' hv=>?_⟩,?_,?_,?_,?_⟩,by dsimp only;omega,ao.refl⟩
    ·dsimp only;rw[hF1];exact hi
    ·have hr':=hr;unfold r3 at hr';have e1:=hk.tm r (by unfold r4;omega);have e2:=hK1.tm r hr;dsimp only at e1 e2 ⊢;simp only[aj]at e1 ⊢;rw[E' (by omega),E' (by omega),e1]
     repeat rw[E' (by omega)]
     exact e2
    ·have e2:=hK1.hp b v hb' hv;have hb':b<nx:=hb';refine hk.hp b v (by dsimp only;omega) ?_;dsimp only;rw[hpl _ _ _ _ (by omega)];exact e2
    ·dsimp only;rw[hF1];exact hb.keep (by dsimp only;omega) (λr hr=>by simp only[aj];repeat rw[E' (by omega)]) (λ_ _=>rfl)
    ·simp only[aj];exact qL
    ·simp only[aj];exact qN
    ·simp only[aj];rfl
  ·have e:z=t.ls.length:=by have:=S' e;omega
   subst e;refine AWP.exit ?_;refine(show Q .normal _ from ?_);rw[List.take_length]at hI1 hB1
   refine hQ _ ⟨?_,λr hr=>?_,λb x hb hx=>hK1.hp b x hb hx⟩ (hB1.keep (by dsimp only;omega) (λr hr=>?_) (λ_ _=>rfl)) hI1
   ·have:=hK1.nx;dsimp only at this ⊢;omega
   ·have e2:=hK1.tm r hr;unfold r3 at hr;dsimp only at e2 ⊢;simp only[aj];rw[E' (by omega)];exact e2
   ·simp only[aj];rw[E' (by omega)]
theorem Hq(t:Tpl)(hc:aC t=0)(ds:List Hop)(h:Hop)(c:Int)  (s:S3) (M:Rws) (hI:gr t M) (bh:Nat) (hB:BeB t ds s M) (g8:s.tm 8=.ref bh 0) (g9:s.tm 9=.int c) 
  (hh:s.hp bh=some (.box (.agg [.int h.a,.int h.b])))  (b1:bh<s.nx) (k:Nat) (Q:X→S3→Prop)
  (hQ:∀s',Kp r2 s s'→BeB t ds s' (t.rs.foldl (be3 t h c) M)→gr t (t.rs.foldl (be3 t h c) M)→Q .normal s'):AWP Tryz.prog 0 k Hr Q s:=by
 have hnl:=cJ hc;have hml:=aU;obtain⟨tm,hp,nx⟩:=s;simp only at g8 g9  hh b1;have q2:=hB.t2;have q0:=hB.h0;simp only at q2 q0;unfold Hr;refine AWP.seq' ?_;refine AWP.reg' λK hK=>?_
 try simp only[ag,seval,q2,q0,Tpl.v,u']
 repeat (refine B' (by omega) ?_)
 refine hK _ _ _ ?_;clear hK K;refine AWP.block ?_
 refine AWP.loopS (λu:S3×Nat=>u.1) (λu=>(u.2≤t.rs.length∧gr t ((t.rs.take u.2).foldl (be3 t h c) M))∧Kp r2 ⟨tm,hp,nx⟩ u.1∧BeB t ds u.1 ((t.rs.take u.2).foldl (be3 t h c) M) ∧
  u.1.tm 39=.sl 2 (t.rs.map Rtr.v) false∧u.1.tm 40=.int t.rs.length∧u.1.tm 41=.int (u.2:Nat)) (λu=>t.rs.length-u.2) (i0:=(_,0)) ?_ ao.refl ?_
 ·refine⟨⟨am' _,hI⟩,⟨by dsimp only;omega,λr hr=>?_,λb x _ hx=>hx⟩,hB.keep (by dsimp only;omega) (λr hr=>?_) (λ_ _=>rfl),rfl,rfl,rfl⟩
  ·unfold r2 at hr;simp only[aj];repeat rw[E' (by omega)]
  ·simp only[aj];repeat rw[E' (by omega)]
 ·rintro⟨⟨tm1,hp1,nx1⟩,z⟩ ⟨⟨hz,hI1⟩,hK1,hB1,tL,tN,tI⟩;simp only at hz hI1 tL tN tI ⊢;refine AWP.seq' ?_;refine AWP.reg' λK hK=>?_
  try simp only[ag,seval,tN,tI]
  refine hK _ _ _ ?_;clear hK K;refine AWP.seq' ?_
  refine AWP.cond (b:=decide ((z:Int)<(t.rs.length:Int))) rfl (λe=>?_) (λe=>?_)
  ·have e:z<t.rs.length:=by have:=G' e;omega
   refine AWP.skip ?_;refine AWP.seq' (AWP.block (AWP.seq' ?_));have hy:t.rs[z]?=some t.rs[z]:=f' e;generalize t.rs[z]=x at hy;have hge:(t.rs.map Rtr.v).getD z .unk=Rtr.v x:=by rw[H',I',hy];rfl
   have k8:=(hK1.tm 8 (.inl (by omega))).trans g8;have k9:=(hK1.tm 9 (.inl (by omega))).trans g9
   skip
   have kh:=hK1.hp _ _ b1 hh
   skip
   have kn:nx≤nx1:=hK1.nx;simp only at k8 k9 kh ;refine AWP.reg' λK hK=>?_
   try simp only[ag,seval,tL,tI,hge,Int.toNat_natCast,u',Rtr.v]
   refine⟨⟨by omega,by omega⟩,?_⟩;refine hK _ _ _ ?_;clear hK K;have hpl:∀(v1 v2 v3:Option Blk) b,b<nx1→upd (upd (upd hp1 (nx1+16+16+16) v1) (nx1+16+16+16) v2) (nx1+16+16+16) v3 b=hp1 b:=λv1 v2 v3 b hb=>by
    simp only[aj];repeat rw[E' (by omega)]
   have hBn:BeB t ds ⟨_,_,_⟩ ((t.rs.take z).foldl (be3 t h c) M):=hB1.keep (s':=⟨upd (upd (upd (upd tm1 42 (AV.bool (decide ((z:Int)<(t.rs.length:Int))))) 43 ((Rtr.v x).rptr 0)) 44 (Rtr.v x)) 12 (.ref (nx1+16+16+16) 0),upd (upd (upd hp1 (nx1+16+16+16) (some (.box (.agg [.int 0,.bool false])))) (nx1+16+16+16) none) (nx1+16+16+16) (some (.box (Rtr.v x))),nx1+16+16+16+16+16⟩) (by dsimp only;omega) (λr hr=>by simp only[aj];repeat rw[E' (by omega)]) (λb hb=>hpl _ _ _ b hb)
   refine Hn t hc ds h c x.id (.bool x.cap) _ _ hI1 bh (nx1+16+16+16) hBn ?_ ?_ rfl ?_ (ak _ _ _) ?_ ?_ k _ (λs' hk hb hi=>?_)
   ·simp only[aj];exact k8
   ·simp only[aj];exact k9
   ·dsimp only;rw[hpl _ _ _ _ (by omega)];exact kh
   ·dsimp only;omega
   ·dsimp only;omega
   ·obtain⟨tm2,hp2,nx2⟩:=s';refine(show AWP _ _ _ _ _ _ from ?_);have qL:tm2 39=_:=(hk.tm 39 (.inr ⟨by omega,by omega⟩)).trans tL;have qN:tm2 40=_:=(hk.tm 40 (.inr ⟨by omega,by omega⟩)).trans tN;have qI:tm2 41=_:=(hk.tm 41 (.inr ⟨by omega,by omega⟩)).trans tI;have hw:IntKind.i64.wrap ((z:Int)+1)=((z+1:Nat):Int):=jF (by omega) (by omega);refine AWP.reg' λK hK=>?_
    try simp only[ag,seval,qI,hw]
    refine hK _ _ _ ?_;clear hK K;have hkn:nx1+16+16+16+16+16≤nx2:=hk.nx;have hF1:(t.rs.take (z+1)).foldl (be3 t h c) M=(be3 t h c) ((t.rs.take z).foldl (be3 t h c) M) x:=eM _ _ hy
    refine⟨(_,z+1),⟨⟨by dsimp only;omega,?_⟩,⟨by dsimp only;omega,λr hr=>?_,λb v hb' hv=>?_⟩,?_,?_,?_,?_⟩,by dsimp only;omega,ao.refl⟩
    ·dsimp only;rw[hF1];exact hi
    ·have hr':=hr;unfold r2 at hr';have e1:=hk.tm r (by unfold r3;omega);have e2:=hK1.tm r hr;dsimp only at e1 e2 ⊢;simp only[aj]at e1 ⊢;rw[E' (by omega),E' (by omega),e1]
     repeat rw[E' (by omega)]
     exact e2
    ·have e2:=hK1.hp b v hb' hv;have hb':b<nx:=hb';refine hk.hp b v (by dsimp only;omega) ?_;dsimp only;rw[hpl _ _ _ _ (by omega)];exact e2
    ·dsimp only;rw[hF1];exact hb.keep (by dsimp only;omega) (λr hr=>by simp only[aj];repeat rw[E' (by omega)]) (λ_ _=>rfl)
    ·simp only[aj];exact qL
    ·simp only[aj];exact qN
    ·simp only[aj];rfl
  ·have e:z=t.rs.length:=by have:=S' e;omega
   subst e;refine AWP.exit ?_;refine(show Q .normal _ from ?_);rw[List.take_length]at hI1 hB1
   refine hQ _ ⟨?_,λr hr=>?_,λb x hb hx=>hK1.hp b x hb hx⟩ (hB1.keep (by dsimp only;omega) (λr hr=>?_) (λ_ _=>rfl)) hI1
   ·have:=hK1.nx;dsimp only at this ⊢;omega
   ·have e2:=hK1.tm r hr;unfold r2 at hr;dsimp only at e2 ⊢;simp only[aj];rw[E' (by omega)];exact e2
   ·simp only[aj];rw[E' (by omega)]
def GW:AF:=
 ⟨139,2,[.tmp 4],
 .seq (.reg [⟨(some 2),.box (.t 0),none⟩,⟨(some 4),.move (.c (.val (.map none))),none⟩])
 (.seq (.reg [⟨(some 18),.mkm none,none⟩,⟨(some 5),.move (.t 18),none⟩])
 (.seq (.reg [⟨(some 19),.load true 2 (.t 2),none⟩,⟨(some 20),.call (.c (.func 138 [])) [(.t 19)],none⟩,⟨(some 6),.move (.t 20),none⟩])
 (.seq (.seq (.reg [⟨(some 21),.move (.t 1),none⟩,⟨(some 22),.len (.t 21),none⟩,⟨(some 23),.move (.c (.val (.int .i64 0))),none⟩])
 (.block 0 (.loop (.seq (.reg [⟨(some 24),.bin .lss (.t 23) (.t 22),none⟩])
 (.seq (.cond (.t 24) (.skip) (.exit 0))
 (.seq (.block 1 (.seq (.reg [⟨(some 25),.iaddr 2 (.t 21) (.t 23),none⟩,⟨(some 26),.load true 2 (.t 25),none⟩,⟨(some 8),.box (.c (.agg [(.val (.int .i64 0)),(.val (.int .i64 0))])),none⟩,⟨none,.store 2 (.t 8) (.t 26),none⟩])
 (.seq (.reg [⟨(some 28),.load true 2 (.t 2),none⟩,⟨(some 29),.faddr 0 (.t 8),none⟩,⟨(some 30),.load false 1 (.t 29),none⟩,⟨(some 31),.faddr 1 (.t 8),none⟩,⟨(some 32),.load false 1 (.t 31),none⟩,⟨(some 33),.call (.c (.func 120 [])) [(.t 28),(.t 30),(.t 32)],none⟩,⟨(some 27),.move (.t 33),none⟩,⟨(some 34),.ext 0 (.t 27),none⟩,⟨(some 35),.ext 1 (.t 27),none⟩,⟨(some 9),.move (.t 34),none⟩,⟨(some 10),.move (.t 35),none⟩])
 (.seq (.seq (.reg [⟨(some 36),.move (.t 10),none⟩,⟨(some 37),.un .not (.t 36),none⟩])
 (.cond (.t 37) (.exit 1) (.skip)))
 (.seq (.reg [⟨(some 38),.faddr 0 (.t 2),none⟩,⟨(some 39),.load false 1 (.t 38),none⟩,⟨(some 40),.len (.t 39),none⟩,⟨(some 41),.move (.c (.val (.int .i64 0))),none⟩])
 (.block 2 (.loop (.seq (.reg [⟨(some 42),.bin .lss (.t 41) (.t 40),none⟩])
 (.seq (.cond (.t 42) (.skip) (.exit 2))
 (.seq (.block 3 (.seq (.reg [⟨(some 43),.iaddr 2 (.t 39) (.t 41),none⟩,⟨(some 44),.load true 2 (.t 43),none⟩,⟨(some 12),.box (.c (.agg [(.val (.int .i64 0)),(.val (.bool false))])),none⟩,⟨none,.store 2 (.t 12) (.t 44),none⟩])
 (.seq (.reg [⟨(some 45),.faddr 1 (.t 2),none⟩,⟨(some 46),.load false 1 (.t 45),none⟩,⟨(some 47),.len (.t 46),none⟩,⟨(some 48),.move (.c (.val (.int .i64 0))),none⟩])
 (.block 4 (.loop (.seq (.reg [⟨(some 49),.bin .lss (.t 48) (.t 47),none⟩])
 (.seq (.cond (.t 49) (.skip) (.exit 4))
 (.seq (.block 5 (.seq (.reg [⟨(some 50),.iaddr 5 (.t 46) (.t 48),none⟩,⟨(some 51),.load true 5 (.t 50),none⟩,⟨(some 14),.box (.c (.agg [(.val (.int .i64 0)),(.val (.int .i64 0)),(.val (.int .i64 0)),(.val (.int .i64 0)),(.val (.int .i64 0))])),none⟩,⟨none,.store 5 (.t 14) (.t 51),none⟩])
 (.seq (.reg [⟨(some 52),.faddr 0 (.t 14),none⟩,⟨(some 53),.load false 1 (.t 52),none⟩,⟨(some 54),.faddr 1 (.t 14),none⟩,⟨(some 55),.load false 1 (.t 54),none⟩,⟨(some 56),.faddr 2 (.t 14),none⟩,⟨(some 57),.load false 1 (.t 56),none⟩,⟨(some 58),.build [(.val (.int .i64 0)),(.val (.int .i64 0)),(.val (.int .i64 0))] [(0,1,(.t 53)),(1,1,(.t 55)),(2,1,(.t 57))],none⟩,⟨(some 59),.faddr 1 (.t 14),none⟩,⟨(some 60),.load false 1 (.t 59),none⟩,⟨(some 61),.faddr 0 (.t 14),none⟩,⟨(some 62),.load false 1 (.t 61),none⟩,⟨(some 63),.faddr 3 (.t 14),none⟩,⟨(some 64),.load false 1 (.t 63),none⟩,⟨(some 65),.build [(.val (.int .i64 0)),(.val (.int .i64 0)),(.val (.int .i64 0))] [(0,1,(.t 60)),(1,1,(.t 62)),(2,1,(.t 64))],none⟩,⟨(some 66),.lit 3 2 (.agg [(.val (.int .i64 0)),(.val (.int .i64 0)),(.val (.int .i64 0))]) [(0,(.t 58)),(1,(.t 65))],none⟩,⟨(some 67),.len (.t 66),none⟩,⟨(some 68),.move (.c (.val (.int .i64 0))),none⟩])
 (.block 6 (.loop (.seq (.reg [⟨(some 69),.bin .lss (.t 68) (.t 67),none⟩])
 (.seq (.cond (.t 69) (.skip) (.exit 6))
 (.seq (.block 7 (.seq (.reg [⟨(some 70),.iaddr 3 (.t 66) (.t 68),none⟩,⟨(some 71),.load true 3 (.t 70),none⟩,⟨(some 16),.box (.c (.agg [(.val (.int .i64 0)),(.val (.int .i64 0)),(.val (.int .i64 0))])),none⟩,⟨none,.store 3 (.t 16) (.t 71),none⟩])
 (.seq (.reg [⟨(some 72),.faddr 0 (.t 16),none⟩,⟨(some 73),.load false 1 (.t 72),none⟩,⟨(some 74),.faddr 0 (.t 8),none⟩,⟨(some 75),.load false 1 (.t 74),none⟩,⟨(some 76),.bin .neq (.t 73) (.t 75),none⟩,⟨(some 77),.move (.t 76),none⟩,⟨(some 78),.move (.t 6),(some (77,true))⟩,⟨(some 79),.faddr 0 (.t 16),(some (77,true))⟩,⟨(some 80),.load false 1 (.t 79),(some (77,true))⟩,⟨(some 81),.faddr 0 (.t 12),(some (77,true))⟩,⟨(some 82),.load false 1 (.t 81),(some (77,true))⟩,⟨(some 83),.faddr 0 (.t 16),(some (77,true))⟩,⟨(some 84),.load false 1 (.t 83),(some (77,true))⟩,⟨(some 85),.faddr 1 (.t 16),(some (77,true))⟩,⟨(some 86),.load false 1 (.t 85),(some (77,true))⟩,⟨(some 87),.build [(.val (.int .i64 0)),(.val (.int .i64 0))] [(0,1,(.t 84)),(1,1,(.t 86))],(some (77,true))⟩,⟨(some 88),.faddr 2 (.t 16),(some (77,true))⟩,⟨(some 89),.load false 1 (.t 88),(some (77,true))⟩,⟨(some 90),.call (.c (.func 139 [])) [(.t 78),(.t 80),(.t 82),(.t 87),(.t 89)],(some (77,true))⟩,⟨(some 91),.pick (.t 77) (.t 90) (.c (.val (.bool false))),none⟩,⟨(some 17),.move (.t 91),none⟩])
 (.seq (.reg [⟨(some 92),.move (.t 17),none⟩,⟨(some 93),.move (.t 92),none⟩,⟨(some 94),.move (.t 6),(some (93,true))⟩,⟨(some 95),.faddr 0 (.t 16),(some (93,true))⟩,⟨(some 96),.load false 1 (.t 95),(some (93,true))⟩,⟨(some 97),.faddr 0 (.t 12),(some (93,true))⟩,⟨(some 98),.load false 1 (.t 97),(some (93,true))⟩,⟨(some 99),.load true 2 (.t 8),(some (93,true))⟩,⟨(some 100),.move (.t 9),(some (93,true))⟩,⟨(some 101),.call (.c (.func 139 [])) [(.t 94),(.t 96),(.t 98),(.t 99),(.t 100)],(some (93,true))⟩,⟨(some 102),.pick (.t 93) (.t 101) (.c (.val (.bool false))),none⟩,⟨(some 103),.move (.t 102),none⟩,⟨(some 104),.move (.t 6),(some (103,true))⟩,⟨(some 105),.faddr 1 (.t 16),(some (103,true))⟩,⟨(some 106),.load false 1 (.t 105),(some (103,true))⟩,⟨(some 107),.faddr 0 (.t 12),(some (103,true))⟩,⟨(some 108),.load false 1 (.t 107),(some (103,true))⟩,⟨(some 109),.load true 2 (.t 8),(some (103,true))⟩,⟨(some 110),.move (.t 9),(some (103,true))⟩,⟨(some 111),.call (.c (.func 139 [])) [(.t 104),(.t 106),(.t 108),(.t 109),(.t 110)],(some (103,true))⟩,⟨(some 112),.pick (.t 103) (.t 111) (.c (.val (.bool false))),none⟩,⟨(some 113),.move (.t 112),none⟩,⟨(some 114),.move (.t 5),(some (113,true))⟩,⟨(some 115),.faddr 0 (.t 16),(some (113,true))⟩,⟨(some 116),.load false 1 (.t 115),(some (113,true))⟩,⟨(some 117),.mget none ((.sl 0 [] true)) false (.t 114) (.t 116),(some (113,true))⟩,⟨(some 118),.faddr 1 (.t 16),(some (113,true))⟩,⟨(some 119),.load false 1 (.t 118),(some (113,true))⟩,⟨(some 120),.call (.c (.func 49 [])) [(.t 117),(.t 119)],(some (113,true))⟩,⟨(some 121),.un .not (.t 120),(some (113,true))⟩,⟨(some 122),.pick (.t 113) (.t 121) (.c (.val (.bool false))),none⟩])
 (.cond (.t 122) (.dreg [⟨(some 123),.move (.t 5),none⟩,⟨(some 124),.faddr 0 (.t 16),none⟩,⟨(some 125),.load false 1 (.t 124),none⟩,⟨(some 126),.move (.t 5),none⟩,⟨(some 127),.faddr 0 (.t 16),none⟩,⟨(some 128),.load false 1 (.t 127),none⟩,⟨(some 129),.mget none ((.sl 0 [] true)) false (.t 126) (.t 128),none⟩,⟨(some 130),.faddr 1 (.t 16),none⟩,⟨(some 131),.load false 1 (.t 130),none⟩,⟨(some 132),.lit 1 1 (.val (.int .i64 0)) [(0,(.t 131))],none⟩,⟨(some 133),.append 1 8 (.t 129) (.t 132),none⟩,⟨none,.mset none (.t 123) (.t 125) (.t 133),none⟩] [(2,5),(2,6),(2,8),(5,8),(6,8),(2,9),(5,9),(6,9),(2,10)]) (.skip))))))
 (.reg [⟨(some 134),.bin .add (.t 68) (.c (.val (.int .i64 1))),none⟩,⟨(some 68),.move (.t 134),none⟩])))))))))
 (.reg [⟨(some 135),.bin .add (.t 48) (.c (.val (.int .i64 1))),none⟩,⟨(some 48),.move (.t 135),none⟩])))))))))
 (.reg [⟨(some 136),.bin .add (.t 41) (.c (.val (.int .i64 1))),none⟩,⟨(some 41),.move (.t 136),none⟩])))))))))))
 (.reg [⟨(some 137),.bin .add (.t 23) (.c (.val (.int .i64 1))),none⟩,⟨(some 23),.move (.t 137),none⟩])))))))
 (.seq (.reg [⟨(some 138),.move (.t 5),none⟩,⟨(some 4),.move (.t 138),none⟩])
 (.ret)))))⟩
theorem GV:eH Tryz.prog Tryz.f100=some GW:=by kernel_rfl
def be4(t:Tpl)(M:Rws)(h:Hop):Rws:=if(bV t h.a h.b).2=true then t.rs.foldl (be3 t h (bV t h.a h.b).1) M else M
def fT(t:Tpl)(ds:List Hop):Rws:=ds.foldl (be4 t) []
def r1(r:Nat):Prop:=r<8∨18≤r∧r<24
theorem od{t:Tpl}{f g:Int}(h:(bV t f g).2=true):aC t=0:=by
 unfold bV at h
 split at h
 ·cases h
 ·rename_i e;exact bf'.mp e
theorem Hh(t:Tpl)(ds:List Hop)(hd:ds.length≤1000):aF Tryz.prog 100 [Tpl.v t,.sl 2 (ds.map Hop.v) false] [] (.mref 0) [some (iG (fT t ds))]:=by
 refine aF.walk Tryz.func100 GV (by simp[GW]) ?_;unfold GW;simp only[ei,eC,Y',al'];refine AWP.seq' ?_;refine AWP.reg' λK hK=>?_
 try simp only[ag,seval]
 refine⟨rfl,?_⟩;refine hK _ _ _ ?_;clear hK K;refine AWP.seq' ?_;refine AWP.reg' λK hK=>?_
 try simp only[ag,seval,qn]
 refine hK _ _ _ ?_;clear hK K;refine AWP.seq' ?_;refine AWP.reg' λK hK=>?_
 try simp only[ag,seval,Tpl.v]
 refine cI (show bT Tryz.prog (wM t).f [Tpl.v t] (Qa t)from(wM t).ok) (wM t).fn rfl rfl ?_ ?_
 ·exact⟨⟨trivial,trivial,trivial⟩,trivial⟩
 try simp only[ag,seval]
 refine hK _ _ _ ?_;clear hK K;refine AWP.seq' (AWP.seq' ?_);refine AWP.reg' λK hK=>?_
 try simp only[ag,seval,u']
 repeat (refine B' (by omega) ?_)
 refine hK _ _ _ ?_;clear hK K;refine AWP.block ?_;have hml:=aU
 refine AWP.loopS (λu:S3×Nat=>u.1) (λu=>(u.2≤ds.length∧gr t ((ds.take u.2).foldl (be4 t) []))∧BeB t ds u.1 ((ds.take u.2).foldl (be4 t) []) ∧
  u.1.tm 21=.sl 2 (ds.map Hop.v) false∧u.1.tm 22=.int ds.length∧u.1.tm 23=.int (u.2:Nat)) (λu=>ds.length-u.2) (i0:=(_,0)) ?_ ao.refl ?_
 ·exact⟨⟨am' _,⟨λp hp=>by simp at hp,λp hp=>by simp at hp,λp hp=>by simp at hp⟩⟩,⟨by dsimp only;omega,rfl,rfl,rfl,rfl,rfl,[],⟨rfl,rfl,aW',aW',by simp,by dsimp only;omega,by simp⟩⟩,rfl,rfl,rfl⟩
 ·rintro⟨⟨tm1,hp1,nx1⟩,z⟩ ⟨⟨hz,hI1⟩,hB1,t21,t22,t23⟩;simp only at hz hI1 t21 t22 t23 ⊢;refine AWP.seq' ?_;refine AWP.reg' λK hK=>?_
  try simp only[ag,seval,t22,t23]
  refine hK _ _ _ ?_;clear hK K;refine AWP.seq' ?_
  refine AWP.cond (b:=decide ((z:Int)<(ds.length:Int))) rfl (λe=>?_) (λe=>?_)
  ·have e:z<ds.length:=by have:=G' e;omega
   refine AWP.skip ?_;refine AWP.seq' (AWP.block (AWP.seq' ?_));have hy:ds[z]?=some ds[z]:=f' e;generalize ds[z]=h at hy;have hge:(ds.map Hop.v).getD z .unk=Hop.v h:=by rw[H',I',hy];rfl
   have k2:=hB1.t2;have k0:=hB1.h0;have kn:=hB1.nx;simp only at k2 k0 kn;obtain⟨f0,_⟩:=nxF (show 0<nx1 by omega);refine AWP.reg' λK hK=>?_
   try simp only[ag,seval,t21,t23,hge,Int.toNat_natCast,u',Hop.v]
   refine⟨⟨by omega,by omega⟩,?_⟩;refine hK _ _ _ ?_;clear hK K;refine AWP.seq' ?_;refine AWP.reg' λK hK=>?_
   try simp only[ag,seval,k2,k0,f0,Tpl.v,aG']
   refine cI (show bT Tryz.prog (ob t h.a h.b).f [Tpl.v t,.int h.a,.int h.b] (.tup [.int (bV t h.a h.b).1,.bool (bV t h.a h.b).2])from(ob t h.a h.b).ok) (ob t h.a h.b).fn rfl rfl ?_ ?_
   ·exact⟨⟨trivial,trivial,trivial⟩,trivial,trivial,trivial⟩
   try simp only[ag,seval,aG']
   refine hK _ _ _ ?_;clear hK K;have hF1:(ds.take (z+1)).foldl (be4 t) []=be4 t ((ds.take z).foldl (be4 t) []) h:=eM _ _ hy;have hw:IntKind.i64.wrap ((z:Int)+1)=((z+1:Nat):Int):=jF (by omega) (by omega);refine AWP.seq' (AWP.seq' ?_);refine AWP.reg' λK hK=>?_
   try simp only[ag,seval]
   refine hK _ _ _ ?_;clear hK K;cases e1:(bV t h.a h.b).2 with
   | false =>
    refine AWP.cond (b:=true) rfl (λ_=>AWP.exit ?_) (λh=>by cases h);refine(show AWP _ _ _ _ _ _ from ?_);have hF2:be4 t ((ds.take z).foldl (be4 t) []) h=(ds.take z).foldl (be4 t) []:=by unfold be4;rw[E' (by simp[e1])]
    rw[hF2]at hF1;refine AWP.reg' λK hK=>?_
    try simp only[ag,seval,t23,hw]
    refine hK _ _ _ ?_;clear hK K
    refine⟨(_,z+1),⟨⟨by dsimp only;omega,?_⟩,?_,?_,?_,?_⟩,by dsimp only;omega,ao.refl⟩
    ·dsimp only;rw[hF1];exact hI1
    ·dsimp only;rw[hF1];refine hB1.keep (by dsimp only;omega) (λr hr=>by simp only[aj];repeat rw[E' (by omega)]) (λb hb=>?_);have hb':b<nx1:=hb;simp only[aj];repeat rw[E' (by omega)]
    ·simp only[aj];exact t21
    ·simp only[aj];exact t22
    ·simp only[aj];rfl
   | true =>
    have hc:=od e1;refine AWP.cond (b:=false) rfl (λh=>by cases h) (λ_=>AWP.skip ?_);refine(show AWP _ _ _ Hr _ _ from ?_);have hF2:be4 t ((ds.take z).foldl (be4 t) []) h=t.rs.foldl (be3 t h (bV t h.a h.b).1) ((ds.take z).foldl (be4 t) []):=by unfold be4;rw[F' e1]
    rw[hF2]at hF1
    refine Hq t hc ds h (bV t h.a h.b).1 _ _ hI1 (nx1+48) (hB1.keep ?_ (λr hr=>?_) (λb hb=>?_)) rfl rfl ?_ ?_ _ _ (λs' hk hb hi=>?_)
    ·dsimp only;omega
    ·simp only[aj];repeat rw[E' (by omega)]
    ·have hb':b<nx1:=hb;simp only[aj];repeat rw[E' (by omega)]
    ·simp only[aj,↓reduceIte]
    ·dsimp only;omega
    ·obtain⟨tm2,hp2,nx2⟩:=s';refine(show AWP _ _ _ _ _ _ from ?_);have q21:tm2 21=_:=(hk.tm 21 (.inr ⟨by omega,by omega⟩)).trans t21;have q22:tm2 22=_:=(hk.tm 22 (.inr ⟨by omega,by omega⟩)).trans t22;have q23:tm2 23=_:=(hk.tm 23 (.inr ⟨by omega,by omega⟩)).trans t23;refine AWP.reg' λK hK=>?_
     try simp only[ag,seval,q23,hw]
     refine hK _ _ _ ?_;clear hK K
     refine⟨(_,z+1),⟨⟨by dsimp only;omega,?_⟩,?_,?_,?_,?_⟩,by dsimp only;omega,ao.refl⟩
     ·dsimp only;rw[hF1];exact hi
     ·dsimp only;rw[hF1];exact hb.keep (by dsimp only;omega) (λr hr=>by simp only[aj];repeat rw[E' (by omega)]) (λ_ _=>rfl)
     ·simp only[aj];exact q21
     ·simp only[aj];exact q22
     ·simp only[aj];rfl
  ·have e:z=ds.length:=by have:=S' e;omega
   subst e;refine AWP.exit ?_;rw[List.take_length]at hI1;have hB1':BeB t ds ⟨tm1,hp1,nx1⟩ (fT t ds):=by have:=hB1;dsimp only at this;rw[List.take_length]at this;exact this
   obtain⟨n1,_,_,_,t5,_,ns,hF⟩:=hB1';simp only at n1 t5 hF;refine(show AWP _ _ _ _ _ _ from ?_);refine AWP.seq' ?_;refine AWP.reg' λK hK=>?_
   try simp only[ag,seval,t5]
   refine hK _ _ _ ?_;clear hK K;refine(show AWP _ _ _ _ _ _ from ?_);obtain⟨hp',w,h1,h2⟩:=(hF.keep (nx':=nx1+16+16+16) (λ_ _ _=>rfl) (by omega)).give (k:=0) (n:=139) (tm:=upd (upd (upd tm1 24 (AV.bool (decide ((ds.length:Int)<(ds.length:Int))))) 138 (AV.mref 32)) 4 (AV.mref 32))
   refine AWP.ret (gQ w (ik [32] [(4,.mref 0)] rfl rfl ?_ ?_ rfl (by decide) ?_ (by simp)))
   ·simp only[L',forall_eq];exact⟨rfl,show(0:Nat)<1 by omega⟩
   ·refine⟨⟨?_,?_⟩,trivial⟩
    ·show hp' 32=_;rw[h1,iG,Blk.ren,aK _ (dR _)]
    ·exact aG (dR _)
   ·intro b hb;omega
end Go.Proofs.YtiobpjoadkfhdaaGreat
