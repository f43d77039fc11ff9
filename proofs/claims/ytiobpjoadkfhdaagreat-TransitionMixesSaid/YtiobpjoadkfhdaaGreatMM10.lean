/- Texts joined: TV MX3. -/
import Derived.Test.YtiobpjoadkfhdaaGreatMM9
set_option linter.unusedVariables false
set_option linter.unusedSimpArgs false
set_option linter.unusedSectionVars false
namespace Go.Proofs.YtiobpjoadkfhdaaGreat
open Go Go.Am
def QD:AF:=
 ⟨44,2,[.cell 4 true 4],
 .seq (.reg [⟨(some 4),.box (.c (.agg [(.val (.int .i64 0)),(.val (.int .i64 0)),(.val (.int .i64 0)),(.sl 0 [] true)])),none⟩])
 (.seq (.reg [⟨(some 10),.move (.t 0),none⟩,⟨(some 11),.call (.c (.func 46 [])) [(.t 10),(.c (.val (.int .i64 6)))],none⟩,⟨(some 5),.box (.c (.agg [(.sl 0 [] true),(.sl 0 [] true)])),none⟩,⟨none,.store 2 (.t 5) (.t 11),none⟩])
 (.seq (.reg [⟨(some 12),.move (.t 0),none⟩,⟨(some 13),.load true 2 (.t 5),none⟩,⟨(some 14),.call (.c (.func 36 [])) [(.t 12),(.t 13),(.c (.val (.int .i64 0)))],none⟩,⟨(some 6),.box (.c (.agg [(.val (.int .i64 0)),(.val (.int .i64 0)),(.sl 0 [] true)])),none⟩,⟨none,.store 3 (.t 6) (.t 14),none⟩])
 (.seq (.reg [⟨(some 16),.load true 2 (.t 5),none⟩,⟨(some 17),.load true 3 (.t 6),none⟩,⟨(some 18),.call (.c (.func 10 [])) [(.t 16),(.t 17)],none⟩,⟨(some 15),.move (.t 18),none⟩,⟨(some 19),.ext 0 (.t 15),none⟩,⟨(some 20),.ext 1 (.t 15),none⟩,⟨(some 7),.move (.t 19),none⟩,⟨(some 8),.move (.t 20),none⟩])
 (.seq (.seq (.reg [⟨(some 21),.move (.t 7),none⟩,⟨(some 22),.len (.t 21),none⟩,⟨(some 23),.bin .eql (.t 22) (.c (.val (.int .i64 0))),none⟩])
 (.cond (.t 23) (.seq (.reg [⟨(some 24),.build [(.val (.int .i64 0)),(.val (.int .i64 0)),(.val (.int .i64 0)),(.sl 0 [] true)] [(0,1,(.c (.val (.int .i64 1)))),(2,1,(.c (.val (.int .i64 8))))],none⟩,⟨none,.store 4 (.t 4) (.t 24),none⟩])
 (.ret)) (.skip)))
 (.seq (.reg [⟨(some 25),.move (.t 7),none⟩,⟨(some 26),.move (.t 0),none⟩,⟨(some 27),.move (.t 7),none⟩,⟨(some 28),.len (.t 27),none⟩,⟨(some 29),.call (.c (.func 41 [])) [(.t 26),(.t 28)],none⟩,⟨(some 30),.iaddr 4 (.t 25) (.t 29),none⟩,⟨(some 31),.load true 4 (.t 30),none⟩,⟨(some 32),.call (.c (.func 45 [])) [(.t 31)],none⟩,⟨(some 9),.box (.c (.agg [(.val (.int .i64 0)),(.val (.int .i64 0)),(.val (.int .i64 0)),(.sl 0 [] true)])),none⟩,⟨none,.store 4 (.t 9) (.t 32),none⟩])
 (.seq (.seq (.reg [⟨(some 33),.move (.t 1),none⟩,⟨(some 34),.bin .gtr (.t 33) (.c (.val (.int .i64 0))),none⟩,⟨(some 35),.move (.t 34),none⟩,⟨(some 36),.move (.t 0),(some (35,true))⟩,⟨(some 37),.move (.t 1),(some (35,true))⟩,⟨(some 38),.call (.c (.func 11 [])) [(.t 36),(.t 37)],(some (35,true))⟩,⟨(some 39),.pick (.t 35) (.t 38) (.c (.val (.bool false))),none⟩])
 (.cond (.t 39) (.reg [⟨(some 40),.move (.t 0),none⟩,⟨(some 41),.load true 4 (.t 9),none⟩,⟨(some 42),.call (.c (.func 47 [])) [(.t 40),(.t 41)],none⟩,⟨none,.store 4 (.t 9) (.t 42),none⟩]) (.skip)))
 (.seq (.reg [⟨(some 43),.load true 4 (.t 9),none⟩,⟨none,.store 4 (.t 4) (.t 43),none⟩])
 (.ret))))))))⟩
theorem Mf:eH Tryz.prog Tryz.f13=some QD:=by kernel_rfl
theorem mix_s(L:List Int)(p:Nat):aF Tryz.prog 46 [.ref 0 0,.int 6] [.box (Tap.v ⟨L,p⟩)] (.agg [.vec 1,.vec 2]) [some (.box (Tap.v ⟨L,(bG L p 6).2⟩)),some (.vec 2 ((bG L p 6).1.rs.map Rtr.v)),some (.vec 5 ((bG L p 6).1.ls.map Lnk.v))]:=(Pa L p 6 (by omega)).ok
theorem pla_s(L:List Int)(p:Nat)(g:Tpl)(h:g.rs.length≤100):aF Tryz.prog 36 [.ref 0 0,Tpl.v g,.int 0] [.box (Tap.v ⟨L,p⟩)] (Pln.v (dH L p g 0).1) [some (.box (Tap.v ⟨L,(dH L p g 0).2⟩))]:=(Di L p g 0 h).ok
theorem Nr(L:List Int)(p:Nat)(n:Int):aF Tryz.prog 11 [.ref 0 0,.int n] [.box (Tap.v ⟨L,p⟩)] (.bool (dl L p n)) [some (.box (Tap.v ⟨L,ab L p⟩))]:=(fp L p n).ok
theorem all_s(t:Tpl)(p:Pln):bT Tryz.prog 10 [Tpl.v t,Pln.v p] (.tup [.sl 4 ((fG t p).1.map Tbl.v) false,.int (fG t p).2]):=(HN t p).ok
theorem cpy_s(b:Tbl)(h:okT b):aF Tryz.prog 45 [Tbl.v b] [] (.agg [.int b.router,.int b.sub,.int b.len,.vec 0]) [some (.vec 2 (b.rows.map Rw.v))]:=(FZ b h).ok
theorem eV(b:Tbl):(Tbl.v b).pure:=AV.pureB_ok (by unfold Tbl.v;simp[AV.pureB,bv,ae (v:=Rw.v) (λ_=>rfl)])
theorem rf(t:Tpl):(Tpl.v t).pure:=AV.pureB_ok (by unfold Tpl.v;simp[AV.pureB,bv,ae (v:=Rtr.v) (λ_=>rfl),ae (v:=Lnk.v) (λ_=>rfl)])
theorem rH(t:Pln):(Pln.v t).pure:=AV.pureB_ok (by unfold Pln.v;simp[AV.pureB,bv,ae (v:=Edg.v) (λ_=>rfl)])
theorem oD(π:Nat→Nat)(l:List Int):cG π (l.map AV.int)=l.map AV.int:=aK π (au (ae (λ_=>rfl) l))
section
variable {n : Nat} {tm : Nat → AV} {hp : Hp} {d : Option Nat} {g : AO} {xs : List AO} {os : List aA} {f : Nat} {K : S2 → Nat → Prop} {b : Nat}
theorem KN{L:List Int}{p:Nat}(hg:evO tm g=.func 46 [])(hx:xs.map (evO tm)=[.ref b 0,.int 6])(hb:hp b=some (.box (Tap.v ⟨L,p⟩)))
  (hK:evT Tryz.prog n os (f+16) ⟨aH d (.agg [.vec f,.vec (f+1)]) tm,upd (upd (upd hp (f+1) (some (.vec 5 ((bG L p 6).1.ls.map Lnk.v)))) f (some (.vec 2 ((bG L p 6).1.rs.map Rtr.v)))) b (some (.box (Tap.v ⟨L,(bG L p 6).2⟩)))⟩ K) :
  evT Tryz.prog n (⟨d,.call g xs,none⟩::os) f ⟨tm,hp⟩ K:=by
 have e0:aI [b] f 0=b:=by simp[aI]
 have e1:aI [b] f 1=f:=by simp[aI]
 have e2:aI [b] f 2=f+1:=by simp[aI]
 have q1:aD ((bG L p 6).1.rs.map Rtr.v):=au (ae (λ_=>rfl) _);have q2:aD ((bG L p 6).1.ls.map Lnk.v):=au (ae (λ_=>rfl) _);have key:=aN.hand (n:=n) (f:=f) (hp:=hp) (bx (by kernel_rfl)) (mix_s L p) [b] rfl (by simp) ⟨Nat.zero_lt_one,trivial,trivial⟩ (λi c y h1 h2=>by
  cases i with
  | succ i=>simp at h1
  | zero =>
   simp at h1 h2;subst h1;subst h2;exact⟨AV.bel_pure (aw _ _),by rw[hb];simp only[Blk.ren,AV.ren_pure _ (aw _ _)]⟩) (by simp) (by simp) ⟨show(1:Nat)<3 by omega,show(2:Nat)<3 by omega,trivial⟩ (λy hy=>by
  simp at hy
  rcases hy with rfl|rfl|rfl
  ·exact AV.bel_pure (aw _ _)
  ·exact aG q1
  ·exact aG q2)
 refine dz hg (by simpa using hx) (v:=.agg [.vec f,.vec (f+1)]) (args:=[.ref b 0,.int 6]) (by simpa[cG,AV.ren,e0,e1,e2]using key) ?_;simpa[bI,List.zipIdx,e0,e1,e2,Blk.ren,AV.ren_pure _ (aw _ _),aK _ q1,aK _ q2,bw,ek]using hK
theorem KR{t:Tbl}(ht:okT t)(hg:evO tm g=.func 45 [])(hx:xs.map (evO tm)=[Tbl.v t])
  (hK:evT Tryz.prog n os (f+16) ⟨aH d (.agg [.int t.router,.int t.sub,.int t.len,.vec f]) tm,upd hp f (some (.vec 2 (t.rows.map Rw.v)))⟩ K) :
  evT Tryz.prog n (⟨d,.call g xs,none⟩::os) f ⟨tm,hp⟩ K:=by
 have e0:aI [] f 0=f:=by simp[aI]
 have key:=aN.hand (n:=n) (f:=f) (hp:=hp) (bx (by kernel_rfl)) (cpy_s t ht) [] rfl (by simp) ⟨AV.bel_pure (eV t),trivial⟩ (λi c y h1 h2=>by simp at h1) (by simp) (by simp) ⟨trivial,trivial,trivial,show(0:Nat)<1 by omega,trivial⟩ (λy hy=>by simp at hy;subst hy;exact aG (dN _));refine dz hg (by simpa using hx) (v:=.agg [.int t.router,.int t.sub,.int t.len,.vec f]) (args:=[Tbl.v t]) (by simpa[cG,AV.ren_pure _ (eV t),AV.ren,e0]using key) ?_;simpa[bI,List.zipIdx,e0,Blk.ren,aK _ (dN _),bw,ek]using hK
theorem KQ{t:Tbl}(ht:okT t)(k:Nat)(hk:k<t.rows.length)(hg:evO tm g=.func 45 [])(hx:xs.map (evO tm)=[Tbl.v t])
  (hK:evT Tryz.prog n os (f+16) ⟨aH d (.agg [.int t.router,.int t.sub,.int t.len,.vec f]) tm,upd (upd hp (f+1) (some (.vec 1 ((t.rows.getD k ⟨0,[]⟩).nx.map AV.int)))) f (some (.vec 2 (cpC k (f+1) t.rows t.rows.length)))⟩ K) :
  evT Tryz.prog n (⟨d,.call g xs,none⟩::os) f ⟨tm,hp⟩ K:=by
 have e0:aI [] f 0=f:=by simp[aI]
 have e1:aI [] f 1=f+1:=by simp[aI]
 have q1:aD ((t.rows.getD k ⟨0,[]⟩).nx.map AV.int):=au (ae (λ_=>rfl) _);have key:=aN.hand (n:=n) (f:=f) (hp:=hp) (bx (by kernel_rfl)) (HY t ht k hk) [] rfl (by simp) ⟨AV.bel_pure (eV t),trivial⟩ (λi c y h1 h2=>by simp at h1) (by simp) (by simp) ⟨trivial,trivial,trivial,show(0:Nat)<2 by omega,trivial⟩ (λy hy=>by
  simp at hy
  rcases hy with rfl|rfl
  ·exact qy _ _ (by simp) _ _
  ·exact aG q1)
 refine dz hg (by simpa using hx) (v:=.agg [.int t.router,.int t.sub,.int t.len,.vec f]) (args:=[Tbl.v t]) (by simpa[cG,AV.ren_pure _ (eV t),AV.ren,e0]using key) ?_;simpa[bI,List.zipIdx,e0,e1,Blk.ren,oD,qx,bw,ek]using hK
theorem KT{L:List Int}{p:Nat}{t:Tbl}(hn:t.rows=[]){br:Nat}(hne:b≠br)(hg:evO tm g=.func 47 [])(hx:xs.map (evO tm)=[.ref b 0,.agg [.int t.router,.int t.sub,.int t.len,.vec br]])(hb:hp b=some (.box (Tap.v ⟨L,p⟩)))(hr:hp br=some (.vec 2 []))
  (hK:evT Tryz.prog n os (f+16) ⟨aH d (Tbl.v (bndT L p t).1) tm,upd (upd hp br none) b (some (.box (Tap.v ⟨L,(bndT L p t).2⟩)))⟩ K) :
  evT Tryz.prog n (⟨d,.call g xs,none⟩::os) f ⟨tm,hp⟩ K:=by
 have e0:aI [b,br] f 0=b:=by simp[aI]
 have e1:aI [b,br] f 1=br:=by simp[aI]
 have key:=aN.hand (n:=n) (f:=f) (hp:=hp) (bx (by kernel_rfl)) (Rn L p t hn) [b,br] rfl (by simpa using hne) ⟨show(0:Nat)<2 by omega,⟨trivial,trivial,trivial,show(1:Nat)<2 by omega,trivial⟩,trivial⟩ (λi c y h1 h2=>by
  match i,h1,h2 with
  | 0,h1,h2 =>
   simp at h1 h2;subst h1;subst h2;exact⟨AV.bel_pure (aw _ _),by rw[hb];simp only[Blk.ren,AV.ren_pure _ (aw _ _)]⟩
  | 1,h1,h2 =>
   simp at h1 h2;subst h1;subst h2;exact⟨trivial,by rw[hr];rfl⟩
  | i+2,h1,_=>simp at h1) (by simp) (by simp) (AV.bel_pure (eV _)) (λy hy=>by simp at hy;subst hy;exact AV.bel_pure (aw _ _))
 refine dz hg (by simpa using hx) (v:=Tbl.v (bndT L p t).1) (args:=[.ref b 0,.agg [.int t.router,.int t.sub,.int t.len,.vec br]]) (by simpa[cG,AV.ren,e0,e1,AV.ren_pure _ (eV _)]using key) ?_;simpa[bI,List.zipIdx,e0,e1,Blk.ren,AV.ren_pure _ (aw _ _),bw,ek]using hK
theorem KS{L:List Int}{p:Nat}{t:Tbl}(ht:okT t)(k:Nat)(hk:k<t.rows.length)(hkk:k=o8 L p t.rows.length){br bk:Nat}(hnd:[b,br,bk].Nodup)(hg:evO tm g=.func 47 [])(hx:xs.map (evO tm)=[.ref b 0,.agg [.int t.router,.int t.sub,.int t.len,.vec br]])(hb:hp b=some (.box (Tap.v ⟨L,p⟩)))
  (hr:hp br=some (.vec 2 (cpC k bk t.rows t.rows.length))) (hq:hp bk=some (.vec 1 ((t.rows.getD k ⟨0,[]⟩).nx.map AV.int)))
  (hK:evT Tryz.prog n os (f+16) ⟨aH d (Tbl.v (bndT L p t).1) tm,upd (upd (upd hp bk none) br none) b (some (.box (Tap.v ⟨L,(bndT L p t).2⟩)))⟩ K) :
  evT Tryz.prog n (⟨d,.call g xs,none⟩::os) f ⟨tm,hp⟩ K:=by
 have e0:aI [b,br,bk] f 0=b:=by simp[aI]
 have e1:aI [b,br,bk] f 1=br:=by simp[aI]
 have e2:aI [b,br,bk] f 2=bk:=by simp[aI]
 have q1:aD ((t.rows.getD k ⟨0,[]⟩).nx.map AV.int):=au (ae (λ_=>rfl) _);have key:=aN.hand (n:=n) (f:=f) (hp:=hp) (bx (by kernel_rfl)) (Rm L p t ht k hk hkk) [b,br,bk] rfl hnd ⟨show(0:Nat)<3 by omega,⟨trivial,trivial,trivial,show(1:Nat)<3 by omega,trivial⟩,trivial⟩ (λi c y h1 h2=>by
  match i,h1,h2 with
  | 0,h1,h2 =>
   simp at h1 h2;subst h1;subst h2;exact⟨AV.bel_pure (aw _ _),by rw[hb];simp only[Blk.ren,AV.ren_pure _ (aw _ _)]⟩
  | 1,h1,h2 =>
   simp at h1 h2;subst h1;subst h2;exact⟨qy _ _ (by simp) _ _,by rw[hr];simp only[Blk.ren,qx,e2]⟩
  | 2,h1,h2 =>
   simp at h1 h2;subst h1;subst h2;exact⟨aG q1,by rw[hq];simp only[Blk.ren,oD];simp⟩
  | i+3,h1,_=>simp at h1) (by simp) (by simp) (AV.bel_pure (eV _)) (λy hy=>by simp at hy;subst hy;exact AV.bel_pure (aw _ _))
 refine dz hg (by simpa using hx) (v:=Tbl.v (bndT L p t).1) (args:=[.ref b 0,.agg [.int t.router,.int t.sub,.int t.len,.vec br]]) (by simpa[cG,AV.ren,e0,e1,AV.ren_pure _ (eV _)]using key) ?_;simpa[bI,List.zipIdx,e0,e1,e2,Blk.ren,AV.ren_pure _ (aw _ _),bw,ek]using hK
end
theorem sc{L:List Int}:∀{n i:Nat} {rs:List Rtr} {p:Nat},(vx L n i rs p).1.length=rs.length
 | 0,_,_,_=>rfl
 | n+1,i,rs,p=>by
  rw[vx]
  split
  ·rw[sc,aX']
  ·rfl
theorem vt{L:List Int}{p:Nat}:(bG L p 6).1.rs.length≤50:=by
 unfold bG JX;rw[sc];exact mL (by omega) (by omega)
structure TvI (L:List Int) (q:Tbl×Nat) (s:S3):Prop where
  nx:35≤s.nx
  t4:s.tm 4=.ref 1 0
  t9:∃B,s.tm 9=.ref B 0∧B<s.nx∧B≠1∧s.hp B=some (.box (.agg [.int q.1.router,.int q.1.sub,.int q.1.len,.sl 2 (q.1.rows.map Rw.v) false]))
  h1:s.hp 1=some (.box (.agg [.val (.int .i64 0),.val (.int .i64 0),.val (.int .i64 0),.sl 0 [] true]))
  h0:s.hp 0=some (.box (Tap.v ⟨L,q.2⟩))
theorem qP{L:List Int}{q B br nx:Nat}{x:Tbl}{tm:Nat→AV}{hp:Hp}(n1:35≤nx)(t4:tm 4=.ref 1 0)(t9:tm 9=.ref B 0)(hB:B<nx)(hB1:B≠1)(hB0:B≠0)(h9:hp B=some (.box (.agg [.int x.router,.int x.sub,.int x.len,.vec br])))
  (hr:hp br=some (.vec 2 (x.rows.map Rw.v))) (h1:hp 1=some (.box (.agg [.val (.int .i64 0),.val (.int .i64 0),.val (.int .i64 0),.sl 0 [] true]))) (h0:hp 0=some (.box (Tap.v ⟨L,q⟩))):∃s',ao 1 44 ⟨tm,hp,nx⟩ s'∧TvI L (x,q) s':=by
 have e1:br≠1:=λe=>by subst e;rw[h1]at hr;cases hr
 have e3:br≠0:=λe=>by subst e;rw[h0]at hr;cases hr
 refine⟨_,ao.giveB B 3 br h9 rfl hr (dN _),n1,t4,⟨B,t9,hB,hB1,?_⟩,?_,?_⟩
 ·dsimp only;rw[ak];rfl
 ·dsimp only;rw[ai _ _ (by omega),ai _ _ (by omega)];exact h1
 ·dsimp only;rw[ai _ _ (by omega),ai _ _ (by omega)];exact h0
theorem Ac{L:List Int}{q B br bk k nx:Nat}{x:Tbl}{tm:Nat→AV}{hp:Hp}(hk:k<x.rows.length)(n1:35≤nx)(t4:tm 4=.ref 1 0)(t9:tm 9=.ref B 0)(hB:B<nx)(hB1:B≠1)(hB0:B≠0)(h9:hp B=some (.box (.agg [.int x.router,.int x.sub,.int x.len,.vec br])))
  (hr:hp br=some (.vec 2 (cpC k bk x.rows x.rows.length))) (hb:hp bk=some (.vec 1 ((x.rows.getD k ⟨0,[]⟩).nx.map AV.int))) (hne:br≠bk) (h1:hp 1=some (.box (.agg [.val (.int .i64 0),.val (.int .i64 0),.val (.int .i64 0),.sl 0 [] true]))) (h0:hp 0=some (.box (Tap.v ⟨L,q⟩))):∃s',ao 1 44 ⟨tm,hp,nx⟩ s'∧TvI L (x,q) s':=by
 have e1:br≠1:=λe=>by subst e;rw[h1]at hr;cases hr
 have e3:br≠0:=λe=>by subst e;rw[h0]at hr;cases hr
 have e2:br≠B:=λe=>by subst e;rw[h9]at hr;cases hr
 have f1:bk≠1:=λe=>by subst e;rw[h1]at hb;cases hb
 have f3:bk≠0:=λe=>by subst e;rw[h0]at hb;cases hb
 have f2:bk≠B:=λe=>by subst e;rw[h9]at hb;cases hb
 have hself:(cpC k bk x.rows x.rows.length).set k (Rw.v (x.rows.getD k ⟨0,[]⟩))=x.rows.map Rw.v:=by rw[mC,kI,rp hk]
 obtain⟨s',w,h⟩:=qP (L:=L) (q:=q) (B:=B) (br:=br) (nx:=nx) (x:=x) (tm:=tm) (hp:=upd (upd hp bk none) br (some (.vec 2 (x.rows.map Rw.v)))) n1 t4 t9 hB hB1 hB0 (by rw[ai _ _ (by omega),ai _ _ (by omega)];exact h9) (ak _ _ _)
  (by rw[ai _ _ (by omega),ai _ _ (by omega)];exact h1) (by rw[ai _ _ (by omega),ai _ _ (by omega)];exact h0)
 have w0:=ao.giveVC (k:=1) (n:=44) (tm:=tm) (nx:=nx) br k bk hr (j3 hk) hb hne (au (ae (λ_=>rfl) _));have:(cpC k bk x.rows x.rows.length).set k (.agg [.int (x.rows.getD k ⟨0,[]⟩).id,.sl 1 ((x.rows.getD k ⟨0,[]⟩).nx.map AV.int) false])=x.rows.map Rw.v:=hself;rw[this]at w0;exact⟨s',w0.trans w,h⟩
theorem NZ(L:List Int)(p:Nat)(n:Int):aF Tryz.prog 13 [.ref 0 0,.int n] [.box (Tap.v ⟨L,p⟩)] (Tbl.v (j8 L p n).1) [some (.box (Tap.v ⟨L,(j8 L p n).2⟩))]:=by
 have hml:=aU;refine aF.walk Tryz.func13 Mf (by simp[QD]) ?_;unfold QD;simp only[ei,eC,Y',al'];have q1:aD ((bG L p 6).1.rs.map Rtr.v):=au (ae (λ_=>rfl) _);have q2:aD ((bG L p 6).1.ls.map Lnk.v):=au (ae (λ_=>rfl) _);have hmr:=vt (L:=L) (p:=p);refine AWP.seq' ?_;refine AWP.reg' λK hK=>?_
 try simp only[ag,seval]
 refine hK _ _ _ ?_;clear hK K;refine AWP.seq' ?_;refine AWP.reg' λK hK=>?_
 try simp only[ag,seval]
 refine KN (L:=L) (p:=p) rfl rfl rfl ?_
 try simp only[ag,seval]
 refine hK _ _ _ ?_;clear hK K;refine(show AWP _ _ _ _ _ _ from ?_);refine AWP.weak ((ao.giveB 49 0 33 rfl rfl rfl q1).trans (ao.giveB 49 1 34 rfl rfl rfl q2)) ?_;refine AWP.seq' ?_;refine AWP.reg' λK hK=>?_
 try simp only[ag,seval]
 refine dd (pla_s L (bG L p 6).2 (bG L p 6).1 (by omega)) (bx (by kernel_rfl)) ⟨rf _,trivial,trivial⟩ (aw _ _) (aw _ _) (rH _) rfl rfl rfl ?_
 try simp only[ag,seval,Pln.v]
 refine hK _ _ _ ?_;clear hK K;refine(show AWP _ _ _ _ _ _ from ?_);refine AWP.seq' ?_;refine AWP.reg' λK hK=>?_
 try simp only[ag,seval]
 refine cI (all_s (bG L p 6).1 (dH L (bG L p 6).2 (bG L p 6).1 0).1) (bx (by kernel_rfl)) rfl rfl ⟨rf _,rH _,trivial⟩ ?_
 try simp only[ag,seval]
 refine hK _ _ _ ?_;clear hK K;refine(show AWP _ _ _ _ _ _ from ?_);have htL:=qK (t:=(bG L p 6).1) (p:=(dH L (bG L p 6).2 (bG L p 6).1 0).1);obtain⟨l,hl⟩:∃l,l=(fG (bG L p 6).1 (dH L (bG L p 6).2 (bG L p 6).1 0).1).1:=⟨_,rfl⟩
 obtain⟨q0,hq⟩:∃q,q=(dH L (bG L p 6).2 (bG L p 6).1 0).2:=⟨_,rfl⟩
 have hdef:j8 L p n=if l=[]then(⟨1,0,8,[]⟩,q0)else
  (if 0<n∧dl L (ab L q0) n=true then bndT L (ab L (ab L q0)) (l.getD (Mod (al L q0) l.length).toNat ⟨0,0,0,[]⟩)
  else(l.getD (Mod (al L q0) l.length).toNat ⟨0,0,0,[]⟩,if 0<n then ab L (ab L q0)else ab L q0)):=by rw[hl,hq];rfl
 rw[←hl]at htL;rw[←hl,←hq];refine AWP.seq' (AWP.seq' ?_);refine AWP.reg' λK hK=>?_
 try simp only[ag,seval,u']
 refine hK _ _ _ ?_;clear hK K
 refine AWP.cond rfl (λe=>?_) (λe=>?_)
 ·have e:l=[]:=by have e:=eq_of_beq e;exact aK' (by omega)
  rw[hdef,F' e];refine AWP.seq' ?_;refine AWP.reg' λK hK=>?_
  try simp only[ag,seval]
  refine hK _ _ _ ?_;clear hK K;refine AWP.ret ?_;refine⟨_,ao.subB (x:=.agg [.int 1,.val (.int .i64 0),.int 8,.sl 0 [] true]) (y:=Tbl.v ⟨1,0,8,[]⟩) 1 rfl (Sub.agg ⟨Sub.refl,Sub.refl,Sub.refl,Sub.nil,trivial⟩) rfl,⟨_,rfl,rfl⟩,λb x h=>?_⟩
  match b,h with
  | 0,h=>exact h
 have hne:¬l=[]:=λq=>by rw[q]at e;cases e
 have hl0:0<l.length:=cr'.mpr hne;rw[E' hne]at hdef;refine AWP.skip ?_;refine(show AWP _ _ _ _ _ _ from ?_);have hm:=dF (x:=al L q0) (show(1:Int)≤(l.length:Int) by omega);obtain⟨i,hi⟩:∃i:Nat,Mod (al L q0) l.length=(i:Int):=⟨(Mod (al L q0) l.length).toNat,by omega⟩
 rw[hi,Int.toNat_natCast]at hdef;have hil:i<l.length:=by omega
 obtain⟨x,hx⟩:∃x,x=l.getD i ⟨0,0,0,[]⟩:=⟨_,rfl⟩
 rw[←hx]at hdef;have hx2:l[i]?=some x:=by rw[hx,H',f' hil];rfl
 have hxk:okT x:=htL.2 x (J' hx2);have hge:(l.map Tbl.v).getD i .unk=.agg [.int x.router,.int x.sub,.int x.len,.sl 2 (x.rows.map Rw.v) false]:=by rw[H',I',hx2];rfl
 have hend:∀s:S3,(∃s',ao 1 44 s s'∧TvI L (j8 L p n) s')→AWP Tryz.prog (0+1) 44 ((AC.reg [⟨some 43,.load true 4 (.t 9),none⟩,⟨none,.store 4 (.t 4) (.t 43),none⟩]).seq .ret) (fin (0+1) 44 [AR.cell 4 true 4] (j8 L p n).1.v [some (Blk.box (Tap.v ⟨L,(j8 L p n).2⟩))]) s:=by
  rintro s ⟨⟨tm,hp,nx⟩,hw,n1,t4,⟨B,t9,hB,hB1,h9⟩,h1,h0⟩;refine AWP.weak hw ?_;simp only at n1 t4 t9 hB h9 h1 h0;refine AWP.seq' ?_;obtain⟨f3,f3',_,_⟩:=nxF hB;obtain⟨f19,f19',_,_⟩:=nxF (show 1<nx by omega);have hB2:(B=1)=False:=by simp;exact hB1
  have hB3:(1=B)=False:=by simp;exact λq=>hB1 q.symm
  refine AWP.reg' λK hK=>?_
  try simp only[ag,seval,t9,t4,h9,h1,f3,f3',f19,f19',hB2,hB3]
  refine hK _ _ _ ?_;clear hK K;refine AWP.ret ?_
  refine fZ (xs:=[Tbl.v (j8 L p n).1]) ?_ rfl ⟨?_,trivial⟩
  ·simp only[gC,uA,aj];rw[E' (by omega)];simp only[t4];rfl
  ·simp only[aj];rw[E' (by omega),E' (by omega)];exact h0
 refine AWP.seq' ?_;refine AWP.reg' λK hK=>?_
 try simp only[ag,seval,u']
 refine dd (rX L q0 l.length) (bx (by kernel_rfl)) ⟨trivial,trivial⟩ (aw _ _) (aw _ _) trivial rfl rfl rfl ?_
 try simp only[ag,seval,hi,hge,Int.toNat_natCast,u']
 refine⟨⟨by omega,by omega⟩,?_⟩
 by_cases hxe:x.rows=[]
 ·refine KR hxk rfl rfl ?_
  try simp only[ag,seval]
  refine hK _ _ _ ?_;clear hK K;refine(show AWP _ _ _ _ _ _ from ?_);refine AWP.seqI (λs=>∃s',ao 1 44 s s'∧TvI L (j8 L p n) s') ?_ (λs h=>hend s h)
  by_cases hn:0<n
  ·have hn':decide (0<n)=true:=decide_eq_true hn;refine AWP.seq' ?_;refine AWP.reg' λK hK=>?_
   try simp only[ag,seval,hn,hn']
   refine dd (Nr L (ab L q0) n) (bx (by kernel_rfl)) ⟨trivial,trivial⟩ (aw _ _) (aw _ _) trivial rfl rfl rfl ?_
   try simp only[ag,seval,hn,hn']
   refine hK _ _ _ ?_;clear hK K
   refine AWP.cond rfl (λe=>?_) (λe=>?_)
   ·refine AWP.reg' λK hK=>?_
    try simp only[ag,seval]
    refine KT (L:=L) (t:=x) (br:=449) hxe (by omega) rfl rfl rfl (by show some (Blk.vec 2 (x.rows.map Rw.v))=_;rw[hxe];rfl) ?_
    try simp only[ag,seval,Tbl.v]
    refine hK _ _ _ ?_;clear hK K;refine(show ∃s',_ from ?_);rw[hdef,F' ⟨hn,e⟩];exact⟨_,ao.refl,by dsimp only;omega,rfl,⟨465,rfl,by dsimp only;omega,by omega,rfl⟩,rfl,rfl⟩
   ·refine AWP.skip ?_;refine(show ∃s',_ from ?_);rw[hdef,E' (by simp[e]),F' hn];exact qP (B:=465) (by omega) rfl rfl (by omega) (by omega) (by omega) rfl rfl rfl rfl
  ·have hn':decide (0<n)=false:=decide_eq_false hn;refine AWP.seq' ?_;refine AWP.reg' λK hK=>?_
   try simp only[ag,seval,hn,hn']
   refine hK _ _ _ ?_;clear hK K;refine AWP.cond rfl (λe=>by cases e) (λe=>?_);refine AWP.skip ?_;refine(show ∃s',_ from ?_);rw[hdef,E' (by simp[hn]),E' hn];exact qP (B:=465) (by omega) rfl rfl (by omega) (by omega) (by omega) rfl rfl rfl rfl
 ·have hxl:0<x.rows.length:=cr'.mpr hxe;have hmk:=dF (x:=al L (ab L (ab L (ab L q0)))) (show(1:Int)≤(x.rows.length:Int) by omega);have hk:o8 L (ab L (ab L q0)) x.rows.length<x.rows.length:=by unfold o8;omega
  refine KQ hxk _ hk rfl rfl ?_
  try simp only[ag,seval]
  refine hK _ _ _ ?_;clear hK K;refine(show AWP _ _ _ _ _ _ from ?_);refine AWP.seqI (λs=>∃s',ao 1 44 s s'∧TvI L (j8 L p n) s') ?_ (λs h=>hend s h)
  by_cases hn:0<n
  ·have hn':decide (0<n)=true:=decide_eq_true hn;refine AWP.seq' ?_;refine AWP.reg' λK hK=>?_
   try simp only[ag,seval,hn,hn']
   refine dd (Nr L (ab L q0) n) (bx (by kernel_rfl)) ⟨trivial,trivial⟩ (aw _ _) (aw _ _) trivial rfl rfl rfl ?_
   try simp only[ag,seval,hn,hn']
   refine hK _ _ _ ?_;clear hK K
   refine AWP.cond rfl (λe=>?_) (λe=>?_)
   ·refine AWP.reg' λK hK=>?_
    try simp only[ag,seval]
    refine KS (L:=L) (t:=x) (br:=449) (bk:=450) hxk _ hk rfl (by simp) rfl rfl rfl rfl rfl ?_
    try simp only[ag,seval,Tbl.v]
    refine hK _ _ _ ?_;clear hK K;refine(show ∃s',_ from ?_);rw[hdef,F' ⟨hn,e⟩];exact⟨_,ao.refl,by dsimp only;omega,rfl,⟨465,rfl,by dsimp only;omega,by omega,rfl⟩,rfl,rfl⟩
   ·refine AWP.skip ?_;refine(show ∃s',_ from ?_);rw[hdef,E' (by simp[e]),F' hn];exact Ac (B:=465) hk (by omega) rfl rfl (by omega) (by omega) (by omega) rfl rfl rfl (by omega) rfl rfl
  ·have hn':decide (0<n)=false:=decide_eq_false hn;refine AWP.seq' ?_;refine AWP.reg' λK hK=>?_
   try simp only[ag,seval,hn,hn']
   refine hK _ _ _ ?_;clear hK K;refine AWP.cond rfl (λe=>by cases e) (λe=>?_);refine AWP.skip ?_;refine(show ∃s',_ from ?_);rw[hdef,E' (by simp[hn]),E' hn];exact Ac (B:=465) hk (by omega) rfl rfl (by omega) (by omega) (by omega) rfl rfl rfl (by omega) rfl rfl
def NY(L:List Int)(p:Nat)(n:Int):HC Tryz.prog:=⟨13,[.k,.k],[.ref 0 0,.int n],[.box (Tap.v ⟨L,p⟩)],Tbl.v (j8 L p n).1,[some (.box (Tap.v ⟨L,(j8 L p n).2⟩))],NZ L p n,bx (by kernel_rfl),qT.of (by simp[hcB,cC,AV.belB,allB,ez,dv,Tap.v,Tbl.v,ae (v:=AV.int) (λ_=>rfl),ae (v:=Rw.v) (λ_=>rfl)])⟩
def A4(b:Tbl):Prop:=b.rows.length≤24∧∀r∈b.rows,r.nx.length≤600
theorem tJ{t:Tpl}{p:Pln}:∀b∈(fG t p).1,A4 b:=by
 unfold fG
 split
 ·simp
 ·rename_i h;have hc:aC t=0:=U' λq=>h (.inl q);have hp:bZ p=true:=by
   cases q:bZ p
   ·exact absurd (.inr q) h
   ·rfl
  have hn:=(ax hc).nr;have hpl:p.es.length≤24:=by
   unfold bZ at hp;rw[ae',R']at hp;exact hp.1.2.2
  intro b hb;obtain⟨x,hx,hb⟩:=bn'.mp hb
  split at hb
  ·rw[L'.mp hb];refine⟨by unfold jX;simp;omega,λr hr=>?_⟩;unfold jX at hr;obtain⟨e,he,rfl⟩:=aa'.mp hr;unfold qF;simp only
   split
   ·simp
   ·split
    ·have:=sG (t:=t) (f:=x.id) (g:=e.router);omega
    ·simp
  ·cases hb
theorem A4.ok{b:Tbl}(h:A4 b):okT b:=⟨by have:=h.1;omega,λr hr=>by have:=h.2 r hr;omega⟩
theorem Mp{L:List Int}{p:Nat}{b:Tbl}(h:A4 b):okT (bndT L p b).1:=by
 have hx:∀q r nx,nx.length≤600→(qE L q r nx).1.length≤601:=λq r nx h=>by
  unfold qE
  (repeat' split)<;>(try simp)<;>omega
 obtain⟨h1,h2⟩:=h;unfold bndT
 split
 ·exact⟨by simp only;omega,λr hr=>by have:=h2 r hr;omega⟩
 split
 ·exact⟨by simp only;omega,λr hr=>by have:=h2 r hr;omega⟩
 split
 ·exact⟨by simp only;omega,λr hr=>by have:=h2 r hr;omega⟩
 split
 ·refine⟨by simp;omega,λr hr=>?_⟩
  rcases ab'.mp hr with hr|hr
  ·have:=h2 r hr;omega
  ·rw[L'.mp hr];simp
 split
 ·rename_i hl;refine⟨by simp;omega,λr hr=>?_⟩
  rcases ap' hr with hr|rfl
  ·have:=h2 r hr;omega
  ·have hg:(b.rows.getD (o8 L p b.rows.length) ⟨0,[]⟩).nx.length≤600:=by
    rw[H'];cases q:b.rows[o8 L p b.rows.length]? with
    | none=>simp
    | some y=>exact h2 y (J' q)
   have:=hx (ab L (ab L p)) b.router _ hg;simp only;omega
 ·exact⟨by simp only;omega,λr hr=>by have:=h2 r hr;omega⟩
theorem IB{L:List Int}{p:Nat}{n:Int}:okT (j8 L p n).1:=by
 have key:∀(l:List Tbl) i,(∀b∈l,A4 b)→A4 (l.getD i ⟨0,0,0,[]⟩):=λl i h=>by
  rw[H'];cases q:l[i]? with
  | none=>exact⟨by simp,by simp⟩
  | some y=>exact h y (J' q)
 unfold j8
 split
 ·exact⟨by simp,by simp⟩
 ·split
  ·exact Mp (key _ _ tJ)
  ·exact(key _ _ tJ).ok
theorem Ia{L:List Int}{n:Int}{b:Tbl}{p:Nat}(h:okT b):okT (Ag L n b p).1:=by
 have hX:∀r x q,x.nx.length≤100000→(gX L n r x q).1.nx.length≤100000:=λr x q h=>by
  unfold gX
  (repeat' split)<;>(try simp)<;>(repeat' split)<;>(try simp)<;>omega
 have hK:∀r (l:List Rw) q,(∀x∈l,x.nx.length≤100000)→(lh L n r l q).1.length=l.length∧∀x∈(lh L n r l q).1,x.nx.length≤100000:=λr l=>by
  induction l with
  | nil=>intro q h;exact⟨rfl,by rw[lh];simp⟩
  | cons y l ih =>
   intro q h;obtain⟨a,c⟩:=ih (gX L n r y q).2 λx hx=>h x (bb' _ hx);rw[lh];refine⟨by simp[a],λx hx=>?_⟩
   rcases ah'.mp hx with rfl|hx
   ·exact hX _ _ _ (h y bF')
   ·exact c x hx
 obtain⟨a,c⟩:=hK b.router b.rows p h.2;unfold Ag;exact⟨by simp only[a];exact h.1,c⟩
theorem wT{L:List Int}{n:Int}:∀{l:List Tbl} {p:Nat},(∀b∈l,okT b)→∀b∈(i7 L n l p).1,okT b
 | [],p,h=>by rw[i7];simp
 | y::l,p,h=>by
  rw[i7];intro b hb
  rcases ah'.mp hb with rfl|hb
  ·exact Ia (h y bF')
  ·exact wT (λx hx=>h x (bb' _ hx)) b hb
def Ce(L:List Int)(p:Nat)(g:Tpl):=okL [.ref 0 0,Tpl.v g]∧(.box (.agg [.sl 1 (L.map AV.int) false,.int p]):Blk).ok
def IU(L:List Int)(g:Tpl)(t0:Int×Nat×List Int):NF:=⟨[rR 0 0,rR 3 1,rV 5 2,rI 6 t0.1],[.box (.agg [.sl 1 (L.map AV.int) false,.int t0.2.1]),.box (Tpl.v g),vB 1 AV.int t0.2.2 (λ_=>rfl)]⟩
@[reducible] def Cd:Nat→Type
 | 0=>Int×Nat×List Int
 | _=>Unit
def uo(r:Tap×List Int):AV:=.vec 1
def uq(r:Tap×List Int):List (Option Blk):=[some (.box (Tap.v r.1)),some (.vec 1 (r.2.map AV.int))]
def Cc(L:List Int)(p:Nat)(g:Tpl)(I0:(Int×Nat×List Int)→Prop)(m0:(Int×Nat×List Int)→Nat):Ax Tryz.prog Cd (Tap×List Int):=
 (.cmdL (.nilT 5 1) (.loop 0 (IU L g) I0 m0 (0,p,[]) [0,1,65] λ(t0:Int×Nat×List Int) b0 =>
(.br 83 (decide (t0.1<((g.rs.map Rtr.v).length:Int))) (.callH [0] (bB L t0.2.1 2) 99
(.br 131 ((Mod (al L t0.2.1) 2)==0) (.elI 195 Rtr.v g.rs t0.1 λx1 =>
(.apX 259 AV.int t0.2.2 [x1.id] (t0.2.2.length+1)
(.bk 0 b0 (W (t0.1+1),ab L t0.2.1,t0.2.2++[x1.id]) [0,1,259])))
(.bk 0 b0 (W (t0.1+1),ab L t0.2.1,t0.2.2) [0,1,2])))
(.retH ((⟨L,t0.2.1⟩:Tap),t0.2.2) ⟨[rV 4 1],[.box (.agg [.sl 1 (L.map AV.int) false,.int t0.2.1]),vB 1 AV.int t0.2.2 (λ_=>rfl)]⟩ [0,2]))))
theorem Og(L:List Int)(p:Nat)(g:Tpl)(h:g.rs.length≤1000)(ok:Ce L p g):∃I m,(Cc L p g I m).vc uo uq ((⟨L,(ew L p g.rs).2⟩:Tap),(ew L p g.rs).1):=by
 refine⟨λs=>∃k:Nat,s.1=k∧k≤g.rs.length∧s.2.2.length≤k∧(s.2.2++(ew L s.2.1 (g.rs.drop k)).1,(ew L s.2.1 (g.rs.drop k)).2)=ew L p g.rs,λs=>g.rs.length-s.1.toNat,?_⟩;simp only[Ce,Tpl.v,okU,Blk.ok,az,u']at ok;dsimp only[Cc,Cd,Ax.vp,Ax.vc];simp only[vcU,rfU,u'];refine⟨⟨0,rfl,am' _,by simp,by simp⟩,?_⟩;rintro⟨i,q,out⟩ ⟨k,hi,hk,ho,he⟩;simp only at hi ho he ⊢;subst hi;simp only[Int.toNat_natCast]
 refine⟨λc=>?_,λc=>?_⟩
 ·have hkl:k<g.rs.length:=by omega
  have hd:g.rs.drop k=g.rs[k]::g.rs.drop (k+1):=aP' hkl;have hx:g.rs[k]?=some g.rs[k]:=f' hkl;generalize g.rs[k]=x at hd hx;rw[hd,ew]at he;have hw:W ((k:Int)+1)=((k+1:Nat):Int):=aQ (n:=g.rs.length) hkl (by omega);rw[hw]
  refine⟨λe=>⟨by omega,c,λy hy=>⟨by omega,⟨k+1,rfl,hkl,by simp;omega,?_⟩,by omega⟩⟩,λe=>⟨⟨k+1,rfl,hkl,by omega,?_⟩,by omega⟩⟩
  ·rw[hx]at hy;cases hy;rw[F' (eq_of_beq e)]at he;rw[←he,bl'];rfl
  ·rw[E' (by simpa using e)]at he;exact he
 ·rw[bo' (by omega),ew,bc']at he;rw[←he]
def Oh(L:List Int)(p:Nat)(g:Tpl)(h:g.rs.length≤1000):HC Tryz.prog:=hcO 14 [.k,(.a [(.s 2),(.s 5)])] [.ref 0 0,Tpl.v g] [.box (.agg [.sl 1 (L.map AV.int) false,.int p])] .k uo uq ((⟨L,(ew L p g.rs).2⟩:Tap),(ew L p g.rs).1) (λok ok2=>let ⟨I0,m0,h⟩:=Og L p g h ⟨ok,ok2 _ (by simp)⟩;⟨_,h,by kernel_rfl⟩) (by kernel_rfl) (by simp[hcB,cC,AV.belB,allB,ez,dv,uo,uq,Tap.v,Tpl.v,ae (v:=AV.int) (λ_=>rfl),ae (v:=Lnk.v) (λ_=>rfl),ae (v:=Rtr.v) (λ_=>rfl)])
def Kk(raw:List Int)(id:Int)(plane:Int)(t0:Tap):NF:=⟨[(1,.k,.sl 1 (raw.map AV.int) false),rI 2 id,rI 3 plane,rR 9 0],[.box (Tap.v t0)]⟩
def Kj(raw:List Int)(id:Int)(plane:Int)(t1:Tap×Tpl×Pln×List Tbl):NF:=⟨[(1,.k,.sl 1 (raw.map AV.int) false),rI 2 id,rI 3 plane,rR 9 0,rR 10 1,rR 11 2,rV 12 3],[.box (Tap.v t1.1),.box (Tpl.v t1.2.1),.box (Pln.v t1.2.2.1),vB 4 Tbl.v t1.2.2.2 (λ_=>rfl)]⟩
def Ki(raw:List Int)(id:Int)(plane:Int)(t1:Tap×Tpl×Pln×List Tbl)(t2:Tpl):NF:=⟨[(1,.k,.sl 1 (raw.map AV.int) false),rI 2 id,rI 3 plane,rR 9 0,rR 10 1,rR 11 2,rV 12 3,rR 13 4],[.box (.agg [.sl 1 (t1.1.L.map AV.int) false,.int ((((iI t1.1.L t1.1.p t1.2.1 0).2):Nat):Int)]),.box (Tpl.v t1.2.1),.box (Pln.v t1.2.2.1),vB 4 Tbl.v t1.2.2.2 (λ_=>rfl),.box (Tpl.v t2)]⟩
def Kh(raw:List Int)(id:Int)(plane:Int)(t1:Tap×Tpl×Pln×List Tbl)(t3:List Tbl):NF:=⟨[(1,.k,.sl 1 (raw.map AV.int) false),rI 2 id,rI 3 plane,rR 9 0,rR 10 1,rV 12 2,(15,(.s 4),.sl 4 (t3.map Tbl.v) false)],[.box (.agg [.sl 1 (t1.1.L.map AV.int) false,.int ((((iI t1.1.L t1.1.p t1.2.1 0).2):Nat):Int)]),.box (Tpl.v t1.2.1),vB 4 Tbl.v t1.2.2.2 (λ_=>rfl)]⟩
def Kg(raw:List Int)(id:Int)(plane:Int)(t1:Tap×Tpl×Pln×List Tbl)(t3:List Tbl)(t4:List Tbl×Nat):NF:=⟨[(1,.k,.sl 1 (raw.map AV.int) false),rI 2 id,rI 3 plane,rR 9 0,rR 10 1,rV 12 2,(15,.k,.sl 4 (t3.map Tbl.v) false)],[.box (.agg [.sl 1 (t1.1.L.map AV.int) false,.int t4.2]),.box (Tpl.v t1.2.1),vB 4 Tbl.v t4.1 (λ_=>rfl)]⟩
def Kf(raw:List Int)(id:Int)(plane:Int)(t1:Tap×Tpl×Pln×List Tbl)(t3:List Tbl)(t5:Bool):NF:=⟨[(1,.k,.sl 1 (raw.map AV.int) false),rI 2 id,rI 3 plane,rR 9 0,rR 10 1,rV 12 2,(15,.k,.sl 4 (t3.map Tbl.v) false),rB 44 t5],[.box (.agg [.sl 1 (t1.1.L.map AV.int) false,.int (((ab t1.1.L ((iI t1.1.L t1.1.p t1.2.1 0).2)):Nat):Int)]),.box (Tpl.v t1.2.1),vB 4 Tbl.v t1.2.2.2 (λ_=>rfl)]⟩
def Ke(raw:List Int)(id:Int)(plane:Int)(t1:Tap×Tpl×Pln×List Tbl)(t3:List Tbl)(t6:List Tbl×Nat):NF:=⟨[(1,.k,.sl 1 (raw.map AV.int) false),rI 2 id,rI 3 plane,rR 9 0,rR 10 1,rV 12 2,(15,.k,.sl 4 (t3.map Tbl.v) false)],[.box (.agg [.sl 1 (t1.1.L.map AV.int) false,.int t6.2]),.box (Tpl.v t1.2.1),vB 4 Tbl.v t6.1 (λ_=>rfl)]⟩
def Kd(raw:List Int)(id:Int)(plane:Int)(t1:Tap×Tpl×Pln×List Tbl)(t3:List Tbl)(t4:List Tbl×Nat)(t7:Bool):NF:=⟨[(1,.k,.sl 1 (raw.map AV.int) false),rI 2 id,rI 3 plane,rR 9 0,rR 10 1,rV 12 2,(15,.k,.sl 4 (t3.map Tbl.v) false),rB 52 t7],[.box (.agg [.sl 1 (t1.1.L.map AV.int) false,.int (ab t1.1.L t4.2)]),.box (Tpl.v t1.2.1),vB 4 Tbl.v t4.1 (λ_=>rfl)]⟩
def Kc(raw:List Int)(id:Int)(plane:Int)(t1:Tap×Tpl×Pln×List Tbl)(t3:List Tbl)(t6:List Tbl×Nat)(t8:List Int):NF:=⟨[(1,.k,.sl 1 (raw.map AV.int) false),rI 2 id,rI 3 plane,rR 9 0,rV 12 1,(15,.k,.sl 4 (t3.map Tbl.v) false),rV 17 2],[.box (.agg [.sl 1 (t1.1.L.map AV.int) false,.int ((((ew t1.1.L t6.2 t1.2.1.rs).2):Nat):Int)]),vB 4 Tbl.v t6.1 (λ_=>rfl),vB 1 AV.int t8 (λ_=>rfl)]⟩
def Kb(raw:List Int)(id:Int)(plane:Int)(t1:Tap×Tpl×Pln×List Tbl)(t3:List Tbl)(t6:List Tbl×Nat)(t8:List Int)(t9:Bool×Nat):NF:=⟨[(1,.k,.sl 1 (raw.map AV.int) false),rI 2 id,rI 3 plane,rR 9 0,rV 12 1,(15,.k,.sl 4 (t3.map Tbl.v) false),rV 17 2,rB 67 t9.1],[.box (.agg [.sl 1 (t1.1.L.map AV.int) false,.int t9.2]),vB 4 Tbl.v t6.1 (λ_=>rfl),vB 1 AV.int t8 (λ_=>rfl)]⟩
def DX(raw:List Int)(id:Int)(plane:Int)(t1:Tap×Tpl×Pln×List Tbl)(t3:List Tbl)(t6:List Tbl×Nat)(t9:Bool×Nat)(t10:List Tbl):NF:=⟨[rI 2 id,rI 3 plane,rR 9 0,(12,.k,.sl 4 (t6.1.map Tbl.v) false),(15,.k,.sl 4 (t3.map Tbl.v) false),(17,.k,.sl 1 (raw.map AV.int) false),(18,(.s 4),.sl 4 (t10.map Tbl.v) false)],[.box (.agg [.sl 1 (t1.1.L.map AV.int) false,.int t9.2])]⟩
def DW(id:Int)(plane:Int)(t1:Tap×Tpl×Pln×List Tbl)(t9:Bool×Nat)(t10:List Tbl)(t11:Bool):NF:=⟨[rI 2 id,rI 3 plane,rR 9 0,(18,.k,.sl 4 (t10.map Tbl.v) false),rB 93 t11],[.box (.agg [.sl 1 (t1.1.L.map AV.int) false,.int t9.2])]⟩
def DV(id:Int)(plane:Int)(t10:List Tbl)(t12:Int×Int):NF:=⟨[(18,.k,.sl 4 (t10.map Tbl.v) false),rR 19 0],[.box (.agg [.int id,.int plane,.int t12.1,.int t12.2])]⟩
def DU(id:Int)(plane:Int)(t10:List Tbl)(t12:Int×Int)(t13:Bool):NF:=⟨[(18,.k,.sl 4 (t10.map Tbl.v) false),rR 19 0,rI 20 0,rB 128 t13],[.box (.agg [.int id,.int plane,.int t12.1,.int t12.2])]⟩
def DT(id:Int)(plane:Int)(t10:List Tbl)(t12:Int×Int)(t14:Bool):NF:=⟨[(18,.k,.sl 4 (t10.map Tbl.v) false),rR 19 0,rI 20 1,rB 128 t14],[.box (.agg [.int id,.int plane,.int t12.1,.int t12.2])]⟩
def DS(id:Int)(plane:Int)(t1:Tap×Tpl×Pln×List Tbl)(t3:List Tbl)(t6:List Tbl×Nat)(t8:List Int)(t9:Bool×Nat)(t15:List Tbl):NF:=⟨[rI 2 id,rI 3 plane,rR 9 0,(12,.k,.sl 4 (t6.1.map Tbl.v) false),(15,.k,.sl 4 (t3.map Tbl.v) false),(17,.k,.sl 1 (t8.map AV.int) false),(18,(.s 4),.sl 4 (t15.map Tbl.v) false)],[.box (.agg [.sl 1 (t1.1.L.map AV.int) false,.int t9.2])]⟩
def DR(id:Int)(plane:Int)(t1:Tap×Tpl×Pln×List Tbl)(t9:Bool×Nat)(t15:List Tbl)(t16:Bool):NF:=⟨[rI 2 id,rI 3 plane,rR 9 0,(18,.k,.sl 4 (t15.map Tbl.v) false),rB 93 t16],[.box (.agg [.sl 1 (t1.1.L.map AV.int) false,.int t9.2])]⟩
def DQ(id:Int)(plane:Int)(t15:List Tbl)(t17:Int×Int):NF:=⟨[(18,.k,.sl 4 (t15.map Tbl.v) false),rR 19 0],[.box (.agg [.int id,.int plane,.int t17.1,.int t17.2])]⟩
def DP(id:Int)(plane:Int)(t15:List Tbl)(t17:Int×Int)(t18:Bool):NF:=⟨[(18,.k,.sl 4 (t15.map Tbl.v) false),rR 19 0,rI 20 0,rB 128 t18],[.box (.agg [.int id,.int plane,.int t17.1,.int t17.2])]⟩
def DO(id:Int)(plane:Int)(t15:List Tbl)(t17:Int×Int)(t19:Bool):NF:=⟨[(18,.k,.sl 4 (t15.map Tbl.v) false),rR 19 0,rI 20 1,rB 128 t19],[.box (.agg [.int id,.int plane,.int t17.1,.int t17.2])]⟩
@[reducible] def DN:Nat→Type
 | 0=>Tap
 | 1=>Tap×Tpl×Pln×List Tbl
 | 2=>Tpl
 | 3=>(List Tbl)
 | 4=>(List Tbl)×Nat
 | 5=>Bool
 | 6=>(List Tbl)×Nat
 | 7=>Bool
 | 8=>(List Int)
 | 9=>Bool×Nat
 | 10=>(List Tbl)
 | 11=>Bool
 | 12=>Int×Int
 | 13=>Bool
 | 14=>Bool
 | 15=>(List Tbl)
 | 16=>Bool
 | 17=>Int×Int
 | 18=>Bool
 | 19=>Bool
 | _=>Unit
def DY(r:Bool):AV:=.bool r
def DM(t:List Int)(raw:List Int)(id:Int)(plane:Int)(I4:Tap→Tap×Tpl×Pln×List Tbl→Tpl→(List Tbl)→(List Tbl×Nat)→Prop)(I6:Tap→Tap×Tpl×Pln×List Tbl→Tpl→(List Tbl)→(List Tbl)×Nat→(List Tbl×Nat)→Prop)(I9:Tap→Tap×Tpl×Pln×List Tbl→Tpl→(List Tbl)→(List Tbl)×Nat→(List Tbl)×Nat→(List Int)→(Bool×Nat)→Prop)(I11:Tap→Tap×Tpl×Pln×List Tbl→Tpl→(List Tbl)→(List Tbl)×Nat→(List Tbl)×Nat→(List Int)→Bool×Nat→(List Tbl)→Bool→Prop)(I16:Tap→Tap×Tpl×Pln×List Tbl→Tpl→(List Tbl)→(List Tbl)×Nat→(List Tbl)×Nat→(List Int)→Bool×Nat→(List Tbl)→Bool→Prop):Ax Tryz.prog DN (Bool):=
 (.pass (.join 0 (Kk raw id plane) (λ(t0:Tap)=>t0=(((⟨t.take 600,0⟩:Tap)):Tap)) (λb0=>(.callH [] (OP t) 32
(.bk 0 b0 (((⟨t.take 600,0⟩:Tap)):Tap) [32]))) λ(t0:Tap) =>
(.join 1 (Kj raw id plane) (λ(t1:Tap×Tpl×Pln×List Tbl)=>t1=(((⟨t0.L,(gR t0.L t0.p 5).2⟩:Tap),(⟨((gR t0.L t0.p 5).1.1).rs,((gR t0.L t0.p 5).1.1).ls⟩:Tpl),(⟨((gR t0.L t0.p 5).1.2.1).sub,((gR t0.L t0.p 5).1.2.1).len,((gR t0.L t0.p 5).1.2.1).es⟩:Pln),(gR t0.L t0.p 5).1.2.2):Tap×Tpl×Pln×List Tbl)) (λb1=>(.req 17 (1≤5∧5≤20) λh1 =>
(.callH [0] (PZ t0.L t0.p 5 h1) 17
(.bk 1 b1 ((⟨t0.L,(gR t0.L t0.p 5).2⟩:Tap),(⟨((gR t0.L t0.p 5).1.1).rs,((gR t0.L t0.p 5).1.1).ls⟩:Tpl),(⟨((gR t0.L t0.p 5).1.2.1).sub,((gR t0.L t0.p 5).1.2.1).len,((gR t0.L t0.p 5).1.2.1).es⟩:Pln),(gR t0.L t0.p 5).1.2.2) [0,97,113,17])))) λ(t1:Tap×Tpl×Pln×List Tbl) =>
(.join 2 (Ki raw id plane t1) (λ(t2:Tpl)=>t2=(((ce t1.2.1 ((iI t1.1.L t1.1.p t1.2.1 0).1)).1):Tpl)) (λb2=>(.callH [0] (QA t1.1.L t1.1.p t1.2.1 0) 52
(.callP (QU t1.2.1 ((iI t1.1.L t1.1.p t1.2.1 0).1))
(.bk 2 b2 (((ce t1.2.1 ((iI t1.1.L t1.1.p t1.2.1 0).1)).1):Tpl) [0,1,2,3,132])))) λ(t2:Tpl) =>
(.join 3 (Kh raw id plane t1) (λ(t3:List Tbl)=>t3=(((fG t2 t1.2.2.1).1):(List Tbl))) (λb3=>(.callP (HN t2 t1.2.2.1)
(.bk 3 b3 (((fG t2 t1.2.2.1).1):(List Tbl)) [0,1,3]))) λ(t3:List Tbl) =>
(.join 4 (Kg raw id plane t1 t3) (λ(t4:List Tbl×Nat)=>I4 t0 t1 t2 t3 t4) (λb4=>(.join 5 (Kf raw id plane t1 t3) (λ(t5:Bool)=>t5=((dl t1.1.L ((iI t1.1.L t1.1.p t1.2.1 0).2) 3):Bool)) (λb5=>(.callH [0] (fp t1.1.L ((iI t1.1.L t1.1.p t1.2.1 0).2) 3) 19
(.bk 5 b5 ((dl t1.1.L ((iI t1.1.L t1.1.p t1.2.1 0).2) 3):Bool) [0,1,2]))) λ(t5:Bool) =>
(.br 3 t5 (.say (Rf (t1.2.2.2.map Tbl.v)) (.cmd (.frzE 2 (t1.2.2.2.map Tbl.v) (ae (λ_=>rfl) t1.2.2.2)) (.req 83 (eZ t1.2.2.2) λh2 =>
(.callH [0] (NG t1.1.L (ab t1.1.L ((iI t1.1.L t1.1.p t1.2.1 0).2)) t1.2.2.2 ((t1.2.1.rs.map Rtr.v).length:Int) h2) 83
(.bk 4 b4 ((i7 t1.1.L ((t1.2.1.rs.map Rtr.v).length:Int) t1.2.2.2 (ab t1.1.L ((iI t1.1.L t1.1.p t1.2.1 0).2))).1,(i7 t1.1.L ((t1.2.1.rs.map Rtr.v).length:Int) t1.2.2.2 (ab t1.1.L ((iI t1.1.L t1.1.p t1.2.1 0).2))).2) [0,1,83])))))
(.bk 4 b4 (t1.2.2.2,ab t1.1.L ((iI t1.1.L t1.1.p t1.2.1 0).2)) [0,1,2])))) λ(t4:List Tbl×Nat) =>
(.join 6 (Ke raw id plane t1 t3) (λ(t6:List Tbl×Nat)=>I6 t0 t1 t2 t3 t4 t6) (λb6=>(.join 7 (Kd raw id plane t1 t3 t4) (λ(t7:Bool)=>t7=((dl t1.1.L t4.2 8):Bool)) (λb7=>(.callH [0] (fp t1.1.L t4.2 8) 19
(.bk 7 b7 ((dl t1.1.L t4.2 8):Bool) [0,1,2]))) λ(t7:Bool) =>
(.br 3 t7 (.callH [0] (NY t1.1.L (ab t1.1.L t4.2) 2) 35
(.apX 67 Tbl.v t4.1 [(j8 t1.1.L (ab t1.1.L t4.2) 2).1] (t4.1.length+1)
(.bk 6 b6 (t4.1++[(j8 t1.1.L (ab t1.1.L t4.2) 2).1],(j8 t1.1.L (ab t1.1.L t4.2) 2).2) [0,1,67])))
(.bk 6 b6 (t4.1,ab t1.1.L t4.2) [0,1,2])))) λ(t6:List Tbl×Nat) =>
(.join 8 (Kc raw id plane t1 t3 t6) (λ(t8:List Int)=>t8=(((ew t1.1.L t6.2 t1.2.1.rs).1):(List Int))) (λb8=>(.req 35 (t1.2.1.rs.length≤1000) λh3 =>
(.callH [0] (Oh t1.1.L t6.2 t1.2.1 h3) 35
(.bk 8 b8 (((ew t1.1.L t6.2 t1.2.1.rs).1):(List Int)) [0,2,35])))) λ(t8:List Int) =>
(.pass (.join 9 (Kb raw id plane t1 t3 t6 t8) (λ(t9:Bool×Nat)=>I9 t0 t1 t2 t3 t4 t6 t8 t9) (λb9=>(.br 67 (decide (((raw.map AV.int).length:Int)≤60)) (.callH [0] (fp t1.1.L ((ew t1.1.L t6.2 t1.2.1.rs).2) 5) 83
(.bk 9 b9 (dl t1.1.L ((ew t1.1.L t6.2 t1.2.1.rs).2) 5,ab t1.1.L ((ew t1.1.L t6.2 t1.2.1.rs).2)) [0,1,2]))
(.bk 9 b9 (false,(ew t1.1.L t6.2 t1.2.1.rs).2) [0,1,2]))) λ(t9:Bool×Nat) =>
(.br 3 t9.1 (.join 10 (DX raw id plane t1 t3 t6 t9) (λ(t10:List Tbl)=>t10=((kG t6.1 t3 raw):(List Tbl))) (λb10=>(.say (Rf (t6.1.map Tbl.v)) (.cmd (.frzE 1 (t6.1.map Tbl.v) (ae (λ_=>rfl) t6.1)) (.req 83 (eZ t6.1) λh4 =>
(.req 83 (eZ t3) λh5 =>
(.callP (DI t6.1 t3 raw h4 h5)
(.bk 10 b10 ((kG t6.1 t3 raw):(List Tbl)) [0]))))))) λ(t10:List Tbl) =>
(.pass (.join 11 (DW id plane t1 t9 t10) (λ(t11:Bool)=>I11 t0 t1 t2 t3 t4 t6 t8 t9 t10 t11) (λb11=>(.req 65 (eZ t6.1) λh6 =>
(.req 65 (eZ t3) λh7 =>
(.callP (yA t6.1 t3 raw h6 h7)
(.callP (xF t10 (kG t6.1 t3 raw))
(.br 129 (!(decide (t10=(kG t6.1 t3 raw)))) (.bk 11 b11 ((true):Bool) [0])
(.callP (pq t10)
(.callP (mi t10)
(.br 241 (!((iC t10)==(iC t10))) (.bk 11 b11 ((true):Bool) [0])
(.callP (pq t6.1)
(.callP (mi t6.1)
(.bk 11 b11 ((!((iC t6.1)==(iC t6.1))):Bool) [0])))))))))))) λ(t11:Bool) =>
(.br 1 t11 (.ret (false))
(.join 12 (DV id plane t10) (λ(t12:Int×Int)=>t12=((rng t1.1.L t9.2 0 9,rng t1.1.L (ab t1.1.L t9.2) (-1) 8):Int×Int)) (λb12=>(.callH [0] (dX t1.1.L t9.2 0 9) 65
(.callH [0] (dX t1.1.L (ab t1.1.L t9.2) (-1) 8) 97
(.bk 12 b12 (rng t1.1.L t9.2 0 9,rng t1.1.L (ab t1.1.L t9.2) (-1) 8) [145])))) λ(t12:Int×Int) =>
(.unr 3 (.pass (.pass (.pass (.join 13 (DU id plane t10 t12) (λ(t13:Bool)=>t13=((!(decide ((cS t10 id plane)=(cS t10 id plane)))):Bool)) (λb13=>(.callP (pP t10 id plane)
(.callP (kJ t10 id plane)
(.callP (n9 (cS t10 id plane) (cS t10 id plane))
(.bk 13 b13 ((!(decide ((cS t10 id plane)=(cS t10 id plane)))):Bool) [0]))))) λ(t13:Bool) =>
(.br 1 t13 (.ret (false))
(.pass (.pass (.pass (.join 14 (DT id plane t10 t12) (λ(t14:Bool)=>t14=((!(decide ((cS t10 t12.1 t12.2)=(cS t10 t12.1 t12.2)))):Bool)) (λb14=>(.callP (pP t10 t12.1 t12.2)
(.callP (kJ t10 t12.1 t12.2)
(.callP (n9 (cS t10 t12.1 t12.2) (cS t10 t12.1 t12.2))
(.bk 14 b14 ((!(decide ((cS t10 t12.1 t12.2)=(cS t10 t12.1 t12.2)))):Bool) [0]))))) λ(t14:Bool) =>
(.br 1 t14 (.ret (false))
(.callP (zU )
(.ret (true)))))))))))))))))))
(.join 15 (DS id plane t1 t3 t6 t8 t9) (λ(t15:List Tbl)=>t15=((kG t6.1 t3 t8):(List Tbl))) (λb15=>(.say (Rf (t6.1.map Tbl.v)) (.cmd (.frzE 1 (t6.1.map Tbl.v) (ae (λ_=>rfl) t6.1)) (.say (Rf (t8.map AV.int)) (.cmd (.frzE 2 (t8.map AV.int) (ae (λ_=>rfl) t8)) (.req 51 (eZ t6.1) λh8 =>
(.req 51 (eZ t3) λh9 =>
(.callP (DI t6.1 t3 t8 h8 h9)
(.bk 15 b15 ((kG t6.1 t3 t8):(List Tbl)) [0]))))))))) λ(t15:List Tbl) =>
(.pass (.join 16 (DR id plane t1 t9 t15) (λ(t16:Bool)=>I16 t0 t1 t2 t3 t4 t6 t8 t9 t15 t16) (λb16=>(.req 65 (eZ t6.1) λh10 =>
(.req 65 (eZ t3) λh11 =>
(.callP (yA t6.1 t3 t8 h10 h11)
(.callP (xF t15 (kG t6.1 t3 t8))
(.br 129 (!(decide (t15=(kG t6.1 t3 t8)))) (.bk 16 b16 ((true):Bool) [0])
(.callP (pq t15)
(.callP (mi t15)
(.br 241 (!((iC t15)==(iC t15))) (.bk 16 b16 ((true):Bool) [0])
(.callP (pq t6.1)
(.callP (mi t6.1)
(.bk 16 b16 ((!((iC t6.1)==(iC t6.1))):Bool) [0])))))))))))) λ(t16:Bool) =>
(.br 1 t16 (.ret (false))
(.join 17 (DQ id plane t15) (λ(t17:Int×Int)=>t17=((rng t1.1.L t9.2 0 9,rng t1.1.L (ab t1.1.L t9.2) (-1) 8):Int×Int)) (λb17=>(.callH [0] (dX t1.1.L t9.2 0 9) 65
(.callH [0] (dX t1.1.L (ab t1.1.L t9.2) (-1) 8) 97
(.bk 17 b17 (rng t1.1.L t9.2 0 9,rng t1.1.L (ab t1.1.L t9.2) (-1) 8) [145])))) λ(t17:Int×Int) =>
(.unr 3 (.pass (.pass (.pass (.join 18 (DP id plane t15 t17) (λ(t18:Bool)=>t18=((!(decide ((cS t15 id plane)=(cS t15 id plane)))):Bool)) (λb18=>(.callP (pP t15 id plane)
(.callP (kJ t15 id plane)
(.callP (n9 (cS t15 id plane) (cS t15 id plane))
(.bk 18 b18 ((!(decide ((cS t15 id plane)=(cS t15 id plane)))):Bool) [0]))))) λ(t18:Bool) =>
(.br 1 t18 (.ret (false))
(.pass (.pass (.pass (.join 19 (DO id plane t15 t17) (λ(t19:Bool)=>t19=((!(decide ((cS t15 t17.1 t17.2)=(cS t15 t17.1 t17.2)))):Bool)) (λb19=>(.callP (pP t15 t17.1 t17.2)
(.callP (kJ t15 t17.1 t17.2)
(.callP (n9 (cS t15 t17.1 t17.2) (cS t15 t17.1 t17.2))
(.bk 19 b19 ((!(decide ((cS t15 t17.1 t17.2)=(cS t15 t17.1 t17.2)))):Bool) [0]))))) λ(t19:Bool) =>
(.br 1 t19 (.ret (false))
(.callP (zU )
(.ret (true))))))))))))))))))))))))))))))
theorem Pb(t raw:List Int)(id plane:Int):∃I4 I6 I9 I11 I16,(DM t raw id plane I4 I6 I9 I11 I16).vp DY true:=by
 refine⟨λ_ _ _ _ s=>s.1.length≤24∧∀b∈s.1,okT b,λ_ _ _ _ _ s=>eZ s.1,λ_ _ _ _ _ _ _ _=>True,λ_ _ _ _ _ _ _ _ _ b=>b=false,λ_ _ _ _ _ _ _ _ _ b=>b=false,?_⟩;dsimp only[DM,DN,Ax.vp,Ax.vc];simp only[vcU,rfU,u'];refine⟨trivial,?_⟩;rintro _ rfl;refine⟨⟨by omega,trivial⟩,?_⟩;intro (T:Tap×Tpl×Pln×List Tbl) hT;have hD:=qK (t:=(gR (t.take 600) 0 5).1.1) (p:=(gR (t.take 600) 0 5).1.2.1);have hD:T.2.2.2.length≤24∧∀b∈T.2.2.2,okT b:=by rw[hT];exact hD
 have hg:T.2.1.rs.length≤50:=by rw[hT];exact mL (by omega) (by omega)
 clear hT;refine⟨trivial,?_⟩;intro (H:Tpl) _;refine⟨trivial,?_⟩;intro (B:List Tbl) hB;have hB:eZ B:=by
  have:=qK (t:=H) (p:=T.2.2.1);rw[hB];exact⟨aF' this.1 (by omega),this.2⟩
 have hD':eZ T.2.2.2:=⟨by have:=hD.1;omega,hD.2⟩
 refine⟨⟨trivial,λb _=>⟨λ_=>⟨hD',?_⟩,λ_=>hD⟩⟩,?_⟩
 ·exact⟨by rw[qY];exact hD.1,wT hD.2⟩
 intro (s4:List Tbl×Nat) h4
 refine⟨⟨trivial,λb _=>⟨λ_=>⟨by have:=h4.1;omega,?_⟩,λ_=>⟨by have:=h4.1;omega,h4.2⟩⟩⟩,?_⟩
 ·refine⟨by have:=h4.1;simp;omega,λb hb=>?_⟩
  rcases ab'.mp hb with hb|hb
  ·exact h4.2 b hb
  ·rw[L'.mp hb];exact IB
 intro (s5:List Tbl×Nat) h5
 refine⟨⟨by omega,trivial⟩,λs6 _=>⟨⟨λ_=>trivial,λ_=>trivial⟩,λs7 _=>⟨λ_=>?_,λ_=>?_⟩⟩⟩
 ·refine⟨⟨h5,hB,trivial⟩,?_⟩;intro (M:List Tbl) hM
  refine⟨⟨h5,hB,?_⟩,?_⟩
  ·simp[hM]
  rintro _ rfl;simp
 ·refine⟨⟨h5,hB,trivial⟩,?_⟩;intro (M:List Tbl) hM
  refine⟨⟨h5,hB,?_⟩,?_⟩
  ·simp[hM]
  rintro _ rfl;simp
def Pc(t:List Int)(raw:List Int)(id:Int)(plane:Int):PC Tryz.prog:=pcO 3 [(.s 1),(.s 1),.k,.k] [.sl 1 (t.map AV.int) false,.sl 1 (raw.map AV.int) false,.int id,.int plane] .k DY true (λ_=>let ⟨I4,I6,I9,I11,I16,h⟩:=Pb t raw id plane;⟨_,h,by kernel_rfl⟩) rfl (by kernel_rfl)
end Go.Proofs.YtiobpjoadkfhdaaGreat
