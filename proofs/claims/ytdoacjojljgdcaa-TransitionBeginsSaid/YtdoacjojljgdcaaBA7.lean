/- Texts joined: TW FV Si OR1 SI OR2 AP4 RF2 RF3 RF4 RF5 TBL VA1 KC TB. -/
import Derived.Shelf.Sort.Plain
import Derived.Shelf.Slices.In.SortNone
import Derived.Test.YtdoacjojljgdcaaProg
import Derived.Sort.OwnSortedInts
import Derived.Test.YtdoacjojljgdcaaBA6
set_option linter.unusedVariables false
set_option linter.unusedSimpArgs false
set_option linter.unusedSectionVars false
namespace Go.Proofs.Ytdoacjojljgdcaa
open Go Go.Am
def m8(ch:List Int)(x y:Rnk):Bool:=decide (x.n<y.n) && (!(decide (x.r∈ch)) && decide (y.r∈ch))
def o8(l:List Rnk)(ch:List Int):Bool:=l.all λx=>l.all λy=>!(m8 ch x y)
def zV(l:List Rnk)(changed:List Int):=okL [.sl 2 (l.map Rnk.v) false,.sl 1 (changed.map AV.int) false]
def C7(l:List Rnk)(changed:List Int)(t0:Int):NF:=⟨[(0,.k,.sl 2 (l.map Rnk.v) false),(1,.k,.sl 1 (changed.map AV.int) false),(9,.k,.sl 2 (l.map Rnk.v) false),rI 10 ((l.map Rnk.v).length:Int),rI 11 t0],[]⟩
def C6(l:List Rnk)(changed:List Int)(t0:Int)(x1:Rnk)(t1:Int):NF:=⟨[(0,.k,.sl 2 (l.map Rnk.v) false),(1,.k,.sl 1 (changed.map AV.int) false),rR 6 0,(9,.k,.sl 2 (l.map Rnk.v) false),rI 10 ((l.map Rnk.v).length:Int),rI 11 t0,(15,.k,.sl 2 (l.map Rnk.v) false),rI 16 ((l.map Rnk.v).length:Int),rI 17 t1],[.box (Rnk.v x1)]⟩
def C5(l:List Rnk)(changed:List Int)(t0:Int)(x1:Rnk)(t1:Int)(t2:Bool):NF:=⟨[(0,.k,.sl 2 (l.map Rnk.v) false),(1,.k,.sl 1 (changed.map AV.int) false),rR 6 0,(9,.k,.sl 2 (l.map Rnk.v) false),rI 10 ((l.map Rnk.v).length:Int),rI 11 t0,(15,.k,.sl 2 (l.map Rnk.v) false),rI 16 ((l.map Rnk.v).length:Int),rI 17 t1,rB 38 t2],[.box (Rnk.v x1)]⟩
@[reducible] def zT:Nat→Type
 | 0=>Int
 | 1=>Int
 | 2=>Bool
 | _=>Unit
def zU(r:Bool):AV:=.bool r
def zS(l:List Rnk)(changed:List Int)(I0:Int→Prop)(m0:Int→Nat)(I1:Int→Rnk→Int→Prop)(m1:Int→Rnk→Int→Nat)(I2:Int→Rnk→Int→Rnk→Bool→Prop):Ax Try.prog zT (Bool):=
 (.loop 0 (C7 l changed) I0 m0 ((0):Int) [] λ(t0:Int) b0 =>
(.br 16 (decide (t0<((l.map Rnk.v).length:Int))) (.elI 16 Rnk.v l t0 λx1 =>
(.loop 1 (C6 l changed t0 x1) (I1 t0 x1) (m1 t0 x1) ((0):Int) [48] λ(t1:Int) b1 =>
(.br 17 (decide (t1<((l.map Rnk.v).length:Int))) (.elI 17 Rnk.v l t1 λx2 =>
(.join 2 (C5 l changed t0 x1 t1) (λ(t2:Bool)=>I2 t0 x1 t1 x2 t2) (λb2=>(.br 177 (decide (x1.n<x2.n)) (.callP (fj changed x1.r)
(.br 289 (!(decide (x1.r∈changed))) (.callP (fj changed x2.r)
(.bk 2 b2 ((decide (x2.r∈changed)):Bool) [0]))
(.bk 2 b2 ((false):Bool) [0])))
(.bk 2 b2 ((false):Bool) [0]))) λ(t2:Bool) =>
(.br 1 t2 (.ret (false))
(.bk 1 b1 ((W (t1+1)):Int) [0]))))
(.bk 0 b0 ((W (t0+1)):Int) []))))
(.ret (true))))
theorem Fj(l:List Rnk)(ch:List Int)(h:l.length≤1000000)(ok:zV l ch):∃I0 m0 I1 m1 I2,(zS l ch I0 m0 I1 m1 I2).vp zU (o8 l ch):=by
 refine⟨λi=>dE l (λx=>(l.all λy=>!(m8 ch x y))=true) i,λi=>l.length-i.toNat,λ_ x i=>dE l (λy=>m8 ch x y=false) i,λ_ _ i=>l.length-i.toNat,λ_ x _ y b=>b=m8 ch x y,?_⟩;simp only[zV,Rnk.v,okU,Blk.ok,bc,B']at ok;dsimp only[zS,zT,Ax.vp,Ax.vc];simp only[vcU,rfU,B']
 refine⟨dE.zero,λi hi=>⟨λc=>⟨hi.idx,c,λx hx=>⟨dE.zero,λj hj=>⟨λd=>⟨hj.idx,d,λy hy=>⟨⟨λe=>⟨λe2=>?_,λe2=>?_⟩,λe=>?_⟩,?_⟩⟩,λd=>?_⟩⟩⟩,λc=>?_⟩⟩
 ·unfold m8;rw[decide_eq_true e,e2];rfl
 ·unfold m8;rw[e2];simp
 ·unfold m8;rw[decide_eq_false e];rfl
 ·rintro _ rfl;refine⟨λe=>?_,λe=>hj.step (by omega) hy e⟩;refine(Bool.eq_false_iff.mpr λq=>?_).symm;unfold o8 at q;have:=aE'.mp (aE'.mp q x (sO hx)) y (sO hy);rw[e]at this;cases this
 ·exact hi.step (by omega) hx (aE'.mpr λy hy=>by rw[hj.done d y hy];rfl)
 ·exact(aE'.mpr λx hx=>hi.done c x hx).symm
def sP(l:List Rnk)(changed:List Int)(h:l.length≤1000000):PC Try.prog:=pcO 11 [(.s 2),(.s 1)] [.sl 2 (l.map Rnk.v) false,.sl 1 (changed.map AV.int) false] .k zU (o8 l changed) (λok=>let ⟨I0,m0,I1,m1,I2,h⟩:=Fj l changed h ok;⟨_,h,by kernel_rfl⟩) rfl (by kernel_rfl)
def T18:Tpl:=⟨[⟨1,true⟩,⟨2,true⟩,⟨3,true⟩,⟨4,true⟩],[⟨1,2,1,1,0⟩,⟨1,3,1,1,0⟩,⟨1,4,1,1,0⟩,⟨2,3,1,1,0⟩]⟩
theorem uQ:(aD T18 ⟨1,2,0,0⟩).1=1∧(aD T18 ⟨1,2,0,0⟩).2.2.2=0:=⟨by kernel_rfl,by kernel_rfl⟩
theorem CE:bP T18 ⟨1,2,0,0⟩=[⟨1,1⟩,⟨2,0⟩,⟨3,0⟩,⟨4,0⟩]:=by kernel_rfl
def uI(r:Bool):AV:=.bool r
def o7:Ax Try.prog noS (Bool):=
 (.callP (tD (⟨[(⟨1,true⟩:Rtr),(⟨2,true⟩:Rtr),(⟨3,true⟩:Rtr),(⟨4,true⟩:Rtr)],[(⟨1,2,1,1,0⟩:Lnk),(⟨1,3,1,1,0⟩:Lnk),(⟨1,4,1,1,0⟩:Lnk),(⟨2,3,1,1,0⟩:Lnk)]⟩:Tpl) (⟨1,2,0,0⟩:Chg))
(.callP (DZ (⟨[(⟨1,true⟩:Rtr),(⟨2,true⟩:Rtr),(⟨3,true⟩:Rtr),(⟨4,true⟩:Rtr)],[(⟨1,2,1,1,0⟩:Lnk),(⟨1,3,1,1,0⟩:Lnk),(⟨1,4,1,1,0⟩:Lnk),(⟨2,3,1,1,0⟩:Lnk)]⟩:Tpl) (⟨1,2,0,0⟩:Chg))
(.br 528 (((aD (⟨[(⟨1,true⟩:Rtr),(⟨2,true⟩:Rtr),(⟨3,true⟩:Rtr),(⟨4,true⟩:Rtr)],[(⟨1,2,1,1,0⟩:Lnk),(⟨1,3,1,1,0⟩:Lnk),(⟨1,4,1,1,0⟩:Lnk),(⟨2,3,1,1,0⟩:Lnk)]⟩:Tpl) (⟨1,2,0,0⟩:Chg)).2.2.2)==0) (.br 592 (((aD (⟨[(⟨1,true⟩:Rtr),(⟨2,true⟩:Rtr),(⟨3,true⟩:Rtr),(⟨4,true⟩:Rtr)],[(⟨1,2,1,1,0⟩:Lnk),(⟨1,3,1,1,0⟩:Lnk),(⟨1,4,1,1,0⟩:Lnk),(⟨2,3,1,1,0⟩:Lnk)]⟩:Tpl) (⟨1,2,0,0⟩:Chg)).2.2.2)==0) (.br 656 (((aD (⟨[(⟨1,true⟩:Rtr),(⟨2,true⟩:Rtr),(⟨3,true⟩:Rtr),(⟨4,true⟩:Rtr)],[(⟨1,2,1,1,0⟩:Lnk),(⟨1,3,1,1,0⟩:Lnk),(⟨1,4,1,1,0⟩:Lnk),(⟨2,3,1,1,0⟩:Lnk)]⟩:Tpl) (⟨1,2,0,0⟩:Chg)).1)==1) (.br 736 ((((bP (⟨[(⟨1,true⟩:Rtr),(⟨2,true⟩:Rtr),(⟨3,true⟩:Rtr),(⟨4,true⟩:Rtr)],[(⟨1,2,1,1,0⟩:Lnk),(⟨1,3,1,1,0⟩:Lnk),(⟨1,4,1,1,0⟩:Lnk),(⟨2,3,1,1,0⟩:Lnk)]⟩:Tpl) (⟨1,2,0,0⟩:Chg)).map Rnk.v).length:Int)==4) (.el 752 Rnk.v (bP (⟨[(⟨1,true⟩:Rtr),(⟨2,true⟩:Rtr),(⟨3,true⟩:Rtr),(⟨4,true⟩:Rtr)],[(⟨1,2,1,1,0⟩:Lnk),(⟨1,3,1,1,0⟩:Lnk),(⟨1,4,1,1,0⟩:Lnk),(⟨2,3,1,1,0⟩:Lnk)]⟩:Tpl) (⟨1,2,0,0⟩:Chg)) (λR=>Rf ((bP (⟨[(⟨1,true⟩:Rtr),(⟨2,true⟩:Rtr),(⟨3,true⟩:Rtr),(⟨4,true⟩:Rtr)],[(⟨1,2,1,1,0⟩:Lnk),(⟨1,3,1,1,0⟩:Lnk),(⟨1,4,1,1,0⟩:Lnk),(⟨2,3,1,1,0⟩:Lnk)]⟩:Tpl) (⟨1,2,0,0⟩:Chg)).map Rnk.v) (ck (decide (0<((bP (⟨[(⟨1,true⟩:Rtr),(⟨2,true⟩:Rtr),(⟨3,true⟩:Rtr),(⟨4,true⟩:Rtr)],[(⟨1,2,1,1,0⟩:Lnk),(⟨1,3,1,1,0⟩:Lnk),(⟨1,4,1,1,0⟩:Lnk),(⟨2,3,1,1,0⟩:Lnk)]⟩:Tpl) (⟨1,2,0,0⟩:Chg)).length:Int)))
(∀x1,(bP (⟨[(⟨1,true⟩:Rtr),(⟨2,true⟩:Rtr),(⟨3,true⟩:Rtr),(⟨4,true⟩:Rtr)],[(⟨1,2,1,1,0⟩:Lnk),(⟨1,3,1,1,0⟩:Lnk),(⟨1,4,1,1,0⟩:Lnk),(⟨2,3,1,1,0⟩:Lnk)]⟩:Tpl) (⟨1,2,0,0⟩:Chg))[0]?=some x1 →
(R x1)))) λx1 =>
(.br 848 ((x1.r==1) && ((x1.n==1) && true)) (.el 864 Rnk.v (bP (⟨[(⟨1,true⟩:Rtr),(⟨2,true⟩:Rtr),(⟨3,true⟩:Rtr),(⟨4,true⟩:Rtr)],[(⟨1,2,1,1,0⟩:Lnk),(⟨1,3,1,1,0⟩:Lnk),(⟨1,4,1,1,0⟩:Lnk),(⟨2,3,1,1,0⟩:Lnk)]⟩:Tpl) (⟨1,2,0,0⟩:Chg)) (λR=>Rf ((bP (⟨[(⟨1,true⟩:Rtr),(⟨2,true⟩:Rtr),(⟨3,true⟩:Rtr),(⟨4,true⟩:Rtr)],[(⟨1,2,1,1,0⟩:Lnk),(⟨1,3,1,1,0⟩:Lnk),(⟨1,4,1,1,0⟩:Lnk),(⟨2,3,1,1,0⟩:Lnk)]⟩:Tpl) (⟨1,2,0,0⟩:Chg)).map Rnk.v) (ck (decide (3<((bP (⟨[(⟨1,true⟩:Rtr),(⟨2,true⟩:Rtr),(⟨3,true⟩:Rtr),(⟨4,true⟩:Rtr)],[(⟨1,2,1,1,0⟩:Lnk),(⟨1,3,1,1,0⟩:Lnk),(⟨1,4,1,1,0⟩:Lnk),(⟨2,3,1,1,0⟩:Lnk)]⟩:Tpl) (⟨1,2,0,0⟩:Chg)).length:Int)))
(∀x2,(bP (⟨[(⟨1,true⟩:Rtr),(⟨2,true⟩:Rtr),(⟨3,true⟩:Rtr),(⟨4,true⟩:Rtr)],[(⟨1,2,1,1,0⟩:Lnk),(⟨1,3,1,1,0⟩:Lnk),(⟨1,4,1,1,0⟩:Lnk),(⟨2,3,1,1,0⟩:Lnk)]⟩:Tpl) (⟨1,2,0,0⟩:Chg))[3]?=some x2 →
(R x2)))) λx2 =>
(.br 960 ((x2.r==4) && ((x2.n==0) && true)) (.req 992 ((bP (⟨[(⟨1,true⟩:Rtr),(⟨2,true⟩:Rtr),(⟨3,true⟩:Rtr),(⟨4,true⟩:Rtr)],[(⟨1,2,1,1,0⟩:Lnk),(⟨1,3,1,1,0⟩:Lnk),(⟨1,4,1,1,0⟩:Lnk),(⟨2,3,1,1,0⟩:Lnk)]⟩:Tpl) (⟨1,2,0,0⟩:Chg)).length≤1000000) λh3 =>
(.callP (sP (bP (⟨[(⟨1,true⟩:Rtr),(⟨2,true⟩:Rtr),(⟨3,true⟩:Rtr),(⟨4,true⟩:Rtr)],[(⟨1,2,1,1,0⟩:Lnk),(⟨1,3,1,1,0⟩:Lnk),(⟨1,4,1,1,0⟩:Lnk),(⟨2,3,1,1,0⟩:Lnk)]⟩:Tpl) (⟨1,2,0,0⟩:Chg)) [4] h3)
(.br 1040 (o8 (bP (⟨[(⟨1,true⟩:Rtr),(⟨2,true⟩:Rtr),(⟨3,true⟩:Rtr),(⟨4,true⟩:Rtr)],[(⟨1,2,1,1,0⟩:Lnk),(⟨1,3,1,1,0⟩:Lnk),(⟨1,4,1,1,0⟩:Lnk),(⟨2,3,1,1,0⟩:Lnk)]⟩:Tpl) (⟨1,2,0,0⟩:Chg)) [4]) (.req 1072 ((bP (⟨[(⟨1,true⟩:Rtr),(⟨2,true⟩:Rtr),(⟨3,true⟩:Rtr),(⟨4,true⟩:Rtr)],[(⟨1,2,1,1,0⟩:Lnk),(⟨1,3,1,1,0⟩:Lnk),(⟨1,4,1,1,0⟩:Lnk),(⟨2,3,1,1,0⟩:Lnk)]⟩:Tpl) (⟨1,2,0,0⟩:Chg)).length≤1000000) λh4 =>
(.callP (sP (bP (⟨[(⟨1,true⟩:Rtr),(⟨2,true⟩:Rtr),(⟨3,true⟩:Rtr),(⟨4,true⟩:Rtr)],[(⟨1,2,1,1,0⟩:Lnk),(⟨1,3,1,1,0⟩:Lnk),(⟨1,4,1,1,0⟩:Lnk),(⟨2,3,1,1,0⟩:Lnk)]⟩:Tpl) (⟨1,2,0,0⟩:Chg)) [1] h4)
(.ret (!(o8 (bP (⟨[(⟨1,true⟩:Rtr),(⟨2,true⟩:Rtr),(⟨3,true⟩:Rtr),(⟨4,true⟩:Rtr)],[(⟨1,2,1,1,0⟩:Lnk),(⟨1,3,1,1,0⟩:Lnk),(⟨1,4,1,1,0⟩:Lnk),(⟨2,3,1,1,0⟩:Lnk)]⟩:Tpl) (⟨1,2,0,0⟩:Chg)) [1])))))
(.ret (false)))))
(.ret (false))))
(.ret (false))))
(.ret (false)))
(.ret (false)))
(.ret (false)))
(.ret (false)))))
theorem Cs:o7.vp uI true:=by
  dsimp only[o7,noS,Ax.vp,Ax.vc];simp only[vcU,rfU,B'];rw[show({ rs:=[{ id:=1,cap:=true },{ id:=2,cap:=true },{ id:=3,cap:=true },{ id:=4,cap:=true }],ls:=[{ a:=1,b:=2,ca:=1,cb:=1,w:=0 },{ a:=1,b:=3,ca:=1,cb:=1,w:=0 },{ a:=1,b:=4,ca:=1,cb:=1,w:=0 },{ a:=2,b:=3,ca:=1,cb:=1,w:=0 }] }:Tpl)=T18 from rfl,CE,uQ.1,uQ.2];simp[o8,m8]
def uJ:PC Try.prog:=pcO 8 [] [] .k uI true (λ_=>⟨(o7),Cs,by kernel_rfl⟩) rfl (by kernel_rfl)
theorem ap.nilvecV{k n:Nat}{tm:Nat→AV}{hp:Hp}{nx kq:Nat}{vs:List AV}(b0 i kk k':Nat)(hb:hp b0=some (.vec kq vs))(h:vs[i]?=some (.sl kk [] true))(hk:k≤nx) :
  ap k n ⟨tm,hp,nx⟩ ⟨tm,upd (upd hp b0 (some (.vec kq (vs.set i (.vec nx))))) nx (some (.vec k' [])),nx+1⟩:=by
 rintro P c a w ⟨h0,A,μ,H⟩;obtain⟨hd0,q1,⟨q2,q3⟩,q8⟩:=H.blk b0 _ hb;have hi:i<vs.length:=(L'.mp h).1
 rcases q3 with⟨rfl,_⟩|⟨r1,r2,r3,r4,C,ty,cs,r5,r6,r7,r8,r9,r10⟩
 ·simp at hi
 have hv0:=(RVL.length r6)
 obtain⟨vi,hvi⟩:∃vi,cs[i]?=some vi:=⟨cs[i]'(by omega),u' (by omega)⟩
 obtain⟨ad,hv⟩:=RV.nilsl (RVL.get2 r6 h hvi);obtain⟨f1,f2⟩:μ nx=none∧hp nx=none:=H.fr nx (S' _)
 let hd:Hd:=⟨some ad,0,k',0,0⟩
 have hne:b0≠nx:=λe=>by subst e;rw[f2]at hb;cases hb
 have hle:be μ (upd μ nx (some hd)):=by
  intro b hd' e
  by_cases g:b=nx
  ·subst g;rw[f1]at e;cases e
  ·rw[ai _ _ g];exact e
 have key:=H.add nx f2 (upd μ nx (some hd)) hle (λb hb=>ai _ _ hb) hd (ah _ _ _) (.vec k' []) ⟨rfl,.inl ⟨rfl,rfl⟩⟩ (λe=>by cases e) (λ_ _ _ _ _ _ e=>by cases e);have hswap:upd (upd hp b0 (some (.vec kq (vs.set i (.vec nx))))) nx (some (.vec k' []))=upd (upd hp nx (some (.vec k' []))) b0 (some (.vec kq (vs.set i (.vec nx)))):=by
  funext b
  by_cases e1:b=b0
  ·subst e1;rw[ah,ai _ _ hne,ah]
  ·rw[ai _ _ e1]
   by_cases e2:b=nx
   ·subst e2;rw[ah,ah]
   ·rw[ai _ _ e2,ai _ _ e1,ai _ _ e2]
 rw[hswap];have hb1:upd hp nx (some (.vec k' [])) b0=some (.vec kq vs):=by rw[ai _ _ hne];exact hb
 have fin:=key.say hb1 (y:=.vec kq (vs.set i (.vec nx))) λhd1 e1 e2=>by
  obtain⟨t2,t3⟩:=e2;rw[hle _ _ q1]at e1;cases e1
  rcases t3 with⟨e,_⟩|⟨s1,s2,s3,s4,C',ty',cs',s5,s6,s7,s8,s9,s10⟩
  ·rw[e]at hi;simp at hi
  ·refine⟨t2,.inr ⟨s1,by rw[be'];exact s2,s3,s4,C',ty',cs',s5,?_,λx hx=>?_,s8,s9,s10⟩⟩
   ·obtain⟨vj,hvj⟩:∃vj,cs'[i]?=some vj:=⟨cs'[i]'(by have:=RVL.length s6;omega),u' _⟩
    rw[r5]at s5;cases s5;obtain⟨ad',hv'⟩:=RV.nilsl (RVL.get2 s6 h hvj);have g1:=jx r8 hvi (p:=0);have g2:=jx s8 hvj (p:=0);have hvv:vj=vi:=by
     have hkq:0<kq:=by
      have:=r8 vi (J' hvi);rw[hv]at this;rw[←this];exact Nat.zero_lt_one
     have g3:vj.cells[0]?=vi.cells[0]?:=by rw[←g2 hkq,←g1 hkq,←s10,←r10]
     rw[hv,hv']at g3;rw[hv,hv'];exact af' g3
    subst hvv;exact RVL.setAt s6 hvj ⟨hd,ah _ _ _,hv⟩
   ·rcases aj' hx with hx|rfl
    ·exact s7 x hx
    ·rfl
 exact⟨h0,A,upd μ nx (some hd),fin.free λb hb=>⟨show nx≤b by have:nx+1≤b:=hb;omega,by have:nx+1≤b:=hb;omega⟩⟩
theorem ap.giveV{k n:Nat}{tm:Nat→AV}{hp:Hp}{nx kk kq:Nat}{vs es:List AV}(b0 i b:Nat)(h0:hp b0=some (.vec kq vs))(hi:vs[i]?=some (.vec b))(hb:hp b=some (.vec kk es))(hne:b0≠b)(hx:aH es) :
  ap k n ⟨tm,hp,nx⟩ ⟨tm,upd (upd hp b none) b0 (some (.vec kq (vs.set i (.sl kk es false)))),nx⟩:=by
 refine ap.give2 b rfl (λu=>.inr aZ.refl) (λb' x hx'=>?_) (by show hp b≠none;rw[hb];simp);have hx':upd (upd hp b none) b0 (some (.vec kq (vs.set i (.sl kk es false)))) b'=some x:=hx'
 by_cases e:b'=b0
 ·subst e;rw[ah]at hx';cases hx';exact⟨hne,.inr (.inr ⟨kq,vs,_,h0,rfl,be',cF.set hi (aZ.vec hb hx),λh z hz=>by
   rcases aj' hz with hz|rfl
   ·exact h z hz
   ·rfl⟩)⟩
 ·rw[ai _ _ e]at hx'
  by_cases e2:b'=b
  ·subst e2;rw[ah]at hx';cases hx'
  ·rw[ai _ _ e2]at hx';exact⟨e2,.inl hx'⟩
theorem ap.giveRowsV{k n:Nat}{tm:Nat→AV}{nx kk kq:Nat}{vs:List AV}{hp:Hp}(b0:Nat)(f:Nat→Nat)(es:Nat→List AV)(he:∀i,aH (es i))(hf:∀i j,f i=f j→i=j)(hf0:∀i,f i≠b0)(h0:hp b0=some (.vec kq vs)):∀m:Nat,
  (∀i,i<m→vs[i]?=some (.vec (f i))∧hp (f i)=some (.vec kk (es i))) →
  ∃hp' vs',ap k n ⟨tm,hp,nx⟩ ⟨tm,hp',nx⟩∧hp' b0=some (.vec kq vs')∧vs'.length=vs.length∧(∀i,i<m→vs'[i]?=some (.sl kk (es i) false))∧(∀i,m≤i→vs'[i]?=vs[i]?)∧∀b,b≠b0→(∀i,i<m→b≠f i)→hp' b=hp b
 | 0,_=>⟨hp,vs,ap.refl,h0,rfl,λi h=>absurd h (by omega),λ_ _=>rfl,λ_ _ _=>rfl⟩
 | m+1,h=>by
  obtain⟨hp1,vs1,w,a1,a2,a3,a4,a5⟩:=ap.giveRowsV b0 f es he hf hf0 h0 m λi hi=>h i (by omega);obtain⟨g1,g2⟩:=h m (by omega);have hl:m<vs1.length:=by rw[a2];exact(L'.mp g1).1
  refine⟨_,_,w.trans (ap.giveV b0 m (f m) a1 (by rw[a4 m (S' _)];exact g1) (by rw[a5 (f m) (hf0 m) λi hi e=>by have:=hf _ _ e;omega];exact g2) (hf0 m).symm (he m)),ah _ _ _,by rw[be',a2],λi hi=>?_,λi hi=>?_,λb hb hb'=>?_⟩
  ·rw[ae']
   by_cases e:m=i
   ·subst e;rw[F' rfl,F' hl]
   ·rw[E' e];exact a3 i (by omega)
  ·rw[ae',E' (by omega)];exact a4 i (by omega)
  ·rw[ai _ _ hb,ai _ _ (hb' m (by omega))];exact a5 b hb λi hi=>hb' i (by omega)
structure eZ (hp:Hp) (nx bt:Nat) (ns:List Nat) (L:List (List Int)):Prop where
  hm:hp bt=some (.vec 1 (ns.map AV.vec))
  ln:ns.length=L.length
  nd:ns.Nodup
  lt:∀b∈ns,b<nx
  no:bt ∉ ns
  bl:bt<nx
  row:∀(i:Nat) b p,ns[i]?=some b→L[i]?=some p→hp b=some (.vec 1 (p.map AV.int))
theorem eZ.keep{hp hp':Hp}{nx nx' bt:Nat}{ns:List Nat}{L:List (List Int)}(h:eZ hp nx bt ns L)(e:∀b,b<nx→(b=bt∨b∈ns)→hp' b=hp b)(hn:nx≤nx'):eZ hp' nx' bt ns L:=
 ⟨(e bt h.bl (.inl rfl)).trans h.hm,h.ln,h.nd,λb hb=>aL' (h.lt b hb) hn,h.no,aL' h.bl hn,λi b p hi hp=>(e b (h.lt b (J' hi)) (.inr (J' hi))).trans (h.row i b p hi hp)⟩
theorem eZ.at{hp:Hp}{nx bt:Nat}{ns:List Nat}{L:List (List Int)}(h:eZ hp nx bt ns L){i:Nat}{p:List Int}(hp':L[i]?=some p):∃b,ns[i]?=some b∧hp b=some (.vec 1 (p.map AV.int))∧b<nx∧b≠bt:=by
 have hi:i<ns.length:=by rw[h.ln];exact ao hp'
 refine⟨ns[i],u' hi,h.row i _ p (u' hi) hp',h.lt _ (aK' hi),λe=>h.no (e ▸ aK' hi)⟩
theorem eZ.put{hp hp':Hp}{nx nx' bt f i b0:Nat}{ns:List Nat}{L:List (List Int)}(h:eZ hp nx bt ns L){r:List Int}(hi:ns[i]?=some b0)(hf:nx≤f)(hf':f<nx')
  (e1:hp' bt=some (.vec 1 ((ns.map AV.vec).set i (.vec f)))) (e2:hp' f=some (.vec 1 (r.map AV.int))) (e3:∀b,b<nx→b≠bt→b≠b0→hp' b=hp b):eZ hp' nx' bt (ns.set i f) (L.set i r):=by
 have hil:=ao hi
 refine⟨by rw[e1,bp'],by simp[h.ln],?_,λb hb=>?_,λc=>?_,by have:=h.bl;omega,λj b p hj hp=>?_⟩
 ·have hset:ns.set i f=ns.take i++f::ns.drop (i+1):=by rw[by',F' hil]
  rw[hset];have hnd:=h.nd;rw[←bm' i ns,bQ' hil]at hnd;obtain⟨q1,q2,q3⟩:=aT'.mp hnd
  refine aT'.mpr ⟨q1,bX'.mpr ⟨λc=>?_,(bX'.mp q2).2⟩,λa ha b hb=>?_⟩
  ·have:=h.lt f (ay' c);omega
  ·rcases aa'.mp hb with rfl|hb
   ·have:=h.lt a (Z' ha);omega
   ·exact q3 a ha b (bi' _ hb)
 ·rcases aj' hb with hb|rfl
  ·have:=h.lt b hb;omega
  ·exact hf'
 ·rcases aj' c with c|c
  ·exact h.no c
  ·have:=h.bl;omega
 ·rw[ae']at hj hp
  by_cases c:i=j
  ·subst c;rw[F' rfl,F' hil]at hj;rw[F' rfl,F' (by rw[←h.ln];exact hil)]at hp;cases hj;cases hp;rw[e2]
  ·rw[E' c]at hj hp;have hbm:=J' hj;have hne:b≠b0:=λq=>by subst q;exact c ((bH' hil h.nd).mp (hi.trans hj.symm))
   rw[e3 b (h.lt b hbm) (λq=>h.no (q ▸ hbm)) hne];exact h.row j b p hj hp
theorem eZ.say{hp hp':Hp}{nx nx' bt i b0:Nat}{ns:List Nat}{L:List (List Int)}(h:eZ hp nx bt ns L){r:List Int}(hi:ns[i]?=some b0)(hn:nx≤nx')
  (e2:hp' b0=some (.vec 1 (r.map AV.int))) (e3:∀b,b<nx→b≠b0→hp' b=hp b):eZ hp' nx' bt ns (L.set i r):=by
 have hil:=ao hi;have hb0:=J' hi;refine⟨by rw[e3 bt h.bl λq=>h.no (q ▸ hb0)];exact h.hm,by simp[h.ln],h.nd,λb hb=>by have:=h.lt b hb;omega,h.no,by have:=h.bl;omega,λj b p hj hp=>?_⟩;rw[ae']at hp
 by_cases c:i=j
 ·subst c;rw[F' rfl,F' (by rw[←h.ln];exact hil)]at hp;rw[hi]at hj;cases hj;cases hp;exact e2
 ·rw[E' c]at hp;have hne:b≠b0:=λq=>by subst q;exact c ((bH' hil h.nd).mp (hi.trans hj.symm))
  rw[e3 b (h.lt b (J' hj)) hne];exact h.row j b p hj hp
theorem eZ.start{k n kk:Nat}{tm:Nat→AV}{hp:Hp}{nx bt:Nat}{m:Nat}(hb:hp bt=some (.vec 1 (List.replicate m (.sl kk [] true))))(hbl:bt<nx)(hk:k≤nx):∀j:Nat,j≤m →
  ∃hp',ap k n ⟨tm,hp,nx⟩ ⟨tm,hp',nx+j⟩∧hp' bt=some (.vec 1 ((List.range j).map (λi=>AV.vec (nx+i))++List.replicate (m-j) (.sl kk [] true)))∧(∀i,i<j→hp' (nx+i)=some (.vec 1 []))∧∀b,b<nx→b≠bt→hp' b=hp b
 | 0,_=>⟨hp,ap.refl,by simpa using hb,λi h=>absurd h (by omega),λ_ _ _=>rfl⟩
 | j+1,hj=>by
  obtain⟨hp1,w,a1,a2,a3⟩:=eZ.start hb hbl hk j (by omega);have hg:((List.range j).map (λi=>AV.vec (nx+i))++List.replicate (m-j) (.sl kk [] true))[j]?=some (.sl kk [] true):=by
   rw[aN' (by simp),B',aU',bq',aD',F' (by omega)]
  refine⟨_,w.trans (ap.nilvecV bt j kk 1 a1 hg (by omega)),?_,λi hi=>?_,λb hb hne=>?_⟩
  ·rw[ai _ _ (by omega),ah,bD' _ _ (by simp),B',aU',bq',show m-j=(m-(j+1))+1 by omega,List.replicate_succ,bW',bV'];simp
  ·by_cases e:i=j
   ·subst e;rw[ah]
   ·rw[ai _ _ (by omega),ai _ _ (by omega)];exact a2 i (by omega)
  ·rw[ai _ _ (by omega),ai _ _ hne];exact a3 b hb hne
theorem eZ.made{k n kk:Nat}{tm:Nat→AV}{hp:Hp}{nx bt:Nat}{m:Nat}(hb:hp bt=some (.vec 1 (List.replicate m (.sl kk [] true))))(hbl:bt<nx)(hk:k≤nx) :
  ∃hp',ap k n ⟨tm,hp,nx⟩ ⟨tm,hp',nx+m⟩∧eZ hp' (nx+m) bt ((List.range m).map (nx+·)) (List.replicate m [])∧∀b,b<nx→b≠bt→hp' b=hp b:=by
 obtain⟨hp',w,a1,a2,a3⟩:=eZ.start (n:=n) (tm:=tm) hb hbl hk m (S' _)
 refine⟨hp',w,⟨by rw[a1,bq'];simp[aX',Function.comp_def],by simp,?_,λb hb=>?_,λc=>?_,by omega,λi b p hi hp=>?_⟩,a3⟩
 ·exact List.Pairwise.map _ (λa b h=>by omega) (List.nodup_range (n:=m))
 ·obtain⟨i,hi,rfl⟩:=T'.mp hb;have:=an'.mp hi;omega
 ·obtain⟨i,hi,e⟩:=T'.mp c;omega
 ·have hl:=ao hi;rw[B',aU']at hl;rw[G',bf' hl]at hi;rw[aD',F' hl]at hp;cases hi;cases hp;exact a2 i hl
theorem eZ.give{k n:Nat}{tm:Nat→AV}{hp:Hp}{nx bt:Nat}{ns:List Nat}{L:List (List Int)}(h:eZ hp nx bt ns L) :
  ∃hp',ap k n ⟨tm,hp,nx⟩ ⟨tm,hp',nx⟩∧hp' bt=some (.vec 1 (L.map λr=>AV.sl 1 (r.map AV.int) false))∧∀b,b≠bt→b ∉ ns→hp' b=hp b:=by
 let f:Nat→Nat:=λi=>(ns[i]?).getD (nx+i)
 have hf1:∀i,i<ns.length→ns[i]?=some (f i):=λi hi=>by simp only[f];rw[u' hi];rfl
 have hf2:∀i,¬i<ns.length→f i=nx+i:=λi hi=>by simp only[f];rw[X' (by omega)];rfl
 obtain⟨hp',vs',w,a1,a2,a3,a4,a5⟩:=ap.giveRowsV (k:=k) (n:=n) (tm:=tm) (nx:=nx) (kk:=1) bt f (λi=>((L[i]?).getD []).map AV.int) (λi=>aw (am (λ_=>rfl) _)) (λi j e=>by
   by_cases ci:i<ns.length<;>by_cases cj:j<ns.length
   ·have h1:=hf1 i ci;have h2:=hf1 j cj
    rw[←e]at h2;exact(bH' ci h.nd).mp (h1.trans h2.symm)
   ·have h1:=h.lt _ (J' (hf1 i ci));have h2:=hf2 j cj;omega
   ·have h1:=h.lt _ (J' (hf1 j cj));have h2:=hf2 i ci;omega
   ·have h1:=hf2 i ci;have h2:=hf2 j cj;omega)
  (λi e=>by
   by_cases ci:i<ns.length
   ·exact h.no (e ▸ J' (hf1 i ci))
   ·have h1:=hf2 i ci;have:=h.bl;omega) h.hm ns.length (λi hi=>⟨by rw[G',hf1 i hi];rfl,by
    have hl':i<L.length:=by rw[←h.ln];exact hi
    have hL:=u' hl';rw[h.row i _ _ (hf1 i hi) hL,hL];rfl⟩)
 refine⟨hp',w,?_,λb hb hn=>a5 b hb λi hi e=>hn (e ▸ J' (hf1 i hi))⟩;rw[a1]
 congr 2
 refine ax' λi=>?_
 by_cases hi:i<ns.length
 ·have hl':i<L.length:=by rw[←h.ln];exact hi
  have hL:=u' hl';rw[a3 i hi,G',hL];rfl
 ·rw[X' (by rw[a2];simpa using hi),X' (by rw[B',←h.ln];omega)]
end Go.Proofs.Ytdoacjojljgdcaa
namespace Go.Proofs
open Go.Shelf
def Try.sortI_ren:Go.Shelf.Ren:=⟨fun|189=>23|125=>33|257=>32|128=>54|129=>55|294=>45|295=>46|296=>47|297=>48|298=>49|299=>50|216=>51|300=>52|301=>53|328=>65|329=>66|330=>67|331=>68|332=>69|215=>70|343=>83|n=>n,fun|28=>22|3=>3|46=>82|0=>0|51=>105|53=>107|4=>4|183=>98|182=>97|131=>62|5=>5|9=>9|218=>119|222=>123|228=>137|229=>138|n=>n,fun|n=>n⟩
theorem Try.sortI:Go.Proofs.Lays.n189 Try.prog Try.sortI_ren:={
 mixed:=by kernel_rfl
 f125:=Try.func33.trans (congrArg some (by kernel_rfl))
 f128:=Try.func54.trans (congrArg some (by kernel_rfl))
 f129:=Try.func55.trans (congrArg some (by kernel_rfl))
 f189:=Try.func23.trans (congrArg some (by kernel_rfl))
 f215:=Try.func70.trans (congrArg some (by kernel_rfl))
 f216:=Try.func51.trans (congrArg some (by kernel_rfl))
 f257:=Try.func32.trans (congrArg some (by kernel_rfl))
 f294:=Try.func45.trans (congrArg some (by kernel_rfl))
 f295:=Try.func46.trans (congrArg some (by kernel_rfl))
 f296:=Try.func47.trans (congrArg some (by kernel_rfl))
 f297:=Try.func48.trans (congrArg some (by kernel_rfl))
 f298:=Try.func49.trans (congrArg some (by kernel_rfl))
 f299:=Try.func50.trans (congrArg some (by kernel_rfl))
 f300:=Try.func52.trans (congrArg some (by kernel_rfl))
 f301:=Try.func53.trans (congrArg some (by kernel_rfl))
 f328:=Try.func65.trans (congrArg some (by kernel_rfl))
 f329:=Try.func66.trans (congrArg some (by kernel_rfl))
 f330:=Try.func67.trans (congrArg some (by kernel_rfl))
 f331:=Try.func68.trans (congrArg some (by kernel_rfl))
 f332:=Try.func69.trans (congrArg some (by kernel_rfl))
 f343:=Try.func83.trans (congrArg some (by kernel_rfl))
 t0:=Try.underlying0
 a0:=Try.isAgg0
 z0:=Try.sizeOf0
 v0:=Try.zeroValue0
 t3:=Try.underlying3
 a3:=Try.isAgg3
 z3:=Try.sizeOf3
 v3:=Try.zeroValue3
 t4:=Try.underlying4
 a4:=Try.isAgg4
 z4:=Try.sizeOf4
 v4:=Try.zeroValue4
 t5:=Try.underlying5
 a5:=Try.isAgg5
 z5:=Try.sizeOf5
 v5:=Try.zeroValue5
 t9:=Try.underlying9
 a9:=Try.isAgg9
 z9:=Try.sizeOf9
 v9:=Try.zeroValue9
 t28:=Try.underlying22
 a28:=Try.isAgg22
 z28:=Try.sizeOf22
 v28:=Try.zeroValue22
 t46:=Try.underlying82
 a46:=Try.isAgg82
 z46:=Try.sizeOf82
 v46:=Try.zeroValue82
 t51:=Try.underlying105
 a51:=Try.isAgg105
 z51:=Try.sizeOf105
 v51:=Try.zeroValue105
 t53:=Try.underlying107
 a53:=Try.isAgg107
 z53:=Try.sizeOf107
 v53:=Try.zeroValue107
 t131:=Try.underlying62
 a131:=Try.isAgg62
 z131:=Try.sizeOf62
 v131:=Try.zeroValue62
 t182:=Try.underlying97
 a182:=Try.isAgg97
 z182:=Try.sizeOf97
 v182:=Try.zeroValue97
 t183:=Try.underlying98
 a183:=Try.isAgg98
 z183:=Try.sizeOf98
 v183:=Try.zeroValue98
 t218:=Try.underlying119
 a218:=Try.isAgg119
 z218:=Try.sizeOf119
 v218:=Try.zeroValue119
 t222:=Try.underlying123
 a222:=Try.isAgg123
 z222:=Try.sizeOf123
 v222:=Try.zeroValue123
 t228:=Try.underlying137
 a228:=Try.isAgg137
 z228:=Try.sizeOf137
 v228:=Try.zeroValue137
 t229:=Try.underlying138
 a229:=Try.isAgg138
 z229:=Try.sizeOf138
 v229:=Try.zeroValue138 }
end Go.Proofs
namespace Go.Proofs.Ytdoacjojljgdcaa
open Go Go.Am
def ES:AF:=
 ⟨61,1,[.tmp 2],
 .seq (.reg [⟨(some 2),.move (.c (.sl 0 [] true)),none⟩])
 (.seq (.seq (.reg [⟨(some 6),.move (.t 0),none⟩,⟨(some 7),.len (.t 6),none⟩,⟨(some 8),.bin .lss (.t 7) (.c (.val (.int .i64 2))),none⟩])
 (.cond (.t 8) (.seq (.reg [⟨(some 9),.move (.t 0),none⟩,⟨(some 2),.move (.t 9),none⟩])
 (.ret)) (.skip)))
 (.seq (.seq (.reg [⟨(some 3),.move (.c (.val (.int .i64 1))),none⟩])
 (.block 0 (.loop (.seq (.seq (.reg [⟨(some 10),.move (.t 3),none⟩,⟨(some 11),.move (.t 0),none⟩,⟨(some 12),.len (.t 11),none⟩,⟨(some 13),.bin .lss (.t 10) (.t 12),none⟩])
 (.cond (.t 13) (.skip) (.exit 0)))
 (.seq (.block 1 (.seq (.dreg [⟨(some 16),.move (.t 0),none⟩,⟨(some 17),.move (.t 3),none⟩,⟨(some 18),.iaddr 1 (.t 16) (.t 17),none⟩,⟨(some 19),.load false 1 (.t 18),none⟩,⟨(some 20),.move (.t 0),none⟩,⟨(some 21),.move (.t 3),none⟩,⟨(some 22),.bin .sub (.t 21) (.c (.val (.int .i64 1))),none⟩,⟨(some 23),.iaddr 1 (.t 20) (.t 22),none⟩,⟨(some 24),.load false 1 (.t 23),none⟩,⟨(some 25),.bin .eql (.t 19) (.t 24),none⟩] [(2,7),(3,7),(2,8),(3,8)])
 (.cond (.t 25) (.seq (.reg [⟨(some 26),.move (.t 0),none⟩,⟨(some 27),.move (.t 3),none⟩,⟨(some 28),.slice 1 (.t 26) (some (.t 27)) none none,none⟩,⟨(some 4),.move (.t 28),none⟩])
 (.seq (.seq (.reg [⟨(some 5),.move (.c (.val (.int .i64 1))),none⟩])
 (.block 2 (.loop (.seq (.seq (.reg [⟨(some 29),.move (.t 5),none⟩,⟨(some 30),.move (.t 4),none⟩,⟨(some 31),.len (.t 30),none⟩,⟨(some 32),.bin .lss (.t 29) (.t 31),none⟩])
 (.cond (.t 32) (.skip) (.exit 2)))
 (.seq (.block 3 (.seq (.dreg [⟨(some 35),.move (.t 4),none⟩,⟨(some 36),.move (.t 5),none⟩,⟨(some 37),.iaddr 1 (.t 35) (.t 36),none⟩,⟨(some 38),.load false 1 (.t 37),none⟩,⟨(some 39),.move (.t 4),none⟩,⟨(some 40),.move (.t 5),none⟩,⟨(some 41),.bin .sub (.t 40) (.c (.val (.int .i64 1))),none⟩,⟨(some 42),.iaddr 1 (.t 39) (.t 41),none⟩,⟨(some 43),.load false 1 (.t 42),none⟩,⟨(some 44),.bin .neq (.t 38) (.t 43),none⟩] [(2,7),(3,7),(2,8),(3,8)])
 (.cond (.t 44) (.seq (.reg [⟨(some 45),.move (.t 0),none⟩,⟨(some 46),.move (.t 3),none⟩,⟨(some 47),.move (.t 4),none⟩,⟨(some 48),.move (.t 5),none⟩,⟨(some 49),.iaddr 1 (.t 47) (.t 48),none⟩,⟨(some 50),.load false 1 (.t 49),none⟩,⟨(some 51),.iaddr 1 (.t 45) (.t 46),none⟩,⟨none,.store 1 (.t 51) (.t 50),none⟩])
 (.reg [⟨(some 52),.move (.t 3),none⟩,⟨(some 53),.bin .add (.t 52) (.c (.val (.int .i64 1))),none⟩,⟨(some 3),.move (.t 53),none⟩])) (.skip))))
 (.reg [⟨(some 33),.move (.t 5),none⟩,⟨(some 34),.bin .add (.t 33) (.c (.val (.int .i64 1))),none⟩,⟨(some 5),.move (.t 34),none⟩]))))))
 (.seq (.reg [⟨(some 54),.move (.t 0),none⟩,⟨(some 55),.move (.t 3),none⟩,⟨(some 56),.slice 1 (.t 54) (some (.t 55)) none none,none⟩,⟨none,.clear 1 ((.val (.int .i64 0))) (.t 56),none⟩])
 (.seq (.reg [⟨(some 57),.move (.t 0),none⟩,⟨(some 58),.move (.t 3),none⟩,⟨(some 59),.slice 1 (.t 57) none (some (.t 58)) none,none⟩,⟨(some 2),.move (.t 59),none⟩])
 (.ret))))) (.skip))))
 (.reg [⟨(some 14),.move (.t 3),none⟩,⟨(some 15),.bin .add (.t 14) (.c (.val (.int .i64 1))),none⟩,⟨(some 3),.move (.t 15),none⟩]))))))
 (.seq (.reg [⟨(some 60),.move (.t 0),none⟩,⟨(some 2),.move (.t 60),none⟩])
 (.ret))))⟩
theorem BZ:dL Try.prog Try.f24=some ES:=by kernel_rfl
theorem sW:gD Try.prog 24:=ga (by kernel_rfl)
theorem eO(l:List Int):aH (l.map AV.int):=aw (am (λ_=>rfl) l)
theorem wl(l:List Int)(hl:l.length≤1000000)(hs:l.Pairwise (·<·)):aI Try.prog 24 [.vec 0] [.vec 1 (l.map AV.int)] (.vec 0) [some (.vec 1 (l.map AV.int))]:=by
 have hml:=aT;have fin0:∀(tm:Nat→AV) (nx:Nat),tm 2=.vec 0→fin 1 61 [.tmp 2] (.vec 0) [some (.vec 1 (l.map AV.int))] .ret ⟨tm,upd (λ_=>none) 0 (some (.vec 1 (l.map AV.int))),nx⟩:=λtm nx h2=>by
  refine fg [0] [(2,.vec 0)] rfl rfl ?_ ?_ rfl (by simp) ?_ (by simp)
  ·simp only[P',forall_eq];exact⟨h2,show(0:Nat)<1 by omega⟩
  ·refine⟨⟨?_,?_⟩,trivial⟩
   ·rw[(dw (m:=0) (eO l)).1];rfl
   ·exact(dw (π:=id) (eO l)).2
  ·intro b hb
   match b,hb with
   | 0,_=>rfl
 refine aI.walk Try.func24 BZ (by simp[ES]) ?_;unfold ES;simp only[dI,ec,ab',ak'];refine AWP.seq' ?_;refine AWP.reg' λK hK=>?_
 try simp only[aj,seval]
 refine hK _ _ _ ?_;clear hK K;refine AWP.seq' (AWP.seq' ?_);refine AWP.reg' λK hK=>?_
 try simp only[aj,seval,B']
 refine hK _ _ _ ?_;clear hK K
 refine AWP.cond (b:=decide ((l.length:Int)<2)) rfl (λh=>?_) (λh=>?_)
 ·refine AWP.seq' ?_;refine AWP.reg' λK hK=>?_
  try simp only[aj,seval]
  refine hK _ _ _ ?_;clear hK K;refine AWP.ret ?_;exact fin0 _ _ rfl
 ·have h:2≤l.length:=by have:=ag' h;omega
  refine AWP.skip ?_;refine AWP.seq' (AWP.seq' ?_);refine AWP.reg' λK hK=>?_
  try simp only[aj,seval]
  refine hK _ _ _ ?_;clear hK K;refine AWP.block ?_
  refine AWP.loopS (λu:S3×Nat=>u.1) (λu=>(1≤u.2∧u.2≤l.length)∧17≤u.1.nx∧u.1.tm 0=.vec 0∧u.1.tm 3=.int (u.2:Nat)∧u.1.hp=upd (λ_=>none) 0 (some (.vec 1 (l.map AV.int)))) (λu=>l.length-u.2) (i0:=(_,1)) ?_ ap.refl ?_
  ·exact⟨⟨S' _,by omega⟩,by dsimp only;omega,rfl,rfl,rfl⟩
  ·rintro⟨⟨tm,hp,nx⟩,z⟩ ⟨⟨z1,z2⟩,n1,t0,t3,hh⟩;simp only at z1 z2 n1 t0 t3 hh ⊢;subst hh;refine AWP.seq' (AWP.seq' ?_);refine AWP.reg' λK hK=>?_
   try simp only[aj,seval,t0,t3,B']
   refine hK _ _ _ ?_;clear hK K
   refine AWP.cond (b:=decide ((z:Int)<(l.length:Int))) rfl (λe=>?_) (λe=>?_)
   ·have e:z<l.length:=by have:=H' e;omega
    refine AWP.skip ?_;refine AWP.seq' (AWP.block (AWP.seq' ?_));have hy:l[z]?=some l[z]:=u' e;have hx:l[z-1]?=some l[z-1]:=u' (by omega);have hlt:l[z-1]<l[z]:=aZ'.mp hs (z-1) z (by omega) e (by omega);generalize l[z]=y at hy hlt;generalize l[z-1]=x at hx hlt;have hge:(l.map AV.int).getD z .unk=.int y:=by rw[I',G',hy];rfl
    have hgx:(l.map AV.int).getD (z-1) .unk=.int x:=by rw[I',G',hx];rfl
    have hw:IntKind.i64.wrap ((z:Int)-1)=((z-1:Nat):Int):=by
     have:=oA (k:=z) (by omega) z1;exact this
    have hxy:(y==x)=false:=by simp;omega
    refine AWP.dreg' λK hK=>?_
    try simp only[aj,seval,t0,t3,hw,hge,hgx,hxy,Int.toNat_natCast,B']
    refine⟨⟨by omega,by omega⟩,by omega,⟨by omega,by omega⟩,by omega,?_⟩;refine⟨by rfl,hK _ _ _ ?_⟩;clear hK K;refine AWP.cond (b:=false) rfl (λh=>by cases h) (λ_=>?_);refine AWP.skip ?_;refine(show AWP _ _ _ _ _ _ from ?_);have hw1:IntKind.i64.wrap ((z:Int)+1)=((z+1:Nat):Int):=fa (by omega) (by omega);refine AWP.reg' λK hK=>?_
    try simp only[aj,seval,t3,hw1]
    refine hK _ _ _ ?_;clear hK K;refine⟨(_,z+1),⟨⟨by dsimp only;omega,by dsimp only;omega⟩,by dsimp only;omega,?_,rfl,rfl⟩,by dsimp only;omega,ap.refl⟩;simp only[ae];exact t0
   ·refine AWP.exit ?_;refine(show AWP _ _ _ _ _ _ from ?_);refine AWP.seq' ?_;refine AWP.reg' λK hK=>?_
    try simp only[aj,seval,t0]
    refine hK _ _ _ ?_;clear hK K;refine AWP.ret ?_;exact fin0 _ _ rfl
theorem mC{w:World}{A:Nat→Prop}{μ:Mu}:∀{l:List Int} {vs:List Value},RVL w A (l.map AV.int) μ vs→vs=l.map (Value.int .i64)∧∀x∈l,RV w A (.int x) μ (Value.int .i64 x)
 | [],vs,h=>⟨h,by simp⟩
 | x::l,_,⟨u,vs,rfl,h1,h2⟩=>by
  have h1':=h1;obtain⟨rfl,_⟩:=h1;obtain⟨e1,e2⟩:=mC h2;refine⟨by rw[e1];rfl,λy hy=>?_⟩
  rcases aa'.mp hy with rfl|hy
  ·exact h1'
  ·exact e2 y hy
theorem mB{w:World}{A:Nat→Prop}{μ:Mu}:∀{l:List Int},(∀x∈l,RV w A (.int x) μ (Value.int .i64 x))→RVL w A (l.map AV.int) μ (l.map (Value.int .i64))
 | [],_=>rfl
 | x::l,h=>⟨_,_,rfl,h x (by simp),mB λy hy=>h y (by simp[hy])⟩
def dn(l:List Int):List Int:=l.mergeSort λx y=>decide (x≤y)
open Go.Shelf Go.RowKit Go.Lib Go.Sort Go.Proofs in
theorem oK{P:Program}{ρ:Ren}(L:Lays.n189 P ρ)(l:List Int)(hl:l.length≤1000000):aI P (ρ.f 189) [.vec 0] [.vec 1 (l.map AV.int)] (.tup []) [some (.vec 1 ((dn l).map AV.int))]:=by
 intro w A μ cargs hH hmu hargs;obtain⟨c0,_,rfl,h0,rfl⟩:=hargs;obtain⟨hd,hm,rfl⟩:=h0;obtain⟨hd',hm',hb,hA⟩:=hH.blk 0 _ rfl;rw[hm]at hm';cases hm';obtain⟨hk,hb⟩:=hb
 have none_:∀p cap,hd.val=.slice p 0 cap→l=[]→Calls P (ρ.f 189) [hd.val].toArray w λe w'=>∃v_1 A' μ',e=.returned v_1∧RV w' A' (.tup []) μ' v_1∧ie P w' A' μ' (aQ [some (.vec 1 ((dn l).map AV.int))])∧be μ μ'∧Ext (bC μ (aQ ([Blk.vec 1 (l.map AV.int)].map some))) w w' ∧
   (∀b,A b→A' b)∧(∀b,A' b→A b∨bC μ (aQ ([Blk.vec 1 (l.map AV.int)].map some)) b∨w.heap.size≤b) ∧
   (∀b,bC μ' (aQ [some (.vec 1 ((dn l).map AV.int))]) b→bC μ (aQ ([Blk.vec 1 (l.map AV.int)].map some)) b∨w.heap.size≤b):=by
  intro p cap e0 e1;subst e1;rw[e0,show dn []=[] by simp[dn]];refine(Any.slices_Sort_int_none L p cap w).mono ?_;rintro e w' ⟨rfl,rfl⟩;exact⟨_,A,μ,rfl,⟨[],rfl,rfl⟩,hH,be.refl _,⟨rfl,rfl,rfl,S' _,λ_ _ _=>rfl⟩,λb h=>h,λb h=>.inl h,λb h=>.inl h⟩
 rcases hb with⟨he,ha⟩|⟨he,hlen,hle,hcap,C,ty,vs,hheap,hrvl,hsol,hsz,hC,htake⟩
 ·obtain⟨a,ha⟩:=bn'.mp ha;exact none_ a 0 (by unfold Hd.val;rw[ha]) (by simpa using he)
 obtain⟨rfl,hel⟩:=mC hrvl;have hval:hd.val=.slice (some ⟨hd.blk,0,none⟩) hd.len hd.cap:=by unfold Hd.val;rw[he]
 have hlen':hd.len=l.length:=by rw[hlen];simp
 obtain⟨nA,hblk⟩:=hA he;rw[hlen',Nat.mul_one]at htake;have htake:C.toList.take l.length=l.map (Value.int .i64):=by rw[htake,List.flatMap_map,List.map_eq_flatMap];rfl
 have hH2:=holds_of_blockI hheap htake;rw[hval,hlen'];refine(Any.slices_Sort_int L hd.blk 0 hd.cap l w hH2 hblk (by omega)).mono ?_;rintro e w' ⟨rfl,n,os,rfl⟩;have hp1:=heap_sortedI (n:=n) (os:=os) (dn l).toArray hheap;obtain⟨_,_,_,hp3,hp2'⟩:=grownBy_sortedI (w:=w) (g:=hd.blk) (n:=n) (os:=os) (dn l).toArray;have hp2:∀k,k<w.heap.size→k≠hd.blk→(grow (putRow (Value.int .i64) (Sort.ahead w n) hd.blk 0 (dn l).toArray) os).heap[k]?=w.heap[k]?:=λk h1 h2=>hp2' k h1 λe=>h2 (af' e);have hll:(dn l).length=l.length:=(cl' _ _).length_eq;have same:cr A w (grow (putRow (Value.int .i64) (Sort.ahead w n) hd.blk 0 (dn l).toArray) os):=λb hb=>hp2 b (hH.lt b hb) (λe=>nA (e ▸ hb));have own:bC μ (aQ ([Blk.vec 1 (l.map AV.int)].map some)) hd.blk:=⟨0,_,hd,rfl,hm,he,rfl⟩
 refine⟨_,A,μ,rfl,⟨[],rfl,rfl⟩,⟨λb x hx=>?_,λb b' x x' hd1 hd2 hx hx' _ _ _ _ _=>?_,hH.lt.mono same (λ_ h=>h) λb hb=>aL' (hH.lt b hb) hp3⟩,be.refl _,
  ⟨rfl,rfl,rfl,hp3,λb h1 h2=>hp2 b h1 λe=>h2 (e ▸ own)⟩,λ_ h=>h,λ_ h=>.inl h,?_⟩
 ·have hx0:b=0:=by
   cases b with
   | zero=>rfl
   | succ b=>simp[aQ]at hx
  subst hx0;have hx:some (Blk.vec 1 ((dn l).map AV.int))=some x:=hx;cases hx
  refine⟨hd,hm,⟨hk,.inr ⟨he,?_,hle,hcap,_,ty,(dn l).map (Value.int .i64),hp1,?_,?_,?_,?_,?_⟩⟩,λ_=>⟨nA,aL' hblk hp3⟩⟩
  ·rw[hlen',B',hll]
  ·exact RVL.mono same (λ_ h=>h) _ (be.refl _) (mB λx hx=>hel x ((cl' _ _).mem_iff.mp hx))
  ·intro x hx;obtain⟨y,_,rfl⟩:=T'.mp hx;rfl
  ·intro u hu;obtain⟨p,_,rfl⟩:=T'.mp hu;rfl
  ·simpa[putCells]using hC
  ·have:=take_putCellsI C (dn l) (by rw[hll];have:hd.cap * 1≤C.size:=hC;omega);rw[hlen',Nat.mul_one,←hll,this,List.flatMap_map,List.map_eq_flatMap];rfl
 ·have z:∀{b x},aQ [some (Blk.vec 1 ((dn l).map AV.int))] b=some x→b=0:=λ{b x} h=>by
   cases b with
   | zero=>rfl
   | succ b=>simp[aQ]at h
  rw[z hx,z hx']
 ·rintro b ⟨b',x,hd1,hx,hm1,he1,rfl⟩;have hx0:b'=0:=by
   cases b' with
   | zero=>rfl
   | succ b=>simp[aQ]at hx
  subst hx0;rw[hm]at hm1;cases hm1;exact .inl own
theorem il(l:List Int):(dn l).Perm l:=cl' _ _
theorem wK(l:List Int):(dn l).Pairwise λa b=>a≤b:=by
 have h1:(dn l).Pairwise λa b=>decide (a≤b)=true:=List.pairwise_mergeSort (λa b c h1 h2=>by simp at *;omega) (λa b=>by simp;omega) l;exact h1.imp λh=>H' h
theorem qO(l:List Int)(h:l.length≤1000000):aI Try.prog 23 [.vec 0] [.vec 1 (l.map AV.int)] (.tup []) [some (.vec 1 ((dn l).map AV.int))]:=oK Try.sortI l h
def cf9:AF:=
 ⟨76,1,[.tmp 2],
 .seq (.reg [⟨(some 2),.move (.c (.sl 0 [] true)),none⟩])
 (.seq (.reg [⟨(some 3),.move (.c (.val (.int .i64 (-1)))),none⟩])
 (.seq (.seq (.reg [⟨(some 10),.move (.t 0),none⟩,⟨(some 11),.len (.t 10),none⟩,⟨(some 12),.move (.c (.val (.int .i64 0))),none⟩])
 (.block 0 (.loop (.seq (.reg [⟨(some 13),.bin .lss (.t 12) (.t 11),none⟩])
 (.seq (.cond (.t 13) (.skip) (.exit 0))
 (.seq (.block 1 (.seq (.reg [⟨(some 14),.iaddr 2 (.t 10) (.t 12),none⟩,⟨(some 15),.load true 2 (.t 14),none⟩,⟨(some 5),.box (.c (.agg [(.val (.int .i64 0)),(.val (.int .i64 0))])),none⟩,⟨none,.store 2 (.t 5) (.t 15),none⟩])
 (.seq (.reg [⟨(some 16),.faddr 1 (.t 5),none⟩,⟨(some 17),.load false 1 (.t 16),none⟩,⟨(some 18),.bin .leq (.t 17) (.c (.val (.int .i64 24))),none⟩])
 (.cond (.t 18) (.reg [⟨(some 19),.move (.t 3),none⟩,⟨(some 20),.faddr 1 (.t 5),none⟩,⟨(some 21),.load false 1 (.t 20),none⟩,⟨(some 22),.max [(.t 19),(.t 21)],none⟩,⟨(some 3),.move (.t 22),none⟩]) (.skip)))))
 (.reg [⟨(some 23),.bin .add (.t 12) (.c (.val (.int .i64 1))),none⟩,⟨(some 12),.move (.t 23),none⟩])))))))
 (.seq (.reg [⟨(some 24),.move (.t 3),none⟩,⟨(some 25),.bin .add (.t 24) (.c (.val (.int .i64 1))),none⟩,⟨(some 26),.mks 1 24 (.sl 0 [] true) (.t 25) (.t 25),none⟩,⟨(some 6),.move (.t 26),none⟩])
 (.seq (.seq (.reg [⟨(some 27),.move (.t 0),none⟩,⟨(some 28),.len (.t 27),none⟩,⟨(some 29),.move (.c (.val (.int .i64 0))),none⟩])
 (.block 2 (.loop (.seq (.reg [⟨(some 30),.bin .lss (.t 29) (.t 28),none⟩])
 (.seq (.cond (.t 30) (.skip) (.exit 2))
 (.seq (.block 3 (.seq (.reg [⟨(some 31),.iaddr 2 (.t 27) (.t 29),none⟩,⟨(some 32),.load true 2 (.t 31),none⟩,⟨(some 8),.box (.c (.agg [(.val (.int .i64 0)),(.val (.int .i64 0))])),none⟩,⟨none,.store 2 (.t 8) (.t 32),none⟩])
 (.seq (.reg [⟨(some 33),.faddr 1 (.t 8),none⟩,⟨(some 34),.load false 1 (.t 33),none⟩,⟨(some 35),.bin .geq (.t 34) (.c (.val (.int .i64 0))),none⟩,⟨(some 36),.move (.t 35),none⟩,⟨(some 37),.faddr 1 (.t 8),(some (36,true))⟩,⟨(some 38),.load false 1 (.t 37),(some (36,true))⟩,⟨(some 39),.move (.t 3),(some (36,true))⟩,⟨(some 40),.bin .leq (.t 38) (.t 39),(some (36,true))⟩,⟨(some 41),.pick (.t 36) (.t 40) (.c (.val (.bool false))),none⟩])
 (.cond (.t 41) (.dreg [⟨(some 42),.move (.t 6),none⟩,⟨(some 43),.faddr 1 (.t 8),none⟩,⟨(some 44),.load false 1 (.t 43),none⟩,⟨(some 45),.move (.t 6),none⟩,⟨(some 46),.faddr 1 (.t 8),none⟩,⟨(some 47),.load false 1 (.t 46),none⟩,⟨(some 48),.iaddr 1 (.t 45) (.t 47),none⟩,⟨(some 49),.load false 1 (.t 48),none⟩,⟨(some 50),.faddr 0 (.t 8),none⟩,⟨(some 51),.load false 1 (.t 50),none⟩,⟨(some 52),.lit 1 1 (.val (.int .i64 0)) [(0,(.t 51))],none⟩,⟨(some 53),.append 1 8 (.t 49) (.t 52),none⟩,⟨(some 54),.iaddr 1 (.t 42) (.t 44),none⟩,⟨none,.store 1 (.t 54) (.t 53),none⟩] [(2,5),(2,6),(2,7),(2,9),(5,9),(6,9),(7,9),(2,10),(5,10),(6,10),(7,10),(2,11)]) (.skip)))))
 (.reg [⟨(some 55),.bin .add (.t 29) (.c (.val (.int .i64 1))),none⟩,⟨(some 29),.move (.t 55),none⟩])))))))
 (.seq (.seq (.reg [⟨(some 56),.move (.t 6),none⟩,⟨(some 57),.len (.t 56),none⟩,⟨(some 58),.move (.c (.val (.int .i64 0))),none⟩])
 (.block 4 (.loop (.seq (.reg [⟨(some 59),.bin .lss (.t 58) (.t 57),none⟩])
 (.seq (.cond (.t 59) (.skip) (.exit 4))
 (.seq (.block 5 (.seq (.reg [⟨(some 60),.move (.t 58),none⟩,⟨(some 9),.move (.t 60),none⟩])
 (.seq (.reg [⟨(some 61),.move (.t 6),none⟩,⟨(some 62),.move (.t 9),none⟩,⟨(some 63),.iaddr 1 (.t 61) (.t 62),none⟩,⟨(some 64),.load false 1 (.t 63),none⟩,⟨(some 65),.call (.c (.func 23 [])) [(.t 64)],none⟩])
 (.reg [⟨(some 66),.move (.t 6),none⟩,⟨(some 67),.move (.t 9),none⟩,⟨(some 68),.move (.t 6),none⟩,⟨(some 69),.move (.t 9),none⟩,⟨(some 70),.iaddr 1 (.t 68) (.t 69),none⟩,⟨(some 71),.load false 1 (.t 70),none⟩,⟨(some 72),.call (.c (.func 24 [])) [(.t 71)],none⟩,⟨(some 73),.iaddr 1 (.t 66) (.t 67),none⟩,⟨none,.store 1 (.t 73) (.t 72),none⟩]))))
 (.reg [⟨(some 74),.bin .add (.t 58) (.c (.val (.int .i64 1))),none⟩,⟨(some 58),.move (.t 74),none⟩])))))))
 (.seq (.reg [⟨(some 75),.move (.t 6),none⟩,⟨(some 2),.move (.t 75),none⟩])
 (.ret)))))))⟩
theorem EP:dL Try.prog Try.f9=some cf9:=by kernel_rfl
def jv(g:Int)(x:Rnk):Int:=if x.n≤24 then cP g x.n else g
def gA(l:List Rnk):Int:=l.foldl jv (-1)
theorem yo{g:Int}{x:Rnk}(h:-1≤g∧g≤24):-1≤jv g x∧jv g x≤24:=by
 unfold jv cP
 split
 ·split<;>omega
 ·exact h
theorem kQ:∀(l:List Rnk) {g:Int},(-1≤g∧g≤24)→-1≤l.foldl jv g∧l.foldl jv g≤24
 | [],_,h=>h
 | _::l,_,h=>kQ l (yo h)
def dY(l:List Rnk)(i:Nat):List Int:=(l.filter λx=>x.n==(i:Int)).map (·.r)
theorem oN(l:List Rnk)(i:Nat):(dY l i).length≤l.length:=by unfold dY;rw[B'];exact ca' _ _
def i5(l:List Rnk)(m:Nat):List (List Int):=(List.range m).map (dY l)
def aC(l:List Rnk):List (List Int):=(List.range (gA l+1).toNat).map λi=>dn (dY l i)
def kF(l:List Rnk)(m j:Nat):List (List Int):=(List.range m).map λi=>if i<j then dn (dY l i)else dY l i
theorem x9(m:Nat):i5 [] m=List.replicate m []:=by
 unfold i5;refine ax' λi=>?_;rw[G',aD']
 by_cases h:i<m
 ·rw[bf' h,F' h];rfl
 ·rw[X' (by rw[aU'];omega),E' h];rfl
theorem nF{l:List Rnk}{m i:Nat}(h:i<m):(i5 l m)[i]?=some (dY l i):=by
 unfold i5;rw[G',bf' h];rfl
theorem mF{l:List Rnk}{m:Nat}{x:Rnk}(h:¬(0≤x.n∧x.n<m)):i5 (l++[x]) m=i5 l m:=by
 unfold i5;refine al' λi hi=>?_;have hi:=an'.mp hi;unfold dY;rw[bZ',bL',E' (by rw[aY'];omega),List.filter_nil,bd']
theorem xz{l:List Rnk}{m:Nat}{x:Rnk}{i:Nat}(hi:x.n=(i:Int))(h:i<m):i5 (l++[x]) m=(i5 l m).set i (dY l i++[x.r]):=by
 refine ax' λj=>?_;rw[ae']
 by_cases hj:j<m
 ·rw[nF hj]
  by_cases e:i=j
  ·subst e;rw[F' rfl,F' (by unfold i5;simpa using h)];unfold dY;rw[bZ',bL',F' (by rw[aY'];exact hi),List.filter_nil,aQ'];rfl
  ·rw[E' e,nF hj];unfold dY;rw[bZ',bL',E' (by rw[aY'];omega),List.filter_nil,bd']
 ·have h1:∀L:List Rnk,(i5 L m)[j]?=none:=λL=>X' (by unfold i5;simp;omega);rw[h1,h1]
  split
  ·omega
  ·rfl
theorem nE{l:List Rnk}{m i j:Nat}(h:i<m):(kF l m j)[i]?=some (if i<j then dn (dY l i)else dY l i):=by
 unfold kF;rw[G',bf' h];rfl
theorem vo(l:List Rnk)(m:Nat):kF l m 0=i5 l m:=by unfold kF i5;exact al' λi _=>E' (by omega)
theorem xy(l:List Rnk)(m:Nat):kF l m m=(List.range m).map λi=>dn (dY l i):=by unfold kF;exact al' λi hi=>F' (an'.mp hi)
theorem vq{l:List Rnk}{m j:Nat}(h:j<m):(kF l m j).set j (dn (dY l j))=kF l m (j+1):=by
 refine ax' λi=>?_;rw[ae']
 by_cases hi:i<m
 ·rw[nE hi,nE hi]
  by_cases e:j=i
  ·subst e;rw[F' rfl,F' (by unfold kF;simpa using h),F' (by omega)]
  ·rw[E' e]
   by_cases c:i<j
   ·rw[F' c,F' (by omega)]
   ·rw[E' c,E' (by omega)]
 ·rw[X' (by unfold kF;simp;omega),X' (by unfold kF;simp;omega)]
  split
  ·omega
  ·rfl
theorem wJ(l:List Int):(dn l).length=l.length:=(il l).length_eq
theorem A2{l:List Int}(h:l.Nodup):(dn l).Pairwise (·<·):=by
 have h1:(dn l).Nodup:=(il l).nodup_iff.mpr h;exact(wK l).imp₂ (λa b h1 h2=>by omega) h1
theorem li{l:List Rnk}(h:(l.map (·.r)).Nodup)(i:Nat):(dY l i).Nodup:=h.sublist (List.filter_sublist.map _)
theorem qS(L:List (List Int)):aH (L.map λr=>AV.sl 1 (r.map AV.int) false):=aw (am (λp=>by show AV.pureB (AV.sl 1 (p.map AV.int) false)=true;rw[AV.pureB];first|done|exact am (λ_=>rfl) _) _)
theorem aS.ownR{P:Program}{fid:FuncId}{n:Nat}{hp:Hp}{es:List AV}{kk b f:Nat}(hs:aI P fid [.vec 0] [.vec kk es] (.vec 0) [some (.vec kk es)])(hf:gD P fid)
  (h1:aH es) (hb:hp b=some (.vec kk es)):aS P n fid [.vec b] f hp [b] (.vec b) (dC [(b,some (.vec kk es))]):=by
 have key:=aS.hand (n:=n) (f:=f) (hp:=hp) hf hs [b] rfl (by simp) ⟨show(0:Nat)<1 by omega,trivial⟩ (λi b' x e1 e2=>by
  match i with
  | 0=>simp at e1 e2;subst e1;subst e2;exact⟨aG h1,by rw[hb];simp only[Blk.ren,aK _ h1]⟩
  | i+1=>simp at e1) (by simp) (by simp) (show(0:Nat)<1 by omega) (λy hy=>by simp at hy;subst hy;exact aG h1)
 have e0:aO [b] f 0=b:=by simp[aO]
 have e3:bV [b] f [some (Blk.vec kk es)]=dC [(b,some (.vec kk es))]:=by simp[bV,List.zipIdx,e0,Blk.ren,aK _ h1]
 rw[e3]at key;simpa only[cZ,AV.ren,e0]using key
theorem yA{P:Program}{n:Nat}{tm:Nat→AV}{hp:Hp}{fid:FuncId}{d:Option Nat}{g:AO}{xs:List AO}{os:List az}{f:Nat}{K:S2→Nat→Prop}{es:List AV}{kk b:Nat}
  (hs:aI P fid [.vec 0] [.vec kk es] (.vec 0) [some (.vec kk es)]) (hf:gD P fid) (h1:aH es) (hg:evO tm g=.func fid [])
  (hx:xs.map (evO tm)=[.vec b]) (hb:hp b=some (.vec kk es)) (hK:evT P n os (f+16) ⟨aB d (.vec b) tm,upd hp b (some (.vec kk es))⟩ K):evT P n (⟨d,.call g xs,none⟩::os) f ⟨tm,hp⟩ K:=
 fM hg (by simpa using hx) (aS.ownR hs hf h1 hb) (by rw[it];exact hK)
theorem AWP.made{P:Program}{k n kk:Nat}{x:AC}{Q:X→S3→Prop}{tm:Nat→AV}{hp:Hp}{nx:Nat}(bt:Nat){m:Nat}(hb:hp bt=some (.vec 1 (List.replicate m (.sl kk [] true))))(hbl:bt<nx)(hk:k≤nx)
  (h:∀hp' ns,eZ hp' (nx+m) bt ns (List.replicate m [])→AWP P k n x Q ⟨tm,hp',nx+m⟩):AWP P k n x Q ⟨tm,hp,nx⟩:=by
 obtain⟨hp',w,h1,_⟩:=eZ.made (n:=n) (tm:=tm) hb hbl hk;exact AWP.weak w (h hp' _ h1)
theorem wM{α:Type}{l:List α}{j:Nat}{x:α}(h:l[j]?=some x):l.set j x=l:=by
 obtain⟨h1,h2⟩:=L'.mp h;rw[←h2];exact List.set_getElem_self h1
theorem CF(l:List Rnk)(hl:l.length≤1000)(hn:(l.map (·.r)).Nodup):bv Try.prog 9 [.sl 2 (l.map Rnk.v) false] (.sl 1 ((aC l).map λr=>AV.sl 1 (r.map AV.int) false) false):=by
 have hml:=aT
 refine bv.walk Try.func9 EP (by simp[cf9]) ?_ ?_
 ·exact AV.pureB_ok (by rw[AV.pureB])
 unfold cf9;simp only[dI,ec,ab',ak'];refine AWP.seq' ?_;refine AWP.reg' λK hK=>?_
 try simp only[aj,seval]
 refine hK _ _ _ ?_;clear hK K;refine AWP.seq' ?_;refine AWP.reg' λK hK=>?_
 try simp only[aj,seval]
 refine hK _ _ _ ?_;clear hK K;refine AWP.seq' (AWP.seq' ?_);refine AWP.reg' λK hK=>?_
 try simp only[aj,seval,B']
 refine hK _ _ _ ?_;clear hK K;refine AWP.block ?_
 refine AWP.loopS (λu:S3×Nat=>u.1) (λu=>u.2≤l.length∧76≤u.1.nx∧u.1.tm 0=.sl 2 (l.map Rnk.v) false∧u.1.tm 10=.sl 2 (l.map Rnk.v) false∧u.1.tm 11=.int l.length∧u.1.tm 12=.int (u.2:Nat)∧u.1.tm 3=.int (gA (l.take u.2))) (λu=>l.length-u.2) (i0:=(_,0)) ?_ ap.refl ?_
 ·exact⟨aq' _,by dsimp only;omega,rfl,rfl,rfl,rfl,rfl⟩
 ·rintro⟨⟨tm,hp,nx⟩,z⟩ ⟨z2,n1,t0,t10,t11,t12,t3⟩;simp only at z2 n1 t0 t10 t11 t12 t3 ⊢;have hgr:=kQ (l.take z) (g:=-1) (by omega);refine AWP.seq' ?_;refine AWP.reg' λK hK=>?_
  try simp only[aj,seval,t11,t12]
  refine hK _ _ _ ?_;clear hK K;refine AWP.seq' ?_
  refine AWP.cond (b:=decide ((z:Int)<(l.length:Int))) rfl (λe=>?_) (λe=>?_)
  ·have e:z<l.length:=by have:=H' e;omega
   refine AWP.skip ?_;refine AWP.seq' (AWP.block (AWP.seq' ?_));have hy:l[z]?=some l[z]:=u' e;generalize l[z]=y at hy;have hge:(l.map Rnk.v).getD z .unk=.agg [.int y.r,.int y.n]:=by rw[I',G',hy];rfl
   have hT:gA (l.take (z+1))=jv (gA (l.take z)) y:=by unfold gA;exact d6 _ _ hy
   have hw:IntKind.i64.wrap ((z:Int)+1)=((z+1:Nat):Int):=fa (by omega) (by omega);refine AWP.reg' λK hK=>?_
   try simp only[aj,seval,t10,t12,hge,Int.toNat_natCast,B']
   refine⟨⟨by omega,by omega⟩,?_⟩;refine hK _ _ _ ?_;clear hK K;refine AWP.seq' ?_;refine AWP.reg' λK hK=>?_
   try simp only[aj,seval,ao']
   refine hK _ _ _ ?_;clear hK K;have hmx:∀{b:Bool},b=decide (y.n≤24)→gA (l.take (z+1))=if b=true then cP (gA (l.take z)) y.n else gA (l.take z):=λe=>by
    rw[hT,jv,e];simp
   refine AWP.cond (b:=decide (y.n≤24)) rfl (λh=>?_) (λh=>?_)
   ·have hmx:=hmx rfl;rw[F' h]at hmx;refine AWP.reg' λK hK=>?_
    try simp only[aj,seval,t3,ao',eS,fe]
    refine hK _ _ _ ?_;clear hK K;refine(show AWP _ _ _ _ _ _ from ?_);refine AWP.reg' λK hK=>?_
    try simp only[aj,seval,t12,hw]
    refine hK _ _ _ ?_;clear hK K
    refine⟨(_,z+1),⟨by dsimp only;omega,by dsimp only;omega,?_,?_,?_,rfl,?_⟩,by dsimp only;omega,ap.refl⟩
    ·simp only[ae];exact t0
    ·simp only[ae];exact t10
    ·simp only[ae];exact t11
    ·dsimp only;rw[hmx];rfl
   ·have hmx:=hmx rfl;rw[E' (by simp[h])]at hmx;refine AWP.skip ?_;refine(show AWP _ _ _ _ _ _ from ?_);refine AWP.reg' λK hK=>?_
    try simp only[aj,seval,t12,hw]
    refine hK _ _ _ ?_;clear hK K
    refine⟨(_,z+1),⟨by dsimp only;omega,by dsimp only;omega,?_,?_,?_,rfl,?_⟩,by dsimp only;omega,ap.refl⟩
    ·simp only[ae];exact t0
    ·simp only[ae];exact t10
    ·simp only[ae];exact t11
    ·dsimp only;rw[hmx];simp only[ae];exact t3
  ·have e:z=l.length:=by have:=ag' e;omega
   subst e;rw[List.take_length]at t3;have hg:-1≤gA l∧gA l≤24:=kQ l (by omega);refine AWP.exit ?_;refine(show AWP _ _ _ _ _ _ from ?_);refine AWP.seq' ?_;have hw:IntKind.i64.wrap (gA l+1)=(((gA l+1).toNat:Nat):Int):=fa (by omega) (by omega);refine AWP.reg' λK hK=>?_
   try simp only[aj,seval,t3,hw]
   refine⟨⟨by omega,by omega,by omega⟩,?_⟩;refine hK _ _ _ ?_;clear hK K;refine(show AWP _ _ _ _ _ _ from ?_);generalize hm:(gA l+1).toNat=m;have hm':gA l=(m:Int)-1:=by omega
   have hm25:m≤25:=by omega
   refine AWP.made (nx+16+16+16) (ah _ _ _) (by omega) (aq' _) λhp0 ns0 hF0=>?_;generalize hbt:nx+16+16+16=bt at hF0 ⊢;have hbt0:76≤bt:=by omega
   refine AWP.seq' (AWP.seq' ?_);refine AWP.reg' λK hK=>?_
   try simp only[aj,seval,t0,B']
   refine hK _ _ _ ?_;clear hK K;refine AWP.block ?_
   refine AWP.loopS (λu:S3×Nat=>u.1) (λu=>u.2≤l.length∧u.1.tm 3=.int (gA l)∧u.1.tm 6=.vec bt∧u.1.tm 27=.sl 2 (l.map Rnk.v) false∧u.1.tm 28=.int l.length∧u.1.tm 29=.int (u.2:Nat)∧∃ns,eZ u.1.hp u.1.nx bt ns (i5 (l.take u.2) m)) (λu=>l.length-u.2) (i0:=(_,0)) ?_ ap.refl ?_
   ·refine⟨aq' _,?_,?_,rfl,rfl,rfl,ns0,?_⟩
    ·simp only[ae];exact t3
    ·simp only[ae];rfl
    ·dsimp only;rw[List.take_zero,x9];exact hF0.keep (λ_ _ _=>rfl) (by omega)
   ·clear hF0;rintro⟨⟨tm1,hp1,nx1⟩,z⟩ ⟨z2,g3,g6,g27,g28,g29,ns,hF⟩;simp only at z2 g3 g6 g27 g28 g29 hF ⊢;refine AWP.seq' ?_;refine AWP.reg' λK hK=>?_
    try simp only[aj,seval,g28,g29]
    refine hK _ _ _ ?_;clear hK K;refine AWP.seq' ?_
    refine AWP.cond (b:=decide ((z:Int)<(l.length:Int))) rfl (λe=>?_) (λe=>?_)
    ·have e:z<l.length:=by have:=H' e;omega
     refine AWP.skip ?_;refine AWP.seq' (AWP.block (AWP.seq' ?_));have hy:l[z]?=some l[z]:=u' e;generalize l[z]=y at hy;have hge:(l.map Rnk.v).getD z .unk=.agg [.int y.r,.int y.n]:=by rw[I',G',hy];rfl
     have hw:IntKind.i64.wrap ((z:Int)+1)=((z+1:Nat):Int):=fa (by omega) (by omega);have hbn:=hF.bl;obtain⟨fba,fbb,fbc,fbd⟩:=nxF hbn;have htk:l.take (z+1)=l.take z++[y]:=bp hy;refine AWP.reg' λK hK=>?_
     try simp only[aj,seval,g27,g29,hge,Int.toNat_natCast,B']
     refine⟨⟨by omega,by omega⟩,?_⟩;refine hK _ _ _ ?_;clear hK K;refine AWP.seq' ?_
     by_cases c0:0≤y.n
     ·have c0':decide (0≤y.n)=true:=by simpa using c0
      refine AWP.reg' λK hK=>?_
      try simp only[aj,seval,g3,c0,c0',ao']
      refine hK _ _ _ ?_;clear hK K
      refine AWP.cond (b:=decide (y.n≤gA l)) rfl (λc1=>?_) (λc1=>?_)
      ·have c1:=H' c1;obtain⟨i,hi⟩:∃i:Nat,y.n=(i:Int):=⟨y.n.toNat,by omega⟩
       have him:i<m:=by omega
       obtain⟨b0,k1,k2,k3,k4⟩:=hF.at (nF (l:=l.take z) him)
       have hrl:(dY (l.take z) i).length≤1000:=by have:=oN (l.take z) i;rw[ar']at this;omega
       obtain⟨fb0a,fb0b,fb0c,fb0d⟩:=nxF k3;have hbb:(bt=b0)=False:=by simp;exact λq=>k4 q.symm
       have hbb':(b0=bt)=False:=by simp;exact k4
       have hgb:(ns.map AV.vec).getD i .unk=.vec b0:=by rw[I',G',k1];rfl
       have hil:=ao k1;refine AWP.dreg' λK hK=>?_
       try simp only[aj,seval,g6,hi,hF.hm,hgb,hbb,hbb',fba,fbb,fbc,fbd,fb0a,fb0b,fb0c,fb0d,k2,Int.toNat_natCast,B',ao']
       refine⟨⟨by omega,by omega⟩,by omega,?_⟩;refine fh ?_
       try simp only[aj,seval,aV,dy,g6,hi,hF.hm,hgb,hbb,hbb',fba,fbb,fbc,fbd,fb0a,fb0b,fb0c,fb0d,k2,Int.toNat_natCast,B',ao']
       refine⟨⟨by omega,by omega⟩,⟨by omega,by omega⟩,hil,?_⟩
       refine⟨?_,hK _ _ _ ?_⟩
       ·simp[fC,kJ,bu,AOp.opers,aL,fba,fbb,fb0a,fb0b,hbb,hbb']
       clear hK K;refine(show AWP _ _ _ _ _ _ from ?_);refine AWP.reg' λK hK=>?_
       try simp only[aj,seval,g29,hw,ao']
       refine hK _ _ _ ?_;clear hK K
       refine⟨(_,z+1),⟨by dsimp only;omega,?_,?_,?_,?_,rfl,ns.set i (nx1+400),?_⟩,by dsimp only;omega,ap.refl⟩
       ·simp only[ae];exact g3
       ·simp only[ae];exact g6
       ·simp only[ae];exact g27
       ·simp only[ae];exact g28
       ·dsimp only;rw[htk,xz hi him]
        refine hF.put k1 (f:=nx1+400) (by omega) (by omega) ?_ ?_ λb hb hne hnb=>?_
        ·simp only[ae,↓reduceIte]
        ·rw[aQ'];simp only[ae,fbb,↓reduceIte];rfl
        ·simp only[ae,E' hne,E' hnb];rw[E' (by omega),E' (by omega),E' (by omega),E' (by omega)]
      ·have c1:=ag' c1;refine AWP.skip ?_;refine(show AWP _ _ _ _ _ _ from ?_);refine AWP.reg' λK hK=>?_
       try simp only[aj,seval,g29,hw,ao']
       refine hK _ _ _ ?_;clear hK K
       refine⟨(_,z+1),⟨by dsimp only;omega,?_,?_,?_,?_,rfl,ns,?_⟩,by dsimp only;omega,ap.refl⟩
       ·simp only[ae];exact g3
       ·simp only[ae];exact g6
       ·simp only[ae];exact g27
       ·simp only[ae];exact g28
       ·dsimp only;rw[htk,mF (by omega)];exact hF.keep (λb hb _=>by simp only[ae];rw[E' (by omega),E' (by omega),E' (by omega)]) (by omega)
     ·have c0':decide (0≤y.n)=false:=by simpa using c0
      refine AWP.reg' λK hK=>?_
      try simp only[aj,seval,g3,c0,c0',ao']
      refine hK _ _ _ ?_;clear hK K;refine AWP.cond (b:=false) rfl (λc=>by cases c) (λ_=>?_);refine AWP.skip ?_;refine(show AWP _ _ _ _ _ _ from ?_);refine AWP.reg' λK hK=>?_
      try simp only[aj,seval,g29,hw,ao']
      refine hK _ _ _ ?_;clear hK K
      refine⟨(_,z+1),⟨by dsimp only;omega,?_,?_,?_,?_,rfl,ns,?_⟩,by dsimp only;omega,ap.refl⟩
      ·simp only[ae];exact g3
      ·simp only[ae];exact g6
      ·simp only[ae];exact g27
      ·simp only[ae];exact g28
      ·dsimp only;rw[htk,mF (by omega)];exact hF.keep (λb hb _=>by simp only[ae];rw[E' (by omega),E' (by omega),E' (by omega)]) (by omega)
    ·have e:z=l.length:=by have:=ag' e;omega
     subst e;rw[List.take_length]at hF;refine AWP.exit ?_;refine(show AWP _ _ _ _ _ _ from ?_);have hnl:ns.length=m:=by rw[hF.ln];unfold i5;simp
     refine AWP.seq' (AWP.seq' ?_);refine AWP.reg' λK hK=>?_
     try simp only[aj,seval,g6,hF.hm,B',hnl]
     refine hK _ _ _ ?_;clear hK K;refine AWP.block ?_
     refine AWP.loopS (λu:S3×Nat=>u.1) (λu=>u.2≤m∧u.1.tm 6=.vec bt∧u.1.tm 57=.int m∧u.1.tm 58=.int (u.2:Nat)∧eZ u.1.hp u.1.nx bt ns (kF l m u.2)) (λu=>m-u.2) (i0:=(_,0)) ?_ ap.refl ?_
     ·refine⟨aq' _,?_,rfl,rfl,?_⟩
      ·simp only[ae];exact g6
      ·dsimp only;rw[vo];exact hF.keep (λ_ _ _=>rfl) (by omega)
     ·clear hF g3 g27 g28 g29 g6;rintro⟨⟨tm2,hp2,nx2⟩,j⟩ ⟨j2,g6,g57,g58,hF⟩;simp only at j2 g6 g57 g58 hF ⊢;refine AWP.seq' ?_;refine AWP.reg' λK hK=>?_
      try simp only[aj,seval,g57,g58]
      refine hK _ _ _ ?_;clear hK K;refine AWP.seq' ?_
      refine AWP.cond (b:=decide ((j:Int)<(m:Int))) rfl (λe=>?_) (λe=>?_)
      ·have e:j<m:=by have:=H' e;omega
       refine AWP.skip ?_;obtain⟨b0,k1,k2,k3,k4⟩:=hF.at (nE (l:=l) (j:=j) e)
       rw[E' (by omega)]at k2;have hbl:=hF.bl;obtain⟨fba,fbb,fbc,fbd⟩:=nxF hbl;obtain⟨fb0a,fb0b,fb0c,fb0d⟩:=nxF k3;have hbb:(bt=b0)=False:=by simp;exact λq=>k4 q.symm
       have hbb':(b0=bt)=False:=by simp;exact k4
       have hgb:(ns.map AV.vec).getD j .unk=.vec b0:=by rw[I',G',k1];rfl
       have hw:IntKind.i64.wrap ((j:Int)+1)=((j+1:Nat):Int):=fa (by omega) (by omega);have hsl:(dY l j).length≤1000000:=by have:=oN l j;omega
       refine AWP.seq' (AWP.block (AWP.seq' ?_));refine AWP.reg' λK hK=>?_
       try simp only[aj,seval,g58]
       refine hK _ _ _ ?_;clear hK K;refine AWP.seq' ?_;refine AWP.reg' λK hK=>?_
       try simp only[aj,seval,g6,hF.hm,hgb,B',Int.toNat_natCast]
       have hjl:=ao k1;refine⟨⟨by omega,by omega⟩,hjl,?_⟩;refine pN (qO (dY l j) hsl) (ga (by kernel_rfl)) trivial (eO _) (eO _) (AV.pureB_ok rfl) rfl rfl k2 ?_
       try simp only[aj,seval]
       refine hK _ _ _ ?_;clear hK K;refine(show AWP _ _ _ _ _ _ from ?_);refine AWP.reg' λK hK=>?_
       try simp only[aj,seval,g6,hF.hm,hgb,hbb,hbb',fb0a,fb0b,fba,fbb,B',Int.toNat_natCast,ao']
       refine⟨⟨by omega,by omega⟩,hjl,?_⟩;refine yA (wl (dn (dY l j)) (by rw[wJ];exact hsl) (A2 (li hn j))) sW (eO _) rfl rfl (ah _ _ _) ?_
       try simp only[aj,seval,g6,hF.hm,hgb,hbb,hbb',fb0a,fb0b,fba,fbb,B',Int.toNat_natCast,ao']
       refine⟨⟨by omega,by omega⟩,hjl,?_⟩;refine hK _ _ _ ?_;clear hK K;refine(show AWP _ _ _ _ _ _ from ?_);refine AWP.reg' λK hK=>?_
       try simp only[aj,seval,g58,hw,ao']
       refine hK _ _ _ ?_;clear hK K;have hset:(ns.map AV.vec).set j (.vec b0)=ns.map AV.vec:=wM (by rw[G',k1];rfl)
       refine⟨(_,j+1),⟨by dsimp only;omega,?_,?_,rfl,?_⟩,by dsimp only;omega,ap.refl⟩
       ·simp only[ae];exact g6
       ·simp only[ae];exact g57
       ·dsimp only;rw[←vq e]
        refine hF.say k1 (by omega) ?_ λb hb hne=>?_
        ·simp only[ae,hbb',↓reduceIte]
        ·by_cases c:b=bt
         ·subst c;simp only[ae,↓reduceIte];rw[hset,hF.hm]
         ·simp only[ae,E' c,E' hne]
      ·have e:j=m:=by have:=ag' e;omega
       subst e;refine AWP.exit ?_;refine(show AWP _ _ _ _ _ _ from ?_);refine AWP.seq' ?_;refine AWP.reg' λK hK=>?_
       try simp only[aj,seval,g6]
       refine hK _ _ _ ?_;clear hK K;refine AWP.ret ?_;rw[xy]at hF;obtain⟨hp',w,h1,h2⟩:=(hF.keep (nx':=nx2+16+16+16) (λ_ _ _=>rfl) (by omega)).give (k:=0) (n:=76) (tm:=upd (upd (upd tm2 59 (AV.bool (decide ((j:Int)<(j:Int))))) 75 (AV.vec bt)) 2 (AV.vec bt));refine⟨_,w.trans (ap.giveT 2 bt rfl h1 (qS _)),⟨_,rfl,?_⟩,AV.pureB_ok (by rw[AV.pureB])⟩;unfold aC;rw[hm];rfl
def DF(l:List Rnk)(h:l.length≤1000∧(l.map (·.r)).Nodup):PC Try.prog:=⟨9,[.s 2],[.sl 2 (l.map Rnk.v) false],.sl 1 ((aC l).map λr=>AV.sl 1 (r.map AV.int) false) false,CF l h.1 h.2,ga (by kernel_rfl)⟩
theorem tX{x y z:Lnk}(h:aU x y)(k:aU y z):aU x z:=by unfold aU at *;omega
theorem vg{l:List Lnk}(h:l.Pairwise aU)(x:Lnk):(∀k y,k<ba l x→l[k]?=some y→aU y x)∧(∀k y,ba l x≤k→l[k]?=some y→¬aU y x)∧ba l x≤l.length:=by
 obtain⟨s1,s2,s3⟩:=j5 (lt:=jL x) (l:=l) (λa b u v hab hu hv e=>by
  have h1:=ir h hab hu hv;unfold jL at e ⊢;exact decide_eq_true (tX h1 (H' e))) (f:=l.length) (i:=0) (j:=l.length) (by omega) (by omega) (S' _) (λk x hk=>by omega) (λk x hk hx=>by have:=ao hx;omega)
 exact⟨λk y hk hy=>H' (s1 k y hk hy),λk y hk hy=>ag' (s2 k y hk hy),s3⟩
theorem xW{y y':Lnk}(ha:y.a=y'.a)(hb:y.b=y'.b):jL y=jL y'∧iK y=iK y':=by
 constructor
 ·funext x;exact decide_eq_decide.mpr (by unfold aU;rw[ha,hb])
 ·funext x;exact decide_eq_decide.mpr (by rw[ha,hb])
theorem jn(c:Chg):(bn c).a=(mz c.a c.b).a∧(bn c).b=(mz c.a c.b).b:=by
 unfold bn mz ez cP
 by_cases h:c.b<c.a
 ·rw[F' h];simp only;(repeat' split)<;>omega
 ·rw[E' h];simp only;(repeat' split)<;>omega
theorem ug{t:Tpl}(hc:aF t=0)(c:Chg):cL t.ls (bn c)=(dz t c.a c.b).2:=by
 rw[←(tG hc c.a c.b).1];unfold cL;rw[(xW (jn c).1 (jn c).2).1,(xW (jn c).1 (jn c).2).2]
theorem BU{t:Tpl}(h:Fq t):aF t=0:=by
 unfold aF;have h1:=h.nr;have h2:=h.nl;rw[E' (by omega),E' (not_not_intro h.rg),E' (not_not_intro h.asc),E' (not_not_intro h.lr),E' (not_not_intro h.has),E' (not_not_intro h.lt),E' (not_not_intro h.ord)]
theorem spl_L{l:List Lnk}(h:l.Pairwise aU)(x:Lnk):∃A M B,l=A++M++B∧A.length=ba l x∧(∀y∈A,aU y x)∧(∀y∈B,aU x y) ∧
  ((cL l x=true∧∃z,M=[z]∧z.a=x.a∧z.b=x.b)∨(cL l x=false∧M=[])):=by
 obtain⟨s1,s2,s3⟩:=vg h x;have hsplit:l=l.take (ba l x)++l.drop (ba l x):=(bm' _ _).symm;have htk:∀y∈l.take (ba l x),aU y x:=λy hy=>by
  obtain⟨j,hj,rfl⟩:=bF'.mp hy;exact s1 j _ (by omega) (u' (by omega))
 have hlen:(l.take (ba l x)).length=ba l x:=by rw[ar'];omega
 have hh:cL l x=(l[ba l x]?).any (iK x):=rfl
 by_cases hp:ba l x<l.length
 ·have hz:l[ba l x]?=some l[ba l x]:=u' hp;have hd:l.drop (ba l x)=l[ba l x]::l.drop (ba l x+1):=bQ' hp;generalize l[ba l x]=z at hz hd;have hr:∀y∈l.drop (ba l x+1),aU z y:=λy hy=>by
   obtain⟨j,hj⟩:=Y'.mp hy;rw[aH']at hj;exact ir h (by omega) hz hj
  have hnz:=s2 _ z (S' _) hz
  by_cases e:z.a=x.a∧z.b=x.b
  ·refine⟨l.take (ba l x),[z],l.drop (ba l x+1),?_,hlen,htk,λy hy=>?_,.inl ⟨?_,z,rfl,e⟩⟩
   ·conv=>lhs;rw[hsplit,hd]
    simp
   ·have:=hr y hy;unfold aU at *;omega
   ·rw[hh,hz];simp[iK,e]
  ·have hxz:aU x z:=by unfold aU at *;omega
   refine⟨l.take (ba l x),[],l.drop (ba l x),?_,hlen,htk,λy hy=>?_,.inr ⟨?_,rfl⟩⟩
   ·conv=>lhs;rw[hsplit]
    simp
   ·rw[hd]at hy
    rcases aa'.mp hy with rfl|hy
    ·exact hxz
    ·exact tX hxz (hr y hy)
   ·rw[hh,hz];simp[iK];exact λq=>λq2=>e ⟨q,q2⟩
 ·refine⟨l.take (ba l x),[],l.drop (ba l x),?_,hlen,htk,λy hy=>?_,.inr ⟨?_,rfl⟩⟩
  ·conv=>lhs;rw[hsplit]
   simp
  ·rw[List.drop_of_length_le (by omega)]at hy;simp at hy
  ·rw[hh,X' (by omega)];rfl
theorem BG{α:Type}{A B:List α}{z:α}{k:Nat}(h:A.length=k):eD (A++[z]++B) k=A++B:=by
 subst h;unfold eD;have e:A++[z]++B=A++(z::B):=by simp
 rw[e,List.take_left];have:A++z::B=(A++[z])++B:=by simp
 rw[this,show A.length+1=(A++[z]).length by simp,List.drop_left]
theorem Bw{α:Type}{A B:List α}{z:α}{k:Nat}(h:A.length=k):bE (A++[]++B) k z=A++[z]++B:=by
 subst h;unfold bE;rw[bd',List.take_left,List.drop_left]
theorem wO{α:Type}{A B:List α}{x v:α}{k:Nat}(h:A.length=k):(A++[x]++B).set k v=A++[v]++B:=by
 have e:A++[x]++B=A++(x::B):=by simp
 rw[e,A5 h];simp
structure AplS (t:Tpl) (c:Chg) (t':Tpl):Prop where
  ex:∃A M N B,t.ls=A++M++B∧t'.ls=A++N++B∧(∀y∈A,aU y (bn c))∧(∀y∈B,aU (bn c) y)∧(∀y∈M,y.a=(bn c).a∧y.b=(bn c).b) ∧
    ((eX c=true∧N=[])∨(eX c=false∧∃w,(0≤w∧w≤1000)∧N=[{ bn c with w:=w }]))∧M.length≤1∧N.length≤1∧((dz t c.a c.b).2=true↔M≠[])
  rs:t'.rs=t.rs
  nl:t'.ls.length≤60
  ha:aJ t c.a=true
  hb:aJ t c.b=true
  ne:c.a≠c.b
  co:eX c=false→gb c.ca=true∧gb c.cb=true
  rm:eX c=true→(dz t c.a c.b).2=true
theorem apl_S{t:Tpl}{c:Chg}(h:(bJ t c).2=0):aF t=0∧AplS t c (bJ t c).1:=by
 have hc:aF t=0:=by
  refine U' λq=>?_;unfold bJ at h;rw[F' q]at h;cases h
 refine⟨hc,?_⟩;have hO:=aA hc;obtain⟨A,M,B,e0,e1,e2,e3,e4⟩:=spl_L hO.ord (bn c);have hM:(dz t c.a c.b).2=true↔M≠[]:=by
  rw[←ug hc]
  rcases e4 with⟨g,z,rfl,_⟩|⟨g,rfl⟩
  ·simp[g]
  ·simp[g]
 have hMk:(∀y∈M,y.a=(bn c).a∧y.b=(bn c).b)∧M.length≤1:=by
  rcases e4 with⟨g,z,rfl,gz⟩|⟨g,rfl⟩
  ·exact⟨λy hy=>by rw[P'.mp hy];exact gz,by simp⟩
  ·simp
 have hnl:=hO.nl;unfold bJ at h ⊢;rw[E' (not_not_intro hc)]at h ⊢
 by_cases c1:hs5 t c.a=false∨hs5 t c.b=false
 ·rw[F' c1]at h;cases h
 rw[E' c1]at h ⊢
 by_cases c2:c.a=c.b
 ·rw[F' c2]at h;cases h
 rw[E' c2]at h ⊢
 by_cases c3:eX c=false∧(gb c.ca=false∨gb c.cb=false)
 ·rw[F' c3]at h;cases h
 rw[E' c3]at h ⊢
 by_cases c4:eX c=true∧cL t.ls (bn c)=false
 ·rw[F' c4]at h;cases h
 rw[E' c4]at h ⊢
 by_cases c5:cL t.ls (bn c)=false∧t.ls.length=60
 ·rw[F' c5]at h;cases h
 rw[E' c5];have ha:aJ t c.a=true:=by
  have:hs5 t c.a=true:=by simp at c1;exact c1.1
  exact(dx.mp this).2
 have hb:aJ t c.b=true:=by
  have:hs5 t c.b=true:=by simp at c1;exact c1.2
  exact(dx.mp this).2
 have hco:eX c=false→gb c.ca=true∧gb c.cb=true:=λq=>by
  simp[q]at c3;exact c3
 have hrm:eX c=true→(dz t c.a c.b).2=true:=λq=>by
  rw[←ug hc];simpa[q]using c4
 by_cases c6:eX c=true
 ·rw[F' c6];have g:cL t.ls (bn c)=true:=by simpa[c6]using c4
  rcases e4 with⟨_,z,rfl,gz⟩|⟨g',_⟩
  ·have e5:eD t.ls (ba t.ls (bn c))=A++[]++B:=by
    rw[←e1,e0,BG rfl];simp
   refine⟨⟨A,[z],[],B,e0,e5,e2,e3,hMk.1,.inl ⟨c6,rfl⟩,by simp,by simp,hM⟩,rfl,?_,ha,hb,c2,hco,hrm⟩;simp only[e5];rw[e0]at hnl;simp at hnl ⊢;omega
  ·rw[g]at g';cases g'
 rw[E' c6];have c6':eX c=false:=by simpa using c6
 by_cases c7:cL t.ls (bn c)=true
 ·rw[F' c7]
  rcases e4 with⟨_,z,rfl,gz⟩|⟨g',_⟩
  ·have e6:t.ls.getD (ba t.ls (bn c)) ⟨0,0,0,0,0⟩=z:=by
    rw[←e1,e0,I',aS',aN' (S' _)];simp
   have hw:=(hO.lr z (by rw[e0];simp)).2.2;have e5:t.ls.set (ba t.ls (bn c)) { bn c with w:=z.w }=A++[{ bn c with w:=z.w }]++B:=by
    rw[←e1];conv=>lhs;rw[e0]
    exact wO rfl
   rw[e6];refine⟨⟨A,[z],_,B,e0,e5,e2,e3,hMk.1,.inr ⟨c6',z.w,hw,rfl⟩,by simp,by simp,hM⟩,rfl,?_,ha,hb,c2,hco,hrm⟩;simp only[be'];exact hnl
  ·rw[c7]at g';cases g'
 ·rw[E' c7]
  rcases e4 with⟨g',_⟩|⟨g',rfl⟩
  ·exact absurd g' c7
  ·have e5:bE t.ls (ba t.ls (bn c)) (bn c)=A++[{ bn c with w:=0 }]++B:=by
    have:bn c={ bn c with w:=0 }:=by unfold bn;split<;>rfl
    rw[←this,←e1];conv=>lhs;rw[e0]
    exact Bw rfl
   refine⟨⟨A,[],_,B,e0,e5,e2,e3,hMk.1,.inr ⟨c6',0,by omega,rfl⟩,by simp,by simp,hM⟩,rfl,?_,ha,hb,c2,hco,hrm⟩;have:¬t.ls.length=60:=λq=>c5 ⟨g',q⟩;simp only[e5];rw[e0]at this hnl;simp at this hnl ⊢;omega
theorem Br{c:Chg}(h:c.a≠c.b):(bn c).a<(bn c).b∧(((bn c).a=c.a∧(bn c).b=c.b∧(bn c).ca=c.ca∧(bn c).cb=c.cb)∨((bn c).a=c.b∧(bn c).b=c.a∧(bn c).ca=c.cb∧(bn c).cb=c.ca)):=by
 unfold bn
 split
 ·simp;omega
 ·simp;omega
theorem DB{A M N B:List Lnk}{x:Lnk}(h:(A++M++B).Pairwise aU)(hA:∀y∈A,aU y x)(hB:∀y∈B,aU x y)(hN:N.length≤1)(hk:∀y∈N,y.a=x.a∧y.b=x.b):(A++N++B).Pairwise aU:=by
 rw[aS',cf']at h ⊢;obtain⟨h1,h2,h3⟩:=h;rw[cf']at h2 ⊢
 refine⟨h1,⟨?_,h2.2.1,λa ha b hb=>?_⟩,λa ha b hb=>?_⟩
 ·match N,hN with
  | [],_=>exact List.Pairwise.nil
  | [z],_=>exact List.pairwise_singleton _ _
 ·have:=hB b hb;have:=hk a ha;unfold aU at *;omega
 ·rcases ac'.mp hb with hb|hb
  ·have:=hA a ha;have:=hk b hb;unfold aU at *;omega
  ·exact h3 a ha b (List.mem_append_right _ hb)
theorem nT{t t':Tpl}(h:t'.rs=t.rs)(x:Int):aJ t' x=aJ t x:=by unfold aJ;rw[h]
theorem Cw{t t':Tpl}{c:Chg}(hc:aF t=0)(h:AplS t c t'):aF t'=0:=by
 obtain⟨⟨A,M,N,B,e0,e1,hA,hB,hM,hN,hm,hn,_⟩,hr,hl,ha,hb,hne,hco,_⟩:=h;have hO:=aA hc;obtain⟨k1,k2⟩:=Br hne;have hNk:∀y∈N,(y.a=(bn c).a∧y.b=(bn c).b)∧iG y:=λy hy=>by
  rcases hN with⟨_,rfl⟩|⟨hr,w,hw,rfl⟩
  ·simp at hy
  ·rw[P'.mp hy];obtain⟨c1,c2⟩:=hco hr;refine⟨⟨rfl,rfl⟩,?_⟩;unfold iG;simp only
   rcases k2 with⟨_,_,q1,q2⟩|⟨_,_,q1,q2⟩
   ·rw[q1,q2];exact⟨c1,c2,hw⟩
   ·rw[q1,q2];exact⟨c2,c1,hw⟩
 have hmem:∀y∈t'.ls,y∈N∨y∈t.ls:=λy hy=>by
  rw[e1]at hy;rw[e0];simp only[ac']at hy ⊢
  rcases hy with(hy|hy)|hy
  ·exact .inr (.inl (.inl hy))
  ·exact .inl hy
  ·exact .inr (.inr hy)
 refine BU ⟨by rw[hr];exact hO.nr,hl,by rw[hr];exact hO.rg,by rw[hr];exact hO.asc,λy hy=>?_,λy hy=>?_,λy hy=>?_,?_⟩
 ·rcases hmem y hy with g|g
  ·exact(hNk y g).2
  ·exact hO.lr y g
 ·rw[nT hr,nT hr]
  rcases hmem y hy with g|g
  ·obtain⟨⟨q1,q2⟩,_⟩:=hNk y g;rw[q1,q2]
   rcases k2 with⟨r1,r2,_⟩|⟨r1,r2,_⟩<;>rw[r1,r2]
   ·exact⟨ha,hb⟩
   ·exact⟨hb,ha⟩
  ·exact hO.has y g
 ·rcases hmem y hy with g|g
  ·obtain⟨⟨q1,q2⟩,_⟩:=hNk y g;omega
  ·exact hO.lt y g
 ·have:=hO.ord;rw[e0]at this;rw[e1];exact DB this hA hB hn (λy hy=>(hNk y hy).1)
theorem xq{t:Tpl}(hc:aF t=0)(u v:Int):(dz t u v).2=true↔∃k,dS t u v k:=by
 constructor
 ·intro h;exact⟨(dz t u v).1,(fB hc).mpr (Prod.ext rfl h)⟩
 ·rintro⟨k,h⟩;rw[(fB hc).mp h]
theorem BM{t:Tpl}(hc:aF t=0)(u v:Int):bo t u v=dz t u v:=by unfold bo;rw[E' (not_not_intro hc)]
theorem jY{t:Tpl}(hc:aF t=0){d:Int}(hd:aJ t d=true)(u:Int):at6 t (to6 t d) u=if(aP t u d).2=true then(aP t u d).1 else fL:=by
 rw[ti hc hd,oz hc]
 by_cases h:aR (cn (inG t) d) u=true
 ·rw[F' h,F' h];simp
 ·rw[E' h,E' h];simp
theorem Bl{t:Tpl}(hc:aF t=0){x y d:Int}:y∈DM t x d↔∃w,dS t x y w∧(aP t x d).2=true∧(aP t y d).2=true∧w+(aP t y d).1=(aP t x d).1:=by
 unfold DM
 constructor
 ·intro h
  split at h
  ·cases h
  rename_i e;have hd:aJ t d=true:=by
   have:hs5 t d=true:=by simp at e;exact e.2
   exact(dx.mp this).2
  unfold Du at h
  split at h
  ·cases h
  rename_i e1;obtain⟨h1,h2⟩:=bw'.mp h;unfold okN at h2;simp only[V',as',aY']at h2;rw[jY hc hd,jY hc hd]at h2;rw[jY hc hd]at e1;have h1:=(tQ hc).mp h1;have hp:=oV hc h1;have cy:(aP t y d).2=true:=by
   refine U' λq=>?_;rw[E' q]at h2;unfold fL at h2;omega
  have cx:(aP t x d).2=true:=by
   refine U' λq=>?_;rw[E' q]at e1;unfold fL at e1;omega
  rw[F' cy,F' cx]at h2;obtain⟨_,_,b1,b2⟩:=bI (bN cy);rw[dc (by omega)]at h2;exact⟨_,(fB hc).mpr (Prod.ext rfl h1),cx,cy,h2.2⟩
 ·rintro⟨w,he,cx,cy,e⟩;obtain⟨_,hx,hd⟩:=gY cx;have hw:=he.cost hc;have hp:=(fB hc).mp he;obtain⟨_,_,b1,b2⟩:=bI (bN cy);obtain⟨_,_,d1,d2⟩:=bI (bN cx);rw[E' (by rw[dx.mpr ⟨hc,hx⟩,dx.mpr ⟨hc,hd⟩];simp)];unfold Du;rw[E' (by rw[jY hc hd,F' cx];omega)];refine bw'.mpr ⟨(tQ hc).mpr (by rw[hp]),?_⟩;unfold okN;rw[jY hc hd,jY hc hd,F' cx,F' cy,hp];simp only[V',as',aY'];exact⟨by omega,by rw[dc (by omega)];exact e⟩
def ws(t:Tpl)(f g:Int)(h:Hop):Bool:=(bo t h.a h.b).2 && ((aP t f g).2 && ((aP t f h.a).2 && ((aP t h.b g).2 && (W (W ((aP t f h.a).1+(bo t h.a h.b).1)+(aP t h.b g).1)==(aP t f g).1))))
theorem sY{t:Tpl}(hc:aF t=0){f g:Int}{h:Hop}(he:(bo t h.a h.b).2=true):ws t f g h=iy (cz t) f g h (bo t h.a h.b).1:=by
 have hp:1≤(bo t h.a h.b).1∧(bo t h.a h.b).1≤1000:=by rw[BM hc]at he ⊢;exact oV hc he
 rw[aR',iU hp];unfold ws;simp only[V',aY',he,true_and]
 constructor
 ·rintro⟨h1,h2,h3,h4⟩;obtain⟨_,_,p1,p2⟩:=bI (bN h2);obtain⟨_,_,q1,q2⟩:=bI (bN h3);rw[dc (n:=(aP t f h.a).1+_) (by omega),dc (by omega)]at h4;exact⟨h2,h3,h1,h4⟩
 ·rintro⟨h2,h3,h1,h4⟩;obtain⟨_,_,p1,p2⟩:=bI (bN h2);obtain⟨_,_,q1,q2⟩:=bI (bN h3);rw[dc (n:=(aP t f h.a).1+_) (by omega),dc (by omega)];exact⟨h1,h2,h3,h4⟩
def bhA(t:Tpl)(h:Hop)(x y:Int)(r:Rtr):Bool:=ws t x r.id h && (decide (y∈DM t x r.id) && ws t y r.id h)
def bhO(t:Tpl)(x y:Int)(h:Hop):Bool:=(x != h.a) && t.rs.any (bhA t h x y)
def uF(t:Tpl)(l:List Hop)(x y:Int):Bool:=l.any (bhO t x y)
theorem gS{α:Type}(f:Rws→α→Rws)(Q:α→Int→Int→Prop)(hf:∀M a,(aq M).Nodup→(aq (f M a)).Nodup∧∀x y,y∈av (f M a) x []↔y∈av M x []∨Q a x y) :
  ∀(l:List α) (M:Rws),(aq M).Nodup→(aq (l.foldl f M)).Nodup∧∀x y,y∈av (l.foldl f M) x []↔y∈av M x []∨∃a∈l,Q a x y
 | [],M,h=>⟨h,λx y=>by simp⟩
 | a::l,M,h=>by
  obtain⟨h1,h2⟩:=hf M a h;obtain⟨h3,h4⟩:=gS f Q hf l (f M a) h1;refine⟨h3,λx y=>?_⟩;rw[ba',h4,h2];simp[or_assoc]
def beC(t:Tpl)(h:Hop)(c d x y w:Int):Bool:=(x != h.a) && (iy (cz t) x d ⟨x,y⟩ w && (iy (cz t) x d h c && iy (cz t) y d h c))
theorem Cr(t:Tpl)(h:Hop)(c d:Int)(M:Rws)(s:Int×Int×Int)(hn:(aq M).Nodup):(aq (beI t h c d M s)).Nodup∧∀x y,y∈av (beI t h c d M s) x []↔y∈av M x []∨(x=s.1∧y=s.2.1∧beC t h c d s.1 s.2.1 s.2.2=true):=by
 have e:beQ t h c d s.1 s.2.1 s.2.2 M=(beC t h c d s.1 s.2.1 s.2.2 && !decide (s.2.1∈av M s.1 [])):=by
  unfold beQ beC;simp only[Bool.and_assoc]
 unfold beI
 split
 ·rename_i q;rw[e]at q;simp only[V',br',decide_eq_false_iff_not]at q;refine⟨tF hn _ _,λx y=>?_⟩;rw[qZ hn]
  split
  ·rename_i e1;subst e1;simp[q.1]
  ·rename_i e1;simp[e1]
 ·rename_i q;rw[e]at q;refine⟨hn,λx y=>⟨.inl,?_⟩⟩
  rintro(h|⟨rfl,rfl,h⟩)
  ·exact h
  ·simpa[h]using q
theorem uG{t:Tpl}(hc:aF t=0)(ds:List Hop)(x y:Int):y∈av (ef t ds) x []↔(dz t x y).2=true∧uF t ds x y=true:=by
 have h1:=λh c d=>gS (beI t h c d) (λs x y=>x=s.1∧y=s.2.1∧beC t h c d s.1 s.2.1 s.2.2=true) (λM s hn=>Cr t h c d M s hn);have h2:=λh c d=>gS (be2 t h c d) (λl x y=>∃s∈lst l,x=s.1∧y=s.2.1∧beC t h c d s.1 s.2.1 s.2.2=true) (λM l hn=>h1 h c d (lst l) M hn);have h3:=λh c=>gS (be3 t h c) (λd x y=>∃l∈t.ls,∃s∈lst l,x=s.1∧y=s.2.1∧beC t h c d.id s.1 s.2.1 s.2.2=true) (λM d hn=>h2 h c d.id t.ls M hn);have h4:=gS (be4 t) (λh x y=>(bo t h.a h.b).2=true∧∃d∈t.rs,∃l∈t.ls,∃s∈lst l,x=s.1∧y=s.2.1∧beC t h (bo t h.a h.b).1 d.id s.1 s.2.1 s.2.2=true) (λM h hn=>by
  unfold be4
  split
  ·rename_i e;obtain⟨g1,g2⟩:=h3 h (bo t h.a h.b).1 t.rs M hn;exact⟨g1,λx y=>by rw[g2];simp only[e,true_and]⟩
  ·rename_i e;exact⟨hn,λx y=>by simp[e]⟩)
 unfold ef;rw[(h4 ds [] bc').2];have e0:av ([]:Rws) x []=[]:=cA (by unfold aR aq;simp);rw[e0];have hes:∀(F:Int→Prop),(∃l∈t.ls,∃s∈lst l,x=s.1∧y=s.2.1∧F s.2.2)↔∃w,dS t x y w∧F w:=λF=>by
  unfold dS lst
  constructor
  ·rintro⟨l,hl,s,hs,e1,e2,hF⟩;simp only[aa',au',or_false]at hs
   rcases hs with rfl|rfl
   ·exact⟨l.ca,⟨l,hl,.inl ⟨e1.symm,e2.symm,rfl⟩⟩,hF⟩
   ·exact⟨l.cb,⟨l,hl,.inr ⟨e1.symm,e2.symm,rfl⟩⟩,hF⟩
  ·rintro⟨w,⟨l,hl,⟨e1,e2,e3⟩|⟨e1,e2,e3⟩⟩,hF⟩
   ·exact⟨l,hl,(l.a,l.b,l.ca),by simp,e1.symm,e2.symm,by rw[e3];exact hF⟩
   ·exact⟨l,hl,(l.b,l.a,l.cb),by simp,e1.symm,e2.symm,by rw[e3];exact hF⟩
 have hes':∀(h:Hop) (c d:Int),(∃l∈t.ls,∃s∈lst l,x=s.1∧y=s.2.1∧beC t h c d s.1 s.2.1 s.2.2=true)↔∃w,dS t x y w∧beC t h c d x y w=true:=λh c d=>by
  rw[←hes (λw=>beC t h c d x y w=true)]
  constructor
  ·rintro⟨l,hl,s,hs,rfl,rfl,hF⟩;exact⟨l,hl,s,hs,rfl,rfl,hF⟩
  ·rintro⟨l,hl,s,hs,rfl,rfl,hF⟩;exact⟨l,hl,s,hs,rfl,rfl,hF⟩
 simp only[hes'];have hbe:∀(h:Hop) (d:Rtr),(bo t h.a h.b).2=true→((∃w,dS t x y w∧beC t h (bo t h.a h.b).1 d.id x y w=true)↔(x≠h.a∧(dz t x y).2=true∧bhA t h x y d=true)):=λh d he=>by
  have u1:=sY hc (f:=x) (g:=d.id) he;have u2:=sY hc (f:=y) (g:=d.id) he;unfold bhA beC;rw[u1,u2];simp only[V',bne_iff_ne,ne_eq,as',Bl hc]
  constructor
  ·rintro⟨w,hw,g1,g2,g3,g4⟩;obtain⟨a1,a2,a3,a4⟩:=(iU (hw.cost hc)).mp g2;have:=qf a1;simp only at a2 a4;exact⟨g1,(xq hc _ _).mpr ⟨w,hw⟩,g3,⟨w,hw,a3,a2,by omega⟩,g4⟩
  ·rintro⟨g1,_,g3,⟨w,hw,a3,a2,a4⟩,g4⟩;have hx:=(gY a3).2.1;have hxx:aP t x x=(0,true):=by
    obtain⟨m,hm,e⟩:=ow hc hx (Pth.nil (t:=t) (g:=x));have:=(bI e).2.2;rw[e];congr 1;omega
   refine⟨w,hw,g1,(iU (hw.cost hc)).mpr ⟨by rw[hxx],a2,a3,by rw[hxx];simp only;omega⟩,g3,g4⟩
 unfold uF;rw[aF'];simp only[au',false_or]
 constructor
 ·rintro⟨h,hh,he,d,hd,q⟩;obtain⟨q1,q2,q3⟩:=(hbe h d he).mp q;refine⟨q2,h,hh,?_⟩;unfold bhO;rw[V',bne_iff_ne,aF'];exact⟨q1,d,hd,q3⟩
 ·rintro⟨q2,h,hh,q⟩;unfold bhO at q;rw[V',bne_iff_ne,aF']at q;obtain⟨q1,d,hd,q3⟩:=q;have he:(bo t h.a h.b).2=true:=by
   unfold bhA ws at q3;simp only[V']at q3;exact q3.1.1
  exact⟨h,hh,he,d,hd,(hbe h d he).mpr ⟨q1,q2,q3⟩⟩
def va(k:Int)(g:Tpl)(ds:List Hop)(x y:Int):Bool:=
 ((k==1) && ((dz g y x).2 && uF g ds y x)) || ((k==2) && ((dz g x y).2 && uF g ds x y))
theorem wY{t:Tpl}{c:Chg}(h:(aD t c).2.2.2=0):(aD t c).1=1∨(aD t c).1=2:=by
 have:=(jf h).2.1;unfold aD at h ⊢;rw[E' (not_not_intro this)]at h ⊢
 split
 ·rename_i q;rw[F' q]at h;cases h
 ·split
  ·exact .inr rfl
  ·exact .inl rfl
theorem tC{t:Tpl}{c:Chg}(h:(aD t c).2.2.2=0):aF (aD t c).2.1=0∧(aD t c).2.1.rs=t.rs:=by
 obtain⟨hc,ha,_,_,hg⟩:=jf h;obtain⟨_,hS⟩:=apl_S ha
 rcases hg with hg|hg<;>rw[hg]
 ·exact⟨hc,rfl⟩
 ·exact⟨Cw hc hS,hS.rs⟩
theorem wQ{t:Tpl}{c:Chg}(h:(aD t c).2.2.2=0)(x y:Int):y∈av (gL t c) x []↔va (aD t c).1 (aD t c).2.1 (aD t c).2.2.1 x y=true:=by
 obtain⟨hg,_⟩:=tC h;have hk:=wY h;unfold gL va;generalize (aD t c).2.1=g at *
 generalize (aD t c).2.2.1=ds at *
 generalize (aD t c).1=k at *
 rcases hk with rfl|rfl
 ·rw[F' rfl,(iT (j8 g ds) (kU g ds).nd (jG _)).2,uG hg];simp
 ·rw[E' (by decide),uG hg];simp
theorem rnk_D{t:Tpl}{c:Chg}(h:(aD t c).2.2.2=0):∃D:Int→Nat,(∀r x,x∈av (gL t c) r []→D x<D r)∧∀r,D r<200000:=by
 obtain⟨hc,ha,hd,hl,hg⟩:=jf h;unfold gL;generalize (aD t c).2.1=g at *
 generalize (aD t c).2.2.1=ds at *
 have hB:=kU g ds;have hdec:∀r x,x∈av (ef g ds) r []→msr g c x<msr g c r:=λr x hx=>by
  obtain⟨h0,h1,h2⟩:=hB.bh r x hx;exact tT (hd h0 h1) h2
 have hle:=xJ g c
 by_cases k:(aD t c).1=1
 ·rw[F' k];refine⟨λx=>150000-msr g c x,λr x hx=>?_,λr=>by show 150000-msr g c r<200000;omega⟩;show 150000-msr g c x<150000-msr g c r;have:=hdec x r (((iT (j8 g ds) hB.nd (jG _)).2 r x).mp hx);have:=hle x;have:=hle r;omega
 ·rw[E' k];exact⟨msr g c,hdec,λr=>by have:=hle r;omega⟩
theorem nz(A:Rws):∀(f:Nat) (r:Int),f≤1000000→0≤rkP A f r∧rkP A f r≤f
 | 0,r,_=>by simp[rkP]
 | f+1,r,h=>by
  unfold rkP;obtain⟨h1,h2,h3⟩:=jJ (λx=>W (1+rkP A f x)) (av A r []) 0;refine⟨h1,?_⟩
  rcases h3 with h3|⟨x,hx,h3⟩
  ·rw[h3];omega
  ·rw[h3];have:=nz A f x (by omega);rw[dc (by omega)];omega
structure RkO (n:List Rtr) (rel:Int→Int→Bool) (P:Int→Int):Prop where
  nn:∀x,0≤P x
  up:∀x y,rel x y=true→P y+1≤P x
  att:∀x,P x=0∨∃y,rel x y=true∧P x=P y+1∧∃r∈n,r.id=y
  le:∀r∈n,P r.id+1≤n.length
theorem D0{t:Tpl}{c:Chg}(h:(aD t c).2.2.2=0):RkO t.rs (va (aD t c).1 (aD t c).2.1 (aD t c).2.2.1) (rkP (gL t c) 200000):=by
 obtain⟨D,hD,hN⟩:=rnk_D h;obtain⟨hgc,hrs⟩:=tC h;have hm:=wQ h;have hf:∀r,rkP (gL t c) 200000 r=mxL (λx=>rkP (gL t c) 200000 x+1) (av (gL t c) r []) 0:=λr=>by
  conv=>lhs;unfold rkP
  refine nK 0 (λ_=>Iff.rfl) λx hx=>?_;have h1:=hD r x hx;have h2:=hN r;rw[lj hD 199999 200000 x (by omega) (by omega)];have:=nz (gL t c) 200000 x (by omega);rw[dc (by omega)];omega
 have hel:∀x y,va (aD t c).1 (aD t c).2.1 (aD t c).2.2.1 x y=true→∃r∈t.rs,r.id=y:=λx y hr=>by
  have:∃a b,(dz (aD t c).2.1 a b).2=true∧(y=a∨y=b):=by
   unfold va at hr;simp only[bg',V']at hr
   rcases hr with⟨_,hr,_⟩|⟨_,hr,_⟩
   ·exact⟨_,_,hr,.inl rfl⟩
   ·exact⟨_,_,hr,.inr rfl⟩
  obtain⟨a,b,h1,h2⟩:=this;obtain⟨k,hk⟩:=(xq hgc a b).mp h1;obtain⟨ha,hb⟩:=hk.has hgc;rw[nT hrs]at ha hb
  rcases h2 with rfl|rfl
  ·exact cV.mp ha
  ·exact cV.mp hb
 generalize va (aD t c).1 (aD t c).2.1 (aD t c).2.2.1=rel at *
 have hnn:∀x,0≤rkP (gL t c) 200000 x:=λx=>(nz _ 200000 x (by omega)).1;generalize rkP (gL t c) 200000=P at *
 have hup:∀x y,rel x y=true→P y+1≤P x:=λx y hr=>by
  rw[hf x];exact(jJ (λx=>P x+1) (av (gL t c) x []) 0).2.1 y ((hm x y).mpr hr)
 have hatt:∀x,P x=0∨∃y,rel x y=true∧P x=P y+1∧∃r∈t.rs,r.id=y:=λx=>by
  rcases(jJ (λx=>P x+1) (av (gL t c) x []) 0).2.2 with e|⟨y,hy,e⟩
  ·exact .inl (by rw[hf x];exact e)
  ·have hr:=(hm x y).mp hy;exact .inr ⟨y,hr,by rw[hf x];exact e,hel x y hr⟩
 refine⟨hnn,hup,hatt,λr hr=>?_⟩;have key:∀(m:Nat) (r:Rtr),r∈t.rs→D r.id≤m→∀v:Int,0≤v→v≤P r.id→v∈t.rs.map λr=>P r.id:=λm=>by
  induction m with
  | zero =>
   intro r hr hm' v h0 hv
   rcases hatt r.id with e|⟨y,hy,e,r',hr',rfl⟩
   ·exact T'.mpr ⟨r,hr,by omega⟩
   ·have:=hD _ _ ((hm _ _).mpr hy);omega
  | succ m ih =>
   intro r hr hm' v h0 hv
   rcases hatt r.id with e|⟨y,hy,e,r',hr',rfl⟩
   ·exact T'.mpr ⟨r,hr,by omega⟩
   ·by_cases q:v=P r.id
    ·exact T'.mpr ⟨r,hr,q.symm⟩
    ·have:=hD _ _ ((hm _ _).mpr hy);exact ih r' hr' (by omega) v h0 (by omega)
 have hsub:((List.range ((P r.id).toNat+1)).map λk:Nat=>(k:Int)) ⊆ t.rs.map λr=>P r.id:=λv hv=>by
  obtain⟨k,hk,rfl⟩:=T'.mp hv;have:=an'.mp hk;have:=hnn r.id;exact key (D r.id) r hr (S' _) k (by omega) (by omega)
 have hnd:((List.range ((P r.id).toNat+1)).map λk:Nat=>(k:Int)).Nodup:=List.Pairwise.map _ (λa b h=>by omega) List.nodup_range;have:=List.Nodup.length_le_of_subset hnd hsub;rw[B',B',aU']at this;have:=hnn r.id;omega
structure RkL (l:List Rnk):Prop where
  nd:(l.map (·.r)).Nodup
  rg:∀x∈l,0≤x.n∧x.n≤24
  ln:l.length≤24
theorem RkL.inj{l:List Rnk}(h:RkL l){x y:Rnk}(hx:x∈l)(hy:y∈l)(e:x.r=y.r):x=y:=by
 obtain⟨i,hi⟩:=Y'.mp hx;obtain⟨j,hj⟩:=Y'.mp hy;have a:(l.map (·.r))[i]?=some x.r:=by rw[G',hi];rfl
 have b:(l.map (·.r))[j]?=some x.r:=by rw[G',hj,e];rfl
 have:=da h.nd a b;subst this;rw[hi]at hj;exact af' hj
theorem B0(g:Int)(x:Rnk):g≤jv g x∧(x.n≤24→x.n≤jv g x):=by
 unfold jv cP
 split
 ·split
  ·omega
  ·omega
 ·omega
theorem yn:∀(l:List Rnk) (g:Int),g≤l.foldl jv g∧∀x∈l,x.n≤24→x.n≤l.foldl jv g
 | [],g=>⟨bh' _,λx hx=>by simp at hx⟩
 | y::l,g=>by
  obtain⟨h1,h2⟩:=yn l (jv g y);obtain⟨h3,h4⟩:=B0 g y;rw[ba'];refine⟨by omega,λx hx hn=>?_⟩
  rcases aa'.mp hx with rfl|hx
  ·have:=h4 hn;omega
  ·exact h2 x hx hn
theorem fY{l:List Rnk}{i:Nat}{a:Int}:a∈dn (dY l i)↔∃x∈l,x.n=(i:Int)∧x.r=a:=by
 rw[(il _).mem_iff];unfold dY;rw[T']
 constructor
 ·rintro⟨x,hx,rfl⟩;obtain⟨h1,h2⟩:=bw'.mp hx;exact⟨x,h1,aY'.mp h2,rfl⟩
 ·rintro⟨x,h1,h2,rfl⟩;exact⟨x,bw'.mpr ⟨h1,aY'.mpr h2⟩,rfl⟩
theorem pb{l:List Rnk}{i:Nat}(h:i<(aC l).length):(aC l)[i]?=some (dn (dY l i)):=by
 unfold aC at h ⊢;rw[B',aU']at h;rw[G',bf' h];rfl
theorem jI{l:List Rnk}{i:Nat}{r:List Int}(h:(aC l)[i]?=some r):r=dn (dY l i):=by
 have:=pb (ao h);rw[this]at h;exact(af' h).symm
theorem vn{l:List Rnk}:(aC l).length≤25:=by
 unfold aC;rw[B',aU'];have:=kQ l (g:=-1) (by omega);unfold gA;omega
theorem RkL.idx{l:List Rnk}(h:RkL l){x:Rnk}(hx:x∈l):x.n.toNat<(aC l).length:=by
 unfold aC;rw[B',aU'];have h1:=h.rg x hx;have:=(yn l (-1)).2 x hx h1.2;unfold gA;omega
theorem jm{l:List Rnk}{I:Nat}(hI:I≤(aC l).length){a:Int}:a∈((aC l).take I).flatten↔∃i,i<I∧a∈dn (dY l i):=by
 rw[List.mem_flatten]
 constructor
 ·rintro⟨r,hr,ha⟩;obtain⟨i,hi⟩:=Y'.mp hr;have hl:=ao hi;rw[ar']at hl;rw[ap',F' (by omega)]at hi;rw[jI hi]at ha;exact⟨i,by omega,ha⟩
 ·rintro⟨i,hi,ha⟩;exact⟨_,J' (show((aC l).take I)[i]?=some (dn (dY l i)) by rw[ap',F' hi];exact pb (by omega)),ha⟩
theorem RkL.flat{l:List Rnk}(h:RkL l):(aC l).flatten.Nodup∧(aC l).flatten.length=l.length:=by
 have h1:(aC l).flatten.Nodup:=by
  refine List.pairwise_flatten.mpr ⟨λr hr=>?_,?_⟩
  ·obtain⟨i,hi⟩:=Y'.mp hr;rw[jI hi];exact(il _).nodup_iff.mpr (li h.nd i)
  ·unfold aC;rw[List.pairwise_map];refine(List.pairwise_lt_range (n:=_)).imp λ{i j} hij a ha b hb e=>?_;obtain⟨x,x1,x2,x3⟩:=fY.mp ha;obtain⟨y,y1,y2,y3⟩:=fY.mp hb;have:=h.inj x1 y1 (x3.trans (e.trans y3.symm));subst this;omega
 have ht:(aC l).take (aC l).length=aC l:=List.take_length
 refine⟨h1,Nat.le_antisymm ?_ ?_⟩
 ·have:=List.Nodup.length_le_of_subset h1 (show(aC l).flatten ⊆ l.map (·.r)from λa ha=>by
   rw[←ht]at ha;obtain⟨i,_,ha⟩:=(jm (S' _)).mp ha;obtain⟨x,x1,_,x3⟩:=fY.mp ha;exact T'.mpr ⟨x,x1,x3⟩)
  rwa [B']at this
 ·have:=List.Nodup.length_le_of_subset h.nd (show l.map (·.r) ⊆ (aC l).flatten from λa ha=>by
   obtain⟨x,x1,rfl⟩:=T'.mp ha;rw[←ht];exact(jm (S' _)).mpr ⟨x.n.toNat,h.idx x1,fY.mpr ⟨x,x1,by have:=h.rg x x1;omega,rfl⟩⟩)
  rwa [B']at this
theorem jQ{l:List Rnk}{I:Nat}{r:List Int}(hr:(aC l)[I]?=some r):((aC l).take (I+1)).flatten=((aC l).take I).flatten++r:=by
 rw[bp hr,ci'];simp
theorem RkL.new{l:List Rnk}(h:RkL l){I k:Nat}{r:List Int}{a:Int}(hr:(aC l)[I]?=some r)(ha:r[k]?=some a):a ∉ ((aC l).take I).flatten++r.take k:=by
 have h1:=h.flat.1;rw[←bm' (I+1) (aC l),ci',jQ hr]at h1;have h2:=(aT'.mp h1).1;have hk:=ao ha;rw[←bm' k r,←aS']at h2;intro c;refine(aT'.mp h2).2.2 a c a ?_ rfl;refine J' (i:=0) ?_;rw[aH',bo'];exact ha
theorem RkL.allowed{l:List Rnk}(h:RkL l){I k:Nat}{r:List Int}(hr:(aC l)[I]?=some r):o8 l (((aC l).take I).flatten++r.take k)=true:=by
 have hI:=ao hr;have hrr:=jI hr;unfold o8;refine aE'.mpr λx hx=>aE'.mpr λy hy=>?_;cases q:m8 (((aC l).take I).flatten++r.take k) x y with
 | false=>rfl
 | true =>
  exfalso;unfold m8 at q;rw[V',V',as',as']at q;obtain⟨q1,q2,q3⟩:=q;have q2:x.r ∉ ((aC l).take I).flatten++r.take k:=by simpa using q2
  have hyn:y.n≤(I:Int):=by
   rcases ac'.mp q3 with q3|q3
   ·obtain⟨i,hi,ha⟩:=(jm (by omega)).mp q3;obtain⟨z,z1,z2,z3⟩:=fY.mp ha;have:=h.inj z1 hy z3;subst this;omega
   ·have ha:=Z' q3;rw[hrr]at ha;obtain⟨z,z1,z2,z3⟩:=fY.mp ha;have:=h.inj z1 hy z3;subst this;omega
  have hxn:=h.rg x hx;refine q2 (ce' _ ((jm (by omega)).mpr ⟨x.n.toNat,by omega,fY.mpr ⟨x,hx,by omega,rfl⟩⟩))
theorem wP{t:Tpl}{c:Chg}(hc:aF t=0)(h:(aD t c).2.2.2=0):RkL (bP t c)∧(bP t c).length=t.rs.length:=by
 have hk:=D0 h;have hl:=(cX hc).1;have e:bP t c=t.rs.map λr=>⟨r.id,rkP (gL t c) 200000 r.id⟩:=by unfold bP;rw[F' h]
 rw[e]
 refine⟨⟨?_,λx hx=>?_,by rw[B'];omega⟩,B' _⟩
 ·rw[aX'];exact List.Pairwise.map _ (λa b h=>by have h:a.id<b.id:=h;show a.id≠b.id;omega) (qk hc)
 ·obtain⟨r,hr,rfl⟩:=T'.mp hx;have h1:=hk.nn r.id;have h2:=hk.le r hr;exact⟨h1,by show rkP (gL t c) 200000 r.id≤24;omega⟩
def DX(x y:Lnk):Prop:=x.b<y.b∨x.b=y.b∧x.a<y.a
def xC(K:Int)(l:Lnk):Prop:=1≤l.a∧l.a<l.b∧l.b≤K∧iG l
structure wk (K b a:Int) (ls:List Lnk):Prop where
  pw:ls.Pairwise DX
  al:∀l∈ls,xC K l∧(l.b<b∨l.b=b∧l.a<a)
theorem Bs{L:List Int}{cost a b K:Int}{p:Nat}(hc:1≤cost∧cost≤1000)(h:1≤a∧a<b∧b≤K):xC K (xQ L cost a b p):=by
 have h1:=tu (L:=L) (p:=p) hc;have h2:=tu (L:=L) (p:=ab L p) hc;have h3:=eK (x:=ay L (ab L (ab L p))) (show(1:Int)≤4 by omega);refine⟨h.1,h.2.1,h.2.2,?_⟩;unfold iG xQ gb;simp only[V',decide_eq_true_eq];omega
theorem rT{L:List Int}{cost b tree K:Int}{skip:Bool}(hc:1≤cost∧cost≤1000)(hb:b≤K):∀{f:Nat} {a:Int} {ls:List Lnk} {p:Nat},wk K b a ls→1≤a→a+f≤b →
  wk K b (a+f) (inM L cost b tree skip f a ls p).1∧(inM L cost b tree skip f a ls p).1.length≤ls.length+f
 | 0,a,ls,p,h,h1,h2=>⟨by rw[inM];simpa using h,by rw[inM];exact S' _⟩
 | f+1,a,ls,p,h,h1,h2=>by
  rw[inM];have e:a+((f+1:Nat):Int)=(a+1)+(f:Int):=by omega
  rw[e]
  split
  ·have hk:=Bs (L:=L) (a:=a) (b:=b) (K:=K) (p:=(cnM L a tree skip p).2) hc (by omega);have hI:wk K b (a+1) (ls++[xQ L cost a b (cnM L a tree skip p).2]):=by
    refine⟨cf'.mpr ⟨h.pw,by simp,λx hx y hy=>?_⟩,λl hl=>?_⟩
    ·rw[P'.mp hy];have:=(h.al x hx).2;unfold DX xQ;simp only;omega
    ·rcases ac'.mp hl with hl|hl
     ·have:=h.al l hl;exact⟨this.1,by omega⟩
     ·rw[P'.mp hl];exact⟨hk,.inr ⟨rfl,by show a<a+1;omega⟩⟩
   obtain⟨g1,g2⟩:=rT (L:=L) (tree:=tree) (skip:=skip) hc hb (p:=ab L (ab L (ab L (cnM L a tree skip p).2))) hI (by omega) (by omega) (f:=f);exact⟨g1,by rw[List.length_append,List.length_singleton]at g2;omega⟩
  ·obtain⟨g1,g2⟩:=rT (L:=L) (tree:=tree) (skip:=skip) hc hb (p:=(cnM L a tree skip p).2) (ls:=ls) (a:=a+1) (f:=f) ⟨h.pw,λl hl=>by have:=h.al l hl;exact⟨this.1,by omega⟩⟩ (by omega) (by omega);exact⟨g1,by omega⟩
theorem xu{L:List Int}{cost K:Int}(hc:1≤cost∧cost≤1000)(hK:K≤7):∀{f:Nat} {b:Int} {ls:List Lnk} {p:Nat},wk K b 1 ls→2≤b→b+f≤K+1 →
  wk K (b+f) 1 (ouM L cost f b ls p).1∧(ouM L cost f b ls p).1.length≤ls.length+6 * f
 | 0,b,ls,p,h,h1,h2=>⟨by rw[ouM];simpa using h,by rw[ouM];exact S' _⟩
 | f+1,b,ls,p,h,h1,h2=>by
  rw[ouM];have e:b+((f+1:Nat):Int)=(b+1)+(f:Int):=by omega
  rw[e];obtain⟨g1,g2⟩:=rT (L:=L) (tree:=rng L p 1 (W (b-1))) (skip:=fV L (ab L p) 9) hc (show b≤K by omega) (p:=ab L (ab L p)) h (by omega) (show(1:Int)+(((b-1).toNat:Nat):Int)≤b by omega);have hI:wk K (b+1) 1 (inR L cost b ls p).1:=⟨g1.pw,λl hl=>by
   have:=g1.al l hl;have h3:=this.1;unfold xC at h3;exact⟨this.1,by omega⟩⟩
  obtain⟨k1,k2⟩:=xu hc hK (L:=L) (p:=(inR L cost b ls p).2) hI (by omega) (by omega) (f:=f);refine⟨k1,?_⟩;have:(inR L cost b ls p).1.length≤ls.length+6:=by
   unfold inR;have:(b-1).toNat≤6:=by omega
   omega
  omega
theorem pk{x y z:Lnk}(h1:aU x y)(h2:aU y z):aU x z:=by unfold aU at *;omega
theorem pc:∀(l out:List Lnk),out.Pairwise aU→(∀x∈l,∀y∈out,aU x y∨aU y x)→l.Pairwise (λx y=>aU x y∨aU y x)→(aW l out).Pairwise aU∧(aW l out).Perm (l++out)
 | [],out,h,_,_=>⟨h,.refl _⟩
 | x::l,out,h,hd,hp=>by
  rw[aW];obtain⟨hp1,hp2⟩:=bM'.mp hp;have hperm:=rS out (fU out x) x;have hin:(bE out (fU out x) x).Pairwise aU:=by
   have hle:=tH out x;have ht:∀y∈out.take (fU out x),aU y x:=λy hy=>by
    obtain⟨i,hi,rfl⟩:=bF'.mp hy;have:=List.not_of_lt_findIdx (p:=λy=>!decide (aU y x)) (xs:=out) (i:=i) (by show i<fU out x;omega);simpa using this
   have hdr:∀y∈out.drop (fU out x),aU x y:=λy hy=>by
    obtain⟨i,hi,rfl⟩:=cd'.mp hy;rw[bb']at hi;rw[List.getElem_drop];have h0:aU x (out[fU out x]'(by omega)):=by
     have:=List.findIdx_getElem (p:=λy=>!decide (aU y x)) (xs:=out) (w:=by show fU out x<out.length;omega);have hn:¬aU (out[fU out x]'(by omega)) x:=by simp only[fU];simpa using this
     rcases hd x (by simp) (out[fU out x]'(by omega)) (aK' _)with q|q
     ·exact q
     ·exact absurd q hn
    by_cases e:i=0
    ·subst e;simpa using h0
    ·have:=aZ'.mp h (fU out x) (fU out x+i) (by omega) (by omega) (by omega);exact pk h0 this
   unfold bE;rw[aS']
   refine cf'.mpr ⟨h.sublist (List.take_sublist _ _),?_,λy hy z hz=>?_⟩
   ·rw[List.singleton_append];exact bM'.mpr ⟨hdr,h.sublist (List.drop_sublist _ _)⟩
   ·rcases ac'.mp hz with hz|hz
    ·rw[P'.mp hz];exact ht y hy
    ·exact pk (ht y hy) (hdr z hz)
  have hdd:∀z∈l,∀y∈bE out (fU out x) x,aU z y∨aU y z:=λz hz y hy=>by
   rcases aa'.mp (hperm.mem_iff.mp hy)with rfl|hy
   ·exact(hp1 z hz).symm
   ·exact hd z (by simp[hz]) y hy
  obtain⟨g1,g2⟩:=pc l (bE out (fU out x) x) hin hdd hp2;refine⟨g1,g2.trans ?_⟩;refine((List.Perm.refl l).append hperm).trans ?_;exact List.perm_middle
theorem zn{t:Tpl}(h:Fq t):aF t=0:=by
 unfold aF;rw[E' (by have:=h.nr;have:=h.nl;omega),E' (not_not_intro h.rg),E' (not_not_intro h.asc),E' (not_not_intro h.lr),E' (not_not_intro h.has),E' (not_not_intro h.lt),E' (not_not_intro h.ord)]
theorem BH(L:List Int)(p:Nat):1≤qd L p∧qd L p≤1000:=by
 unfold qd dq;have hm:=eK (x:=ay L (ab L p)) (show(1:Int)≤(([1,2,2,5]:List Int).length:Int) by decide);generalize Mod (ay L (ab L p)) (([1,2,2,5]:List Int).length:Int)=m at hm;have hm2:0≤m∧m<4:=hm;obtain⟨k,hk⟩:∃k:Nat,m.toNat=k∧k<4:=⟨m.toNat,rfl,by omega⟩
 rw[hk.1]
 match k,hk.2 with
 | 0,_=>decide
 | 1,_=>decide
 | 2,_=>decide
 | 3,_=>decide
theorem Dp(L:List Int)(p:Nat)(most:Int)(h:1≤most∧most≤7):aF (la L p most 0).1=0∧capT (la L p most 0).1=true:=by
 have hk:=tu (L:=L) (p:=p) (m:=most) (by omega);unfold la;rw[E' (λq=>by have:=q.1;omega)];simp only;unfold w9 nm;generalize rng L p 1 most=K at hk;obtain⟨g1,g2⟩:=xu (L:=L) (K:=K) (BH L p) (by omega) (f:=(K-1).toNat) (b:=2) (ls:=[]) (p:=ab L (ab L p)) ⟨by simp,by simp⟩ (by omega) (by omega);generalize (ouM L (qd L p) (K-1).toNat 2 [] (ab L (ab L p))).1=o at g1 g2;obtain⟨s1,s2⟩:=pc o [] (by simp) (by simp) (g1.pw.imp λh=>by unfold DX at h;unfold aU;omega);have hmem:∀l∈aW o [],xC K l:=λl hl=>by
  have:=s2.mem_iff.mp hl;rw[bd']at this;exact(g1.al l this).1
 have hrs:∀x∈jc K.toNat,1≤x.id∧x.id≤K∧x.cap=true:=λx hx=>by
  obtain⟨i,hi,rfl⟩:=T'.mp hx;have:=an'.mp hi;exact⟨by simp only;omega,by simp only;omega,rfl⟩
 have hhas:∀a:Int,1≤a→a≤K→aJ ⟨jc K.toNat,aW o []⟩ a=true:=λa h1 h2=>cV.mpr ⟨⟨((a.toNat-1+1:Nat):Int),true⟩,T'.mpr ⟨a.toNat-1,an'.mpr (by omega),rfl⟩,by simp only;omega⟩
 refine⟨zn ⟨by simp only[lh];omega,by rw[l8];simp only[ak']at *;omega,λx hx=>by have:=hrs x hx;omega,?_,λl hl=>(hmem l hl).2.2.2,λl hl=>?_,λl hl=>(hmem l hl).2.1,s1⟩,?_⟩
 ·refine List.Pairwise.map _ (λa b (h:a<b)=>?_) List.pairwise_lt_range;simp only;omega
 ·have:=hmem l hl;unfold xC at this;exact⟨hhas _ (by omega) (by omega),hhas _ (by omega) (by omega)⟩
 ·unfold capT;have:(jc K.toNat).any EW=false:=by
   rw[Bool.eq_false_iff];intro q;obtain⟨x,hx,e⟩:=aF'.mp q;rw[EW,(hrs x hx).2.2]at e;cases e
  simp only[this];rfl
def jU(L:List Int)(p:Nat)(k:Int):Chg×Nat:=
 (⟨W (1+Mod (ay L p) k),W (1+Mod (ay L (ab L p)) k),rng L (ab L (ab L p)) 1 6,rng L (ab L (ab L (ab L p))) 1 6⟩,ab L (ab L (ab L (ab L p))))
def EM(L:List Int)(p:Nat)(l:Lnk):Chg×Nat:=
 if Mod (ay L p) 6=0 then(⟨l.a,l.b,0,0⟩,ab L p)
 else if Mod (ay L p) 6=1 then(⟨l.a,l.b,W (l.ca+rng L (ab L p) 1 4),l.cb⟩,ab L (ab L p))
 else if Mod (ay L p) 6=2 then(⟨l.a,l.b,W (l.ca+rng L (ab L p) 0 4),W (l.cb+rng L (ab L (ab L p)) 0 4)⟩,ab L (ab L (ab L p)))
 else if Mod (ay L p) 6=3 then(⟨l.a,l.b,rng L (ab L p) 1 l.ca,rng L (ab L (ab L p)) 1 l.cb⟩,ab L (ab L (ab L p)))
 else if Mod (ay L p) 6=4 then(⟨l.b,l.a,W (l.cb+Mod (ay L (ab L p)) 3),W (l.ca+Mod (ay L (ab L (ab L p))) 3)⟩,ab L (ab L (ab L p)))
 else(⟨l.a,l.b,l.ca,1⟩,ab L p)
def m7(L:List Int)(p:Nat)(g:Tpl):Chg×Nat:=
 if 0<g.ls.length then
  (if 0<Mod (ay L (jU L p g.rs.length).2) 4 then
   (match g.ls[(Mod (ay L (ab L (jU L p g.rs.length).2)) g.ls.length).toNat]? with
    | some l=>EM L (ab L (ab L (jU L p g.rs.length).2)) l
    | none=>((jU L p g.rs.length).1,0))
   else((jU L p g.rs.length).1,ab L (jU L p g.rs.length).2))
 else jU L p g.rs.length
def chgN(L:List Int)(p:Nat)(c:Chg):Chg×Nat:=
 if Mod (ay L p) 4=0 then(⟨Mod (ay L (ab L p)) 9,c.b,c.ca,c.cb⟩,ab L (ab L p))
 else if Mod (ay L p) 4=1 then(⟨c.a,c.a,c.ca,c.cb⟩,ab L p)
 else if Mod (ay L p) 4=2 then(⟨c.a,c.b,gE L (ab L p),c.cb⟩,ab L (ab L p))
 else(⟨c.a,c.b,0,Mod (ay L (ab L p)) 2⟩,ab L (ab L p))
def eT(L:List Int)(p:Nat)(g:Tpl)(n:Int):Chg×Nat:=
 if 0<n then
  (if fV L (m7 L p g).2 n=true then chgN L (ab L (m7 L p g).2) (m7 L p g).1 else((m7 L p g).1,ab L (m7 L p g).2))
 else m7 L p g
def zq(L:List Int)(p:Nat)(g:Tpl)(n:Int):=okL [.ref 0 0,Tpl.v g,.int n]∧(.box (.agg [.sl 1 (L.map AV.int) false,.int p]):Blk).ok
def BX(L:List Int)(n:Int)(t0:Chg×Nat):NF:=⟨[rR 0 0,rI 2 n,rR 6 1,rR 8 2],[.box (.agg [.sl 1 (L.map AV.int) false,.int t0.2]),.box (Chg.v (⟨0,0,0,0⟩:Chg)),.box (Chg.v t0.1)]⟩
def BW(L:List Int)(p:Nat)(g:Tpl)(n:Int)(t1:Bool×Nat):NF:=⟨[rR 0 0,rI 2 n,rR 4 1,rR 6 2,rR 8 3,rB 34 t1.1],[.box (.agg [.sl 1 (L.map AV.int) false,.int t1.2]),.box (Tpl.v g),.box (Chg.v (⟨0,0,0,0⟩:Chg)),.box (Chg.v (⟨W (1+(Mod (ay L p) ((g.rs.map Rtr.v).length:Int))),W (1+(Mod (ay L (ab L p)) ((g.rs.map Rtr.v).length:Int))),rng L (ab L (ab L p)) 1 6,rng L (ab L (ab L (ab L p))) 1 6⟩:Chg))]⟩
def BV(L:List Int)(t0:Chg×Nat)(t2:Bool×Nat):NF:=⟨[rR 0 0,rR 6 1,rR 8 2,rB 117 t2.1],[.box (.agg [.sl 1 (L.map AV.int) false,.int t2.2]),.box (Chg.v (⟨0,0,0,0⟩:Chg)),.box (Chg.v t0.1)]⟩
@[reducible] def zp:Nat→Type
 | 0=>Chg×Nat
 | 1=>Bool×Nat
 | 2=>Bool×Nat
 | _=>Unit
def sJ(r:Tap×Chg):AV:=Chg.v r.2
def sK(r:Tap×Chg):List (Option Blk):=[some (.box (Tap.v r.1))]
def zo(L:List Int)(p:Nat)(g:Tpl)(n:Int)(I0:(Chg×Nat)→Prop)(I1:(Bool×Nat)→Prop)(I2:Chg×Nat→(Bool×Nat)→Prop):Ax Try.prog zp (Tap×Chg):=
 (.callH [0] (cg L p ((g.rs.map Rtr.v).length:Int)) 129
(.callH [0] (cg L (ab L p) ((g.rs.map Rtr.v).length:Int)) 193
(.callH [0] (eN L (ab L (ab L p)) 1 6) 241
(.callH [0] (eN L (ab L (ab L (ab L p))) 1 6) 273
(.join 0 (BX L n) (λ(t0:Chg×Nat)=>I0 t0) (λb0=>(.join 1 (BW L p g n) (λ(t1:Bool×Nat)=>I1 t1) (λb1=>(.br 417 (decide (0<((g.ls.map Lnk.v).length:Int))) (.callH [0] (cg L (ab L (ab L (ab L (ab L p)))) 4) 433
(.bk 1 b1 (decide (0<(Mod (ay L (ab L (ab L (ab L (ab L p))))) 4)),ab L (ab L (ab L (ab L (ab L p))))) [0,1,17,305]))
(.bk 1 b1 (false,ab L (ab L (ab L (ab L p)))) [0,1,17,305]))) λ(t1:Bool×Nat) =>
(.br 4 t1.1 (.callH [0] (cg L t1.2 ((g.ls.map Lnk.v).length:Int)) 100
(.elI 116 Lnk.v g.ls (Mod (ay L t1.2) ((g.ls.map Lnk.v).length:Int)) λx1 =>
(.callH [0] (cg L (ab L t1.2) 6) 356
(.br 404 ((Mod (ay L (ab L t1.2)) 6)==0) (.bk 0 b0 ((⟨x1.a,x1.b,0,0⟩:Chg),ab L (ab L t1.2)) [0,2,3])
(.br 436 ((Mod (ay L (ab L t1.2)) 6)==1) (.callH [0] (eN L (ab L (ab L t1.2)) 1 4) 484
(.bk 0 b0 ((⟨x1.a,x1.b,W (x1.ca+(rng L (ab L (ab L t1.2)) 1 4)),x1.cb⟩:Chg),ab L (ab L (ab L t1.2))) [0,2,3]))
(.br 468 ((Mod (ay L (ab L t1.2)) 6)==2) (.callH [0] (eN L (ab L (ab L t1.2)) 0 4) 516
(.callH [0] (eN L (ab L (ab L (ab L t1.2))) 0 4) 596
(.bk 0 b0 ((⟨x1.a,x1.b,W (x1.ca+(rng L (ab L (ab L t1.2)) 0 4)),W (x1.cb+(rng L (ab L (ab L (ab L t1.2))) 0 4))⟩:Chg),ab L (ab L (ab L (ab L t1.2)))) [0,2,3])))
(.br 500 ((Mod (ay L (ab L t1.2)) 6)==3) (.callH [0] (eN L (ab L (ab L t1.2)) 1 x1.ca) 548
(.callH [0] (eN L (ab L (ab L (ab L t1.2))) 1 x1.cb) 612
(.bk 0 b0 ((⟨x1.a,x1.b,rng L (ab L (ab L t1.2)) 1 x1.ca,rng L (ab L (ab L (ab L t1.2))) 1 x1.cb⟩:Chg),ab L (ab L (ab L (ab L t1.2)))) [0,2,3])))
(.br 532 ((Mod (ay L (ab L t1.2)) 6)==4) (.callH [0] (cg L (ab L (ab L t1.2)) 3) 644
(.callH [0] (cg L (ab L (ab L (ab L t1.2))) 3) 724
(.bk 0 b0 ((⟨x1.b,x1.a,W (x1.cb+(Mod (ay L (ab L (ab L t1.2))) 3)),W (x1.ca+(Mod (ay L (ab L (ab L (ab L t1.2)))) 3))⟩:Chg),ab L (ab L (ab L (ab L t1.2)))) [0,2,3])))
(.bk 0 b0 ((⟨x1.a,x1.b,x1.ca,1⟩:Chg),ab L (ab L t1.2)) [0,2,3])))))))))
(.bk 0 b0 ((⟨W (1+(Mod (ay L p) ((g.rs.map Rtr.v).length:Int))),W (1+(Mod (ay L (ab L p)) ((g.rs.map Rtr.v).length:Int))),rng L (ab L (ab L p)) 1 6,rng L (ab L (ab L (ab L p))) 1 6⟩:Chg),t1.2) [0,2,3])))) λ(t0:Chg×Nat) =>
(.pass (.join 2 (BV L t0) (λ(t2:Bool×Nat)=>I2 t0 t2) (λb2=>(.br 51 (decide (0<n)) (.callH [0] (l9 L t0.2 n) 83
(.bk 2 b2 (fV L t0.2 n,ab L t0.2) [0,1,2]))
(.bk 2 b2 (false,t0.2) [0,1,2]))) λ(t2:Bool×Nat) =>
(.br 3 t2.1 (.callH [0] (cg L t2.2 4) 19
(.br 67 ((Mod (ay L t2.2) 4)==0) (.callH [0] (cg L (ab L t2.2) 9) 83
(.retH ((⟨L,ab L (ab L t2.2)⟩:Tap),(⟨Mod (ay L (ab L t2.2)) 9,t0.1.b,t0.1.ca,t0.1.cb⟩:Chg)) ⟨[rR 6 1],[.box (.agg [.sl 1 (L.map AV.int) false,.int (((ab L (ab L t2.2)):Nat):Int)]),.box (Chg.v (⟨Mod (ay L (ab L t2.2)) 9,t0.1.b,t0.1.ca,t0.1.cb⟩:Chg))]⟩ [0,1]))
(.br 99 ((Mod (ay L t2.2) 4)==1) (.retH ((⟨L,ab L t2.2⟩:Tap),(⟨t0.1.a,t0.1.a,t0.1.ca,t0.1.cb⟩:Chg)) ⟨[rR 6 1],[.box (.agg [.sl 1 (L.map AV.int) false,.int (ab L t2.2)]),.box (Chg.v (⟨t0.1.a,t0.1.a,t0.1.ca,t0.1.cb⟩:Chg))]⟩ [0,1])
(.br 131 ((Mod (ay L t2.2) 4)==2) (.callH [0] (ni L (ab L t2.2)) 147
(.retH ((⟨L,ab L (ab L t2.2)⟩:Tap),(⟨t0.1.a,t0.1.b,gE L (ab L t2.2),t0.1.cb⟩:Chg)) ⟨[rR 6 1],[.box (.agg [.sl 1 (L.map AV.int) false,.int (((ab L (ab L t2.2)):Nat):Int)]),.box (Chg.v (⟨t0.1.a,t0.1.b,gE L (ab L t2.2),t0.1.cb⟩:Chg))]⟩ [0,1]))
(.callH [0] (cg L (ab L t2.2) 2) 147
(.retH ((⟨L,ab L (ab L t2.2)⟩:Tap),(⟨t0.1.a,t0.1.b,0,Mod (ay L (ab L t2.2)) 2⟩:Chg)) ⟨[rR 6 1],[.box (.agg [.sl 1 (L.map AV.int) false,.int (((ab L (ab L t2.2)):Nat):Int)]),.box (Chg.v (⟨t0.1.a,t0.1.b,0,Mod (ay L (ab L t2.2)) 2⟩:Chg))]⟩ [0,1]))))))
(.retH ((⟨L,t2.2⟩:Tap),t0.1) ⟨[rR 6 1],[.box (.agg [.sl 1 (L.map AV.int) false,.int t2.2]),.box (Chg.v t0.1)]⟩ [0,1])))))))))
theorem EN(L:List Int)(p:Nat)(g:Tpl)(n:Int)(ok:zq L p g n):∃I0 I1 I2,(zo L p g n I0 I1 I2).vc sJ sK ((⟨L,(eT L p g n).2⟩:Tap),(eT L p g n).1):=by
 refine⟨λs=>s=m7 L p g,λu=>u=(decide (0<g.ls.length∧0<Mod (ay L (jU L p g.rs.length).2) 4),if 0<g.ls.length then ab L (jU L p g.rs.length).2 else(jU L p g.rs.length).2),λs u=>u=(decide (0<n∧fV L s.2 n=true),if 0<n then ab L s.2 else s.2),?_⟩;simp only[zq,Tpl.v,okU,Blk.ok,bc,B']at ok;dsimp only[zo,zp,Ax.vp,Ax.vc];simp only[vcU,rfU,B'];have e0:(jU L p g.rs.length).2=ab L (ab L (ab L (ab L p))):=rfl
 refine⟨⟨⟨λc=>?_,λc=>?_⟩,?_⟩,?_⟩
 ·have c:0<g.ls.length:=by omega
  rw[e0,F' c]
  congr 1
  rw[decide_eq_decide];exact⟨λh=>⟨c,h⟩,λh=>h.2⟩
 ·have c:¬0<g.ls.length:=by omega
  rw[e0,E' c]
  congr 1
  rw[eq_comm,decide_eq_false_iff_not];exact λh=>c h.1
 ·rintro _ rfl;simp only
  refine⟨λc=>?_,λc=>?_⟩
  ·obtain⟨c1,c2⟩:=H' c;rw[F' c1];have hm:=eK (x:=ay L (ab L (jU L p g.rs.length).2)) (show 1≤(g.ls.length:Int) by omega);refine⟨hm.1,hm.2,λx hx=>?_⟩;have e:m7 L p g=EM L (ab L (ab L (jU L p g.rs.length).2)) x:=by unfold m7;rw[F' c1,F' c2,hx]
   rw[e];unfold EM;refine⟨λd=>by rw[F' (eq_of_beq d)],λd=>?_⟩;rw[E' (by simpa using d)];refine⟨λd=>by rw[F' (eq_of_beq d)],λd=>?_⟩;rw[E' (by simpa using d)];refine⟨λd=>by rw[F' (eq_of_beq d)],λd=>?_⟩;rw[E' (by simpa using d)];refine⟨λd=>by rw[F' (eq_of_beq d)],λd=>?_⟩;rw[E' (by simpa using d)];exact⟨λd=>by rw[F' (eq_of_beq d)],λd=>by rw[E' (by simpa using d)]⟩
  ·have c:=ag' c;unfold m7
   by_cases c1:0<g.ls.length
   ·rw[F' c1,F' c1,E' (λh=>c ⟨c1,h⟩)];rfl
   ·rw[E' c1,E' c1];rfl
 ·rintro _ rfl
  refine⟨⟨λc=>?_,λc=>?_⟩,?_⟩
  ·rw[F' c];simp[c]
  ·rw[E' c];simp[c]
  rintro _ rfl;simp only;unfold eT
  refine⟨λc=>?_,λc=>?_⟩
  ·obtain⟨c1,c2⟩:=H' c;rw[F' c1,F' c1,F' c2];unfold chgN;refine⟨λd=>by rw[F' (eq_of_beq d)],λd=>?_⟩;rw[E' (by simpa using d)];refine⟨λd=>by rw[F' (eq_of_beq d)],λd=>?_⟩;rw[E' (by simpa using d)];exact⟨λd=>by rw[F' (eq_of_beq d)],λd=>by rw[E' (by simpa using d)]⟩
  ·have c:=ag' c
   by_cases c1:0<n
   ·rw[F' c1,F' c1,E' (λh=>c ⟨c1,h⟩)]
   ·rw[E' c1,E' c1]
def EO(L:List Int)(p:Nat)(g:Tpl)(n:Int):HC Try.prog:=hcO 7 [.k,(.a [(.s 2),(.s 5)]),.k] [.ref 0 0,Tpl.v g,.int n] [.box (.agg [.sl 1 (L.map AV.int) false,.int p])] .k sJ sK ((⟨L,(eT L p g n).2⟩:Tap),(eT L p g n).1) (λok ok2=>let ⟨I0,I1,I2,h⟩:=EN L p g n ⟨ok,ok2 _ (by simp)⟩;⟨_,h,by kernel_rfl⟩) (by kernel_rfl) (by simp[hcB,dM,AV.belB,allB,fW,fE,sJ,sK,Chg.v,Tap.v,Tpl.v,am (v:=AV.int) (λ_=>rfl),am (v:=Lnk.v) (λ_=>rfl),am (v:=Rtr.v) (λ_=>rfl)])
set_option pp.deepTerms true
set_option pp.maxSteps 100000
def zB(t:List Int):=okL [.sl 1 (t.map AV.int) false]
abbrev ak(t:List Int):=(la (t.take 600) 0 6 0)
def Cq(t:List Int)(t0:Int×List Int):NF:=⟨[rR 4 0,(5,.k,.sl 2 ((bP (⟨((ak t).1).rs,((ak t).1).ls⟩:Tpl) ((eT (t.take 600) ((ak t).2) (⟨((ak t).1).rs,((ak t).1).ls⟩:Tpl) 0).1)).map Rnk.v) false),rV 7 1,(8,.k,.sl 1 ((aC (bP (⟨((ak t).1).rs,((ak t).1).ls⟩:Tpl) ((eT (t.take 600) ((ak t).2) (⟨((ak t).1).rs,((ak t).1).ls⟩:Tpl) 0).1))).map (λl:List Int=>AV.sl 1 (l.map AV.int) false)) false),rI 9 t0.1],[.box (.agg [.sl 2 ((((ak t).1).rs).map Rtr.v) false,.sl 5 ((((ak t).1).ls).map Lnk.v) false]),vB 1 AV.int t0.2 (λ_=>rfl)]⟩
def Cp(t:List Int)(t0:Int×List Int)(t1:Int×List Int):NF:=⟨[rR 4 0,(5,.k,.sl 2 ((bP (⟨((ak t).1).rs,((ak t).1).ls⟩:Tpl) ((eT (t.take 600) ((ak t).2) (⟨((ak t).1).rs,((ak t).1).ls⟩:Tpl) 0).1)).map Rnk.v) false),rV 7 1,(8,.k,.sl 1 ((aC (bP (⟨((ak t).1).rs,((ak t).1).ls⟩:Tpl) ((eT (t.take 600) ((ak t).2) (⟨((ak t).1).rs,((ak t).1).ls⟩:Tpl) 0).1))).map (λl:List Int=>AV.sl 1 (l.map AV.int) false)) false),rI 9 t0.1,rI 10 t1.1],[.box (.agg [.sl 2 ((((ak t).1).rs).map Rtr.v) false,.sl 5 ((((ak t).1).ls).map Lnk.v) false]),vB 1 AV.int t1.2 (λ_=>rfl)]⟩
@[reducible] def z8:Nat→Type
 | 0=>Int×List Int
 | 1=>Int×List Int
 | _=>Unit
def zA(r:Bool):AV:=.bool r
def z7(t:List Int)(I0:(Int×List Int)→Prop)(m0:(Int×List Int)→Nat)(I1:Int×List Int→(Int×List Int)→Prop)(m1:Int×List Int→(Int×List Int)→Nat):Ax Try.prog z8 (Bool):=
 (.callH [] (DO t) 32
(.req 80 (1≤6∧6≤20) λh1 =>
(.callH [32] (Dr (t.take 600) 0 6 0 h1) 80
(.say (Rf ((((ak t).1).rs).map Rtr.v)) (.cmd (.frzE 80 ((((ak t).1).rs).map Rtr.v) (am (λ_=>rfl) (((ak t).1).rs))) (.say (Rf ((((ak t).1).ls).map Lnk.v)) (.cmd (.frzE 81 ((((ak t).1).ls).map Lnk.v) (am (λ_=>rfl) (((ak t).1).ls))) (.callH [32] (EO (t.take 600) ((ak t).2) (⟨((ak t).1).rs,((ak t).1).ls⟩:Tpl) 0) 176
(.callP (tD (⟨((ak t).1).rs,((ak t).1).ls⟩:Tpl) ((eT (t.take 600) ((ak t).2) (⟨((ak t).1).rs,((ak t).1).ls⟩:Tpl) 0).1))
(.br 320 (((aD (⟨((ak t).1).rs,((ak t).1).ls⟩:Tpl) ((eT (t.take 600) ((ak t).2) (⟨((ak t).1).rs,((ak t).1).ls⟩:Tpl) 0).1)).2.2.2) != 0) (.br 368 (((aD (⟨((ak t).1).rs,((ak t).1).ls⟩:Tpl) ((eT (t.take 600) ((ak t).2) (⟨((ak t).1).rs,((ak t).1).ls⟩:Tpl) 0).1)).2.2.2) != 1) (.callP (uJ )
(.ret (true)))
(.ret (false)))
(.req 352 ((bP (⟨((ak t).1).rs,((ak t).1).ls⟩:Tpl) ((eT (t.take 600) ((ak t).2) (⟨((ak t).1).rs,((ak t).1).ls⟩:Tpl) 0).1)).length≤1000∧((bP (⟨((ak t).1).rs,((ak t).1).ls⟩:Tpl) ((eT (t.take 600) ((ak t).2) (⟨((ak t).1).rs,((ak t).1).ls⟩:Tpl) 0).1)).map (·.r)).Nodup) λh2 =>
(.callP (DF (bP (⟨((ak t).1).rs,((ak t).1).ls⟩:Tpl) ((eT (t.take 600) ((ak t).2) (⟨((ak t).1).rs,((ak t).1).ls⟩:Tpl) 0).1)) h2)
(.cmdL (.nilT 7 1) (.loop 0 (Cq t) I0 m0 (0,[]) [96,400] λ(t0:Int×List Int) b0 =>
(.br 66 (decide (t0.1<(((aC (bP (⟨((ak t).1).rs,((ak t).1).ls⟩:Tpl) ((eT (t.take 600) ((ak t).2) (⟨((ak t).1).rs,((ak t).1).ls⟩:Tpl) 0).1))).map (λl:List Int=>AV.sl 1 (l.map AV.int) false)).length:Int))) (.loop 1 (Cp t t0) (I1 t0) (m1 t0) (0,t0.2) [0,1] λ(t1:Int×List Int) b1 =>
(.elI 50 (λl:List Int=>AV.sl 1 (l.map AV.int) false) (aC (bP (⟨((ak t).1).rs,((ak t).1).ls⟩:Tpl) ((eT (t.take 600) ((ak t).2) (⟨((ak t).1).rs,((ak t).1).ls⟩:Tpl) 0).1))) t0.1 λx3 =>
(.br 114 (decide (t1.1<((x3.map AV.int).length:Int))) (.elI 162 (λl:List Int=>AV.sl 1 (l.map AV.int) false) (aC (bP (⟨((ak t).1).rs,((ak t).1).ls⟩:Tpl) ((eT (t.take 600) ((ak t).2) (⟨((ak t).1).rs,((ak t).1).ls⟩:Tpl) 0).1))) t0.1 λx4 =>
(.elI 210 AV.int x4 t1.1 λx5 =>
(.callP (Eh t1.2 x5)
(.say (ck (dG [(t1.2.map AV.int)])) (.br 258 (decide (x5∈t1.2)) (.ret (false))
(.elI 306 (λl:List Int=>AV.sl 1 (l.map AV.int) false) (aC (bP (⟨((ak t).1).rs,((ak t).1).ls⟩:Tpl) ((eT (t.take 600) ((ak t).2) (⟨((ak t).1).rs,((ak t).1).ls⟩:Tpl) 0).1))) t0.1 λx6 =>
(.elI 354 AV.int x6 t1.1 λx7 =>
(.apX 402 AV.int t1.2 [x7] (t1.2.length+1)
(.req 466 ((bP (⟨((ak t).1).rs,((ak t).1).ls⟩:Tpl) ((eT (t.take 600) ((ak t).2) (⟨((ak t).1).rs,((ak t).1).ls⟩:Tpl) 0).1)).length≤1000000) λh8 =>
(.callP (sP (bP (⟨((ak t).1).rs,((ak t).1).ls⟩:Tpl) ((eT (t.take 600) ((ak t).2) (⟨((ak t).1).rs,((ak t).1).ls⟩:Tpl) 0).1)) (t1.2++[x7]) h8)
(.say (ck (dG [((t1.2++[x7]).map AV.int)])) (.br 498 (!(o8 (bP (⟨((ak t).1).rs,((ak t).1).ls⟩:Tpl) ((eT (t.take 600) ((ak t).2) (⟨((ak t).1).rs,((ak t).1).ls⟩:Tpl) 0).1)) (t1.2++[x7]))) (.ret (false))
(.bk 1 b1 (W (t1.1+1),t1.2++[x7]) [0,402])))))))))))))
(.bk 0 b0 (W (t0.1+1),t1.2) [0,1]))))
(.br 178 (((t0.2.map AV.int).length:Int)==(((((ak t).1).rs).map Rtr.v).length:Int)) (.callP (uJ )
(.ret (true)))
(.ret (false))))))))))))))))))
theorem Fc(t:List Int)(ok:zB t):∃I0 m0 I1 m1,(z7 t I0 m0 I1 m1).vp zA true:=by
 obtain⟨hc,_⟩:=Dp (t.take 600) 0 6 (by omega);generalize hT:la (t.take 600) 0 6 0=T at hc;generalize hC:(eT (t.take 600) T.2 T.1 0).1=c
 refine⟨λs=>∃I:Nat,s.1=I∧I≤(aC (bP T.1 c)).length∧s.2=((aC (bP T.1 c)).take I).flatten,λs=>(aC (bP T.1 c)).length-s.1.toNat,
  λs u=>∀r,(aC (bP T.1 c))[s.1.toNat]?=some r→∃k:Nat,u.1=k∧k≤r.length∧u.2=s.2++r.take k,λs u=>((aC (bP T.1 c)).getD s.1.toNat []).length-u.1.toNat,?_⟩
 simp only[zB,okU,Blk.ok,bc,B']at ok;dsimp only[z7,z8,ak,Ax.vp,Ax.vc];simp only[vcU,rfU,B'];rw[hT];rw[show(⟨T.1.rs,T.1.ls⟩:Tpl)=T.1 from rfl,hC];generalize T.1=g at *
 have he1:(aD g c).2.2.2≠1:=by
  have ha:(bJ g c).2≠1:=by
   unfold bJ;rw[E' (not_not_intro hc)]
   repeat' split
   all_goals simp
  unfold aD
  by_cases h0:(bJ g c).2=0
  ·rw[E' (not_not_intro h0)]
   repeat' split
   all_goals simp
  ·rw[F' h0];exact ha
 refine⟨?_,λe=>⟨λ_=>trivial,λe2=>?_⟩,λe=>?_⟩
 ·omega
 ·exact absurd (by simpa using e2) he1
 have e:(aD g c).2.2.2=0:=by simpa using e
 obtain⟨hR,hRl⟩:=wP hc e;generalize bP g c=l at *
 have hol:=vn (l:=l);have hfl:=hR.flat
 have hln:=hR.ln;have hsub:∀{I:Nat},((aC l).take I).flatten.length≤24:=λ{I}=>by
  have h1:(((aC l).take I).flatten++((aC l).drop I).flatten).length≤24:=by rw[←ci',bm'];omega
  rw[List.length_append]at h1;omega
 refine⟨⟨by omega,hR.nd⟩,⟨0,rfl,aq' _,by simp⟩,?_⟩;rintro⟨i0,ch⟩ ⟨I,hi,hI,hch⟩;simp only at hi hch ⊢;subst hi hch;simp only[Int.toNat_natCast]
 refine⟨λhlt=>⟨λr _=>⟨0,rfl,aq' _,by simp⟩,?_⟩,λhlt=>?_⟩
 ·rintro⟨k0,ch⟩ hJ;simp only at hJ ⊢;have hI':I<(aC l).length:=by omega
  refine⟨by omega,hlt,λr hr=>?_⟩;obtain⟨k,hk,hkl,hch⟩:=hJ r hr;subst hk hch;have hrl:r.length≤24:=by
   have:=hsub (I:=I+1);rw[jQ hr,List.length_append]at this;omega
  have hgd:(aC l).getD I []=r:=by rw[I',hr];rfl
  have hpu:∀L:List Int,dG [L.map AV.int]=true:=λL=>by simp[dG,am (v:=AV.int) (λ_=>rfl)]
  simp only[Int.toNat_natCast,hgd]
  refine⟨λhk=>⟨by omega,hlt,λr' hr'=>?_⟩,λhk=>?_⟩
  ·obtain rfl:r'=r:=by rw[hr]at hr';exact(af' hr').symm
   refine⟨by omega,hk,λa ha=>⟨hpu _,λc=>absurd c (hR.new hr ha),λ_=>⟨by omega,hlt,λr2 hr2=>?_⟩⟩⟩;obtain rfl:r2=r':=by rw[hr]at hr2;exact(af' hr2).symm
   refine⟨by omega,hk,λb hb=>?_⟩;obtain rfl:b=a:=by rw[ha]at hb;exact(af' hb).symm
   have hs:=hsub (I:=I);have htk:((aC l).take I).flatten++r2.take k++[b]=((aC l).take I).flatten++r2.take (k+1):=by rw[aS',bp ha]
   have hal:=hR.allowed (k:=k+1) hr;rw[htk,hal];have hw:W ((k:Int)+1)=((k+1:Nat):Int):=by rw[dc (by omega)];rfl
   refine⟨by rw[List.length_append,ar'];omega,by omega,hpu _,λq=>by simp at q,λ_=>⟨λr3 hr3=>?_,by rw[hw,Int.toNat_natCast];omega⟩⟩;obtain rfl:r3=r2:=by rw[hr]at hr3;exact(af' hr3).symm
   exact⟨k+1,hw,by omega,rfl⟩
  ·have hw:W ((I:Int)+1)=((I+1:Nat):Int):=by rw[dc (by omega)];rfl
   exact⟨⟨I+1,hw,hI',by rw[jQ hr,ah' (show r.length≤k by omega)]⟩,by rw[hw,Int.toNat_natCast];omega⟩
 ·rw[ah' (by omega),hfl.2,hRl];simp
def Fd(t:List Int):PC Try.prog:=pcO 3 [(.s 1)] [.sl 1 (t.map AV.int) false] .k zA true (λok=>let ⟨I0,m0,I1,m1,h⟩:=Fc t ok;⟨_,h,by kernel_rfl⟩) rfl (by kernel_rfl)
end Go.Proofs.Ytdoacjojljgdcaa
