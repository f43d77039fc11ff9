/- Texts joined: G22 G30 FWN MB FC U20 MG U21 U19 U23 G31 G32 U16. -/
import Derived.Test.YtiobpjoadkfhdaaGreatDoorQF7
set_option linter.unusedVariables false
set_option linter.unusedSimpArgs false
set_option linter.unusedSectionVars false
namespace Go.Proofs.YtiobpjoadkfhdaaGreatDoor
open Go Go.Am
def Hw(s:Spk)(router:Int)(t0:Int×Int×List Sig):NF:=⟨[rI 1 router,rR 2 0,rI 7 (fq s.peers router),rV 8 1,rI 9 t0.1,(32,.k,.sl 4 (s.items.map Itm.v) false),rI 33 ((s.items.map Itm.v).length:Int),rI 34 t0.2.1],[.box (Spk.v s),vB 10 Sig.v t0.2.2 (λ_=>rfl)]⟩
@[reducible] def Cf:Nat→Type
 | 0=>Int×Int×List Sig
 | _=>Unit
def Cg(r:List Sig×Int):AV:=.tup [.sl 10 (r.1.map Sig.v) false,.int r.2]
def Ce(s:Spk)(router:Int)(I0:(Int×Int×List Sig)→Prop)(m0:(Int×Int×List Sig)→Nat):Ax Tryz.prog Cf (List Sig×Int):=
 (.callP (jR s)
(.br 128 ((cI s) != 0) (.ret ([],cI s))
(.callP (C6 s router)
(.br 224 (decide ((fq s.peers router)<0)) (.ret ([],4))
(.own 352 (.cmdL (.wkB 352 (.a [.k,.k,.k,.k,.k,.k,.k,.k,.k,(.s 1)])) (.loop 0 (Hw s router) I0 m0 (0,0,[(⟨1,s.router,router,s.epoch,s.last,0,0,0,0,[]⟩:Sig)]) [0,352] λ(t0:Int×Int×List Sig) b0 =>
(.br 18 (decide (t0.2.1<((s.items.map Itm.v).length:Int))) (.elI 18 Itm.v s.items t0.2.1 λx1 =>
(.elI 162 Per.v s.peers (fq s.peers router) λx2 =>
(.br 226 (decide (x2.acked<x1.ver)) (.own 450 (.apX 466 Sig.v t0.2.2 [(⟨2,s.router,router,s.epoch,x1.ver,t0.1,0,x1.grp,x1.mode,x1.srcs⟩:Sig)] (t0.2.2.length+1)
(.bk 0 b0 (x1.ver,W (t0.2.1+1),t0.2.2++[(⟨2,s.router,router,s.epoch,x1.ver,t0.1,0,x1.grp,x1.mode,x1.srcs⟩:Sig)]) [0,466])))
(.bk 0 b0 (x1.ver,W (t0.2.1+1),t0.2.2) [0,1]))))
(.fz 1 Sig.v t0.2.2 (λ_=>rfl) (.ret (t0.2.2,0)))))))))))
theorem Nd(s:Spk)(r:Int):∃I0 m0,(Ce s r I0 m0).vp Cg (send s r):=by
 let ak:=(s.peers.getD (iJ s.peers r) ⟨0,0,0⟩).acked
 refine⟨λt=>∃k:Nat,t.2.1=k∧k≤s.items.length∧t.2.2.length≤k+1∧cw s r::aM s r ak 0 s.items=t.2.2++aM s r ak t.1 (s.items.drop k),λt=>s.items.length-t.2.1.toNat,?_⟩;dsimp only[Ce,Cf,Ax.vp,Ax.vc];simp only[vcU,rfU,f'];have hv:cI s=if aW s then 0 else 1:=rfl
 rw[hv];by_cases hs:aW s
 case neg=>simp[send,hs]
 rw[if_pos hs,xc hs.2.2.2.2.2.2]
 refine⟨λe=>by simp at e,λ_=>⟨λe=>?_,λe=>?_⟩⟩
 ·rw[send,u' (not_not_intro hs),if_pos];intro q;rw[if_pos q]at e;omega
 have e:uk s.peers r:=by
  refine af' λq=>e ?_;rw[u' q];omega
 rw[if_pos e,Int.toNat_natCast];have fin:send s r=(cw s r::aM s r ak 0 s.items,0):=by rw[send,u' (not_not_intro hs),u' (not_not_intro e)]
 have hil:=gk hs.2.2.2.1;refine⟨⟨0,rfl,by omega,by simp,rfl⟩,?_⟩;rintro⟨prev,_,acc⟩ ⟨k,rfl,hk,hal,h⟩;simp only[Int.toNat_natCast]at *
 refine⟨λh1=>⟨by omega,by omega,λx hx=>⟨by omega,by have:=e.1;omega,λy hy=>?_⟩⟩,λh1=>?_⟩
 ·have hy:ak=y.acked:=by show(s.peers.getD (iJ s.peers r) ⟨0,0,0⟩).acked=_;rw[getD_some hy]
  have hd:s.items.drop k=x::s.items.drop (k+1):=by
   have hkl:=aw hx;rw[ar' hkl];rw[E' hkl]at hx;rw[ao' hx]
  rw[hd,aM]at h;rw[ao (n:=s.items.length) (by omega) (by omega)]
  refine⟨λe3=>⟨by omega,⟨k+1,rfl,by omega,by simp;omega,?_⟩,by omega⟩,λe3=>⟨⟨k+1,rfl,by omega,by omega,?_⟩,by omega⟩⟩
  ·rw[h,if_pos (by omega)];simp[lI]
  ·rw[h,u' (by omega)];simp
 ·rw[bn' (by omega),aM,az']at h;rw[fin,h]
def Ng(s:Spk)(router:Int):PC Tryz.prog:=pcO 63 [(.a [.k,.k,.k,(.s 4),(.s 3)]),.k] [Spk.v s,.int router] (.a [(.s 10),.k]) Cg (send s router) (λ_=>let ⟨I0,m0,h⟩:=Nd s router;⟨_,h,by kernel_rfl⟩) rfl (by kernel_rfl)
def PR(s:Spk)(x:Sig)(t0:Bool):NF:=⟨[rR 2 0,rR 3 1,rR 4 2,rB 33 t0],[.box (Spk.v s),.box (Sig.v x),.box (.agg [.int 0,.int 0,.int 0,.sl 0 [] true,.sl 0 [] true])]⟩
def PQ(s:Spk)(x:Sig)(t1:Int):NF:=⟨[rR 2 0,rR 3 1,rR 4 2,rI 8 (fq s.peers x.src),rI 9 t1],[.box (Spk.v s),.box (Sig.v x),.box (.agg [.int 0,.int 0,.int 0,.sl 0 [] true,.sl 0 [] true])]⟩
def PP(s:Spk)(x:Sig)(t2:Bool):NF:=⟨[rR 2 0,rR 3 1,rR 4 2,rI 8 (fq s.peers x.src),rI 9 0,rB 53 t2],[.box (Spk.v s),.box (Sig.v x),.box (.agg [.int 0,.int 0,.int 0,.sl 0 [] true,.sl 0 [] true])]⟩
@[reducible] def LQ:Nat→Type
 | 0=>Bool
 | 1=>Int
 | 2=>Bool
 | _=>Unit
def LR(r:Spk×Int):AV:=.tup [Spk.v r.1,.int r.2]
def LO(s:Spk)(x:Sig)(I0:Bool→Prop)(I1:Bool→Int→Prop)(I2:Bool→Bool→Prop):Ax Tryz.prog LQ (Spk×Int):=
 (.callP (jR s)
(.br 144 ((cI s) != 0) (.ret ((⟨0,0,0,[],[]⟩:Spk),cI s))
(.callP (tC x)
(.br 224 ((aG x) != 0) (.ret ((⟨0,0,0,[],[]⟩:Spk),aG x))
(.pass (.join 0 (PR s x) (λ(t0:Bool)=>I0 t0) (λb0=>(.br 288 (x.kind != 3) (.bk 0 b0 ((true):Bool) [0,16,32])
(.bk 0 b0 ((x.dst != s.router):Bool) [0,16,32]))) λ(t0:Bool) =>
(.br 3 t0 (.ret ((⟨0,0,0,[],[]⟩:Spk),1))
(.callP (C6 s x.src)
(.br 115 (decide ((fq s.peers x.src)<0)) (.ret ((⟨0,0,0,[],[]⟩:Spk),4))
(.pass (.join 1 (PQ s x) (λ(t1:Int)=>I1 t0 t1) (λb1=>(.join 2 (PP s x) (λ(t2:Bool)=>I2 t0 t2) (λb2=>(.br 227 (x.epoch==s.epoch) (.bk 2 b2 ((decide (x.ver≤s.last)):Bool) [0,1,2])
(.bk 2 b2 ((false):Bool) [0,1,2]))) λ(t2:Bool) =>
(.br 3 t2 (.bk 1 b1 ((x.ver):Int) [0,1,2])
(.bk 1 b1 ((0):Int) [0,1,2])))) λ(t1:Int) =>
(.apX 99 Per.v [] s.peers (0+s.peers.length)
(.elJ 307 Per.v s.peers (fq s.peers x.src) λx1 =>
(.br 355 (decide (x1.epoch<x.pep)) (.stX 467 Per.v s.peers ((fq s.peers x.src).toNat) (λy2=>(⟨y2.router,x.pep,y2.acked⟩:Per)) λy2 =>
(.stX 515 Per.v (s.peers.set ((fq s.peers x.src).toNat) (⟨y2.router,x.pep,y2.acked⟩:Per)) ((fq s.peers x.src).toNat) (λy3=>(⟨y3.router,y3.epoch,t1⟩:Per)) λy3 =>
(.fz 99 Per.v ((s.peers.set ((fq s.peers x.src).toNat) (⟨y2.router,x.pep,y2.acked⟩:Per)).set ((fq s.peers x.src).toNat) (⟨y3.router,y3.epoch,t1⟩:Per)) (λ_=>rfl) (.ret ((⟨s.router,s.epoch,s.last,s.items,(s.peers.set ((fq s.peers x.src).toNat) (⟨y2.router,x.pep,y2.acked⟩:Per)).set ((fq s.peers x.src).toNat) (⟨y3.router,y3.epoch,t1⟩:Per)⟩:Spk),0)))))
(.elX 435 Per.v s.peers ((fq s.peers x.src).toNat) λx4 =>
(.br 483 (x.pep==x4.epoch) (.elX 547 Per.v s.peers ((fq s.peers x.src).toNat) λx5 =>
(.stX 627 Per.v s.peers ((fq s.peers x.src).toNat) (λy6=>(⟨y6.router,y6.epoch,il x5.acked t1⟩:Per)) λy6 =>
(.fz 99 Per.v (s.peers.set ((fq s.peers x.src).toNat) (⟨y6.router,y6.epoch,il x5.acked t1⟩:Per)) (λ_=>rfl) (.ret ((⟨s.router,s.epoch,s.last,s.items,s.peers.set ((fq s.peers x.src).toNat) (⟨y6.router,y6.epoch,il x5.acked t1⟩:Per)⟩:Spk),0)))))
(.fz 99 Per.v s.peers (λ_=>rfl) (.ret (s,0)))))))))))))))))))
theorem TA(s:Spk)(x:Sig):∃I0 I1 I2,(LO s x I0 I1 I2).vp LR (ack s x):=by
 refine⟨λb=>b=decide (x.kind≠3∨x.dst≠s.router),λb v=>v=lA s x,λb c=>c=decide (x.epoch=s.epoch∧x.ver≤s.last),?_⟩;dsimp only[LO,LQ,Ax.vp,Ax.vc];simp only[vcU,rfU,f'];have hv:cI s=if aW s then 0 else 1:=rfl
 rw[hv];unfold ack;by_cases hs:aW s
 case neg=>rw[u' hs,if_pos hs];simp[eG]
 rw[if_pos hs,u' (not_not_intro hs),xc hs.2.2.2.2.2.2]
 refine⟨λe=>by simp at e,λ_=>⟨λe=>?_,λe=>⟨⟨λk=>?_,λk=>?_⟩,λb hb=>⟨λc=>?_,λc=>?_⟩⟩⟩⟩
 ·rw[if_pos (by simpa using e)];rfl
 ·exact(decide_eq_true (.inl (by simpa using k))).symm
 ·have k:x.kind=3:=by simpa using k
  by_cases q:x.dst=s.router<;>simp[q,k]
 ·subst hb;have e0:¬aG x≠0:=by simpa using e
  rw[u' e0,if_pos (by simpa using c)];rfl
 ·subst hb;have c:¬(x.kind≠3∨x.dst≠s.router):=by simpa using c
  have e0:¬aG x≠0:=by simpa using e
  rw[u' e0,u' c];by_cases hit:uk s.peers x.src
  case neg =>
   rw[u' hit,if_pos hit];exact⟨λ_=>rfl,λq=>by omega⟩
  rw[if_pos hit,u' (not_not_intro hit),Int.toNat_natCast];have hp:=hit.1;have hpl:=hs.2.2.2.2.1
  refine⟨λq=>by omega,λ_=>⟨⟨⟨λk=>?_,λk=>?_⟩,λb2 hb2=>⟨λq=>?_,λq=>?_⟩⟩,?_⟩⟩
  ·have k:x.epoch=s.epoch:=by simpa using k
   simp[k]
  ·have k:¬x.epoch=s.epoch:=by simpa using k
   simp[k]
  ·subst hb2;unfold lA;rw[if_pos (by simpa using q)]
  ·subst hb2;unfold lA;rw[u' (by simpa using q)]
  ·rintro _ rfl;have hat:∀y,s.peers[iJ s.peers x.src]?=some y→s.peers.getD (iJ s.peers x.src) ⟨0,0,0⟩=y:=λy hy=>by rw[J',hy];rfl
   refine⟨by omega,by rw[decide_eq_true (by omega),decide_eq_true (by omega)];rfl,hp,λy hy=>⟨λq=>⟨hp,λy2 hy2=>⟨by simpa using hp,λy3 hy3=>?_⟩⟩,λq=>⟨hp,λy4 hy4=>⟨λq2=>⟨hp,λy5 hy5=>⟨hp,λy6 hy6=>?_⟩⟩,λq2=>?_⟩⟩⟩⟩
   ·rw[hy]at hy2;cases hy2;rw[List.getElem?_set_self hp]at hy3;cases hy3;rw[hat _ hy,List.set_set];unfold dQ;rw[if_pos q]
   ·rw[hy]at hy4 hy5 hy6;cases hy4;cases hy5;cases hy6;rw[hat _ hy];unfold dQ;rw[u' q,if_pos (by simpa using q2)]
   ·rw[hy]at hy4;cases hy4;rw[hat _ hy];unfold dQ;rw[u' q,u' (by simpa using q2)];have:s.peers.set (iJ s.peers x.src) y=s.peers:=by
     refine bd' (by simp) λj h1 h2=>?_;rw[bc']
     split
     ·rename_i e';subst e';exact((I'.mp hy).2).symm
     ·rfl
    rw[this]
def TB(s:Spk)(x:Sig):PC Tryz.prog:=pcO 61 [(.a [.k,.k,.k,(.s 4),(.s 3)]),(.a [.k,.k,.k,.k,.k,.k,.k,.k,.k,(.s 1)])] [Spk.v s,Sig.v x] (.a [(.a [.k,.k,.k,(.s 4),(.s 3)]),.k]) LR (ack s x) (λ_=>let ⟨I0,I1,I2,h⟩:=TA s x;⟨_,h,by kernel_rfl⟩) rfl (by kernel_rfl)
def bld(l:List Hrd)(r:Int)(h:Hrd)(k:Nat):List Hrd:=l.take (min k (bK l r))++((if bK l r<k then [h]else [])++((l.take k).drop (bK l r)).filter λy=>decide (y.router≠r))
theorem yk{l:List Hrd}{r:Int}{h x:Hrd}{k:Nat}(ho:l.Pairwise λx y=>x.router<y.router)(hx:l[k]?=some x) :
  (bK l r=k↔¬bK l r<k∧r≤x.router)∧bld l r h (k+1)=bld l r h k++((if bK l r=k then [h]else [])++if x.router≠r then [x]else []):=by
 obtain⟨hk,hxk⟩:=I'.mp hx;have hlt:k<bK l r→x.router<r:=λq=>by have:=lW (key:=Hrd.router) (l:=l) (r:=r) q hk;rw[hxk]at this;exact this
 have hge:bK l r≤k→r≤x.router:=λq=>by have:=tR (key:=Hrd.router) (r:=r) ho hk q;rw[hxk]at this;exact this
 refine⟨⟨λe=>⟨by omega,hge (by omega)⟩,λ⟨e1,e2⟩=>?_⟩,?_⟩
 ·rcases cn' k (bK l r)with q|q
  ·have:=hlt q;omega
  ·omega
 unfold bld;rw[al hx]
 rcases cm' k (bK l r)with q|q|q
 ·have h1:=hlt q;rw[u' (by omega),u' (by omega),u' (by omega),if_pos (by omega),aO' (by omega),aO' (by omega)];rw[bn' (by simp;omega),bn' (by simp;omega),al hx];simp
 ·rw[if_pos (by omega),u' (by omega),if_pos q.symm,cq' (by omega),aO' (by omega),←q];rw[List.drop_append_of_le_length (by simp;omega),bn' (by simp;omega)];by_cases e:x.router=r<;>simp[e]
 ·rw[if_pos (by omega),if_pos (by omega),u' (by omega),cq' (by omega),cq' (by omega)];rw[List.drop_append_of_le_length (by simp;omega),aP'];by_cases e:x.router=r<;>simp[e]
theorem P4{l:List Hrd}{r:Int}{h:Hrd}{k:Nat}:(bld l r h k).length≤l.length+l.length+1:=by
 unfold bld;have:=bh' (λy:Hrd=>decide (y.router≠r)) ((l.take k).drop (bK l r));simp only[Y',aa',bv']at *
 split<;>simp only[Z',aC']<;>omega
theorem P5{l:List Hrd}{r:Int}{h:Hrd}(ho:l.Pairwise λx y=>x.router<y.router)(hr:h.router=r):bld l r h l.length++(if bK l r<l.length then []else [h])=(base l r).set (bK l r) h:=by
 have hp:bK l r≤l.length:=bF';unfold bld;rw[aj',cq' hp]
 by_cases hh:∃z∈l,z.router=r
 ·have hit:=(dE ho).mpr hh;have hlt:=hit.1;rw[if_pos hlt,if_pos hlt,base,if_pos hit,az',cb',if_pos hlt]
  congr 1
  rw[ar' hlt,bI'];have h2:(l[bK l r]'hlt).router=r:=by
   have:=hit.2;rw[J',E' hlt]at this;exact this
  rw[u' (by simp[h2]),bD'.mpr]
  ·rfl
  ·intro y hy;obtain⟨i,hi,rfl⟩:=ad' hy;rw[List.getElem_drop];simp only[bv']at hi;have:=ac'.mp ho (bK l r) (bK l r+1+i) hlt (by omega) (by omega);rw[h2]at this;simp only[ne_eq,decide_not,be',decide_eq_false_iff_not];omega
 ·have hn:¬gD l r:=λq=>hh ((dE ho).mp q);have hf:(l.drop (bK l r)).filter (λy=>decide (y.router≠r))=l.drop (bK l r):=bD'.mpr λy hy=>by
   have:=ak' hy;simpa using λe=>hh ⟨y,this,e⟩
  have hb:base l r=l.take (bK l r)++⟨r,0,0,[]⟩::l.drop (bK l r):=by rw[base,u' hn,kV]
  have e:=(wQ (key:=Hrd.router) (z0:=⟨r,0,0,[]⟩) ho hh hr).1;rw[hf,hb];refine Eq.trans ?_ e.symm;show _=l.take (bK l r)++h::l.drop (bK l r)
  by_cases hlt:bK l r<l.length
  ·rw[if_pos hlt,if_pos hlt];simp
  ·rw[u' hlt,u' hlt,bn' (by omega)];simp
theorem JZ{l:List Hrd}{r:Int}{x:Hrd}{k:Nat}(ho:l.Pairwise λx y=>x.router<y.router)(hx:l[k]?=some x):gOf (l.take (k+1)) r=if x.router=r then x else gOf (l.take k) r:=by
 have o1:∀j,(l.take j).Pairwise λx y=>x.router<y.router:=λj=>ho.sublist (cl' _ _);have hm:x∈l.take (k+1):=by rw[al hx];simp
 split
 ·rename_i e;subst e;exact fi (o1 _) hm
 ·rename_i e
  by_cases hh:∃z∈l.take k,z.router=r
  ·obtain⟨z,hz,rfl⟩:=hh;rw[fi (o1 _) hz,fi (o1 _) (by rw[al hx];simp[hz])]
  ·rw[gp (o1 _) hh,gp (o1 _)];rintro⟨z,hz,e2⟩;rw[al hx]at hz
   rcases L'.mp hz with hz|hz
   ·exact hh ⟨z,hz,e2⟩
   ·rw[O']at hz;subst hz;exact e e2
def JJ(l:Lsn)(x:Sig)(t0:Bool):NF:=⟨[rR 2 0,rR 3 1,rR 4 2,rR 5 3,rB 39 t0],[.box (Lsn.v l),.box (Sig.v x),.box (.agg [.int 0,.int 0,.sl 0 [] true]),.box (.agg [.int 0,.int 0,.int 0,.int 0,.int 0,.int 0,.int 0,.int 0,.int 0,.sl 0 [] true])]⟩
def JI(l:Lsn)(x:Sig)(t1:Int×Hrd):NF:=⟨[rR 2 0,rR 3 1,rR 4 2,rR 5 3,rR 9 4,rR 10 5,(51,.k,.sl 4 (l.heard.map Hrd.v) false),rI 52 ((l.heard.map Hrd.v).length:Int),rI 53 t1.1],[.box (Lsn.v l),.box (Sig.v x),.box (.agg [.int 0,.int 0,.sl 0 [] true]),.box (.agg [.int 0,.int 0,.int 0,.int 0,.int 0,.int 0,.int 0,.int 0,.int 0,.sl 0 [] true]),.box (.agg [.int l.router,.int l.epoch,.sl 0 [] true]),.box (Hrd.v t1.2)]⟩
def JH(l:Lsn)(x:Sig)(t1:Int×Hrd)(t2:Bool):NF:=⟨[rR 2 0,rR 3 1,rR 4 2,rR 5 3,rR 9 4,rR 10 5,rB 72 t2],[.box (Lsn.v l),.box (Sig.v x),.box (.agg [.int 0,.int 0,.sl 0 [] true]),.box (.agg [.int 0,.int 0,.int 0,.int 0,.int 0,.int 0,.int 0,.int 0,.int 0,.sl 0 [] true]),.box (.agg [.int l.router,.int l.epoch,.sl 0 [] true]),.box (Hrd.v t1.2)]⟩
def JG(l:Lsn)(x:Sig)(t3:Hrd):NF:=⟨[rR 2 0,rR 3 1,rR 4 2,rR 5 3,rR 9 4,rR 10 5],[.box (Lsn.v l),.box (Sig.v x),.box (.agg [.int 0,.int 0,.sl 0 [] true]),.box (.agg [.int 0,.int 0,.int 0,.int 0,.int 0,.int 0,.int 0,.int 0,.int 0,.sl 0 [] true]),.box (.agg [.int l.router,.int l.epoch,.sl 0 [] true]),.box (Hrd.v t3)]⟩
def JF(l:Lsn)(x:Sig)(t4:Hrd):NF:=⟨[rR 2 0,rR 3 1,rR 4 2,rR 5 3,rR 9 4,rR 10 5],[.box (Lsn.v l),.box (Sig.v x),.box (.agg [.int 0,.int 0,.sl 0 [] true]),.box (.agg [.int 0,.int 0,.int 0,.int 0,.int 0,.int 0,.int 0,.int 0,.int 0,.sl 0 [] true]),.box (.agg [.int l.router,.int l.epoch,.sl 0 [] true]),.box (Hrd.v t4)]⟩
def JE(l:Lsn)(x:Sig)(t3:Hrd)(t5:Bool):NF:=⟨[rR 2 0,rR 3 1,rR 4 2,rR 5 3,rR 9 4,rR 10 5,rB 108 t5],[.box (Lsn.v l),.box (Sig.v x),.box (.agg [.int 0,.int 0,.sl 0 [] true]),.box (.agg [.int 0,.int 0,.int 0,.int 0,.int 0,.int 0,.int 0,.int 0,.int 0,.sl 0 [] true]),.box (.agg [.int l.router,.int l.epoch,.sl 0 [] true]),.box (Hrd.v t3)]⟩
def JD(l:Lsn)(x:Sig)(t4:Hrd)(t6:Bool×Int×List Hrd):NF:=⟨[rR 2 0,rR 3 1,rR 4 2,rR 5 3,rR 9 4,rR 10 6,rB 13 t6.1,(124,.k,.sl 4 (l.heard.map Hrd.v) false),rI 125 ((l.heard.map Hrd.v).length:Int),rI 126 t6.2.1],[.box (Lsn.v l),.box (Sig.v x),.box (.agg [.int 0,.int 0,.sl 0 [] true]),.box (.agg [.int 0,.int 0,.int 0,.int 0,.int 0,.int 0,.int 0,.int 0,.int 0,.sl 0 [] true]),.box (.agg [.int l.router,.int l.epoch,.vec 5]),vB 4 Hrd.v t6.2.2 (λ_=>rfl),.box (Hrd.v t4)]⟩
def JC(l:Lsn)(x:Sig)(t4:Hrd)(t6:Bool×Int×List Hrd)(x3:Hrd)(t7:Bool×List Hrd):NF:=⟨[rR 2 0,rR 3 1,rR 4 2,rR 5 3,rR 9 4,rR 10 6,rB 13 t7.1,rR 15 7,(124,.k,.sl 4 (l.heard.map Hrd.v) false),rI 125 ((l.heard.map Hrd.v).length:Int),rI 126 t6.2.1],[.box (Lsn.v l),.box (Sig.v x),.box (.agg [.int 0,.int 0,.sl 0 [] true]),.box (.agg [.int 0,.int 0,.int 0,.int 0,.int 0,.int 0,.int 0,.int 0,.int 0,.sl 0 [] true]),.box (.agg [.int l.router,.int l.epoch,.vec 5]),vB 4 Hrd.v t7.2 (λ_=>rfl),.box (Hrd.v t4),.box (Hrd.v x3)]⟩
def JB(l:Lsn)(x:Sig)(t4:Hrd)(t6:Bool×Int×List Hrd)(x3:Hrd)(t8:Bool):NF:=⟨[rR 2 0,rR 3 1,rR 4 2,rR 5 3,rR 9 4,rR 10 6,rB 13 t6.1,rR 15 7,(124,.k,.sl 4 (l.heard.map Hrd.v) false),rI 125 ((l.heard.map Hrd.v).length:Int),rI 126 t6.2.1,rB 138 t8],[.box (Lsn.v l),.box (Sig.v x),.box (.agg [.int 0,.int 0,.sl 0 [] true]),.box (.agg [.int 0,.int 0,.int 0,.int 0,.int 0,.int 0,.int 0,.int 0,.int 0,.sl 0 [] true]),.box (.agg [.int l.router,.int l.epoch,.vec 5]),vB 4 Hrd.v t6.2.2 (λ_=>rfl),.box (Hrd.v t4),.box (Hrd.v x3)]⟩
def JA(l:Lsn)(x:Sig)(t4:Hrd)(t9:List Hrd):NF:=⟨[rR 2 0,rR 3 1,rR 4 2,rR 5 3,rR 9 4,rR 10 6],[.box (Lsn.v l),.box (Sig.v x),.box (.agg [.int 0,.int 0,.sl 0 [] true]),.box (.agg [.int 0,.int 0,.int 0,.int 0,.int 0,.int 0,.int 0,.int 0,.int 0,.sl 0 [] true]),.box (.agg [.int l.router,.int l.epoch,.vec 5]),vB 4 Hrd.v t9 (λ_=>rfl),.box (Hrd.v t4)]⟩
@[reducible] def Dr:Nat→Type
 | 0=>Bool
 | 1=>Int×Hrd
 | 2=>Bool
 | 3=>Hrd
 | 4=>Hrd
 | 5=>Bool
 | 6=>Bool×Int×List Hrd
 | 7=>Bool×List Hrd
 | 8=>Bool
 | 9=>(List Hrd)
 | _=>Unit
def Ds(r:Lsn×Sig×Int):AV:=.tup [Lsn.v r.1,Sig.v r.2.1,.int r.2.2]
def Dq(l:Lsn)(x:Sig)(I0:Bool→Prop)(I1:Bool→(Int×Hrd)→Prop)(m1:Bool→(Int×Hrd)→Nat)(I2:Bool→Int×Hrd→Bool→Prop)(I3:Bool→Int×Hrd→Bool→Hrd→Prop)(I4:Bool→Int×Hrd→Bool→Hrd→Hrd→Prop)(I5:Bool→Int×Hrd→Bool→Hrd→Bool→Prop)(I6:Bool→Int×Hrd→Bool→Hrd→Hrd→(Bool×Int×List Hrd)→Prop)(m6:Bool→Int×Hrd→Bool→Hrd→Hrd→(Bool×Int×List Hrd)→Nat)(I7:Bool→Int×Hrd→Bool→Hrd→Hrd→Bool×Int×List Hrd→Hrd→(Bool×List Hrd)→Prop)(I8:Bool→Int×Hrd→Bool→Hrd→Hrd→Bool×Int×List Hrd→Hrd→Bool→Prop)(I9:Bool→Int×Hrd→Bool→Hrd→Hrd→Bool×Int×List Hrd→(List Hrd)→Prop):Ax Tryz.prog Dr (Lsn×Sig×Int):=
 (.callP (th l)
(.br 160 ((gB l) != 0) (.ret ((⟨0,0,[]⟩:Lsn),(⟨0,0,0,0,0,0,0,0,0,[]⟩:Sig),gB l))
(.callP (tC x)
(.br 240 ((aG x) != 0) (.ret ((⟨0,0,[]⟩:Lsn),(⟨0,0,0,0,0,0,0,0,0,[]⟩:Sig),aG x))
(.pass (.join 0 (JJ l x) (λ(t0:Bool)=>I0 t0) (λb0=>(.br 304 (x.kind==3) (.bk 0 b0 ((true):Bool) [0,16,32,48])
(.bk 0 b0 ((x.dst != l.router):Bool) [0,16,32,48]))) λ(t0:Bool) =>
(.br 4 t0 (.ret ((⟨0,0,[]⟩:Lsn),(⟨0,0,0,0,0,0,0,0,0,[]⟩:Sig),1))
(.cmdL (.wkB 164 (.a [.k,.k,.k,.s 4])) (.loop 1 (JI l x) (I1 t0) (m1 t0) (0,(⟨x.src,0,0,[]⟩:Hrd)) [0,1,2,3,84,164] λ(t1:Int×Hrd) b1 =>
(.br 22 (decide (t1.1<((l.heard.map Hrd.v).length:Int))) (.elI 22 Hrd.v l.heard t1.1 λx1 =>
(.br 166 (x1.router==x.src) (.bk 1 b1 (W (t1.1+1),x1) [0,1,2,3,4,5])
(.bk 1 b1 (W (t1.1+1),t1.2) [0,1,2,3,4,5])))
(.pass (.join 2 (JH l x t1) (λ(t2:Bool)=>I2 t0 t1 t2) (λb2=>(.br 86 (t1.2.epoch==0) (.bk 2 b2 ((decide (12≤((l.heard.map Hrd.v).length:Int))):Bool) [0,1,2,3,4,5])
(.bk 2 b2 ((false):Bool) [0,1,2,3,4,5]))) λ(t2:Bool) =>
(.br 6 t2 (.ret ((⟨0,0,[]⟩:Lsn),(⟨0,0,0,0,0,0,0,0,0,[]⟩:Sig),3))
(.join 3 (JG l x) (λ(t3:Hrd)=>I3 t0 t1 t2 t3) (λb3=>(.br 86 (decide (t1.2.epoch<x.epoch)) (.cmdL (.wkB 5 (.a [.k,.k,.k,.s 4])) (.bk 3 b3 (((⟨x.src,x.epoch,0,[]⟩:Hrd)):Hrd) [0,1,2,3,4,5]))
(.bk 3 b3 ((t1.2):Hrd) [0,1,2,3,4,5]))) λ(t3:Hrd) =>
(.join 4 (JF l x) (λ(t4:Hrd)=>I4 t0 t1 t2 t3 t4) (λb4=>(.join 5 (JE l x t3) (λ(t5:Bool)=>I5 t0 t1 t2 t3 t5) (λb5=>(.br 70 (x.kind==2) (.br 182 (x.epoch==t3.epoch) (.br 294 (decide (x.prev≤t3.ver)) (.bk 5 b5 ((decide (t3.ver<x.ver)):Bool) [0,1,2,3,4,5])
(.bk 5 b5 ((false):Bool) [0,1,2,3,4,5]))
(.bk 5 b5 ((false):Bool) [0,1,2,3,4,5]))
(.bk 5 b5 ((false):Bool) [0,1,2,3,4,5]))) λ(t5:Bool) =>
(.br 6 t5 (.req 150 (t3.items.length≤999999) λh2 =>
(.callP (HV t3.items (⟨x.ver,x.grp,x.mode,x.srcs⟩:Itm) h2)
(.bk 4 b4 (((⟨t3.router,t3.epoch,x.ver,gC t3.items (⟨x.ver,x.grp,x.mode,x.srcs⟩:Itm)⟩:Hrd)):Hrd) [0,1,2,3,4,5])))
(.bk 4 b4 ((t3):Hrd) [0,1,2,3,4,5])))) λ(t4:Hrd) =>
(.cmdL (.nilB 4 2 4) (.loop 6 (JD l x t4) (I6 t0 t1 t2 t3 t4) (m6 t0 t1 t2 t3 t4) (false,0,[]) [0,1,2,3,4,86,5] λ(t6:Bool×Int×List Hrd) b6 =>
(.br 23 (decide (t6.2.1<((l.heard.map Hrd.v).length:Int))) (.elI 23 Hrd.v l.heard t6.2.1 λx3 =>
(.join 7 (JC l x t4 t6 x3) (λ(t7:Bool×List Hrd)=>I7 t0 t1 t2 t3 t4 t6 x3 t7) (λb7=>(.join 8 (JB l x t4 t6 x3) (λ(t8:Bool)=>I8 t0 t1 t2 t3 t4 t6 x3 t8) (λb8=>(.br 135 (!t6.1) (.bk 8 b8 ((decide (x.src≤x3.router)):Bool) [0,1,2,3,4,5,6,55])
(.bk 8 b8 ((false):Bool) [0,1,2,3,4,5,6,55]))) λ(t8:Bool) =>
(.br 8 t8 (.apX 72 Hrd.v t6.2.2 [t4] (t6.2.2.length+1)
(.bk 7 b7 (true,t6.2.2++[t4]) [0,1,2,3,4,72,6,7]))
(.bk 7 b7 (t6.1,t6.2.2) [0,1,2,3,4,5,6,7])))) λ(t7:Bool×List Hrd) =>
(.br 88 (x3.router != x.src) (.apX 152 Hrd.v t7.2 [x3] (t7.2.length+1)
(.bk 6 b6 (t7.1,W (t6.2.1+1),t7.2++[x3]) [0,1,2,3,4,152,6]))
(.bk 6 b6 (t7.1,W (t6.2.1+1),t7.2) [0,1,2,3,4,5,6]))))
(.join 9 (JA l x t4) (λ(t9:List Hrd)=>I9 t0 t1 t2 t3 t4 t6 t9) (λb9=>(.br 55 (!t6.1) (.apX 119 Hrd.v t6.2.2 [t4] (t6.2.2.length+1)
(.bk 9 b9 ((t6.2.2++[t4]):(List Hrd)) [0,1,2,3,4,119,6]))
(.bk 9 b9 ((t6.2.2):(List Hrd)) [0,1,2,3,4,5,6]))) λ(t9:List Hrd) =>
(.fz 5 Hrd.v t9 (λ_=>rfl) (.ret ((⟨l.router,l.epoch,t9⟩:Lsn),(⟨3,l.router,x.src,t4.epoch,t4.ver,0,l.epoch,0,0,[]⟩:Sig),0))))))))))))))))))))))
theorem ON(l:Lsn)(x:Sig):∃I0 I1 m1 I2 I3 I4 I5 I6 m6 I7 I8 I9,(Dq l x I0 I1 m1 I2 I3 I4 I5 I6 m6 I7 I8 I9).vp Ds ((hear l x).1.1,(hear l x).1.2,(hear l x).2):=by
 refine⟨λb=>b=decide (x.kind=3∨x.dst≠l.router),λb t=>∃k:Nat,t.1=k∧k≤l.heard.length∧t.2=gOf (l.heard.take k) x.src,λb t=>l.heard.length-t.1.toNat,
  λb t c=>c=decide (t.2.epoch=0∧12≤l.heard.length),λb t c h=>h=eD t.2 x,λb t c h h'=>h'=dF h x,λb t c h d=>d=decide (x.kind=2∧x.epoch=h.epoch∧x.prev≤h.ver∧h.ver<x.ver),
  λb t c h h' u=>∃k:Nat,u.2.1=k∧k≤l.heard.length∧u.1=decide (bK l.heard x.src<k)∧u.2.2=bld l.heard x.src h' k,λb t c h h' u=>l.heard.length-u.2.1.toNat,
  λb t c h h' u y w=>w=(decide (bK l.heard x.src<u.2.1.toNat+1),bld l.heard x.src h' u.2.1.toNat++if bK l.heard x.src=u.2.1.toNat then [h']else []),λb t c h h' u y d=>d=decide (bK l.heard x.src=u.2.1.toNat),
  λb t c h h' u w=>w=bld l.heard x.src h' l.heard.length++if bK l.heard x.src<l.heard.length then []else [h'],?_⟩
 dsimp only[Dq,Dr,Ax.vp,Ax.vc];simp only[vcU,rfU,f'];have hv:gB l=if bY l then 0 else 1:=rfl
 rw[hv];unfold hear;by_cases hs:bY l
 case neg=>rw[u' hs,if_pos hs];simp[w6,qY]
 have ho:=hs.2.2.2.2;have hl:=hs.2.2.1;rw[if_pos hs,u' (not_not_intro hs)]
 refine⟨λe=>by simp at e,λ_=>⟨λe=>?_,λe=>⟨⟨λk=>?_,λk=>?_⟩,λb hb=>⟨λc=>?_,λc=>⟨⟨0,rfl,by omega,(gp List.Pairwise.nil (by simp)).symm⟩,?_⟩⟩⟩⟩⟩
 ·rw[if_pos (by simpa using e)];rfl
 ·exact(decide_eq_true (.inl (by simpa using k))).symm
 ·have k:¬x.kind=3:=by simpa using k
  by_cases q:x.dst=l.router<;>simp[q,k]
 ·subst hb;rw[u' (by simpa using e),if_pos (by simpa using c)];rfl
 ·subst hb;have c:¬(x.kind=3∨x.dst≠l.router):=by simpa using c
  rw[u' (by simpa using e),u' c];rintro⟨_,_⟩ ⟨k,rfl,hk,rfl⟩;simp only[Int.toNat_natCast]
  refine⟨λh1=>⟨by omega,by omega,λy hy=>?_⟩,λh1=>?_⟩
  ·rw[ao (n:=l.heard.length) (by omega) (by omega)];have:=JZ (r:=x.src) ho hy
   refine⟨λq=>⟨⟨k+1,rfl,by omega,?_⟩,by omega⟩,λq=>⟨⟨k+1,rfl,by omega,?_⟩,by omega⟩⟩
   ·rw[this,if_pos (by simpa using q)]
   ·rw[this,u' (by simpa using q)]
  rw[G' (by omega)];have hg:=gn (r:=x.src) ho;have hep:(gOf l.heard x.src).epoch=0↔¬gD l.heard x.src:=by
   rw[dE ho]
   by_cases hh:∃z∈l.heard,z.router=x.src
   ·obtain⟨z,hz,hzr⟩:=hh;have:gOf l.heard x.src=z:=by rw[←hzr];exact fi ho hz
    rw[this];have:=(hs.2.2.2.1 z hz).2.2.1;exact⟨λq=>by omega,λq=>absurd ⟨z,hz,hzr⟩ q⟩
   ·rw[gp ho hh];simp[hh]
  have hH:xj l.heard x=dF (eD (gOf l.heard x.src) x) x:=rfl
  refine⟨⟨λq=>?_,λq=>?_⟩,λc2 hc2=>⟨λq=>?_,λq=>⟨⟨λq2=>?_,λq2=>?_⟩,?_⟩⟩⟩
  ·have q:(gOf l.heard x.src).epoch=0:=by simpa using q
   simp[q];omega
  ·have q:¬(gOf l.heard x.src).epoch=0:=by simpa using q
   simp[q]
  ·subst hc2;have q:(gOf l.heard x.src).epoch=0∧12≤l.heard.length:=by simpa using q
   rw[if_pos ⟨hep.mp q.1,by omega⟩];rfl
  ·unfold eD;rw[if_pos q2]
  ·unfold eD;rw[u' q2]
  ·subst hc2;have q:¬((gOf l.heard x.src).epoch=0∧12≤l.heard.length):=by simpa using q
   rw[u' λz=>q ⟨hep.mpr z.1,by omega⟩];rintro _ rfl;have hi:(eD (gOf l.heard x.src) x).items.length≤999999:=by
    unfold eD
    split
    ·simp
    ·have:=gk (Ah hs x.src).1;omega
   generalize hh0:eD (gOf l.heard x.src) x=h0 at *
   refine⟨⟨⟨λa1=>⟨λa2=>⟨λa3=>?_,λa3=>?_⟩,λa2=>?_⟩,λa1=>?_⟩,λd hd=>⟨λa=>⟨hi,?_⟩,λa=>?_⟩⟩,?_⟩
   ·have a1:x.kind=2:=by simpa using a1
    have a2:x.epoch=h0.epoch:=by simpa using a2
    exact decide_eq_decide.mpr ⟨λz=>⟨a1,a2,a3,z⟩,λz=>z.2.2.2⟩
   ·exact jx λz=>a3 z.2.2.1
   ·exact jx λz=>by simp[z.2.1]at a2
   ·exact jx λz=>by simp[z.1]at a1
   ·subst hd;unfold dF;rw[if_pos (by simpa using a)];rfl
   ·subst hd;unfold dF;rw[u' (by simpa using a)]
   ·rintro _ rfl;have hr:(dF h0 x).router=x.src:=by
     have:=eN (g:=gOf l.heard x.src) (x:=x) hg;unfold aX at this;rw[hh0]at this;exact this
    generalize hh1:dF h0 x=h1' at *
    refine⟨⟨0,rfl,by omega,by simp,by simp[bld]⟩,?_⟩;rintro⟨_,_,_⟩ ⟨j,rfl,hj,rfl,rfl⟩;simp only[Int.toNat_natCast];have hbl:=P4 (l:=l.heard) (r:=x.src) (h:=h1') (k:=j)
    refine⟨λb1=>⟨by omega,by omega,λy hy=>⟨⟨⟨λb2=>?_,λb2=>?_⟩,λd hd=>⟨λb3=>⟨by omega,?_⟩,λb3=>?_⟩⟩,?_⟩⟩,λb1=>⟨⟨λb2=>⟨by omega,?_⟩,λb2=>?_⟩,?_⟩⟩
    ·obtain⟨s1,s2⟩:=yk (r:=x.src) (h:=h1') ho hy;have b2:¬bK l.heard x.src<j:=by simpa using b2
     rw[decide_eq_decide,s1];exact⟨λz=>⟨b2,z⟩,λz=>z.2⟩
    ·have b2:bK l.heard x.src<j:=by simpa using b2
     exact jx (by omega)
    ·subst hd;have b3:bK l.heard x.src=j:=by simpa using b3
     rw[if_pos b3,decide_eq_true (show bK l.heard x.src<j+1 by omega)]
    ·subst hd;have b3:¬bK l.heard x.src=j:=by simpa using b3
     rw[u' b3,az']
     congr 1
     exact decide_eq_decide.mpr (by omega)
    ·rintro _ rfl;obtain⟨s1,s2⟩:=yk (r:=x.src) (h:=h1') ho hy;rw[ao (n:=l.heard.length) (by omega) (by omega)]
     refine⟨λz=>⟨?_,⟨j+1,rfl,by omega,rfl,?_⟩,by omega⟩,λz=>⟨⟨j+1,rfl,by omega,rfl,?_⟩,by omega⟩⟩
     ·have:(if bK l.heard x.src=j then [h1']else []).length≤1:=by split<;>simp
      rw[Y'];omega
     ·rw[s2,if_pos (c:=y.router≠x.src) (by simpa using z),bo']
     ·rw[s2,u' (c:=y.router≠x.src) (by simpa using z),az']
    ·have b2:¬bK l.heard x.src<j:=by simpa using b2
     have:j=l.heard.length:=by omega
     subst this;rw[u' b2]
    ·have b2:bK l.heard x.src<j:=by simpa using b2
     have:j=l.heard.length:=by omega
     subst this;rw[if_pos b2,az']
    ·rintro _ rfl;rw[P5 ho hr,hH]
def OO(l:Lsn)(x:Sig):PC Tryz.prog:=pcO 62 [(.a [.k,.k,(.s 4)]),(.a [.k,.k,.k,.k,.k,.k,.k,.k,.k,(.s 1)])] [Lsn.v l,Sig.v x] (.a [(.a [.k,.k,(.s 4)]),(.a [.k,.k,.k,.k,.k,.k,.k,.k,.k,(.s 1)]),.k]) Ds ((hear l x).1.1,(hear l x).1.2,(hear l x).2) (λ_=>let ⟨I0,I1,m1,I2,I3,I4,I5,I6,m6,I7,I8,I9,h⟩:=ON l x;⟨_,h,by kernel_rfl⟩) rfl (by kernel_rfl)
def AD(p:Spk)(r:Int):Int:=cmpI p.router r
def KD(r:Int):AV:=.int r
def AB(s:Spk)(r:Int):Ax Tryz.prog noS (Int):=
 (.callP (nG s.router r)
(.ret (cmpI s.router r)))
theorem SU(p:Spk)(r:Int):(AB p r).vp KD (AD p r):=by
 dsimp only[AB,noS,Ax.vp,Ax.vc];simp only[vcU,rfU,f'];rfl
def KE(s:Spk)(r:Int):PC Tryz.prog:=pcO 273 [(.a [.k,.k,.k,(.s 4),(.s 3)]),.k] [Spk.v s,.int r] .k KD (AD s r) (λ_=>⟨(AB s r),SU s r,by kernel_rfl⟩) rfl (by kernel_rfl)
def kW(l:List Spk)(r:Int):Prop:=bn l r<l.length∧(l.getD (bn l r) eG).router=r
instance (l:List Spk) (r:Int):Decidable (kW l r):=by unfold kW;infer_instance
def QK(x:List Spk)(target:Int):=okL [.sl 5 (x.map Spk.v) false,.int target,.func 273 []]
def Tm(x:List Spk)(target:Int)(t0:Int×Int):NF:=⟨[(0,.k,.sl 5 (x.map Spk.v) false),rI 1 target,(2,.k,.func 273 []),rI 8 ((x.map Spk.v).length:Int),rI 9 t0.1,rI 10 t0.2],[]⟩
@[reducible] def QI:Nat→Type
 | 0=>Int×Int
 | _=>Unit
def QJ(r:Int×Bool):AV:=.tup [.int r.1,.bool r.2]
def QH(x:List Spk)(target:Int)(I0:(Int×Int)→Prop)(m0:(Int×Int)→Nat):Ax Tryz.prog QI (Int×Bool):=
 (.loop 0 (Tm x target) I0 m0 (0,((x.map Spk.v).length:Int)) [] λ(t0:Int×Int) b0 =>
(.br 48 (decide (t0.1<t0.2)) (.elI 208 Spk.v x (W (Int.fdiv (IntKind.u64.wrap (W (t0.1+t0.2))) 2)) λx1 =>
(.callP (KE x1 target)
(.br 288 (decide ((AD x1 target)<0)) (.bk 0 b0 (W ((W (Int.fdiv (IntKind.u64.wrap (W (t0.1+t0.2))) 2))+1),t0.2) [])
(.bk 0 b0 (t0.1,W (Int.fdiv (IntKind.u64.wrap (W (t0.1+t0.2))) 2)) []))))
(.br 128 (decide (t0.1<((x.map Spk.v).length:Int))) (.elI 176 Spk.v x t0.1 λx2 =>
(.callP (KE x2 target)
(.ret (t0.1,(AD x2 target)==0))))
(.ret (t0.1,false)))))
theorem bsS_p(l:List Spk)(r:Int)(h:l.Pairwise λx y=>x.router<y.router)(hl:l.length≤1000000)(ok:QK l r):∃I m,(QH l r I m).vp QJ ((bn l r:Int),decide (kW l r)):=by
 simp only[QK,Spk.v,okU,Blk.ok,aU,f']at ok;refine⟨λt=>∃i j:Nat,t=((i:Int),(j:Int))∧i≤j∧j≤l.length∧(∀k x,k<i→l[k]?=some x→x.router<r)∧(∀k x,j≤k→l[k]?=some x→r≤x.router),λt=>(t.2-t.1).toNat,?_⟩;dsimp only[QH,QI,Ax.vp,Ax.vc];simp only[vcU,rfU,f'];refine⟨⟨0,l.length,rfl,by omega,by omega,λk x hk=>by omega,λk x hk hx=>by have:=aw hx;omega⟩,?_⟩;rintro _ ⟨i,j,rfl,hij,hj,h1,h2⟩
 refine⟨λh3=>?_,λh3=>?_⟩
 ·have h3:i<j:=by simpa using h3
  simp only[half i j hij (by omega),Int.toNat_natCast]
  refine⟨by omega,by omega,λx hx=>⟨λe=>?_,λe=>?_⟩⟩
  ·rw[AD,jA]at e;rw[ao (n:=l.length) (by omega) (by omega)];refine⟨⟨_,_,rfl,by omega,hj,λk y hk hy=>?_,h2⟩,by omega⟩
   by_cases e':k=(i+j) / 2
   ·subst e';rw[hx]at hy;cases hy;exact e
   ·have:=ga h (show k<(i+j) / 2 by omega) hy hx;omega
  ·rw[AD,jA]at e;refine⟨⟨_,_,rfl,by omega,by omega,h1,λk y hk hy=>?_⟩,by omega⟩
   by_cases e':k=(i+j) / 2
   ·subst e';rw[hx]at hy;cases hy;omega
   ·have:=ga h (show(i+j) / 2<k by omega) hx hy;omega
 ·have h3:i=j:=by simp at h3;omega
  subst h3;have hp:bn l r=i:=J2 (key:=Spk.router) hj h1 h2;simp only[Int.toNat_natCast]
  refine⟨λh4=>⟨by omega,by omega,λx hx=>?_⟩,λh4=>?_⟩
  ·have e:kW l r↔x.router=r:=by rw[kW,hp,getD_some hx];exact⟨λh=>h.2,λh=>⟨aw hx,h⟩⟩
   rw[hp];refine congrArg _ ?_;rw[AD,cj',aM',e,bY',nF]
  ·rw[hp,decide_eq_false];rw[kW,hp];intro h;omega
def bsS_c(x:List Spk)(target:Int)(h:x.Pairwise λx y=>x.router<y.router)(hl:x.length≤1000000):PC Tryz.prog:=pcO 272 [(.s 5),.k,.k] [.sl 5 (x.map Spk.v) false,.int target,.func 273 []] .k QJ ((bn x target:Int),decide (kW x target)) (λok=>let ⟨I0,m0,h⟩:=bsS_p x target h hl ok;⟨_,h,by kernel_rfl⟩) rfl (by kernel_rfl)
def D4(r:Int×Bool):AV:=.tup [.int r.1,.bool r.2]
def ux(o:Ovl)(router:Int):Ax Tryz.prog noS (Int×Bool):=
 (.req 96 (o.sp.Pairwise λx y=>x.router<y.router) λh1 =>
(.req 96 (o.sp.length≤1000000) λh2 =>
(.callP (bsS_c o.sp router h1 h2)
(.ret ((bn o.sp router:Int),decide (kW o.sp router))))))
theorem OY(o:Ovl)(r:Int)(h:o.sp.Pairwise λx y=>x.router<y.router)(hl:o.sp.length≤1000000):(ux o r).vp D4 ((bn o.sp r:Int),decide (kW o.sp r)):=by
 dsimp only[ux,noS,Ax.vp,Ax.vc];simp only[vcU,rfU,f'];exact⟨h,hl,trivial⟩
def uy(o:Ovl)(router:Int)(h:o.sp.Pairwise λx y=>x.router<y.router)(hl:o.sp.length≤1000000):PC Tryz.prog:=pcO 147 [(.a [(.s 5),(.s 3),(.s 10)]),.k] [Ovl.v o,.int router] .k D4 ((bn o.sp router:Int),decide (kW o.sp router)) (λ_=>⟨(ux o router),OY o router h hl,by kernel_rfl⟩) rfl (by kernel_rfl)
def H7(o:Ovl)(t0:Int×List Int):NF:=⟨[rV 3 0,(7,.k,.sl 5 (o.sp.map Spk.v) false),rI 8 ((o.sp.map Spk.v).length:Int),rI 9 t0.1],[vB 1 AV.int t0.2 (λ_=>rfl)]⟩
@[reducible] def Cv:Nat→Type
 | 0=>Int×List Int
 | _=>Unit
def Cw(r:List Int):AV:=.sl 1 (r.map AV.int) false
def Cu(o:Ovl)(I0:(Int×List Int)→Prop)(m0:(Int×List Int)→Nat):Ax Tryz.prog Cv ((List Int)):=
 (.cmdL (.nilT 3 1) (.loop 0 (H7 o) I0 m0 (0,[]) [112] λ(t0:Int×List Int) b0 =>
(.br 17 (decide (t0.1<((o.sp.map Spk.v).length:Int))) (.elI 17 Spk.v o.sp t0.1 λx1 =>
(.apX 145 AV.int t0.2 [x1.router] (t0.2.length+1)
(.bk 0 b0 (W (t0.1+1),t0.2++[x1.router]) [145])))
(.fz 0 AV.int t0.2 (λ_=>rfl) (.ret (t0.2))))))
theorem Nz(o:Ovl)(h:o.sp.length≤1000000):∃I m,(Cu o I m).vp Cw (aD o.sp):=by
 refine⟨λt=>∃k:Nat,t.1=k∧k≤o.sp.length∧t.2=aD (o.sp.take k),λt=>o.sp.length-t.1.toNat,?_⟩;dsimp only[Cu,Cv,Ax.vp,Ax.vc];simp only[vcU,rfU,f'];refine⟨⟨0,rfl,by omega,rfl⟩,?_⟩;rintro⟨_,_⟩ ⟨k,rfl,hk,rfl⟩;simp only[Int.toNat_natCast]
 refine⟨λh1=>⟨by omega,by omega,λx hx=>⟨by rw[fm];simp;omega,⟨k+1,?_,by omega,?_⟩,?_⟩⟩,λh1=>?_⟩
 ·rw[ao (n:=o.sp.length) (by omega) (by omega)]
 ·rw[al hx];simp[aD]
 ·rw[ao (n:=o.sp.length) (by omega) (by omega)];omega
 ·rw[G' (by omega)]
def N0(o:Ovl)(h:o.sp.length≤1000000):PC Tryz.prog:=pcO 266 [(.a [(.s 5),(.s 3),(.s 10)])] [Ovl.v o] (.s 1) Cw (aD o.sp) (λ_=>let ⟨I0,m0,h⟩:=Nz o h;⟨_,h,by kernel_rfl⟩) rfl (by kernel_rfl)
def zF(l:List Int)(n:Int)(t0:Int×List Int):NF:=⟨[rI 1 n,rV 5 0,(8,.k,.sl 1 (l.map AV.int) false),rI 9 ((l.map AV.int).length:Int),rI 10 t0.1],[vB 1 AV.int t0.2 (λ_=>rfl)]⟩
@[reducible] def rX:Nat→Type
 | 0=>Int×List Int
 | _=>Unit
def rY(r:List Int):AV:=.sl 1 (r.map AV.int) false
def rW(l:List Int)(n:Int)(I0:(Int×List Int)→Prop)(m0:(Int×List Int)→Nat):Ax Tryz.prog rX ((List Int)):=
 (.cmdL (.nilT 5 1) (.loop 0 (zF l n) I0 m0 (0,[]) [80] λ(t0:Int×List Int) b0 =>
(.br 17 (decide (t0.1<((l.map AV.int).length:Int))) (.elI 17 AV.int l t0.1 λx1 =>
(.br 113 (x1 != n) (.apX 161 AV.int t0.2 [x1] (t0.2.length+1)
(.bk 0 b0 (W (t0.1+1),t0.2++[x1]) [161]))
(.bk 0 b0 (W (t0.1+1),t0.2) [0])))
(.fz 0 AV.int t0.2 (λ_=>rfl) (.ret (t0.2))))))
theorem EB(l:List Int)(n:Int)(h:l.length≤1000000):∃I m,(rW l n I m).vp rY (cT l n):=by
 refine⟨λt=>∃k:Nat,t.1=k∧k≤l.length∧t.2=cT (l.take k) n∧t.2.length≤k,λt=>l.length-t.1.toNat,?_⟩;dsimp only[rW,rX,Ax.vp,Ax.vc];simp only[vcU,rfU,f'];refine⟨⟨0,rfl,by omega,rfl,by simp⟩,?_⟩;rintro⟨_,_⟩ ⟨k,rfl,hk,rfl,hk2⟩;simp only[Int.toNat_natCast]at *
 refine⟨λh1=>⟨by omega,by omega,λx hx=>?_⟩,λh1=>?_⟩
 ·rw[ao (n:=l.length) (by omega) (by omega)]
  refine⟨λq=>⟨by omega,⟨k+1,rfl,by omega,?_,by simp;omega⟩,by omega⟩,λq=>⟨⟨k+1,rfl,by omega,?_,by omega⟩,by omega⟩⟩
  ·have q:x≠n:=by simpa using q
   rw[al hx,cT,cT,aP'];simp[q]
  ·have q:x=n:=by simpa using q
   rw[al hx,cT,cT,aP'];simp[q]
 ·rw[G' (by omega)]
def EC(l:List Int)(n:Int)(h:l.length≤1000000):PC Tryz.prog:=pcO 268 [(.s 1),.k] [.sl 1 (l.map AV.int) false,.int n] (.s 1) rY (cT l n) (λ_=>let ⟨I0,m0,h⟩:=EB l n h;⟨_,h,by kernel_rfl⟩) rfl (by kernel_rfl)
def RI(p:Per)(r:Int):Bool:=decide (p.router=r)
def vR(r:Bool):AV:=.bool r
def pw(p:Per)(r:Int):Ax Tryz.prog noS (Bool):=
 (.ret (p.router==r))
theorem Ib(p:Per)(r:Int):(pw p r).vp vR (RI p r):=by
 dsimp only[pw,noS,Ax.vp,Ax.vc];simp only[vcU,rfU,f'];rfl
def Ic(p:Per)(r:Int):PC Tryz.prog:=pcO 269 [.k,.k] [Per.v p,.int r] .k vR (decide (p.router=r)) (λ_=>⟨(pw p r),Ib p r,by kernel_rfl⟩) rfl (by kernel_rfl)
def Kw(s1:List Per)(s2:List Int):=okL [.sl 3 (s1.map Per.v) false,.sl 1 (s2.map AV.int) false,.func 269 []]
def Pd(s1:List Per)(s2:List Int)(t0:Int):NF:=⟨[(1,.k,.sl 1 (s2.map AV.int) false),(2,.k,.func 269 []),(15,.k,.sl 3 (s1.map Per.v) false),rI 16 ((s1.map Per.v).length:Int),rI 17 t0],[]⟩
@[reducible] def Ku:Nat→Type
 | 0=>Int
 | _=>Unit
def Kv(r:Bool):AV:=.bool r
def Kt(s1:List Per)(s2:List Int)(I0:Int→Prop)(m0:Int→Nat):Ax Tryz.prog Ku (Bool):=
 (.br 96 (((s1.map Per.v).length:Int) != ((s2.map AV.int).length:Int)) (.ret (false))
(.loop 0 (Pd s1 s2) I0 m0 ((0):Int) [] λ(t0:Int) b0 =>
(.br 16 (decide (t0<((s1.map Per.v).length:Int))) (.elI 32 Per.v s1 t0 λx1 =>
(.elI 144 AV.int s2 t0 λx2 =>
(.callP (Ic x1 x2)
(.br 272 (!(decide (x1.router=x2))) (.ret (false))
(.bk 0 b0 ((W (t0+1)):Int) [])))))
(.ret (true)))))
theorem SL(a:List Per)(b:List Int)(ok:Kw a b):∃I m,(Kt a b I m).vp Kv (decide (a.map Per.router=b)):=by
 simp only[Kw,Per.v,okU,Blk.ok,aU,f']at ok;refine⟨λt=>∃k:Nat,t=k∧k≤a.length∧(a.take k).map Per.router=b.take k,λt=>a.length-t.toNat,?_⟩;dsimp only[Kt,Ku,Ax.vp,Ax.vc];simp only[vcU,rfU,f'];refine⟨λe=>(decide_eq_false λh=>by subst h;simp at e).symm,λe=>⟨⟨0,rfl,by omega,rfl⟩,?_⟩⟩;have e:a.length=b.length:=by simp at e;omega
 rintro _ ⟨k,rfl,hk,h⟩;simp only[Int.toNat_natCast]
 refine⟨λh1=>⟨by omega,by omega,λx hx=>⟨by omega,by omega,λy hy=>⟨λe2=>?_,λe2=>?_⟩⟩⟩,λh1=>?_⟩
 ·refine(decide_eq_false λhh=>?_).symm;subst hh;rw[S',hx]at hy;simp only[ah',aK']at hy;subst hy;simp at e2
 ·have e2:x.router=y:=by simpa using e2
  rw[ao (n:=a.length) (by omega) (by omega)];exact⟨⟨k+1,rfl,by omega,by rw[al hx,al hy,List.map_append,h];simp[e2]⟩,by omega⟩
 ·rw[G' (by omega),G' (by omega)]at h;exact(decide_eq_true h).symm
def SM(s1:List Per)(s2:List Int):PC Tryz.prog:=pcO 267 [(.s 3),(.s 1),.k] [.sl 3 (s1.map Per.v) false,.sl 1 (s2.map AV.int) false,.func 269 []] .k Kv (decide (s1.map Per.router=s2)) (λok=>let ⟨I0,m0,h⟩:=SL s1 s2 ok;⟨_,h,by kernel_rfl⟩) rfl (by kernel_rfl)
def iL(l:List Int)(v:Int):Int:=match l.findIdx? λx=>decide (v=x)with
 | some i=>i
 | none=>-1
theorem wU{l:List Int}{r:Int}{i:Nat}(hx:l[i]?=some r)(hb:∀y∈l.take i,r≠y):iL l r=i:=by
 obtain⟨hi,hxi⟩:=I'.mp hx;have:l.findIdx? (λp=>decide (r=p))=some i:=by
  rw[bG'];refine⟨hi,by rw[hxi];simp,λj hj=>?_⟩;have:=hb l[j] (al' (i:=j) (by rw[am',if_pos hj,E' (by omega)]));simpa using this
 unfold iL;rw[this]
theorem wW{l:List Int}{r:Int}(hb:∀y∈l,r≠y):iL l r=-1:=by
 have:l.findIdx? (λp=>decide (r=p))=none:=by
  rw[ca'];intro x hx;simpa using hb x hx
 unfold iL;rw[this]
def wY(s:List Int)(v:Int):=okL [.sl 1 (s.map AV.int) false,.int v]
def EW(s:List Int)(v:Int)(t0:Int):NF:=⟨[(0,.k,.sl 1 (s.map AV.int) false),rI 1 v,rI 7 ((s.map AV.int).length:Int),rI 8 t0],[]⟩
@[reducible] def wV:Nat→Type
 | 0=>Int
 | _=>Unit
def wX(r:Int):AV:=.int r
def wT(s:List Int)(v:Int)(I0:Int→Prop)(m0:Int→Nat):Ax Tryz.prog wV (Int):=
 (.loop 0 (EW s v) I0 m0 ((0):Int) [] λ(t0:Int) b0 =>
(.br 16 (decide (t0<((s.map AV.int).length:Int))) (.elI 96 AV.int s t0 λx1 =>
(.br 144 (v==x1) (.ret (t0))
(.bk 0 b0 ((W (t0+1)):Int) [])))
(.ret (-1))))
theorem Jy(l:List Int)(v:Int)(ok:wY l v):∃I m,(wT l v I m).vp wX (iL l v):=by
 simp only[wY,okU,Blk.ok,aU,f']at ok;refine⟨λt=>∃k:Nat,t=k∧k≤l.length∧∀x∈l.take k,v≠x,λt=>l.length-t.toNat,?_⟩;dsimp only[wT,wV,Ax.vp,Ax.vc];simp only[vcU,rfU,f'];have hle:l.length≤9223372036854775807:=ok.1.1;refine⟨⟨0,rfl,by omega,by simp⟩,?_⟩;rintro _ ⟨k,rfl,hk,hI⟩;simp only[Int.toNat_natCast]
 refine⟨λh1=>⟨by omega,by omega,λx hx=>⟨λe=>?_,λe=>?_⟩⟩,λh1=>?_⟩
 ·have e:v=x:=by simpa using e
  subst e;rw[wU hx hI]
 ·rw[ao (n:=l.length) (by omega) (by omega)];exact⟨⟨k+1,rfl,by omega,(bH hx).mpr ⟨hI,by simpa using e⟩⟩,by omega⟩
 ·rw[G' (by omega)]at hI;rw[wW hI]
def Jz(s:List Int)(v:Int):PC Tryz.prog:=pcO 294 [(.s 1),.k] [.sl 1 (s.map AV.int) false,.int v] .k wX (iL s v) (λok=>let ⟨I0,m0,h⟩:=Jy s v ok;⟨_,h,by kernel_rfl⟩) rfl (by kernel_rfl)
theorem EV{l:List Int}{v:Int}:0≤iL l v↔v∈l:=by
 unfold iL;cases e:l.findIdx? (λp=>decide (v=p))with
 | none =>
  rw[ca']at e;simp only;refine⟨λh=>by omega,λh=>by have:=e v h;simp at this⟩
 | some i =>
  rw[bG']at e;obtain⟨h1,h2,_⟩:=e;simp only;refine⟨λ_=>?_,λ_=>by omega⟩;have:v=l[i]:=by simpa using h2
  rw[this];exact ay' h1
def DG(r:Bool):AV:=.bool r
def uC(s:List Int)(v:Int):Ax Tryz.prog noS (Bool):=
 (.callP (Jz s v)
(.ret (decide (0≤(iL s v)))))
theorem Pj(l:List Int)(v:Int):(uC l v).vp DG (decide (v∈l)):=by
 dsimp only[uC,noS,Ax.vp,Ax.vc];simp only[vcU,rfU,f'];exact decide_eq_decide.mpr EV
def oK(s:List Int)(v:Int):PC Tryz.prog:=pcO 199 [(.s 1),.k] [.sl 1 (s.map AV.int) false,.int v] .k DG (decide (v∈s)) (λ_=>⟨(uC s v),Pj s v,by kernel_rfl⟩) rfl (by kernel_rfl)
def jf(f:Flt)(s:Int):Bool:=decide (s∈f.srcs)==decide (f.mode=1)
def Ka(r:Bool):AV:=.bool r
def Ai(f:Flt)(source:Int):Ax Tryz.prog noS (Bool):=
 (.callP (oK f.srcs source)
(.ret ((decide (source∈f.srcs))==(f.mode==1))))
theorem S9(f:Flt)(s:Int):(Ai f s).vp Ka (jf f s):=by
 dsimp only[Ai,noS,Ax.vp,Ax.vc];simp only[vcU,rfU,f'];rfl
def Kb(f:Flt)(source:Int):PC Tryz.prog:=pcO 322 [(.a [.k,(.s 1)]),.k] [Flt.v f,.int source] .k Ka (jf f source) (λ_=>⟨(Ai f source),S9 f source,by kernel_rfl⟩) rfl (by kernel_rfl)
structure MKy where
  grp:Int
  host:Int
def MKy.v(x:MKy):AV:=.agg [.int x.grp,.int x.host]
def Qu(vals:List Int):=okL [.sl 1 (vals.map AV.int) false]
def RL(vals:List Int)(t0:Int):NF:=⟨[rI 3 0,(6,.k,.sl 1 (vals.map AV.int) false),rI 7 ((vals.map AV.int).length:Int),rI 8 t0],[]⟩
@[reducible] def Qq:Nat→Type
 | 0=>Int
 | _=>Unit
def Qs(r:Int):AV:=.int r
def Qp(vals:List Int)(I0:Int→Prop)(m0:Int→Nat):Ax Tryz.prog Qq (Int):=
 (.loop 0 (RL vals) I0 m0 ((0):Int) [] λ(t0:Int) b0 =>
(.br 16 (decide (t0<((vals.map AV.int).length:Int))) (.elI 16 AV.int vals t0 λx1 =>
(.br 112 (x1 != 0) (.ret (x1))
(.bk 0 b0 ((W (t0+1)):Int) [])))
(.ret (0))))
theorem orN_p(vals:List Int)(ok:Qu vals):∃I m,(Qp vals I m).vp Qs (orI vals):=by
 simp only[Qu,okU,Blk.ok,aU,f']at ok;refine⟨λt=>∃k:Nat,t=k∧k≤vals.length∧(vals.take k).all (·==0),λt=>vals.length-t.toNat,?_⟩
 dsimp only[Qp,Qq,Ax.vp,Ax.vc];simp only[vcU,rfU,f'];refine⟨⟨0,rfl,by omega,by simp⟩,?_⟩;rintro _ ⟨k,rfl,hk,h⟩
 refine⟨λh1=>⟨by omega,by omega,λx hx=>⟨λhn=>?_,λhn=>?_⟩⟩,λh1=>?_⟩
 ·rw[Int.toNat_natCast]at hx;rw[orI,nw h hx (by simpa using hn)];rfl
 ·rw[Int.toNat_natCast]at hx;have hlt:=aw hx;rw[ao (n:=vals.length) (by omega) (by omega)];refine⟨⟨k+1,rfl,by omega,?_⟩,by omega⟩;rw[al hx,List.all_append,h];simpa using hn
 ·rw[G' (by omega)]at h
  rw[orI,aL'.mpr]
  ·rfl
  ·intro x hx;simpa using ba'.mp h x hx
def orN_c(vals:List Int):PC Tryz.prog:=pcO 284 [(.s 1)] [.sl 1 (vals.map AV.int) false] .k Qs (orI vals) (λok=>let ⟨I0,m0,h⟩:=orN_p vals ok;⟨_,h,by kernel_rfl⟩) rfl (by kernel_rfl)
def Gi(r:Bool):AV:=.bool r
def yN(n:Int)(lo:Int)(hi:Int):Ax Tryz.prog noS (Bool):=
 (.br 80 (decide (lo≤n)) (.ret (decide (n≤hi)))
(.ret (false)))
theorem Rg(n lo hi:Int):(yN n lo hi).vp Gi (decide (lo≤n∧n≤hi)):=by
 dsimp only[yN,noS,Ax.vp,Ax.vc];simp only[vcU,rfU,f'];refine⟨λc=>?_,λc=>?_⟩<;>simp[c]
def te(n:Int)(lo:Int)(hi:Int):PC Tryz.prog:=pcO 240 [.k,.k,.k] [.int n,.int lo,.int hi] .k Gi (decide (lo≤n∧n≤hi)) (λ_=>⟨(yN n lo hi),Rg n lo hi,by kernel_rfl⟩) rfl (by kernel_rfl)
def Im(r:Bool):AV:=.bool r
def zK(f:Flt):Ax Tryz.prog noS (Bool):=
 (.br 96 (f.mode==1) (.ret (((f.srcs.map AV.int).length:Int)==0))
(.ret (false)))
theorem RW(f:Flt):(zK f).vp Im (decide (f.mode=1∧f.srcs=[])):=by
 dsimp only[zK,noS,Ax.vp,Ax.vc];simp only[vcU,rfU,f'];have h:((f.srcs.length:Int)==0)=decide (f.srcs=[]):=by rw[cj',bY',aM',←bO'];omega
 refine⟨λc=>?_,λc=>?_⟩<;>simp_all
def RX(f:Flt):PC Tryz.prog:=pcO 242 [(.a [.k,(.s 1)])] [Flt.v f] .k Im (decide (f.mode=1∧f.srcs=[])) (λ_=>⟨(zK f),RW f,by kernel_rfl⟩) rfl (by kernel_rfl)
def KF(r:Int):AV:=.int r
def AE(m:Mem)(k:MKy):Ax Tryz.prog noS (Int):=
 (.callP (nG m.grp k.grp)
(.callP (nG m.host k.host)
(.callP (orN_c [cmpI m.grp k.grp,cmpI m.host k.host])
(.ret (orI [cmpI m.grp k.grp,cmpI m.host k.host])))))
theorem SV(m:Mem)(k:MKy):(AE m k).vp KF (orI [cmpI m.grp k.grp,cmpI m.host k.host]):=by
 dsimp only[AE,noS,Ax.vp,Ax.vc];simp only[vcU,rfU,f']
def SX(m:Mem)(k:MKy):PC Tryz.prog:=pcO 243 [(.a [.k,.k,.k,(.s 1),.k]),.k] [Mem.v m,MKy.v k] .k KF (orI [cmpI m.grp k.grp,cmpI m.host k.host]) (λ_=>⟨(AE m k),SV m k,by kernel_rfl⟩) rfl (by kernel_rfl)
def O2(m:aJ)(t0:Int):NF:=⟨[rR 1 0,(21,.k,.sl 5 (m.list.map Mem.v) false),rI 22 ((m.list.map Mem.v).length:Int),rI 23 t0],[.box (aJ.v m)]⟩
def O1(m:aJ)(t0:Int)(t1:Bool):NF:=⟨[rR 1 0,(21,.k,.sl 5 (m.list.map Mem.v) false),rI 22 ((m.list.map Mem.v).length:Int),rI 23 t0,rB 47 t1],[.box (aJ.v m)]⟩
def O0(m:aJ)(t2:Int):NF:=⟨[rR 1 0,(50,.k,.sl 5 (m.list.map Mem.v) false),rI 51 ((m.list.map Mem.v).length:Int),rI 52 t2],[.box (aJ.v m)]⟩
def Oz(m:aJ)(t3:Int):NF:=⟨[rR 1 0,(64,.k,.sl 5 (m.list.map Mem.v) false),rI 65 ((m.list.map Mem.v).length:Int),rI 66 t3],[.box (aJ.v m)]⟩
def Oy(m:aJ)(t4:Int):NF:=⟨[rR 1 0,rI 10 t4],[.box (aJ.v m)]⟩
@[reducible] def IY:Nat→Type
 | 0=>Int
 | 1=>Bool
 | 2=>Int
 | 3=>Int
 | 4=>Int
 | _=>Unit
def IZ(r:Int):AV:=.int r
def IX(m:aJ)(I0:Int→Prop)(m0:Int→Nat)(I1:Int→Mem→Bool→Prop)(I2:Int→Int→Prop)(m2:Int→Int→Nat)(I3:Int→Int→Int→Prop)(m3:Int→Int→Int→Nat)(I4:Int→Int→Int→Int→Prop)(m4:Int→Int→Int→Int→Nat):Ax Tryz.prog IY (Int):=
 (.callP (te m.now 0 1000000)
(.br 96 (!(decide (0≤m.now∧m.now≤1000000))) (.ret (2))
(.br 160 (decide (64<((m.list.map Mem.v).length:Int))) (.ret (3))
(.loop 0 (O2 m) I0 m0 ((0):Int) [0] λ(t0:Int) b0 =>
(.br 17 (decide (t0<((m.list.map Mem.v).length:Int))) (.elI 17 Mem.v m.list t0 λx1 =>
(.join 1 (O1 m t0) (λ(t1:Bool)=>I1 t0 x1 t1) (λb1=>(.callP (te x1.host 1 99)
(.br 161 (!(decide (1≤x1.host∧x1.host≤99))) (.bk 1 b1 ((true):Bool) [0])
(.callP (te x1.grp 1 99)
(.br 257 (!(decide (1≤x1.grp∧x1.grp≤99))) (.bk 1 b1 ((true):Bool) [0])
(.callP (te x1.til m.now (W (m.now+1000)))
(.bk 1 b1 ((!(decide (m.now≤x1.til∧x1.til≤(W (m.now+1000))))):Bool) [0]))))))) λ(t1:Bool) =>
(.br 1 t1 (.ret (2))
(.bk 0 b0 ((W (t0+1)):Int) [0]))))
(.loop 2 (O0 m) (I2 t0) (m2 t0) ((0):Int) [0] λ(t2:Int) b2 =>
(.br 17 (decide (t2<((m.list.map Mem.v).length:Int))) (.elI 17 Mem.v m.list t2 λx2 =>
(.callP (nN (⟨x2.mode,x2.srcs⟩:Flt))
(.br 177 ((am (⟨x2.mode,x2.srcs⟩:Flt).mode (⟨x2.mode,x2.srcs⟩:Flt).srcs) != 0) (.ret (am (⟨x2.mode,x2.srcs⟩:Flt).mode (⟨x2.mode,x2.srcs⟩:Flt).srcs))
(.bk 2 b2 ((W (t2+1)):Int) [0]))))
(.loop 3 (Oz m) (I3 t0 t2) (m3 t0 t2) ((0):Int) [0] λ(t3:Int) b3 =>
(.br 17 (decide (t3<((m.list.map Mem.v).length:Int))) (.elI 17 Mem.v m.list t3 λx3 =>
(.callP (RX (⟨x3.mode,x3.srcs⟩:Flt))
(.br 129 (decide ((⟨x3.mode,x3.srcs⟩:Flt).mode=1∧(⟨x3.mode,x3.srcs⟩:Flt).srcs=[])) (.ret (1))
(.bk 3 b3 ((W (t3+1)):Int) [0]))))
(.loop 4 (Oy m) (I4 t0 t2 t3) (m4 t0 t2 t3) ((1):Int) [0] λ(t4:Int) b4 =>
(.br 81 (decide (t4<((m.list.map Mem.v).length:Int))) (.elI 129 Mem.v m.list t4 λx4 =>
(.elI 257 Mem.v m.list (W (t4-1)) λx5 =>
(.callP (SX x5 (⟨x4.grp,x4.host⟩:MKy))
(.br 401 (decide (0≤(orI [cmpI x5.grp (⟨x4.grp,x4.host⟩:MKy).grp,cmpI x5.host (⟨x4.grp,x4.host⟩:MKy).host]))) (.ret (25))
(.bk 4 b4 ((W (t4+1)):Int) [0])))))
(.ret (0)))))))))))))
theorem xR(a b c d:Int):0≤orI [cmpI a b,cmpI c d]↔¬(a<b∨a=b∧c<d):=by
 rw[ma];unfold cmpI
 (repeat' split)<;>simp_all<;>omega
theorem jY{x y:Mem}:ct x y↔x.grp<y.grp∨x.grp=y.grp∧x.host<y.host:=by
 simp[ct,lv]
theorem Sk(m:aJ):∃I0 m0 I1 I2 m2 I3 m3 I4 m4,(IX m I0 m0 I1 I2 m2 I3 m3 I4 m4).vp IZ (ba m):=by
 refine⟨gG m.list (dT m.now),λt=>m.list.length-t.toNat,λ_ x b=>b=decide (¬dT m.now x),λ_=>gG m.list (λx=>am x.mode x.srcs=0),λ_ t=>m.list.length-t.toNat,
  λ_ _=>gG m.list (λx=>¬(x.mode=1∧x.srcs=[])),λ_ _ t=>m.list.length-t.toNat,λ_ _ _=>lB m.list ct,λ_ _ _ t=>m.list.length+1-t.toNat,?_⟩
 dsimp only[IX,IY,Ax.vp,Ax.vc];simp only[vcU,rfU,f']
 refine⟨λc=>?_,λc=>⟨λd=>?_,λd=>⟨gG.zero,?_⟩⟩⟩
 ·rw[ba,if_pos (show ¬(0≤m.now∧m.now≤1000000)from λh=>by simp[h]at c)]
 ·rw[ba,u' (by simpa using c),if_pos (by omega)]
 have c:0≤m.now∧m.now≤1000000:=by simpa using c
 have d:¬64<m.list.length:=by omega
 intro t1 h1
 refine⟨λe=>⟨h1.idx,e,λx hx=>⟨?_,?_⟩⟩,λe=>⟨gG.zero,?_⟩⟩
 ·have w:W (m.now+1000)=m.now+1000:=cf (by omega);rw[w];refine⟨λq=>?_,λq=>⟨λq2=>?_,λq2=>?_⟩⟩<;>simp[dT]at *<;>grind
 ·rintro _ rfl;refine⟨λq=>?_,λq=>h1.step (by omega) hx (X'.mp (ab' q))⟩;rw[ba,u' (not_not_intro c),u' d,if_pos (λh=>H' q (h x (uO hx)))]
 have g1:=h1.done e;intro t2 h2
 refine⟨λe2=>⟨h2.idx,e2,λx hx=>⟨λq=>?_,λq=>h2.step (by omega) hx (by simpa using q)⟩⟩,λe2=>⟨gG.zero,?_⟩⟩
 ·have hq:am x.mode x.srcs≠0:=by simpa using q
  have:=rZ (f:=λx:Mem=>am x.mode x.srcs) h2 hx hq;rw[ba,u' (not_not_intro c),u' d,u' (not_not_intro g1),this,if_pos hq]
 have g2:orI (m.list.map λx=>am x.mode x.srcs)=0:=pA (h2.done e2);intro t3 h3
 refine⟨λe3=>⟨h3.idx,e3,λx hx=>⟨λq=>?_,λq=>h3.step (by omega) hx q⟩⟩,λe3=>⟨lB.one,?_⟩⟩
 ·rw[ba,u' (not_not_intro c),u' d,u' (not_not_intro g1),u' (not_not_intro g2),if_pos ⟨x,uO hx,q⟩]
 have g3:¬∃x∈m.list,x.mode=1∧x.srcs=[]:=λ⟨x,hx,q⟩=>h3.done e3 x hx q;intro t4 h4
 refine⟨λe4=>⟨(h4.idx (by omega) e4).2,e4,λy hy=>⟨(h4.idx (by omega) e4).1.1,(h4.idx (by omega) e4).1.2,λx hx=>⟨λq=>?_,λq=>h4.step (by omega) hx hy ?_⟩⟩⟩,λe4=>?_⟩
 ·have q:=λr:ct x y=>(xR _ _ _ _).mp q (jY.mp r);rw[ba,u' (not_not_intro c),u' d,u' (not_not_intro g1),u' (not_not_intro g2),u' g3,if_pos (h4.bad (S:=ct) (by omega) hx hy q)]
 ·exact jY.mpr (X'.mp λr=>q ((xR _ _ _ _).mpr r))
 ·rw[ba,u' (not_not_intro c),u' d,u' (not_not_intro g1),u' (not_not_intro g2),u' g3,u' (not_not_intro (h4.done e4 pG))]
def zO(m:aJ):PC Tryz.prog:=pcO 138 [(.a [.k,(.s 5)])] [aJ.v m] .k IZ (ba m) (λ_=>let ⟨I0,m0,I1,I2,m2,I3,m3,I4,m4,h⟩:=Sk m;⟨_,h,by kernel_rfl⟩) rfl (by kernel_rfl)
def Hh(r:Bool):AV:=.bool r
def zg(x:Wnt)(y:Wnt):Ax Tryz.prog noS (Bool):=
 (.br 144 (x.grp==y.grp) (.callP (uZ (⟨x.mode,x.srcs⟩:Flt) (⟨y.mode,y.srcs⟩:Flt))
(.ret (ou (⟨x.mode,x.srcs⟩:Flt) (⟨y.mode,y.srcs⟩:Flt))))
(.ret (false)))
theorem Rx(x y:Wnt):(zg x y).vp Hh (decide (x=y)):=by
 dsimp only[zg,noS,Ax.vp,Ax.vc];simp only[vcU,rfU,f']
 refine⟨λe=>?_,λe=>(decide_eq_false λh=>?_).symm⟩
 ·have e:x.grp=y.grp:=by simpa using e
  show decide ((⟨x.mode,x.srcs⟩:Flt)=⟨y.mode,y.srcs⟩)=_;exact decide_eq_decide.mpr (by rw[eO,Wnt.eq_iff];exact⟨λh=>⟨e,h⟩,λh=>h.2⟩)
 ·subst h;simp at e
def Ry(x:Wnt)(y:Wnt):PC Tryz.prog:=pcO 150 [(.a [.k,.k,(.s 1)]),(.a [.k,.k,(.s 1)])] [Wnt.v x,Wnt.v y] .k Hh (decide (x=y)) (λ_=>⟨(zg x y),Rx x y,by kernel_rfl⟩) rfl (by kernel_rfl)
def QG(s1:List Wnt)(s2:List Wnt):=okL [.sl 3 (s1.map Wnt.v) false,.sl 3 (s2.map Wnt.v) false,.func 150 []]
def SK(s1:List Wnt)(s2:List Wnt)(t0:Int):NF:=⟨[(1,.k,.sl 3 (s2.map Wnt.v) false),(2,.k,.func 150 []),(15,.k,.sl 3 (s1.map Wnt.v) false),rI 16 ((s1.map Wnt.v).length:Int),rI 17 t0],[]⟩
@[reducible] def QE:Nat→Type
 | 0=>Int
 | _=>Unit
def QF(r:Bool):AV:=.bool r
def QD(s1:List Wnt)(s2:List Wnt)(I0:Int→Prop)(m0:Int→Nat):Ax Tryz.prog QE (Bool):=
 (.br 96 (((s1.map Wnt.v).length:Int) != ((s2.map Wnt.v).length:Int)) (.ret (false))
(.loop 0 (SK s1 s2) I0 m0 ((0):Int) [] λ(t0:Int) b0 =>
(.br 16 (decide (t0<((s1.map Wnt.v).length:Int))) (.elI 32 Wnt.v s1 t0 λx1 =>
(.elI 144 Wnt.v s2 t0 λx2 =>
(.callP (Ry x1 x2)
(.br 288 (!(decide (x1=x2))) (.ret (false))
(.bk 0 b0 ((W (t0+1)):Int) [])))))
(.ret (true)))))
theorem eqW_p(a b:List Wnt)(ok:QG a b):∃I m,(QD a b I m).vp QF (decide (a=b)):=by
 simp only[QG,Wnt.v,okU,Blk.ok,aU,f']at ok;refine⟨λt=>∃k:Nat,t=k∧k≤a.length∧a.take k=b.take k,λt=>a.length-t.toNat,?_⟩;dsimp only[QD,QE,Ax.vp,Ax.vc];simp only[vcU,rfU,f'];refine⟨λe=>(decide_eq_false λh=>by subst h;simp at e).symm,λe=>⟨⟨0,rfl,by omega,rfl⟩,?_⟩⟩;have e:a.length=b.length:=by simp at e;omega
 rintro _ ⟨k,rfl,hk,h⟩;simp only[Int.toNat_natCast]
 refine⟨λh1=>⟨by omega,by omega,λx hx=>⟨by omega,by omega,λy hy=>⟨λe2=>?_,λe2=>?_⟩⟩⟩,λh1=>?_⟩
 ·refine(decide_eq_false λhh=>?_).symm;subst hh;cases hx.symm.trans hy;simp at e2
 ·have e2:x=y:=by simpa using e2
  subst e2;rw[ao (n:=a.length) (by omega) (by omega)];exact⟨⟨k+1,rfl,by omega,by rw[al hx,al hy,h]⟩,by omega⟩
 ·rw[G' (by omega),G' (by omega)]at h;exact(decide_eq_true h).symm
def eqW_c(s1:List Wnt)(s2:List Wnt):PC Tryz.prog:=pcO 149 [(.s 3),(.s 3),.k] [.sl 3 (s1.map Wnt.v) false,.sl 3 (s2.map Wnt.v) false,.func 150 []] .k QF (decide (s1=s2)) (λok=>let ⟨I0,m0,h⟩:=eqW_p s1 s2 ok;⟨_,h,by kernel_rfl⟩) rfl (by kernel_rfl)
def Hg(r:Bool):AV:=.bool r
def zf(a:List Wnt)(b:List Wnt):Ax Tryz.prog noS (Bool):=
 (.callP (eqW_c a b)
(.ret (decide (a=b))))
theorem Rv(a b:List Wnt):(zf a b).vp Hg (decide (a=b)):=by
 dsimp only[zf,noS,Ax.vp,Ax.vc];simp only[vcU,rfU,f']
def Rw(a:List Wnt)(b:List Wnt):PC Tryz.prog:=pcO 53 [(.s 3),(.s 3)] [.sl 3 (a.map Wnt.v) false,.sl 3 (b.map Wnt.v) false] .k Hg (decide (a=b)) (λ_=>⟨(zf a b),Rv a b,by kernel_rfl⟩) rfl (by kernel_rfl)
def Qh(r:Bool):AV:=.bool r
def GN(x:Bool)(y:Bool):Ax Tryz.prog noS (Bool):=
 (.br 48 x (.ret (true))
(.ret (y)))
theorem unC_p(x y:Bool):(GN x y).vp Qh (x || y):=by
 dsimp only[GN,noS,Ax.vp,Ax.vc];simp only[vcU,rfU,f'];cases x<;>cases y<;>simp
def Qi(x:Bool)(y:Bool):PC Tryz.prog:=pcO 246 [.k,.k] [.bool x,.bool y] .k Qh (x || y) (λ_=>⟨(GN x y),unC_p x y,by kernel_rfl⟩) rfl (by kernel_rfl)
theorem zP:∀{l m:List Int},l.Pairwise (·<·)→m.Pairwise (·<·)→(∀x,x∈l↔x∈m)→l=m
 | [],[],_,_,_=>rfl
 | [],y::m,_,_,h=>absurd ((h y).mpr (by simp)) (by simp)
 | x::l,[],_,_,h=>absurd ((h x).mp (by simp)) (by simp)
 | x::l,y::m,h1,h2,h=>by
  rw[an']at h1 h2;have e:x=y:=by
   rcases P'.mp ((h x).mp (by simp))with e|e
   ·exact e
   ·rcases P'.mp ((h y).mpr (by simp))with e'|e'
    ·exact e'.symm
    ·have:=h1.1 y e';have:=h2.1 x e;omega
  subst e;rw[zP h1.2 h2.2 λz=>?_]
  constructor
  ·intro hz
   rcases P'.mp ((h z).mp (bM' _ hz))with e|e
   ·have:=h1.1 z hz;omega
   ·exact e
  ·intro hz
   rcases P'.mp ((h z).mpr (bM' _ hz))with e|e
   ·have:=h2.1 z hz;omega
   ·exact e
def uE(a b:Flt):Bool:=a.mode==2 || b.mode==2
def F8(a b:Flt):List Int:=cpt (eK (a.srcs++b.srcs))
def KK(a b:Flt)(s:Int):Bool:=(jf a s || jf b s) != uE a b
def cmbR(a b:Flt):Flt:=⟨if uE a b=true then 2 else 1,(F8 a b).filter (KK a b)⟩
theorem pZ{m:Int}{l:List Int}(h:am m l=0):(m=1∨m=2)∧ko l∧jg l:=by
 unfold am at h
 (repeat' split at h)<;>simp_all
 omega
theorem Ta{a b:Flt}(ha:am a.mode a.srcs=0)(hb:am b.mode b.srcs=0):unF a b=(cmbR a b,0):=by
 obtain⟨a1,a2,a3⟩:=pZ ha;obtain⟨b1,b2,b3⟩:=pZ hb;have hw:∀s,1≤s→nH a b false s=(jf a s || jf b s):=λs hs=>by
  have h1:∀f:Flt,am f.mode f.srcs=0→dS f s=jf f s:=λf h=>by
   unfold dS jf;rw[decide_eq_true h,decide_eq_true hs];rfl
  unfold nH Pp;rw[h1 a ha,h1 b hb];cases jf a s<;>cases jf b s<;>rfl
 have hf:∀(f:Flt) s,(f.mode=1∨f.mode=2)→s ∉ f.srcs→jf f s=(f.mode==2):=λf s hm hs=>by
  unfold jf;rcases hm with e|e<;>simp[hs,e]
 have hk:nH a b false 100=uE a b:=by
  rw[hw 100 (by omega),hf a 100 a1 (λq=>by have:=a2 _ q;omega),hf b 100 b1 (λq=>by have:=b2 _ q;omega)];rfl
 show nI a b false=_;rw[nI,u' (by simpa using ha),u' (by simpa using hb),hk];refine congrArg (·,0) ?_
 unfold ofF cmbR;refine congrArg (Flt.mk _) ?_;refine zP ((Dw 99).filter _) ((DF (Hc _)).filter _) λs=>?_;rw[aA',aA',mg];unfold F8;rw[oJ,(rA _).mem_iff,L'];have hg:1≤s∧s≤99→(wnB (nH a b false) 99).getD s.toNat false=(jf a s || jf b s):=λh=>by
  rw[J',jQ (by omega),cd',as' (by omega),hw s (by omega),decide_eq_true (by omega)];rfl
 unfold KK
 constructor
 ·rintro⟨h1,h2⟩;rw[hg h1]at h2;refine⟨af' λq=>?_,by simpa using h2⟩;rw[hf a s a1 (λe=>q (.inl e)),hf b s b1 (λe=>q (.inr e))]at h2;unfold uE at h2;simp at h2
 ·rintro⟨h1,h2⟩;have h3:1≤s∧s≤99:=by rcases h1 with h1|h1;exact a2 s h1;exact b2 s h1
  exact⟨h3,by rw[hg h3];simpa using h2⟩
def Pm(a:Flt)(b:Flt)(t0:Int):NF:=⟨[(2,.k,.func 246 []),rR 3 0,rR 4 1,rR 6 2,rB 9 ((a.mode==2) || (b.mode==2)),rR 10 3],[.box (Flt.v a),.box (Flt.v b),.box (.agg [.int 0,.sl 0 [] true]),.box (.agg [.int t0,.sl 0 [] true])]⟩
def Pl(a:Flt)(b:Flt)(t0:Int)(t1:Int×List Int):NF:=⟨[(2,.k,.func 246 []),rR 3 0,rR 4 1,rR 6 2,rB 9 ((a.mode==2) || (b.mode==2)),rR 10 3,(44,.k,.sl 1 ((cpt (eK (([a.srcs,b.srcs]).flatten))).map AV.int) false),rI 45 (((cpt (eK (([a.srcs,b.srcs]).flatten))).map AV.int).length:Int),rI 46 t1.1],[.box (Flt.v a),.box (Flt.v b),.box (.agg [.int 0,.sl 0 [] true]),.box (.agg [.int t0,.vec 4]),vB 1 AV.int t1.2 (λ_=>rfl)]⟩
@[reducible] def KM:Nat→Type
 | 0=>Int
 | 1=>Int×List Int
 | _=>Unit
def KN(r:Flt×Int):AV:=.tup [Flt.v r.1,.int r.2]
def KL(a:Flt)(b:Flt)(I0:Int→Prop)(I1:Int→(Int×List Int)→Prop)(m1:Int→(Int×List Int)→Nat):Ax Tryz.prog KM (Flt×Int):=
 (.callP (nN a)
(.callP (nN b)
(.callP (vZ [am a.mode a.srcs,am b.mode b.srcs])
(.br 208 ((orI [am a.mode a.srcs,am b.mode b.srcs]) != 0) (.ret ((⟨0,[]⟩:Flt),orI [am a.mode a.srcs,am b.mode b.srcs]))
(.callP (Qi (a.mode==2) (b.mode==2))
(.pass (.join 0 (Pm a b) (λ(t0:Int)=>I0 t0) (λb0=>(.br 416 ((a.mode==2) || (b.mode==2)) (.bk 0 b0 ((2):Int) [0,16,32,368])
(.bk 0 b0 ((1):Int) [0,16,32,368]))) λ(t0:Int) =>
(.req 84 (([a.srcs,b.srcs]).length≤1000∧([a.srcs,b.srcs]).flatten.length≤1000000) λh1 =>
(.callH [] (SS [a.srcs,b.srcs] h1) 84
(.req 132 ((([a.srcs,b.srcs]).flatten).length≤1000000) λh2 =>
(.callH [84] (MQ (([a.srcs,b.srcs]).flatten) h2) 132
(.req 164 ((eK (([a.srcs,b.srcs]).flatten)).length≤1000000) λh3 =>
(.callH [84] (K8 (eK (([a.srcs,b.srcs]).flatten)) h3) 164
(.cmdL (.nilB 3 1 1) (.loop 1 (Pl a b t0) (I1 t0) (m1 t0) (0,[]) [0,1,2,3,212] λ(t1:Int×List Int) b1 =>
(.br 21 (decide (t1.1<(((cpt (eK (([a.srcs,b.srcs]).flatten))).map AV.int).length:Int))) (.elI 21 AV.int (cpt (eK (([a.srcs,b.srcs]).flatten))) t1.1 λx4 =>
(.callP (Kb a x4)
(.callP (Kb b x4)
(.callP (Qi (jf a x4) (jf b x4))
(.br 229 (!(((jf a x4) || (jf b x4))==((a.mode==2) || (b.mode==2)))) (.apX 293 AV.int t1.2 [x4] (t1.2.length+1)
(.bk 1 b1 (W (t1.1+1),t1.2++[x4]) [0,1,2,3,293]))
(.bk 1 b1 (W (t1.1+1),t1.2) [0,1,2,3,4]))))))
(.fz 4 AV.int t1.2 (λ_=>rfl) (.ret ((⟨t0,t1.2⟩:Flt),0)))))))))))))))))))
theorem D1{m:Int}{l:List Int}(h:am m l=0):l.length≤99:=by
 obtain⟨_,h2,h3⟩:=pZ h;have:=List.Nodup.length_le_of_subset ((l8.mp h3).imp λq=>by omega) (l₂:=frs 99) λx hx=>mg.mpr (h2 x hx);rw[Dv]at this;exact this
theorem oa{q:Int→Bool}:∀l:List Int,(l.flatMap λs=>if q s=true then [s]else [])=l.filter q
 | []=>rfl
 | x::l=>by rw[ap',oa l,bI'];split<;>rfl
theorem Tb(a b:Flt):∃I0 I1 m1,(KL a b I0 I1 m1).vp KN (unF a b):=by
 refine⟨λt=>t=if uE a b=true then 2 else 1,λ_ t=>jO (F8 a b) (λs=>if KK a b s=true then [s]else []) t.1 t.2,λ_ t=>(F8 a b).length-t.1.toNat,?_⟩;dsimp only[KL,KM,Ax.vp,Ax.vc];simp only[vcU,rfU,f'];rw[ma]
 refine⟨λc=>?_,λc=>?_⟩
 ·show _=nI a b false;unfold nI;split<;>simp_all
 have ha:am a.mode a.srcs=0:=by split at c<;>simp_all
 have hb:am b.mode b.srcs=0:=by split at c<;>simp_all
 rw[Ta ha hb]
 refine⟨⟨λd=>?_,λd=>?_⟩,?_⟩
 ·rw[if_pos (by unfold uE;simpa using d)]
 ·rw[u' (by unfold uE;rw[d];simp)]
 rintro _ rfl;have la:=D1 ha;have lb:=D1 hb;have hfl:([a.srcs,b.srcs].flatten)=a.srcs++b.srcs:=by simp
 rw[hfl];have hN:cpt (eK (a.srcs++b.srcs))=F8 a b:=rfl;have hsl:(eK (a.srcs++b.srcs)).length=(a.srcs++b.srcs).length:=(rA _).length_eq;have hnl:(F8 a b).length≤198:=by
  have:=Ph (eK (a.srcs++b.srcs));rw[hsl,Y']at this;rw[←hN];omega
 rw[hN];refine⟨⟨by simp,by rw[Y'];omega⟩,by rw[Y'];omega,by rw[hsl,Y'];omega,jO.zero,?_⟩;rintro⟨i,out⟩ h;simp only at h ⊢;have hlen:=h.len (b:=1) λx _=>by split<;>simp
 refine⟨λd=>⟨h.idx,d,λx hx=>⟨λe=>⟨by omega,h.step (by omega) hx ?_⟩,λe=>h.step (by omega) hx ?_⟩⟩,λd=>?_⟩
 ·rw[if_pos (by unfold KK uE;simpa using e)]
 ·rw[u' (by unfold KK uE;simpa using e)];simp
 ·rw[h.done d,oa];rfl
def Tc(a:Flt)(b:Flt):PC Tryz.prog:=pcO 245 [(.a [.k,(.s 1)]),(.a [.k,(.s 1)]),.k] [Flt.v a,Flt.v b,.func 246 []] (.a [(.a [.k,(.s 1)]),.k]) KN (unF a b) (λ_=>let ⟨I0,I1,m1,h⟩:=Tb a b;⟨_,h,by kernel_rfl⟩) rfl (by kernel_rfl)
def Qf(r:Flt×Int):AV:=.tup [Flt.v r.1,.int r.2]
def GL(a:Flt)(b:Flt):Ax Tryz.prog noS (Flt×Int):=
 (.callP (Tc a b)
(.ret ((unF a b).1,(unF a b).2)))
theorem unP_p(a b:Flt):(GL a b).vp Qf (unF a b):=by
 dsimp only[GL,noS,Ax.vp,Ax.vc];simp only[vcU,rfU,f']
def unP_c(a:Flt)(b:Flt):PC Tryz.prog:=pcO 140 [(.a [.k,(.s 1)]),(.a [.k,(.s 1)])] [Flt.v a,Flt.v b] (.a [(.a [.k,(.s 1)]),.k]) Qf (unF a b) (λ_=>⟨(GL a b),unP_p a b,by kernel_rfl⟩) rfl (by kernel_rfl)
theorem Sr{α:Type}{R:α→α→Prop}{l:List α}{k:Nat}{x:α}(h:l.Pairwise R)(h1:∀a∈l.take k,R a x)(h2:∀a∈l.drop k,R x a):(dR l k x).Pairwise R:=by
 have h0:=h;rw[←bg' k l,ag']at h0;unfold dR;rw[ag',ag']
 refine⟨⟨h0.1,aH' _ _,λa ha b hb=>?_⟩,h0.2.1,λa ha b hb=>?_⟩
 ·rw[O']at hb;exact hb ▸ h1 a ha
 ·rcases L'.mp ha with ha|ha
  ·exact h0.2.2 a ha b hb
  ·rw[O']at ha;exact ha ▸ h2 b hb
theorem nj{α:Type}{l:List α}{k:Nat}{x y:α}:y∈dR l k x↔y=x∨y∈l:=by
 rw[(pQ l k x).mem_iff,P']
theorem O3{l:List Mem}{x a:Mem}(h:a∈l.take (kS l x)):ct a x:=by
 obtain⟨i,hi,rfl⟩:=ad' h;rw[bz'];have:=bR' (p:=λy=>!jy y x) (xs:=l) (i:=i) (by simp at hi;unfold kS at hi;omega);have e:(!jy (l[i]'(by simp at hi;omega)) x)=false:=this;rw[bT']at e;exact e
theorem HW{l:List Mem}{x y:Mem}(h:y∈mY l x):y∈l∨y=x:=by
 unfold mY at h
 split at h
 ·rcases bp' h with h|h
  ·exact .inl h
  ·exact .inr h
 ·exact(nj.mp h).symm
theorem NS{l:List Mem}{x:Mem}(h:l.Pairwise ct):(mY l x).Pairwise ct:=by
 unfold mY
 split
 ·rename_i e;unfold wt at e
  split at e
  ·rename_i y hy;have hlt:=aw hy;have hyx:y.grp=x.grp∧y.host=x.host:=by simpa using e
   rw[ac']at h ⊢;intro i j hi hj hij;rw[List.length_set]at hi hj;have:=h i j hi hj hij;rw[E' hlt]at hy;have hy:=ao' hy;rw[bc',bc']
   by_cases e1:kS l x=i
   ·rw[if_pos e1,u' (by omega)];simp only[←e1,hy]at this;simpa[ct,lv,hyx]using this
   ·rw[u' e1]
    by_cases e2:kS l x=j
    ·rw[if_pos e2];simp only[←e2,hy]at this;simpa[ct,lv,hyx]using this
    ·rw[u' e2];exact this
  ·cases e
 ·rename_i e;refine Sr h (λa ha=>O3 ha) λa ha=>?_;have hlt:kS l x<l.length:=by
   refine af' λq=>?_;rw[aI' (by omega)]at ha;simp at ha
  have h1:jy l[kS l x] x=false:=by
   have:=bZ' (p:=λy=>!jy y x) (xs:=l) (w:=hlt);rw[be']at this;exact this
  have h2:¬(l[kS l x].grp=x.grp∧l[kS l x].host=x.host):=λq=>e (by rw[wt,E' hlt];simp[q.1,q.2]);have h3:ct x l[kS l x]:=by
   simp only[jy,Bool.or_eq_false_iff,Bool.and_eq_false_iff,decide_eq_false_iff_not,beq_eq_false_iff_ne]at h1;simp only[ct,lv,bU',aJ',decide_eq_true_eq,bY'];omega
  rw[ar' hlt]at ha
  rcases P'.mp ha with rfl|ha
  ·exact h3
  ·have hp:(l.drop (kS l x)).Pairwise ct:=h.sublist (ck' _ _);rw[ar' hlt,an']at hp;exact pG _ _ _ h3 (hp.1 a ha)
structure yF (now:Int) (x:Mem):Prop where
  host:1≤x.host∧x.host≤8
  grp:1≤x.grp∧x.grp≤4
  flt:am x.mode x.srcs=0
  no:¬(x.mode=1∧x.srcs=[])
  til:now≤x.til∧x.til≤now+1000
theorem Oo(L:List Int)(now:Int)(p:Nat):yF now (rf L now p).1:=by
 have hf:=qj L (ab L (ab L p));have h4:=gf (l:=[0,1,30,1000]) (a:=0) (b:=1000) (by decide) (by decide) (aj L (ax L (ab L (ab L p))).2);have h1:=jq (L:=L) (p:=p) (lo:=1) (hi:=8) (by omega);have h2:=jq (L:=L) (p:=ab L p) (lo:=1) (hi:=4) (by omega);unfold rf;generalize ax L (ab L (ab L p))=F at *
 refine⟨h1,h2,?_,?_,by simp only;omega⟩
 ·show am (if F.1.mode=1∧F.1.srcs=[]then 2 else F.1.mode) F.1.srcs=0
  split
  ·rename_i c;rw[c.2];decide
  ·exact hf
 ·show ¬((if F.1.mode=1∧F.1.srcs=[]then 2 else F.1.mode)=1∧F.1.srcs=[])
  split
  ·omega
  ·assumption
theorem wn{L:List Int}{now:Int}:∀{n:Nat} {l:List Mem} {p:Nat},(∀x∈l,yF now x)→l.Pairwise ct→(∀x∈(ik L now n l p).1,yF now x)∧(ik L now n l p).1.Pairwise ct∧(ik L now n l p).1.length≤l.length+n
 | 0,l,p,h1,h2=>⟨h1,h2,by simp[ik]⟩
 | n+1,l,p,h1,h2=>by
  rw[ik]
  obtain⟨a,b,c⟩:=wn (L:=L) (now:=now) (n:=n) (l:=mY l (rf L now p).1) (p:=(rf L now p).2)
   (λx hx=>by
    rcases HW hx with hx|rfl
    ·exact h1 x hx
    ·exact Oo L now p) (NS h2)
  have:=vP l (rf L now p).1;exact⟨a,b,by omega⟩
theorem wm(L:List Int){n:Int}(p:Nat)(h:0≤n∧n≤1000):(0≤(bC L n p).1.now∧(bC L n p).1.now≤998000)∧(∀x∈(bC L n p).1.list,yF (bC L n p).1.now x)∧(bC L n p).1.list.Pairwise ct∧(bC L n p).1.list.length≤n:=by
 have hnow:=gf (l:=[0,10,500,998000]) (a:=0) (b:=998000) (by decide) (by decide) (aj L p);have hm:=bt (x:=aj L (ab L p)) (show 1≤n+1 by omega);obtain⟨a,b,c⟩:=wn (L:=L) (now:=(bC L n p).1.now) (n:=(Mod (aj L (ab L p)) (n+1)).toNat) (l:=[]) (p:=ab L (ab L p)) (by simp) List.Pairwise.nil;refine⟨hnow,a,b,?_⟩;have c:(bC L n p).1.list.length≤0+(Mod (aj L (ab L p)) (n+1)).toNat:=c;omega
theorem CD(w:List Bool)(g:Bool):am (ofF w g).mode (ofF w g).srcs=0:=by
 have h1:(ofF w g).mode=1∨(ofF w g).mode=2:=by unfold ofF;cases g<;>simp
 have h2:ko (ofF w g).srcs:=λs hs=>by
  have:=mg.mp (aA'.mp hs).1;omega
 have h3:jg (ofF w g).srcs:=l8.mpr ((Dw 99).sublist List.filter_sublist);rw[am,u' (not_not_intro h1),u' (not_not_intro h2),u' (not_not_intro h3)]
theorem NY{Z:Int→Bool}{s:Int}(h:1≤s∧s≤100):dS (ofF (wnB Z 99) (Z 100)) s=Z s:=by
 rw[dS,decide_eq_true (CD _ _),decide_eq_true h.1,Bool.true_and,Bool.true_and];have hm:decide ((ofF (wnB Z 99) (Z 100)).mode=1)=!Z 100:=by
  unfold ofF;cases Z 100<;>simp
 rw[hm]
 by_cases e:s=100
 ·subst e;have:decide ((100:Int)∈(ofF (wnB Z 99) (Z 100)).srcs)=false:=decide_eq_false λhs=>by
   have:=mg.mp (aA'.mp hs).1;omega
  rw[this];cases Z 100<;>rfl
 ·have hg:(wnB Z 99).getD s.toNat false=Z s:=by
   rw[J',jQ (by omega),decide_eq_true (by omega),Bool.true_and,show((s.toNat:Nat):Int)=s by omega];rfl
  have:decide (s∈(ofF (wnB Z 99) (Z 100)).srcs)=!(Z s==Z 100):=by
   rw[cj',decide_eq_true_eq];rw[show(ofF (wnB Z 99) (Z 100)).srcs=(frs 99).filter λs=>!((wnB Z 99).getD s.toNat false==Z 100)from rfl,aA',hg,mg]
   constructor
   ·exact λq=>q.2
   ·exact λq=>⟨by omega,q⟩
  rw[this];cases Z s<;>cases Z 100<;>rfl
theorem Et{a b:Flt}(ha:am a.mode a.srcs=0)(hb:am b.mode b.srcs=0):(unF a b).2=0∧am (unF a b).1.mode (unF a b).1.srcs=0∧∀s,1≤s∧s≤100→dS (unF a b).1 s=(dS a s || dS b s):=by
 have e:unF a b=(ofF (wnB (nH a b false) 99) (nH a b false 100),0):=by rw[unF,nI,u' (not_not_intro ha),u' (not_not_intro hb)]
 rw[e];refine⟨rfl,CD _ _,λs hs=>?_⟩;show dS (ofF _ _) s=_;rw[NY hs];unfold nH Pp;cases dS a s<;>cases dS b s<;>rfl
theorem Gd{f:Flt}(h:am f.mode f.srcs=0)(hn:¬(f.mode=1∧f.srcs=[])):∃s,(1≤s∧s≤100)∧dS f s=true:=by
 have hm:f.mode=1∨f.mode=2:=by
  refine af' λq=>?_;rw[am,if_pos q]at h;cases h
 have hr:ko f.srcs:=by
  refine af' λq=>?_;rw[am,u' (not_not_intro hm),if_pos q]at h;cases h
 rcases hm with hm|hm
 ·cases hs:f.srcs with
  | nil=>exact absurd ⟨hm,hs⟩ hn
  | cons s l =>
   have:=hr s (by rw[hs];simp);refine⟨s,by omega,?_⟩;rw[dS,decide_eq_true h,decide_eq_true this.1,hs,hm];simp
 ·refine⟨100,by omega,?_⟩;have:decide ((100:Int)∈f.srcs)=false:=decide_eq_false λq=>by have:=hr 100 q;omega
  rw[dS,decide_eq_true h,this,hm];rfl
theorem Mt{f:Flt}{s:Int}(h:dS f s=true):¬(f.mode=1∧f.srcs=[]):=by
 rintro⟨h1,h2⟩;rw[dS,h1,h2]at h;simp at h
theorem lf{m:aJ}(h:ba m=0):(bw m).Pairwise (·<·)∧∀g,g∈bw m↔∃x∈m.list,x.grp=g:=by
 rw[bw,if_pos h];have key:∀(l:List Mem) (s:List Int),jg s→jg (l.foldl (λout x=>put out x.grp) s)∧∀g,g∈l.foldl (λout x=>put out x.grp) s↔g∈s∨∃x∈l,x.grp=g:=by
  intro l
  induction l with
  | nil=>intro s hs;exact⟨hs,λg=>by simp⟩
  | cons x l ih =>
   intro s hs;obtain⟨a,b⟩:=ih (put s x.grp) (tP hs);refine⟨a,λg=>?_⟩;rw[ax',b];have hp:g∈put s x.grp↔g∈s∨g=x.grp:=by
    refine⟨tO,λq=>?_⟩;unfold put
    split
    ·rename_i e
     rcases q with q|q
     ·exact q
     ·exact q ▸ aq e
    ·exact nj.mpr q.symm
   rw[hp]
   constructor
   ·rintro((q|q)|⟨y,q1,q2⟩)
    ·exact .inl q
    ·exact .inr ⟨x,by simp,q.symm⟩
    ·exact .inr ⟨y,by simp[q1],q2⟩
   ·rintro(q|⟨y,q1,q2⟩)
    ·exact .inl (.inl q)
    ·rcases P'.mp q1 with rfl|q1
     ·exact .inl (.inr q2.symm)
     ·exact .inr ⟨y,q1,q2⟩
 obtain⟨a,b⟩:=key m.list [] (l8.mpr List.Pairwise.nil);exact⟨l8.mp a,λg=>by rw[b];simp⟩
theorem xn{m:aJ}(h:ba m=0)(g:Int):am (nY m g).mode (nY m g).srcs=0∧((∃x∈m.list,x.grp=g)→¬((nY m g).mode=1∧(nY m g).srcs=[])):=by
 obtain⟨-,-,-,h4,h5,-⟩:=cR h
 have key:∀(l:List Mem) (f:Flt),(∀x∈l,x∈m.list)→am f.mode f.srcs=0→am (l.foldl (λf x=>if x.grp=g then(unF f ⟨x.mode,x.srcs⟩).1 else f) f).mode (l.foldl (λf x=>if x.grp=g then(unF f ⟨x.mode,x.srcs⟩).1 else f) f).srcs=0 ∧
   ∀s,1≤s∧s≤100→(dS f s=true∨∃x∈l,x.grp=g∧dS ⟨x.mode,x.srcs⟩ s=true)→dS (l.foldl (λf x=>if x.grp=g then(unF f ⟨x.mode,x.srcs⟩).1 else f) f) s=true:=by
  intro l
  induction l with
  | nil=>intro f _ hf;exact⟨hf,λs _ q=>by simpa using q⟩
  | cons x l ih =>
   intro f hl hf;have hx:=h4 x (hl x (by simp));rw[ax']
   by_cases e:x.grp=g
   ·rw[if_pos e];obtain⟨u1,u2,u3⟩:=Et hf (b:=⟨x.mode,x.srcs⟩) hx;obtain⟨a,b⟩:=ih (unF f ⟨x.mode,x.srcs⟩).1 (λy hy=>hl y (by simp[hy])) u2;refine⟨a,λs hs q=>b s hs ?_⟩;rw[u3 s hs]
    rcases q with q|⟨y,q1,q2,q3⟩
    ·left;rw[q];rfl
    ·rcases P'.mp q1 with rfl|q1
     ·left;rw[q3];simp
     ·exact .inr ⟨y,q1,q2,q3⟩
   ·rw[u' e];obtain⟨a,b⟩:=ih f (λy hy=>hl y (by simp[hy])) hf;refine⟨a,λs hs q=>b s hs ?_⟩
    rcases q with q|⟨y,q1,q2,q3⟩
    ·exact .inl q
    ·rcases P'.mp q1 with rfl|q1
     ·exact absurd q2 e
     ·exact .inr ⟨y,q1,q2,q3⟩
 obtain⟨a,b⟩:=key m.list ⟨1,[]⟩ (λ_ h=>h) (by decide);refine⟨a,λ⟨x,hx,hg⟩=>?_⟩;obtain⟨s,hs,hw⟩:=Gd (f:=⟨x.mode,x.srcs⟩) (h4 x hx) (h5 x hx);exact Mt (b s hs (.inr ⟨x,hx,hg,hw⟩))
theorem fT{m:aJ}(h:ba m=0)(hg:∀x∈m.list,1≤x.grp∧x.grp≤4):ofW m=((bw m).map (yQ m),0)∧WOk 7 ((bw m).map (yQ m)):=by
 obtain⟨g1,g2⟩:=lf h;have hr:∀g∈bw m,1≤g∧g≤4:=λg q=>by
  obtain⟨x,hx,rfl⟩:=(g2 g).mp q;exact hg x hx
 have hl:(bw m).length≤4:=nc (R:=[1,2,3,4]) (g1.imp λq=>by omega) λg q=>by
  have:=hr g q;have:g=1∨g=2∨g=3∨g=4:=by omega
  simpa using this
 refine⟨by rw[ofW,u' (not_not_intro h),u' (by omega)],λw hw=>?_,λw hw=>?_,λw hw=>?_,?_,by rw[f'];omega⟩
 ·obtain⟨g,q,rfl⟩:=R'.mp hw;have:=hr g q;exact⟨this.1,by show g<7;omega⟩
 ·obtain⟨g,q,rfl⟩:=R'.mp hw;exact(xn h g).1
 ·obtain⟨g,q,rfl⟩:=R'.mp hw;exact(xn h g).2 ((g2 g).mp q)
 ·rw[at'];exact g1
theorem JY{m:aJ}(h:ba m=0):cpt (m.list.map (·.grp))=bw m:=by
 obtain⟨g1,g2⟩:=lf h;have hs:=(cR h).2.2.2.2.2
 refine zP (DF ?_) g1 λz=>?_
 ·rw[at'];exact hs.imp λ{x y} q=>by rcases jY.mp q with q|q<;>omega
 ·rw[oJ,g2,R']
def OQ(m:aJ)(t0:Int×List Int):NF:=⟨[rV 3 0,(10,.k,.sl 5 (m.list.map Mem.v) false),rI 11 ((m.list.map Mem.v).length:Int),rI 12 t0.1],[vB 1 AV.int t0.2 (λ_=>rfl)]⟩
@[reducible] def JS:Nat→Type
 | 0=>Int×List Int
 | _=>Unit
def JT(r:List Int):AV:=.sl 1 (r.map AV.int) false
def JR(m:aJ)(I0:(Int×List Int)→Prop)(m0:(Int×List Int)→Nat):Ax Tryz.prog JS ((List Int)):=
 (.callP (zO m)
(.br 80 ((ba m) != 0) (.ret ([]))
(.cmdL (.nilT 3 1) (.loop 0 (OQ m) I0 m0 (0,[]) [160] λ(t0:Int×List Int) b0 =>
(.br 17 (decide (t0.1<((m.list.map Mem.v).length:Int))) (.elI 17 Mem.v m.list t0.1 λx1 =>
(.apX 145 AV.int t0.2 [x1.grp] (t0.2.length+1)
(.bk 0 b0 (W (t0.1+1),t0.2++[x1.grp]) [145])))
(.req 33 (t0.2.length≤1000000) λh2 =>
(.callH [0] (K8 t0.2 h2) 33
(.ret (cpt t0.2)))))))))
theorem S1(m:aJ):∃I0 m0,(JR m I0 m0).vp JT (bw m):=by
 refine⟨λt=>jO m.list (λx=>[x.grp]) t.1 t.2,λt=>m.list.length-t.1.toNat,?_⟩;dsimp only[JR,JS,Ax.vp,Ax.vc];simp only[vcU,rfU,f']
 refine⟨λc=>?_,λc=>⟨jO.zero,?_⟩⟩
 ·rw[bw,u' (by simpa using c)]
 have c:ba m=0:=by simpa using c
 have hl:=(cR c).2.1;rintro⟨i,out⟩ h;simp only at h ⊢;have hlen:=h.len (b:=1) λx _=>by simp
 refine⟨λd=>⟨h.idx,d,λx hx=>⟨by omega,h.step (by omega) hx rfl⟩⟩,λd=>⟨by omega,?_⟩⟩;rw[h.done d,nZ];exact JY c
def S4(m:aJ):PC Tryz.prog:=pcO 139 [(.a [.k,(.s 5)])] [aJ.v m] (.s 1) JT (bw m) (λ_=>let ⟨I0,m0,h⟩:=S1 m;⟨_,h,by kernel_rfl⟩) rfl (by kernel_rfl)
def yW(g:Int)(f:Flt)(x:Mem):Flt:=if x.grp=g then(unF f ⟨x.mode,x.srcs⟩).1 else f
def wnF(g:Int)(f:Flt):Wnt:=⟨g,f.mode,f.srcs⟩
theorem oY{g:Int}:∀{l:List Mem} {f:Flt},(∀y∈l,y.grp≠g)→l.foldl (yW g) f=f
 | [],_,_=>rfl
 | y::l,f,h=>by
  rw[ax',yW,u' (h y (by simp))];exact oY λz hz=>h z (by simp[hz])
structure OfI (m:aJ) (i k:Nat):Prop where
  le:i≤m.list.length
  a:∀y∈m.list.take i,y.grp∈(bw m).take k
  b:∀y∈m.list.drop i,y.grp ∉ (bw m).take k
def ofO(m:aJ)(k:Nat):List Wnt:=((bw m).take k).map (yQ m)++List.replicate ((bw m).length-k) ⟨0,0,[]⟩
def RS(m:aJ)(t0:Int×Int×List Wnt):NF:=⟨[rR 1 0,rV 6 1,rI 7 t0.1,(23,.k,.sl 1 ((bw m).map AV.int) false),rI 24 (((bw m).map AV.int).length:Int),rI 25 t0.2.1],[.box (aJ.v m),vB 3 Wnt.v t0.2.2 (λ_=>rfl)]⟩
def RR(m:aJ)(t0:Int×Int×List Wnt)(x1:Int)(t1:Int×List Wnt):NF:=⟨[rR 1 0,rV 6 1,rI 7 t1.1,rI 8 t0.2.1,rI 9 x1,(23,.k,.sl 1 ((bw m).map AV.int) false),rI 24 (((bw m).map AV.int).length:Int),rI 25 t0.2.1],[.box (aJ.v m),vB 3 Wnt.v t1.2 (λ_=>rfl)]⟩
def RQ(m:aJ)(t0:Int×Int×List Wnt)(x1:Int)(t1:Int×List Wnt)(t2:Bool):NF:=⟨[rR 1 0,rV 6 1,rI 7 t1.1,rI 8 t0.2.1,rI 9 x1,(23,.k,.sl 1 ((bw m).map AV.int) false),rI 24 (((bw m).map AV.int).length:Int),rI 25 t0.2.1,rB 50 t2],[.box (aJ.v m),vB 3 Wnt.v t1.2 (λ_=>rfl)]⟩
@[reducible] def Q4:Nat→Type
 | 0=>Int×Int×List Wnt
 | 1=>Int×List Wnt
 | 2=>Bool
 | _=>Unit
def Q5(r:List Wnt×Int):AV:=.tup [.sl 3 (r.1.map Wnt.v) false,.int r.2]
def Q3(m:aJ)(I0:(Int×Int×List Wnt)→Prop)(m0:(Int×Int×List Wnt)→Nat)(I1:Int×Int×List Wnt→Int→Wnt→(Int×List Wnt)→Prop)(m1:Int×Int×List Wnt→Int→Wnt→(Int×List Wnt)→Nat)(I2:Int×Int×List Wnt→Int→Wnt→Int×List Wnt→Bool→Prop):Ax Tryz.prog Q4 (List Wnt×Int):=
 (.callP (zO m)
(.br 128 ((ba m) != 0) (.ret ([],ba m))
(.callP (S4 m)
(.br 224 (decide (32<(((bw m).map AV.int).length:Int))) (.ret ([],3))
(.say (λR=>Rf (AV.agg [.int 0,.int 0,.sl 0 [] true]) (ck (cond (decide (0≤(((bw m).map AV.int).length:Int))) (cond (decide ((((bw m).map AV.int).length:Int)≤(((bw m).map AV.int).length:Int))) (decide ((((bw m).map AV.int).length:Int)≤1048576)) false) false)
R)) (.rep 256 (λy:AV=>y) (.agg [.int 0,.int 0,.sl 0 [] true])
(.say (λR=>Qa (.a [.k,.k,(.s 1)]) Wnt.v ((((bw m).map AV.int).length:Int).toNat) (.agg [.int 0,.int 0,.sl 0 [] true]) (⟨0,0,[]⟩:Wnt) ∧
R) (.cmd (.wkV 256 (.a [.k,.k,(.s 1)]) Wnt.v (List.replicate ((((bw m).map AV.int).length:Int).toNat) (⟨0,0,[]⟩:Wnt))) (.loop 0 (RS m) I0 m0 (0,0,List.replicate ((((bw m).map AV.int).length:Int).toNat) (⟨0,0,[]⟩:Wnt)) [0,256] λ(t0:Int×Int×List Wnt) b0 =>
(.br 18 (decide (t0.2.1<(((bw m).map AV.int).length:Int))) (.elI 34 AV.int (bw m) t0.2.1 λx1 =>
(.say (ck (cond (decide (0≤t0.2.1)) (decide (t0.2.1<((t0.2.2.map Wnt.v).length:Int))) false)) (.stI 194 Wnt.v t0.2.2 (λR=>Rf (t0.2.2.map Wnt.v) (ck (decide (t0.2.1.toNat<t0.2.2.length))
(∀y2,t0.2.2[t0.2.1.toNat]?=some y2 →
((R y2))))) λy2 =>
(.say (λR=>Rf (α:=List AV) ((t0.2.2.map Wnt.v).set t0.2.1.toNat (.agg [.int x1,.int 1,.sl 0 [] true])) (Rf (Wnt.v (⟨x1,1,[]⟩:Wnt))
R)) (.cmd (.wkS 1 t0.2.1.toNat (.a [.k,.k,(.s 1)]) Wnt.v t0.2.2 (.agg [.int x1,.int 1,.sl 0 [] true]) (⟨x1,1,[]⟩:Wnt)) (.loop 1 (RR m t0 x1) (I1 t0 x1 y2) (m1 t0 x1 y2) (t0.1,t0.2.2.set t0.2.1.toNat (⟨x1,1,[]⟩:Wnt)) [0,1] λ(t1:Int×List Wnt) b1 =>
(.pass (.join 2 (RQ m t0 x1 t1) (λ(t2:Bool)=>I2 t0 x1 y2 t1 t2) (λb2=>(.br 98 (decide (t1.1<((m.list.map Mem.v).length:Int))) (.elI 146 Mem.v m.list t1.1 λx3 =>
(.bk 2 b2 ((x3.grp==x1):Bool) [0,1]))
(.bk 2 b2 ((false):Bool) [0,1]))) λ(t2:Bool) =>
(.br 2 t2 (.elJ 98 Wnt.v t1.2 t0.2.1 λx4 =>
(.elI 162 Mem.v m.list t1.1 λx5 =>
(.callP (unP_c (⟨x4.mode,x4.srcs⟩:Flt) (⟨x5.mode,x5.srcs⟩:Flt))
(.stJ 306 Wnt.v t1.2 t0.2.1 (λy6=>(⟨y6.grp,((unF (⟨x4.mode,x4.srcs⟩:Flt) (⟨x5.mode,x5.srcs⟩:Flt)).1).mode,((unF (⟨x4.mode,x4.srcs⟩:Flt) (⟨x5.mode,x5.srcs⟩:Flt)).1).srcs⟩:Wnt)) λy6 =>
(.bk 1 b1 (W (t1.1+1),t1.2.set t0.2.1.toNat (⟨y6.grp,((unF (⟨x4.mode,x4.srcs⟩:Flt) (⟨x5.mode,x5.srcs⟩:Flt)).1).mode,((unF (⟨x4.mode,x4.srcs⟩:Flt) (⟨x5.mode,x5.srcs⟩:Flt)).1).srcs⟩:Wnt)) [0,1])))))
(.bk 0 b0 (t1.1,W (t0.2.1+1),t1.2) [0,1]))))))))))
(.fz 1 Wnt.v t0.2.2 (λ_=>rfl) (.ret (t0.2.2,0)))))))))))))
theorem ofP_p(m:aJ):∃I0 m0 I1 m1 I2,(Q3 m I0 m0 I1 m1 I2).vp Q5 (ofW m):=by
 refine⟨λt=>∃i k:Nat,t.1=i∧t.2.1=k∧k≤(bw m).length∧t.2.2=ofO m k∧OfI m i k,λt=>(bw m).length-t.2.1.toNat,
  λt g _ u=>∃i:Nat,u.1=i∧i≤m.list.length∧u.2=t.2.2.set t.2.1.toNat (wnF g ((m.list.take i).foldl (yW g) ⟨1,[]⟩))∧(∀y∈m.list.take i,y.grp∈(bw m).take t.2.1.toNat∨y.grp=g)∧∀y∈m.list.drop i,y.grp ∉ (bw m).take t.2.1.toNat,
  λ_ _ _ u=>m.list.length-u.1.toNat,λ_ g _ u b=>b=match m.list[u.1.toNat]? with|some y=>y.grp==g|none=>false,?_⟩
 dsimp only[Q3,Q4,Ax.vp,Ax.vc];simp only[vcU,rfU,f']
 refine⟨λc=>?_,λc=>⟨λd=>?_,λd=>?_⟩⟩
 ·rw[ofW,if_pos (by simpa using c)]
 ·rw[ofW,u' (by simpa using c),if_pos (by omega)]
 have c:ba m=0:=by simpa using c
 obtain⟨_,hl,_,_,_,hs⟩:=cR c;obtain⟨g1,g2⟩:=lf c;have hof:ofW m=((bw m).map (yQ m),0):=by rw[ofW,u' (not_not_intro c),u' (by omega)]
 rw[hof];have hgl:(bw m).length≤32:=by omega
 refine⟨by simp;omega,?_,⟨0,0,rfl,rfl,aS' _,?_,⟨aS' _,by simp,by simp⟩⟩,?_⟩
 ·exact D3 rfl
 ·simp[ofO]
 rintro⟨_,_,out⟩ ⟨i,k,rfl,rfl,hk,ho,hI⟩;simp only at ho ⊢;simp only[Int.toNat_natCast];have hol:out.length=(bw m).length:=by rw[ho];simp[ofO];omega
 refine⟨λe=>⟨by omega,e,λg hg=>⟨kP (by omega) (by omega),by omega,λy2 hy2=>⟨⟨i,rfl,hI.le,?_,λy hy=>.inl (hI.a y hy),hI.b⟩,?_⟩⟩⟩,λe=>?_⟩
 ·have hlt:∀q∈(bw m).take k,q<g:=λq hq=>by
   obtain⟨j,hj,rfl⟩:=bK'.mp hq;have hk2:=aw hg;obtain⟨h1,h2⟩:=I'.mp hg;rw[←h2];exact ac'.mp g1 _ _ _ h1 (by omega)
  rw[oY λy hy=>by have:=hlt _ (hI.a y hy);omega];rfl
 ·rintro⟨_,u⟩ ⟨j,rfl,hj,hu,ha,hb⟩;simp only at hu ⊢;simp only[Int.toNat_natCast];have hul:u.length=(bw m).length:=by rw[hu,List.length_set];exact hol
  have hkl:k<(bw m).length:=aw hg;have hgt:(bw m)[k]?=some g:=hg;have htk:(bw m).take (k+1)=(bw m).take k++[g]:=al hgt;have hge:∀q,q∈bw m→q ∉ (bw m).take k→g≤q:=λq hq hn=>by
   obtain⟨w,hw,rfl⟩:=bl'.mp hq;obtain⟨h1,h2⟩:=I'.mp hgt;have hkw:k≤w:=af' λr=>hn (bK'.mpr ⟨w,by omega,rfl⟩)
   rcases Nat.lt_or_eq_of_le hkw with r|r
   ·have:=ac'.mp g1 _ _ h1 hw r;omega
   ·subst r;omega
  refine⟨⟨λq=>⟨by omega,q,λx hx=>by rw[hx]⟩,λq=>by rw[av' (by omega)]⟩,?_⟩;rintro bb hbb;have hw1:W ((j:Int)+1)=((j+1:Nat):Int):=cf (by omega);have hw2:W ((k:Int)+1)=((k+1:Nat):Int):=ao (n:=(bw m).length) hkl (by omega);rw[hw1,hw2]
  refine⟨λq=>?_,λq=>?_⟩
  ·cases hx:m.list[j]? with
   | none=>rw[hx]at hbb;simp only at hbb;rw[hbb]at q;cases q
   | some x =>
    rw[hx]at hbb;simp only at hbb;have hxg:x.grp=g:=by rw[hbb]at q;exact eq_of_beq q
    have hjl:=aw hx;refine⟨kP (by omega) (by omega),by omega,λx1 hx1=>⟨by omega,by omega,λx2 hx2=>⟨kP (by omega) (by omega),by omega,λo hoo=>?_⟩⟩⟩;cases hx2;rw[hx1]at hoo;cases hoo;have hx1':x1=wnF g ((m.list.take j).foldl (yW g) ⟨1,[]⟩):=by
     rw[hu,List.getElem?_set_self (by omega)]at hx1;exact(ao' hx1).symm
    refine⟨⟨j+1,rfl,by omega,?_,λy hy=>?_,λy hy=>hb y ?_⟩,by omega⟩
    ·rw[al hx,aW',ax',List.foldl_nil,hu,List.set_set]
     congr 1
     rw[yW,if_pos hxg,hx1'];rfl
    ·rw[al hx]at hy
     rcases L'.mp hy with hy|hy
     ·exact ha y hy
     ·rw[O'.mp hy];exact .inr hxg
    ·exact ak' (i:=1) (by rw[List.drop_drop];exact hy)
  ·have hno:∀y∈m.list.drop j,y.grp≠g:=by
    cases hx:m.list[j]? with
    | none =>
     intro y hy;rw[aI' (by have:=List.getElem?_eq_none_iff.mp hx;omega)]at hy;cases hy
    | some x =>
     rw[hx]at hbb;simp only at hbb;have hxg:¬x.grp=g:=by rw[hbb]at q;simpa using q
     have hjl:=aw hx;obtain⟨h1,h2⟩:=I'.mp hx;have hd:m.list.drop j=x::m.list.drop (j+1):=by rw[ar' h1,h2]
     have hxm:x∈m.list:=al' hx;have hgx:=hge x.grp ((g2 _).mpr ⟨x,hxm,rfl⟩) (hb x (by rw[hd];simp));intro y hy;rw[hd]at hy
     rcases P'.mp hy with rfl|hy
     ·exact hxg
     ·have hp:=hs.sublist (ck' j m.list);rw[hd,an']at hp;rcases jY.mp (hp.1 y hy)with r|r<;>omega
   refine⟨⟨j,k+1,rfl,rfl,hkl,?_,⟨hj,λy hy=>?_,λy hy=>?_⟩⟩,by omega⟩
   ·have hfo:(m.list.take j).foldl (yW g) ⟨1,[]⟩=nY m g:=by
     show _=m.list.foldl (yW g) ⟨1,[]⟩
     conv=>rhs;rw[←bg' j m.list]
     rw[aW',oY hno]
    rw[hu,hfo,ho];have:(bw m).length-k=((bw m).length-(k+1))+1:=by omega
    unfold ofO;rw[this,List.replicate_succ,htk,List.map_append,bo',bJ' _ _ (by simp;omega)];simp;rw[show k-min k (bw m).length=0 by omega];rfl
   ·rw[htk]
    rcases ha y hy with r|r
    ·exact L'.mpr (.inl r)
    ·exact L'.mpr (.inr (by simp[r]))
   ·rw[htk];intro r
    rcases L'.mp r with r|r
    ·exact hb y hy r
    ·exact hno y hy (O'.mp r)
 ·have:k=(bw m).length:=by omega
  rw[ho,ofO,this];simp
def Q6(m:aJ):PC Tryz.prog:=pcO 49 [(.a [.k,(.s 5)])] [aJ.v m] (.a [(.s 3),.k]) Q5 (ofW m) (λ_=>let ⟨I0,m0,I1,m1,I2,h⟩:=ofP_p m;⟨_,h,by kernel_rfl⟩) rfl (by kernel_rfl)
theorem Ct{L:List Int}:∀{n:Nat} {id:Int} {p:Nat} {rs:List Rtr},0≤id→(rs.map Rtr.id).Pairwise (·<·)→(∀r∈rs,1≤r.id∧r.id≤id∧r.cap=true) →
  ((o5 L n id p rs).1.map Rtr.id).Pairwise (·<·)∧∀r∈(o5 L n id p rs).1,1≤r.id∧r.id≤id+5 * n∧r.cap=true
 | 0,id,p,rs,h0,h1,h2=>⟨h1,λr hr=>by have:=h2 r hr;exact⟨this.1,by omega,this.2.2⟩⟩
 | n+1,id,p,rs,h0,h1,h2=>by
  have h5:=Qo (L:=L) (p:=p);rw[o5]
  obtain⟨a,b⟩:=Ct (L:=L) (n:=n) (id:=id+ay [1,1,1,2,5] (aj L p)) (p:=ab L p) (rs:=rs++[⟨id+ay [1,1,1,2,5] (aj L p),true⟩]) (by omega)
   (by
    rw[List.map_append,ag'];refine⟨h1,aH' _ _,λx hx y hy=>?_⟩;obtain⟨r,hr,rfl⟩:=R'.mp hx;have:=h2 r hr;have hy:y=id+ay [1,1,1,2,5] (aj L p):=by simpa using hy
    omega)
   (λr hr=>by
    rcases L'.mp hr with hr|hr
    ·have:=h2 r hr;exact⟨this.1,by omega,this.2.2⟩
    ·have hr:r=⟨id+ay [1,1,1,2,5] (aj L p),true⟩:=by simpa using hr
     subst hr;exact⟨by show 1≤id+_;omega,ai' _,rfl⟩)
  exact⟨a,λr hr=>by have:=b r hr;exact⟨this.1,by omega,this.2.2⟩⟩
theorem oW{L:List Int}{p:Nat}{most:Int}(h:1≤most∧most≤100):(1≤(bL L p most).1.rs.length∧(bL L p most).1.rs.length≤most)∧((bL L p most).1.rs.map Rtr.id).Pairwise (·<·) ∧
  ∀r∈(bL L p most).1.rs,1≤r.id∧r.id≤5 * most∧r.cap=true:=by
 have hn:=jq (L:=L) (p:=p) (lo:=1) (hi:=most) (by omega);have hl:(bL L p most).1.rs.length=(rng L p 1 most).toNat:=by
  show(cr L p most).1.length=_;rw[cr,pj];simp
 obtain⟨a,b⟩:=Ct (L:=L) (n:=(rng L p 1 most).toNat) (id:=0) (p:=ab L p) (rs:=[]) (by omega) List.Pairwise.nil (by simp);exact⟨by omega,a,λr hr=>by have:=b r hr;exact⟨this.1,by omega,this.2.2⟩⟩
structure TO (rs:List Rtr) (ks:List Int) (id:Int) (es:List Edg):Prop where
  nd:(es.map Edg.router).Nodup
  at_:∀e∈es,∃(j:Nat) (r:Rtr),(j:Int) ∉ ks∧rs[j]?=some r∧r.id=e.router
  asc:(es.map Edg.id).Pairwise (·<·)
  ids:∀e∈es,1≤e.id∧e.id≤id
theorem tS{L:List Int}{rs:List Rtr}(hid:(rs.map Rtr.id).Pairwise (·<·)):∀{ks:List Int} {id:Int} {es:List Edg} {p:Nat},ks.Nodup→(∀k∈ks,0≤k∧k<rs.length)→0≤id→TO rs ks id es →
  TO rs [] (id+9 * ks.length) (ra L rs ks id es p).1∧(ra L rs ks id es p).1.length≤es.length+ks.length
 | [],id,es,p,h1,h2,h0,h=>⟨⟨h.nd,h.at_,h.asc,λe he=>by have:=h.ids e he;simp;omega⟩,by simp[ra]⟩
 | k::ks,id,es,p,h1,h2,h0,h=>by
  have hk:=h2 k (by simp);have hn:=bq'.mp h1;have h9:=gf (l:=[1,1,1,2,7,9]) (a:=1) (b:=9) (by decide) (by decide) (aj L (ab L p));rw[ra]
  split
  ·obtain⟨a,b⟩:=tS hid (L:=L) (ks:=ks) (id:=id) (es:=es) (p:=ab L p) hn.2 (λx hx=>h2 x (by simp[hx])) h0 ⟨h.nd,λe he=>by
    obtain⟨j,r,q1,q2⟩:=h.at_ e he;exact⟨j,r,λq=>q1 (by simp[q]),q2⟩,h.asc,h.ids⟩
   exact⟨⟨a.nd,a.at_,a.asc,λe he=>by have:=a.ids e he;simp;omega⟩,by simp;omega⟩
  ·have hlt:k.toNat<rs.length:=by omega
   have hr:rs[k.toNat]?=some rs[k.toNat]:=E' hlt;have hg:rs.getD k.toNat ⟨0,false⟩=rs[k.toNat]:=by rw[J',hr];rfl
   rw[hg];generalize hq:id+ay [1,1,1,2,7,9] (aj L (ab L p))=id' at *
   obtain⟨a,b⟩:=tS hid (L:=L) (ks:=ks) (id:=id') (es:=es++[⟨rs[k.toNat].id,id'⟩]) (p:=ab L (ab L p)) hn.2 (λx hx=>h2 x (by simp[hx])) (by omega) (by
    refine⟨?_,λe he=>?_,?_,λe he=>?_⟩
    ·rw[List.map_append,List.nodup_append];refine⟨h.nd,by simp,λx hx y hy=>?_⟩;obtain⟨e,he,rfl⟩:=R'.mp hx;obtain⟨j,r,q1,q2,q3⟩:=h.at_ e he;have hy:y=rs[k.toNat].id:=by simpa using hy
     rintro rfl;have hj:=aw q2;rw[E' hj]at q2;have q2:=ao' q2;have hne:j≠k.toNat:=λe'=>q1 (by subst e';rw[show((k.toNat:Nat):Int)=k by omega];simp);rw[ac']at hid;have e1:(rs.map Rtr.id)[j]'(by simpa using hj)=(rs.map Rtr.id)[k.toNat]'(by simpa using hlt):=by
      rw[cp',cp',q2,q3];exact hy
     rcases Nat.lt_or_gt_of_ne hne with c|c
     ·have:=hid j k.toNat (by simpa using hj) (by simpa using hlt) c;omega
     ·have:=hid k.toNat j (by simpa using hlt) (by simpa using hj) c;omega
    ·rcases L'.mp he with he|he
     ·obtain⟨j,r,q1,q2⟩:=h.at_ e he;exact⟨j,r,λq=>q1 (by simp[q]),q2⟩
     ·have he:e=⟨rs[k.toNat].id,id'⟩:=by simpa using he
      subst he;exact⟨k.toNat,_,by rw[show((k.toNat:Nat):Int)=k by omega];exact hn.1,hr,rfl⟩
    ·rw[List.map_append,ag'];refine⟨h.asc,aH' _ _,λx hx y hy=>?_⟩;obtain⟨e,he,rfl⟩:=R'.mp hx;have:=h.ids e he;have hy:y=id':=by simpa using hy
     omega
    ·rcases L'.mp he with he|he
     ·have:=h.ids e he;omega
     ·have he:e=⟨rs[k.toNat].id,id'⟩:=by simpa using he
      subst he;exact⟨by show 1≤id';omega,ai' _⟩)
   refine⟨⟨a.nd,a.at_,a.asc,λe he=>by have:=a.ids e he;simp;omega⟩,?_⟩;simp at b ⊢;omega
structure QQ (t:Tpl) (p:Pln):Prop where
  nd:(p.es.map Edg.router).Nodup
  at_:∀e∈p.es,∃r∈t.rs,r.id=e.router
  asc:(p.es.map Edg.id).Pairwise (·<·)
  ids:∀e∈p.es,1≤e.id∧e.id≤9 * t.rs.length
  sub:0≤p.sub∧p.sub≤2
  len:p.len=8∨p.len=16∨p.len=32∨p.len=64∨p.len=0∧p.es=[]
  es:p.es.length≤t.rs.length
theorem NU{L:List Int}{p:Nat}{t:Tpl}(hid:(t.rs.map Rtr.id).Pairwise (·<·)):QQ t (lX L p t).1:=by
 obtain⟨o1,o2⟩:=p9 (L:=L) (n:=(t.rs.length:Int)) (p:=ab L p) (by omega);have hl:(gi L (t.rs.length:Int) (ab L p)).1.length=t.rs.length:=by rw[vX];simp
 obtain⟨a,b⟩:=tS hid (L:=L) (ks:=(gi L (t.rs.length:Int) (ab L p)).1) (id:=0) (es:=[]) (p:=(gi L (t.rs.length:Int) (ab L p)).2) o1 o2 (by omega) ⟨by simp,by simp,by simp,by simp⟩;rw[hl]at a b;have h3:=bt (x:=aj L p) (show 1≤(3:Int) by omega);have h5:ay [8,8,16,32,64] (aj L (kr L p t).2)∈([8,8,16,32,64]:List Int):=ig (by decide) _;have h5:ay [8,8,16,32,64] (aj L (kr L p t).2)=8∨ay [8,8,16,32,64] (aj L (kr L p t).2)=16∨ay [8,8,16,32,64] (aj L (kr L p t).2)=32∨ay [8,8,16,32,64] (aj L (kr L p t).2)=64:=by
  simp only[P',aq',or_false]at h5;omega
 have hes:(lX L p t).1.es=(kr L p t).1:=by unfold lX;split<;>rfl
 have hsub:(lX L p t).1.sub=Mod (aj L p) 3:=by unfold lX;split<;>rfl
 have a:TO t.rs [] (0+9 * t.rs.length) (kr L p t).1:=a
 refine⟨hes ▸ a.nd,λe he=>?_,hes ▸ a.asc,λe he=>?_,by omega,?_,by rw[hes];have b:(kr L p t).1.length≤0+t.rs.length:=b;omega⟩
 ·rw[hes]at he;obtain⟨j,r,_,q2,q3⟩:=a.at_ e he;exact⟨r,aq q2,q3⟩
 ·rw[hes]at he;have:=a.ids e he;omega
 ·unfold lX
  split
  ·show _=_∨_;rcases h5 with h|h|h|h<;>simp[h]
  ·rename_i c;right;right;right;right;exact⟨rfl,aG' (show(kr L p t).1.length=0 by omega)⟩
structure Sit where
  router:Int
  now:Int
  list:List Mem
  deriving DecidableEq
structure Scn where
  rs:List Rtr
  ls:List Lnk
  sub:Int
  len:Int
  es:List Edg
  sites:List Sit
  sp:List Spk
  lsn:List Lsn
  fl:List Sig
def Sit.v(x:Sit):AV:=.agg [.int x.router,.int x.now,.sl 5 (x.list.map Mem.v) false]
def Scn.v(x:Scn):AV:=.agg [.sl 2 (x.rs.map Rtr.v) false,.sl 5 (x.ls.map Lnk.v) false,.int x.sub,.int x.len,.sl 2 (x.es.map Edg.v) false,.sl 3 (x.sites.map Sit.v) false,.sl 5 (x.sp.map Spk.v) false,.sl 3 (x.lsn.map Lsn.v) false,.sl 10 (x.fl.map Sig.v) false]
def H6(es:List Edg):List Int:=es.foldl (λout e=>put out e.router) []
def shM(d h:Int)(x:Mem):Mem:=⟨h+x.host,x.grp,x.mode,x.srcs,x.til+d⟩
def lM(L:List Int)(now:Int):List Int→List Sit→Nat→List Sit×Nat
 | [],out,p=>(out,p)
 | r::rs,out,p=>lM L now rs (out++[⟨r,now,(bC L 4 p).1.list.map (shM (now-(bC L 4 p).1.now) (10 * out.length))⟩]) (bC L 4 p).2
def jJ(L:List Int)(b:Bool):Nat→Ovl×Nat→Ovl×Nat
 | 0,s=>s
 | n+1,s=>jJ L b n (if b=true then gE L s.2 s.1 else s)
def kG(L:List Int)(x:Sit)(s:Ovl×Nat):Ovl×Nat:=
 if(ofW ⟨x.now,x.list⟩).2=0 then(if 0<Mod (aj L s.2) 6 then(orO s.1 (aS s.1 x.router (ofW ⟨x.now,x.list⟩).1),ab L s.2)else(s.1,ab L s.2))else s
def kF(L:List Int):List Sit→Ovl×Nat→Ovl×Nat
 | [],s=>s
 | x::xs,s=>kF L xs (kG L x s)
def pm(L:List Int):Nat→Ovl×Nat→Ovl×Nat
 | 0,s=>s
 | n+1,s=>pm L n ((roundO s.1 (bR L s.1.fl.length s.2).1).1,(bR L s.1.fl.length s.2).2)
def kM(L:List Int)(p:Nat)(most:Int):Pln×Nat:=lX L (bL L p most).2 (bL L p most).1
def cW(L:List Int)(p:Nat)(most:Int):List Int:=H6 (kM L p most).1.es
def o3(L:List Int)(p:Nat)(most:Int):Int:=ay [0,100] (aj L (kM L p most).2)
def eu(L:List Int)(p:Nat)(most:Int):List Sit×Nat:=lM L (o3 L p most) (cW L p most) [] (ab L (kM L p most).2)
def tF(L:List Int)(p:Nat)(most:Int):Ovl×Nat:=
 jJ L (decide (0<(cW L p most).length)) (Mod (aj L (eu L p most).2) 4).toNat ((ez (cW L p most)).1,ab L (eu L p most).2)
def mT(L:List Int)(p:Nat)(most:Int):Ovl×Nat:=kF L (eu L p most).1 (tF L p most)
def zj(L:List Int)(p:Nat)(most:Int):Ovl×Nat:=pm L (Mod (aj L (mT L p most).2) 4).toNat ((mT L p most).1,ab L (mT L p most).2)
def kl(L:List Int)(p:Nat)(most:Int):Scn×Nat:=
 (⟨(bL L p most).1.rs,(bL L p most).1.ls,(kM L p most).1.sub,(kM L p most).1.len,(kM L p most).1.es,(eu L p most).1,(zj L p most).1.sp,(zj L p most).1.ls,(zj L p most).1.fl⟩,(zj L p most).2)
theorem Ny(es:List Edg):(H6 es).Pairwise (·<·)∧(∀r,r∈H6 es↔∃e∈es,e.router=r)∧(H6 es).length≤es.length:=by
 have key:∀(l:List Edg) (s:List Int),jg s→jg (l.foldl (λout e=>put out e.router) s)∧(∀g,g∈l.foldl (λout e=>put out e.router) s↔g∈s∨∃x∈l,x.router=g)∧(l.foldl (λout e=>put out e.router) s).length≤s.length+l.length:=by
  intro l
  induction l with
  | nil=>intro s hs;exact⟨hs,λg=>by simp,by simp⟩
  | cons x l ih =>
   intro s hs;obtain⟨a,b,c⟩:=ih (put s x.router) (tP hs);have:=gb s x.router;refine⟨a,λg=>?_,by simp only[ax',Z'];omega⟩;rw[ax',b];have hp:g∈put s x.router↔g∈s∨g=x.router:=by
    refine⟨tO,λq=>?_⟩;unfold put
    split
    ·rename_i e
     rcases q with q|q
     ·exact q
     ·exact q ▸ aq e
    ·exact nj.mpr q.symm
   rw[hp]
   constructor
   ·rintro((q|q)|⟨y,q1,q2⟩)
    ·exact .inl q
    ·exact .inr ⟨x,by simp,q.symm⟩
    ·exact .inr ⟨y,by simp[q1],q2⟩
   ·rintro(q|⟨y,q1,q2⟩)
    ·exact .inl (.inl q)
    ·rcases P'.mp q1 with rfl|q1
     ·exact .inl (.inr q2.symm)
     ·exact .inr ⟨y,q1,q2⟩
 obtain⟨a,b,c⟩:=key es [] (l8.mpr List.Pairwise.nil);exact⟨l8.mp a,λg=>by rw[H6,b];simp,aF' c (by simp)⟩
structure iB (now:Int) (x:Sit):Prop where
  now_:x.now=now
  err:ba ⟨x.now,x.list⟩=0
  grp:∀y∈x.list,1≤y.grp∧y.grp≤4
theorem R2{m:aJ}{now d h:Int}(h1:∀x∈m.list,yF m.now x)(h2:m.list.Pairwise ct)(h3:m.list.length≤64)(hd:d=now-m.now)(hn:0≤now∧now≤1000000)(hh:0≤h∧h≤90) :
  ba ⟨now,m.list.map (shM d h)⟩=0∧∀y∈m.list.map (shM d h),1≤y.grp∧y.grp≤4:=by
 refine⟨si hn (by simpa using h3) (λx hx=>?_) (λx hx=>?_) (λx hx=>?_) ?_,λx hx=>?_⟩
 ·obtain⟨y,hy,rfl⟩:=R'.mp hx;have:=h1 y hy;have h4:=this.host;have h5:=this.grp;have h6:=this.til
  refine⟨⟨?_,?_⟩,⟨?_,?_⟩,?_,?_⟩<;>simp only[shM]<;>omega
 ·obtain⟨y,hy,rfl⟩:=R'.mp hx;exact(h1 y hy).flt
 ·obtain⟨y,hy,rfl⟩:=R'.mp hx;exact(h1 y hy).no
 ·rw[at'];refine h2.imp λ{a b} q=>?_;have q:lv a b.grp b.host=true:=q;show lv (shM d h a) (shM d h b).grp (shM d h b).host=true;simp only[lv,shM,bU',aJ',decide_eq_true_eq,bY']at q ⊢
  rcases q with q|⟨q1,q2⟩
  ·exact .inl (decide_eq_true q)
  ·exact .inr ⟨q1,decide_eq_true (show h+a.host<h+b.host by omega)⟩
 ·obtain⟨y,hy,rfl⟩:=R'.mp hx;exact(h1 y hy).grp
theorem vC{L:List Int}{now:Int}(hn:0≤now∧now≤1000000):∀{rs:List Int} {out:List Sit} {p:Nat},out.length+rs.length≤10→(∀x∈out,iB now x) →
  (∀x∈(lM L now rs out p).1,iB now x)∧(lM L now rs out p).1.map Sit.router=out.map Sit.router++rs
 | [],out,p,hl,h=>⟨h,by simp[lM]⟩
 | r::rs,out,p,hl,h=>by
  obtain⟨m1,m2,m3,m4⟩:=wm L (n:=4) p (by omega);simp only[Z']at hl;obtain⟨s1,s2⟩:=R2 (now:=now) (d:=now-(bC L 4 p).1.now) (h:=10 * (out.length:Int)) m2 m3 (by omega) rfl hn (by omega);rw[lM];obtain⟨a,b⟩:=vC hn (L:=L) (rs:=rs) (out:=out++[⟨r,now,(bC L 4 p).1.list.map (shM (now-(bC L 4 p).1.now) (10 * out.length))⟩]) (p:=(bC L 4 p).2) (by simp;omega) (λx hx=>by
   rcases L'.mp hx with hx|hx
   ·exact h x hx
   ·have hx:x=⟨r,now,(bC L 4 p).1.list.map (shM (now-(bC L 4 p).1.now) (10 * out.length))⟩:=by simpa using hx
    subst hx;exact⟨rfl,s1,s2⟩)
  exact⟨a,by rw[b];simp⟩
section
variable {L : List Int} {p : Nat} {most : Int}
theorem Ci(h:1≤most∧most≤8):QQ (bL L p most).1 (kM L p most).1:=NU (oW (by omega)).2.1
theorem jU(h:1≤most∧most≤8):okR (cW L p most)∧(cW L p most).length≤8:=by
 obtain⟨t1,t2,t3⟩:=oW (L:=L) (p:=p) (most:=most) (by omega);have hp:=Ci (L:=L) (p:=p) h;obtain⟨r1,r2,r3⟩:=Ny (kM L p most).1.es;have:=hp.es;have hl:(cW L p most).length≤8:=by unfold cW;omega
 refine⟨⟨by omega,λr hr=>?_,r1⟩,hl⟩;obtain⟨e,he,rfl⟩:=(r2 r).mp hr;obtain⟨z,hz,q⟩:=hp.at_ e he;have:=t3 z hz;omega
theorem Cj:0≤o3 L p most∧o3 L p most≤1000000:=by
 have:=gf (l:=[0,100]) (a:=0) (b:=100) (by decide) (by decide) (aj L (kM L p most).2);unfold o3;omega
theorem oA(h:1≤most∧most≤8):(∀x∈(eu L p most).1,iB (o3 L p most) x)∧(eu L p most).1.map Sit.router=cW L p most:=by
 have:=(jU (L:=L) (p:=p) h).2;obtain⟨a,b⟩:=vC (L:=L) (Cj (L:=L) (p:=p) (most:=most)) (rs:=cW L p most) (out:=[]) (p:=ab L (kM L p most).2) (by simp;omega) (by simp);exact⟨a,by rw[eu,b];rfl⟩
theorem pf(h:1≤most∧most≤8):(eu L p most).1.length≤8:=by
 have:=congrArg List.length (oA (L:=L) (p:=p) h).2;rw[f']at this;have:=(jU (L:=L) (p:=p) h).2;omega
end
structure NI (R:List Int) (o:Ovl):Prop where
  net:bI R o.sp o.ls
  fl:∀x∈o.fl,cV R x
section
variable {R : List Int} {o : Ovl} {L : List Int}
theorem NI.ok(h:NI R o):bE o:=by
 have e:aD o.sp=R:=h.net.spr;exact⟨by rw[e];exact h.net,by rw[e];exact h.fl⟩
theorem NI.chg(h:NI R o){r:Int}{w:List Wnt}(hc:(aS o r w).2=0):NI R (aS o r w).1∧(aS o r w).1.fl=o.fl:=by
 have e0:aD o.sp=R:=h.net.spr;unfold aS at hc ⊢;rw[u' (not_not_intro h.ok)]at hc ⊢
 by_cases h1:r ∉ aD o.sp
 ·rw[if_pos h1]at hc;simp at hc
 rw[u' h1]at hc ⊢
 by_cases h2:aI false w≠0
 ·rw[if_pos h2]at hc;exact absurd hc h2
 rw[u' h2]at hc ⊢
 by_cases h3:(ah (av (atS o.sp r).items) w).2≠0
 ·rw[if_pos h3]at hc;exact absurd hc h3
 rw[u' h3]at hc ⊢
 by_cases h4:(change (atS o.sp r) (ah (av (atS o.sp r).items) w).1).2≠0
 ·rw[if_pos h4]at hc;exact absurd hc h4
 rw[u' h4];have hr:r∈R:=by rw[←e0];exact X'.mp h1
 have h4:=X'.mp h4;obtain⟨q1,q2⟩:=h.net.s hr;obtain⟨k1,k2⟩:=h.net.spo _ q1;obtain⟨_,f2,f3,f4⟩:=iR h4;have hok:=iS h4;generalize hz:(change (atS o.sp r) (ah (av (atS o.sp r).items) w).1).1=z at *
 have hz1:z.router=(atS o.sp r).router∧z.peers=(atS o.sp r).peers:=by rw[←hz,f4];exact⟨rfl,rfl⟩
 have s:=h.net.setS hr (z:=z) (by rw[hz1.1];exact q2) ⟨hok,by rw[hz1.1,hz1.2];exact k2⟩;exact⟨⟨s.net,h.fl⟩,rfl⟩
theorem NI.rst(h:NI R o){r:Int}{w:List Wnt}(hc:(aB o r w).2=0):NI R (aB o r w).1∧(aB o r w).1.fl=o.fl:=by
 have e0:aD o.sp=R:=h.net.spr;unfold aB at hc ⊢;rw[u' (not_not_intro h.ok)]at hc ⊢
 by_cases h1:r ∉ aD o.sp
 ·rw[if_pos h1]at hc;simp at hc
 rw[u' h1]at hc ⊢
 by_cases h3:(restart (atS o.sp r) w).2≠0
 ·rw[if_pos h3]at hc;exact absurd hc h3
 rw[u' h3]at hc ⊢
 by_cases h4:(atL o.sp o.ls r).epoch=1000000
 ·rw[if_pos h4]at hc;simp at hc
 rw[u' h4];have hr:r∈R:=by rw[←e0];exact X'.mp h1
 have h3:=X'.mp h3;obtain⟨q1,q2⟩:=h.net.s hr;obtain⟨k1,k2⟩:=h.net.spo _ q1;obtain⟨m1,m2⟩:=h.net.l hr;obtain⟨n1,n2⟩:=h.net.lso _ m1;obtain⟨_,f2,f3,f4⟩:=jr h3;have hok:=kC h3;generalize hz:(restart (atS o.sp r) w).1=z at *
 have hz1:z=⟨r,(atS o.sp r).epoch+1,w.length,w.mapIdx eH,(atS o.sp r).peers.map λp=>⟨p.router,0,0⟩⟩:=by
  rw[←hz,f4,q2]
 have s:=h.net.setS hr (z:=z) (by rw[hz1]) ⟨hok,by rw[hz1];rw[q2]at k2;exact(aV' ..).trans k2⟩;have t:=s.net.setL hr (z:=⟨r,(atL o.sp o.ls r).epoch+1,[]⟩) rfl ⟨⟨by have:=n1.1;rw[m2]at this;exact this,⟨by have:=n1.2.1;simp only;omega,by have:=n1.2.1;simp only;omega⟩,by simp,by simp,by simp⟩,by simp⟩;rw[s.pos r]at t;exact⟨⟨t.1,h.fl⟩,rfl⟩
theorem NI.round(h:NI R o)(f:List Fau):(roundO o f).2=0∧NI R (roundO o f).1∧(roundO o f).1.fl.length≤o.fl.length+f.length+14400:=by
 unfold roundO;rw[u' (not_not_intro h.ok)];obtain⟨h1,h2⟩:=uP (P:=λx=>x∈o.fl) (l:=o.fl) (f:=f) λx hx=>hx;have r:=rL h.net (λx hx=>h.fl x (h1 x hx)) (λx hx=>h.fl x (h2 x hx));refine⟨rfl,⟨r.net,r.fl⟩,?_⟩;have hs:=rE r.net;have hd:=fO (l:=(arr o.fl f).1) (s:=((o.sp,o.ls),(arr o.fl f).2));have ha:=uQ (l:=o.fl) (f:=f);unfold eY at hs ⊢;simp only[Y']at *
 omega
theorem NI.or{x:Ovl×Int}{B:Nat}(h:NI R o)(hb:o.fl.length≤B)(hx:x.2=0→NI R x.1∧x.1.fl.length≤B):NI R (orO o x)∧(orO o x).fl.length≤B:=by
 unfold orO
 by_cases e:x.2≠0
 ·rw[if_pos e];exact⟨h,hb⟩
 ·rw[u' e];exact hx (X'.mp e)
theorem NI.act(h:NI R o){p:Nat}:NI R (gE L p o).1∧(gE L p o).1.fl.length≤o.fl.length+14440:=by
 unfold gE
 split
 ·exact h.or (by omega) λq=>⟨(h.chg q).1,by rw[(h.chg q).2];omega⟩
 split
 ·exact h.or (by omega) λq=>⟨(h.rst q).1,by rw[(h.rst q).2];omega⟩
 split
 ·exact h.or (by omega) λq=>by
   have k:=(h.round (dU L (min o.fl.length 40) (ab L (ab L p))).1).2;have:=kX (L:=L) (n:=min o.fl.length 40) (p:=ab L (ab L p));exact⟨k.1,by have:=k.2;omega⟩
 ·exact h.or (by omega) λq=>by
   have k:=(h.round (bR L o.fl.length (ab L (ab L p))).1).2;have:=eE (L:=L) (n:=o.fl.length) (p:=ab L (ab L p));exact⟨k.1,by have:=k.2;omega⟩
theorem NI.new{l:List Int}(h:okR l):NI l (eB l):=⟨ij h,by simp[eB]⟩
end
def NIB(R:List Int)(o:Ovl)(B:Nat):Prop:=NI R o∧o.fl.length≤B
theorem NIB.more{R:List Int}{o:Ovl}{B B':Nat}(h:NIB R o B)(hB:B≤B'):NIB R o B':=⟨h.1,aF' h.2 hB⟩
theorem NIB.or{R:List Int}{o:Ovl}{B:Nat}{x:Ovl×Int}(h:NIB R o B)(hx:x.2=0→NIB R x.1 B):NIB R (orO o x) B:=by
 unfold orO
 by_cases e:x.2≠0
 ·rw[if_pos e];exact h
 ·rw[u' e];exact hx (X'.mp e)
theorem NIB.round{R:List Int}{o:Ovl}{B:Nat}(h:NIB R o B)(f:List Fau):(roundO o f).2=0∧NIB R (roundO o f).1 (B+f.length+14400):=by
 obtain⟨a,b,c⟩:=h.1.round f;have:=h.2;exact⟨a,b,by omega⟩
theorem NIB.act{R:List Int}{o:Ovl}{B:Nat}{L:List Int}{p:Nat}(h:NIB R o B):NIB R (gE L p o).1 (B+14440):=by
 obtain⟨a,b⟩:=h.1.act (L:=L) (p:=p);have:=h.2;exact⟨a,by omega⟩
theorem yD{R:List Int}{L:List Int}{b:Bool}:∀{n:Nat} {s:Ovl×Nat} {B:Nat},NIB R s.1 B→NIB R (jJ L b n s).1 (B+14440 * n)
 | 0,s,B,h=>h.more (by omega)
 | n+1,s,B,h=>by
  rw[jJ];have:NIB R (if b=true then gE L s.2 s.1 else s).1 (B+14440):=by
   split
   ·exact h.act
   ·exact h.more (by omega)
  exact(yD (n:=n) this).more (by omega)
theorem xZ{R:List Int}{L:List Int}{x:Sit}{s:Ovl×Nat}{B:Nat}(h:NIB R s.1 B):NIB R (kG L x s).1 B:=by
 unfold kG
 split
 ·split
  ·exact h.or λq=>by
    obtain⟨a,b⟩:=h.1.chg q;exact⟨a,by rw[b];exact h.2⟩
  ·exact h
 ·exact h
theorem xX{R:List Int}{L:List Int}:∀{l:List Sit} {s:Ovl×Nat} {B:Nat},NIB R s.1 B→NIB R (kF L l s).1 B
 | [],s,B,h=>h
 | x::l,s,B,h=>by
  rw[kF];exact xX (xZ h)
section
variable {L : List Int} {p : Nat} {most : Int}
theorem Se(x:Int):(Mod x 4).toNat≤3:=by
 obtain⟨h1,h2⟩:=bt (x:=x) (n:=4) (by decide);generalize Mod x 4=y at *
 omega
theorem Ck(h:1≤most∧most≤8):NIB (cW L p most) (ez (cW L p most)).1 0:=by
 have hr:=(jU (L:=L) (p:=p) h).1;rw[ez,if_pos hr];exact⟨NI.new hr,by simp[eB]⟩
theorem Nt(h:1≤most∧most≤8):NIB (cW L p most) (tF L p most).1 43320:=by
 have z:=Ck (L:=L) (p:=p) h;have h4:=Se (aj L (eu L p most).2);unfold tF;generalize (ez (cW L p most)).1=o0 at z ⊢;generalize (Mod (aj L (eu L p most).2) 4).toNat=n at h4 ⊢;exact(yD (L:=L) (b:=decide (0<(cW L p most).length)) (n:=n) (s:=(o0,ab L (eu L p most).2)) z).more (by omega)
theorem Nr(h:1≤most∧most≤8):NIB (cW L p most) (mT L p most).1 43320:=by
 have z:=Nt (L:=L) (p:=p) h;unfold mT;generalize tF L p most=A at z ⊢;exact xX (L:=L) z
end
theorem mN{s:Spk}:cI s=0↔aW s:=by
 have hv:cI s=if aW s then 0 else 1:=rfl
 rw[hv];by_cases h:aW s<;>simp[h]
theorem tg{s:Lsn}:gB s=0↔bY s:=by
 have hv:gB s=if bY s then 0 else 1:=rfl
 rw[hv];by_cases h:bY s<;>simp[h]
theorem vV{o:Ovl}(ok:okL [o.v]):o.sp.length≤9223372036854775807∧o.ls.length≤9223372036854775807∧o.fl.length≤9223372036854775807:=by
 have h:=ok;simp only[Ovl.v,Ex,EL,E1,AV.ok,okL,f',dc]at h;omega
theorem jj{α:Type}{P:α→Prop}{l:List α}{k:Nat}{x:α}(hx:l[k]?=some x)(h:∀y∈l.take k,P y)(hp:P x):∀y∈l.take (k+1),P y:=(bH hx).mpr ⟨h,hp⟩
def vx(o:Ovl):=okL [Ovl.v o]
def Es(o:Ovl)(t0:Bool):NF:=⟨[rR 1 0,rB 23 t0],[.box (Ovl.v o)]⟩
def Er(o:Ovl)(t1:Int):NF:=⟨[rR 1 0,(3,.k,.sl 1 ((aD o.sp).map AV.int) false),(27,.k,.sl 5 (o.sp.map Spk.v) false),rI 28 ((o.sp.map Spk.v).length:Int),rI 29 t1],[.box (Ovl.v o)]⟩
def Ep(o:Ovl)(t1:Int)(x2:Spk)(t2:Bool):NF:=⟨[rR 1 0,(3,.k,.sl 1 ((aD o.sp).map AV.int) false),rI 4 t1,rR 5 1,(27,.k,.sl 5 (o.sp.map Spk.v) false),rI 28 ((o.sp.map Spk.v).length:Int),rI 29 t1,rB 50 t2],[.box (Ovl.v o),.box (Spk.v x2)]⟩
def Eo(o:Ovl)(t1:Int)(x5:Lsn)(t3:Bool):NF:=⟨[rR 1 0,(3,.k,.sl 1 ((aD o.sp).map AV.int) false),rR 6 1,(27,.k,.sl 5 (o.sp.map Spk.v) false),rI 28 ((o.sp.map Spk.v).length:Int),rI 29 t1,rB 73 t3],[.box (Ovl.v o),.box (Lsn.v x5)]⟩
def En(o:Ovl)(t1:Int)(x5:Lsn)(t4:Int):NF:=⟨[rR 1 0,(3,.k,.sl 1 ((aD o.sp).map AV.int) false),(27,.k,.sl 5 (o.sp.map Spk.v) false),rI 28 ((o.sp.map Spk.v).length:Int),rI 29 t1,(75,.k,.sl 4 (x5.heard.map Hrd.v) false),rI 76 ((x5.heard.map Hrd.v).length:Int),rI 77 t4],[.box (Ovl.v o)]⟩
def Em(o:Ovl)(t5:Int):NF:=⟨[(3,.k,.sl 1 ((aD o.sp).map AV.int) false),(89,.k,.sl 10 (o.fl.map Sig.v) false),rI 90 ((o.fl.map Sig.v).length:Int),rI 91 t5],[]⟩
def El(o:Ovl)(t5:Int)(t6:Bool):NF:=⟨[(3,.k,.sl 1 ((aD o.sp).map AV.int) false),(89,.k,.sl 10 (o.fl.map Sig.v) false),rI 90 ((o.fl.map Sig.v).length:Int),rI 91 t5,rB 111 t6],[]⟩
@[reducible] def vt:Nat→Type
 | 0=>Bool
 | 1=>Int
 | 2=>Bool
 | 3=>Bool
 | 4=>Int
 | 5=>Int
 | 6=>Bool
 | _=>Unit
def vu(r:Bool):AV:=.bool r
def vr(o:Ovl)(I0:Bool→Prop)(I1:Bool→Int→Prop)(m1:Bool→Int→Nat)(I2:Bool→Int→Spk→Bool→Prop)(I3:Bool→Int→Spk→Bool→Lsn→Bool→Prop)(I4:Bool→Int→Spk→Bool→Lsn→Bool→Int→Prop)(m4:Bool→Int→Spk→Bool→Lsn→Bool→Int→Nat)(I5:Bool→Int→Int→Prop)(m5:Bool→Int→Int→Nat)(I6:Bool→Int→Int→Sig→Bool→Prop):Ax Tryz.prog vt (Bool):=
 (.pass (.pass (.join 0 (Es o) (λ(t0:Bool)=>I0 t0) (λb0=>(.br 112 (decide (12<((o.sp.map Spk.v).length:Int))) (.bk 0 b0 ((true):Bool) [0])
(.bk 0 b0 ((((o.ls.map Lsn.v).length:Int) != ((o.sp.map Spk.v).length:Int)):Bool) [0]))) λ(t0:Bool) =>
(.br 1 t0 (.ret (false))
(.req 17 (o.sp.length≤1000000) λh1 =>
(.callP (N0 o h1)
(.loop 1 (Er o) (I1 t0) (m1 t0) ((0):Int) [0] λ(t1:Int) b1 =>
(.br 17 (decide (t1<((o.sp.map Spk.v).length:Int))) (.elI 33 Spk.v o.sp t1 λx2 =>
(.pass (.join 2 (Ep o t1 x2) (λ(t2:Bool)=>I2 t0 t1 x2 t2) (λb2=>(.callP (yT x2)
(.br 177 ((cI x2) != 0) (.bk 2 b2 ((true):Bool) [0,65])
(.br 225 (decide (0<t1)) (.elI 273 AV.int (aD o.sp) (W (t1-1)) λx3 =>
(.bk 2 b2 ((decide (x2.router≤x3)):Bool) [0,65]))
(.bk 2 b2 ((false):Bool) [0,65]))))) λ(t2:Bool) =>
(.br 2 t2 (.ret (false))
(.req 82 ((aD o.sp).length≤1000000) λh4 =>
(.callP (EC (aD o.sp) x2.router h4)
(.callP (SM x2.peers (cT (aD o.sp) x2.router))
(.br 130 (!(decide (x2.peers.map Per.router=(cT (aD o.sp) x2.router)))) (.ret (false))
(.elI 178 Lsn.v o.ls t1 λx5 =>
(.pass (.join 3 (Eo o t1 x5) (λ(t3:Bool)=>I3 t0 t1 x2 t2 x5 t3) (λb3=>(.callP (GH x5)
(.br 306 ((gB x5) != 0) (.bk 3 b3 ((true):Bool) [0,210])
(.bk 3 b3 ((x5.router != x2.router):Bool) [0,210])))) λ(t3:Bool) =>
(.br 2 t3 (.ret (false))
(.loop 4 (En o t1 x5) (I4 t0 t1 x2 t2 x5 t3) (m4 t0 t1 x2 t2 x5 t3) ((0):Int) [0] λ(t4:Int) b4 =>
(.br 17 (decide (t4<((x5.heard.map Hrd.v).length:Int))) (.elI 17 Hrd.v x5.heard t4 λx6 =>
(.callP (oK (aD o.sp) x6.router)
(.br 161 (!(decide (x6.router∈(aD o.sp)))) (.ret (false))
(.bk 4 b4 ((W (t4+1)):Int) [0]))))
(.bk 1 b1 ((W (t1+1)):Int) [0])))))))))))))))
(.loop 5 (Em o) (I5 t0 t1) (m5 t0 t1) ((0):Int) [] λ(t5:Int) b5 =>
(.br 16 (decide (t5<((o.fl.map Sig.v).length:Int))) (.elI 16 Sig.v o.fl t5 λx7 =>
(.join 6 (El o t5) (λ(t6:Bool)=>I6 t0 t1 t5 x7 t6) (λb6=>(.callP (R1 x7)
(.br 144 ((aG x7) != 0) (.bk 6 b6 ((true):Bool) [])
(.callP (oK (aD o.sp) x7.src)
(.br 256 (!(decide (x7.src∈(aD o.sp)))) (.bk 6 b6 ((true):Bool) [])
(.callP (oK (aD o.sp) x7.dst)
(.bk 6 b6 ((!(decide (x7.dst∈(aD o.sp)))):Bool) []))))))) λ(t6:Bool) =>
(.br 0 t6 (.ret (false))
(.bk 5 b5 ((W (t5+1)):Int) []))))
(.ret (true))))))))))))
theorem Gm(o:Ovl)(ok:vx o):∃I0 I1 m1 I2 I3 I4 m4 I5 m5 I6,(vr o I0 I1 m1 I2 I3 I4 m4 I5 m5 I6).vp vu (decide (bE o)):=by
 unfold vx at ok;obtain⟨l1,l2,l3⟩:=vV ok
 refine⟨λt=>t=false↔(o.sp.length≤12∧o.ls.length=o.sp.length),
  λ_ t=>∃k:Nat,t=k∧k≤o.sp.length∧∀i s l,i<k→o.sp[i]?=some s→o.ls[i]?=some l→AtK (aD o.sp) i s l,λ_ t=>o.sp.length-t.toNat,
  λ_ t1 x t=>t=false↔(aW x∧(0<t1.toNat→∀y,(aD o.sp)[t1.toNat-1]?=some y→y<x.router)),
  λ_ _ x _ y t=>t=false↔(bY y∧y.router=x.router),
  λ_ _ _ _ y _ t=>∃k:Nat,t=k∧k≤y.heard.length∧∀h∈y.heard.take k,h.router∈aD o.sp,λ_ _ _ _ y _ t=>y.heard.length-t.toNat,
  λ_ _ t=>∃k:Nat,t=k∧k≤o.fl.length∧∀x∈o.fl.take k,cV (aD o.sp) x,λ_ _ t=>o.fl.length-t.toNat,
  λ_ _ _ x t=>t=false↔cV (aD o.sp) x,?_⟩
 dsimp only[vr,vt,Ax.vp,Ax.vc];simp only[vcU,rfU,f']
 refine⟨⟨λh1=>by simp;omega,λh1=>?_⟩,?_⟩
 ·simp;omega
 intro t0 h0
 refine⟨λe=>?_,λe=>?_⟩
 ·subst e;exact jx λq=>by have:=h0.mpr ⟨(dM.mp q).1,(dM.mp q).2.1⟩;simp at this
 obtain⟨n1,n2⟩:=h0.mp e;have hR:(aD o.sp).length=o.sp.length:=fm;refine⟨by omega,⟨0,rfl,by omega,λi s l hi=>by omega⟩,?_⟩;rintro _ ⟨k,rfl,hk,hI⟩;simp only[Int.toNat_natCast]
 refine⟨λh1=>⟨by omega,by omega,λx hx=>⟨⟨λa1=>?_,λa1=>⟨λa2=>⟨?_,?_,λy hy=>?_⟩,λa2=>?_⟩⟩,?_⟩⟩,λh1=>⟨⟨0,rfl,by omega,by simp⟩,?_⟩⟩
 ·have a1:¬cI x=0:=by simpa using a1
  rw[mN]at a1;simp[a1]
 ·rw[cf (by omega)];omega
 ·rw[cf (by omega)];omega
 ·have a1:cI x=0:=by simpa using a1
  have e3:(W ((k:Int)-1)).toNat=k-1:=by rw[cf (by omega)];omega
  rw[e3]at hy;rw[mN]at a1;rw[hy];simp only[aK',forall_eq'];exact⟨λq=>⟨a1,λ_=>by omega⟩,λq=>by have:=q.2 (by omega);omega⟩
 ·have a1:cI x=0:=by simpa using a1
  rw[mN]at a1;simp only[true_iff];exact⟨a1,λq=>by omega⟩
 ·intro t2 h2
  refine⟨λe=>?_,λe=>⟨by omega,λa1=>?_,λa1=>⟨by omega,by omega,λy hy=>⟨⟨λb1=>?_,λb1=>?_⟩,?_⟩⟩⟩⟩
  ·subst e;exact jx λq=>by
    obtain⟨l,hl⟩:∃l,o.ls[k]?=some l:=⟨_,E' (by omega)⟩
    have d:=(dM.mp q).2.2.1 k x l hx hl;have:=h2.mpr ⟨d.fs,d.fasc⟩;simp at this
  ·have a1:¬x.peers.map Per.router=cT (aD o.sp) x.router:=by simpa using a1
   exact jx λq=>by
    obtain⟨l,hl⟩:∃l,o.ls[k]?=some l:=⟨_,E' (by omega)⟩
    exact a1 ((dM.mp q).2.2.1 k x l hx hl).fp
  ·have b1:¬gB y=0:=by simpa using b1
   rw[tg]at b1;simp[b1]
  ·have b1:gB y=0:=by simpa using b1
   rw[tg]at b1;simp[b1]
  ·have a1:x.peers.map Per.router=cT (aD o.sp) x.router:=by simpa using a1
   intro t3 h3
   refine⟨λe3=>?_,λe3=>⟨⟨0,rfl,by omega,by simp⟩,?_⟩⟩
   ·subst e3;exact jx λq=>by
     have d:=(dM.mp q).2.2.1 k x y hx hy;have:=h3.mpr ⟨d.fl,d.fr⟩;simp at this
   obtain⟨d1,d2⟩:=h2.mp e;obtain⟨d3,d4⟩:=h3.mp e3;have hh:=d3.2.2.1;rintro _ ⟨j,rfl,hj,hJ⟩;simp only[Int.toNat_natCast]
   refine⟨λc1=>⟨by omega,by omega,λz hz=>⟨λc2=>?_,λc2=>?_⟩⟩,λc1=>?_⟩
   ·have c2:¬z.router∈aD o.sp:=by simpa using c2
    exact jx λq=>c2 (((dM.mp q).2.2.1 k x y hx hy).fh z (aq hz))
   ·rw[ao (n:=y.heard.length) (by omega) (by omega)];exact⟨⟨j+1,rfl,by omega,jj hz hJ (by simpa using c2)⟩,by omega⟩
   ·rw[ao (n:=o.sp.length) (by omega) (by omega)];have hj:j=y.heard.length:=by omega
    rw[hj,aj']at hJ;refine⟨⟨k+1,rfl,by omega,λi s l hi hs hl=>?_⟩,by omega⟩
    by_cases ei:i=k
    ·subst ei;rw[hx]at hs;rw[hy]at hl;cases hs;cases hl;exact⟨d1,d2,a1,d3,d4,hJ⟩
    ·exact hI i s l (by omega) hs hl
 ·have hk:k=o.sp.length:=by omega
  rintro _ ⟨j,rfl,hj,hJ⟩;simp only[Int.toNat_natCast]
  refine⟨λc1=>⟨by omega,by omega,λx hx=>⟨⟨λa1=>?_,λa1=>⟨λa2=>?_,λa2=>?_⟩⟩,?_⟩⟩,λc1=>?_⟩
  ·have a1:¬aG x=0:=by simpa using a1
   simp[cV,a1]
  ·have a2:¬x.src∈aD o.sp:=by simpa using a2
   simp[cV,a2]
  ·have a1:aG x=0:=by simpa using a1
   have a2:x.src∈aD o.sp:=by simpa using a2
   simp[cV,a1,a2]
  ·intro t6 h6
   refine⟨λe=>?_,λe=>?_⟩
   ·subst e;exact jx λq=>by have:=h6.mpr ((dM.mp q).2.2.2 x (aq hx));simp at this
   ·rw[ao (n:=o.fl.length) (by omega) (by omega)];exact⟨⟨j+1,rfl,by omega,jj hx hJ (h6.mp e)⟩,by omega⟩
  ·have hj:j=o.fl.length:=by omega
   rw[hj,aj']at hJ;refine(decide_eq_true (dM.mpr ⟨n1,n2,λi s l hs hl=>hI i s l (by have:=aw hs;omega) hs hl,hJ⟩)).symm
def vw(o:Ovl):PC Tryz.prog:=pcO 146 [(.a [(.s 5),(.s 3),(.s 10)])] [Ovl.v o] .k vu (decide (bE o)) (λok=>let ⟨I0,I1,m1,I2,I3,I4,m4,I5,m5,I6,h⟩:=Gm o ok;⟨_,h,by kernel_rfl⟩) rfl (by kernel_rfl)
def gZ(o:Ovl):Int:=if bE o then 0 else 1
def CA(s:Spk):Prop:=fF s.items∧s.peers.length≤1000000
def CB(l:Lsn):Prop:=l.heard.length≤1000000∧∀h∈l.heard,fF h.items
def tV(l:List Sig):Prop:=l.length≤1000000∧∀x∈l,x.srcs.length≤1000000
theorem Dg{n:Int}{l:List Itm}(h:aK n l):fF l:=
 ⟨by have:=B0 h;omega,λx hx=>by have:=fY (h.1 x hx).2.2;omega⟩
theorem Ru{s:Spk}(h:aW s):CA s:=⟨Dg h.2.2.2.1,by have:=h.2.2.2.2.1;omega⟩
theorem Sm{l:Lsn}(h:bY l):CB l:=⟨by have:=h.2.2.1;omega,λx hx=>Dg (h.2.2.2.1 x hx).2.2.2.2⟩
theorem vD{x:Sig}(h:aG x=0):x.srcs.length≤1000000:=by
 unfold aG at h
 split at h
 ·omega
 split at h
 ·omega
 split at h
 ·have:=fY h;omega
 ·split at h
  ·omega
  ·rename_i q;have:x.srcs=[]:=by
    by_cases e:x.srcs=[]
    ·exact e
    ·exact absurd (.inr e) q
   rw[this];simp
theorem pd{α:Type}{l:List α}{k:Nat}{x:α}(h:l[k]?=some x):l.set k x=l:=by
 obtain⟨hk,e⟩:=I'.mp h;rw[←e];exact List.set_getElem_self hk
def qv(r:List Itm):AV:=.vec 0
def qw(r:List Itm):List (Option Blk):=[some (.vec 4 (r.map Itm.v))]
def qu(s:List Itm):Ax Tryz.prog noS ((List Itm)):=
 (.allB (λb1=>((s.map Itm.v)≠[]→b1=false)) λb1 =>
(.br 48 (b1 != false) (.cmdL (.nilT 2 4) (.retH [] ⟨[rV 2 0],[.vec 4 [] rfl]⟩ [64]))
(.apX 80 Itm.v [] s (0+s.length)
(.retH s ⟨[rV 2 0],[vB 4 Itm.v s (λ_=>rfl)]⟩ [80]))))
theorem KS(s:List Itm)(h:s.length≤1000000):(qu s).vc qv qw s:=by
 dsimp only[qu,noS,Ax.vp,Ax.vc];simp only[vcU,rfU,f'];intro b hb;refine⟨λh1=>?_,λ_=>by first|omega|exact⟨by omega,trivial⟩|simpa using h⟩;cases s with
 | nil=>rfl
 | cons x s=>simp at hb;simp[hb]at h1
def KT(s:List Itm)(h:s.length≤1000000):HC Tryz.prog:=hcO 388 [(.s 4)] [.sl 4 (s.map Itm.v) false] [] .k qv qw s (λ_ _=>⟨(qu s),KS s h,by kernel_rfl⟩) (by kernel_rfl) (by simp[hcB,bJ,AV.belB,allB,cF,bW,qv,qw,ae (v:=Itm.v) (λ_=>rfl)])
def qB(r:List Hrd):AV:=.vec 0
def qC(r:List Hrd):List (Option Blk):=[some (.vec 4 (r.map Hrd.v))]
def qA(s:List Hrd):Ax Tryz.prog noS ((List Hrd)):=
 (.allB (λb1=>((s.map Hrd.v)≠[]→b1=false)) λb1 =>
(.br 48 (b1 != false) (.cmdL (.nilT 2 4) (.retH [] ⟨[rV 2 0],[.vec 4 [] rfl]⟩ [64]))
(.apX 80 Hrd.v [] s (0+s.length)
(.retH s ⟨[rV 2 0],[vB 4 Hrd.v s (λ_=>rfl)]⟩ [80]))))
theorem KW(s:List Hrd)(h:s.length≤1000000):(qA s).vc qB qC s:=by
 dsimp only[qA,noS,Ax.vp,Ax.vc];simp only[vcU,rfU,f'];intro b hb;refine⟨λh1=>?_,λ_=>by first|omega|exact⟨by omega,trivial⟩|simpa using h⟩;cases s with
 | nil=>rfl
 | cons x s=>simp at hb;simp[hb]at h1
def KY(s:List Hrd)(h:s.length≤1000000):HC Tryz.prog:=hcO 337 [(.s 4)] [.sl 4 (s.map Hrd.v) false] [] .k qB qC s (λ_ _=>⟨(qA s),KW s h,by kernel_rfl⟩) (by kernel_rfl) (by simp[hcB,bJ,AV.belB,allB,cF,bW,qB,qC,ae (v:=Hrd.v) (λ_=>rfl)])
def qE(r:List Sig):AV:=.vec 0
def qF(r:List Sig):List (Option Blk):=[some (.vec 10 (r.map Sig.v))]
def qD(s:List Sig):Ax Tryz.prog noS ((List Sig)):=
 (.allB (λb1=>((s.map Sig.v)≠[]→b1=false)) λb1 =>
(.br 48 (b1 != false) (.cmdL (.nilT 2 10) (.retH [] ⟨[rV 2 0],[.vec 10 [] rfl]⟩ [64]))
(.apX 80 Sig.v [] s (0+s.length)
(.retH s ⟨[rV 2 0],[vB 10 Sig.v s (λ_=>rfl)]⟩ [80]))))
theorem KZ(s:List Sig)(h:s.length≤1000000):(qD s).vc qE qF s:=by
 dsimp only[qD,noS,Ax.vp,Ax.vc];simp only[vcU,rfU,f'];intro b hb;refine⟨λh1=>?_,λ_=>by first|omega|exact⟨by omega,trivial⟩|simpa using h⟩;cases s with
 | nil=>rfl
 | cons x s=>simp at hb;simp[hb]at h1
def La(s:List Sig)(h:s.length≤1000000):HC Tryz.prog:=hcO 335 [(.s 10)] [.sl 10 (s.map Sig.v) false] [] .k qE qF s (λ_ _=>⟨(qD s),KZ s h,by kernel_rfl⟩) (by kernel_rfl) (by simp[hcB,bJ,AV.belB,allB,cF,bW,qE,qF,ae (v:=Sig.v) (λ_=>rfl)])
def ER(l:List Itm)(t0:Int×List Itm):NF:=⟨[rV 0 0,rI 7 ((l.map Itm.v).length:Int),rI 8 t0.1],[vB 4 Itm.v t0.2 (λ_=>rfl)]⟩
@[reducible] def wJ:Nat→Type
 | 0=>Int×List Itm
 | _=>Unit
def wK(r:List Itm):AV:=.sl 4 (r.map Itm.v) false
def wI(l:List Itm)(I0:(Int×List Itm)→Prop)(m0:(Int×List Itm)→Nat):Ax Tryz.prog wJ ((List Itm)):=
 (.req 32 (l.length≤1000000) λh1 =>
(.callH [] (KT l h1) 32
(.loop 0 (ER l) I0 m0 (0,l) [32] λ(t0:Int×List Itm) b0 =>
(.br 17 (decide (t0.1<((l.map Itm.v).length:Int))) (.elJ 161 Itm.v t0.2 t0.1 λx2 =>
(.req 177 (x2.srcs.length≤1000000) λh3 =>
(.callP (mD x2.srcs h3)
(.stJ 241 Itm.v t0.2 t0.1 (λy4=>(⟨y4.ver,y4.grp,y4.mode,x2.srcs⟩:Itm)) λy4 =>
(.bk 0 b0 (W (t0.1+1),t0.2.set t0.1.toNat (⟨y4.ver,y4.grp,y4.mode,x2.srcs⟩:Itm)) [0])))))
(.fz 0 Itm.v t0.2 (λ_=>rfl) (.ret (t0.2)))))))
theorem Jv(l:List Itm)(h:fF l):∃I m,(wI l I m).vp wK l:=by
 obtain⟨h1,h2⟩:=h;refine⟨λt=>∃k:Nat,t=((k:Int),l)∧k≤l.length,λt=>l.length-t.1.toNat,?_⟩;dsimp only[wI,wJ,Ax.vp,Ax.vc];simp only[vcU,rfU,f'];refine⟨by omega,⟨0,rfl,by omega⟩,?_⟩;rintro _ ⟨k,rfl,hk⟩;simp only[Int.toNat_natCast];refine⟨λh3=>⟨by simp;omega,by omega,λx hx=>⟨h2 x (aq hx),by simp;omega,by omega,λy hy=>?_⟩⟩,λ_=>trivial⟩;cases hx.symm.trans hy;rw[ao (n:=l.length) (by omega) (by omega)];refine⟨⟨k+1,?_,by omega⟩,by omega⟩;exact congrArg _ (pd hx)
def wL(l:List Itm)(h:fF l):PC Tryz.prog:=pcO 336 [(.s 4)] [.sl 4 (l.map Itm.v) false] (.s 4) wK l (λ_=>let ⟨I0,m0,h⟩:=Jv l h;⟨_,h,by kernel_rfl⟩) rfl (by kernel_rfl)
def Jb(l:Lsn)(t0:Int×List Hrd):NF:=⟨[rR 1 0,rR 2 2,rI 10 ((l.heard.map Hrd.v).length:Int),rI 11 t0.1],[.box (.agg [.int l.router,.int l.epoch,.vec 1]),vB 4 Hrd.v t0.2 (λ_=>rfl),.box (.agg [.int 0,.int 0,.sl 0 [] true])]⟩
@[reducible] def CV:Nat→Type
 | 0=>Int×List Hrd
 | _=>Unit
def CW(r:Lsn):AV:=Lsn.v r
def CU(l:Lsn)(I0:(Int×List Hrd)→Prop)(m0:(Int×List Hrd)→Nat):Ax Tryz.prog CV (Lsn):=
 (.req 64 (l.heard.length≤1000000) λh1 =>
(.callH [] (KY l.heard h1) 64
(.loop 0 (Jb l) I0 m0 (0,l.heard) [0,64,16] λ(t0:Int×List Hrd) b0 =>
(.br 19 (decide (t0.1<((l.heard.map Hrd.v).length:Int))) (.elJ 179 Hrd.v t0.2 t0.1 λx2 =>
(.req 195 (fF x2.items) λh3 =>
(.callP (wL x2.items h3)
(.stJ 243 Hrd.v t0.2 t0.1 (λy4=>(⟨y4.router,y4.epoch,y4.ver,x2.items⟩:Hrd)) λy4 =>
(.bk 0 b0 (W (t0.1+1),t0.2.set t0.1.toNat (⟨y4.router,y4.epoch,y4.ver,x2.items⟩:Hrd)) [0,1,2])))))
(.fz 1 Hrd.v t0.2 (λ_=>rfl) (.ret ((⟨l.router,l.epoch,t0.2⟩:Lsn))))))))
theorem O6(l:Lsn)(h:CB l):∃I m,(CU l I m).vp CW l:=by
 obtain⟨h1,h2⟩:=h;refine⟨λt=>∃k:Nat,t=((k:Int),l.heard)∧k≤l.heard.length,λt=>l.heard.length-t.1.toNat,?_⟩;dsimp only[CU,CV,Ax.vp,Ax.vc];simp only[vcU,rfU,f'];refine⟨by omega,⟨0,rfl,by omega⟩,?_⟩;rintro _ ⟨k,rfl,hk⟩;simp only[Int.toNat_natCast];refine⟨λh3=>⟨by simp;omega,by omega,λx hx=>⟨h2 x (aq hx),by simp;omega,by omega,λy hy=>?_⟩⟩,λ_=>trivial⟩;cases hx.symm.trans hy;rw[ao (n:=l.heard.length) (by omega) (by omega)];refine⟨⟨k+1,?_,by omega⟩,by omega⟩;exact congrArg _ (pd hx)
def O7(l:Lsn)(h:CB l):PC Tryz.prog:=pcO 265 [(.a [.k,.k,(.s 4)])] [Lsn.v l] (.a [.k,.k,(.s 4)]) CW l (λ_=>let ⟨I0,m0,h⟩:=O6 l h;⟨_,h,by kernel_rfl⟩) rfl (by kernel_rfl)
def Hl(l:List Sig)(t0:Int×List Sig):NF:=⟨[rV 0 0,rI 7 ((l.map Sig.v).length:Int),rI 8 t0.1],[vB 10 Sig.v t0.2 (λ_=>rfl)]⟩
@[reducible] def BV:Nat→Type
 | 0=>Int×List Sig
 | _=>Unit
def tA(r:List Sig):AV:=.vec 0
def tB(r:List Sig):List (Option Blk):=[some (.vec 10 (r.map Sig.v))]
def BU(l:List Sig)(I0:(Int×List Sig)→Prop)(m0:(Int×List Sig)→Nat):Ax Tryz.prog BV ((List Sig)):=
 (.req 32 (l.length≤1000000) λh1 =>
(.callH [] (La l h1) 32
(.loop 0 (Hl l) I0 m0 (0,l) [32] λ(t0:Int×List Sig) b0 =>
(.br 17 (decide (t0.1<((l.map Sig.v).length:Int))) (.elJ 161 Sig.v t0.2 t0.1 λx2 =>
(.req 177 (x2.srcs.length≤1000000) λh3 =>
(.callP (mD x2.srcs h3)
(.stJ 241 Sig.v t0.2 t0.1 (λy4=>(⟨y4.kind,y4.src,y4.dst,y4.epoch,y4.ver,y4.prev,y4.pep,y4.grp,y4.mode,x2.srcs⟩:Sig)) λy4 =>
(.bk 0 b0 (W (t0.1+1),t0.2.set t0.1.toNat (⟨y4.kind,y4.src,y4.dst,y4.epoch,y4.ver,y4.prev,y4.pep,y4.grp,y4.mode,x2.srcs⟩:Sig)) [0])))))
(.retH t0.2 ⟨[rV 2 0],[vB 10 Sig.v t0.2 (λ_=>rfl)]⟩ [0])))))
theorem MS(l:List Sig)(h:tV l):∃I m,(BU l I m).vc tA tB l:=by
 obtain⟨h1,h2⟩:=h;refine⟨λt=>∃k:Nat,t=((k:Int),l)∧k≤l.length,λt=>l.length-t.1.toNat,?_⟩;dsimp only[BU,BV,Ax.vp,Ax.vc];simp only[vcU,rfU,f'];refine⟨by omega,⟨0,rfl,by omega⟩,?_⟩;rintro _ ⟨k,rfl,hk⟩;simp only[Int.toNat_natCast];refine⟨λh3=>⟨by simp;omega,by omega,λx hx=>⟨h2 x (aq hx),by simp;omega,by omega,λy hy=>?_⟩⟩,λ_=>trivial⟩;cases hx.symm.trans hy;rw[ao (n:=l.length) (by omega) (by omega)];refine⟨⟨k+1,?_,by omega⟩,by omega⟩;exact congrArg _ (pd hx)
def MT(l:List Sig)(h:tV l):HC Tryz.prog:=hcO 263 [(.s 10)] [.sl 10 (l.map Sig.v) false] [] .k tA tB l (λ_ _=>let ⟨I0,m0,h⟩:=MS l h;⟨_,h,by kernel_rfl⟩) (by kernel_rfl) (by simp[hcB,bJ,AV.belB,allB,cF,bW,tA,tB,ae (v:=Sig.v) (λ_=>rfl)])
def BR(r:Spk):AV:=Spk.v r
def tw(s:Spk):Ax Tryz.prog noS (Spk):=
 (.req 64 (fF s.items) λh1 =>
(.callP (wL s.items h1)
(.req 112 (s.peers.length≤1000000) λh2 =>
(.callH [] (xU s.peers h2) 112
(.fz 112 Per.v s.peers (λ_=>rfl) (.ret (s)))))))
theorem MM(s:Spk)(h:CA s):(tw s).vp BR s:=by
 dsimp only[tw,noS,Ax.vp,Ax.vc];simp only[vcU,rfU,f'];exact⟨h.1,h.2,trivial⟩
def MO(s:Spk)(h:CA s):PC Tryz.prog:=pcO 264 [(.a [.k,.k,.k,(.s 4),(.s 3)])] [Spk.v s] (.a [.k,.k,.k,(.s 4),(.s 3)]) BR s (λ_=>⟨(tw s),MM s h,by kernel_rfl⟩) rfl (by kernel_rfl)
theorem Ie{o:Ovl}(h:bE o)(hl:o.fl.length≤1000000):tV o.fl:=⟨hl,λx hx=>vD (h.2 x hx).1⟩
def Pi(o:Ovl)(t0:Int×List Lsn×List Spk):NF:=⟨[rR 1 0,rR 2 1,rR 3 2,rI 11 ((o.sp.map Spk.v).length:Int),rI 12 t0.1],[.box (Ovl.v o),.box (.agg [.sl 0 [] true,.sl 0 [] true,.sl 0 [] true]),.box (.agg [.vec 3,.vec 4,.vec 5]),vB 5 Spk.v t0.2.2 (λ_=>rfl),vB 3 Lsn.v t0.2.1 (λ_=>rfl),vB 10 Sig.v o.fl (λ_=>rfl)]⟩
@[reducible] def KB:Nat→Type
 | 0=>Int×List Lsn×List Spk
 | _=>Unit
def A7(r:Ovl):AV:=.agg [.vec 0,.vec 1,.vec 2]
def A8(r:Ovl):List (Option Blk):=[some (.vec 5 (r.sp.map Spk.v)),some (.vec 3 (r.ls.map Lsn.v)),some (.vec 10 (r.fl.map Sig.v))]
def KA(o:Ovl)(I0:(Int×List Lsn×List Spk)→Prop)(m0:(Int×List Lsn×List Spk)→Nat):Ax Tryz.prog KB (Ovl):=
 (.req 64 (tV o.fl) λh1 =>
(.callH [] (MT o.fl h1) 64
(.cmdL (.nilB 96 0 5) (.cmdL (.nilB 96 1 3) (.loop 0 (Pi o) I0 m0 (0,[],[]) [0,16,96,192,193,64] λ(t0:Int×List Lsn×List Spk) b0 =>
(.br 22 (decide (t0.1<((o.sp.map Spk.v).length:Int))) (.elI 134 Spk.v o.sp t0.1 λx2 =>
(.req 166 (CA x2) λh3 =>
(.callP (MO x2 h3)
(.apX 198 Spk.v t0.2.2 [x2] (t0.2.2.length+1)
(.elI 294 Lsn.v o.ls t0.1 λx4 =>
(.req 326 (CB x4) λh5 =>
(.callP (O7 x4 h5)
(.apX 358 Lsn.v t0.2.1 [x4] (t0.2.1.length+1)
(.bk 0 b0 (W (t0.1+1),t0.2.1++[x4],t0.2.2++[x2]) [0,1,2,198,358,5])))))))))
(.retH (⟨t0.2.2,t0.2.1,o.fl⟩:Ovl) ⟨[rR 2 3],[vB 5 Spk.v t0.2.2 (λ_=>rfl),vB 3 Lsn.v t0.2.1 (λ_=>rfl),vB 10 Sig.v o.fl (λ_=>rfl),.box (.agg [.vec 0,.vec 1,.vec 2])]⟩ [3,4,5,1])))))))
theorem SQ(o:Ovl)(h:bE o∧o.fl.length≤1000000):∃I m,(KA o I m).vc A7 A8 o:=by
 obtain⟨h1,h2⟩:=h;obtain⟨n1,n2,n3,n4⟩:=dM.mp h1;refine⟨λt=>∃k:Nat,t=((k:Int),o.ls.take k,o.sp.take k)∧k≤o.sp.length,λt=>o.sp.length-t.1.toNat,?_⟩;dsimp only[KA,KB,Ax.vp,Ax.vc];simp only[vcU,rfU,f'];refine⟨Ie h1 h2,⟨0,rfl,by omega⟩,?_⟩;rintro _ ⟨k,rfl,hk⟩;simp only[Int.toNat_natCast]
 refine⟨λh3=>⟨by omega,by omega,λx hx=>⟨Ru (h1.1.spo x (aq hx)).1,by simp;omega,by omega,by omega,λy hy=>⟨Sm (h1.1.lso y (aq hy)).1,by simp;omega,?_⟩⟩⟩,λh3=>?_⟩
 ·rw[ao (n:=o.sp.length) (by omega) (by omega)];exact⟨⟨k+1,by rw[al hx,al hy],by omega⟩,by omega⟩
 ·rw[G' (by omega),G' (by omega)]
def KC(o:Ovl)(h:bE o∧o.fl.length≤1000000):HC Tryz.prog:=hcO 145 [(.a [(.s 5),(.s 3),(.s 10)])] [Ovl.v o] [] .k A7 A8 o (λ_ _=>let ⟨I0,m0,h⟩:=SQ o h;⟨_,h,by kernel_rfl⟩) (by kernel_rfl) (by simp[hcB,bJ,AV.belB,allB,cF,bW,A7,A8,Ovl.v,Ex,EL,E1,ae (v:=Lsn.v) (λ_=>rfl),ae (v:=Sig.v) (λ_=>rfl),ae (v:=Spk.v) (λ_=>rfl)])
def nJ(x:Wnt)(l:List Wnt):List Wnt:=l++[⟨x.grp,1,[]⟩]
def qH(y:Wnt)(l:List Wnt):List Wnt:=l++[y]
def qG(x y:Wnt)(l:List Wnt):List Wnt:=if x.mode=y.mode∧x.srcs=y.srcs then l else l++[y]
def cZ:List Wnt→List Wnt→List Wnt→List Wnt
 | [],[],l=>l
 | x::a,[],l=>cZ a [] (nJ x l)
 | [],y::b,l=>cZ [] b (qH y l)
 | x::a,y::b,l=>if x.grp<y.grp then cZ a (y::b) (nJ x l)else if y.grp<x.grp then cZ (x::a) b (qH y l)else cZ a b (qG x y l)
termination_by a b=>a.length+b.length
def FR(l:List Wnt):Prop:=l.Pairwise λx y=>x.grp<y.grp
theorem dH(x:Wnt)(l:List Wnt)(g:Int):aQ (x::l) g=if x.grp=g then⟨x.mode,x.srcs⟩else aQ l g:=by
 unfold aQ;rw[List.find?_cons]
 by_cases h:x.grp=g
 ·rw[if_pos h];simp[h]
 ·rw[u' h];simp[h]
theorem eo{l:List Wnt}{g:Int}(h:∀w∈l,g<w.grp):aQ l g=⟨1,[]⟩:=gq λw hw=>by have:=h w hw;omega
structure Mrg (a b l r:List Wnt):Prop where
  mem:∀w,w∈r↔w∈l∨(aQ b w.grp=⟨w.mode,w.srcs⟩∧aQ b w.grp≠aQ a w.grp)
  asc:(∀w∈l,(∀x∈a,w.grp<x.grp)∧∀y∈b,w.grp<y.grp)→FR l→FR r
theorem jG{l:List Wnt}{x:Wnt}(h:FR l)(hx:∀w∈l,w.grp<x.grp):FR (l++[x]):=
 ag'.mpr ⟨h,aH' _ _,λa ha b hb=>by rw[O']at hb;subst hb;exact hx a ha⟩
theorem Wnt.ext'{x y:Wnt}(h1:x.grp=y.grp)(h2:(⟨x.mode,x.srcs⟩:Flt)=⟨y.mode,y.srcs⟩):x=y:=by
 rw[eO]at h2;obtain⟨h3,h4⟩:=h2;cases x;cases y;simp only at h1 h3 h4;rw[h1,h3,h4]
theorem CE{x:Wnt}(h:¬cS x):(⟨1,[]⟩:Flt)≠⟨x.mode,x.srcs⟩:=λe=>by
 rw[eO]at e;exact h ⟨e.1.symm,e.2.symm⟩
theorem ni:∀{a b l:List Wnt},FR a→FR b→(∀w∈a,¬cS w)→(∀w∈b,¬cS w)→Mrg a b l (cZ a b l)
 | [],[],l,_,_,_,_=>by
  rw[cZ];exact⟨λw=>⟨.inl,λh=>h.elim id λh=>absurd rfl h.2⟩,λ_ h=>h⟩
 | x::a,[],l,ha,hb,na,nb=>by
  rw[cZ];obtain⟨a1,a2⟩:=an'.mp ha;have r:=ni (a:=a) (b:=[]) (l:=nJ x l) a2 hb (λw hw=>na w (by simp[hw])) nb
  refine⟨λw=>?_,λh1 h2=>r.asc (λw hw=>?_) (jG h2 λw hw=>(h1 w hw).1 x (by simp))⟩
  ·rw[r.mem,dH,nJ,L',O',show aQ [] w.grp=⟨1,[]⟩from rfl]
   by_cases e:x.grp=w.grp
   ·rw[if_pos e,eo λz hz=>by have:=a1 z hz;omega]
    constructor
    ·rintro((h|h)|h)
     ·exact .inl h
     ·right;subst h;exact⟨rfl,CE (na x (by simp))⟩
     ·exact absurd rfl h.2
    ·rintro(h|⟨h,_⟩)
     ·exact .inl (.inl h)
     ·exact .inl (.inr (Wnt.ext' e.symm h.symm))
   ·rw[u' e]
    constructor
    ·rintro((h|h)|h)
     ·exact .inl h
     ·subst h;exact absurd rfl e
     ·exact .inr h
    ·rintro(h|h)
     ·exact .inl (.inl h)
     ·exact .inr h
  ·rcases L'.mp hw with hw|hw
   ·exact⟨λz hz=>(h1 w hw).1 z (by simp[hz]),(h1 w hw).2⟩
   ·rw[O']at hw;subst hw;exact⟨a1,by simp⟩
 | [],y::b,l,ha,hb,na,nb=>by
  rw[cZ];obtain⟨b1,b2⟩:=an'.mp hb;have r:=ni (a:=[]) (b:=b) (l:=qH y l) ha b2 na λw hw=>nb w (by simp[hw])
  refine⟨λw=>?_,λh1 h2=>r.asc (λw hw=>?_) (jG h2 λw hw=>(h1 w hw).2 y (by simp))⟩
  ·rw[r.mem,dH,qH,L',O',show aQ [] w.grp=⟨1,[]⟩from rfl]
   by_cases e:y.grp=w.grp
   ·rw[if_pos e,eo λz hz=>by have:=b1 z hz;omega]
    constructor
    ·rintro((h|h)|h)
     ·exact .inl h
     ·right;subst h;exact⟨rfl,(CE (nb w (by simp))).symm⟩
     ·exact absurd rfl h.2
    ·rintro(h|⟨h,_⟩)
     ·exact .inl (.inl h)
     ·exact .inl (.inr (Wnt.ext' e.symm h.symm))
   ·rw[u' e]
    constructor
    ·rintro((h|h)|h)
     ·exact .inl h
     ·subst h;exact absurd rfl e
     ·exact .inr h
    ·rintro(h|h)
     ·exact .inl (.inl h)
     ·exact .inr h
  ·rcases L'.mp hw with hw|hw
   ·exact⟨(h1 w hw).1,λz hz=>(h1 w hw).2 z (by simp[hz])⟩
   ·rw[O']at hw;subst hw;exact⟨by simp,b1⟩
 | x::a,y::b,l,ha,hb,na,nb=>by
  rw[cZ];obtain⟨a1,a2⟩:=an'.mp ha;obtain⟨b1,b2⟩:=an'.mp hb
  by_cases c1:x.grp<y.grp
  ·rw[if_pos c1];have r:=ni (a:=a) (b:=y::b) (l:=nJ x l) a2 hb (λw hw=>na w (by simp[hw])) nb
   refine⟨λw=>?_,λh1 h2=>r.asc (λw hw=>?_) (jG h2 λw hw=>(h1 w hw).1 x (by simp))⟩
   ·rw[r.mem,dH x,nJ,L',O']
    by_cases e:x.grp=w.grp
    ·have eb:aQ (y::b) w.grp=⟨1,[]⟩:=eo λz hz=>by
      rcases P'.mp hz with rfl|hz
      ·omega
      ·have:=b1 z hz;omega
     rw[if_pos e,eo (l:=a) λz hz=>by have:=a1 z hz;omega,eb]
     constructor
     ·rintro((h|h)|h)
      ·exact .inl h
      ·right;subst h;exact⟨rfl,CE (na x (by simp))⟩
      ·exact absurd rfl h.2
     ·rintro(h|⟨h,_⟩)
      ·exact .inl (.inl h)
      ·exact .inl (.inr (Wnt.ext' e.symm h.symm))
    ·rw[u' e]
     constructor
     ·rintro((h|h)|h)
      ·exact .inl h
      ·subst h;exact absurd rfl e
      ·exact .inr h
     ·rintro(h|h)
      ·exact .inl (.inl h)
      ·exact .inr h
   ·rcases L'.mp hw with hw|hw
    ·exact⟨λz hz=>(h1 w hw).1 z (by simp[hz]),(h1 w hw).2⟩
    ·rw[O']at hw;subst hw;refine⟨a1,λz hz=>?_⟩
     rcases P'.mp hz with rfl|hz
     ·exact c1
     ·have:=b1 z hz;simp only;omega
  rw[u' c1]
  by_cases c2:y.grp<x.grp
  ·rw[if_pos c2];have r:=ni (a:=x::a) (b:=b) (l:=qH y l) ha b2 na λw hw=>nb w (by simp[hw])
   refine⟨λw=>?_,λh1 h2=>r.asc (λw hw=>?_) (jG h2 λw hw=>(h1 w hw).2 y (by simp))⟩
   ·rw[r.mem,dH y,qH,L',O']
    by_cases e:y.grp=w.grp
    ·have ea:aQ (x::a) w.grp=⟨1,[]⟩:=eo λz hz=>by
      rcases P'.mp hz with rfl|hz
      ·omega
      ·have:=a1 z hz;omega
     rw[if_pos e,eo (l:=b) λz hz=>by have:=b1 z hz;omega,ea]
     constructor
     ·rintro((h|h)|h)
      ·exact .inl h
      ·right;subst h;exact⟨rfl,(CE (nb w (by simp))).symm⟩
      ·exact absurd rfl h.2
     ·rintro(h|⟨h,_⟩)
      ·exact .inl (.inl h)
      ·exact .inl (.inr (Wnt.ext' e.symm h.symm))
    ·rw[u' e]
     constructor
     ·rintro((h|h)|h)
      ·exact .inl h
      ·subst h;exact absurd rfl e
      ·exact .inr h
     ·rintro(h|h)
      ·exact .inl (.inl h)
      ·exact .inr h
   ·rcases L'.mp hw with hw|hw
    ·exact⟨(h1 w hw).1,λz hz=>(h1 w hw).2 z (by simp[hz])⟩
    ·rw[O']at hw;subst hw;refine⟨λz hz=>?_,b1⟩
     rcases P'.mp hz with rfl|hz
     ·exact c2
     ·have:=a1 z hz;omega
  rw[u' c2];have c3:x.grp=y.grp:=by omega
  have r:=ni (a:=a) (b:=b) (l:=qG x y l) a2 b2 (λw hw=>na w (by simp[hw])) λw hw=>nb w (by simp[hw])
  by_cases c4:x.mode=y.mode∧x.srcs=y.srcs
  ·have ec:qG x y l=l:=if_pos c4;have ef:(⟨x.mode,x.srcs⟩:Flt)=⟨y.mode,y.srcs⟩:=by rw[c4.1,c4.2]
   rw[ec]at r ⊢;refine⟨λw=>?_,λh1 h2=>r.asc (λw hw=>⟨λz hz=>(h1 w hw).1 z (by simp[hz]),λz hz=>(h1 w hw).2 z (by simp[hz])⟩) h2⟩;rw[r.mem,dH x,dH y]
   by_cases e:y.grp=w.grp
   ·rw[if_pos e,if_pos (c3.trans e),eo (l:=a) λz hz=>by have:=a1 z hz;omega,eo (l:=b) λz hz=>by have:=b1 z hz;omega]
    constructor
    ·rintro(h|h)
     ·exact .inl h
     ·exact absurd rfl h.2
    ·rintro(h|h)
     ·exact .inl h
     ·exact absurd ef.symm h.2
   ·rw[u' e,u' (by omega)]
  ·have ec:qG x y l=l++[y]:=u' c4;have ef:(⟨y.mode,y.srcs⟩:Flt)≠⟨x.mode,x.srcs⟩:=λe=>c4 (by rw[eO]at e;exact⟨e.1.symm,e.2.symm⟩);rw[ec]at r ⊢
   refine⟨λw=>?_,λh1 h2=>r.asc (λw hw=>?_) (jG h2 λw hw=>(h1 w hw).2 y (by simp))⟩
   ·rw[r.mem,dH x,dH y,L',O']
    by_cases e:y.grp=w.grp
    ·rw[if_pos e,if_pos (c3.trans e),eo (l:=a) λz hz=>by have:=a1 z hz;omega,eo (l:=b) λz hz=>by have:=b1 z hz;omega]
     constructor
     ·rintro((h|h)|h)
      ·exact .inl h
      ·right;subst h;exact⟨rfl,ef⟩
      ·exact absurd rfl h.2
     ·rintro(h|⟨h,_⟩)
      ·exact .inl (.inl h)
      ·exact .inl (.inr (Wnt.ext' e.symm h.symm))
    ·rw[u' e,u' (by omega)]
     constructor
     ·rintro((h|h)|h)
      ·exact .inl h
      ·subst h;exact absurd rfl e
      ·exact .inr h
     ·rintro(h|h)
      ·exact .inl (.inl h)
      ·exact .inr h
   ·rcases L'.mp hw with hw|hw
    ·exact⟨λz hz=>(h1 w hw).1 z (by simp[hz]),λz hz=>(h1 w hw).2 z (by simp[hz])⟩
    ·rw[O']at hw;subst hw;exact⟨λz hz=>by have:=a1 z hz;omega,b1⟩
termination_by a b=>a.length+b.length
theorem IE{a b:List Wnt}(h1:aI false a=0)(h2:aI false b=0):cZ a b []=bZ a b 99:=by
 have w1:=bx.mp h1;have w2:=bx.mp h2;have r:=ni (l:=[]) w1.2.2.2.2 w2.2.2.2.2 (w1.2.2.2.1 rfl) (w2.2.2.2.1 rfl);refine mG (r.asc (by simp) List.Pairwise.nil) (ke w2.2.2.1 99).asc λw=>?_;rw[r.mem,kR];simp only[aq',false_or];refine⟨λh=>⟨?_,h.1,h.2⟩,λh=>⟨h.2.1,h.2.2⟩⟩
 by_cases q:aQ b w.grp=⟨1,[]⟩
 ·have:aQ a w.grp≠⟨1,[]⟩:=λe=>h.2 (by rw[q,e]);obtain⟨x,hx,e,_⟩:=iP this;rw[←e];exact w1.2.1 x hx
 ·obtain⟨x,hx,e,_⟩:=iP q;rw[←e];exact w2.2.1 x hx
end Go.Proofs.YtiobpjoadkfhdaaGreatDoor
